/- Texts put together: MoB, RefR, RefV. -/
import Derived.Test.YtinnifhnabncfaaGreatDoorMN4
import Derived.Test.YtinnifhnabncfaaGreatDoorMN5
import Derived.Test.YtinnifhnabncfaaGreatDoorMN8
import Derived.Test.YtinnifhnabncfaaGreatDoorMN11
import Derived.Test.YtinnifhnabncfaaGreatDoorMN12
set_option linter.unusedVariables false
set_option linter.unusedSimpArgs false
section
namespace Go.Proofs.YtinnifhnabncfaaGreatDoor.Vi
open Go.RowKit Base Mem Go.Shelf
theorem mReadS_short (l : List UInt8) : MShort (mReadS l).1 := by
 have hz : MShort zeroM := ⟨short_zero, Nat.zero_le _, by intro e he; cases he⟩
 rw [← rmReadS_eq]
 cases hf : readF l with
 | none =>
  have : rmReadS l = (zeroM, 12) := by unfold rmReadS; rw [hf]
  rw [this]; exact hz
 | some xn =>
  obtain ⟨x, n⟩ := xn
  have hx := readF_len hf
  have hb := byteS_len x false
  have hs := rmreadS_short (byteS x false).1.toNat (byteS x false).2.1 (byteS x false).2.2 (by omega)
  unfold rmReadS
  rw [hf]
  simp only []
  split
  ·exact hz
  ·split
   ·exact hs
   ·exact hz
set_option maxRecDepth 100000 in
set_option maxHeartbeats 2000000 in
theorem reads6_any (v : Value) (l : List UInt8) (mx : Int) (w : World) (h : Bs w [] v l) (hl : l.length ≤ 4611686018427387000) (hm : w.cell? ⟨0, 0, none⟩ = some (.int .i64 mx)) :
  Calls Tryz.prog 48 #[v] w fun e w' => SamePost true w e w' := by
 have hw0 : 0 < w.heap.size := by
  have := World.block_lt_of_cell? w _ hm
  simpa using this
 have h1 := Lib.hid (mRead_any v l mx w h hl hm)
 have h2 : Hid (∀ W, Keeps [] w W → Calls Tryz.prog 97 #[v] W fun e w' => MReadP (mReadS l) W e w') := fun W hk => by
  have := rmRead_any v l mx W (h.keep hk (by simp)) hl ((hk.cell (p := ⟨0, 0, none⟩) hw0 (by simp)).trans hm)
  rwa [rmReadS_eq] at this
 have hsh := Lib.hid (mReadS_short l)
 clear h hm
 unfold MReadP at h1 h2
 generalize mReadS l = R at *
 obtain ⟨m, code'⟩ := R
 simp only [] at h1 h2 hsh
 have hse := Lib.hid (fun W da la db lb (ha : MsgAt W [] m da la) (hb : MsgAt W [] m db lb) => rmsgsame_any m m da la db lb W ha hb hsh.out.cnt hsh.out.cnt)
 rw [(sameM_iff m m).2 rfl] at hse
 clear hsh
 go_enter Tryz.func48, Tryz.ntmps48
 go_wp2_with fail
 refine h1.out.mono ?_
 rintro r w1 ⟨dv1, lv1, rfl, hM1, hb1⟩
 obtain ⟨Av, cv, rfl, _⟩ := (hM1 [] (by simp)).1.len
 obtain ⟨Bv, kv, rfl, _⟩ := (hM1 [] (by simp)).2.len
 have HM1 := Lib.hid (hM1 [] (by simp)); have Hb1 := Lib.hid (Keeps.of_below (M := []) hb1)
 clear hM1 hb1 h1
 obtain ⟨kd, ⟨kind, ag, sh, seq, ep, ds, ser, fr, etg⟩, tag, code, nn, term, had, log, commit, len⟩ := m
 simp only [mCell, eCell, List.cons_append, List.nil_append] at *
 go_wp2_with (refine wpList_store_blk rfl 68 (.tmp 3) (.tmp 10) rfl w1.heap.size 0 68 _ #[.int .i64 kd, .int .i64 kind, .int .i64 ag, .int .i64 sh, .int .i64 seq, .int .i64 ep, .slice Av ds.length cv, .string ser, .int .i64 fr, .int .i64 etg, .int .i64 tag, .int .i64 code, .int .u64 nn, .int .i64 term, .int .i64 had, .slice Bv log.length kv, .int .i64 commit, .int .i64 len] #[.int .i64 kd, .int .i64 kind, .int .i64 ag, .int .i64 sh, .int .i64 seq, .int .i64 ep, .slice Av ds.length cv, .string ser, .int .i64 fr, .int .i64 etg, .int .i64 tag, .int .i64 code, .int .u64 nn, .int .i64 term, .int .i64 had, .slice Bv log.length kv, .int .i64 commit, .int .i64 len] rfl rfl (Blk.new _ _ _) (by show 0 + 18 ≤ 18; omega) rfl (by kernel_rfl) rfl ?_; intro w2 hk2 hB2; have hkk : Keeps [] w1 w2 := ((Keeps.refl _ _).alloc _).trans hk2 (by intro x hx; simp at hx; right; omega); have HB2 := Lib.hid hB2; have Hk2 := Lib.hid (Hb1.out.trans hkk (by simp)); have HM2 := Lib.hid (HM1.out.keep hkk (by simp)); clear hk2 hB2 hkk HM1 Hb1)
 refine (h2.out _ Hk2.out).mono ?_
 rintro r w3 ⟨dv2, lv2, rfl, hM3, hb3⟩
 obtain ⟨Aw, cw, rfl, _⟩ := (hM3 [] (by simp)).1.len
 obtain ⟨Bw, kw, rfl, _⟩ := (hM3 [] (by simp)).2.len
 have HN3 := Lib.hid (hM3 [] (by simp))
 have HM3 := Lib.hid (HM2.out.keep (Keeps.of_below (M := []) hb3) (by simp))
 have HB3 := Lib.hid (HB2.out.below hb3 HB2.out.lt)
 have Hk3 := Lib.hid (Hk2.out.trans (Keeps.of_below (M := []) hb3) (by simp))
 have hg3 : w1.heap.size < w3.heap.size := HB3.out.lt
 clear hM3 hb3 HM2 HB2 Hk2 h2
 generalize w1.heap.size = g3 at *
 go_wp2_with (first | (refine wpList_store_blk rfl 68 (.tmp 5) (.tmp 15) rfl w3.heap.size 0 68 _ #[.int .i64 kd, .int .i64 kind, .int .i64 ag, .int .i64 sh, .int .i64 seq, .int .i64 ep, .slice Aw ds.length cw, .string ser, .int .i64 fr, .int .i64 etg, .int .i64 tag, .int .i64 code, .int .u64 nn, .int .i64 term, .int .i64 had, .slice Bw log.length kw, .int .i64 commit, .int .i64 len] #[.int .i64 kd, .int .i64 kind, .int .i64 ag, .int .i64 sh, .int .i64 seq, .int .i64 ep, .slice Aw ds.length cw, .string ser, .int .i64 fr, .int .i64 etg, .int .i64 tag, .int .i64 code, .int .u64 nn, .int .i64 term, .int .i64 had, .slice Bw log.length kw, .int .i64 commit, .int .i64 len] rfl rfl (Blk.new _ _ _) (by show 0 + 18 ≤ 18; omega) rfl (by kernel_rfl) rfl ?_; intro w4 hk4 hB4; have hkk : Keeps [] w3 w4 := ((Keeps.refl _ _).alloc _).trans hk4 (by intro x hx; simp at hx; right; omega); have HRb := Lib.hid (blk_range hB4); have HRa := Lib.hid (blk_range (hkk.blk HB3.out (by simp))); have Hk4 := Lib.hid (Hk3.out.trans hkk (by simp)); have HM4 := Lib.hid (HM3.out.keep hkk (by simp)); have HN4 := Lib.hid (HN3.out.keep hkk (by simp)); clear hk4 hB4 hkk HM3 HN3 Hk3 HB3) | (refine wpList_load_g rfl 68 (.tmp 3) rfl g3 0 rfl _ _ HRa.out Tryz.underlying68 rfl (by kernel_rfl) ?_) | (refine wpList_load_g rfl 68 (.tmp 5) rfl w3.heap.size 0 rfl _ _ HRb.out Tryz.underlying68 rfl (by kernel_rfl) ?_))
 refine (hse.out w4 _ _ _ _ HM4.out HN4.out).mono ?_
 rintro r w5 ⟨rfl, hb5⟩
 have Hb5 := Lib.hid (below_then Hk4.out.below hb5)
 clear hb5 hse HM4 HN4 HRa HRb
 go_wp2
 go_ret
 exact ⟨rfl, Hb5.out⟩
end Go.Proofs.YtinnifhnabncfaaGreatDoor.Vi
end
section
namespace Go.Proofs.YtinnifhnabncfaaGreatDoor.Vi
open Go.RowKit Base Mem Go.Shelf
set_option maxRecDepth 100000 in
set_option maxHeartbeats 2000000 in
theorem rlog_any (v : Value) (l : List UInt8) (ev : Value) (es : List EntryD) (w : World) (h : Bs w [] v l) (he : Ens w [] ev es) (hok : ∀ e ∈ es, EOk e) (hl : es.length ≤ 128) (hlb : l.length ≤ 1000000000) :
  Calls Tryz.prog 95 #[v, ev] w fun e w' => OwnB (l ++ putLog es) w e w' := by
 have hp := Lib.hid (rput_any v l es.length w h (by omega) (by omega))
 have hun := Lib.uvarint_length64 (x := es.length) (by omega)
 have Hlim : Hid (∀ x, (l ++ Lib.uvarint es.length ++ (es.take x).flatMap eBlob).length ≤ 6000000000000) := fun x => by
  have h1 := blobs_big (es.take x) (fun e he => hok e (List.mem_of_mem_take he))
  have h2 : (es.take x).length * 40000000010 ≤ 128 * 40000000010 := Nat.mul_le_mul_right _ (by rw [List.length_take]; omega)
  simp only [List.length_append]
  omega
 have HE := Lib.hid he; have Hok := Lib.hid hok
 obtain ⟨A, c, rfl, hc⟩ := he.len
 have hwu : IntKind.u64.wrap (es.length : Int) = (es.length : Int) := by rw [IntKind.wrap_u64]; omega
 have hdi : (es.length : Int) < 18446744073709551616 := by omega
 have HP : Hid (l ++ putLog es = l ++ Lib.uvarint es.length ++ es.flatMap eBlob) := by show _ = _; unfold putLog; rw [List.append_assoc]
 rw [HP.out]
 clear h he hok hun HP
 obtain ⟨L0, hL0⟩ : ∃ L0, L0 = l ++ Lib.uvarint es.length := ⟨_, rfl⟩
 rw [← hL0] at hp Hlim ⊢
 clear hL0
 go_enter Tryz.func95, Tryz.ntmps95
 go_wp2_with fail
 refine hp.out.mono ?_
 rintro e w1 ⟨v1, rfl, hR, hb⟩
 have HR1 := Lib.hid hR; have Hb1 := Lib.hid hb
 clear hR hb hp
 go_wp2_with fail
 go_loopw [0, 14] (fun b i wr => ∃ (x : Nat) (L : List UInt8), i = .int .i64 x ∧ x ≤ es.length ∧ Hid (L = L0 ++ (es.take x).flatMap eBlob) ∧ Hid (wr.ownsRow w.heap.size 5 1 b L.length (L.map bV)) ∧ Hid (Below w.heap.size w wr)) (fun _ i _ => es.length - (intOf i).toNat)
 case atStart => exact ⟨0, L0, rfl, by omega, (show L0 = _ by simp), HR1.out, Hb1.out⟩
 case round =>
  obtain ⟨x, L, rfl, hx, HL, Hown, Hbr⟩ := hrel
  by_cases hlt : x < es.length
  ·have hx1 : (x : Int) < (es.length : Int) := by omega
   have he2 := HE.out.keep (Keeps.of_below (M := []) Hbr.out) (by simp)
   obtain ⟨g, off, _, dv, e1, hg, _, hdv, hcell⟩ := ens_at he2 hlt
   obtain rfl : A = some ⟨g, off, none⟩ := by injection e1
   clear e1 he2
   have HN : Hid (L0 ++ (es.take (x + 1)).flatMap eBlob = L ++ eBlob es[x]) := by
    show _ = _
    rw [List.take_succ_eq_append_getElem hlt, List.flatMap_append, HL.out]; simp
   have hlm := Hlim.out (x + 1)
   rw [HN.out, List.length_append] at hlm
   have Hlm := Lib.hid hlm
   have hoke := Hok.out es[x] (List.getElem_mem _)
   obtain ⟨Av, cv, rfl, _⟩ := hdv.len
   have Hdv := Lib.hid hdv
   have HEB : Hid (eBlob es[x] = Lib.uvarint (bytesE es[x]).length ++ bytesE es[x]) := rfl
   have Hoke := Lib.hid hoke
   clear hlm hoke hdv
   generalize es[x] = en at *
   obtain ⟨kind, ag, sh, seq, ep, ds, ser, fr, tag⟩ := en
   simp only [] at Hdv
   have a0 := hcell 0 _ rfl; have a1 := hcell 1 _ rfl; have a2 := hcell 2 _ rfl; have a3 := hcell 3 _ rfl; have a4 := hcell 4 _ rfl; have a5 := hcell 5 _ rfl; have a6 := hcell 6 _ rfl; have a7 := hcell 7 _ rfl; have a8 := hcell 8 _ rfl
   rw [Nat.add_zero] at a0
   simp only [] at a0 a1 a2 a3 a4 a5 a6 a7 a8
   clear hcell
   have hBx := Blk.new wr 26 #[.int .i64 kind, .int .i64 ag, .int .i64 sh, .int .i64 seq, .int .i64 ep, .slice Av ds.length cv, .string ser, .int .i64 fr, .int .i64 tag]
   have HbA := Lib.hid (Hbr.out.alloc Hbr.out.size (.cells #[.int .i64 kind, .int .i64 ag, .int .i64 sh, .int .i64 seq, .int .i64 ep, .slice Av ds.length cv, .string ser, .int .i64 fr, .int .i64 tag] 26))
   have HownA := Lib.hid (Hown.out.alloc (.cells #[.int .i64 kind, .int .i64 ag, .int .i64 sh, .int .i64 seq, .int .i64 ep, .slice Av ds.length cv, .string ser, .int .i64 fr, .int .i64 tag] 26))
   have HdvA : Hid (Ds (wr.alloc (.cells #[.int .i64 kind, .int .i64 ag, .int .i64 sh, .int .i64 seq, .int .i64 ep, .slice Av ds.length cv, .string ser, .int .i64 fr, .int .i64 tag] 26)) [] (.slice Av ds.length cv) ds) := Hdv.out.keep (M' := []) ((Keeps.refl _ _).alloc _) (by simp)
   have HBx := Lib.hid hBx
   clear hBx Hdv
   go_upto_region 5 with (fail)
   clear a0 a1 a2 a3 a4 a5 a6 a7 a8
   generalize wr.alloc (.cells #[.int .i64 kind, .int .i64 ag, .int .i64 sh, .int .i64 seq, .int .i64 ep, .slice Av ds.length cv, .string ser, .int .i64 fr, .int .i64 tag] 26) = wa at *
   generalize wr.heap.size = g6 at *
   obtain ⟨c0, c1, c2, c3, c4, c5, c6, c7, c8, _⟩ := rblk9G HBx.out
   have HBy := Lib.hid (show Calls Tryz.prog 19 #[.agg #[.int .i64 kind, .int .i64 ag, .int .i64 sh, .int .i64 seq, .int .i64 ep, .slice Av ds.length cv, .string ser, .int .i64 fr, .int .i64 tag]] wa fun r w' => OwnB (bytesE ⟨kind, ag, sh, seq, ep, ds, ser, fr, tag⟩) wa r w' from rbytes_any ⟨kind, ag, sh, seq, ep, ds, ser, fr, tag⟩ (.slice Av ds.length cv) wa Hoke.out.1 HdvA.out Hoke.out.2.1 Hoke.out.2.2)
   clear HdvA HBx Hoke
   generalize bytesE ⟨kind, ag, sh, seq, ep, ds, ser, fr, tag⟩ = be at *
   generalize eBlob ⟨kind, ag, sh, seq, ep, ds, ser, fr, tag⟩ = bl at *
   go_wp2_with fail
   refine HBy.out.mono ?_
   rintro r w7 ⟨v7, rfl, hown7, hb7⟩
   obtain ⟨A7, c7x, rfl, hcv⟩ := conv_own hown7
   have Hb7 := Lib.hid (below_then HbA.out hb7)
   obtain ⟨s, hs⟩ : ∃ s : ByteArray, s = ⟨be.toArray⟩ := ⟨_, rfl⟩
   rw [← hs] at hcv
   have hsz : s.size = be.length := by rw [hs]; rfl
   have hsB : sB s = be := by rw [hs]; rfl
   have hbnd : L.length + s.size ≤ 140737488355000 := by
    have := Hlm.out
    rw [HEB.out, List.length_append] at this
    omega
   have HT0 := rtxt_any u0 L s w7 (own_bs (own_below HownA.out hb7)) hbnd
   rw [hsz, hsB, List.append_assoc, ← HEB.out] at HT0
   have HT := Lib.hid HT0
   clear HT0 hs hsz hsB hbnd hown7 hb7 HBy c0 c1 c2 c3 c4 c5 c6 c7 c8
   go_wp2_with fail
   refine HT.out.mono ?_
   rintro r w8 ⟨v8, rfl, hown8, hb8⟩
   have HF : Hid (w8.ownsRow w.heap.size 5 1 v8 (L ++ bl).length ((L ++ bl).map bV)) := own_more hown8 Hb7.out.size
   have HbF := Lib.hid (below_then Hb7.out hb8)
   have HN2 := Lib.hid HN.out.symm
   clear hown8 hb8 hcv HT
   go_wp2
   go_roundw
   case rel => exact ⟨x + 1, L ++ bl, by go_num, by omega, HN2, HF, HbF⟩
   case measure => simp [intOf] <;> omega
  ·obtain rfl : x = es.length := by omega
   have hC : Hid (OwnB (L0 ++ es.flatMap eBlob) w (.returned u0) wr) := by
    have := HL.out
    rw [List.take_length] at this
    rw [← this]
    exact ⟨_, rfl, Hown.out, Hbr.out⟩
   go_wp2
   go_ret
   exact hC.out
end Go.Proofs.YtinnifhnabncfaaGreatDoor.Vi
end
section
namespace Go.Proofs.YtinnifhnabncfaaGreatDoor.Vi
open Go.RowKit Base Mem Go.Shelf
theorem mbpost_of {R : List UInt8} {v : Value} {w w' : World} {base : Nat} (ho : w'.ownsRow base 5 1 v R.length (R.map bV)) (hbase : w.heap.size ≤ base) (hb : Below w.heap.size w w') : MBPost (R, 0) w (.returned (.tuple #[v, .int .i64 0])) w' := by
 obtain ⟨A, c, rfl, _⟩ := Rd.of_own (M := []) ho (by simp)
 exact ⟨A, c, rfl, fun M hM => Rd.of_own ho (fun g hg => Nat.lt_of_lt_of_le (hM g hg) hbase), hb⟩
set_option maxRecDepth 100000 in
set_option maxHeartbeats 4000000 in
theorem rmbytes_no (m : MsgD) (dv lv : Value) (mx : Int) (w : World) (hr : mrightS m ≠ 0) (ha : MsgAt w [] m dv lv) (hs : MShort m) (hwf : MWf m) (hm : w.cell? ⟨0, 0, none⟩ = some (.int .i64 mx)) :
  Calls Tryz.prog 46 #[.agg (mCell m dv lv).toArray] w fun r w' => MBPost (mbytesS m) w r w' := by
 have HF : Hid (∀ W, Below w.heap.size w W → MBPost (mbytesS m) w (.returned (.tuple #[.slice none 0 0, .int .i64 (mrightS m)])) W) := fun W hb => by
  unfold mbytesS
  rw [if_neg hr]
  exact ⟨none, 0, rfl, fun M hM => Bs.nil _ _, hb⟩
 have HRi := Lib.hid (fun W (hk : Keeps [] w W) => rmright_any m dv lv mx W (ha.keep hk (by simp)) hs ((hk.cell (p := ⟨0, 0, none⟩) (by have := World.block_lt_of_cell? w _ hm; simpa using this) (by simp)).trans hm))
 have Ha1 := Lib.hid ha.1; have Ha2 := Lib.hid ha.2; have Hs := Lib.hid hs; have Hwf := Lib.hid hwf
 obtain ⟨Aa, na, rfl, _⟩ := ha.1.len
 obtain ⟨Ba, ka, rfl, _⟩ := ha.2.len
 clear Ha1 Ha2 Hs Hwf ha hs hwf hm
 generalize mbytesS m = RB at *
 generalize mrightS m = rr at *
 have hrn : ((rr : Int) != 0) = true := by rw [bne_iff_ne]; omega
 obtain ⟨kd, ⟨kind, ag, sh, seq, ep, ds, ser, fr, etg⟩, tag, code, nn, term, had, log, commit, len⟩ := m
 simp only [mCell, eCell, List.cons_append, List.nil_append] at HRi ⊢
 generalize ds.length = dn at *
 generalize log.length = ln at *
 obtain ⟨w2, hw2⟩ : ∃ w2, w2 = w.alloc (.cells #[.int .i64 kd, .int .i64 kind, .int .i64 ag, .int .i64 sh, .int .i64 seq, .int .i64 ep, .slice Aa dn na, .string ser, .int .i64 fr, .int .i64 etg, .int .i64 tag, .int .i64 code, .int .u64 nn, .int .i64 term, .int .i64 had, .slice Ba ln ka, .int .i64 commit, .int .i64 len] 68) := ⟨_, rfl⟩
 have hk2 : Keeps [] w w2 := by rw [hw2]; exact (Keeps.refl _ _).alloc _
 have hBa : Blk w2 w.heap.size 68 #[.int .i64 kd, .int .i64 kind, .int .i64 ag, .int .i64 sh, .int .i64 seq, .int .i64 ep, .slice Aa dn na, .string ser, .int .i64 fr, .int .i64 etg, .int .i64 tag, .int .i64 code, .int .u64 nn, .int .i64 term, .int .i64 had, .slice Ba ln ka, .int .i64 commit, .int .i64 len] := by rw [hw2]; exact Blk.new w _ _
 have Hw2 := Lib.hid hw2; have HBa := Lib.hid hBa; have Hk2 := Lib.hid hk2
 have hgw : w.heap.size < w2.heap.size := hBa.lt
 clear hw2 hBa hk2
 go_enter Tryz.func46, Tryz.ntmps46
 go_upto_region 1 with (fail)
 rw [← Hw2.out]
 clear Hw2
 have HRg := Lib.hid (blk_range HBa.out)
 have HRi2 := Lib.hid (HRi.out w2 Hk2.out)
 clear HRi
 obtain ⟨g, hg⟩ : ∃ g, g = w.heap.size := ⟨_, rfl⟩
 rw [← hg] at HBa HRg hgw ⊢
 have Hg := Lib.hid hg
 clear hg
 go_wp2_with (refine wpList_load_mid rfl 68 (.tmp 1) rfl g 0 rfl _ _ HRg.out Tryz.underlying68 rfl (by kernel_rfl) ?_)
 refine HRi2.out.mono ?_
 rintro r w3 ⟨rfl, hb3⟩
 have HB3 := Lib.hid (HBa.out.below hb3 hgw)
 have Hk3 : Hid (Keeps [] w w3) := Hk2.out.trans (Keeps.of_below (M := []) hb3) (by simp)
 have hg3 : g < w3.heap.size := HB3.out.lt
 clear hb3 HRg HRi2 HBa Hk2 hgw
 obtain ⟨q0, q1, q2, q3, q4, q5, q6, q7, q8, q9, qa, qb, qc, qd, qe, qf, qg, qh, qz⟩ := blk18 HB3.out
 have HF3 := Lib.hid (HF.out w3 Hk3.out.below)
 clear HF hr
 go_wp2
 go_ret2
 exact HF3.out
set_option maxRecDepth 100000 in
set_option maxHeartbeats 4000000 in
theorem rmbytes_1 (m : MsgD) (dv lv : Value) (mx : Int) (w : World) (hk0 : m.kd = 1) (hr : mrightS m = 0) (ha : MsgAt w [] m dv lv) (hs : MShort m) (hwf : MWf m) (hm : w.cell? ⟨0, 0, none⟩ = some (.int .i64 mx)) :
  Calls Tryz.prog 46 #[.agg (mCell m dv lv).toArray] w fun r w' => MBPost (mbytesS m) w r w' := by
 have hok := mright_ok hr
 have HF : Hid (∀ W, Below w.heap.size w W → 65536 < (bodyL m).length → MBPost (mbytesS m) w (.returned (.tuple #[.slice none 0 0, .int .i64 3])) W) := fun W hb hl => by
  unfold mbytesS
  rw [if_pos hr, if_pos hl]
  exact ⟨none, 0, rfl, fun M hM => Bs.nil _ _, hb⟩
 have HG : Hid (∀ W v, Below w.heap.size w W → ¬ 65536 < (bodyL m).length → W.ownsRow w.heap.size 5 1 v (frameL (bodyL m)).length ((frameL (bodyL m)).map bV) → MBPost (mbytesS m) w (.returned (.tuple #[v, .int .i64 0])) W) := fun W v hb hl ho => by
  unfold mbytesS
  rw [if_pos hr, if_neg hl]
  exact mbpost_of ho (Nat.le_refl _) hb
 have HRi := Lib.hid (fun W (hk : Keeps [] w W) => rmright_any m dv lv mx W (ha.keep hk (by simp)) hs ((hk.cell (p := ⟨0, 0, none⟩) (by have := World.block_lt_of_cell? w _ hm; simpa using this) (by simp)).trans hm))
 have Ha1 := Lib.hid ha.1; have Ha2 := Lib.hid ha.2; have Hs := Lib.hid hs; have Hwf := Lib.hid hwf
 obtain ⟨Aa, na, rfl, _⟩ := ha.1.len
 obtain ⟨Ba, ka, rfl, _⟩ := ha.2.len
 rw [hr] at HRi
 generalize mbytesS m = RB at *
 have HBo : Hid (bodyL m = bodyL m) := rfl
 clear ha hs hwf hm hr
 obtain ⟨kd, ⟨kind, ag, sh, seq, ep, ds, ser, fr, etg⟩, tag, code, nn, term, had, log, commit, len⟩ := m
 obtain ⟨k1, k6, _, tag0, term0, had0, com0, len0, code0, code1, com1, len1, logl, ask, logs⟩ := hok
 simp only [] at hk0 k1 k6 tag0 term0 had0 com0 len0 code0 code1 com1 len1 logl ask logs Ha1 Ha2
 subst hk0
 obtain ⟨tagM, termM, hadM, nn0, nn1, wfe, wfl⟩ := Hwf.out
 simp only [] at tagM termM hadM nn0 nn1 wfe wfl
 simp only [mCell, eCell, List.cons_append, List.nil_append] at HRi ⊢
 have HBE : Hid (bodyL ⟨(1 : Int), ⟨kind, ag, sh, seq, ep, ds, ser, fr, etg⟩, tag, code, nn, term, had, log, commit, len⟩ = [UInt8.ofNat 1] ++ eBlob ⟨kind, ag, sh, seq, ep, ds, ser, fr, etg⟩) := by
  show _ = _
  unfold bodyL
  simp only [Int.reduceEq, if_true, if_false, Int.toNat_natCast]
  rfl
 generalize bodyL ⟨(1 : Int), ⟨kind, ag, sh, seq, ep, ds, ser, fr, etg⟩, tag, code, nn, term, had, log, commit, len⟩ = bo at *
 clear HBo
 have hwk : IntKind.u8.wrap 1 = 1 := by decide
 generalize hdn : ds.length = dn at *
 generalize hln : log.length = ln at *
 show Calls Tryz.prog 46 #[.agg #[.int .i64 1, .int .i64 kind, .int .i64 ag, .int .i64 sh, .int .i64 seq, .int .i64 ep, .slice Aa dn na, .string ser, .int .i64 fr, .int .i64 etg, .int .i64 tag, .int .i64 code, .int .u64 nn, .int .i64 term, .int .i64 had, .slice Ba ln ka, .int .i64 commit, .int .i64 len]] w fun r w' => MBPost RB w r w'
 obtain ⟨w2, hw2⟩ : ∃ w2, w2 = w.alloc (.cells #[.int .i64 1, .int .i64 kind, .int .i64 ag, .int .i64 sh, .int .i64 seq, .int .i64 ep, .slice Aa dn na, .string ser, .int .i64 fr, .int .i64 etg, .int .i64 tag, .int .i64 code, .int .u64 nn, .int .i64 term, .int .i64 had, .slice Ba ln ka, .int .i64 commit, .int .i64 len] 68) := ⟨_, rfl⟩
 have hk2 : Keeps [] w w2 := by rw [hw2]; exact (Keeps.refl _ _).alloc _
 have hBa : Blk w2 w.heap.size 68 #[.int .i64 1, .int .i64 kind, .int .i64 ag, .int .i64 sh, .int .i64 seq, .int .i64 ep, .slice Aa dn na, .string ser, .int .i64 fr, .int .i64 etg, .int .i64 tag, .int .i64 code, .int .u64 nn, .int .i64 term, .int .i64 had, .slice Ba ln ka, .int .i64 commit, .int .i64 len] := by rw [hw2]; exact Blk.new w _ _
 have Hw2 := Lib.hid hw2; have HBa := Lib.hid hBa; have Hk2 := Lib.hid hk2
 have hgw : w.heap.size < w2.heap.size := hBa.lt
 clear hw2 hBa hk2
 go_enter Tryz.func46, Tryz.ntmps46
 go_upto_region 1 with (fail)
 rw [← Hw2.out]
 clear Hw2
 have HRg := Lib.hid (blk_range HBa.out)
 have HRi2 := Lib.hid (HRi.out w2 Hk2.out)
 clear HRi
 obtain ⟨g, hg⟩ : ∃ g, g = w.heap.size := ⟨_, rfl⟩
 rw [← hg] at HBa HRg hgw ⊢
 have Hg := Lib.hid hg
 clear hg
 go_wp2_with (refine wpList_load_mid rfl 68 (.tmp 1) rfl g 0 rfl _ _ HRg.out Tryz.underlying68 rfl (by kernel_rfl) ?_)
 refine HRi2.out.mono ?_
 rintro r w3 ⟨rfl, hb3⟩
 have HB3 := Lib.hid (HBa.out.below hb3 hgw)
 have Hk3 : Hid (Keeps [] w w3) := Hk2.out.trans (Keeps.of_below (M := []) hb3) (by simp)
 have hg3 : g < w3.heap.size := HB3.out.lt
 clear hb3 HRg HRi2 HBa Hk2 hgw
 obtain ⟨q0, q1, q2, q3, q4, q5, q6, q7, q8, q9, qa, qb, qc, qd, qe, qf, qg, qh, qz⟩ := blk18 HB3.out
 have Hdn := Lib.hid hdn; have Hln := Lib.hid hln
 clear hdn hln
 go_upto_region 7 with (fail)
 clear q0 q1 q2 q3 q4 q5 q6 q7 q8 q9 qa qb qc qd qe qf qg qh qz
 have HbsA : Hid (Bs (w3.alloc (.cells #[.int .u8 1] 5)) [] (.slice (some ⟨w3.heap.size, 0, none⟩) 1 1) [UInt8.ofNat 1]) := bs_new w3 (UInt8.ofNat 1)
 have HkA : Hid (Keeps [] w (w3.alloc (.cells #[.int .u8 1] 5))) := Hk3.out.alloc _
 have HBA := Lib.hid (HB3.out.below (below_new' w3 (.cells #[.int .u8 1] 5)) hg3)
 generalize w3.alloc (.cells #[.int .u8 1] 5) = wA at *
 have hgA : g < wA.heap.size := HBA.out.lt
 have HlA : Hid (([UInt8.ofNat 1] : List UInt8).length ≤ 1) := Nat.le_refl _
 have HSB : Hid (∀ W, Below wA.heap.size wA W → W.cell? ⟨g, 1, none⟩ = some (.int .i64 kind) ∧ W.cell? ⟨g, 2, none⟩ = some (.int .i64 ag) ∧ W.cell? ⟨g, 3, none⟩ = some (.int .i64 sh) ∧ W.cell? ⟨g, 4, none⟩ = some (.int .i64 seq) ∧ W.cell? ⟨g, 5, none⟩ = some (.int .i64 ep) ∧ W.cell? ⟨g, 6, none⟩ = some (.slice Aa dn na) ∧ W.cell? ⟨g, 7, none⟩ = some (.string ser) ∧ W.cell? ⟨g, 8, none⟩ = some (.int .i64 fr) ∧ W.cell? ⟨g, 9, none⟩ = some (.int .i64 etg)) := fun W hb => ⟨(hb.cell (p := ⟨g, 1, none⟩) hgA).trans (HBA.out.cell 1), (hb.cell (p := ⟨g, 2, none⟩) hgA).trans (HBA.out.cell 2), (hb.cell (p := ⟨g, 3, none⟩) hgA).trans (HBA.out.cell 3), (hb.cell (p := ⟨g, 4, none⟩) hgA).trans (HBA.out.cell 4), (hb.cell (p := ⟨g, 5, none⟩) hgA).trans (HBA.out.cell 5), (hb.cell (p := ⟨g, 6, none⟩) hgA).trans (HBA.out.cell 6), (hb.cell (p := ⟨g, 7, none⟩) hgA).trans (HBA.out.cell 7), (hb.cell (p := ⟨g, 8, none⟩) hgA).trans (HBA.out.cell 8), (hb.cell (p := ⟨g, 9, none⟩) hgA).trans (HBA.out.cell 9)⟩
 have HKW : Hid (∀ W, Below wA.heap.size wA W → Keeps [] w W) := fun W hb => HkA.out.trans (Keeps.of_below (M := []) hb) (by simp)
 obtain ⟨s1, s2, s3, s4, s5, s6, s7, s8, s9⟩ := HSB.out _ (Below.refl _ wA)
 have HEO : Hid (rightE ⟨kind, ag, sh, seq, ep, ds, ser, fr, etg⟩ = 0 ∧ Short ⟨kind, ag, sh, seq, ep, ds, ser, fr, etg⟩ ∧ Wf ⟨kind, ag, sh, seq, ep, ds, ser, fr, etg⟩) := ⟨ask (by first | rfl | trivial), Hs.out.1, wfe⟩
 have hby := rbytes_any ⟨kind, ag, sh, seq, ep, ds, ser, fr, etg⟩ (.slice Aa dn na) wA HEO.out.1 (Ha1.out.keep (M' := []) HkA.out (by simp)) HEO.out.2.1 HEO.out.2.2
 have hbig := bytesE_big HEO.out
 have HEB : Hid (eBlob ⟨kind, ag, sh, seq, ep, ds, ser, fr, etg⟩ = Lib.uvarint (bytesE ⟨kind, ag, sh, seq, ep, ds, ser, fr, etg⟩).length ++ bytesE ⟨kind, ag, sh, seq, ep, ds, ser, fr, etg⟩) := rfl
 simp only [eCell] at hby
 have Hby := Lib.hid hby
 clear hby
 generalize eBlob ⟨kind, ag, sh, seq, ep, ds, ser, fr, etg⟩ = eb at *
 generalize bytesE ⟨kind, ag, sh, seq, ep, ds, ser, fr, etg⟩ = be at *
 go_wp2_with fail
 refine Hby.out.mono ?_
 rintro e w7 ⟨v7, rfl, hown7, hb7⟩
 obtain ⟨A7, c7x, rfl, hcv⟩ := conv_own hown7
 obtain ⟨s, hs⟩ : ∃ s : ByteArray, s = ⟨be.toArray⟩ := ⟨_, rfl⟩
 rw [← hs] at hcv
 have hsz : s.size = be.length := by rw [hs]; rfl
 have hsB : sB s = be := by rw [hs]; rfl
 have HT0 := rtxt_any _ [UInt8.ofNat 1] s w7 (HbsA.out.keep (M' := []) (Keeps.of_below hb7) (by simp)) (by have := HlA.out; omega)
 rw [hsz, hsB, List.append_assoc, ← HEB.out] at HT0
 have HT := Lib.hid HT0
 have Hb7 := Lib.hid hb7
 clear HT0 hs hsz hsB hown7 hb7 Hby s1 s2 s3 s4 s5 s6 s7 s8 s9
 go_wp2_with fail
 refine HT.out.mono ?_
 rintro e wL ⟨vL, rfl, hoL, hbL⟩
 have HbL := Lib.hid (below_then Hb7.out hbL)
 have HoL := Lib.hid (own_bs hoL)
 clear hbL hoL hcv HT
 have HBO : Hid (bo = ([UInt8.ofNat 1] ++ eb)) := by show _ = _; rw [HBE.out]; try simp only [List.append_assoc]
 have HBs := Lib.hid HoL.out
 rw [← HBO.out] at HBs
 obtain ⟨AL, cL, hvL, _⟩ := HBs.out.len
 have HkL := Lib.hid (HKW.out _ HbL.out)
 have hgs : w.heap.size ≤ wA.heap.size := HkA.out.size
 have hgs2 := HbL.out.size
 rw [hvL] at HBs ⊢
 clear HBE HBO
 by_cases hbl : 65536 < bo.length
 ·have hbli : (65536 : Int) < (bo.length : Int) := by omega
  have HF2 := Lib.hid (HF.out _ HkL.out.below hbl)
  go_wp2
  go_ret2
  exact HF2.out
 ·have hbli : decide ((65536 : Int) < (bo.length : Int)) = false := decide_eq_false (by omega)
  go_wp2_with fail
  refine (rframe_any _ bo _ HBs.out (by omega)).mono ?_
  rintro e w9 ⟨v9, rfl, ho9, hb9⟩
  have HG2 := Lib.hid (HG.out w9 v9 (below_then HkL.out.below hb9) hbl (own_more ho9 (Nat.le_trans hgs hgs2)))
  clear ho9 hb9
  go_wp2
  go_ret2
  exact HG2.out
set_option maxRecDepth 100000 in
set_option maxHeartbeats 4000000 in
theorem rmbytes_2 (m : MsgD) (dv lv : Value) (mx : Int) (w : World) (hk0 : m.kd = 2) (hr : mrightS m = 0) (ha : MsgAt w [] m dv lv) (hs : MShort m) (hwf : MWf m) (hm : w.cell? ⟨0, 0, none⟩ = some (.int .i64 mx)) :
  Calls Tryz.prog 46 #[.agg (mCell m dv lv).toArray] w fun r w' => MBPost (mbytesS m) w r w' := by
 have hok := mright_ok hr
 have HF : Hid (∀ W, Below w.heap.size w W → 65536 < (bodyL m).length → MBPost (mbytesS m) w (.returned (.tuple #[.slice none 0 0, .int .i64 3])) W) := fun W hb hl => by
  unfold mbytesS
  rw [if_pos hr, if_pos hl]
  exact ⟨none, 0, rfl, fun M hM => Bs.nil _ _, hb⟩
 have HG : Hid (∀ W v, Below w.heap.size w W → ¬ 65536 < (bodyL m).length → W.ownsRow w.heap.size 5 1 v (frameL (bodyL m)).length ((frameL (bodyL m)).map bV) → MBPost (mbytesS m) w (.returned (.tuple #[v, .int .i64 0])) W) := fun W v hb hl ho => by
  unfold mbytesS
  rw [if_pos hr, if_neg hl]
  exact mbpost_of ho (Nat.le_refl _) hb
 have HRi := Lib.hid (fun W (hk : Keeps [] w W) => rmright_any m dv lv mx W (ha.keep hk (by simp)) hs ((hk.cell (p := ⟨0, 0, none⟩) (by have := World.block_lt_of_cell? w _ hm; simpa using this) (by simp)).trans hm))
 have Ha1 := Lib.hid ha.1; have Ha2 := Lib.hid ha.2; have Hs := Lib.hid hs; have Hwf := Lib.hid hwf
 obtain ⟨Aa, na, rfl, _⟩ := ha.1.len
 obtain ⟨Ba, ka, rfl, _⟩ := ha.2.len
 rw [hr] at HRi
 generalize mbytesS m = RB at *
 have HBo : Hid (bodyL m = bodyL m) := rfl
 clear ha hs hwf hm hr
 obtain ⟨kd, ⟨kind, ag, sh, seq, ep, ds, ser, fr, etg⟩, tag, code, nn, term, had, log, commit, len⟩ := m
 obtain ⟨k1, k6, _, tag0, term0, had0, com0, len0, code0, code1, com1, len1, logl, ask, logs⟩ := hok
 simp only [] at hk0 k1 k6 tag0 term0 had0 com0 len0 code0 code1 com1 len1 logl ask logs Ha1 Ha2
 subst hk0
 obtain ⟨tagM, termM, hadM, nn0, nn1, wfe, wfl⟩ := Hwf.out
 simp only [] at tagM termM hadM nn0 nn1 wfe wfl
 simp only [mCell, eCell, List.cons_append, List.nil_append] at HRi ⊢
 obtain ⟨tag, rfl⟩ := Int.eq_ofNat_of_zero_le tag0
 have hl_tag : tag < 18446744073709551616 := by omega
 have hw_tag : IntKind.u64.wrap (tag : Int) = (tag : Int) := by rw [IntKind.wrap_u64]; omega
 obtain ⟨code, rfl⟩ := Int.eq_ofNat_of_zero_le code0
 have hl_code : code < 18446744073709551616 := by omega
 have hw_code : IntKind.u64.wrap (code : Int) = (code : Int) := by rw [IntKind.wrap_u64]; omega
 obtain ⟨nn, rfl⟩ := Int.eq_ofNat_of_zero_le nn0
 have hl_nn : nn < 18446744073709551616 := by omega
 have hw_nn : IntKind.u64.wrap (nn : Int) = (nn : Int) := by rw [IntKind.wrap_u64]; omega
 have HBE : Hid (bodyL ⟨(2 : Int), ⟨kind, ag, sh, seq, ep, ds, ser, fr, etg⟩, (tag : Int), (code : Int), (nn : Int), term, had, log, commit, len⟩ = [UInt8.ofNat 2] ++ (Lib.uvarint tag ++ Lib.uvarint code ++ Lib.uvarint nn)) := by
  show _ = _
  unfold bodyL
  simp only [Int.reduceEq, if_true, if_false, Int.toNat_natCast]
  rfl
 generalize bodyL ⟨(2 : Int), ⟨kind, ag, sh, seq, ep, ds, ser, fr, etg⟩, (tag : Int), (code : Int), (nn : Int), term, had, log, commit, len⟩ = bo at *
 clear HBo
 have hwk : IntKind.u8.wrap 2 = 2 := by decide
 generalize hdn : ds.length = dn at *
 generalize hln : log.length = ln at *
 show Calls Tryz.prog 46 #[.agg #[.int .i64 2, .int .i64 kind, .int .i64 ag, .int .i64 sh, .int .i64 seq, .int .i64 ep, .slice Aa dn na, .string ser, .int .i64 fr, .int .i64 etg, .int .i64 tag, .int .i64 code, .int .u64 nn, .int .i64 term, .int .i64 had, .slice Ba ln ka, .int .i64 commit, .int .i64 len]] w fun r w' => MBPost RB w r w'
 obtain ⟨w2, hw2⟩ : ∃ w2, w2 = w.alloc (.cells #[.int .i64 2, .int .i64 kind, .int .i64 ag, .int .i64 sh, .int .i64 seq, .int .i64 ep, .slice Aa dn na, .string ser, .int .i64 fr, .int .i64 etg, .int .i64 tag, .int .i64 code, .int .u64 nn, .int .i64 term, .int .i64 had, .slice Ba ln ka, .int .i64 commit, .int .i64 len] 68) := ⟨_, rfl⟩
 have hk2 : Keeps [] w w2 := by rw [hw2]; exact (Keeps.refl _ _).alloc _
 have hBa : Blk w2 w.heap.size 68 #[.int .i64 2, .int .i64 kind, .int .i64 ag, .int .i64 sh, .int .i64 seq, .int .i64 ep, .slice Aa dn na, .string ser, .int .i64 fr, .int .i64 etg, .int .i64 tag, .int .i64 code, .int .u64 nn, .int .i64 term, .int .i64 had, .slice Ba ln ka, .int .i64 commit, .int .i64 len] := by rw [hw2]; exact Blk.new w _ _
 have Hw2 := Lib.hid hw2; have HBa := Lib.hid hBa; have Hk2 := Lib.hid hk2
 have hgw : w.heap.size < w2.heap.size := hBa.lt
 clear hw2 hBa hk2
 go_enter Tryz.func46, Tryz.ntmps46
 go_upto_region 1 with (fail)
 rw [← Hw2.out]
 clear Hw2
 have HRg := Lib.hid (blk_range HBa.out)
 have HRi2 := Lib.hid (HRi.out w2 Hk2.out)
 clear HRi
 obtain ⟨g, hg⟩ : ∃ g, g = w.heap.size := ⟨_, rfl⟩
 rw [← hg] at HBa HRg hgw ⊢
 have Hg := Lib.hid hg
 clear hg
 go_wp2_with (refine wpList_load_mid rfl 68 (.tmp 1) rfl g 0 rfl _ _ HRg.out Tryz.underlying68 rfl (by kernel_rfl) ?_)
 refine HRi2.out.mono ?_
 rintro r w3 ⟨rfl, hb3⟩
 have HB3 := Lib.hid (HBa.out.below hb3 hgw)
 have Hk3 : Hid (Keeps [] w w3) := Hk2.out.trans (Keeps.of_below (M := []) hb3) (by simp)
 have hg3 : g < w3.heap.size := HB3.out.lt
 clear hb3 HRg HRi2 HBa Hk2 hgw
 obtain ⟨q0, q1, q2, q3, q4, q5, q6, q7, q8, q9, qa, qb, qc, qd, qe, qf, qg, qh, qz⟩ := blk18 HB3.out
 have Hdn := Lib.hid hdn; have Hln := Lib.hid hln
 clear hdn hln
 go_upto_region 9 with (fail)
 clear q0 q1 q2 q3 q4 q5 q6 q7 q8 q9 qa qb qc qd qe qf qg qh qz
 have HbsA : Hid (Bs (w3.alloc (.cells #[.int .u8 2] 5)) [] (.slice (some ⟨w3.heap.size, 0, none⟩) 1 1) [UInt8.ofNat 2]) := bs_new w3 (UInt8.ofNat 2)
 have HkA : Hid (Keeps [] w (w3.alloc (.cells #[.int .u8 2] 5))) := Hk3.out.alloc _
 have HBA := Lib.hid (HB3.out.below (below_new' w3 (.cells #[.int .u8 2] 5)) hg3)
 generalize w3.alloc (.cells #[.int .u8 2] 5) = wA at *
 have hgA : g < wA.heap.size := HBA.out.lt
 have HlA : Hid (([UInt8.ofNat 2] : List UInt8).length ≤ 1) := Nat.le_refl _
 have HSB : Hid (∀ W, Below wA.heap.size wA W → W.cell? ⟨g, 10, none⟩ = some (.int .i64 tag) ∧ W.cell? ⟨g, 11, none⟩ = some (.int .i64 code) ∧ W.cell? ⟨g, 12, none⟩ = some (.int .u64 nn)) := fun W hb => ⟨(hb.cell (p := ⟨g, 10, none⟩) hgA).trans (HBA.out.cell 10), (hb.cell (p := ⟨g, 11, none⟩) hgA).trans (HBA.out.cell 11), (hb.cell (p := ⟨g, 12, none⟩) hgA).trans (HBA.out.cell 12)⟩
 have HKW : Hid (∀ W, Below wA.heap.size wA W → Keeps [] w W) := fun W hb => HkA.out.trans (Keeps.of_below (M := []) hb) (by simp)
 refine wp_region_held_drew (S := (fun W => W.cell? ⟨g, 10, none⟩ = some (.int .i64 tag) ∧ W.cell? ⟨g, 11, none⟩ = some (.int .i64 code) ∧ W.cell? ⟨g, 12, none⟩ = some (.int .u64 nn))) (by kernel_rfl) (HSB.out _ (bdrewG (Below.refl _ wA))) (fun hHeld => ?_)
 have HdA : Hid (Below wA.heap.size wA wA.drew) := bdrewG (Below.refl _ wA)
 have HbsD : Hid (Bs wA.drew [] (.slice (some ⟨w3.heap.size, 0, none⟩) 1 1) [UInt8.ofNat 2]) := HbsA.out
 refine wpAnyH_take (i := 0) (oi := _) (v := ?v0a) rfl (by kernel_rfl) (by kernel_rfl) (by kernel_rfl) (fun _ _ _ h => h) (Or.inl ⟨by rfl, ?y0a⟩) (by assumption) ?r0a
 case y0a => (intro w hSw; (obtain ⟨hS0, hS1, hS2⟩ := hSw); go_simp <;> with_reducible rfl)
 try simp only [List.getElem_toArray, List.getElem_cons_succ, List.getElem_cons_zero, Act.put, List.setIfInBounds_toArray, List.set_cons_zero, List.set_cons_succ]
 refine wpAnyH_take (i := 1) (oi := _) (v := ?v1a) rfl (by kernel_rfl) (by kernel_rfl) (by kernel_rfl) (fun _ _ _ h => h) (Or.inl ⟨by rfl, ?y1a⟩) (by assumption) ?r1a
 case y1a => (intro w hSw; (obtain ⟨hS0, hS1, hS2⟩ := hSw); go_simp <;> with_reducible rfl)
 try simp only [List.getElem_toArray, List.getElem_cons_succ, List.getElem_cons_zero, Act.put, List.setIfInBounds_toArray, List.set_cons_zero, List.set_cons_succ]
 refine wpAnyH_take (i := 2) (oi := _) (v := ?v2a) rfl (by kernel_rfl) (by kernel_rfl) (by kernel_rfl) (fun _ _ _ h => h) (Or.inl ⟨by rfl, ?y2a⟩) (by assumption) ?r2a
 case y2a => (intro w hSw; (obtain ⟨hS0, hS1, hS2⟩ := hSw); go_simp <;> with_reducible rfl)
 try simp only [List.getElem_toArray, List.getElem_cons_succ, List.getElem_cons_zero, Act.put, List.setIfInBounds_toArray, List.set_cons_zero, List.set_cons_succ]
 refine wpAnyH_take (i := 3) (oi := _) (v := ?v3a) rfl (by kernel_rfl) (by kernel_rfl) (by kernel_rfl) (fun _ _ _ h => h) (Or.inl ⟨by rfl, ?y3a⟩) (by assumption) ?r3a
 case y3a => (intro w hSw; (obtain ⟨hS0, hS1, hS2⟩ := hSw); go_simp <;> with_reducible rfl)
 try simp only [List.getElem_toArray, List.getElem_cons_succ, List.getElem_cons_zero, Act.put, List.setIfInBounds_toArray, List.set_cons_zero, List.set_cons_succ]
 refine wpAnyH_take (i := 5) (oi := _) (v := ?v5a) rfl (by kernel_rfl) (by kernel_rfl) (by kernel_rfl) (fun _ _ _ h => h) (Or.inl ⟨by rfl, ?y5a⟩) (by assumption) ?r5a
 case y5a => (intro w hSw; (obtain ⟨hS0, hS1, hS2⟩ := hSw); go_simp <;> with_reducible rfl)
 try simp only [List.getElem_toArray, List.getElem_cons_succ, List.getElem_cons_zero, Act.put, List.setIfInBounds_toArray, List.set_cons_zero, List.set_cons_succ]
 refine wpAnyH_take (i := 6) (oi := _) (v := ?v6a) rfl (by kernel_rfl) (by kernel_rfl) (by kernel_rfl) (fun _ _ _ h => h) (Or.inl ⟨by rfl, ?y6a⟩) (by assumption) ?r6a
 case y6a => (intro w hSw; (obtain ⟨hS0, hS1, hS2⟩ := hSw); go_simp <;> with_reducible rfl)
 try simp only [List.getElem_toArray, List.getElem_cons_succ, List.getElem_cons_zero, Act.put, List.setIfInBounds_toArray, List.set_cons_zero, List.set_cons_succ]
 refine wpAnyH_take (i := 7) (oi := _) (v := ?v7a) rfl (by kernel_rfl) (by kernel_rfl) (by kernel_rfl) (fun _ _ _ h => h) (Or.inl ⟨by rfl, ?y7a⟩) (by assumption) ?r7a
 case y7a => (intro w hSw; (obtain ⟨hS0, hS1, hS2⟩ := hSw); go_simp <;> with_reducible rfl)
 try simp only [List.getElem_toArray, List.getElem_cons_succ, List.getElem_cons_zero, Act.put, List.setIfInBounds_toArray, List.set_cons_zero, List.set_cons_succ]
 refine wpAnyH_take (i := 9) (oi := _) (v := ?v9a) rfl (by kernel_rfl) (by kernel_rfl) (by kernel_rfl) (fun _ _ _ h => h) (Or.inl ⟨by rfl, ?y9a⟩) (by assumption) ?r9a
 case y9a => (intro w hSw; (obtain ⟨hS0, hS1, hS2⟩ := hSw); go_simp <;> with_reducible rfl)
 try simp only [List.getElem_toArray, List.getElem_cons_succ, List.getElem_cons_zero, Act.put, List.setIfInBounds_toArray, List.set_cons_zero, List.set_cons_succ]
 refine wpAnyH_take (i := 10) (oi := _) (v := ?v10a) rfl (by kernel_rfl) (by kernel_rfl) (by kernel_rfl) (fun _ _ _ h => h) (Or.inl ⟨by rfl, ?y10a⟩) (by assumption) ?r10a
 case y10a => (intro w hSw; (obtain ⟨hS0, hS1, hS2⟩ := hSw); go_simp <;> with_reducible rfl)
 try simp only [List.getElem_toArray, List.getElem_cons_succ, List.getElem_cons_zero, Act.put, List.setIfInBounds_toArray, List.set_cons_zero, List.set_cons_succ]
 refine wpAnyH_ready (rs := [4]) (by kernel_rfl) (by simp) ?_
 refine AllReadyH.cons (o := _) rfl (fun K hK => ?_) AllReadyH.nil
 go_simp
 refine (rput_any _ [UInt8.ofNat 2] tag _ HbsD.out hl_tag (by have := HlA.out; omega)).mono ?_
 rintro e w1 ⟨v2, rfl, ho9, hb9⟩
 have Hb4 := Lib.hid (bthenG HdA.out hb9)
 have Hlb6 := Lib.hid Hb4.out.size
 have Ho3 := Lib.hid (own_bs ho9)
 have Hl7 : Hid (([UInt8.ofNat 2] ++ Lib.uvarint tag).length ≤ 1 + 10) := by
  have h1 := Lib.uvarint_length64 (x := tag) hl_tag
  have h2 := HlA.out
  show List.length _ ≤ _
  rw [List.length_append]
  omega
 clear hb9 ho9
 refine hK.out _ _ (HSB.out _ Hb4.out) (fun hHeld2 => ?_)
 clear hK K hHeld
 have hHeld := hHeld2
 clear hHeld2
 try simp only [List.getElem_toArray, List.getElem_cons_succ, List.getElem_cons_zero, Act.put, List.setIfInBounds_toArray, List.set_cons_zero, List.set_cons_succ]
 refine wpAnyH_ready (rs := [8]) (by kernel_rfl) (by simp) ?_
 refine AllReadyH.cons (o := _) rfl (fun K hK => ?_) AllReadyH.nil
 go_simp
 refine (rput_any v2 ([UInt8.ofNat 2] ++ Lib.uvarint tag) code _ Ho3.out hl_code (by have := Hl7.out; omega)).mono ?_
 rintro e w8 ⟨v9, rfl, ho9, hb9⟩
 have Hb11 := Lib.hid (bthenG Hb4.out hb9)
 have Hlb13 := Lib.hid Hb11.out.size
 have Ho10 := Lib.hid (own_bs ho9)
 have Hl14 : Hid ((([UInt8.ofNat 2] ++ Lib.uvarint tag) ++ Lib.uvarint code).length ≤ 1 + 10 + 10) := by
  have h1 := Lib.uvarint_length64 (x := code) hl_code
  have h2 := Hl7.out
  show List.length _ ≤ _
  rw [List.length_append]
  omega
 clear hb9 ho9
 refine hK.out _ _ (HSB.out _ Hb11.out) (fun hHeld2 => ?_)
 clear hK K hHeld
 have hHeld := hHeld2
 clear hHeld2
 try simp only [List.getElem_toArray, List.getElem_cons_succ, List.getElem_cons_zero, Act.put, List.setIfInBounds_toArray, List.set_cons_zero, List.set_cons_succ]
 refine wpAnyH_ready (rs := [11]) (by kernel_rfl) (by simp) ?_
 refine AllReadyH.cons (o := _) rfl (fun K hK => ?_) AllReadyH.nil
 go_simp
 refine (rput_any v9 (([UInt8.ofNat 2] ++ Lib.uvarint tag) ++ Lib.uvarint code) nn _ Ho10.out hl_nn (by have := Hl14.out; omega)).mono ?_
 rintro e w15 ⟨v16, rfl, ho9, hb9⟩
 have Hb18 := Lib.hid (bthenG Hb11.out hb9)
 have Hlb20 := Lib.hid Hb18.out.size
 have Ho17 := Lib.hid (own_bs ho9)
 have Hl21 : Hid (((([UInt8.ofNat 2] ++ Lib.uvarint tag) ++ Lib.uvarint code) ++ Lib.uvarint nn).length ≤ 1 + 10 + 10 + 10) := by
  have h1 := Lib.uvarint_length64 (x := nn) hl_nn
  have h2 := Hl14.out
  show List.length _ ≤ _
  rw [List.length_append]
  omega
 clear hb9 ho9
 refine hK.out _ _ (HSB.out _ Hb18.out) (fun hHeld2 => ?_)
 clear hK K hHeld
 have hHeld := hHeld2
 clear hHeld2
 try simp only [List.getElem_toArray, List.getElem_cons_succ, List.getElem_cons_zero, Act.put, List.setIfInBounds_toArray, List.set_cons_zero, List.set_cons_succ]
 refine wpAnyH_take (i := 12) (oi := _) (v := ?v12a) rfl (by kernel_rfl) (by kernel_rfl) (by kernel_rfl) (fun _ _ _ h => h) (Or.inl ⟨by rfl, ?y12a⟩) (by assumption) ?r12a
 case y12a => (intro w hSw; (obtain ⟨hS0, hS1, hS2⟩ := hSw); go_simp <;> with_reducible rfl)
 try simp only [List.getElem_toArray, List.getElem_cons_succ, List.getElem_cons_zero, Act.put, List.setIfInBounds_toArray, List.set_cons_zero, List.set_cons_succ]
 refine wpAnyH_done (by kernel_rfl) ?_ _
 clear hHeld
 have HBO : Hid (bo = ((([UInt8.ofNat 2] ++ Lib.uvarint tag) ++ Lib.uvarint code) ++ Lib.uvarint nn)) := by show _ = _; rw [HBE.out]; try simp only [List.append_assoc]
 have HBs := Lib.hid Ho17.out
 rw [← HBO.out] at HBs
 obtain ⟨AL, cL, hvL, _⟩ := HBs.out.len
 have HkL := Lib.hid (HKW.out _ Hb18.out)
 have hgs : w.heap.size ≤ wA.heap.size := HkA.out.size
 have hgs2 := Hb18.out.size
 rw [hvL] at HBs ⊢
 clear HBE HBO
 by_cases hbl : 65536 < bo.length
 ·have hbli : (65536 : Int) < (bo.length : Int) := by omega
  have HF2 := Lib.hid (HF.out _ HkL.out.below hbl)
  go_wp2
  go_ret2
  exact HF2.out
 ·have hbli : decide ((65536 : Int) < (bo.length : Int)) = false := decide_eq_false (by omega)
  go_wp2_with fail
  refine (rframe_any _ bo _ HBs.out (by omega)).mono ?_
  rintro e w9 ⟨v9, rfl, ho9, hb9⟩
  have HG2 := Lib.hid (HG.out w9 v9 (below_then HkL.out.below hb9) hbl (own_more ho9 (Nat.le_trans hgs hgs2)))
  clear ho9 hb9
  go_wp2
  go_ret2
  exact HG2.out
set_option maxRecDepth 100000 in
set_option maxHeartbeats 4000000 in
theorem rmbytes_3 (m : MsgD) (dv lv : Value) (mx : Int) (w : World) (hk0 : m.kd = 3) (hr : mrightS m = 0) (ha : MsgAt w [] m dv lv) (hs : MShort m) (hwf : MWf m) (hm : w.cell? ⟨0, 0, none⟩ = some (.int .i64 mx)) :
  Calls Tryz.prog 46 #[.agg (mCell m dv lv).toArray] w fun r w' => MBPost (mbytesS m) w r w' := by
 have hok := mright_ok hr
 have HF : Hid (∀ W, Below w.heap.size w W → 65536 < (bodyL m).length → MBPost (mbytesS m) w (.returned (.tuple #[.slice none 0 0, .int .i64 3])) W) := fun W hb hl => by
  unfold mbytesS
  rw [if_pos hr, if_pos hl]
  exact ⟨none, 0, rfl, fun M hM => Bs.nil _ _, hb⟩
 have HG : Hid (∀ W v, Below w.heap.size w W → ¬ 65536 < (bodyL m).length → W.ownsRow w.heap.size 5 1 v (frameL (bodyL m)).length ((frameL (bodyL m)).map bV) → MBPost (mbytesS m) w (.returned (.tuple #[v, .int .i64 0])) W) := fun W v hb hl ho => by
  unfold mbytesS
  rw [if_pos hr, if_neg hl]
  exact mbpost_of ho (Nat.le_refl _) hb
 have HRi := Lib.hid (fun W (hk : Keeps [] w W) => rmright_any m dv lv mx W (ha.keep hk (by simp)) hs ((hk.cell (p := ⟨0, 0, none⟩) (by have := World.block_lt_of_cell? w _ hm; simpa using this) (by simp)).trans hm))
 have Ha1 := Lib.hid ha.1; have Ha2 := Lib.hid ha.2; have Hs := Lib.hid hs; have Hwf := Lib.hid hwf
 obtain ⟨Aa, na, rfl, _⟩ := ha.1.len
 obtain ⟨Ba, ka, rfl, _⟩ := ha.2.len
 rw [hr] at HRi
 generalize mbytesS m = RB at *
 have HBo : Hid (bodyL m = bodyL m) := rfl
 clear ha hs hwf hm hr
 obtain ⟨kd, ⟨kind, ag, sh, seq, ep, ds, ser, fr, etg⟩, tag, code, nn, term, had, log, commit, len⟩ := m
 obtain ⟨k1, k6, _, tag0, term0, had0, com0, len0, code0, code1, com1, len1, logl, ask, logs⟩ := hok
 simp only [] at hk0 k1 k6 tag0 term0 had0 com0 len0 code0 code1 com1 len1 logl ask logs Ha1 Ha2
 subst hk0
 obtain ⟨tagM, termM, hadM, nn0, nn1, wfe, wfl⟩ := Hwf.out
 simp only [] at tagM termM hadM nn0 nn1 wfe wfl
 simp only [mCell, eCell, List.cons_append, List.nil_append] at HRi ⊢
 obtain ⟨term, rfl⟩ := Int.eq_ofNat_of_zero_le term0
 have hl_term : term < 18446744073709551616 := by omega
 have hw_term : IntKind.u64.wrap (term : Int) = (term : Int) := by rw [IntKind.wrap_u64]; omega
 have HBE : Hid (bodyL ⟨(3 : Int), ⟨kind, ag, sh, seq, ep, ds, ser, fr, etg⟩, tag, code, nn, (term : Int), had, log, commit, len⟩ = [UInt8.ofNat 3] ++ Lib.uvarint term) := by
  show _ = _
  unfold bodyL
  simp only [Int.reduceEq, if_true, if_false, Int.toNat_natCast]
  rfl
 generalize bodyL ⟨(3 : Int), ⟨kind, ag, sh, seq, ep, ds, ser, fr, etg⟩, tag, code, nn, (term : Int), had, log, commit, len⟩ = bo at *
 clear HBo
 have hwk : IntKind.u8.wrap 3 = 3 := by decide
 generalize hdn : ds.length = dn at *
 generalize hln : log.length = ln at *
 show Calls Tryz.prog 46 #[.agg #[.int .i64 3, .int .i64 kind, .int .i64 ag, .int .i64 sh, .int .i64 seq, .int .i64 ep, .slice Aa dn na, .string ser, .int .i64 fr, .int .i64 etg, .int .i64 tag, .int .i64 code, .int .u64 nn, .int .i64 term, .int .i64 had, .slice Ba ln ka, .int .i64 commit, .int .i64 len]] w fun r w' => MBPost RB w r w'
 obtain ⟨w2, hw2⟩ : ∃ w2, w2 = w.alloc (.cells #[.int .i64 3, .int .i64 kind, .int .i64 ag, .int .i64 sh, .int .i64 seq, .int .i64 ep, .slice Aa dn na, .string ser, .int .i64 fr, .int .i64 etg, .int .i64 tag, .int .i64 code, .int .u64 nn, .int .i64 term, .int .i64 had, .slice Ba ln ka, .int .i64 commit, .int .i64 len] 68) := ⟨_, rfl⟩
 have hk2 : Keeps [] w w2 := by rw [hw2]; exact (Keeps.refl _ _).alloc _
 have hBa : Blk w2 w.heap.size 68 #[.int .i64 3, .int .i64 kind, .int .i64 ag, .int .i64 sh, .int .i64 seq, .int .i64 ep, .slice Aa dn na, .string ser, .int .i64 fr, .int .i64 etg, .int .i64 tag, .int .i64 code, .int .u64 nn, .int .i64 term, .int .i64 had, .slice Ba ln ka, .int .i64 commit, .int .i64 len] := by rw [hw2]; exact Blk.new w _ _
 have Hw2 := Lib.hid hw2; have HBa := Lib.hid hBa; have Hk2 := Lib.hid hk2
 have hgw : w.heap.size < w2.heap.size := hBa.lt
 clear hw2 hBa hk2
 go_enter Tryz.func46, Tryz.ntmps46
 go_upto_region 1 with (fail)
 rw [← Hw2.out]
 clear Hw2
 have HRg := Lib.hid (blk_range HBa.out)
 have HRi2 := Lib.hid (HRi.out w2 Hk2.out)
 clear HRi
 obtain ⟨g, hg⟩ : ∃ g, g = w.heap.size := ⟨_, rfl⟩
 rw [← hg] at HBa HRg hgw ⊢
 have Hg := Lib.hid hg
 clear hg
 go_wp2_with (refine wpList_load_mid rfl 68 (.tmp 1) rfl g 0 rfl _ _ HRg.out Tryz.underlying68 rfl (by kernel_rfl) ?_)
 refine HRi2.out.mono ?_
 rintro r w3 ⟨rfl, hb3⟩
 have HB3 := Lib.hid (HBa.out.below hb3 hgw)
 have Hk3 : Hid (Keeps [] w w3) := Hk2.out.trans (Keeps.of_below (M := []) hb3) (by simp)
 have hg3 : g < w3.heap.size := HB3.out.lt
 clear hb3 HRg HRi2 HBa Hk2 hgw
 obtain ⟨q0, q1, q2, q3, q4, q5, q6, q7, q8, q9, qa, qb, qc, qd, qe, qf, qg, qh, qz⟩ := blk18 HB3.out
 have Hdn := Lib.hid hdn; have Hln := Lib.hid hln
 clear hdn hln
 go_upto_region 11 with (fail)
 clear q0 q1 q2 q3 q4 q5 q6 q7 q8 q9 qa qb qc qd qe qf qg qh qz
 have HbsA : Hid (Bs (w3.alloc (.cells #[.int .u8 3] 5)) [] (.slice (some ⟨w3.heap.size, 0, none⟩) 1 1) [UInt8.ofNat 3]) := bs_new w3 (UInt8.ofNat 3)
 have HkA : Hid (Keeps [] w (w3.alloc (.cells #[.int .u8 3] 5))) := Hk3.out.alloc _
 have HBA := Lib.hid (HB3.out.below (below_new' w3 (.cells #[.int .u8 3] 5)) hg3)
 generalize w3.alloc (.cells #[.int .u8 3] 5) = wA at *
 have hgA : g < wA.heap.size := HBA.out.lt
 have HlA : Hid (([UInt8.ofNat 3] : List UInt8).length ≤ 1) := Nat.le_refl _
 have HSB : Hid (∀ W, Below wA.heap.size wA W → W.cell? ⟨g, 13, none⟩ = some (.int .i64 term)) := fun W hb => ((hb.cell (p := ⟨g, 13, none⟩) hgA).trans (HBA.out.cell 13))
 have HKW : Hid (∀ W, Below wA.heap.size wA W → Keeps [] w W) := fun W hb => HkA.out.trans (Keeps.of_below (M := []) hb) (by simp)
 have s0 := HSB.out _ (Below.refl _ wA)
 go_wp2_with fail
 refine (rput_any _ [UInt8.ofNat 3] term _ HbsA.out hl_term (by have := HlA.out; omega)).mono ?_
 rintro e wL ⟨vL, rfl, hoL, hbL⟩
 have HbL := Lib.hid hbL
 have HoL := Lib.hid (own_bs hoL)
 clear hbL hoL s0
 have HBO : Hid (bo = ([UInt8.ofNat 3] ++ Lib.uvarint term)) := by show _ = _; rw [HBE.out]; try simp only [List.append_assoc]
 have HBs := Lib.hid HoL.out
 rw [← HBO.out] at HBs
 obtain ⟨AL, cL, hvL, _⟩ := HBs.out.len
 have HkL := Lib.hid (HKW.out _ HbL.out)
 have hgs : w.heap.size ≤ wA.heap.size := HkA.out.size
 have hgs2 := HbL.out.size
 rw [hvL] at HBs ⊢
 clear HBE HBO
 by_cases hbl : 65536 < bo.length
 ·have hbli : (65536 : Int) < (bo.length : Int) := by omega
  have HF2 := Lib.hid (HF.out _ HkL.out.below hbl)
  go_wp2
  go_ret2
  exact HF2.out
 ·have hbli : decide ((65536 : Int) < (bo.length : Int)) = false := decide_eq_false (by omega)
  go_wp2_with fail
  refine (rframe_any _ bo _ HBs.out (by omega)).mono ?_
  rintro e w9 ⟨v9, rfl, ho9, hb9⟩
  have HG2 := Lib.hid (HG.out w9 v9 (below_then HkL.out.below hb9) hbl (own_more ho9 (Nat.le_trans hgs hgs2)))
  clear ho9 hb9
  go_wp2
  go_ret2
  exact HG2.out
set_option maxRecDepth 100000 in
set_option maxHeartbeats 4000000 in
theorem rmbytes_4 (m : MsgD) (dv lv : Value) (mx : Int) (w : World) (hk0 : m.kd = 4) (hr : mrightS m = 0) (ha : MsgAt w [] m dv lv) (hs : MShort m) (hwf : MWf m) (hm : w.cell? ⟨0, 0, none⟩ = some (.int .i64 mx)) :
  Calls Tryz.prog 46 #[.agg (mCell m dv lv).toArray] w fun r w' => MBPost (mbytesS m) w r w' := by
 have hok := mright_ok hr
 have HF : Hid (∀ W, Below w.heap.size w W → 65536 < (bodyL m).length → MBPost (mbytesS m) w (.returned (.tuple #[.slice none 0 0, .int .i64 3])) W) := fun W hb hl => by
  unfold mbytesS
  rw [if_pos hr, if_pos hl]
  exact ⟨none, 0, rfl, fun M hM => Bs.nil _ _, hb⟩
 have HG : Hid (∀ W v, Below w.heap.size w W → ¬ 65536 < (bodyL m).length → W.ownsRow w.heap.size 5 1 v (frameL (bodyL m)).length ((frameL (bodyL m)).map bV) → MBPost (mbytesS m) w (.returned (.tuple #[v, .int .i64 0])) W) := fun W v hb hl ho => by
  unfold mbytesS
  rw [if_pos hr, if_neg hl]
  exact mbpost_of ho (Nat.le_refl _) hb
 have HRi := Lib.hid (fun W (hk : Keeps [] w W) => rmright_any m dv lv mx W (ha.keep hk (by simp)) hs ((hk.cell (p := ⟨0, 0, none⟩) (by have := World.block_lt_of_cell? w _ hm; simpa using this) (by simp)).trans hm))
 have Ha1 := Lib.hid ha.1; have Ha2 := Lib.hid ha.2; have Hs := Lib.hid hs; have Hwf := Lib.hid hwf
 obtain ⟨Aa, na, rfl, _⟩ := ha.1.len
 obtain ⟨Ba, ka, rfl, _⟩ := ha.2.len
 rw [hr] at HRi
 generalize mbytesS m = RB at *
 have HBo : Hid (bodyL m = bodyL m) := rfl
 clear ha hs hwf hm hr
 obtain ⟨kd, ⟨kind, ag, sh, seq, ep, ds, ser, fr, etg⟩, tag, code, nn, term, had, log, commit, len⟩ := m
 obtain ⟨k1, k6, _, tag0, term0, had0, com0, len0, code0, code1, com1, len1, logl, ask, logs⟩ := hok
 simp only [] at hk0 k1 k6 tag0 term0 had0 com0 len0 code0 code1 com1 len1 logl ask logs Ha1 Ha2
 subst hk0
 obtain ⟨tagM, termM, hadM, nn0, nn1, wfe, wfl⟩ := Hwf.out
 simp only [] at tagM termM hadM nn0 nn1 wfe wfl
 simp only [mCell, eCell, List.cons_append, List.nil_append] at HRi ⊢
 obtain ⟨term, rfl⟩ := Int.eq_ofNat_of_zero_le term0
 have hl_term : term < 18446744073709551616 := by omega
 have hw_term : IntKind.u64.wrap (term : Int) = (term : Int) := by rw [IntKind.wrap_u64]; omega
 obtain ⟨had, rfl⟩ := Int.eq_ofNat_of_zero_le had0
 have hl_had : had < 18446744073709551616 := by omega
 have hw_had : IntKind.u64.wrap (had : Int) = (had : Int) := by rw [IntKind.wrap_u64]; omega
 have HBE : Hid (bodyL ⟨(4 : Int), ⟨kind, ag, sh, seq, ep, ds, ser, fr, etg⟩, tag, code, nn, (term : Int), (had : Int), log, commit, len⟩ = [UInt8.ofNat 4] ++ (Lib.uvarint term ++ Lib.uvarint had ++ putLog log)) := by
  show _ = _
  unfold bodyL
  simp only [Int.reduceEq, if_true, if_false, Int.toNat_natCast]
  rfl
 generalize bodyL ⟨(4 : Int), ⟨kind, ag, sh, seq, ep, ds, ser, fr, etg⟩, tag, code, nn, (term : Int), (had : Int), log, commit, len⟩ = bo at *
 clear HBo
 have hwk : IntKind.u8.wrap 4 = 4 := by decide
 generalize hdn : ds.length = dn at *
 generalize hln : log.length = ln at *
 show Calls Tryz.prog 46 #[.agg #[.int .i64 4, .int .i64 kind, .int .i64 ag, .int .i64 sh, .int .i64 seq, .int .i64 ep, .slice Aa dn na, .string ser, .int .i64 fr, .int .i64 etg, .int .i64 tag, .int .i64 code, .int .u64 nn, .int .i64 term, .int .i64 had, .slice Ba ln ka, .int .i64 commit, .int .i64 len]] w fun r w' => MBPost RB w r w'
 obtain ⟨w2, hw2⟩ : ∃ w2, w2 = w.alloc (.cells #[.int .i64 4, .int .i64 kind, .int .i64 ag, .int .i64 sh, .int .i64 seq, .int .i64 ep, .slice Aa dn na, .string ser, .int .i64 fr, .int .i64 etg, .int .i64 tag, .int .i64 code, .int .u64 nn, .int .i64 term, .int .i64 had, .slice Ba ln ka, .int .i64 commit, .int .i64 len] 68) := ⟨_, rfl⟩
 have hk2 : Keeps [] w w2 := by rw [hw2]; exact (Keeps.refl _ _).alloc _
 have hBa : Blk w2 w.heap.size 68 #[.int .i64 4, .int .i64 kind, .int .i64 ag, .int .i64 sh, .int .i64 seq, .int .i64 ep, .slice Aa dn na, .string ser, .int .i64 fr, .int .i64 etg, .int .i64 tag, .int .i64 code, .int .u64 nn, .int .i64 term, .int .i64 had, .slice Ba ln ka, .int .i64 commit, .int .i64 len] := by rw [hw2]; exact Blk.new w _ _
 have Hw2 := Lib.hid hw2; have HBa := Lib.hid hBa; have Hk2 := Lib.hid hk2
 have hgw : w.heap.size < w2.heap.size := hBa.lt
 clear hw2 hBa hk2
 go_enter Tryz.func46, Tryz.ntmps46
 go_upto_region 1 with (fail)
 rw [← Hw2.out]
 clear Hw2
 have HRg := Lib.hid (blk_range HBa.out)
 have HRi2 := Lib.hid (HRi.out w2 Hk2.out)
 clear HRi
 obtain ⟨g, hg⟩ : ∃ g, g = w.heap.size := ⟨_, rfl⟩
 rw [← hg] at HBa HRg hgw ⊢
 have Hg := Lib.hid hg
 clear hg
 go_wp2_with (refine wpList_load_mid rfl 68 (.tmp 1) rfl g 0 rfl _ _ HRg.out Tryz.underlying68 rfl (by kernel_rfl) ?_)
 refine HRi2.out.mono ?_
 rintro r w3 ⟨rfl, hb3⟩
 have HB3 := Lib.hid (HBa.out.below hb3 hgw)
 have Hk3 : Hid (Keeps [] w w3) := Hk2.out.trans (Keeps.of_below (M := []) hb3) (by simp)
 have hg3 : g < w3.heap.size := HB3.out.lt
 clear hb3 HRg HRi2 HBa Hk2 hgw
 obtain ⟨q0, q1, q2, q3, q4, q5, q6, q7, q8, q9, qa, qb, qc, qd, qe, qf, qg, qh, qz⟩ := blk18 HB3.out
 have Hdn := Lib.hid hdn; have Hln := Lib.hid hln
 clear hdn hln
 go_upto_region 13 with (fail)
 clear q0 q1 q2 q3 q4 q5 q6 q7 q8 q9 qa qb qc qd qe qf qg qh qz
 have HbsA : Hid (Bs (w3.alloc (.cells #[.int .u8 4] 5)) [] (.slice (some ⟨w3.heap.size, 0, none⟩) 1 1) [UInt8.ofNat 4]) := bs_new w3 (UInt8.ofNat 4)
 have HkA : Hid (Keeps [] w (w3.alloc (.cells #[.int .u8 4] 5))) := Hk3.out.alloc _
 have HBA := Lib.hid (HB3.out.below (below_new' w3 (.cells #[.int .u8 4] 5)) hg3)
 generalize w3.alloc (.cells #[.int .u8 4] 5) = wA at *
 have hgA : g < wA.heap.size := HBA.out.lt
 have HlA : Hid (([UInt8.ofNat 4] : List UInt8).length ≤ 1) := Nat.le_refl _
 have HSB : Hid (∀ W, Below wA.heap.size wA W → W.cell? ⟨g, 13, none⟩ = some (.int .i64 term) ∧ W.cell? ⟨g, 14, none⟩ = some (.int .i64 had) ∧ W.cell? ⟨g, 15, none⟩ = some (.slice Ba ln ka)) := fun W hb => ⟨(hb.cell (p := ⟨g, 13, none⟩) hgA).trans (HBA.out.cell 13), (hb.cell (p := ⟨g, 14, none⟩) hgA).trans (HBA.out.cell 14), (hb.cell (p := ⟨g, 15, none⟩) hgA).trans (HBA.out.cell 15)⟩
 have HKW : Hid (∀ W, Below wA.heap.size wA W → Keeps [] w W) := fun W hb => HkA.out.trans (Keeps.of_below (M := []) hb) (by simp)
 refine wp_region_held_drew (S := (fun W => W.cell? ⟨g, 13, none⟩ = some (.int .i64 term) ∧ W.cell? ⟨g, 14, none⟩ = some (.int .i64 had) ∧ W.cell? ⟨g, 15, none⟩ = some (.slice Ba ln ka))) (by kernel_rfl) (HSB.out _ (bdrewG (Below.refl _ wA))) (fun hHeld => ?_)
 have HdA : Hid (Below wA.heap.size wA wA.drew) := bdrewG (Below.refl _ wA)
 have HbsD : Hid (Bs wA.drew [] (.slice (some ⟨w3.heap.size, 0, none⟩) 1 1) [UInt8.ofNat 4]) := HbsA.out
 refine wpAnyH_take (i := 0) (oi := _) (v := ?v0a) rfl (by kernel_rfl) (by kernel_rfl) (by kernel_rfl) (fun _ _ _ h => h) (Or.inl ⟨by rfl, ?y0a⟩) (by assumption) ?r0a
 case y0a => (intro w hSw; (obtain ⟨hS0, hS1, hS2⟩ := hSw); go_simp <;> with_reducible rfl)
 try simp only [List.getElem_toArray, List.getElem_cons_succ, List.getElem_cons_zero, Act.put, List.setIfInBounds_toArray, List.set_cons_zero, List.set_cons_succ]
 refine wpAnyH_take (i := 1) (oi := _) (v := ?v1a) rfl (by kernel_rfl) (by kernel_rfl) (by kernel_rfl) (fun _ _ _ h => h) (Or.inl ⟨by rfl, ?y1a⟩) (by assumption) ?r1a
 case y1a => (intro w hSw; (obtain ⟨hS0, hS1, hS2⟩ := hSw); go_simp <;> with_reducible rfl)
 try simp only [List.getElem_toArray, List.getElem_cons_succ, List.getElem_cons_zero, Act.put, List.setIfInBounds_toArray, List.set_cons_zero, List.set_cons_succ]
 refine wpAnyH_take (i := 2) (oi := _) (v := ?v2a) rfl (by kernel_rfl) (by kernel_rfl) (by kernel_rfl) (fun _ _ _ h => h) (Or.inl ⟨by rfl, ?y2a⟩) (by assumption) ?r2a
 case y2a => (intro w hSw; (obtain ⟨hS0, hS1, hS2⟩ := hSw); go_simp <;> with_reducible rfl)
 try simp only [List.getElem_toArray, List.getElem_cons_succ, List.getElem_cons_zero, Act.put, List.setIfInBounds_toArray, List.set_cons_zero, List.set_cons_succ]
 refine wpAnyH_take (i := 3) (oi := _) (v := ?v3a) rfl (by kernel_rfl) (by kernel_rfl) (by kernel_rfl) (fun _ _ _ h => h) (Or.inl ⟨by rfl, ?y3a⟩) (by assumption) ?r3a
 case y3a => (intro w hSw; (obtain ⟨hS0, hS1, hS2⟩ := hSw); go_simp <;> with_reducible rfl)
 try simp only [List.getElem_toArray, List.getElem_cons_succ, List.getElem_cons_zero, Act.put, List.setIfInBounds_toArray, List.set_cons_zero, List.set_cons_succ]
 refine wpAnyH_take (i := 5) (oi := _) (v := ?v5a) rfl (by kernel_rfl) (by kernel_rfl) (by kernel_rfl) (fun _ _ _ h => h) (Or.inl ⟨by rfl, ?y5a⟩) (by assumption) ?r5a
 case y5a => (intro w hSw; (obtain ⟨hS0, hS1, hS2⟩ := hSw); go_simp <;> with_reducible rfl)
 try simp only [List.getElem_toArray, List.getElem_cons_succ, List.getElem_cons_zero, Act.put, List.setIfInBounds_toArray, List.set_cons_zero, List.set_cons_succ]
 refine wpAnyH_take (i := 6) (oi := _) (v := ?v6a) rfl (by kernel_rfl) (by kernel_rfl) (by kernel_rfl) (fun _ _ _ h => h) (Or.inl ⟨by rfl, ?y6a⟩) (by assumption) ?r6a
 case y6a => (intro w hSw; (obtain ⟨hS0, hS1, hS2⟩ := hSw); go_simp <;> with_reducible rfl)
 try simp only [List.getElem_toArray, List.getElem_cons_succ, List.getElem_cons_zero, Act.put, List.setIfInBounds_toArray, List.set_cons_zero, List.set_cons_succ]
 refine wpAnyH_take (i := 7) (oi := _) (v := ?v7a) rfl (by kernel_rfl) (by kernel_rfl) (by kernel_rfl) (fun _ _ _ h => h) (Or.inl ⟨by rfl, ?y7a⟩) (by assumption) ?r7a
 case y7a => (intro w hSw; (obtain ⟨hS0, hS1, hS2⟩ := hSw); go_simp <;> with_reducible rfl)
 try simp only [List.getElem_toArray, List.getElem_cons_succ, List.getElem_cons_zero, Act.put, List.setIfInBounds_toArray, List.set_cons_zero, List.set_cons_succ]
 refine wpAnyH_take (i := 9) (oi := _) (v := ?v9a) rfl (by kernel_rfl) (by kernel_rfl) (by kernel_rfl) (fun _ _ _ h => h) (Or.inl ⟨by rfl, ?y9a⟩) (by assumption) ?r9a
 case y9a => (intro w hSw; (obtain ⟨hS0, hS1, hS2⟩ := hSw); go_simp <;> with_reducible rfl)
 try simp only [List.getElem_toArray, List.getElem_cons_succ, List.getElem_cons_zero, Act.put, List.setIfInBounds_toArray, List.set_cons_zero, List.set_cons_succ]
 refine wpAnyH_take (i := 10) (oi := _) (v := ?v10a) rfl (by kernel_rfl) (by kernel_rfl) (by kernel_rfl) (fun _ _ _ h => h) (Or.inl ⟨by rfl, ?y10a⟩) (by assumption) ?r10a
 case y10a => (intro w hSw; (obtain ⟨hS0, hS1, hS2⟩ := hSw); go_simp <;> with_reducible rfl)
 try simp only [List.getElem_toArray, List.getElem_cons_succ, List.getElem_cons_zero, Act.put, List.setIfInBounds_toArray, List.set_cons_zero, List.set_cons_succ]
 refine wpAnyH_ready (rs := [4]) (by kernel_rfl) (by simp) ?_
 refine AllReadyH.cons (o := _) rfl (fun K hK => ?_) AllReadyH.nil
 go_simp
 refine (rput_any _ [UInt8.ofNat 4] term _ HbsD.out hl_term (by have := HlA.out; omega)).mono ?_
 rintro e w1 ⟨v2, rfl, ho9, hb9⟩
 have Hb4 := Lib.hid (bthenG HdA.out hb9)
 have Hlb6 := Lib.hid Hb4.out.size
 have Ho3 := Lib.hid (own_bs ho9)
 have Hl7 : Hid (([UInt8.ofNat 4] ++ Lib.uvarint term).length ≤ 1 + 10) := by
  have h1 := Lib.uvarint_length64 (x := term) hl_term
  have h2 := HlA.out
  show List.length _ ≤ _
  rw [List.length_append]
  omega
 clear hb9 ho9
 refine hK.out _ _ (HSB.out _ Hb4.out) (fun hHeld2 => ?_)
 clear hK K hHeld
 have hHeld := hHeld2
 clear hHeld2
 try simp only [List.getElem_toArray, List.getElem_cons_succ, List.getElem_cons_zero, Act.put, List.setIfInBounds_toArray, List.set_cons_zero, List.set_cons_succ]
 refine wpAnyH_ready (rs := [8]) (by kernel_rfl) (by simp) ?_
 refine AllReadyH.cons (o := _) rfl (fun K hK => ?_) AllReadyH.nil
 go_simp
 refine (rput_any v2 ([UInt8.ofNat 4] ++ Lib.uvarint term) had _ Ho3.out hl_had (by have := Hl7.out; omega)).mono ?_
 rintro e w8 ⟨v9, rfl, ho9, hb9⟩
 have Hb11 := Lib.hid (bthenG Hb4.out hb9)
 have Hlb13 := Lib.hid Hb11.out.size
 have Ho10 := Lib.hid (own_bs ho9)
 have Hl14 : Hid ((([UInt8.ofNat 4] ++ Lib.uvarint term) ++ Lib.uvarint had).length ≤ 1 + 10 + 10) := by
  have h1 := Lib.uvarint_length64 (x := had) hl_had
  have h2 := Hl7.out
  show List.length _ ≤ _
  rw [List.length_append]
  omega
 clear hb9 ho9
 refine hK.out _ _ (HSB.out _ Hb11.out) (fun hHeld2 => ?_)
 clear hK K hHeld
 have hHeld := hHeld2
 clear hHeld2
 try simp only [List.getElem_toArray, List.getElem_cons_succ, List.getElem_cons_zero, Act.put, List.setIfInBounds_toArray, List.set_cons_zero, List.set_cons_succ]
 refine wpAnyH_ready (rs := [11]) (by kernel_rfl) (by simp) ?_
 refine AllReadyH.cons (o := _) rfl (fun K hK => ?_) AllReadyH.nil
 go_simp
 refine (rlog_any v9 (([UInt8.ofNat 4] ++ Lib.uvarint term) ++ Lib.uvarint had) _ log _ Ho10.out (Ha2.out.keep (M' := []) (HKW.out _ Hb11.out) (by simp)) (fun e he => ⟨logs (by decide) e he, Hs.out.2.2 e he, wfl e he⟩) (by have := Hln.out; omega) (by have := Hl14.out; omega)).mono ?_
 rintro e wL ⟨vL, rfl, hoL, hbL⟩
 have HbL := Lib.hid (bthenG Hb11.out hbL)
 have HoL := Lib.hid (own_bs hoL)
 clear hbL hoL
 refine hK.out _ _ (HSB.out _ HbL.out) (fun hHeld2 => ?_)
 clear hK K hHeld
 have hHeld := hHeld2
 clear hHeld2
 try simp only [List.getElem_toArray, List.getElem_cons_succ, List.getElem_cons_zero, Act.put, List.setIfInBounds_toArray, List.set_cons_zero, List.set_cons_succ]
 refine wpAnyH_take (i := 12) (oi := _) (v := ?v12a) rfl (by kernel_rfl) (by kernel_rfl) (by kernel_rfl) (fun _ _ _ h => h) (Or.inl ⟨by rfl, ?y12a⟩) (by assumption) ?r12a
 case y12a => (intro w hSw; (obtain ⟨hS0, hS1, hS2⟩ := hSw); go_simp <;> with_reducible rfl)
 try simp only [List.getElem_toArray, List.getElem_cons_succ, List.getElem_cons_zero, Act.put, List.setIfInBounds_toArray, List.set_cons_zero, List.set_cons_succ]
 refine wpAnyH_done (by kernel_rfl) ?_ _
 clear hHeld
 have HBO : Hid (bo = ((([UInt8.ofNat 4] ++ Lib.uvarint term) ++ Lib.uvarint had) ++ putLog log)) := by show _ = _; rw [HBE.out]; try simp only [List.append_assoc]
 have HBs := Lib.hid HoL.out
 rw [← HBO.out] at HBs
 obtain ⟨AL, cL, hvL, _⟩ := HBs.out.len
 have HkL := Lib.hid (HKW.out _ HbL.out)
 have hgs : w.heap.size ≤ wA.heap.size := HkA.out.size
 have hgs2 := HbL.out.size
 rw [hvL] at HBs ⊢
 clear HBE HBO
 by_cases hbl : 65536 < bo.length
 ·have hbli : (65536 : Int) < (bo.length : Int) := by omega
  have HF2 := Lib.hid (HF.out _ HkL.out.below hbl)
  go_wp2
  go_ret2
  exact HF2.out
 ·have hbli : decide ((65536 : Int) < (bo.length : Int)) = false := decide_eq_false (by omega)
  go_wp2_with fail
  refine (rframe_any _ bo _ HBs.out (by omega)).mono ?_
  rintro e w9 ⟨v9, rfl, ho9, hb9⟩
  have HG2 := Lib.hid (HG.out w9 v9 (below_then HkL.out.below hb9) hbl (own_more ho9 (Nat.le_trans hgs hgs2)))
  clear ho9 hb9
  go_wp2
  go_ret2
  exact HG2.out
set_option maxRecDepth 100000 in
set_option maxHeartbeats 4000000 in
theorem rmbytes_5 (m : MsgD) (dv lv : Value) (mx : Int) (w : World) (hk0 : m.kd = 5) (hr : mrightS m = 0) (ha : MsgAt w [] m dv lv) (hs : MShort m) (hwf : MWf m) (hm : w.cell? ⟨0, 0, none⟩ = some (.int .i64 mx)) :
  Calls Tryz.prog 46 #[.agg (mCell m dv lv).toArray] w fun r w' => MBPost (mbytesS m) w r w' := by
 have hok := mright_ok hr
 have HF : Hid (∀ W, Below w.heap.size w W → 65536 < (bodyL m).length → MBPost (mbytesS m) w (.returned (.tuple #[.slice none 0 0, .int .i64 3])) W) := fun W hb hl => by
  unfold mbytesS
  rw [if_pos hr, if_pos hl]
  exact ⟨none, 0, rfl, fun M hM => Bs.nil _ _, hb⟩
 have HG : Hid (∀ W v, Below w.heap.size w W → ¬ 65536 < (bodyL m).length → W.ownsRow w.heap.size 5 1 v (frameL (bodyL m)).length ((frameL (bodyL m)).map bV) → MBPost (mbytesS m) w (.returned (.tuple #[v, .int .i64 0])) W) := fun W v hb hl ho => by
  unfold mbytesS
  rw [if_pos hr, if_neg hl]
  exact mbpost_of ho (Nat.le_refl _) hb
 have HRi := Lib.hid (fun W (hk : Keeps [] w W) => rmright_any m dv lv mx W (ha.keep hk (by simp)) hs ((hk.cell (p := ⟨0, 0, none⟩) (by have := World.block_lt_of_cell? w _ hm; simpa using this) (by simp)).trans hm))
 have Ha1 := Lib.hid ha.1; have Ha2 := Lib.hid ha.2; have Hs := Lib.hid hs; have Hwf := Lib.hid hwf
 obtain ⟨Aa, na, rfl, _⟩ := ha.1.len
 obtain ⟨Ba, ka, rfl, _⟩ := ha.2.len
 rw [hr] at HRi
 generalize mbytesS m = RB at *
 have HBo : Hid (bodyL m = bodyL m) := rfl
 clear ha hs hwf hm hr
 obtain ⟨kd, ⟨kind, ag, sh, seq, ep, ds, ser, fr, etg⟩, tag, code, nn, term, had, log, commit, len⟩ := m
 obtain ⟨k1, k6, _, tag0, term0, had0, com0, len0, code0, code1, com1, len1, logl, ask, logs⟩ := hok
 simp only [] at hk0 k1 k6 tag0 term0 had0 com0 len0 code0 code1 com1 len1 logl ask logs Ha1 Ha2
 subst hk0
 obtain ⟨tagM, termM, hadM, nn0, nn1, wfe, wfl⟩ := Hwf.out
 simp only [] at tagM termM hadM nn0 nn1 wfe wfl
 simp only [mCell, eCell, List.cons_append, List.nil_append] at HRi ⊢
 obtain ⟨term, rfl⟩ := Int.eq_ofNat_of_zero_le term0
 have hl_term : term < 18446744073709551616 := by omega
 have hw_term : IntKind.u64.wrap (term : Int) = (term : Int) := by rw [IntKind.wrap_u64]; omega
 obtain ⟨commit, rfl⟩ := Int.eq_ofNat_of_zero_le com0
 have hl_commit : commit < 18446744073709551616 := by omega
 have hw_commit : IntKind.u64.wrap (commit : Int) = (commit : Int) := by rw [IntKind.wrap_u64]; omega
 have HBE : Hid (bodyL ⟨(5 : Int), ⟨kind, ag, sh, seq, ep, ds, ser, fr, etg⟩, tag, code, nn, (term : Int), had, log, (commit : Int), len⟩ = [UInt8.ofNat 5] ++ (Lib.uvarint term ++ Lib.uvarint commit ++ putLog log)) := by
  show _ = _
  unfold bodyL
  simp only [Int.reduceEq, if_true, if_false, Int.toNat_natCast]
  rfl
 generalize bodyL ⟨(5 : Int), ⟨kind, ag, sh, seq, ep, ds, ser, fr, etg⟩, tag, code, nn, (term : Int), had, log, (commit : Int), len⟩ = bo at *
 clear HBo
 have hwk : IntKind.u8.wrap 5 = 5 := by decide
 generalize hdn : ds.length = dn at *
 generalize hln : log.length = ln at *
 show Calls Tryz.prog 46 #[.agg #[.int .i64 5, .int .i64 kind, .int .i64 ag, .int .i64 sh, .int .i64 seq, .int .i64 ep, .slice Aa dn na, .string ser, .int .i64 fr, .int .i64 etg, .int .i64 tag, .int .i64 code, .int .u64 nn, .int .i64 term, .int .i64 had, .slice Ba ln ka, .int .i64 commit, .int .i64 len]] w fun r w' => MBPost RB w r w'
 obtain ⟨w2, hw2⟩ : ∃ w2, w2 = w.alloc (.cells #[.int .i64 5, .int .i64 kind, .int .i64 ag, .int .i64 sh, .int .i64 seq, .int .i64 ep, .slice Aa dn na, .string ser, .int .i64 fr, .int .i64 etg, .int .i64 tag, .int .i64 code, .int .u64 nn, .int .i64 term, .int .i64 had, .slice Ba ln ka, .int .i64 commit, .int .i64 len] 68) := ⟨_, rfl⟩
 have hk2 : Keeps [] w w2 := by rw [hw2]; exact (Keeps.refl _ _).alloc _
 have hBa : Blk w2 w.heap.size 68 #[.int .i64 5, .int .i64 kind, .int .i64 ag, .int .i64 sh, .int .i64 seq, .int .i64 ep, .slice Aa dn na, .string ser, .int .i64 fr, .int .i64 etg, .int .i64 tag, .int .i64 code, .int .u64 nn, .int .i64 term, .int .i64 had, .slice Ba ln ka, .int .i64 commit, .int .i64 len] := by rw [hw2]; exact Blk.new w _ _
 have Hw2 := Lib.hid hw2; have HBa := Lib.hid hBa; have Hk2 := Lib.hid hk2
 have hgw : w.heap.size < w2.heap.size := hBa.lt
 clear hw2 hBa hk2
 go_enter Tryz.func46, Tryz.ntmps46
 go_upto_region 1 with (fail)
 rw [← Hw2.out]
 clear Hw2
 have HRg := Lib.hid (blk_range HBa.out)
 have HRi2 := Lib.hid (HRi.out w2 Hk2.out)
 clear HRi
 obtain ⟨g, hg⟩ : ∃ g, g = w.heap.size := ⟨_, rfl⟩
 rw [← hg] at HBa HRg hgw ⊢
 have Hg := Lib.hid hg
 clear hg
 go_wp2_with (refine wpList_load_mid rfl 68 (.tmp 1) rfl g 0 rfl _ _ HRg.out Tryz.underlying68 rfl (by kernel_rfl) ?_)
 refine HRi2.out.mono ?_
 rintro r w3 ⟨rfl, hb3⟩
 have HB3 := Lib.hid (HBa.out.below hb3 hgw)
 have Hk3 : Hid (Keeps [] w w3) := Hk2.out.trans (Keeps.of_below (M := []) hb3) (by simp)
 have hg3 : g < w3.heap.size := HB3.out.lt
 clear hb3 HRg HRi2 HBa Hk2 hgw
 obtain ⟨q0, q1, q2, q3, q4, q5, q6, q7, q8, q9, qa, qb, qc, qd, qe, qf, qg, qh, qz⟩ := blk18 HB3.out
 have Hdn := Lib.hid hdn; have Hln := Lib.hid hln
 clear hdn hln
 go_upto_region 15 with (fail)
 clear q0 q1 q2 q3 q4 q5 q6 q7 q8 q9 qa qb qc qd qe qf qg qh qz
 have HbsA : Hid (Bs (w3.alloc (.cells #[.int .u8 5] 5)) [] (.slice (some ⟨w3.heap.size, 0, none⟩) 1 1) [UInt8.ofNat 5]) := bs_new w3 (UInt8.ofNat 5)
 have HkA : Hid (Keeps [] w (w3.alloc (.cells #[.int .u8 5] 5))) := Hk3.out.alloc _
 have HBA := Lib.hid (HB3.out.below (below_new' w3 (.cells #[.int .u8 5] 5)) hg3)
 generalize w3.alloc (.cells #[.int .u8 5] 5) = wA at *
 have hgA : g < wA.heap.size := HBA.out.lt
 have HlA : Hid (([UInt8.ofNat 5] : List UInt8).length ≤ 1) := Nat.le_refl _
 have HSB : Hid (∀ W, Below wA.heap.size wA W → W.cell? ⟨g, 13, none⟩ = some (.int .i64 term) ∧ W.cell? ⟨g, 16, none⟩ = some (.int .i64 commit) ∧ W.cell? ⟨g, 15, none⟩ = some (.slice Ba ln ka)) := fun W hb => ⟨(hb.cell (p := ⟨g, 13, none⟩) hgA).trans (HBA.out.cell 13), (hb.cell (p := ⟨g, 16, none⟩) hgA).trans (HBA.out.cell 16), (hb.cell (p := ⟨g, 15, none⟩) hgA).trans (HBA.out.cell 15)⟩
 have HKW : Hid (∀ W, Below wA.heap.size wA W → Keeps [] w W) := fun W hb => HkA.out.trans (Keeps.of_below (M := []) hb) (by simp)
 refine wp_region_held_drew (S := (fun W => W.cell? ⟨g, 13, none⟩ = some (.int .i64 term) ∧ W.cell? ⟨g, 16, none⟩ = some (.int .i64 commit) ∧ W.cell? ⟨g, 15, none⟩ = some (.slice Ba ln ka))) (by kernel_rfl) (HSB.out _ (bdrewG (Below.refl _ wA))) (fun hHeld => ?_)
 have HdA : Hid (Below wA.heap.size wA wA.drew) := bdrewG (Below.refl _ wA)
 have HbsD : Hid (Bs wA.drew [] (.slice (some ⟨w3.heap.size, 0, none⟩) 1 1) [UInt8.ofNat 5]) := HbsA.out
 refine wpAnyH_take (i := 0) (oi := _) (v := ?v0a) rfl (by kernel_rfl) (by kernel_rfl) (by kernel_rfl) (fun _ _ _ h => h) (Or.inl ⟨by rfl, ?y0a⟩) (by assumption) ?r0a
 case y0a => (intro w hSw; (obtain ⟨hS0, hS1, hS2⟩ := hSw); go_simp <;> with_reducible rfl)
 try simp only [List.getElem_toArray, List.getElem_cons_succ, List.getElem_cons_zero, Act.put, List.setIfInBounds_toArray, List.set_cons_zero, List.set_cons_succ]
 refine wpAnyH_take (i := 1) (oi := _) (v := ?v1a) rfl (by kernel_rfl) (by kernel_rfl) (by kernel_rfl) (fun _ _ _ h => h) (Or.inl ⟨by rfl, ?y1a⟩) (by assumption) ?r1a
 case y1a => (intro w hSw; (obtain ⟨hS0, hS1, hS2⟩ := hSw); go_simp <;> with_reducible rfl)
 try simp only [List.getElem_toArray, List.getElem_cons_succ, List.getElem_cons_zero, Act.put, List.setIfInBounds_toArray, List.set_cons_zero, List.set_cons_succ]
 refine wpAnyH_take (i := 2) (oi := _) (v := ?v2a) rfl (by kernel_rfl) (by kernel_rfl) (by kernel_rfl) (fun _ _ _ h => h) (Or.inl ⟨by rfl, ?y2a⟩) (by assumption) ?r2a
 case y2a => (intro w hSw; (obtain ⟨hS0, hS1, hS2⟩ := hSw); go_simp <;> with_reducible rfl)
 try simp only [List.getElem_toArray, List.getElem_cons_succ, List.getElem_cons_zero, Act.put, List.setIfInBounds_toArray, List.set_cons_zero, List.set_cons_succ]
 refine wpAnyH_take (i := 3) (oi := _) (v := ?v3a) rfl (by kernel_rfl) (by kernel_rfl) (by kernel_rfl) (fun _ _ _ h => h) (Or.inl ⟨by rfl, ?y3a⟩) (by assumption) ?r3a
 case y3a => (intro w hSw; (obtain ⟨hS0, hS1, hS2⟩ := hSw); go_simp <;> with_reducible rfl)
 try simp only [List.getElem_toArray, List.getElem_cons_succ, List.getElem_cons_zero, Act.put, List.setIfInBounds_toArray, List.set_cons_zero, List.set_cons_succ]
 refine wpAnyH_take (i := 5) (oi := _) (v := ?v5a) rfl (by kernel_rfl) (by kernel_rfl) (by kernel_rfl) (fun _ _ _ h => h) (Or.inl ⟨by rfl, ?y5a⟩) (by assumption) ?r5a
 case y5a => (intro w hSw; (obtain ⟨hS0, hS1, hS2⟩ := hSw); go_simp <;> with_reducible rfl)
 try simp only [List.getElem_toArray, List.getElem_cons_succ, List.getElem_cons_zero, Act.put, List.setIfInBounds_toArray, List.set_cons_zero, List.set_cons_succ]
 refine wpAnyH_take (i := 6) (oi := _) (v := ?v6a) rfl (by kernel_rfl) (by kernel_rfl) (by kernel_rfl) (fun _ _ _ h => h) (Or.inl ⟨by rfl, ?y6a⟩) (by assumption) ?r6a
 case y6a => (intro w hSw; (obtain ⟨hS0, hS1, hS2⟩ := hSw); go_simp <;> with_reducible rfl)
 try simp only [List.getElem_toArray, List.getElem_cons_succ, List.getElem_cons_zero, Act.put, List.setIfInBounds_toArray, List.set_cons_zero, List.set_cons_succ]
 refine wpAnyH_take (i := 7) (oi := _) (v := ?v7a) rfl (by kernel_rfl) (by kernel_rfl) (by kernel_rfl) (fun _ _ _ h => h) (Or.inl ⟨by rfl, ?y7a⟩) (by assumption) ?r7a
 case y7a => (intro w hSw; (obtain ⟨hS0, hS1, hS2⟩ := hSw); go_simp <;> with_reducible rfl)
 try simp only [List.getElem_toArray, List.getElem_cons_succ, List.getElem_cons_zero, Act.put, List.setIfInBounds_toArray, List.set_cons_zero, List.set_cons_succ]
 refine wpAnyH_take (i := 9) (oi := _) (v := ?v9a) rfl (by kernel_rfl) (by kernel_rfl) (by kernel_rfl) (fun _ _ _ h => h) (Or.inl ⟨by rfl, ?y9a⟩) (by assumption) ?r9a
 case y9a => (intro w hSw; (obtain ⟨hS0, hS1, hS2⟩ := hSw); go_simp <;> with_reducible rfl)
 try simp only [List.getElem_toArray, List.getElem_cons_succ, List.getElem_cons_zero, Act.put, List.setIfInBounds_toArray, List.set_cons_zero, List.set_cons_succ]
 refine wpAnyH_take (i := 10) (oi := _) (v := ?v10a) rfl (by kernel_rfl) (by kernel_rfl) (by kernel_rfl) (fun _ _ _ h => h) (Or.inl ⟨by rfl, ?y10a⟩) (by assumption) ?r10a
 case y10a => (intro w hSw; (obtain ⟨hS0, hS1, hS2⟩ := hSw); go_simp <;> with_reducible rfl)
 try simp only [List.getElem_toArray, List.getElem_cons_succ, List.getElem_cons_zero, Act.put, List.setIfInBounds_toArray, List.set_cons_zero, List.set_cons_succ]
 refine wpAnyH_ready (rs := [4]) (by kernel_rfl) (by simp) ?_
 refine AllReadyH.cons (o := _) rfl (fun K hK => ?_) AllReadyH.nil
 go_simp
 refine (rput_any _ [UInt8.ofNat 5] term _ HbsD.out hl_term (by have := HlA.out; omega)).mono ?_
 rintro e w1 ⟨v2, rfl, ho9, hb9⟩
 have Hb4 := Lib.hid (bthenG HdA.out hb9)
 have Hlb6 := Lib.hid Hb4.out.size
 have Ho3 := Lib.hid (own_bs ho9)
 have Hl7 : Hid (([UInt8.ofNat 5] ++ Lib.uvarint term).length ≤ 1 + 10) := by
  have h1 := Lib.uvarint_length64 (x := term) hl_term
  have h2 := HlA.out
  show List.length _ ≤ _
  rw [List.length_append]
  omega
 clear hb9 ho9
 refine hK.out _ _ (HSB.out _ Hb4.out) (fun hHeld2 => ?_)
 clear hK K hHeld
 have hHeld := hHeld2
 clear hHeld2
 try simp only [List.getElem_toArray, List.getElem_cons_succ, List.getElem_cons_zero, Act.put, List.setIfInBounds_toArray, List.set_cons_zero, List.set_cons_succ]
 refine wpAnyH_ready (rs := [8]) (by kernel_rfl) (by simp) ?_
 refine AllReadyH.cons (o := _) rfl (fun K hK => ?_) AllReadyH.nil
 go_simp
 refine (rput_any v2 ([UInt8.ofNat 5] ++ Lib.uvarint term) commit _ Ho3.out hl_commit (by have := Hl7.out; omega)).mono ?_
 rintro e w8 ⟨v9, rfl, ho9, hb9⟩
 have Hb11 := Lib.hid (bthenG Hb4.out hb9)
 have Hlb13 := Lib.hid Hb11.out.size
 have Ho10 := Lib.hid (own_bs ho9)
 have Hl14 : Hid ((([UInt8.ofNat 5] ++ Lib.uvarint term) ++ Lib.uvarint commit).length ≤ 1 + 10 + 10) := by
  have h1 := Lib.uvarint_length64 (x := commit) hl_commit
  have h2 := Hl7.out
  show List.length _ ≤ _
  rw [List.length_append]
  omega
 clear hb9 ho9
 refine hK.out _ _ (HSB.out _ Hb11.out) (fun hHeld2 => ?_)
 clear hK K hHeld
 have hHeld := hHeld2
 clear hHeld2
 try simp only [List.getElem_toArray, List.getElem_cons_succ, List.getElem_cons_zero, Act.put, List.setIfInBounds_toArray, List.set_cons_zero, List.set_cons_succ]
 refine wpAnyH_ready (rs := [11]) (by kernel_rfl) (by simp) ?_
 refine AllReadyH.cons (o := _) rfl (fun K hK => ?_) AllReadyH.nil
 go_simp
 refine (rlog_any v9 (([UInt8.ofNat 5] ++ Lib.uvarint term) ++ Lib.uvarint commit) _ log _ Ho10.out (Ha2.out.keep (M' := []) (HKW.out _ Hb11.out) (by simp)) (fun e he => ⟨logs (by decide) e he, Hs.out.2.2 e he, wfl e he⟩) (by have := Hln.out; omega) (by have := Hl14.out; omega)).mono ?_
 rintro e wL ⟨vL, rfl, hoL, hbL⟩
 have HbL := Lib.hid (bthenG Hb11.out hbL)
 have HoL := Lib.hid (own_bs hoL)
 clear hbL hoL
 refine hK.out _ _ (HSB.out _ HbL.out) (fun hHeld2 => ?_)
 clear hK K hHeld
 have hHeld := hHeld2
 clear hHeld2
 try simp only [List.getElem_toArray, List.getElem_cons_succ, List.getElem_cons_zero, Act.put, List.setIfInBounds_toArray, List.set_cons_zero, List.set_cons_succ]
 refine wpAnyH_take (i := 12) (oi := _) (v := ?v12a) rfl (by kernel_rfl) (by kernel_rfl) (by kernel_rfl) (fun _ _ _ h => h) (Or.inl ⟨by rfl, ?y12a⟩) (by assumption) ?r12a
 case y12a => (intro w hSw; (obtain ⟨hS0, hS1, hS2⟩ := hSw); go_simp <;> with_reducible rfl)
 try simp only [List.getElem_toArray, List.getElem_cons_succ, List.getElem_cons_zero, Act.put, List.setIfInBounds_toArray, List.set_cons_zero, List.set_cons_succ]
 refine wpAnyH_done (by kernel_rfl) ?_ _
 clear hHeld
 have HBO : Hid (bo = ((([UInt8.ofNat 5] ++ Lib.uvarint term) ++ Lib.uvarint commit) ++ putLog log)) := by show _ = _; rw [HBE.out]; try simp only [List.append_assoc]
 have HBs := Lib.hid HoL.out
 rw [← HBO.out] at HBs
 obtain ⟨AL, cL, hvL, _⟩ := HBs.out.len
 have HkL := Lib.hid (HKW.out _ HbL.out)
 have hgs : w.heap.size ≤ wA.heap.size := HkA.out.size
 have hgs2 := HbL.out.size
 rw [hvL] at HBs ⊢
 clear HBE HBO
 by_cases hbl : 65536 < bo.length
 ·have hbli : (65536 : Int) < (bo.length : Int) := by omega
  have HF2 := Lib.hid (HF.out _ HkL.out.below hbl)
  go_wp2
  go_ret2
  exact HF2.out
 ·have hbli : decide ((65536 : Int) < (bo.length : Int)) = false := decide_eq_false (by omega)
  go_wp2_with fail
  refine (rframe_any _ bo _ HBs.out (by omega)).mono ?_
  rintro e w9 ⟨v9, rfl, ho9, hb9⟩
  have HG2 := Lib.hid (HG.out w9 v9 (below_then HkL.out.below hb9) hbl (own_more ho9 (Nat.le_trans hgs hgs2)))
  clear ho9 hb9
  go_wp2
  go_ret2
  exact HG2.out
set_option maxRecDepth 100000 in
set_option maxHeartbeats 4000000 in
theorem rmbytes_6 (m : MsgD) (dv lv : Value) (mx : Int) (w : World) (hk0 : m.kd = 6) (hr : mrightS m = 0) (ha : MsgAt w [] m dv lv) (hs : MShort m) (hwf : MWf m) (hm : w.cell? ⟨0, 0, none⟩ = some (.int .i64 mx)) :
  Calls Tryz.prog 46 #[.agg (mCell m dv lv).toArray] w fun r w' => MBPost (mbytesS m) w r w' := by
 have hok := mright_ok hr
 have HF : Hid (∀ W, Below w.heap.size w W → 65536 < (bodyL m).length → MBPost (mbytesS m) w (.returned (.tuple #[.slice none 0 0, .int .i64 3])) W) := fun W hb hl => by
  unfold mbytesS
  rw [if_pos hr, if_pos hl]
  exact ⟨none, 0, rfl, fun M hM => Bs.nil _ _, hb⟩
 have HG : Hid (∀ W v, Below w.heap.size w W → ¬ 65536 < (bodyL m).length → W.ownsRow w.heap.size 5 1 v (frameL (bodyL m)).length ((frameL (bodyL m)).map bV) → MBPost (mbytesS m) w (.returned (.tuple #[v, .int .i64 0])) W) := fun W v hb hl ho => by
  unfold mbytesS
  rw [if_pos hr, if_neg hl]
  exact mbpost_of ho (Nat.le_refl _) hb
 have HRi := Lib.hid (fun W (hk : Keeps [] w W) => rmright_any m dv lv mx W (ha.keep hk (by simp)) hs ((hk.cell (p := ⟨0, 0, none⟩) (by have := World.block_lt_of_cell? w _ hm; simpa using this) (by simp)).trans hm))
 have Ha1 := Lib.hid ha.1; have Ha2 := Lib.hid ha.2; have Hs := Lib.hid hs; have Hwf := Lib.hid hwf
 obtain ⟨Aa, na, rfl, _⟩ := ha.1.len
 obtain ⟨Ba, ka, rfl, _⟩ := ha.2.len
 rw [hr] at HRi
 generalize mbytesS m = RB at *
 have HBo : Hid (bodyL m = bodyL m) := rfl
 clear ha hs hwf hm hr
 obtain ⟨kd, ⟨kind, ag, sh, seq, ep, ds, ser, fr, etg⟩, tag, code, nn, term, had, log, commit, len⟩ := m
 obtain ⟨k1, k6, _, tag0, term0, had0, com0, len0, code0, code1, com1, len1, logl, ask, logs⟩ := hok
 simp only [] at hk0 k1 k6 tag0 term0 had0 com0 len0 code0 code1 com1 len1 logl ask logs Ha1 Ha2
 subst hk0
 obtain ⟨tagM, termM, hadM, nn0, nn1, wfe, wfl⟩ := Hwf.out
 simp only [] at tagM termM hadM nn0 nn1 wfe wfl
 simp only [mCell, eCell, List.cons_append, List.nil_append] at HRi ⊢
 obtain ⟨term, rfl⟩ := Int.eq_ofNat_of_zero_le term0
 have hl_term : term < 18446744073709551616 := by omega
 have hw_term : IntKind.u64.wrap (term : Int) = (term : Int) := by rw [IntKind.wrap_u64]; omega
 obtain ⟨len, rfl⟩ := Int.eq_ofNat_of_zero_le len0
 have hl_len : len < 18446744073709551616 := by omega
 have hw_len : IntKind.u64.wrap (len : Int) = (len : Int) := by rw [IntKind.wrap_u64]; omega
 have HBE : Hid (bodyL ⟨(6 : Int), ⟨kind, ag, sh, seq, ep, ds, ser, fr, etg⟩, tag, code, nn, (term : Int), had, log, commit, (len : Int)⟩ = [UInt8.ofNat 6] ++ (Lib.uvarint term ++ Lib.uvarint len)) := by
  show _ = _
  unfold bodyL
  simp only [Int.reduceEq, if_true, if_false, Int.toNat_natCast]
  rfl
 generalize bodyL ⟨(6 : Int), ⟨kind, ag, sh, seq, ep, ds, ser, fr, etg⟩, tag, code, nn, (term : Int), had, log, commit, (len : Int)⟩ = bo at *
 clear HBo
 have hwk : IntKind.u8.wrap 6 = 6 := by decide
 generalize hdn : ds.length = dn at *
 generalize hln : log.length = ln at *
 show Calls Tryz.prog 46 #[.agg #[.int .i64 6, .int .i64 kind, .int .i64 ag, .int .i64 sh, .int .i64 seq, .int .i64 ep, .slice Aa dn na, .string ser, .int .i64 fr, .int .i64 etg, .int .i64 tag, .int .i64 code, .int .u64 nn, .int .i64 term, .int .i64 had, .slice Ba ln ka, .int .i64 commit, .int .i64 len]] w fun r w' => MBPost RB w r w'
 obtain ⟨w2, hw2⟩ : ∃ w2, w2 = w.alloc (.cells #[.int .i64 6, .int .i64 kind, .int .i64 ag, .int .i64 sh, .int .i64 seq, .int .i64 ep, .slice Aa dn na, .string ser, .int .i64 fr, .int .i64 etg, .int .i64 tag, .int .i64 code, .int .u64 nn, .int .i64 term, .int .i64 had, .slice Ba ln ka, .int .i64 commit, .int .i64 len] 68) := ⟨_, rfl⟩
 have hk2 : Keeps [] w w2 := by rw [hw2]; exact (Keeps.refl _ _).alloc _
 have hBa : Blk w2 w.heap.size 68 #[.int .i64 6, .int .i64 kind, .int .i64 ag, .int .i64 sh, .int .i64 seq, .int .i64 ep, .slice Aa dn na, .string ser, .int .i64 fr, .int .i64 etg, .int .i64 tag, .int .i64 code, .int .u64 nn, .int .i64 term, .int .i64 had, .slice Ba ln ka, .int .i64 commit, .int .i64 len] := by rw [hw2]; exact Blk.new w _ _
 have Hw2 := Lib.hid hw2; have HBa := Lib.hid hBa; have Hk2 := Lib.hid hk2
 have hgw : w.heap.size < w2.heap.size := hBa.lt
 clear hw2 hBa hk2
 go_enter Tryz.func46, Tryz.ntmps46
 go_upto_region 1 with (fail)
 rw [← Hw2.out]
 clear Hw2
 have HRg := Lib.hid (blk_range HBa.out)
 have HRi2 := Lib.hid (HRi.out w2 Hk2.out)
 clear HRi
 obtain ⟨g, hg⟩ : ∃ g, g = w.heap.size := ⟨_, rfl⟩
 rw [← hg] at HBa HRg hgw ⊢
 have Hg := Lib.hid hg
 clear hg
 go_wp2_with (refine wpList_load_mid rfl 68 (.tmp 1) rfl g 0 rfl _ _ HRg.out Tryz.underlying68 rfl (by kernel_rfl) ?_)
 refine HRi2.out.mono ?_
 rintro r w3 ⟨rfl, hb3⟩
 have HB3 := Lib.hid (HBa.out.below hb3 hgw)
 have Hk3 : Hid (Keeps [] w w3) := Hk2.out.trans (Keeps.of_below (M := []) hb3) (by simp)
 have hg3 : g < w3.heap.size := HB3.out.lt
 clear hb3 HRg HRi2 HBa Hk2 hgw
 obtain ⟨q0, q1, q2, q3, q4, q5, q6, q7, q8, q9, qa, qb, qc, qd, qe, qf, qg, qh, qz⟩ := blk18 HB3.out
 have Hdn := Lib.hid hdn; have Hln := Lib.hid hln
 clear hdn hln
 go_upto_region 17 with (fail)
 clear q0 q1 q2 q3 q4 q5 q6 q7 q8 q9 qa qb qc qd qe qf qg qh qz
 have HbsA : Hid (Bs (w3.alloc (.cells #[.int .u8 6] 5)) [] (.slice (some ⟨w3.heap.size, 0, none⟩) 1 1) [UInt8.ofNat 6]) := bs_new w3 (UInt8.ofNat 6)
 have HkA : Hid (Keeps [] w (w3.alloc (.cells #[.int .u8 6] 5))) := Hk3.out.alloc _
 have HBA := Lib.hid (HB3.out.below (below_new' w3 (.cells #[.int .u8 6] 5)) hg3)
 generalize w3.alloc (.cells #[.int .u8 6] 5) = wA at *
 have hgA : g < wA.heap.size := HBA.out.lt
 have HlA : Hid (([UInt8.ofNat 6] : List UInt8).length ≤ 1) := Nat.le_refl _
 have HSB : Hid (∀ W, Below wA.heap.size wA W → W.cell? ⟨g, 13, none⟩ = some (.int .i64 term) ∧ W.cell? ⟨g, 17, none⟩ = some (.int .i64 len)) := fun W hb => ⟨(hb.cell (p := ⟨g, 13, none⟩) hgA).trans (HBA.out.cell 13), (hb.cell (p := ⟨g, 17, none⟩) hgA).trans (HBA.out.cell 17)⟩
 have HKW : Hid (∀ W, Below wA.heap.size wA W → Keeps [] w W) := fun W hb => HkA.out.trans (Keeps.of_below (M := []) hb) (by simp)
 refine wp_region_held_drew (S := (fun W => W.cell? ⟨g, 13, none⟩ = some (.int .i64 term) ∧ W.cell? ⟨g, 17, none⟩ = some (.int .i64 len))) (by kernel_rfl) (HSB.out _ (bdrewG (Below.refl _ wA))) (fun hHeld => ?_)
 have HdA : Hid (Below wA.heap.size wA wA.drew) := bdrewG (Below.refl _ wA)
 have HbsD : Hid (Bs wA.drew [] (.slice (some ⟨w3.heap.size, 0, none⟩) 1 1) [UInt8.ofNat 6]) := HbsA.out
 refine wpAnyH_take (i := 0) (oi := _) (v := ?v0a) rfl (by kernel_rfl) (by kernel_rfl) (by kernel_rfl) (fun _ _ _ h => h) (Or.inl ⟨by rfl, ?y0a⟩) (by assumption) ?r0a
 case y0a => (intro w hSw; (obtain ⟨hS0, hS1⟩ := hSw); go_simp <;> with_reducible rfl)
 try simp only [List.getElem_toArray, List.getElem_cons_succ, List.getElem_cons_zero, Act.put, List.setIfInBounds_toArray, List.set_cons_zero, List.set_cons_succ]
 refine wpAnyH_take (i := 1) (oi := _) (v := ?v1a) rfl (by kernel_rfl) (by kernel_rfl) (by kernel_rfl) (fun _ _ _ h => h) (Or.inl ⟨by rfl, ?y1a⟩) (by assumption) ?r1a
 case y1a => (intro w hSw; (obtain ⟨hS0, hS1⟩ := hSw); go_simp <;> with_reducible rfl)
 try simp only [List.getElem_toArray, List.getElem_cons_succ, List.getElem_cons_zero, Act.put, List.setIfInBounds_toArray, List.set_cons_zero, List.set_cons_succ]
 refine wpAnyH_take (i := 2) (oi := _) (v := ?v2a) rfl (by kernel_rfl) (by kernel_rfl) (by kernel_rfl) (fun _ _ _ h => h) (Or.inl ⟨by rfl, ?y2a⟩) (by assumption) ?r2a
 case y2a => (intro w hSw; (obtain ⟨hS0, hS1⟩ := hSw); go_simp <;> with_reducible rfl)
 try simp only [List.getElem_toArray, List.getElem_cons_succ, List.getElem_cons_zero, Act.put, List.setIfInBounds_toArray, List.set_cons_zero, List.set_cons_succ]
 refine wpAnyH_take (i := 3) (oi := _) (v := ?v3a) rfl (by kernel_rfl) (by kernel_rfl) (by kernel_rfl) (fun _ _ _ h => h) (Or.inl ⟨by rfl, ?y3a⟩) (by assumption) ?r3a
 case y3a => (intro w hSw; (obtain ⟨hS0, hS1⟩ := hSw); go_simp <;> with_reducible rfl)
 try simp only [List.getElem_toArray, List.getElem_cons_succ, List.getElem_cons_zero, Act.put, List.setIfInBounds_toArray, List.set_cons_zero, List.set_cons_succ]
 refine wpAnyH_take (i := 5) (oi := _) (v := ?v5a) rfl (by kernel_rfl) (by kernel_rfl) (by kernel_rfl) (fun _ _ _ h => h) (Or.inl ⟨by rfl, ?y5a⟩) (by assumption) ?r5a
 case y5a => (intro w hSw; (obtain ⟨hS0, hS1⟩ := hSw); go_simp <;> with_reducible rfl)
 try simp only [List.getElem_toArray, List.getElem_cons_succ, List.getElem_cons_zero, Act.put, List.setIfInBounds_toArray, List.set_cons_zero, List.set_cons_succ]
 refine wpAnyH_take (i := 6) (oi := _) (v := ?v6a) rfl (by kernel_rfl) (by kernel_rfl) (by kernel_rfl) (fun _ _ _ h => h) (Or.inl ⟨by rfl, ?y6a⟩) (by assumption) ?r6a
 case y6a => (intro w hSw; (obtain ⟨hS0, hS1⟩ := hSw); go_simp <;> with_reducible rfl)
 try simp only [List.getElem_toArray, List.getElem_cons_succ, List.getElem_cons_zero, Act.put, List.setIfInBounds_toArray, List.set_cons_zero, List.set_cons_succ]
 refine wpAnyH_take (i := 7) (oi := _) (v := ?v7a) rfl (by kernel_rfl) (by kernel_rfl) (by kernel_rfl) (fun _ _ _ h => h) (Or.inl ⟨by rfl, ?y7a⟩) (by assumption) ?r7a
 case y7a => (intro w hSw; (obtain ⟨hS0, hS1⟩ := hSw); go_simp <;> with_reducible rfl)
 try simp only [List.getElem_toArray, List.getElem_cons_succ, List.getElem_cons_zero, Act.put, List.setIfInBounds_toArray, List.set_cons_zero, List.set_cons_succ]
 refine wpAnyH_ready (rs := [4]) (by kernel_rfl) (by simp) ?_
 refine AllReadyH.cons (o := _) rfl (fun K hK => ?_) AllReadyH.nil
 go_simp
 refine (rput_any _ [UInt8.ofNat 6] term _ HbsD.out hl_term (by have := HlA.out; omega)).mono ?_
 rintro e w1 ⟨v2, rfl, ho9, hb9⟩
 have Hb4 := Lib.hid (bthenG HdA.out hb9)
 have Hlb6 := Lib.hid Hb4.out.size
 have Ho3 := Lib.hid (own_bs ho9)
 have Hl7 : Hid (([UInt8.ofNat 6] ++ Lib.uvarint term).length ≤ 1 + 10) := by
  have h1 := Lib.uvarint_length64 (x := term) hl_term
  have h2 := HlA.out
  show List.length _ ≤ _
  rw [List.length_append]
  omega
 clear hb9 ho9
 refine hK.out _ _ (HSB.out _ Hb4.out) (fun hHeld2 => ?_)
 clear hK K hHeld
 have hHeld := hHeld2
 clear hHeld2
 try simp only [List.getElem_toArray, List.getElem_cons_succ, List.getElem_cons_zero, Act.put, List.setIfInBounds_toArray, List.set_cons_zero, List.set_cons_succ]
 refine wpAnyH_ready (rs := [8]) (by kernel_rfl) (by simp) ?_
 refine AllReadyH.cons (o := _) rfl (fun K hK => ?_) AllReadyH.nil
 go_simp
 refine (rput_any v2 ([UInt8.ofNat 6] ++ Lib.uvarint term) len _ Ho3.out hl_len (by have := Hl7.out; omega)).mono ?_
 rintro e w8 ⟨v9, rfl, ho9, hb9⟩
 have Hb11 := Lib.hid (bthenG Hb4.out hb9)
 have Hlb13 := Lib.hid Hb11.out.size
 have Ho10 := Lib.hid (own_bs ho9)
 have Hl14 : Hid ((([UInt8.ofNat 6] ++ Lib.uvarint term) ++ Lib.uvarint len).length ≤ 1 + 10 + 10) := by
  have h1 := Lib.uvarint_length64 (x := len) hl_len
  have h2 := Hl7.out
  show List.length _ ≤ _
  rw [List.length_append]
  omega
 clear hb9 ho9
 refine hK.out _ _ (HSB.out _ Hb11.out) (fun hHeld2 => ?_)
 clear hK K hHeld
 have hHeld := hHeld2
 clear hHeld2
 try simp only [List.getElem_toArray, List.getElem_cons_succ, List.getElem_cons_zero, Act.put, List.setIfInBounds_toArray, List.set_cons_zero, List.set_cons_succ]
 refine wpAnyH_take (i := 9) (oi := _) (v := ?v9a) rfl (by kernel_rfl) (by kernel_rfl) (by kernel_rfl) (fun _ _ _ h => h) (Or.inl ⟨by rfl, ?y9a⟩) (by assumption) ?r9a
 case y9a => (intro w hSw; (obtain ⟨hS0, hS1⟩ := hSw); go_simp <;> with_reducible rfl)
 try simp only [List.getElem_toArray, List.getElem_cons_succ, List.getElem_cons_zero, Act.put, List.setIfInBounds_toArray, List.set_cons_zero, List.set_cons_succ]
 refine wpAnyH_done (by kernel_rfl) ?_ _
 clear hHeld
 have HBO : Hid (bo = (([UInt8.ofNat 6] ++ Lib.uvarint term) ++ Lib.uvarint len)) := by show _ = _; rw [HBE.out]; try simp only [List.append_assoc]
 have HBs := Lib.hid Ho10.out
 rw [← HBO.out] at HBs
 obtain ⟨AL, cL, hvL, _⟩ := HBs.out.len
 have HkL := Lib.hid (HKW.out _ Hb11.out)
 have hgs : w.heap.size ≤ wA.heap.size := HkA.out.size
 have hgs2 := Hb11.out.size
 rw [hvL] at HBs ⊢
 clear HBE HBO
 by_cases hbl : 65536 < bo.length
 ·have hbli : (65536 : Int) < (bo.length : Int) := by omega
  have HF2 := Lib.hid (HF.out _ HkL.out.below hbl)
  go_wp2
  go_ret2
  exact HF2.out
 ·have hbli : decide ((65536 : Int) < (bo.length : Int)) = false := decide_eq_false (by omega)
  go_wp2_with fail
  refine (rframe_any _ bo _ HBs.out (by omega)).mono ?_
  rintro e w9 ⟨v9, rfl, ho9, hb9⟩
  have HG2 := Lib.hid (HG.out w9 v9 (below_then HkL.out.below hb9) hbl (own_more ho9 (Nat.le_trans hgs hgs2)))
  clear ho9 hb9
  go_wp2
  go_ret2
  exact HG2.out
theorem rmbytes_any (m : MsgD) (dv lv : Value) (mx : Int) (w : World) (ha : MsgAt w [] m dv lv) (hs : MShort m) (hwf : MWf m) (hm : w.cell? ⟨0, 0, none⟩ = some (.int .i64 mx)) :
  Calls Tryz.prog 46 #[.agg (mCell m dv lv).toArray] w fun r w' => MBPost (mbytesS m) w r w' := by
 by_cases hr : mrightS m = 0
 ·have h := mright_ok hr
  have h1 := h.k1
  have h2 := h.k6
  rcases (show m.kd = 1 ∨ m.kd = 2 ∨ m.kd = 3 ∨ m.kd = 4 ∨ m.kd = 5 ∨ m.kd = 6 by omega) with h | h | h | h | h | h
  ·exact rmbytes_1 m dv lv mx w h hr ha hs hwf hm
  ·exact rmbytes_2 m dv lv mx w h hr ha hs hwf hm
  ·exact rmbytes_3 m dv lv mx w h hr ha hs hwf hm
  ·exact rmbytes_4 m dv lv mx w h hr ha hs hwf hm
  ·exact rmbytes_5 m dv lv mx w h hr ha hs hwf hm
  ·exact rmbytes_6 m dv lv mx w h hr ha hs hwf hm
 ·exact rmbytes_no m dv lv mx w hr ha hs hwf hm
end Go.Proofs.YtinnifhnabncfaaGreatDoor.Vi
end
