/- Texts put together: Msg4, Crc, CatLay, Cat, FrB, Msg5, StB, Tape4. -/
import Derived.Deep.RegionHeld3
import Derived.Shelf.SlGeneric
import Derived.Shelf.Spec.SlicesGrow
import Derived.Test.YtinnifhnabncfaaGreatDoorProg
import Derived.ArgAppend
import Derived.Test.YtinnifhnabncfaaGreatDoorMN3
import Derived.Test.YtinnifhnabncfaaGreatDoorMN4
set_option linter.unusedVariables false
set_option linter.unusedSimpArgs false
section
namespace Go.Proofs.YtinnifhnabncfaaGreatDoor.Vi
open Go.RowKit Base Mem Go.Shelf
def bodyL (m : MsgD) : List UInt8 :=
 [UInt8.ofNat m.kd.toNat] ++ (if m.kd = 1 then eBlob m.en
 else if m.kd = 2 then Lib.uvarint m.tag.toNat ++ Lib.uvarint m.code.toNat ++ Lib.uvarint m.nn.toNat
 else if m.kd = 4 then Lib.uvarint m.term.toNat ++ Lib.uvarint m.had.toNat ++ putLog m.log
 else if m.kd = 5 then Lib.uvarint m.term.toNat ++ Lib.uvarint m.commit.toNat ++ putLog m.log
 else if m.kd = 6 then Lib.uvarint m.term.toNat ++ Lib.uvarint m.len.toNat
 else Lib.uvarint m.term.toNat)
/-- Its numbers go into their types. -/
def MWf (m : MsgD) : Prop := m.tag ≤ 9223372036854775807 ∧ m.term ≤ 9223372036854775807 ∧ m.had ≤ 9223372036854775807 ∧ 0 ≤ m.nn ∧ m.nn < 18446744073709551616 ∧ Wf m.en ∧ ∀ e ∈ m.log, Wf e
theorem logRight_all {l : List EntryD} (h : logRight l = 0) : ∀ e ∈ l, rightE e = 0 := by
 induction l with
 | nil => simp
 | cons e l ih =>
  unfold logRight at h
  intro x hx
  by_cases he : rightE e = 0
  ·rw [if_pos he] at h
   rcases List.mem_cons.1 hx with rfl | hx
   ·exact he
   ·exact ih h x hx
  ·rw [if_neg he] at h; exact absurd h he
structure MOk (m : MsgD) : Prop where
 k1 : 1 ≤ m.kd
 k6 : m.kd ≤ 6
 zero : zeroS m = true
 tag0 : 0 ≤ m.tag
 term0 : 0 ≤ m.term
 had0 : 0 ≤ m.had
 com0 : 0 ≤ m.commit
 len0 : 0 ≤ m.len
 code0 : 0 ≤ m.code
 code1 : m.code ≤ 255
 com1 : m.commit ≤ 128
 len1 : m.len ≤ 128
 logl : m.log.length ≤ 128
 ask : m.kd = 1 → rightE m.en = 0
 logs : m.kd ≠ 1 → ∀ e ∈ m.log, rightE e = 0
theorem mright_ok {m : MsgD} (h : mrightS m = 0) : MOk m := by
 unfold mrightS at h
 by_cases h1 : m.kd < 1 ∨ 6 < m.kd ∨ zeroS m = false
 ·rw [if_pos h1] at h; cases h
 rw [if_neg h1] at h
 have hz : zeroS m = true := by
  cases hz : zeroS m with
  | true => rfl
  | false => exact absurd (.inr (.inr hz)) h1
 have hb : bad2 m = false := by
  cases hb : bad2 m with
  | false => rfl
  | true => rw [hb] at h; cases h
 rw [hb, if_neg (by simp)] at h
 unfold bad2 at hb
 simp at hb
 by_cases hl : 128 < m.log.length
 ·rw [if_pos hl] at h; cases h
 rw [if_neg hl] at h
 refine ⟨by omega, by omega, hz, by omega, by omega, by omega, by omega, by omega, by omega, by omega, by omega, by omega, by omega, fun hk => ?_, fun hk => ?_⟩
 ·rwa [if_pos hk] at h
 ·rw [if_neg hk] at h; exact logRight_all h
set_option maxRecDepth 100000 in
set_option maxHeartbeats 2000000 in
theorem mbody_1 (m : MsgD) (dv lv : Value) (mx : Int) (w : World) (hk : m.kd = 1) (ha : MsgAt w [] m dv lv) (hok : MOk m) (hs : MShort m) (hwf : MWf m) (hm : w.cell? ⟨0, 0, none⟩ = some (.int .i64 mx)) :
  Calls Tryz.prog 100 #[.agg (mCell m dv lv).toArray] w fun r w' => BsPost (bodyL m) w r w' := by
 have hw0 : 0 < w.heap.size := by
  have := World.block_lt_of_cell? w _ hm
  simpa using this
 have hkeepm : Hid (∀ W, Keeps [] w W → W.cell? ⟨0, 0, none⟩ = some (.int .i64 mx)) := fun W hb => (hb.cell (p := ⟨0, 0, none⟩) hw0 (by simp)).trans hm
 have hby := Lib.hid (fun W (hk' : Keeps [] w W) => ebytes_ok m.en dv mx W (hok.ask hk) (ha.1.keep hk' (by simp)) hs.1 hwf.2.2.2.2.2.1 (hkeepm.out W hk'))
 have hbig := bytesE_big (show EOk m.en from ⟨hok.ask hk, hs.1, hwf.2.2.2.2.2.1⟩)
 have HB : Hid (bodyL m = [UInt8.ofNat 1] ++ (eBlob m.en)) := by show _ = _; unfold bodyL; rw [hk]; rfl
 have hnn0 := hwf.2.2.2.1; have hnn1 := hwf.2.2.2.2.1; have hw1 := hwf.1; have hw2 := hwf.2.1; have hw3 := hwf.2.2.1
 have o1 := hok.tag0; have o2 := hok.term0; have o3 := hok.had0; have o4 := hok.com0; have o5 := hok.len0; have o6 := hok.code0; have o7 := hok.code1; have o8 := hok.com1; have o9 := hok.len1
 obtain ⟨Aa, na, rfl, _⟩ := ha.1.len
 obtain ⟨Ba, ka, rfl, _⟩ := ha.2.len
 clear ha hok hs hwf hm
 generalize bodyL m = bo at *
 obtain ⟨kd, ⟨kind, ag, sh, seq, ep, ds, ser, fr, etg⟩, tag, code, nn, term, had, log, commit, len⟩ := m
 simp only [] at HB hnn0 hnn1 hw1 hw2 hw3 o1 o2 o3 o4 o5 o6 o7 o8 o9 hk hbig
 subst hk
 simp only [eCell] at hby
 have hw_k : IntKind.u8.wrap 1 = 1 := by decide
 simp only [mCell, eCell, List.cons_append, List.nil_append]
 obtain ⟨w2, hw2⟩ : ∃ w2, w2 = w.alloc (.cells #[.int .i64 1, .int .i64 kind, .int .i64 ag, .int .i64 sh, .int .i64 seq, .int .i64 ep, .slice Aa ds.length na, .string ser, .int .i64 fr, .int .i64 etg, .int .i64 tag, .int .i64 code, .int .u64 nn, .int .i64 term, .int .i64 had, .slice Ba log.length ka, .int .i64 commit, .int .i64 len] 68) := ⟨_, rfl⟩
 obtain ⟨w3, hw3⟩ : ∃ w3, w3 = w2.alloc (.cells #[.int .u8 1] 5) := ⟨_, rfl⟩
 have hk2 : Keeps [] w w2 := by rw [hw2]; exact (Keeps.refl _ _).alloc _
 have hk3 : Keeps [] w w3 := by rw [hw3]; exact hk2.alloc _
 have hBa2 : Blk w2 w.heap.size 68 #[.int .i64 1, .int .i64 kind, .int .i64 ag, .int .i64 sh, .int .i64 seq, .int .i64 ep, .slice Aa ds.length na, .string ser, .int .i64 fr, .int .i64 etg, .int .i64 tag, .int .i64 code, .int .u64 nn, .int .i64 term, .int .i64 had, .slice Ba log.length ka, .int .i64 commit, .int .i64 len] := by rw [hw2]; exact Blk.new w _ _
 have hBa : Blk w3 w.heap.size 68 #[.int .i64 1, .int .i64 kind, .int .i64 ag, .int .i64 sh, .int .i64 seq, .int .i64 ep, .slice Aa ds.length na, .string ser, .int .i64 fr, .int .i64 etg, .int .i64 tag, .int .i64 code, .int .u64 nn, .int .i64 term, .int .i64 had, .slice Ba log.length ka, .int .i64 commit, .int .i64 len] := by rw [hw3]; exact hBa2.below (below_new' _ _) hBa2.lt
 have hBb : Blk w3 w2.heap.size 5 #[.int .u8 1] := by rw [hw3]; exact Blk.new w2 _ _
 have hb8 : ∀ M, (∀ g ∈ M, g < w.heap.size) → Bs w3 M (.slice (some ⟨w2.heap.size, 0, none⟩) 1 1) [UInt8.ofNat 1] := fun M hM => ⟨_, _, rfl, Nat.le_refl _, rfl, fun _ => ⟨w2.heap.size, 0, rfl, hBb.lt, fun hm => by have := hM _ hm; have := hBa2.lt; omega, fun j u hu => by
  rw [Nat.zero_add, hBb.cell j]
  cases j with
  | zero => exact hu
  | succ j => cases hu⟩⟩
 have Hw2 := Lib.hid hw2; have Hw3 := Lib.hid hw3; have HBa2 := Lib.hid hBa2; have HBa := Lib.hid hBa; have Hk3 := Lib.hid hk3; have Hb8 := Lib.hid hb8
 clear hw2 hw3 hk2 hk3 hBa2 hBa hBb hb8
 show Calls Tryz.prog 100 #[.agg #[.int .i64 1, .int .i64 kind, .int .i64 ag, .int .i64 sh, .int .i64 seq, .int .i64 ep, .slice Aa ds.length na, .string ser, .int .i64 fr, .int .i64 etg, .int .i64 tag, .int .i64 code, .int .u64 nn, .int .i64 term, .int .i64 had, .slice Ba log.length ka, .int .i64 commit, .int .i64 len]] w fun r w' => BsPost bo w r w'
 go_enter Tryz.func100, Tryz.ntmps100
 go_upto_region 1 with (fail)
 rw [← Hw2.out]
 have hg3 : w.heap.size < w3.heap.size := HBa.out.lt
 obtain ⟨q0, q1, q2, q3, q4, q5, q6, q7, q8, q9, qa, qb, qc, qd, qe, qf, qg, qh, qz⟩ := blk18 HBa2.out
 generalize hgs : w.heap.size = g at HBa HBa2 Hb8 hg3 q0 q1 q2 q3 q4 q5 q6 q7 q8 q9 qa qb qc qd qe qf qg qh qz ⊢
 have Hgs := Lib.hid hgs
 clear Hw2 hgs
 go_upto_region 2 with (fail)
 rw [← Hw3.out]
 generalize w2.heap.size = g3 at *
 clear Hw3 q0 q1 q2 q3 q4 q5 q6 q7 q8 q9 qa qb qc qd qe qf qg qh qz
 obtain ⟨q0, q1, q2, q3, q4, q5, q6, q7, q8, q9, qa, qb, qc, qd, qe, qf, qg, qh, qz⟩ := blk18 HBa.out
 have Hby := Lib.hid (hby.out w3 Hk3.out)
 go_wp2_with fail
 refine Hby.out.mono ?_
 rintro e w4 ⟨A4, rfl, hS4, hb4⟩
 have HS4 := Lib.hid (hS4 [] (by simp))
 have Hk4 := Lib.hid (Hk3.out.trans (Keeps.of_below (M := []) hb4) (by simp))
 have H84 : Hid (∀ M, (∀ x ∈ M, x < g) → Bs w4 M (.slice (some ⟨g3, 0, none⟩) 1 1) [UInt8.ofNat 1]) := fun M hM => (Hb8.out M hM).keep (Keeps.of_below (M := []) hb4) (by simp)
 have cv := conv_bytes HS4.out
 have Htx := text_any (.slice (some ⟨g3, 0, none⟩) 1 1) [UInt8.ofNat 1] ⟨(bytesE ⟨kind, ag, sh, seq, ep, ds, ser, fr, etg⟩).toArray⟩ w4 (H84.out [] (by simp)) (by show 1 + (List.toArray _).size ≤ _; rw [List.size_toArray]; omega)
 rw [show (⟨(bytesE ⟨kind, ag, sh, seq, ep, ds, ser, fr, etg⟩).toArray⟩ : ByteArray).size = (bytesE ⟨kind, ag, sh, seq, ep, ds, ser, fr, etg⟩).length from List.size_toArray .., show sB ⟨(bytesE ⟨kind, ag, sh, seq, ep, ds, ser, fr, etg⟩).toArray⟩ = bytesE ⟨kind, ag, sh, seq, ep, ds, ser, fr, etg⟩ from rfl] at Htx
 have HTx := Lib.hid Htx
 have HLX : Hid (bo = [UInt8.ofNat 1] ++ Lib.uvarint (bytesE ⟨kind, ag, sh, seq, ep, ds, ser, fr, etg⟩).length ++ bytesE ⟨kind, ag, sh, seq, ep, ds, ser, fr, etg⟩) := by show _ = _; rw [HB.out]; rfl
 rw [← HLX.out] at HTx
 generalize bytesE ⟨kind, ag, sh, seq, ep, ds, ser, fr, etg⟩ = bx at *
 clear hS4 hb4 Hby hby Htx HLX HB
 go_wp2_with fail
 refine HTx.out.mono ?_
 rintro e w5 ⟨A5, rfl, hS5, hb5⟩
 have hp : Hid (BsPost bo w (.returned (.slice A5 bo.length bo.length)) w5) := ⟨A5, rfl, fun M hM => hS5 M (fun x hx => Nat.lt_of_lt_of_le (hM x hx) Hk4.out.size), (Hk4.out.trans (Keeps.of_below (M := []) hb5) (by simp)).below⟩
 clear hS5 hb5 HTx
 go_wp2
 go_ret
 exact hp.out
set_option maxRecDepth 100000 in
set_option maxHeartbeats 2000000 in
theorem mbody_2 (m : MsgD) (dv lv : Value) (mx : Int) (w : World) (hk : m.kd = 2) (ha : MsgAt w [] m dv lv) (hok : MOk m) (hs : MShort m) (hwf : MWf m) (hm : w.cell? ⟨0, 0, none⟩ = some (.int .i64 mx)) :
    Calls Tryz.prog 100 #[.agg (mCell m dv lv).toArray] w fun r w' => BsPost (bodyL m) w r w' := by
  have hw0 : 0 < w.heap.size := by
    have := World.block_lt_of_cell? w _ hm
    simpa using this
  have hkeepm : Hid (∀ W, Keeps [] w W → W.cell? ⟨0, 0, none⟩ = some (.int .i64 mx)) := fun W hb => (hb.cell (p := ⟨0, 0, none⟩) hw0 (by simp)).trans hm
  have _ := hs
  have HB : Hid (bodyL m = [UInt8.ofNat 2] ++ (Lib.uvarint m.tag.toNat ++ Lib.uvarint m.code.toNat ++ Lib.uvarint m.nn.toNat)) := by show _ = _; unfold bodyL; rw [hk]; rfl
  have hnn0 := hwf.2.2.2.1; have hnn1 := hwf.2.2.2.2.1; have hw1 := hwf.1; have hw2 := hwf.2.1; have hw3 := hwf.2.2.1
  have o1 := hok.tag0; have o2 := hok.term0; have o3 := hok.had0; have o4 := hok.com0; have o5 := hok.len0; have o6 := hok.code0; have o7 := hok.code1; have o8 := hok.com1; have o9 := hok.len1
  obtain ⟨Aa, na, rfl, _⟩ := ha.1.len
  obtain ⟨Ba, ka, rfl, _⟩ := ha.2.len
  clear ha hok hs hwf hm
  generalize bodyL m = bo at *
  obtain ⟨kd, ⟨kind, ag, sh, seq, ep, ds, ser, fr, etg⟩, tag, code, nn, term, had, log, commit, len⟩ := m
  simp only [] at HB hnn0 hnn1 hw1 hw2 hw3 o1 o2 o3 o4 o5 o6 o7 o8 o9 hk
  subst hk
  obtain ⟨tag, rfl⟩ := Int.eq_ofNat_of_zero_le (show 0 ≤ tag by omega)
  obtain ⟨code, rfl⟩ := Int.eq_ofNat_of_zero_le (show 0 ≤ code by omega)
  obtain ⟨nn, rfl⟩ := Int.eq_ofNat_of_zero_le (show 0 ≤ nn by omega)
  simp only [Int.toNat_natCast] at HB
  have hw_tag : IntKind.u64.wrap (tag : Int) = (tag : Int) := by rw [IntKind.wrap_u64]; omega
  have hu_tag := Lib.uvarint_length64 (x := tag) (by omega)
  have hw_code : IntKind.u64.wrap (code : Int) = (code : Int) := by rw [IntKind.wrap_u64]; omega
  have hu_code := Lib.uvarint_length64 (x := code) (by omega)
  have hu_nn := Lib.uvarint_length64 (x := nn) (by omega)
  have hw_k : IntKind.u8.wrap 2 = 2 := by decide
  simp only [mCell, eCell, List.cons_append, List.nil_append]
  obtain ⟨w2, hw2⟩ : ∃ w2, w2 = w.alloc (.cells #[.int .i64 2, .int .i64 kind, .int .i64 ag, .int .i64 sh, .int .i64 seq, .int .i64 ep, .slice Aa ds.length na, .string ser, .int .i64 fr, .int .i64 etg, .int .i64 tag, .int .i64 code, .int .u64 nn, .int .i64 term, .int .i64 had, .slice Ba log.length ka, .int .i64 commit, .int .i64 len] 68) := ⟨_, rfl⟩
  obtain ⟨w3, hw3⟩ : ∃ w3, w3 = w2.alloc (.cells #[.int .u8 2] 5) := ⟨_, rfl⟩
  have hk2 : Keeps [] w w2 := by rw [hw2]; exact (Keeps.refl _ _).alloc _
  have hk3 : Keeps [] w w3 := by rw [hw3]; exact hk2.alloc _
  have hBa2 : Blk w2 w.heap.size 68 #[.int .i64 2, .int .i64 kind, .int .i64 ag, .int .i64 sh, .int .i64 seq, .int .i64 ep, .slice Aa ds.length na, .string ser, .int .i64 fr, .int .i64 etg, .int .i64 tag, .int .i64 code, .int .u64 nn, .int .i64 term, .int .i64 had, .slice Ba log.length ka, .int .i64 commit, .int .i64 len] := by rw [hw2]; exact Blk.new w _ _
  have hBa : Blk w3 w.heap.size 68 #[.int .i64 2, .int .i64 kind, .int .i64 ag, .int .i64 sh, .int .i64 seq, .int .i64 ep, .slice Aa ds.length na, .string ser, .int .i64 fr, .int .i64 etg, .int .i64 tag, .int .i64 code, .int .u64 nn, .int .i64 term, .int .i64 had, .slice Ba log.length ka, .int .i64 commit, .int .i64 len] := by rw [hw3]; exact hBa2.below (below_new' _ _) hBa2.lt
  have hBb : Blk w3 w2.heap.size 5 #[.int .u8 2] := by rw [hw3]; exact Blk.new w2 _ _
  have hb8 : ∀ M, (∀ g ∈ M, g < w.heap.size) → Bs w3 M (.slice (some ⟨w2.heap.size, 0, none⟩) 1 1) [UInt8.ofNat 2] := fun M hM => ⟨_, _, rfl, Nat.le_refl _, rfl, fun _ => ⟨w2.heap.size, 0, rfl, hBb.lt, fun hm => by have := hM _ hm; have := hBa2.lt; omega, fun j u hu => by
    rw [Nat.zero_add, hBb.cell j]
    cases j with
    | zero => exact hu
    | succ j => cases hu⟩⟩
  have Hw2 := Lib.hid hw2; have Hw3 := Lib.hid hw3; have HBa2 := Lib.hid hBa2; have HBa := Lib.hid hBa; have Hk3 := Lib.hid hk3; have Hb8 := Lib.hid hb8
  clear hw2 hw3 hk2 hk3 hBa2 hBa hBb hb8
  show Calls Tryz.prog 100 #[.agg #[.int .i64 2, .int .i64 kind, .int .i64 ag, .int .i64 sh, .int .i64 seq, .int .i64 ep, .slice Aa ds.length na, .string ser, .int .i64 fr, .int .i64 etg, .int .i64 tag, .int .i64 code, .int .u64 nn, .int .i64 term, .int .i64 had, .slice Ba log.length ka, .int .i64 commit, .int .i64 len]] w fun r w' => BsPost bo w r w'
  go_enter Tryz.func100, Tryz.ntmps100
  go_upto_region 1 with (fail)
  rw [← Hw2.out]
  have hg3 : w.heap.size < w3.heap.size := HBa.out.lt
  obtain ⟨q0, q1, q2, q3, q4, q5, q6, q7, q8, q9, qa, qb, qc, qd, qe, qf, qg, qh, qz⟩ := blk18 HBa2.out
  generalize hgs : w.heap.size = g at HBa HBa2 Hb8 hg3 q0 q1 q2 q3 q4 q5 q6 q7 q8 q9 qa qb qc qd qe qf qg qh qz ⊢
  have Hgs := Lib.hid hgs
  clear Hw2 hgs
  go_upto_region 2 with (fail)
  rw [← Hw3.out]
  generalize w2.heap.size = g3 at *
  clear Hw3 q0 q1 q2 q3 q4 q5 q6 q7 q8 q9 qa qb qc qd qe qf qg qh qz
  obtain ⟨q0, q1, q2, q3, q4, q5, q6, q7, q8, q9, qa, qb, qc, qd, qe, qf, qg, qh, qz⟩ := blk18 HBa.out
  have hput1 := put_any (.slice (some ⟨g3, 0, none⟩) 1 1) [UInt8.ofNat 2] tag w3.drew ((Hb8.out [] (by simp)).keep (M' := []) ((Keeps.refl _ _).drew) (by simp)) (by omega) (by simp)
  obtain ⟨L1, hL1⟩ : ∃ L1, L1 = [UInt8.ofNat 2] ++ Lib.uvarint tag := ⟨_, rfl⟩
  rw [← hL1] at hput1
  have hL1l : L1.length ≤ 11 := by rw [hL1, List.length_append]; simp; omega
  have HP1 := Lib.hid hput1
  have HP2 := Lib.hid (fun W A (h : Bs W [] (.slice A L1.length L1.length) L1) => put_any (.slice A L1.length L1.length) L1 code W h (by omega) (by omega))
  obtain ⟨L2, hL2⟩ : ∃ L2, L2 = L1 ++ Lib.uvarint code := ⟨_, rfl⟩
  rw [← hL2] at HP2
  have hL2l : L2.length ≤ 21 := by rw [hL2, List.length_append]; omega
  have HP3 := Lib.hid (fun W A (h : Bs W [] (.slice A L2.length L2.length) L2) => put_any (.slice A L2.length L2.length) L2 nn W h (by omega) (by omega))
  have HLX : Hid (bo = L2 ++ Lib.uvarint nn) := by show _ = _; rw [HB.out, hL2, hL1]; simp
  rw [← HLX.out] at HP3
  clear hput1 hL1 hL2
  go_wp2_with fail
  go_region_held3 (fun w' => w'.cell? ⟨g, 10, none⟩ = some (.int .i64 tag) ∧ w'.cell? ⟨g, 11, none⟩ = some (.int .i64 code) ∧ w'.cell? ⟨g, 12, none⟩ = some (.int .u64 nn)) (first | exact ⟨v0, v1, v2⟩ | exact ⟨u0, u1, u2⟩ | exact ⟨s0, s1, s2⟩ | exact ⟨qa, qb, qc⟩) (first
    | (go_at_call_of 118 (Value.slice (some ⟨g3, 0, none⟩) 1 1)
       with_reducible refine HP1.out.mono ?_
       rintro e w5 ⟨A5, rfl, hS, hb⟩
       have HS5 := Lib.hid (hS [] (by simp))
       have Hk5 := Lib.hid (Hk3.out.drew.trans (Keeps.of_below (M := []) hb) (by simp))
       have s0 : w5.cell? ⟨g, 10, none⟩ = some (.int .i64 tag) := (hb.cell (p := ⟨g, 10, none⟩) hg3).trans qa
       have s1 : w5.cell? ⟨g, 11, none⟩ = some (.int .i64 code) := (hb.cell (p := ⟨g, 11, none⟩) hg3).trans qb
       have s2 : w5.cell? ⟨g, 12, none⟩ = some (.int .u64 nn) := (hb.cell (p := ⟨g, 12, none⟩) hg3).trans qc
       have hg5 : g < w5.heap.size := Nat.lt_of_lt_of_le hg3 hb.size
       clear hS hb)
    | (go_at_call_of 118 (Value.slice A5 L1.length L1.length)
       with_reducible refine (HP2.out _ A5 HS5.out).mono ?_
       rintro e w6 ⟨A6, rfl, hS, hb⟩
       have HS6 := Lib.hid (hS [] (by simp))
       have Hk6 := Lib.hid (Hk5.out.trans (Keeps.of_below (M := []) hb) (by simp))
       have u0 : w6.cell? ⟨g, 10, none⟩ = some (.int .i64 tag) := (hb.cell (p := ⟨g, 10, none⟩) hg5).trans s0
       have u1 : w6.cell? ⟨g, 11, none⟩ = some (.int .i64 code) := (hb.cell (p := ⟨g, 11, none⟩) hg5).trans s1
       have u2 : w6.cell? ⟨g, 12, none⟩ = some (.int .u64 nn) := (hb.cell (p := ⟨g, 12, none⟩) hg5).trans s2
       have hg6 : g < w6.heap.size := Nat.lt_of_lt_of_le hg5 hb.size
       clear hS hb)
    | (go_at_call 118
       with_reducible refine (HP3.out _ A6 HS6.out).mono ?_
       rintro e w7 ⟨A7, rfl, hS, hb⟩
       have v0 : w7.cell? ⟨g, 10, none⟩ = some (.int .i64 tag) := (hb.cell (p := ⟨g, 10, none⟩) hg6).trans u0
       have v1 : w7.cell? ⟨g, 11, none⟩ = some (.int .i64 code) := (hb.cell (p := ⟨g, 11, none⟩) hg6).trans u1
       have v2 : w7.cell? ⟨g, 12, none⟩ = some (.int .u64 nn) := (hb.cell (p := ⟨g, 12, none⟩) hg6).trans u2
       have hp : Hid (BsPost bo w (.returned (.slice A7 bo.length bo.length)) w7) := ⟨A7, rfl, fun M hM => hS M (fun x hx => Nat.lt_of_lt_of_le (hM x hx) Hk6.out.size), (Hk6.out.trans (Keeps.of_below (M := []) hb) (by simp)).below⟩
       clear hS hb))
  all_goals
    go_wp2
    go_ret
    exact hp.out
set_option maxRecDepth 100000 in
set_option maxHeartbeats 2000000 in
theorem mbody_3 (m : MsgD) (dv lv : Value) (mx : Int) (w : World) (hk : m.kd = 3) (ha : MsgAt w [] m dv lv) (hok : MOk m) (hs : MShort m) (hwf : MWf m) (hm : w.cell? ⟨0, 0, none⟩ = some (.int .i64 mx)) :
  Calls Tryz.prog 100 #[.agg (mCell m dv lv).toArray] w fun r w' => BsPost (bodyL m) w r w' := by
 have hw0 : 0 < w.heap.size := by
  have := World.block_lt_of_cell? w _ hm
  simpa using this
 have hkeepm : Hid (∀ W, Keeps [] w W → W.cell? ⟨0, 0, none⟩ = some (.int .i64 mx)) := fun W hb => (hb.cell (p := ⟨0, 0, none⟩) hw0 (by simp)).trans hm
 have _ := hs
 have HB : Hid (bodyL m = [UInt8.ofNat 3] ++ (Lib.uvarint m.term.toNat)) := by show _ = _; unfold bodyL; rw [hk]; rfl
 have hnn0 := hwf.2.2.2.1; have hnn1 := hwf.2.2.2.2.1; have hw1 := hwf.1; have hw2 := hwf.2.1; have hw3 := hwf.2.2.1
 have o1 := hok.tag0; have o2 := hok.term0; have o3 := hok.had0; have o4 := hok.com0; have o5 := hok.len0; have o6 := hok.code0; have o7 := hok.code1; have o8 := hok.com1; have o9 := hok.len1
 obtain ⟨Aa, na, rfl, _⟩ := ha.1.len
 obtain ⟨Ba, ka, rfl, _⟩ := ha.2.len
 clear ha hok hs hwf hm
 generalize bodyL m = bo at *
 obtain ⟨kd, ⟨kind, ag, sh, seq, ep, ds, ser, fr, etg⟩, tag, code, nn, term, had, log, commit, len⟩ := m
 simp only [] at HB hnn0 hnn1 hw1 hw2 hw3 o1 o2 o3 o4 o5 o6 o7 o8 o9 hk
 subst hk
 obtain ⟨term, rfl⟩ := Int.eq_ofNat_of_zero_le (show 0 ≤ term by omega)
 simp only [Int.toNat_natCast] at HB
 have hw_term : IntKind.u64.wrap (term : Int) = (term : Int) := by rw [IntKind.wrap_u64]; omega
 have hu_term := Lib.uvarint_length64 (x := term) (by omega)
 have hw_k : IntKind.u8.wrap 3 = 3 := by decide
 simp only [mCell, eCell, List.cons_append, List.nil_append]
 obtain ⟨w2, hw2⟩ : ∃ w2, w2 = w.alloc (.cells #[.int .i64 3, .int .i64 kind, .int .i64 ag, .int .i64 sh, .int .i64 seq, .int .i64 ep, .slice Aa ds.length na, .string ser, .int .i64 fr, .int .i64 etg, .int .i64 tag, .int .i64 code, .int .u64 nn, .int .i64 term, .int .i64 had, .slice Ba log.length ka, .int .i64 commit, .int .i64 len] 68) := ⟨_, rfl⟩
 obtain ⟨w3, hw3⟩ : ∃ w3, w3 = w2.alloc (.cells #[.int .u8 3] 5) := ⟨_, rfl⟩
 have hk2 : Keeps [] w w2 := by rw [hw2]; exact (Keeps.refl _ _).alloc _
 have hk3 : Keeps [] w w3 := by rw [hw3]; exact hk2.alloc _
 have hBa2 : Blk w2 w.heap.size 68 #[.int .i64 3, .int .i64 kind, .int .i64 ag, .int .i64 sh, .int .i64 seq, .int .i64 ep, .slice Aa ds.length na, .string ser, .int .i64 fr, .int .i64 etg, .int .i64 tag, .int .i64 code, .int .u64 nn, .int .i64 term, .int .i64 had, .slice Ba log.length ka, .int .i64 commit, .int .i64 len] := by rw [hw2]; exact Blk.new w _ _
 have hBa : Blk w3 w.heap.size 68 #[.int .i64 3, .int .i64 kind, .int .i64 ag, .int .i64 sh, .int .i64 seq, .int .i64 ep, .slice Aa ds.length na, .string ser, .int .i64 fr, .int .i64 etg, .int .i64 tag, .int .i64 code, .int .u64 nn, .int .i64 term, .int .i64 had, .slice Ba log.length ka, .int .i64 commit, .int .i64 len] := by rw [hw3]; exact hBa2.below (below_new' _ _) hBa2.lt
 have hBb : Blk w3 w2.heap.size 5 #[.int .u8 3] := by rw [hw3]; exact Blk.new w2 _ _
 have hb8 : ∀ M, (∀ g ∈ M, g < w.heap.size) → Bs w3 M (.slice (some ⟨w2.heap.size, 0, none⟩) 1 1) [UInt8.ofNat 3] := fun M hM => ⟨_, _, rfl, Nat.le_refl _, rfl, fun _ => ⟨w2.heap.size, 0, rfl, hBb.lt, fun hm => by have := hM _ hm; have := hBa2.lt; omega, fun j u hu => by
  rw [Nat.zero_add, hBb.cell j]
  cases j with
  | zero => exact hu
  | succ j => cases hu⟩⟩
 have Hw2 := Lib.hid hw2; have Hw3 := Lib.hid hw3; have HBa2 := Lib.hid hBa2; have HBa := Lib.hid hBa; have Hk3 := Lib.hid hk3; have Hb8 := Lib.hid hb8
 clear hw2 hw3 hk2 hk3 hBa2 hBa hBb hb8
 show Calls Tryz.prog 100 #[.agg #[.int .i64 3, .int .i64 kind, .int .i64 ag, .int .i64 sh, .int .i64 seq, .int .i64 ep, .slice Aa ds.length na, .string ser, .int .i64 fr, .int .i64 etg, .int .i64 tag, .int .i64 code, .int .u64 nn, .int .i64 term, .int .i64 had, .slice Ba log.length ka, .int .i64 commit, .int .i64 len]] w fun r w' => BsPost bo w r w'
 go_enter Tryz.func100, Tryz.ntmps100
 go_upto_region 1 with (fail)
 rw [← Hw2.out]
 have hg3 : w.heap.size < w3.heap.size := HBa.out.lt
 obtain ⟨q0, q1, q2, q3, q4, q5, q6, q7, q8, q9, qa, qb, qc, qd, qe, qf, qg, qh, qz⟩ := blk18 HBa2.out
 generalize hgs : w.heap.size = g at HBa HBa2 Hb8 hg3 q0 q1 q2 q3 q4 q5 q6 q7 q8 q9 qa qb qc qd qe qf qg qh qz ⊢
 have Hgs := Lib.hid hgs
 clear Hw2 hgs
 go_upto_region 2 with (fail)
 rw [← Hw3.out]
 generalize w2.heap.size = g3 at *
 clear Hw3 q0 q1 q2 q3 q4 q5 q6 q7 q8 q9 qa qb qc qd qe qf qg qh qz
 obtain ⟨q0, q1, q2, q3, q4, q5, q6, q7, q8, q9, qa, qb, qc, qd, qe, qf, qg, qh, qz⟩ := blk18 HBa.out
 have hput := put_any (.slice (some ⟨g3, 0, none⟩) 1 1) ([UInt8.ofNat 3]) term w3 (Hb8.out [] (by simp)) (by omega) (by simp)
 generalize hL4 : [UInt8.ofNat 3] ++ Lib.uvarint term = L4 at hput
 have HL4 := Lib.hid hL4; have Hput := Lib.hid hput
 clear hL4 hput
 go_wp2_with fail
 refine Hput.out.mono ?_
 rintro e w4 ⟨A4, rfl, hS, hb⟩
 have HS4 : Hid (∀ M, (∀ x ∈ M, x < g) → Bs w4 M (.slice A4 L4.length L4.length) L4) := fun M hM => hS M (fun x hx => by have := hM x hx; have := hg3; omega)
 have Hk4 := Lib.hid (Hk3.out.trans (Keeps.of_below (M := []) hb) (by simp))
 have HBa4 := Lib.hid (HBa.out.below hb (hg3))
 have hg4 : g < w4.heap.size := HBa4.out.lt
 clear hS hb Hput q0 q1 q2 q3 q4 q5 q6 q7 q8 q9 qa qb qc qd qe qf qg qh qz
 obtain ⟨q0, q1, q2, q3, q4, q5, q6, q7, q8, q9, qa, qb, qc, qd, qe, qf, qg, qh, qz⟩ := blk18 HBa4.out
 obtain rfl : bo = L4 := by rw [HB.out, ← HL4.out]
 have hp : Hid (BsPost bo w (.returned (.slice A4 bo.length bo.length)) w4) := ⟨A4, rfl, fun M hM => HS4.out M (by rw [← Hgs.out]; exact hM), Hk4.out.below⟩
 clear HB
 go_wp2
 go_ret
 exact hp.out
set_option maxRecDepth 100000 in
set_option maxHeartbeats 2000000 in
theorem mbody_4 (m : MsgD) (dv lv : Value) (mx : Int) (w : World) (hk : m.kd = 4) (ha : MsgAt w [] m dv lv) (hok : MOk m) (hs : MShort m) (hwf : MWf m) (hm : w.cell? ⟨0, 0, none⟩ = some (.int .i64 mx)) :
    Calls Tryz.prog 100 #[.agg (mCell m dv lv).toArray] w fun r w' => BsPost (bodyL m) w r w' := by
  have hw0 : 0 < w.heap.size := by
    have := World.block_lt_of_cell? w _ hm
    simpa using this
  have hkeepm : Hid (∀ W, Keeps [] w W → W.cell? ⟨0, 0, none⟩ = some (.int .i64 mx)) := fun W hb => (hb.cell (p := ⟨0, 0, none⟩) hw0 (by simp)).trans hm
  have hmp := Lib.hid (fun W (hk' : Keeps [] w W) v lb (hB : Bs W [] v lb) (hlb : lb.length ≤ 1000000000) => mput_any v lb lv m.log mx W hB (ha.2.keep hk' (by simp)) (fun e he => ⟨hok.logs (by omega) e he, hs.2.2 e he, hwf.2.2.2.2.2.2 e he⟩) hok.logl hlb (hkeepm.out W hk'))
  have HB : Hid (bodyL m = [UInt8.ofNat 4] ++ (Lib.uvarint m.term.toNat ++ Lib.uvarint m.had.toNat ++ putLog m.log)) := by show _ = _; unfold bodyL; rw [hk]; rfl
  have hnn0 := hwf.2.2.2.1; have hnn1 := hwf.2.2.2.2.1; have hw1 := hwf.1; have hw2 := hwf.2.1; have hw3 := hwf.2.2.1
  have o1 := hok.tag0; have o2 := hok.term0; have o3 := hok.had0; have o4 := hok.com0; have o5 := hok.len0; have o6 := hok.code0; have o7 := hok.code1; have o8 := hok.com1; have o9 := hok.len1
  obtain ⟨Aa, na, rfl, _⟩ := ha.1.len
  obtain ⟨Ba, ka, rfl, _⟩ := ha.2.len
  clear ha hok hs hwf hm
  generalize bodyL m = bo at *
  obtain ⟨kd, ⟨kind, ag, sh, seq, ep, ds, ser, fr, etg⟩, tag, code, nn, term, had, log, commit, len⟩ := m
  simp only [] at HB hnn0 hnn1 hw1 hw2 hw3 o1 o2 o3 o4 o5 o6 o7 o8 o9 hk hmp
  subst hk
  obtain ⟨term, rfl⟩ := Int.eq_ofNat_of_zero_le (show 0 ≤ term by omega)
  obtain ⟨had, rfl⟩ := Int.eq_ofNat_of_zero_le (show 0 ≤ had by omega)
  simp only [Int.toNat_natCast] at HB
  have hw_term : IntKind.u64.wrap (term : Int) = (term : Int) := by rw [IntKind.wrap_u64]; omega
  have hu_term := Lib.uvarint_length64 (x := term) (by omega)
  have hw_had : IntKind.u64.wrap (had : Int) = (had : Int) := by rw [IntKind.wrap_u64]; omega
  have hu_had := Lib.uvarint_length64 (x := had) (by omega)
  have hw_k : IntKind.u8.wrap 4 = 4 := by decide
  simp only [mCell, eCell, List.cons_append, List.nil_append]
  obtain ⟨w2, hw2⟩ : ∃ w2, w2 = w.alloc (.cells #[.int .i64 4, .int .i64 kind, .int .i64 ag, .int .i64 sh, .int .i64 seq, .int .i64 ep, .slice Aa ds.length na, .string ser, .int .i64 fr, .int .i64 etg, .int .i64 tag, .int .i64 code, .int .u64 nn, .int .i64 term, .int .i64 had, .slice Ba log.length ka, .int .i64 commit, .int .i64 len] 68) := ⟨_, rfl⟩
  obtain ⟨w3, hw3⟩ : ∃ w3, w3 = w2.alloc (.cells #[.int .u8 4] 5) := ⟨_, rfl⟩
  have hk2 : Keeps [] w w2 := by rw [hw2]; exact (Keeps.refl _ _).alloc _
  have hk3 : Keeps [] w w3 := by rw [hw3]; exact hk2.alloc _
  have hBa2 : Blk w2 w.heap.size 68 #[.int .i64 4, .int .i64 kind, .int .i64 ag, .int .i64 sh, .int .i64 seq, .int .i64 ep, .slice Aa ds.length na, .string ser, .int .i64 fr, .int .i64 etg, .int .i64 tag, .int .i64 code, .int .u64 nn, .int .i64 term, .int .i64 had, .slice Ba log.length ka, .int .i64 commit, .int .i64 len] := by rw [hw2]; exact Blk.new w _ _
  have hBa : Blk w3 w.heap.size 68 #[.int .i64 4, .int .i64 kind, .int .i64 ag, .int .i64 sh, .int .i64 seq, .int .i64 ep, .slice Aa ds.length na, .string ser, .int .i64 fr, .int .i64 etg, .int .i64 tag, .int .i64 code, .int .u64 nn, .int .i64 term, .int .i64 had, .slice Ba log.length ka, .int .i64 commit, .int .i64 len] := by rw [hw3]; exact hBa2.below (below_new' _ _) hBa2.lt
  have hBb : Blk w3 w2.heap.size 5 #[.int .u8 4] := by rw [hw3]; exact Blk.new w2 _ _
  have hb8 : ∀ M, (∀ g ∈ M, g < w.heap.size) → Bs w3 M (.slice (some ⟨w2.heap.size, 0, none⟩) 1 1) [UInt8.ofNat 4] := fun M hM => ⟨_, _, rfl, Nat.le_refl _, rfl, fun _ => ⟨w2.heap.size, 0, rfl, hBb.lt, fun hm => by have := hM _ hm; have := hBa2.lt; omega, fun j u hu => by
    rw [Nat.zero_add, hBb.cell j]
    cases j with
    | zero => exact hu
    | succ j => cases hu⟩⟩
  have Hw2 := Lib.hid hw2; have Hw3 := Lib.hid hw3; have HBa2 := Lib.hid hBa2; have HBa := Lib.hid hBa; have Hk3 := Lib.hid hk3; have Hb8 := Lib.hid hb8
  clear hw2 hw3 hk2 hk3 hBa2 hBa hBb hb8
  show Calls Tryz.prog 100 #[.agg #[.int .i64 4, .int .i64 kind, .int .i64 ag, .int .i64 sh, .int .i64 seq, .int .i64 ep, .slice Aa ds.length na, .string ser, .int .i64 fr, .int .i64 etg, .int .i64 tag, .int .i64 code, .int .u64 nn, .int .i64 term, .int .i64 had, .slice Ba log.length ka, .int .i64 commit, .int .i64 len]] w fun r w' => BsPost bo w r w'
  go_enter Tryz.func100, Tryz.ntmps100
  go_upto_region 1 with (fail)
  rw [← Hw2.out]
  have hg3 : w.heap.size < w3.heap.size := HBa.out.lt
  obtain ⟨q0, q1, q2, q3, q4, q5, q6, q7, q8, q9, qa, qb, qc, qd, qe, qf, qg, qh, qz⟩ := blk18 HBa2.out
  generalize hgs : w.heap.size = g at HBa HBa2 Hb8 hg3 q0 q1 q2 q3 q4 q5 q6 q7 q8 q9 qa qb qc qd qe qf qg qh qz ⊢
  have Hgs := Lib.hid hgs
  clear Hw2 hgs
  go_upto_region 2 with (fail)
  rw [← Hw3.out]
  generalize w2.heap.size = g3 at *
  clear Hw3 q0 q1 q2 q3 q4 q5 q6 q7 q8 q9 qa qb qc qd qe qf qg qh qz
  obtain ⟨q0, q1, q2, q3, q4, q5, q6, q7, q8, q9, qa, qb, qc, qd, qe, qf, qg, qh, qz⟩ := blk18 HBa.out
  have hput := put_any (.slice (some ⟨g3, 0, none⟩) 1 1) ([UInt8.ofNat 4]) term w3 (Hb8.out [] (by simp)) (by omega) (by simp)
  generalize hL4 : [UInt8.ofNat 4] ++ Lib.uvarint term = L4 at hput
  have HL4 := Lib.hid hL4; have Hput := Lib.hid hput
  clear hL4 hput
  go_wp2_with fail
  refine Hput.out.mono ?_
  rintro e w4 ⟨A4, rfl, hS, hb⟩
  have HS4 : Hid (∀ M, (∀ x ∈ M, x < g) → Bs w4 M (.slice A4 L4.length L4.length) L4) := fun M hM => hS M (fun x hx => by have := hM x hx; have := hg3; omega)
  have Hk4 := Lib.hid (Hk3.out.trans (Keeps.of_below (M := []) hb) (by simp))
  have HBa4 := Lib.hid (HBa.out.below hb (hg3))
  have hg4 : g < w4.heap.size := HBa4.out.lt
  clear hS hb Hput q0 q1 q2 q3 q4 q5 q6 q7 q8 q9 qa qb qc qd qe qf qg qh qz
  obtain ⟨q0, q1, q2, q3, q4, q5, q6, q7, q8, q9, qa, qb, qc, qd, qe, qf, qg, qh, qz⟩ := blk18 HBa4.out
  have hL4l : L4.length ≤ 11 := by have := congrArg List.length HL4.out; rw [List.length_append] at this; simp at this; omega
  have hput := put_any (.slice A4 L4.length L4.length) L4 had w4.drew ((HS4.out [] (by simp)).keep (M' := []) ((Keeps.refl _ _).drew) (by simp)) (by omega) (by omega)
  generalize hL5 : L4 ++ Lib.uvarint had = L5 at hput
  have hL5l : L5.length ≤ 21 := by rw [← hL5, List.length_append]; omega
  have HL5 := Lib.hid hL5; have Hput := Lib.hid hput
  have HLX : Hid (bo = L5 ++ putLog log) := by show _ = _; rw [HB.out, ← HL5.out, ← HL4.out]; simp
  clear hL5 hput
  go_wp2_with fail
  go_region_held3 (fun w' => w'.cell? ⟨g, 14, none⟩ = some (.int .i64 had) ∧ w'.cell? ⟨g, 15, none⟩ = some (.slice Ba log.length ka)) (first | exact ⟨u0, u1⟩ | exact ⟨s0, s1⟩ | exact ⟨qe, qf⟩) (first
    | (go_at_call 118
       with_reducible refine Hput.out.mono ?_
       rintro e w5 ⟨A5, rfl, hS, hb⟩
       have HS5 := Lib.hid (hS [] (by simp))
       have Hk5 := Lib.hid (Hk4.out.drew.trans (Keeps.of_below (M := []) hb) (by simp))
       have s0 : w5.cell? ⟨g, 14, none⟩ = some (.int .i64 had) := (hb.cell (p := ⟨g, 14, none⟩) hg4).trans qe
       have s1 : w5.cell? ⟨g, 15, none⟩ = some (.slice Ba log.length ka) := (hb.cell (p := ⟨g, 15, none⟩) hg4).trans qf
       have hg5 : g < w5.heap.size := Nat.lt_of_lt_of_le hg4 hb.size
       have hmp5 := hmp.out w5 Hk5.out (.slice A5 L5.length L5.length) L5 HS5.out (by omega)
       rw [← HLX.out] at hmp5
       have Hmp5 := Lib.hid hmp5
       clear hS hb hmp5)
    | (go_at_call 140
       with_reducible refine Hmp5.out.mono ?_
       rintro e w6 ⟨A6, rfl, hS, hb⟩
       have u0 : w6.cell? ⟨g, 14, none⟩ = some (.int .i64 had) := (hb.cell (p := ⟨g, 14, none⟩) hg5).trans s0
       have u1 : w6.cell? ⟨g, 15, none⟩ = some (.slice Ba log.length ka) := (hb.cell (p := ⟨g, 15, none⟩) hg5).trans s1
       have hp : Hid (BsPost bo w (.returned (.slice A6 bo.length bo.length)) w6) := ⟨A6, rfl, fun M hM => hS M (fun x hx => Nat.lt_of_lt_of_le (hM x hx) Hk5.out.size), (Hk5.out.trans (Keeps.of_below (M := []) hb) (by simp)).below⟩
       clear hS hb))
  all_goals
    go_wp2
    go_ret
    exact hp.out
set_option maxRecDepth 100000 in
set_option maxHeartbeats 2000000 in
theorem mbody_5 (m : MsgD) (dv lv : Value) (mx : Int) (w : World) (hk : m.kd = 5) (ha : MsgAt w [] m dv lv) (hok : MOk m) (hs : MShort m) (hwf : MWf m) (hm : w.cell? ⟨0, 0, none⟩ = some (.int .i64 mx)) :
    Calls Tryz.prog 100 #[.agg (mCell m dv lv).toArray] w fun r w' => BsPost (bodyL m) w r w' := by
  have hw0 : 0 < w.heap.size := by
    have := World.block_lt_of_cell? w _ hm
    simpa using this
  have hkeepm : Hid (∀ W, Keeps [] w W → W.cell? ⟨0, 0, none⟩ = some (.int .i64 mx)) := fun W hb => (hb.cell (p := ⟨0, 0, none⟩) hw0 (by simp)).trans hm
  have hmp := Lib.hid (fun W (hk' : Keeps [] w W) v lb (hB : Bs W [] v lb) (hlb : lb.length ≤ 1000000000) => mput_any v lb lv m.log mx W hB (ha.2.keep hk' (by simp)) (fun e he => ⟨hok.logs (by omega) e he, hs.2.2 e he, hwf.2.2.2.2.2.2 e he⟩) hok.logl hlb (hkeepm.out W hk'))
  have HB : Hid (bodyL m = [UInt8.ofNat 5] ++ (Lib.uvarint m.term.toNat ++ Lib.uvarint m.commit.toNat ++ putLog m.log)) := by show _ = _; unfold bodyL; rw [hk]; rfl
  have hnn0 := hwf.2.2.2.1; have hnn1 := hwf.2.2.2.2.1; have hw1 := hwf.1; have hw2 := hwf.2.1; have hw3 := hwf.2.2.1
  have o1 := hok.tag0; have o2 := hok.term0; have o3 := hok.had0; have o4 := hok.com0; have o5 := hok.len0; have o6 := hok.code0; have o7 := hok.code1; have o8 := hok.com1; have o9 := hok.len1
  obtain ⟨Aa, na, rfl, _⟩ := ha.1.len
  obtain ⟨Ba, ka, rfl, _⟩ := ha.2.len
  clear ha hok hs hwf hm
  generalize bodyL m = bo at *
  obtain ⟨kd, ⟨kind, ag, sh, seq, ep, ds, ser, fr, etg⟩, tag, code, nn, term, had, log, commit, len⟩ := m
  simp only [] at HB hnn0 hnn1 hw1 hw2 hw3 o1 o2 o3 o4 o5 o6 o7 o8 o9 hk hmp
  subst hk
  obtain ⟨term, rfl⟩ := Int.eq_ofNat_of_zero_le (show 0 ≤ term by omega)
  obtain ⟨commit, rfl⟩ := Int.eq_ofNat_of_zero_le (show 0 ≤ commit by omega)
  simp only [Int.toNat_natCast] at HB
  have hw_term : IntKind.u64.wrap (term : Int) = (term : Int) := by rw [IntKind.wrap_u64]; omega
  have hu_term := Lib.uvarint_length64 (x := term) (by omega)
  have hw_commit : IntKind.u64.wrap (commit : Int) = (commit : Int) := by rw [IntKind.wrap_u64]; omega
  have hu_commit := Lib.uvarint_length64 (x := commit) (by omega)
  have hw_k : IntKind.u8.wrap 5 = 5 := by decide
  simp only [mCell, eCell, List.cons_append, List.nil_append]
  obtain ⟨w2, hw2⟩ : ∃ w2, w2 = w.alloc (.cells #[.int .i64 5, .int .i64 kind, .int .i64 ag, .int .i64 sh, .int .i64 seq, .int .i64 ep, .slice Aa ds.length na, .string ser, .int .i64 fr, .int .i64 etg, .int .i64 tag, .int .i64 code, .int .u64 nn, .int .i64 term, .int .i64 had, .slice Ba log.length ka, .int .i64 commit, .int .i64 len] 68) := ⟨_, rfl⟩
  obtain ⟨w3, hw3⟩ : ∃ w3, w3 = w2.alloc (.cells #[.int .u8 5] 5) := ⟨_, rfl⟩
  have hk2 : Keeps [] w w2 := by rw [hw2]; exact (Keeps.refl _ _).alloc _
  have hk3 : Keeps [] w w3 := by rw [hw3]; exact hk2.alloc _
  have hBa2 : Blk w2 w.heap.size 68 #[.int .i64 5, .int .i64 kind, .int .i64 ag, .int .i64 sh, .int .i64 seq, .int .i64 ep, .slice Aa ds.length na, .string ser, .int .i64 fr, .int .i64 etg, .int .i64 tag, .int .i64 code, .int .u64 nn, .int .i64 term, .int .i64 had, .slice Ba log.length ka, .int .i64 commit, .int .i64 len] := by rw [hw2]; exact Blk.new w _ _
  have hBa : Blk w3 w.heap.size 68 #[.int .i64 5, .int .i64 kind, .int .i64 ag, .int .i64 sh, .int .i64 seq, .int .i64 ep, .slice Aa ds.length na, .string ser, .int .i64 fr, .int .i64 etg, .int .i64 tag, .int .i64 code, .int .u64 nn, .int .i64 term, .int .i64 had, .slice Ba log.length ka, .int .i64 commit, .int .i64 len] := by rw [hw3]; exact hBa2.below (below_new' _ _) hBa2.lt
  have hBb : Blk w3 w2.heap.size 5 #[.int .u8 5] := by rw [hw3]; exact Blk.new w2 _ _
  have hb8 : ∀ M, (∀ g ∈ M, g < w.heap.size) → Bs w3 M (.slice (some ⟨w2.heap.size, 0, none⟩) 1 1) [UInt8.ofNat 5] := fun M hM => ⟨_, _, rfl, Nat.le_refl _, rfl, fun _ => ⟨w2.heap.size, 0, rfl, hBb.lt, fun hm => by have := hM _ hm; have := hBa2.lt; omega, fun j u hu => by
    rw [Nat.zero_add, hBb.cell j]
    cases j with
    | zero => exact hu
    | succ j => cases hu⟩⟩
  have Hw2 := Lib.hid hw2; have Hw3 := Lib.hid hw3; have HBa2 := Lib.hid hBa2; have HBa := Lib.hid hBa; have Hk3 := Lib.hid hk3; have Hb8 := Lib.hid hb8
  clear hw2 hw3 hk2 hk3 hBa2 hBa hBb hb8
  show Calls Tryz.prog 100 #[.agg #[.int .i64 5, .int .i64 kind, .int .i64 ag, .int .i64 sh, .int .i64 seq, .int .i64 ep, .slice Aa ds.length na, .string ser, .int .i64 fr, .int .i64 etg, .int .i64 tag, .int .i64 code, .int .u64 nn, .int .i64 term, .int .i64 had, .slice Ba log.length ka, .int .i64 commit, .int .i64 len]] w fun r w' => BsPost bo w r w'
  go_enter Tryz.func100, Tryz.ntmps100
  go_upto_region 1 with (fail)
  rw [← Hw2.out]
  have hg3 : w.heap.size < w3.heap.size := HBa.out.lt
  obtain ⟨q0, q1, q2, q3, q4, q5, q6, q7, q8, q9, qa, qb, qc, qd, qe, qf, qg, qh, qz⟩ := blk18 HBa2.out
  generalize hgs : w.heap.size = g at HBa HBa2 Hb8 hg3 q0 q1 q2 q3 q4 q5 q6 q7 q8 q9 qa qb qc qd qe qf qg qh qz ⊢
  have Hgs := Lib.hid hgs
  clear Hw2 hgs
  go_upto_region 2 with (fail)
  rw [← Hw3.out]
  generalize w2.heap.size = g3 at *
  clear Hw3 q0 q1 q2 q3 q4 q5 q6 q7 q8 q9 qa qb qc qd qe qf qg qh qz
  obtain ⟨q0, q1, q2, q3, q4, q5, q6, q7, q8, q9, qa, qb, qc, qd, qe, qf, qg, qh, qz⟩ := blk18 HBa.out
  have hput := put_any (.slice (some ⟨g3, 0, none⟩) 1 1) ([UInt8.ofNat 5]) term w3 (Hb8.out [] (by simp)) (by omega) (by simp)
  generalize hL4 : [UInt8.ofNat 5] ++ Lib.uvarint term = L4 at hput
  have HL4 := Lib.hid hL4; have Hput := Lib.hid hput
  clear hL4 hput
  go_wp2_with fail
  refine Hput.out.mono ?_
  rintro e w4 ⟨A4, rfl, hS, hb⟩
  have HS4 : Hid (∀ M, (∀ x ∈ M, x < g) → Bs w4 M (.slice A4 L4.length L4.length) L4) := fun M hM => hS M (fun x hx => by have := hM x hx; have := hg3; omega)
  have Hk4 := Lib.hid (Hk3.out.trans (Keeps.of_below (M := []) hb) (by simp))
  have HBa4 := Lib.hid (HBa.out.below hb (hg3))
  have hg4 : g < w4.heap.size := HBa4.out.lt
  clear hS hb Hput q0 q1 q2 q3 q4 q5 q6 q7 q8 q9 qa qb qc qd qe qf qg qh qz
  obtain ⟨q0, q1, q2, q3, q4, q5, q6, q7, q8, q9, qa, qb, qc, qd, qe, qf, qg, qh, qz⟩ := blk18 HBa4.out
  have hL4l : L4.length ≤ 11 := by have := congrArg List.length HL4.out; rw [List.length_append] at this; simp at this; omega
  have hput := put_any (.slice A4 L4.length L4.length) L4 commit w4.drew ((HS4.out [] (by simp)).keep (M' := []) ((Keeps.refl _ _).drew) (by simp)) (by omega) (by omega)
  generalize hL5 : L4 ++ Lib.uvarint commit = L5 at hput
  have hL5l : L5.length ≤ 21 := by rw [← hL5, List.length_append]; omega
  have HL5 := Lib.hid hL5; have Hput := Lib.hid hput
  have HLX : Hid (bo = L5 ++ putLog log) := by show _ = _; rw [HB.out, ← HL5.out, ← HL4.out]; simp
  clear hL5 hput
  go_wp2_with fail
  go_region_held3 (fun w' => w'.cell? ⟨g, 16, none⟩ = some (.int .i64 commit) ∧ w'.cell? ⟨g, 15, none⟩ = some (.slice Ba log.length ka)) (first | exact ⟨u0, u1⟩ | exact ⟨s0, s1⟩ | exact ⟨qg, qf⟩) (first
    | (go_at_call 118
       with_reducible refine Hput.out.mono ?_
       rintro e w5 ⟨A5, rfl, hS, hb⟩
       have HS5 := Lib.hid (hS [] (by simp))
       have Hk5 := Lib.hid (Hk4.out.drew.trans (Keeps.of_below (M := []) hb) (by simp))
       have s0 : w5.cell? ⟨g, 16, none⟩ = some (.int .i64 commit) := (hb.cell (p := ⟨g, 16, none⟩) hg4).trans qg
       have s1 : w5.cell? ⟨g, 15, none⟩ = some (.slice Ba log.length ka) := (hb.cell (p := ⟨g, 15, none⟩) hg4).trans qf
       have hg5 : g < w5.heap.size := Nat.lt_of_lt_of_le hg4 hb.size
       have hmp5 := hmp.out w5 Hk5.out (.slice A5 L5.length L5.length) L5 HS5.out (by omega)
       rw [← HLX.out] at hmp5
       have Hmp5 := Lib.hid hmp5
       clear hS hb hmp5)
    | (go_at_call 140
       with_reducible refine Hmp5.out.mono ?_
       rintro e w6 ⟨A6, rfl, hS, hb⟩
       have u0 : w6.cell? ⟨g, 16, none⟩ = some (.int .i64 commit) := (hb.cell (p := ⟨g, 16, none⟩) hg5).trans s0
       have u1 : w6.cell? ⟨g, 15, none⟩ = some (.slice Ba log.length ka) := (hb.cell (p := ⟨g, 15, none⟩) hg5).trans s1
       have hp : Hid (BsPost bo w (.returned (.slice A6 bo.length bo.length)) w6) := ⟨A6, rfl, fun M hM => hS M (fun x hx => Nat.lt_of_lt_of_le (hM x hx) Hk5.out.size), (Hk5.out.trans (Keeps.of_below (M := []) hb) (by simp)).below⟩
       clear hS hb))
  all_goals
    go_wp2
    go_ret
    exact hp.out
set_option maxRecDepth 100000 in
set_option maxHeartbeats 2000000 in
theorem mbody_6 (m : MsgD) (dv lv : Value) (mx : Int) (w : World) (hk : m.kd = 6) (ha : MsgAt w [] m dv lv) (hok : MOk m) (hs : MShort m) (hwf : MWf m) (hm : w.cell? ⟨0, 0, none⟩ = some (.int .i64 mx)) :
  Calls Tryz.prog 100 #[.agg (mCell m dv lv).toArray] w fun r w' => BsPost (bodyL m) w r w' := by
 have hw0 : 0 < w.heap.size := by
  have := World.block_lt_of_cell? w _ hm
  simpa using this
 have hkeepm : Hid (∀ W, Keeps [] w W → W.cell? ⟨0, 0, none⟩ = some (.int .i64 mx)) := fun W hb => (hb.cell (p := ⟨0, 0, none⟩) hw0 (by simp)).trans hm
 have _ := hs
 have HB : Hid (bodyL m = [UInt8.ofNat 6] ++ (Lib.uvarint m.term.toNat ++ Lib.uvarint m.len.toNat)) := by show _ = _; unfold bodyL; rw [hk]; rfl
 have hnn0 := hwf.2.2.2.1; have hnn1 := hwf.2.2.2.2.1; have hw1 := hwf.1; have hw2 := hwf.2.1; have hw3 := hwf.2.2.1
 have o1 := hok.tag0; have o2 := hok.term0; have o3 := hok.had0; have o4 := hok.com0; have o5 := hok.len0; have o6 := hok.code0; have o7 := hok.code1; have o8 := hok.com1; have o9 := hok.len1
 obtain ⟨Aa, na, rfl, _⟩ := ha.1.len
 obtain ⟨Ba, ka, rfl, _⟩ := ha.2.len
 clear ha hok hs hwf hm
 generalize bodyL m = bo at *
 obtain ⟨kd, ⟨kind, ag, sh, seq, ep, ds, ser, fr, etg⟩, tag, code, nn, term, had, log, commit, len⟩ := m
 simp only [] at HB hnn0 hnn1 hw1 hw2 hw3 o1 o2 o3 o4 o5 o6 o7 o8 o9 hk
 subst hk
 obtain ⟨term, rfl⟩ := Int.eq_ofNat_of_zero_le (show 0 ≤ term by omega)
 obtain ⟨len, rfl⟩ := Int.eq_ofNat_of_zero_le (show 0 ≤ len by omega)
 simp only [Int.toNat_natCast] at HB
 have hw_term : IntKind.u64.wrap (term : Int) = (term : Int) := by rw [IntKind.wrap_u64]; omega
 have hu_term := Lib.uvarint_length64 (x := term) (by omega)
 have hw_len : IntKind.u64.wrap (len : Int) = (len : Int) := by rw [IntKind.wrap_u64]; omega
 have hu_len := Lib.uvarint_length64 (x := len) (by omega)
 have hw_k : IntKind.u8.wrap 6 = 6 := by decide
 simp only [mCell, eCell, List.cons_append, List.nil_append]
 obtain ⟨w2, hw2⟩ : ∃ w2, w2 = w.alloc (.cells #[.int .i64 6, .int .i64 kind, .int .i64 ag, .int .i64 sh, .int .i64 seq, .int .i64 ep, .slice Aa ds.length na, .string ser, .int .i64 fr, .int .i64 etg, .int .i64 tag, .int .i64 code, .int .u64 nn, .int .i64 term, .int .i64 had, .slice Ba log.length ka, .int .i64 commit, .int .i64 len] 68) := ⟨_, rfl⟩
 obtain ⟨w3, hw3⟩ : ∃ w3, w3 = w2.alloc (.cells #[.int .u8 6] 5) := ⟨_, rfl⟩
 have hk2 : Keeps [] w w2 := by rw [hw2]; exact (Keeps.refl _ _).alloc _
 have hk3 : Keeps [] w w3 := by rw [hw3]; exact hk2.alloc _
 have hBa2 : Blk w2 w.heap.size 68 #[.int .i64 6, .int .i64 kind, .int .i64 ag, .int .i64 sh, .int .i64 seq, .int .i64 ep, .slice Aa ds.length na, .string ser, .int .i64 fr, .int .i64 etg, .int .i64 tag, .int .i64 code, .int .u64 nn, .int .i64 term, .int .i64 had, .slice Ba log.length ka, .int .i64 commit, .int .i64 len] := by rw [hw2]; exact Blk.new w _ _
 have hBa : Blk w3 w.heap.size 68 #[.int .i64 6, .int .i64 kind, .int .i64 ag, .int .i64 sh, .int .i64 seq, .int .i64 ep, .slice Aa ds.length na, .string ser, .int .i64 fr, .int .i64 etg, .int .i64 tag, .int .i64 code, .int .u64 nn, .int .i64 term, .int .i64 had, .slice Ba log.length ka, .int .i64 commit, .int .i64 len] := by rw [hw3]; exact hBa2.below (below_new' _ _) hBa2.lt
 have hBb : Blk w3 w2.heap.size 5 #[.int .u8 6] := by rw [hw3]; exact Blk.new w2 _ _
 have hb8 : ∀ M, (∀ g ∈ M, g < w.heap.size) → Bs w3 M (.slice (some ⟨w2.heap.size, 0, none⟩) 1 1) [UInt8.ofNat 6] := fun M hM => ⟨_, _, rfl, Nat.le_refl _, rfl, fun _ => ⟨w2.heap.size, 0, rfl, hBb.lt, fun hm => by have := hM _ hm; have := hBa2.lt; omega, fun j u hu => by
  rw [Nat.zero_add, hBb.cell j]
  cases j with
  | zero => exact hu
  | succ j => cases hu⟩⟩
 have Hw2 := Lib.hid hw2; have Hw3 := Lib.hid hw3; have HBa2 := Lib.hid hBa2; have HBa := Lib.hid hBa; have Hk3 := Lib.hid hk3; have Hb8 := Lib.hid hb8
 clear hw2 hw3 hk2 hk3 hBa2 hBa hBb hb8
 show Calls Tryz.prog 100 #[.agg #[.int .i64 6, .int .i64 kind, .int .i64 ag, .int .i64 sh, .int .i64 seq, .int .i64 ep, .slice Aa ds.length na, .string ser, .int .i64 fr, .int .i64 etg, .int .i64 tag, .int .i64 code, .int .u64 nn, .int .i64 term, .int .i64 had, .slice Ba log.length ka, .int .i64 commit, .int .i64 len]] w fun r w' => BsPost bo w r w'
 go_enter Tryz.func100, Tryz.ntmps100
 go_upto_region 1 with (fail)
 rw [← Hw2.out]
 have hg3 : w.heap.size < w3.heap.size := HBa.out.lt
 obtain ⟨q0, q1, q2, q3, q4, q5, q6, q7, q8, q9, qa, qb, qc, qd, qe, qf, qg, qh, qz⟩ := blk18 HBa2.out
 generalize hgs : w.heap.size = g at HBa HBa2 Hb8 hg3 q0 q1 q2 q3 q4 q5 q6 q7 q8 q9 qa qb qc qd qe qf qg qh qz ⊢
 have Hgs := Lib.hid hgs
 clear Hw2 hgs
 go_upto_region 2 with (fail)
 rw [← Hw3.out]
 generalize w2.heap.size = g3 at *
 clear Hw3 q0 q1 q2 q3 q4 q5 q6 q7 q8 q9 qa qb qc qd qe qf qg qh qz
 obtain ⟨q0, q1, q2, q3, q4, q5, q6, q7, q8, q9, qa, qb, qc, qd, qe, qf, qg, qh, qz⟩ := blk18 HBa.out
 have hput := put_any (.slice (some ⟨g3, 0, none⟩) 1 1) ([UInt8.ofNat 6]) term w3 (Hb8.out [] (by simp)) (by omega) (by simp)
 generalize hL4 : [UInt8.ofNat 6] ++ Lib.uvarint term = L4 at hput
 have HL4 := Lib.hid hL4; have Hput := Lib.hid hput
 clear hL4 hput
 go_wp2_with fail
 refine Hput.out.mono ?_
 rintro e w4 ⟨A4, rfl, hS, hb⟩
 have HS4 : Hid (∀ M, (∀ x ∈ M, x < g) → Bs w4 M (.slice A4 L4.length L4.length) L4) := fun M hM => hS M (fun x hx => by have := hM x hx; have := hg3; omega)
 have Hk4 := Lib.hid (Hk3.out.trans (Keeps.of_below (M := []) hb) (by simp))
 have HBa4 := Lib.hid (HBa.out.below hb (hg3))
 have hg4 : g < w4.heap.size := HBa4.out.lt
 clear hS hb Hput q0 q1 q2 q3 q4 q5 q6 q7 q8 q9 qa qb qc qd qe qf qg qh qz
 obtain ⟨q0, q1, q2, q3, q4, q5, q6, q7, q8, q9, qa, qb, qc, qd, qe, qf, qg, qh, qz⟩ := blk18 HBa4.out
 have hput := put_any (.slice A4 L4.length L4.length) (L4) len w4 (HS4.out [] (by simp)) (by omega) (by have := congrArg List.length HL4.out; rw [List.length_append] at this; simp at this; omega)
 generalize hL5 : L4 ++ Lib.uvarint len = L5 at hput
 have HL5 := Lib.hid hL5; have Hput := Lib.hid hput
 clear hL5 hput
 go_wp2_with fail
 refine Hput.out.mono ?_
 rintro e w5 ⟨A5, rfl, hS, hb⟩
 have HS5 : Hid (∀ M, (∀ x ∈ M, x < g) → Bs w5 M (.slice A5 L5.length L5.length) L5) := fun M hM => hS M (fun x hx => by have := hM x hx; have := hg4; omega)
 have Hk5 := Lib.hid (Hk4.out.trans (Keeps.of_below (M := []) hb) (by simp))
 have HBa5 := Lib.hid (HBa4.out.below hb (hg4))
 have hg5 : g < w5.heap.size := HBa5.out.lt
 clear hS hb Hput q0 q1 q2 q3 q4 q5 q6 q7 q8 q9 qa qb qc qd qe qf qg qh qz
 obtain ⟨q0, q1, q2, q3, q4, q5, q6, q7, q8, q9, qa, qb, qc, qd, qe, qf, qg, qh, qz⟩ := blk18 HBa5.out
 obtain rfl : bo = L5 := by rw [HB.out, ← HL5.out, ← HL4.out]; simp
 have hp : Hid (BsPost bo w (.returned (.slice A5 bo.length bo.length)) w5) := ⟨A5, rfl, fun M hM => HS5.out M (by rw [← Hgs.out]; exact hM), Hk5.out.below⟩
 clear HB
 go_wp2
 go_ret
 exact hp.out
theorem mbody_any (m : MsgD) (dv lv : Value) (mx : Int) (w : World) (ha : MsgAt w [] m dv lv) (hok : MOk m) (hs : MShort m) (hwf : MWf m) (hm : w.cell? ⟨0, 0, none⟩ = some (.int .i64 mx)) :
  Calls Tryz.prog 100 #[.agg (mCell m dv lv).toArray] w fun r w' => BsPost (bodyL m) w r w' := by
 have h1 := hok.k1; have h6 := hok.k6
 rcases (show m.kd = 1 ∨ m.kd = 2 ∨ m.kd = 3 ∨ m.kd = 4 ∨ m.kd = 5 ∨ m.kd = 6 by omega) with h | h | h | h | h | h
 ·exact mbody_1 m dv lv mx w h ha hok hs hwf hm
 ·exact mbody_2 m dv lv mx w h ha hok hs hwf hm
 ·exact mbody_3 m dv lv mx w h ha hok hs hwf hm
 ·exact mbody_4 m dv lv mx w h ha hok hs hwf hm
 ·exact mbody_5 m dv lv mx w h ha hok hs hwf hm
 ·exact mbody_6 m dv lv mx w h ha hok hs hwf hm
end Go.Proofs.YtinnifhnabncfaaGreatDoor.Vi
end
section
namespace Go.Proofs.YtinnifhnabncfaaGreatDoor.Vi
open Go.RowKit Base Mem
theorem bad_any (M : List Nat) (p : Nat) (l : List UInt8) (bad : Bool) (w : World) (h : RdAt w M p l bad) :
  Calls Tryz.prog 179 #[.pointer (some ⟨p, 0, none⟩)] w fun e w' => e = .returned (.bool bad) ∧ w = w' := by
 obtain ⟨hl, v, hb, hs⟩ := h
 have c1 : w.cell? ⟨p, 1, none⟩ = some (.bool bad) := hb.cell 1
 clear hb hs
 go_enter Tryz.func179, Tryz.ntmps179
 go_wp2
 go_ret
 exact ⟨rfl, rfl⟩
theorem u32_xor_nat (a b : Nat) (ha : a < 4294967296) (hb : b < 4294967296) : bits .xor .u32 (a : Int) (b : Int) = ((a ^^^ b : Nat) : Int) := by
 show IntKind.u32.wrap ((BitVec.ofInt 32 (a : Int) ^^^ BitVec.ofInt 32 (b : Int)).toNat : Int) = _
 have h : a ^^^ b < 4294967296 := Nat.xor_lt_two_pow (n := 32) ha hb
 rw [BitVec.toNat_xor, BitVec.ofInt_natCast, BitVec.ofInt_natCast, BitVec.toNat_ofNat, BitVec.toNat_ofNat, Nat.mod_eq_of_lt ha, Nat.mod_eq_of_lt hb, IntKind.wrap_u32]
 omega
theorem u32_and1 (a : Nat) (ha : a < 4294967296) : bits .and .u32 (a : Int) 1 = ((a % 2 : Nat) : Int) := by
 show IntKind.u32.wrap ((BitVec.ofInt 32 (a : Int) &&& BitVec.ofInt 32 1).toNat : Int) = _
 rw [BitVec.toNat_and, BitVec.ofInt_natCast, BitVec.toNat_ofNat, Nat.mod_eq_of_lt ha, show (BitVec.ofInt 32 1).toNat = 2 ^ 1 - 1 from rfl, Nat.and_two_pow_sub_one_eq_mod, IntKind.wrap_u32]
 omega
theorem crcN_snoc : ∀ (k c : Nat), crcN (k + 1) c = crcStep (crcN k c)
 | 0, c => rfl
 | k + 1, c => by rw [crcN, crcN_snoc k, crcN]
set_option maxRecDepth 100000 in
theorem crcnext_any (c : Nat) (x : UInt8) (w : World) (hc : c < 4294967296) :
  Calls Tryz.prog 203 #[.int .u32 c, bV x] w fun e w' => e = .returned (.int .u32 (crcNext c x)) ∧ w = w' := by
 have hx := x.toNat_lt
 have Hx : Hid (crcNext c x = crcN 8 (c ^^^ x.toNat)) := rfl
 have hxor := u32_xor_nat c x.toNat hc (by omega)
 have h0 := Lib.hid (xor_byte_lt hc x)
 have hcv : IntKind.u32.wrap (x.toNat : Int) = (x.toNat : Int) := by rw [IntKind.wrap_u32]; omega
 unfold bV
 generalize c ^^^ x.toNat = a at *
 generalize x.toNat = xn at *
 go_enter Tryz.func203, Tryz.ntmps203
 go_wp2_with fail
 go_loop [0, 10] (fun s i => ∃ k : Nat, i = .int .i64 k ∧ k ≤ 8 ∧ s = .int .u32 (crcN k a : Nat)) (fun _ i => 8 - (intOf i).toNat)
 case atStart => exact ⟨0, rfl, by omega, rfl⟩
 case round =>
  obtain ⟨k, rfl, hk, rfl⟩ := hrel
  have hlt := crcN_lt k h0.out
  have Hs := Lib.hid (crcN_snoc k a)
  generalize hb : crcN k a = b at *
  have Hb := Lib.hid hb
  clear hb
  by_cases h8 : k < 8
  ·have hki : (k : Int) < 8 := by omega
   obtain ⟨q, hq⟩ : ∃ q, q = b / 2 := ⟨_, rfl⟩
   obtain ⟨p, hp⟩ : ∃ p, p = b % 2 := ⟨_, rfl⟩
   obtain ⟨r, hr⟩ : ∃ r, r = 3988292384 * p := ⟨_, rfl⟩
   have hand := u32_and1 b hlt
   have hmul : IntKind.u32.wrap (3988292384 * (p : Int)) = (r : Int) := by rw [IntKind.wrap_u32]; omega
   have hshr : (b : Int) / 2 = (q : Int) := by omega
   have hx2 := u32_xor_nat q r (by omega) (by omega)
   have Hst : Hid (crcN (k + 1) a = q ^^^ r) := by show _ = _; rw [Hs.out, hr, hq, hp]; rfl
   rw [← hp] at hand
   generalize q ^^^ r = nx at *
   clear hxor hcv Hs hq hp hr hlt
   go_wp2
   go_round
   case rel => exact ⟨k + 1, by go_num, by omega, by rw [Hst.out]⟩
   case measure => simp [intOf] <;> omega
  ·obtain rfl : k = 8 := by omega
   clear hxor hcv
   go_wp2
   go_ret
   exact ⟨ret_int (by rw [Hx.out, Hb.out]), rfl⟩
theorem crcOn_snoc (c : Nat) (l : List UInt8) (x : UInt8) : crcOn c (l ++ [x]) = crcNext (crcOn c l) x := by
 unfold crcOn
 rw [List.foldl_append]; rfl
set_option maxRecDepth 100000 in
theorem crcon_any (c : Nat) (v : Value) (l : List UInt8) (w : World) (hc : c < 4294967296) (h : Bs w [] v l) (hl : l.length ≤ 4611686018427387904) :
  Calls Tryz.prog 186 #[.int .u32 c, v] w fun e w' => e = .returned (.int .u32 (crcOn c l)) ∧ w = w' := by
 obtain ⟨A, cp, rfl, hcp⟩ := h.len
 have Hh := Lib.hid h
 clear h
 go_enter Tryz.func186, Tryz.ntmps186
 go_wp2_with fail
 go_loopw [0, 9] (fun s i wr => ∃ k : Nat, i = .int .i64 k ∧ k ≤ l.length ∧ s = .int .u32 (crcOn c (l.take k) : Nat) ∧ wr = w) (fun _ i _ => l.length - (intOf i).toNat)
 case atStart => exact ⟨0, rfl, by omega, rfl, rfl⟩
 case round =>
  obtain ⟨k, rfl, hk, rfl, rfl⟩ := hrel
  have hlt := crcOn_lt (l.take k) hc
  by_cases h8 : k < l.length
  ·have hki : (k : Int) < (l.length : Int) := by omega
   obtain ⟨g, off, _, e1, _, _, _, h1⟩ := Rd.at_ (fun b => [bV b]) 1 (fun _ => rfl) (xs := l) (show Rd wr [] 1 (.slice A l.length cp) l.length (l.flatMap fun b => [bV b]) by rw [← List.map_eq_flatMap]; exact Hh.out) h8
   obtain rfl : A = some ⟨g, off, none⟩ := by injection e1
   clear e1
   have c0 := h1 0 _ rfl
   rw [Nat.mul_one, Nat.add_zero] at c0
   have Hs : Hid (crcOn c (l.take (k + 1)) = crcNext (crcOn c (l.take k)) l[k]) := by show _ = _; rw [List.take_succ_eq_append_getElem h8, crcOn_snoc]
   generalize crcOn c (l.take k) = b at *
   have hnx := Lib.hid (crcnext_any b l[k] wr hlt)
   simp only [bV] at c0 hnx
   generalize crcNext b l[k] = nx at *
   generalize l[k].toNat = xn at *
   clear h1 hlt
   go_wp2_with fail
   refine hnx.out.mono ?_
   rintro e w' ⟨rfl, rfl⟩
   go_wp2
   go_roundw
   case rel => exact ⟨k + 1, by go_num, by omega, by rw [Hs.out], by first | trivial | rfl⟩
   case measure => simp [intOf] <;> omega
  ·obtain rfl : k = l.length := by omega
   have Ht : Hid (crcOn c (l.take l.length) = crcOn c l) := by show _ = _; rw [List.take_length]
   go_wp2
   go_ret
   exact ⟨ret_int (by rw [Ht.out]), rfl⟩
theorem u32_not (b : Nat) (hb : b < 4294967296) : bits .xor .u32 4294967295 (b : Int) = ((4294967295 - b : Nat) : Int) := by
 have h1 : (BitVec.allOnes 32 ^^^ BitVec.ofNat 32 b).toNat = (~~~ (BitVec.ofNat 32 b)).toNat := by rw [BitVec.allOnes_xor]
 rw [BitVec.toNat_xor, BitVec.toNat_allOnes, BitVec.toNat_not, BitVec.toNat_ofNat, Nat.mod_eq_of_lt hb] at h1
 have h2 := u32_xor_nat 4294967295 b (by decide) hb
 rw [show (4294967295 ^^^ b : Nat) = 4294967295 - b from h1] at h2
 exact h2
theorem crcof_any (v : Value) (l : List UInt8) (w : World) (h : Bs w [] v l) (hl : l.length ≤ 4611686018427387904) :
  Calls Tryz.prog 154 #[v] w fun e w' => e = .returned (.int .u32 (crcOf l)) ∧ w = w' := by
 have hon := Lib.hid (crcon_any 4294967295 v l w (by decide) h hl)
 obtain ⟨A, cp, rfl, hcp⟩ := h.len
 have hlt := crcOn_lt l (c := 4294967295) (by decide)
 have Ho : Hid (crcOf l = 4294967295 - crcOn 4294967295 l) := rfl
 clear h
 generalize crcOn 4294967295 l = b at *
 go_enter Tryz.func154, Tryz.ntmps154
 go_wp2_with fail
 refine hon.out.mono ?_
 rintro e w' ⟨rfl, rfl⟩
 go_wp2
 go_ret
 refine ⟨ret_int ?_, rfl⟩
 rw [Ho.out, ← u32_not b hlt]
 rfl
end Go.Proofs.YtinnifhnabncfaaGreatDoor.Vi
end
section
namespace Go.Proofs
open Go.Shelf
def Tryz.growU8_ren : Go.Shelf.Ren := ⟨fun | 4 => 187 | n => n, fun | 22 => 36 | 25 => 5 | 3 => 3 | 4 => 4 | 9 => 9 | 20 => 20 | 0 => 0 | n => n, fun | n => n⟩
theorem Tryz.growU8 : Go.Proofs.Lays8.n4 Tryz.prog Tryz.growU8_ren := {
 mixed := by kernel_rfl
 f4 := ⟨Tryz.f187.name, by decide, Tryz.func187.trans (congrArg some (by kernel_rfl))⟩
 t0 := Tryz.underlying0
 a0 := Tryz.isAgg0
 z0 := Tryz.sizeOf0
 v0 := Tryz.zeroValue0
 t3 := Tryz.underlying3
 a3 := Tryz.isAgg3
 z3 := Tryz.sizeOf3
 v3 := Tryz.zeroValue3
 t4 := Tryz.underlying4
 a4 := Tryz.isAgg4
 z4 := Tryz.sizeOf4
 v4 := Tryz.zeroValue4
 t9 := Tryz.underlying9
 a9 := Tryz.isAgg9
 z9 := Tryz.sizeOf9
 v9 := Tryz.zeroValue9
 t20 := Tryz.underlying20
 a20 := Tryz.isAgg20
 z20 := Tryz.sizeOf20
 v20 := Tryz.zeroValue20
 t22 := Tryz.underlying36
 a22 := Tryz.isAgg36
 z22 := Tryz.sizeOf36
 v22 := Tryz.zeroValue36 }
end Go.Proofs
end
section
namespace Go.Proofs.YtinnifhnabncfaaGreatDoor.Vi
open Go.RowKit Base Mem Go.Shelf
def GrowPost (w : World) (e : Ending) (w' : World) : Prop := ∃ v, e = .returned v ∧ w'.ownsRow w.heap.size 5 1 v 0 [] ∧ Below w.heap.size w w'
theorem growB_any (n : Nat) (w : World) (hn : n ≤ 2097152) :
  Calls Tryz.prog 187 #[.slice none 0 0, .int .i64 n] w fun e w' => GrowPost w e w' := by
 obtain ⟨i0, hi0, hz0, hz1, hz2⟩ := info_parts infoU8
 by_cases h0 : n = 0
 ·subst h0
  have h := Any8.slices_Grow_room Tryz.growU8 none 0 0 0 w (by omega) (by omega) (by omega) (by omega)
  refine Calls.mono h ?_
  rintro e w' ⟨rfl, rfl⟩
  exact ⟨_, rfl, World.ownsRow_nil _ _ _ _, Below.refl _ _⟩
 ·have h := Any8.slices_Grow_grow Tryz.growU8 i0 _ hi0 hz0 (by omega) none 0 0 n [] w (by omega) (by omega) (by rw [hz2]; omega) (by omega) (by simp) (fun _ => rfl) (fun _ h => by cases h)
  refine Calls.mono h ?_
  rintro e w' ⟨rfl, rfl⟩
  have hge := grownCap_ge w (0 + n) 0 5
  have hle := grownCap_le_maxLen w (0 + n) 0 5 (by unfold maxLen; omega)
  refine ⟨_, rfl, ⟨by simp, .inr ⟨w.heap.size, _, _, rfl, Nat.le_refl _, heap_alloc_new _ _, Nat.zero_le _, hle, ?_, by simp⟩⟩, below_new (((Keeps.refl [] w).drew).below) _⟩
  simp only [Array.size_append, size_zeroCells, List.size_toArray, List.length_nil]
  have ht : Tryz.growU8_ren.t 25 = 5 := rfl
  rw [ht]
  show 0 + (0 + n - 0) * 1 + (_ - (0 + n)) * 1 = _
  omega
def CatPost (la lb : List UInt8) (w : World) (e : Ending) (w' : World) : Prop := ∃ v, e = .returned v ∧ w'.ownsRow w.heap.size 5 1 v (la.length + lb.length) ((la ++ lb).map bV) ∧ Below w.heap.size w w'
set_option maxRecDepth 100000 in
theorem concatB_any (gs : Nat) (va vb : Value) (la lb : List UInt8) (w : World) (ha : Bs w [] va la) (hb : Bs w [] vb lb) (hla : la.length ≤ 1048576) (hlb : lb.length ≤ 1048576)
  (hgs : gs < w.heap.size) (h0 : w.cell? ⟨gs, 0, none⟩ = some va) (h1 : w.cell? ⟨gs, 1, none⟩ = some vb) :
  Calls Tryz.prog 155 #[.slice (some ⟨gs, 0, none⟩) 2 2] w fun e w' => CatPost la lb w e w' := by
 have Ha := Lib.hid ha; have Hb := Lib.hid hb
 obtain ⟨Aa, ca, rfl, hca⟩ := ha.len
 obtain ⟨Ab, cb, rfl, hcb⟩ := hb.len
 obtain ⟨i0, hi0, hz0, hz1, hz2⟩ := info_parts infoU8
 have Hi0 := Lib.hid hi0; have Hz0 := Lib.hid hz0; have Hz1 := Lib.hid hz1; have Hz2 := Lib.hid hz2
 clear ha hb hi0 hz0 hz1 hz2
 go_enter Tryz.func155, Tryz.ntmps155
 go_wp2_with fail
 go_loopw [3, 11] (fun n j wr => ∃ x y q : Nat, n = .int .i64 y ∧ j = .int .i64 x ∧ x ≤ 2 ∧ Hid ((x = 0 → y = 0) ∧ (x = 1 → y = la.length) ∧ (x = 2 → y = la.length + lb.length)) ∧ wr = w.drewN q) (fun _ j _ => 2 - (intOf j).toNat)
 case atStart => exact ⟨0, 0, 0, rfl, rfl, by omega, ⟨by omega, by omega, by omega⟩, rfl⟩
 case round =>
  obtain ⟨x, y, q, rfl, rfl, hx, Hy, rfl⟩ := hrel
  rcases (show x = 0 ∨ x = 1 ∨ x = 2 by omega) with rfl | rfl | rfl
  ·obtain rfl : y = 0 := Hy.out.1 rfl
   go_wp2
   go_roundw
   case rel => exact ⟨1, la.length, q, by go_num, by go_num, by omega, ⟨by omega, by omega, by omega⟩, rfl⟩
   case measure => simp [intOf]
  ·obtain rfl : y = la.length := Hy.out.2.1 rfl
   go_wp2
   go_roundw
   case rel => exact ⟨2, la.length + lb.length, q, by go_num, by go_num, by omega, ⟨by omega, by omega, by omega⟩, rfl⟩
   case measure => simp [intOf]
  ·obtain rfl : y = la.length + lb.length := Hy.out.2.2 rfl
   have hgr := Lib.hid (show Calls Tryz.prog 187 #[.slice none 0 0, .int .i64 ((la.length : Int) + lb.length)] (w.drewN q) (GrowPost (w.drewN q)) by
    have := growB_any (la.length + lb.length) (w.drewN q) (by omega)
    rwa [Int.natCast_add] at this)
   go_wp2_with fail
   refine hgr.out.mono ?_
   rintro e w1 ⟨v0, rfl, hown0, hb0⟩
   have Hown0 := Lib.hid (show w1.ownsRow w.heap.size 5 1 v0 0 [] from hown0)
   have Hb0 := Lib.hid (show Below w.heap.size w w1 from ⟨hb0.os, hb0.tape, hb0.output, hb0.size, hb0.block⟩)
   have k0 : w1.cell? ⟨gs, 0, none⟩ = some (.slice Aa la.length ca) := (Hb0.out.cell (p := ⟨gs, 0, none⟩) hgs).trans h0
   have k1 : w1.cell? ⟨gs, 1, none⟩ = some (.slice Ab lb.length cb) := (Hb0.out.cell (p := ⟨gs, 1, none⟩) hgs).trans h1
   clear hown0 hb0 Hy hgr
   go_wp2_with fail
   go_loopw [6, 27] (fun out j wr => ∃ x : Nat, j = .int .i64 x ∧ x ≤ 2 ∧ Hid (Below w.heap.size w wr) ∧ Hid ((x = 0 → wr.ownsRow w.heap.size 5 1 out 0 []) ∧ (x = 1 → wr.ownsRow w.heap.size 5 1 out la.length (la.map bV)) ∧ (x = 2 → wr.ownsRow w.heap.size 5 1 out (la.length + lb.length) ((la ++ lb).map bV)))) (fun _ j _ => 2 - (intOf j).toNat)
   case atStart => exact ⟨0, rfl, by omega, Hb0.out, ⟨fun _ => Hown0.out, by omega, by omega⟩⟩
   case round =>
    obtain ⟨x, rfl, hx, Hbr, Hor⟩ := hrel
    have k0 : wr.cell? ⟨gs, 0, none⟩ = some (.slice Aa la.length ca) := (Hbr.out.cell (p := ⟨gs, 0, none⟩) hgs).trans h0
    have k1 : wr.cell? ⟨gs, 1, none⟩ = some (.slice Ab lb.length cb) := (Hbr.out.cell (p := ⟨gs, 1, none⟩) hgs).trans h1
    rcases (show x = 0 ∨ x = 1 ∨ x = 2 by omega) with rfl | rfl | rfl
    ·have Hown := Lib.hid (Hor.out.1 rfl)
     have Hrd := Lib.hid ((Ha.out.keep (Keeps.of_below (M := []) Hbr.out) (by simp)).reads)
     obtain ⟨A1, c1, e1, _, hrd⟩ := Hrd.out
     injection e1 with e1 _ e2
     subst e1 e2
     have Hrd2 := Lib.hid hrd
     clear hrd Hrd
     go_wp2_with (at_builtin; refine wpList_append_any _ rfl (.tmp 31) (.tmp 32) _ rfl w.heap.size 5 i0 _ 1 1 Tryz.underlying36 Hi0.out Hz0.out Hz1.out Hz2.out rfl (by omega) u6 0 [] rfl Hown.out wr.heap.size Aa la.length ca (la.map bV) rfl Hrd2.out (bV_one la) (by unfold maxLen; omega) (by omega) Hbr.out.size ?_)
     intro v' w4 hown4 hg4 hat4
     have Hown4 : Hid (w4.ownsRow w.heap.size 5 1 v' la.length (la.map bV)) := by show World.ownsRow _ _ _ _ _ _ _; simpa using hown4
     have Hb4 := Lib.hid (Hbr.out.grown hg4 Hbr.out.size (fun g hg => (Hown.out.lt g hg).1))
     clear hown4 hg4 hat4
     go_wp2
     go_roundw
     case rel => exact ⟨1, by go_num, by omega, Hb4, ⟨by omega, fun _ => Hown4.out, by omega⟩⟩
     case measure => simp [intOf]
    ·have Hown := Lib.hid (Hor.out.2.1 rfl)
     have Hrd := Lib.hid ((Hb.out.keep (Keeps.of_below (M := []) Hbr.out) (by simp)).reads)
     obtain ⟨A1, c1, e1, _, hrd⟩ := Hrd.out
     injection e1 with e1 _ e2
     subst e1 e2
     have Hrd2 := Lib.hid hrd
     clear hrd Hrd
     go_wp2_with (at_builtin; refine wpList_append_any _ rfl (.tmp 31) (.tmp 32) _ rfl w.heap.size 5 i0 _ 1 1 Tryz.underlying36 Hi0.out Hz0.out Hz1.out Hz2.out rfl (by omega) u6 la.length (la.map bV) rfl Hown.out wr.heap.size Ab lb.length cb (lb.map bV) rfl Hrd2.out (bV_one lb) (by unfold maxLen; omega) (by omega) Hbr.out.size ?_)
     intro v' w4 hown4 hg4 hat4
     have Hown4 : Hid (w4.ownsRow w.heap.size 5 1 v' (la.length + lb.length) ((la ++ lb).map bV)) := by show World.ownsRow _ _ _ _ _ _ _; rw [List.map_append]; exact hown4
     have Hb4 := Lib.hid (Hbr.out.grown hg4 Hbr.out.size (fun g hg => (Hown.out.lt g hg).1))
     clear hown4 hg4 hat4
     go_wp2
     go_roundw
     case rel => exact ⟨2, by go_num, by omega, Hb4, ⟨by omega, by omega, fun _ => Hown4.out⟩⟩
     case measure => simp [intOf]
    ·have hp : CatPost la lb w (.returned u6) wr := ⟨u6, rfl, Hor.out.2.2 rfl, Hbr.out⟩
     go_wp2
     go_ret
     exact hp
end Go.Proofs.YtinnifhnabncfaaGreatDoor.Vi
end
section
namespace Go.Proofs.YtinnifhnabncfaaGreatDoor.Vi
open Go.RowKit Base Mem Go.Shelf
theorem own_more {w : World} {base base' : Nat} {e : TypeId} {size n : Nat} {v : Value} {xs : List Value} (h : w.ownsRow base e size v n xs) (hb : base' ≤ base) : w.ownsRow base' e size v n xs := by
 obtain ⟨hl, h⟩ := h
 refine ⟨hl, h.imp id ?_⟩
 rintro ⟨g, cap, cur, hv, hbg, rest⟩
 exact ⟨g, cap, cur, hv, Nat.le_trans hb hbg, rest⟩
def FrPost (l : List UInt8) (w : World) (e : Ending) (w' : World) : Prop := ∃ A c, e = .returned (.tuple #[.slice A (frameL l).length c, .int .i64 0]) ∧ (∀ M, (∀ g ∈ M, g < w.heap.size) → Bs w' M (.slice A (frameL l).length c) (frameL l)) ∧ Below w.heap.size w w'
theorem frame_long (v : Value) (l : List UInt8) (w : World) (h : Bs w [] v l) (hl : 65536 < l.length) :
  Calls Tryz.prog 99 #[v] w fun e w' => e = .returned (.tuple #[.slice none 0 0, .int .i64 3]) ∧ w = w' := by
 obtain ⟨A, c, rfl, _⟩ := h.len
 have hi : (65536 : Int) < (l.length : Int) := by omega
 clear h
 go_enter Tryz.func99, Tryz.ntmps99
 go_wp2
 go_ret2
 exact ⟨rfl, rfl⟩
set_option maxRecDepth 100000 in
set_option maxHeartbeats 1000000 in
theorem frame_any (v : Value) (l : List UInt8) (w : World) (h : Bs w [] v l) (hl : l.length ≤ 65536) :
  Calls Tryz.prog 99 #[v] w fun e w' => FrPost l w e w' := by
 obtain ⟨i0, hi0, hz0, hz1, hz2⟩ := info_parts infoU8
 have Hi0 := Lib.hid hi0; have Hz0 := Lib.hid hz0; have Hz1 := Lib.hid hz1; have Hz2 := Lib.hid hz2
 obtain ⟨A, c, rfl, hc⟩ := h.len
 have Hh := Lib.hid h
 have hput := put_any (.slice none 0 0) [] l.length w (Bs.nil _ _) (by omega) (by simp)
 rw [List.nil_append] at hput
 have Hput := Lib.hid hput
 have hul := Lib.uvarint_length64 (x := l.length) (by omega)
 have hup := Lib.uvarint_pos l.length
 have HF : Hid (frameL l = Lib.uvarint l.length ++ (leL (crcOf l) ++ l)) := rfl
 have hcr := Lib.hid (fun W (hk : Keeps [] w W) => crcof_any (.slice A l.length c) l W (h.keep hk (by simp)) (by omega))
 have hs := crcOf_lt l
 clear h hi0 hz0 hz1 hz2 hput
 generalize crcOf l = s at *
 generalize Lib.uvarint l.length = uv at *
 obtain ⟨n, hn⟩ : ∃ n, n = uv.length := ⟨_, rfl⟩
 have Hn := Lib.hid hn
 rw [← hn] at hul hup
 have hwl : IntKind.u64.wrap (l.length : Int) = (l.length : Int) := by rw [IntKind.wrap_u64]; omega
 have hli : decide ((65536 : Int) < (l.length : Int)) = false := decide_eq_false (by omega)
 clear hn
 go_enter Tryz.func99, Tryz.ntmps99
 go_wp2_with fail
 refine Hput.out.mono ?_
 rintro e w1 ⟨A1, rfl, hB1, hb1⟩
 obtain ⟨g1, o1, rfl⟩ := (hB1 [] (by simp)).some_ (by have := Hn.out; omega)
 rw [← Hn.out] at hB1 ⊢
 have HB1 := Lib.hid (hB1 [] (by simp)); have Hb1 := Lib.hid hb1
 have Hc1 := Lib.hid (hcr.out w1 (Keeps.of_below hb1))
 clear hB1 hb1 hcr Hput
 go_wp2_with fail
 refine Hc1.out.mono ?_
 rintro e w' ⟨rfl, rfl⟩
 clear Hc1
 go_wp2_with fail
 go_loopw [4, 16] (fun out i wr => ∃ x : Nat, i = .int .i64 x ∧ x ≤ 4 ∧ Hid ((x = 0 → out = .slice (some ⟨g1, o1, none⟩) n n ∧ Bs wr [] out uv) ∧ (0 < x → wr.ownsRow w.heap.size 5 1 out (n + x) ((uv ++ (leL s).take x).map bV))) ∧ Hid (Below w.heap.size w wr)) (fun _ i _ => 4 - (intOf i).toNat)
 case atStart => exact ⟨0, rfl, by omega, ⟨fun _ => ⟨rfl, HB1.out⟩, by omega⟩, Hb1.out⟩
 case round =>
  obtain ⟨x, rfl, hx, Hor, Hbr⟩ := hrel
  rcases (show x = 0 ∨ x = 1 ∨ x = 2 ∨ x = 3 ∨ x = 4 by omega) with rfl | rfl | rfl | rfl | rfl
  ·have hone : Hid (bV (UInt8.ofNat (s)) = .int .u8 ((s : Int) % 256)) := by show _ = _; rw [bV_low]; try (congr 1)
   have Hrd := Lib.hid (reads_new wr 5 1 1 [.int .u8 ((s : Int) % 256)] rfl)
   obtain ⟨rfl, hB⟩ := Hor.out.1 rfl
   obtain ⟨_, _, eA, hg, _⟩ := (show ∃ g off, (some ⟨g1, o1, none⟩ : Option Addr) = some ⟨g, off, none⟩ ∧ g < wr.heap.size ∧ True by
    obtain ⟨A', c', e2, _, _, hr⟩ := hB
    injection e2 with e2 _ _
    subst e2
    obtain ⟨g', off', e3, hg', _, _⟩ := hr (by have := Hn.out; omega)
    exact ⟨g', off', e3, hg', trivial⟩)
   injection eA with eA
   injection eA with eg eo _
   subst eg eo
   have HBw := Lib.hid hB
   have Hcells : Hid (∀ (j : Nat) u, (uv.map bV)[j]? = some u → (wr.alloc (.cells #[.int .u8 ((s : Int) % 256)] 5)).cell? ⟨g1, o1 + j, none⟩ = some u) := fun j u hu => by
    obtain ⟨A', c', e2, _, _, hr⟩ := HBw.out
    injection e2 with e2 _ _
    subst e2
    obtain ⟨g', off', e3, hg', _, hx⟩ := hr (by have := Hn.out; omega)
    injection e3 with e3
    injection e3 with e3 e4 _
    subst e3 e4
    rw [World.cell?_alloc_lt wr _ ⟨g1, o1 + j, none⟩ hg]
    exact hx j u hu
   clear hB
   go_wp2_with (at_builtin; refine wpList_append_arg _ rfl (.tmp 19) (.tmp 25) _ rfl 5 i0 _ 1 1 Tryz.underlying36 Hi0.out Hz0.out Hz1.out Hz2.out rfl (by omega) g1 o1 n n (uv.map bV) rfl (by have := Hn.out; simp; omega) Hcells.out ⟨wr.heap.size, 0, none⟩ 1 1 [.int .u8 ((s : Int) % 256)] rfl rfl (fun j u hu => (Hrd.out.2 (by omega)).elim fun ad h => by obtain ⟨e, _, hx⟩ := h; injection e with e; subst e; exact hx j u hu) (by intro u hu; simp at hu; subst hu; rfl) (fun h => by omega) (by unfold maxLen; omega) (by omega) (fun h => by omega) (fun _ => ?_))
   intro v' w4 hown4 hg4
   have Hown4 : Hid (w4.ownsRow w.heap.size 5 1 v' (n + 1) ((uv ++ (leL s).take 1).map bV)) := by
    show World.ownsRow _ _ _ _ _ _ _
    have e : (uv ++ (leL s).take 1).map bV = uv.map bV ++ [.int .u8 ((s : Int) % 256)] := by rw [← hone.out]; simp [leL]
    rw [e]
    exact own_more (base' := w.heap.size) hown4 (by have := Hbr.out.size; simp; omega)
   have Hb4 : Hid (Below w.heap.size w w4) := (Hbr.out.alloc Hbr.out.size _).grown hg4 (by have := Hbr.out.size; simp; omega) (by simp)
   clear hown4 hg4
   go_wp2
   go_roundw
   case rel => exact ⟨1, by go_num, by omega, ⟨by omega, fun _ => Hown4.out⟩, Hb4⟩
   case measure => simp [intOf]
  ·have hone : Hid (bV (UInt8.ofNat (s / 256)) = .int .u8 ((s : Int) / 256 % 256)) := by show _ = _; rw [bV_low]; try (congr 1)
   have Hrd := Lib.hid (reads_new wr 5 1 1 [.int .u8 ((s : Int) / 256 % 256)] rfl)
   have Hown3 := Lib.hid ((Hor.out.2 (by omega)).alloc (.cells #[.int .u8 ((s : Int) / 256 % 256)] 5))
   go_wp2_with (at_builtin; go_must (refine wpList_append_any _ rfl (.tmp 19) (.tmp 25) _ rfl w.heap.size 5 i0 _ 1 1 Tryz.underlying36 Hi0.out Hz0.out Hz1.out Hz2.out rfl (by omega) u4 (n + 1) ((uv ++ (leL s).take 1).map bV) rfl Hown3.out (wr.heap.size + 1) (some ⟨wr.heap.size, 0, none⟩) 1 1 [.int .u8 ((s : Int) / 256 % 256)] rfl Hrd.out (by intro u hu; simp at hu; subst hu; rfl) (by unfold maxLen; omega) (by omega) (by have := Hbr.out.size; simp; omega) ?_))
   intro v' w4 hown4 hg4 hat4
   have Hown4 : Hid (w4.ownsRow w.heap.size 5 1 v' (n + 2) ((uv ++ (leL s).take 2).map bV)) := by
    show World.ownsRow _ _ _ _ _ _ _
    have e : (uv ++ (leL s).take 2).map bV = (uv ++ (leL s).take 1).map bV ++ [.int .u8 ((s : Int) / 256 % 256)] := by rw [← hone.out]; simp [leL]
    rw [e]
    simpa [Nat.add_assoc] using hown4
   have Hb4 : Hid (Below w.heap.size w w4) := (Hbr.out.alloc Hbr.out.size _).grown hg4 (by have := Hbr.out.size; simp; omega) (fun g hg => ((Hor.out.2 (by omega)).lt g hg).1)
   clear hown4 hg4 hat4
   go_wp2
   go_roundw
   case rel => exact ⟨2, by go_num, by omega, ⟨by omega, fun _ => Hown4.out⟩, Hb4⟩
   case measure => simp [intOf]
  ·have hone : Hid (bV (UInt8.ofNat (s / 65536)) = .int .u8 ((s : Int) / 65536 % 256)) := by show _ = _; rw [bV_low]; try (congr 1)
   have Hrd := Lib.hid (reads_new wr 5 1 1 [.int .u8 ((s : Int) / 65536 % 256)] rfl)
   have Hown3 := Lib.hid ((Hor.out.2 (by omega)).alloc (.cells #[.int .u8 ((s : Int) / 65536 % 256)] 5))
   go_wp2_with (at_builtin; go_must (refine wpList_append_any _ rfl (.tmp 19) (.tmp 25) _ rfl w.heap.size 5 i0 _ 1 1 Tryz.underlying36 Hi0.out Hz0.out Hz1.out Hz2.out rfl (by omega) u4 (n + 2) ((uv ++ (leL s).take 2).map bV) rfl Hown3.out (wr.heap.size + 1) (some ⟨wr.heap.size, 0, none⟩) 1 1 [.int .u8 ((s : Int) / 65536 % 256)] rfl Hrd.out (by intro u hu; simp at hu; subst hu; rfl) (by unfold maxLen; omega) (by omega) (by have := Hbr.out.size; simp; omega) ?_))
   intro v' w4 hown4 hg4 hat4
   have Hown4 : Hid (w4.ownsRow w.heap.size 5 1 v' (n + 3) ((uv ++ (leL s).take 3).map bV)) := by
    show World.ownsRow _ _ _ _ _ _ _
    have e : (uv ++ (leL s).take 3).map bV = (uv ++ (leL s).take 2).map bV ++ [.int .u8 ((s : Int) / 65536 % 256)] := by rw [← hone.out]; simp [leL]
    rw [e]
    simpa [Nat.add_assoc] using hown4
   have Hb4 : Hid (Below w.heap.size w w4) := (Hbr.out.alloc Hbr.out.size _).grown hg4 (by have := Hbr.out.size; simp; omega) (fun g hg => ((Hor.out.2 (by omega)).lt g hg).1)
   clear hown4 hg4 hat4
   go_wp2
   go_roundw
   case rel => exact ⟨3, by go_num, by omega, ⟨by omega, fun _ => Hown4.out⟩, Hb4⟩
   case measure => simp [intOf]
  ·have hone : Hid (bV (UInt8.ofNat (s / 16777216)) = .int .u8 ((s : Int) / 16777216)) := by show _ = _; rw [bV_low]; congr 1; omega
   have Hrd := Lib.hid (reads_new wr 5 1 1 [.int .u8 ((s : Int) / 16777216)] rfl)
   have Hown3 := Lib.hid ((Hor.out.2 (by omega)).alloc (.cells #[.int .u8 ((s : Int) / 16777216)] 5))
   go_wp2_with (at_builtin; go_must (refine wpList_append_any _ rfl (.tmp 19) (.tmp 25) _ rfl w.heap.size 5 i0 _ 1 1 Tryz.underlying36 Hi0.out Hz0.out Hz1.out Hz2.out rfl (by omega) u4 (n + 3) ((uv ++ (leL s).take 3).map bV) rfl Hown3.out (wr.heap.size + 1) (some ⟨wr.heap.size, 0, none⟩) 1 1 [.int .u8 ((s : Int) / 16777216)] rfl Hrd.out (by intro u hu; simp at hu; subst hu; rfl) (by unfold maxLen; omega) (by omega) (by have := Hbr.out.size; simp; omega) ?_))
   intro v' w4 hown4 hg4 hat4
   have Hown4 : Hid (w4.ownsRow w.heap.size 5 1 v' (n + 4) ((uv ++ (leL s).take 4).map bV)) := by
    show World.ownsRow _ _ _ _ _ _ _
    have e : (uv ++ (leL s).take 4).map bV = (uv ++ (leL s).take 3).map bV ++ [.int .u8 ((s : Int) / 16777216)] := by rw [← hone.out]; simp [leL]
    rw [e]
    simpa [Nat.add_assoc] using hown4
   have Hb4 : Hid (Below w.heap.size w w4) := (Hbr.out.alloc Hbr.out.size _).grown hg4 (by have := Hbr.out.size; simp; omega) (fun g hg => ((Hor.out.2 (by omega)).lt g hg).1)
   clear hown4 hg4 hat4
   go_wp2
   go_roundw
   case rel => exact ⟨4, by go_num, by omega, ⟨by omega, fun _ => Hown4.out⟩, Hb4⟩
   case measure => simp [intOf]
  ·have hown := Hor.out.2 (by omega)
   have hB4 : Bs wr [] u4 (uv ++ leL s) := by
    have := Rd.of_own (M := []) hown (by simp)
    have e : (leL s).take 4 = leL s := rfl
    rw [e] at this
    unfold Bs
    rw [List.length_append, ← Hn.out, leL_len]
    exact this
   obtain ⟨A4, c4, rfl, hc4⟩ := hB4.len
   have hl4 : (uv ++ leL s).length = n + 4 := by rw [List.length_append, ← Hn.out, leL_len]
   have hBl : Bs wr [] (.slice A l.length c) l := Hh.out.keep (Keeps.of_below (M := []) Hbr.out) (by simp)
   have hk : Keeps [] wr (wr.alloc (.cells #[.slice A4 (n + 4) c4, .slice A l.length c] 36)) := (Keeps.refl _ _).alloc _
   rw [hl4] at hB4
   have hBk := Blk.new wr 36 #[.slice A4 (n + 4) c4, .slice A l.length c]
   have hcat := Lib.hid (concatB_any wr.heap.size (.slice A4 (n + 4) c4) (.slice A l.length c) (uv ++ leL s) l _ (hB4.keep hk (by simp)) (hBl.keep hk (by simp)) (by rw [hl4]; omega) (by omega) hBk.lt (hBk.cell 0) (hBk.cell 1))
   have Hb5 := Lib.hid ((Keeps.of_below (M := []) Hbr.out).trans hk (by simp)).below
   have hfe : Hid (frameL l = (uv ++ leL s) ++ l) := by show _ = _; rw [HF.out, List.append_assoc]
   rw [hl4]
   clear hB4 hBl hk hBk hown hl4 hc4
   go_wp2_with fail
   refine hcat.out.mono ?_
   rintro e w6 ⟨v6, rfl, hown6, hb6⟩
   rw [← List.length_append, ← hfe.out] at hown6
   have hR6 : ∀ M, (∀ g ∈ M, g < w.heap.size) → Bs w6 M v6 (frameL l) := fun M hM => Rd.of_own hown6 (fun g hg => by have := hM g hg; have := Hb5.out.size; omega)
   obtain ⟨A6, c6, rfl, hc6⟩ := (hR6 [] (by simp)).len
   have hp : Hid (FrPost l w (.returned (.tuple #[.slice A6 (frameL l).length c6, .int .i64 0])) w6) := ⟨A6, c6, rfl, hR6, below_then Hb5.out hb6⟩
   clear hown6 hR6 hb6 hcat
   generalize (frameL l).length = fl at *
   go_wp2
   go_ret2
   exact hp.out
end Go.Proofs.YtinnifhnabncfaaGreatDoor.Vi
end
section
namespace Go.Proofs.YtinnifhnabncfaaGreatDoor.Vi
open Go.RowKit Base Mem Go.Shelf
def mbytesS (m : MsgD) : List UInt8 × Nat := if mrightS m = 0 then (if 65536 < (bodyL m).length then ([], 3) else (frameL (bodyL m), 0)) else ([], mrightS m)
def MBPost (r : List UInt8 × Nat) (w : World) (e : Ending) (w' : World) : Prop := ∃ A c, e = .returned (.tuple #[.slice A r.1.length c, .int .i64 r.2]) ∧ (∀ M, (∀ g ∈ M, g < w.heap.size) → Bs w' M (.slice A r.1.length c) r.1) ∧ Below w.heap.size w w'
set_option maxRecDepth 100000 in
set_option maxHeartbeats 2000000 in
theorem mbytes_any (m : MsgD) (dv lv : Value) (mx : Int) (w : World) (ha : MsgAt w [] m dv lv) (hs : MShort m) (hwf : MWf m) (hm : w.cell? ⟨0, 0, none⟩ = some (.int .i64 mx)) :
  Calls Tryz.prog 52 #[.agg (mCell m dv lv).toArray] w fun r w' => MBPost (mbytesS m) w r w' := by
 have hw0 : 0 < w.heap.size := by
  have := World.block_lt_of_cell? w _ hm
  simpa using this
 have hkeepm : Hid (∀ W, Keeps [] w W → W.cell? ⟨0, 0, none⟩ = some (.int .i64 mx)) := fun W hb => (hb.cell (p := ⟨0, 0, none⟩) hw0 (by simp)).trans hm
 have hri := Lib.hid (fun W (hk : Keeps [] w W) => mright_any m dv lv mx W (ha.keep hk (by simp)) hs (hkeepm.out W hk))
 have hbo := Lib.hid (fun W (hk : Keeps [] w W) (hz : mrightS m = 0) => mbody_any m dv lv mx W (ha.keep hk (by simp)) (mright_ok hz) hs hwf (hkeepm.out W hk))
 have HM : Hid (mbytesS m = if mrightS m = 0 then (if 65536 < (bodyL m).length then ([], 3) else (frameL (bodyL m), 0)) else ([], mrightS m)) := rfl
 obtain ⟨Aa, na, rfl, _⟩ := ha.1.len
 obtain ⟨Ba, ka, rfl, _⟩ := ha.2.len
 clear ha hs hwf hm
 generalize mbytesS m = R at *
 generalize mrightS m = z at *
 generalize bodyL m = bl at *
 obtain ⟨kd, ⟨kind, ag, sh, seq, ep, ds, ser, fr, etg⟩, tag, code, nn, term, had, log, commit, len⟩ := m
 simp only [mCell, eCell, List.cons_append, List.nil_append] at hri hbo ⊢
 obtain ⟨w2, hw2⟩ : ∃ w2, w2 = w.alloc (.cells #[.int .i64 kd, .int .i64 kind, .int .i64 ag, .int .i64 sh, .int .i64 seq, .int .i64 ep, .slice Aa ds.length na, .string ser, .int .i64 fr, .int .i64 etg, .int .i64 tag, .int .i64 code, .int .u64 nn, .int .i64 term, .int .i64 had, .slice Ba log.length ka, .int .i64 commit, .int .i64 len] 68) := ⟨_, rfl⟩
 have hk2 : Keeps [] w w2 := by rw [hw2]; exact (Keeps.refl _ _).alloc _
 have hBa : Blk w2 w.heap.size 68 #[.int .i64 kd, .int .i64 kind, .int .i64 ag, .int .i64 sh, .int .i64 seq, .int .i64 ep, .slice Aa ds.length na, .string ser, .int .i64 fr, .int .i64 etg, .int .i64 tag, .int .i64 code, .int .u64 nn, .int .i64 term, .int .i64 had, .slice Ba log.length ka, .int .i64 commit, .int .i64 len] := by rw [hw2]; exact Blk.new w _ _
 have Hw2 := Lib.hid hw2; have HBa := Lib.hid hBa; have Hk2 := Lib.hid hk2
 clear hw2 hBa hk2
 show Calls Tryz.prog 52 #[.agg #[.int .i64 kd, .int .i64 kind, .int .i64 ag, .int .i64 sh, .int .i64 seq, .int .i64 ep, .slice Aa ds.length na, .string ser, .int .i64 fr, .int .i64 etg, .int .i64 tag, .int .i64 code, .int .u64 nn, .int .i64 term, .int .i64 had, .slice Ba log.length ka, .int .i64 commit, .int .i64 len]] w fun r w' => MBPost R w r w'
 go_enter Tryz.func52, Tryz.ntmps52
 go_upto_region 1 with (fail)
 rw [← Hw2.out]
 have hg2 : w.heap.size < w2.heap.size := HBa.out.lt
 generalize hgs : w.heap.size = g at HBa hg2 ⊢
 have Hgs := Lib.hid hgs
 clear Hw2 hgs
 have HR := Lib.hid (blk_range HBa.out)
 have Hr := Lib.hid (hri.out w2 Hk2.out)
 go_wp2_with (refine wpList_load_mid rfl 68 (.tmp 1) rfl g 0 rfl _ _ HR.out Tryz.underlying68 rfl (by kernel_rfl) ?_)
 refine Hr.out.mono ?_
 rintro e w3 ⟨rfl, hb3⟩
 have HB3 := Lib.hid (HBa.out.below hb3 hg2)
 have Hk3 := Lib.hid (Hk2.out.trans (Keeps.of_below (M := []) hb3) (by simp))
 clear hb3 Hr hri HBa Hk2 hg2 HR
 by_cases hz : z = 0
 ·subst hz
  have Hb := Lib.hid (hbo.out w3 Hk3.out rfl)
  have HR := Lib.hid (blk_range HB3.out)
  have HM2 : Hid (R = if 65536 < bl.length then ([], 3) else (frameL bl, 0)) := by show _ = _; rw [HM.out, if_pos rfl]
  clear HM hbo
  go_wp2_with (refine wpList_load_mid rfl 68 (.tmp 1) rfl g 0 rfl _ _ HR.out Tryz.underlying68 rfl (by kernel_rfl) ?_)
  refine Hb.out.mono ?_
  rintro e w4 ⟨A4, rfl, hS4, hb4⟩
  have HS4 := Lib.hid (hS4 [] (by simp))
  have Hk4 := Lib.hid (Hk3.out.trans (Keeps.of_below (M := []) hb4) (by simp))
  clear hS4 hb4 Hb HR HB3
  go_wp2_with fail
  by_cases hl : 65536 < bl.length
  ·obtain rfl : R = ([], 3) := by rw [HM2.out, if_pos hl]
   refine (frame_long _ bl w4 HS4.out hl).mono ?_
   rintro e w5 ⟨rfl, rfl⟩
   clear HM2
   go_wp2
   go_ret2
   exact ⟨none, 0, rfl, fun M _ => Bs.nil _ _, Hk4.out.below⟩
  ·obtain rfl : R = (frameL bl, 0) := by rw [HM2.out, if_neg hl]
   refine (frame_any _ bl w4 HS4.out (by omega)).mono ?_
   rintro e w5 ⟨A5, c5, rfl, hS5, hb5⟩
   have HS5 := Lib.hid hS5
   have Hk5 := Lib.hid (Hk4.out.trans (Keeps.of_below (M := []) hb5) (by simp))
   clear hS5 hb5 HM2
   go_wp2
   go_ret2
   exact ⟨A5, c5, rfl, fun M hM => HS5.out M (fun x hx => Nat.lt_of_lt_of_le (hM x hx) Hk4.out.size), Hk5.out.below⟩
 ·obtain rfl : R = ([], z) := by rw [HM.out, if_neg hz]
  have hz2 : ((z : Int) != 0) = true := by simpa using hz
  clear HM hbo
  go_wp2
  go_ret2
  exact ⟨none, 0, rfl, fun M _ => Bs.nil _ _, Hk3.out.below⟩
end Go.Proofs.YtinnifhnabncfaaGreatDoor.Vi
end
section
namespace Go.Proofs.YtinnifhnabncfaaGreatDoor.Vi
open Go.RowKit Base Mem
def setAll : Array Value → Nat → List Value → Array Value
 | cs, _, [] => cs
 | cs, o, v :: r => setAll (cs.setIfInBounds o v) (o + 1) r
theorem setAll_list : ∀ (vs : List Value) (o : Nat) (cs : Array Value), o + vs.length ≤ cs.size → (setAll cs o vs).toList = cs.toList.take o ++ (vs ++ cs.toList.drop (o + vs.length))
 | [], o, cs, _ => by simp [setAll]
 | v :: r, o, cs, h => by
  have hl : o < cs.toList.length := by simp at h ⊢; omega
  rw [setAll, setAll_list r (o + 1) _ (by simp at h ⊢; omega), Array.toList_setIfInBounds, List.drop_set_of_lt (by omega), List.take_add_one, List.take_set_of_le (Nat.le_refl _), List.getElem?_set_self hl]
  rw [List.append_assoc, List.length_cons, Nat.add_comm r.length 1, ← Nat.add_assoc]
  rfl
theorem blk_setCells {g : Nat} {t : TypeId} : ∀ (vs : List Value) (o : Nat) (w : World) (cs : Array Value), Blk w g t cs → Blk (w.setCells g o vs) g t (setAll cs o vs)
 | [], _, _, _, h => h
 | v :: r, o, _, _, h => blk_setCells r (o + 1) _ _ (h.set_ o v)
theorem keeps_setCells {M : List Nat} {a : World} {g : Nat} (hg : g ∈ M ∨ a.heap.size ≤ g) : ∀ (vs : List Value) (o : Nat) (w : World), Keeps M a w → Keeps M a (w.setCells g o vs)
 | [], _, _, h => h
 | v :: r, o, _, h => keeps_setCells hg r (o + 1) _ (h.setCell hg v)
theorem there_blk {w : World} {g : Nat} {t : TypeId} {cs : Array Value} (h : Blk w g t cs) {o n : Nat} (hn : o + n ≤ cs.size) : w.there g o n := fun j hj =>
 ⟨by rw [h.cell, Array.getElem?_eq_getElem (by omega)]; rfl, h.frozen _⟩
theorem wpList_store_blk {P : Program} {ops : Array Oper} {rest : List Oper} {op : Oper} {a : Act} {w : World} {Q : Exit → Act → World → Prop} (hgd : op.guard = none) (ty : TypeId) (x y : Operand) (ho : op.op = .store ty x y)
  (g o : Nat) (T : TypeId) (c0 c1 cells : Array Value) (hx : a.eval x = .pointer (some ⟨g, o, none⟩)) (hy : a.eval y = .agg cells)
  (hB : Blk w g T c0) (hn : o + cells.size ≤ c0.size) (hc : c1.toList = c0.toList.take o ++ (cells.toList ++ c0.toList.drop (o + cells.toList.length))) (hi : (P.info? ty).map (·.size) = some cells.size) (h1 : cells.toList.all (·.oneCell') = true)
  (h : ∀ w', Keeps [g] w w' → Blk w' g T c1 → wpList P ops Q rest (a.put op.dst undef) w') : wpList P ops Q (op :: rest) a w :=
 wpList_store_mid hgd ty x y ho g o cells hx hy (there_blk hB hn) hi (by rw [← Array.all_toList]; exact h1) (h _ (keeps_setCells (by simp) _ _ _ (Keeps.refl _ _)) (by have := blk_setCells cells.toList o _ _ hB; rwa [show setAll c0 o cells.toList = c1 from Array.toList_inj.1 ((setAll_list _ _ _ (by simpa using hn)).trans hc.symm)] at this))
theorem results_cell1 {P : Program} {fn : Func} {t : Tmp} {ty : TypeId} (h : fn.results = #[.cell t ty]) (tmps : Array Value) (w : World) (g : Nat) (T : TypeId) (cs : Array Value) (d : TypeDesc)
  (ht : tmps.getD t undef = .pointer (some ⟨g, 0, none⟩)) (hB : Blk w g T cs) (hu : P.underlying ty = some d) (hd : d.isRow = true) (hi : (P.info? ty).map (·.size) = some cs.size) :
  (results fn tmps).run P w = .ok (.agg cs) w := by
 have hl := run_loadVar_mid (P := P) w g 0 ty cs.toList d (blk_range hB) hu hd (by simpa using hi)
 have ht' : tmps[t]?.getD undef = .pointer (some ⟨g, 0, none⟩) := by simpa using ht
 simp [results, h, ht', asAddr, hl]
theorem results_cell2 {P : Program} {fn : Func} {t u : Tmp} {ty : TypeId} (h : fn.results = #[.cell t ty, .tmp u]) (tmps : Array Value) (w : World) (g : Nat) (T : TypeId) (cs : Array Value) (d : TypeDesc)
  (ht : tmps.getD t undef = .pointer (some ⟨g, 0, none⟩)) (hB : Blk w g T cs) (hu : P.underlying ty = some d) (hd : d.isRow = true) (hi : (P.info? ty).map (·.size) = some cs.size) :
  (results fn tmps).run P w = .ok (.tuple #[.agg cs, tmps.getD u undef]) w := by
 have hl := run_loadVar_mid (P := P) w g 0 ty cs.toList d (blk_range hB) hu hd (by simpa using hi)
 have ht' : tmps[t]?.getD undef = .pointer (some ⟨g, 0, none⟩) := by simpa using ht
 simp [results, h, ht', asAddr, hl]
end Go.Proofs.YtinnifhnabncfaaGreatDoor.Vi
end
section
namespace Go.Proofs.YtinnifhnabncfaaGreatDoor.Tape
open Go.RowKit Base Mem
theorem infoEnt4 : (Tryz.prog.info? 26).map (fun i => (i.zero, i.size, i.bytes)) = some (some (.agg #[.int .i64 0, .int .i64 0, .int .i64 0, .int .i64 0, .int .i64 0, .slice none 0 0, .string ByteArray.empty, .int .i64 0, .int .i64 0]), 9, 96) := by kernel_rfl
def LogPost (b : Nat) (L : TapeL) (most : Int) (w : World) (e : Ending) (w' : World) : Prop := ∃ (v : Value) (l : List EntryD) (k' : Nat), e = .returned v ∧ (∀ en ∈ l, EntryOk en) ∧ (l.length : Int) ≤ most ∧
 (∀ M, (∀ g ∈ M, g < w.heap.size) → Ens w' M v l) ∧ TapeAt w' b L k' ∧ Keeps [b] w w'
set_option maxRecDepth 100000 in
theorem log_any (b : Nat) (L : TapeL) (k : Nat) (most : Int) (w : World) (h : TapeAt w b L k) (h1 : 0 ≤ most) (h2 : most ≤ 1000) :
  Calls Tryz.prog 80 #[.pointer (some ⟨b, 0, none⟩), .int .i64 most] w fun e w' => LogPost b L most w e w' := by
 have hbw := h.lt
 have H := Lib.hid h
 obtain ⟨i0, hi0, hz0, hz1, hz2⟩ := info_parts infoEnt4
 have Hi0 := Lib.hid hi0; have Hz0 := Lib.hid hz0; have Hz1 := Lib.hid hz1; have Hz2 := Lib.hid hz2
 clear h hi0 hz0 hz1 hz2
 go_enter Tryz.func80, Tryz.ntmps80
 go_wp2_with fail
 refine (next_any b L k (most + 1) w H.out).mono ?_
 rintro e w1 ⟨v, k1, rfl, hv0, hv8, hT, hK⟩
 have hv9 := hv8 (by omega)
 have HT := Lib.hid hT; have HK := Lib.hid hK
 clear hv8 hT hK
 go_wp2
 go_loopw [5, 6] (fun out nn wr => ∃ (qs : List (EntryD × Value)) (r : Int) (k' : Nat), nn = .int .i64 r ∧ 0 ≤ r ∧ Hid (r + qs.length = v) ∧ qs.length ≤ 1000 ∧ r ≤ v ∧ Hid (∀ q ∈ qs, EntryOk q.1) ∧ Hid (wr.ownsRow w.heap.size 26 9 out qs.length (qs.flatMap eCell)) ∧ Hid (DsOwn w wr out qs) ∧ Hid (TapeAt wr b L k') ∧ Hid (Keeps [b] w wr))
  (fun _ nn _ => (intOf nn).toNat)
 case atStart => exact ⟨[], v, k1, rfl, by omega, (by show _ = _; simp), by simp, by omega, (show ∀ _, _ from by simp), World.ownsRow_nil _ _ _ _, (show DsOwn _ _ _ _ from by intro q hq; cases hq), HT.out, HK.out⟩
 case round =>
  obtain ⟨qs, r, k', rfl, hr0, Hrl, hq8, hrv, Hok, Hown, Hds, HTr, HKr⟩ := hrel
  by_cases hr : 0 < r
  ·go_wp2_with fail
   refine (entry_any b L k' wr HTr.out).mono ?_
   rintro e w2 ⟨en, dv, k2, rfl, hok, hds, hT2, hK2⟩
   obtain ⟨Ad, cd, hdv, _⟩ := (hds [] (by simp)).len
   subst hdv
   have Hok2 := Lib.hid hok; have Hds2 := Lib.hid hds; have HT2 := Lib.hid hT2; have HK2 := Lib.hid hK2
   have Hown2 := Lib.hid ((own_keep Hown.out hK2 (by simp; omega)).alloc (.cells (eCell (en, .slice Ad en.ds.length cd)).toArray 26))
   clear hok hds hT2 hK2
   simp only [eCell]
   go_wp2_with (at_builtin; refine wpList_append_any _ rfl (.tmp 15) (.tmp 18) _ rfl w.heap.size 26 i0 _ 9 96 Tryz.underlying52 Hi0.out Hz0.out Hz1.out Hz2.out rfl (by omega) u5 qs.length (qs.flatMap eCell) rfl Hown2.out (w2.heap.size + 1) (some ⟨w2.heap.size, 0, none⟩) 1 1 (eCell (en, .slice Ad en.ds.length cd)) rfl (reads_new _ _ _ _ _ rfl) (by intro u hu; simp [eCell] at hu; rcases hu with rfl | rfl | rfl | rfl | rfl | rfl | rfl | rfl | rfl <;> rfl) (by unfold maxLen; omega) (by omega) (by have := HKr.out.size; have := HK2.out.size; simp; omega) ?_)
   intro v' w4 hown4 hg4 hat4
   have hlt0 := Hown.out.lt
   have hK5 : Keeps [b] w w4 := ((HKr.out.trans HK2.out (by simp)).alloc _).grown hg4 (fun g hg => .inr (hlt0 g hg).1)
   have hT5 : TapeAt w4 b L k2 := HT2.out.keep (M' := u5.ownBlock.toList) (((Keeps.refl _ _).alloc _).grown hg4 (fun g hg => .inl (by simpa using hg))) (by intro g hg; have := hlt0 g (by simpa using hg); omega)
   have hds5 : DsOwn w w4 v' (qs ++ [(en, .slice Ad en.ds.length cd)]) := by
    exact dsOwn_stepK Hds.out HK2.out (by simp; omega) (fun g hg => (hlt0 g hg).2) HKr.out.size Hds2.out hg4 hat4
   have hok4 : ∀ q ∈ qs ++ [(en, Value.slice Ad en.ds.length cd)], EntryOk q.1 := fun q hq => by
    rcases List.mem_append.1 hq with hq | hq
    ·exact Hok.out q hq
    ·simp at hq; subst hq; exact Hok2.out
   have Hok4 := Lib.hid hok4
   have hown5 : w4.ownsRow w.heap.size 26 9 v' (qs ++ [(en, Value.slice Ad en.ds.length cd)]).length ((qs ++ [(en, Value.slice Ad en.ds.length cd)]).flatMap eCell) := by
    rw [List.length_append, List.flatMap_append]
    simpa using hown4
   have Hown5 := Lib.hid hown5; have Hds5 := Lib.hid hds5; have HT5 := Lib.hid hT5; have HK5 := Lib.hid hK5
   have hr3 := Hrl.out
   have Hr3 : Hid (r - 1 + ((qs ++ [(en, Value.slice Ad en.ds.length cd)]).length : Int) = v) := by show _ = _; simp; omega
   have hq9 : (qs ++ [(en, Value.slice Ad en.ds.length cd)]).length ≤ 1000 := by simp; omega
   clear hown4 hg4 hat4 hlt0 hK5 hT5 hds5 hok4 hown5 hr3
   go_wp2
   go_roundw
   case rel => exact ⟨qs ++ [(en, .slice Ad en.ds.length cd)], r - 1, k2, rfl, by omega, Hr3, hq9, by omega, Hok4, Hown5, Hds5, HT5, HK5⟩
   case measure => simp [intOf]; omega
  ·have hr0 : r = 0 := by omega
   subst hr0
   have hrl := Hrl.out
   have hpost : LogPost b L most w (.returned u5) wr :=
    ⟨u5, qs.map (·.1), k', rfl, by intro en hen; obtain ⟨q, hq, rfl⟩ := List.mem_map.1 hen; exact Hok.out q hq, by rw [List.length_map]; omega, fun M hM => ⟨qs, rfl, Rd.of_own Hown.out hM, fun p hp => Hds.out p hp M (fun g hg => .inl (hM g hg))⟩, HTr.out, HKr.out⟩
   clear hrl
   go_wp2
   go_ret
   exact hpost
end Go.Proofs.YtinnifhnabncfaaGreatDoor.Tape
end
