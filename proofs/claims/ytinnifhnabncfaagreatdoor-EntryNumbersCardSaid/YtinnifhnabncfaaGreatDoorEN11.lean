/- Texts put together: Msg4, Msg5, StB, Tape4, Msg6. -/
import Derived.Deep.RegionHeld3
import Derived.Test.YtinnifhnabncfaaGreatDoorEN3
import Derived.Test.YtinnifhnabncfaaGreatDoorEN8
import Derived.Test.YtinnifhnabncfaaGreatDoorEN10
set_option linter.unusedVariables false
set_option linter.unusedSimpArgs false
/- Contract of mail.body. -/
section
namespace Go.Proofs.YtinnifhnabncfaaGreatDoor.Vi
open Go.RowKit Base Mem Go.Shelf
def bodyL (m : MsgD) : List UInt8 :=
  [UInt8.ofNat m.kd.toNat] ++ (if m.kd = 1 then eBlob m.en
  else if m.kd = 2 then Lib.uvarint m.tag.toNat ++ Lib.uvarint m.code.toNat ++ Lib.uvarint m.nn.toNat
  else if m.kd = 4 then Lib.uvarint m.term.toNat ++ Lib.uvarint m.had.toNat ++ putLog m.log
  else if m.kd = 5 then Lib.uvarint m.term.toNat ++ Lib.uvarint m.commit.toNat ++ putLog m.log
  else if m.kd = 6 then Lib.uvarint m.term.toNat ++ Lib.uvarint m.len.toNat
  else Lib.uvarint m.term.toNat)
/-- Its numbers go into their types. -/
def MWf (m : MsgD) : Prop := m.tag ≤ 9223372036854775807 ∧ m.term ≤ 9223372036854775807 ∧ m.had ≤ 9223372036854775807 ∧ 0 ≤ m.nn ∧ m.nn < 18446744073709551616 ∧ Wf m.en ∧ ∀ e ∈ m.log, Wf e
theorem logRight_all {l : List EntryD} (h : logRight l = 0) : ∀ e ∈ l, rightE e = 0 := by
  induction l with
  | nil => simp
  | cons e l ih =>
    unfold logRight at h
    intro x hx
    by_cases he : rightE e = 0
    · rw [if_pos he] at h
      rcases List.mem_cons.1 hx with rfl | hx
      · exact he
      · exact ih h x hx
    · rw [if_neg he] at h; exact absurd h he
structure MOk (m : MsgD) : Prop where
  k1 : 1 ≤ m.kd
  k6 : m.kd ≤ 6
  zero : zeroS m = true
  tag0 : 0 ≤ m.tag
  term0 : 0 ≤ m.term
  had0 : 0 ≤ m.had
  com0 : 0 ≤ m.commit
  len0 : 0 ≤ m.len
  code0 : 0 ≤ m.code
  code1 : m.code ≤ 255
  com1 : m.commit ≤ 128
  len1 : m.len ≤ 128
  logl : m.log.length ≤ 128
  ask : m.kd = 1 → rightE m.en = 0
  logs : m.kd ≠ 1 → ∀ e ∈ m.log, rightE e = 0
theorem mright_ok {m : MsgD} (h : mrightS m = 0) : MOk m := by
  unfold mrightS at h
  by_cases h1 : m.kd < 1 ∨ 6 < m.kd ∨ zeroS m = false
  · rw [if_pos h1] at h; cases h
  rw [if_neg h1] at h
  have hz : zeroS m = true := by
    cases hz : zeroS m with
    | true => rfl
    | false => exact absurd (.inr (.inr hz)) h1
  have hb : bad2 m = false := by
    cases hb : bad2 m with
    | false => rfl
    | true => rw [hb] at h; cases h
  rw [hb, if_neg (by simp)] at h
  unfold bad2 at hb
  simp at hb
  by_cases hl : 128 < m.log.length
  · rw [if_pos hl] at h; cases h
  rw [if_neg hl] at h
  refine ⟨by omega, by omega, hz, by omega, by omega, by omega, by omega, by omega, by omega, by omega, by omega, by omega, by omega, fun hk => ?_, fun hk => ?_⟩
  · rwa [if_pos hk] at h
  · rw [if_neg hk] at h; exact logRight_all h
set_option maxRecDepth 100000 in
set_option maxHeartbeats 2000000 in
theorem mbody_1 (m : MsgD) (dv lv : Value) (mx : Int) (w : World) (hk : m.kd = 1) (ha : MsgAt w [] m dv lv) (hok : MOk m) (hs : MShort m) (hwf : MWf m) (hm : w.cell? ⟨0, 0, none⟩ = some (.int .i64 mx)) :
    Calls Tryz.prog 100 #[.agg (mCell m dv lv).toArray] w fun r w' => BsPost (bodyL m) w r w' := by
  have hw0 : 0 < w.heap.size := by
    have := World.block_lt_of_cell? w _ hm
    simpa using this
  have hkeepm : Hid (∀ W, Keeps [] w W → W.cell? ⟨0, 0, none⟩ = some (.int .i64 mx)) := fun W hb => (hb.cell (p := ⟨0, 0, none⟩) hw0 (by simp)).trans hm
  have hby := Lib.hid (fun W (hk' : Keeps [] w W) => ebytes_ok m.en dv mx W (hok.ask hk) (ha.1.keep hk' (by simp)) hs.1 hwf.2.2.2.2.2.1 (hkeepm.out W hk'))
  have hbig := bytesE_big (show EOk m.en from ⟨hok.ask hk, hs.1, hwf.2.2.2.2.2.1⟩)
  have HB : Hid (bodyL m = [UInt8.ofNat 1] ++ (eBlob m.en)) := by show _ = _; unfold bodyL; rw [hk]; rfl
  have hnn0 := hwf.2.2.2.1; have hnn1 := hwf.2.2.2.2.1; have hw1 := hwf.1; have hw2 := hwf.2.1; have hw3 := hwf.2.2.1
  have o1 := hok.tag0; have o2 := hok.term0; have o3 := hok.had0; have o4 := hok.com0; have o5 := hok.len0; have o6 := hok.code0; have o7 := hok.code1; have o8 := hok.com1; have o9 := hok.len1
  obtain ⟨Aa, na, rfl, _⟩ := ha.1.len
  obtain ⟨Ba, ka, rfl, _⟩ := ha.2.len
  clear ha hok hs hwf hm
  generalize bodyL m = bo at *
  obtain ⟨kd, ⟨kind, ag, sh, seq, ep, ds, ser, fr, etg⟩, tag, code, nn, term, had, log, commit, len⟩ := m
  simp only [] at HB hnn0 hnn1 hw1 hw2 hw3 o1 o2 o3 o4 o5 o6 o7 o8 o9 hk hbig
  subst hk
  simp only [eCell] at hby
  have hw_k : IntKind.u8.wrap 1 = 1 := by decide
  simp only [mCell, eCell, List.cons_append, List.nil_append]
  obtain ⟨w2, hw2⟩ : ∃ w2, w2 = w.alloc (.cells #[.int .i64 1, .int .i64 kind, .int .i64 ag, .int .i64 sh, .int .i64 seq, .int .i64 ep, .slice Aa ds.length na, .string ser, .int .i64 fr, .int .i64 etg, .int .i64 tag, .int .i64 code, .int .u64 nn, .int .i64 term, .int .i64 had, .slice Ba log.length ka, .int .i64 commit, .int .i64 len] 68) := ⟨_, rfl⟩
  obtain ⟨w3, hw3⟩ : ∃ w3, w3 = w2.alloc (.cells #[.int .u8 1] 5) := ⟨_, rfl⟩
  have hk2 : Keeps [] w w2 := by rw [hw2]; exact (Keeps.refl _ _).alloc _
  have hk3 : Keeps [] w w3 := by rw [hw3]; exact hk2.alloc _
  have hBa2 : Blk w2 w.heap.size 68 #[.int .i64 1, .int .i64 kind, .int .i64 ag, .int .i64 sh, .int .i64 seq, .int .i64 ep, .slice Aa ds.length na, .string ser, .int .i64 fr, .int .i64 etg, .int .i64 tag, .int .i64 code, .int .u64 nn, .int .i64 term, .int .i64 had, .slice Ba log.length ka, .int .i64 commit, .int .i64 len] := by rw [hw2]; exact Blk.new w _ _
  have hBa : Blk w3 w.heap.size 68 #[.int .i64 1, .int .i64 kind, .int .i64 ag, .int .i64 sh, .int .i64 seq, .int .i64 ep, .slice Aa ds.length na, .string ser, .int .i64 fr, .int .i64 etg, .int .i64 tag, .int .i64 code, .int .u64 nn, .int .i64 term, .int .i64 had, .slice Ba log.length ka, .int .i64 commit, .int .i64 len] := by rw [hw3]; exact hBa2.below (below_new' _ _) hBa2.lt
  have hBb : Blk w3 w2.heap.size 5 #[.int .u8 1] := by rw [hw3]; exact Blk.new w2 _ _
  have hb8 : ∀ M, (∀ g ∈ M, g < w.heap.size) → Bs w3 M (.slice (some ⟨w2.heap.size, 0, none⟩) 1 1) [UInt8.ofNat 1] := fun M hM => ⟨_, _, rfl, Nat.le_refl _, rfl, fun _ => ⟨w2.heap.size, 0, rfl, hBb.lt, fun hm => by have := hM _ hm; have := hBa2.lt; omega, fun j u hu => by
    rw [Nat.zero_add, hBb.cell j]
    cases j with
    | zero => exact hu
    | succ j => cases hu⟩⟩
  have Hw2 := Lib.hid hw2; have Hw3 := Lib.hid hw3; have HBa2 := Lib.hid hBa2; have HBa := Lib.hid hBa; have Hk3 := Lib.hid hk3; have Hb8 := Lib.hid hb8
  clear hw2 hw3 hk2 hk3 hBa2 hBa hBb hb8
  show Calls Tryz.prog 100 #[.agg #[.int .i64 1, .int .i64 kind, .int .i64 ag, .int .i64 sh, .int .i64 seq, .int .i64 ep, .slice Aa ds.length na, .string ser, .int .i64 fr, .int .i64 etg, .int .i64 tag, .int .i64 code, .int .u64 nn, .int .i64 term, .int .i64 had, .slice Ba log.length ka, .int .i64 commit, .int .i64 len]] w fun r w' => BsPost bo w r w'
  go_enter Tryz.func100, Tryz.ntmps100
  go_upto_region 1 with (fail)
  rw [← Hw2.out]
  have hg3 : w.heap.size < w3.heap.size := HBa.out.lt
  obtain ⟨q0, q1, q2, q3, q4, q5, q6, q7, q8, q9, qa, qb, qc, qd, qe, qf, qg, qh, qz⟩ := blk18 HBa2.out
  generalize hgs : w.heap.size = g at HBa HBa2 Hb8 hg3 q0 q1 q2 q3 q4 q5 q6 q7 q8 q9 qa qb qc qd qe qf qg qh qz ⊢
  have Hgs := Lib.hid hgs
  clear Hw2 hgs
  go_upto_region 2 with (fail)
  rw [← Hw3.out]
  generalize w2.heap.size = g3 at *
  clear Hw3 q0 q1 q2 q3 q4 q5 q6 q7 q8 q9 qa qb qc qd qe qf qg qh qz
  obtain ⟨q0, q1, q2, q3, q4, q5, q6, q7, q8, q9, qa, qb, qc, qd, qe, qf, qg, qh, qz⟩ := blk18 HBa.out
  have Hby := Lib.hid (hby.out w3 Hk3.out)
  go_wp2_with fail
  refine Hby.out.mono ?_
  rintro e w4 ⟨A4, rfl, hS4, hb4⟩
  have HS4 := Lib.hid (hS4 [] (by simp))
  have Hk4 := Lib.hid (Hk3.out.trans (Keeps.of_below (M := []) hb4) (by simp))
  have H84 : Hid (∀ M, (∀ x ∈ M, x < g) → Bs w4 M (.slice (some ⟨g3, 0, none⟩) 1 1) [UInt8.ofNat 1]) := fun M hM => (Hb8.out M hM).keep (Keeps.of_below (M := []) hb4) (by simp)
  have cv := conv_bytes HS4.out
  have Htx := text_any (.slice (some ⟨g3, 0, none⟩) 1 1) [UInt8.ofNat 1] ⟨(bytesE ⟨kind, ag, sh, seq, ep, ds, ser, fr, etg⟩).toArray⟩ w4 (H84.out [] (by simp)) (by show 1 + (List.toArray _).size ≤ _; rw [List.size_toArray]; omega)
  rw [show (⟨(bytesE ⟨kind, ag, sh, seq, ep, ds, ser, fr, etg⟩).toArray⟩ : ByteArray).size = (bytesE ⟨kind, ag, sh, seq, ep, ds, ser, fr, etg⟩).length from List.size_toArray .., show sB ⟨(bytesE ⟨kind, ag, sh, seq, ep, ds, ser, fr, etg⟩).toArray⟩ = bytesE ⟨kind, ag, sh, seq, ep, ds, ser, fr, etg⟩ from rfl] at Htx
  have HTx := Lib.hid Htx
  have HLX : Hid (bo = [UInt8.ofNat 1] ++ Lib.uvarint (bytesE ⟨kind, ag, sh, seq, ep, ds, ser, fr, etg⟩).length ++ bytesE ⟨kind, ag, sh, seq, ep, ds, ser, fr, etg⟩) := by show _ = _; rw [HB.out]; rfl
  rw [← HLX.out] at HTx
  generalize bytesE ⟨kind, ag, sh, seq, ep, ds, ser, fr, etg⟩ = bx at *
  clear hS4 hb4 Hby hby Htx HLX HB
  go_wp2_with fail
  refine HTx.out.mono ?_
  rintro e w5 ⟨A5, rfl, hS5, hb5⟩
  have hp : Hid (BsPost bo w (.returned (.slice A5 bo.length bo.length)) w5) := ⟨A5, rfl, fun M hM => hS5 M (fun x hx => Nat.lt_of_lt_of_le (hM x hx) Hk4.out.size), (Hk4.out.trans (Keeps.of_below (M := []) hb5) (by simp)).below⟩
  clear hS5 hb5 HTx
  go_wp2
  go_ret
  exact hp.out
set_option maxRecDepth 100000 in
set_option maxHeartbeats 2000000 in
theorem mbody_2 (m : MsgD) (dv lv : Value) (mx : Int) (w : World) (hk : m.kd = 2) (ha : MsgAt w [] m dv lv) (hok : MOk m) (hs : MShort m) (hwf : MWf m) (hm : w.cell? ⟨0, 0, none⟩ = some (.int .i64 mx)) :
    Calls Tryz.prog 100 #[.agg (mCell m dv lv).toArray] w fun r w' => BsPost (bodyL m) w r w' := by
  have hw0 : 0 < w.heap.size := by
    have := World.block_lt_of_cell? w _ hm
    simpa using this
  have hkeepm : Hid (∀ W, Keeps [] w W → W.cell? ⟨0, 0, none⟩ = some (.int .i64 mx)) := fun W hb => (hb.cell (p := ⟨0, 0, none⟩) hw0 (by simp)).trans hm
  have _ := hs
  have HB : Hid (bodyL m = [UInt8.ofNat 2] ++ (Lib.uvarint m.tag.toNat ++ Lib.uvarint m.code.toNat ++ Lib.uvarint m.nn.toNat)) := by show _ = _; unfold bodyL; rw [hk]; rfl
  have hnn0 := hwf.2.2.2.1; have hnn1 := hwf.2.2.2.2.1; have hw1 := hwf.1; have hw2 := hwf.2.1; have hw3 := hwf.2.2.1
  have o1 := hok.tag0; have o2 := hok.term0; have o3 := hok.had0; have o4 := hok.com0; have o5 := hok.len0; have o6 := hok.code0; have o7 := hok.code1; have o8 := hok.com1; have o9 := hok.len1
  obtain ⟨Aa, na, rfl, _⟩ := ha.1.len
  obtain ⟨Ba, ka, rfl, _⟩ := ha.2.len
  clear ha hok hs hwf hm
  generalize bodyL m = bo at *
  obtain ⟨kd, ⟨kind, ag, sh, seq, ep, ds, ser, fr, etg⟩, tag, code, nn, term, had, log, commit, len⟩ := m
  simp only [] at HB hnn0 hnn1 hw1 hw2 hw3 o1 o2 o3 o4 o5 o6 o7 o8 o9 hk
  subst hk
  obtain ⟨tag, rfl⟩ := Int.eq_ofNat_of_zero_le (show 0 ≤ tag by omega)
  obtain ⟨code, rfl⟩ := Int.eq_ofNat_of_zero_le (show 0 ≤ code by omega)
  obtain ⟨nn, rfl⟩ := Int.eq_ofNat_of_zero_le (show 0 ≤ nn by omega)
  simp only [Int.toNat_natCast] at HB
  have hw_tag : IntKind.u64.wrap (tag : Int) = (tag : Int) := by rw [IntKind.wrap_u64]; omega
  have hu_tag := Lib.uvarint_length64 (x := tag) (by omega)
  have hw_code : IntKind.u64.wrap (code : Int) = (code : Int) := by rw [IntKind.wrap_u64]; omega
  have hu_code := Lib.uvarint_length64 (x := code) (by omega)
  have hu_nn := Lib.uvarint_length64 (x := nn) (by omega)
  have hw_k : IntKind.u8.wrap 2 = 2 := by decide
  simp only [mCell, eCell, List.cons_append, List.nil_append]
  obtain ⟨w2, hw2⟩ : ∃ w2, w2 = w.alloc (.cells #[.int .i64 2, .int .i64 kind, .int .i64 ag, .int .i64 sh, .int .i64 seq, .int .i64 ep, .slice Aa ds.length na, .string ser, .int .i64 fr, .int .i64 etg, .int .i64 tag, .int .i64 code, .int .u64 nn, .int .i64 term, .int .i64 had, .slice Ba log.length ka, .int .i64 commit, .int .i64 len] 68) := ⟨_, rfl⟩
  obtain ⟨w3, hw3⟩ : ∃ w3, w3 = w2.alloc (.cells #[.int .u8 2] 5) := ⟨_, rfl⟩
  have hk2 : Keeps [] w w2 := by rw [hw2]; exact (Keeps.refl _ _).alloc _
  have hk3 : Keeps [] w w3 := by rw [hw3]; exact hk2.alloc _
  have hBa2 : Blk w2 w.heap.size 68 #[.int .i64 2, .int .i64 kind, .int .i64 ag, .int .i64 sh, .int .i64 seq, .int .i64 ep, .slice Aa ds.length na, .string ser, .int .i64 fr, .int .i64 etg, .int .i64 tag, .int .i64 code, .int .u64 nn, .int .i64 term, .int .i64 had, .slice Ba log.length ka, .int .i64 commit, .int .i64 len] := by rw [hw2]; exact Blk.new w _ _
  have hBa : Blk w3 w.heap.size 68 #[.int .i64 2, .int .i64 kind, .int .i64 ag, .int .i64 sh, .int .i64 seq, .int .i64 ep, .slice Aa ds.length na, .string ser, .int .i64 fr, .int .i64 etg, .int .i64 tag, .int .i64 code, .int .u64 nn, .int .i64 term, .int .i64 had, .slice Ba log.length ka, .int .i64 commit, .int .i64 len] := by rw [hw3]; exact hBa2.below (below_new' _ _) hBa2.lt
  have hBb : Blk w3 w2.heap.size 5 #[.int .u8 2] := by rw [hw3]; exact Blk.new w2 _ _
  have hb8 : ∀ M, (∀ g ∈ M, g < w.heap.size) → Bs w3 M (.slice (some ⟨w2.heap.size, 0, none⟩) 1 1) [UInt8.ofNat 2] := fun M hM => ⟨_, _, rfl, Nat.le_refl _, rfl, fun _ => ⟨w2.heap.size, 0, rfl, hBb.lt, fun hm => by have := hM _ hm; have := hBa2.lt; omega, fun j u hu => by
    rw [Nat.zero_add, hBb.cell j]
    cases j with
    | zero => exact hu
    | succ j => cases hu⟩⟩
  have Hw2 := Lib.hid hw2; have Hw3 := Lib.hid hw3; have HBa2 := Lib.hid hBa2; have HBa := Lib.hid hBa; have Hk3 := Lib.hid hk3; have Hb8 := Lib.hid hb8
  clear hw2 hw3 hk2 hk3 hBa2 hBa hBb hb8
  show Calls Tryz.prog 100 #[.agg #[.int .i64 2, .int .i64 kind, .int .i64 ag, .int .i64 sh, .int .i64 seq, .int .i64 ep, .slice Aa ds.length na, .string ser, .int .i64 fr, .int .i64 etg, .int .i64 tag, .int .i64 code, .int .u64 nn, .int .i64 term, .int .i64 had, .slice Ba log.length ka, .int .i64 commit, .int .i64 len]] w fun r w' => BsPost bo w r w'
  go_enter Tryz.func100, Tryz.ntmps100
  go_upto_region 1 with (fail)
  rw [← Hw2.out]
  have hg3 : w.heap.size < w3.heap.size := HBa.out.lt
  obtain ⟨q0, q1, q2, q3, q4, q5, q6, q7, q8, q9, qa, qb, qc, qd, qe, qf, qg, qh, qz⟩ := blk18 HBa2.out
  generalize hgs : w.heap.size = g at HBa HBa2 Hb8 hg3 q0 q1 q2 q3 q4 q5 q6 q7 q8 q9 qa qb qc qd qe qf qg qh qz ⊢
  have Hgs := Lib.hid hgs
  clear Hw2 hgs
  go_upto_region 2 with (fail)
  rw [← Hw3.out]
  generalize w2.heap.size = g3 at *
  clear Hw3 q0 q1 q2 q3 q4 q5 q6 q7 q8 q9 qa qb qc qd qe qf qg qh qz
  obtain ⟨q0, q1, q2, q3, q4, q5, q6, q7, q8, q9, qa, qb, qc, qd, qe, qf, qg, qh, qz⟩ := blk18 HBa.out
  have hput1 := put_any (.slice (some ⟨g3, 0, none⟩) 1 1) [UInt8.ofNat 2] tag w3.drew ((Hb8.out [] (by simp)).keep (M' := []) ((Keeps.refl _ _).drew) (by simp)) (by omega) (by simp)
  obtain ⟨L1, hL1⟩ : ∃ L1, L1 = [UInt8.ofNat 2] ++ Lib.uvarint tag := ⟨_, rfl⟩
  rw [← hL1] at hput1
  have hL1l : L1.length ≤ 11 := by rw [hL1, List.length_append]; simp; omega
  have HP1 := Lib.hid hput1
  have HP2 := Lib.hid (fun W A (h : Bs W [] (.slice A L1.length L1.length) L1) => put_any (.slice A L1.length L1.length) L1 code W h (by omega) (by omega))
  obtain ⟨L2, hL2⟩ : ∃ L2, L2 = L1 ++ Lib.uvarint code := ⟨_, rfl⟩
  rw [← hL2] at HP2
  have hL2l : L2.length ≤ 21 := by rw [hL2, List.length_append]; omega
  have HP3 := Lib.hid (fun W A (h : Bs W [] (.slice A L2.length L2.length) L2) => put_any (.slice A L2.length L2.length) L2 nn W h (by omega) (by omega))
  have HLX : Hid (bo = L2 ++ Lib.uvarint nn) := by show _ = _; rw [HB.out, hL2, hL1]; simp
  rw [← HLX.out] at HP3
  clear hput1 hL1 hL2
  go_wp2_with fail
  go_region_held3 (fun w' => w'.cell? ⟨g, 10, none⟩ = some (.int .i64 tag) ∧ w'.cell? ⟨g, 11, none⟩ = some (.int .i64 code) ∧ w'.cell? ⟨g, 12, none⟩ = some (.int .u64 nn)) (first | exact ⟨v0, v1, v2⟩ | exact ⟨u0, u1, u2⟩ | exact ⟨s0, s1, s2⟩ | exact ⟨qa, qb, qc⟩) (first
    | (go_at_call_of 118 (Value.slice (some ⟨g3, 0, none⟩) 1 1)
       with_reducible refine HP1.out.mono ?_
       rintro e w5 ⟨A5, rfl, hS, hb⟩
       have HS5 := Lib.hid (hS [] (by simp))
       have Hk5 := Lib.hid (Hk3.out.drew.trans (Keeps.of_below (M := []) hb) (by simp))
       have s0 : w5.cell? ⟨g, 10, none⟩ = some (.int .i64 tag) := (hb.cell (p := ⟨g, 10, none⟩) hg3).trans qa
       have s1 : w5.cell? ⟨g, 11, none⟩ = some (.int .i64 code) := (hb.cell (p := ⟨g, 11, none⟩) hg3).trans qb
       have s2 : w5.cell? ⟨g, 12, none⟩ = some (.int .u64 nn) := (hb.cell (p := ⟨g, 12, none⟩) hg3).trans qc
       have hg5 : g < w5.heap.size := Nat.lt_of_lt_of_le hg3 hb.size
       clear hS hb)
    | (go_at_call_of 118 (Value.slice A5 L1.length L1.length)
       with_reducible refine (HP2.out _ A5 HS5.out).mono ?_
       rintro e w6 ⟨A6, rfl, hS, hb⟩
       have HS6 := Lib.hid (hS [] (by simp))
       have Hk6 := Lib.hid (Hk5.out.trans (Keeps.of_below (M := []) hb) (by simp))
       have u0 : w6.cell? ⟨g, 10, none⟩ = some (.int .i64 tag) := (hb.cell (p := ⟨g, 10, none⟩) hg5).trans s0
       have u1 : w6.cell? ⟨g, 11, none⟩ = some (.int .i64 code) := (hb.cell (p := ⟨g, 11, none⟩) hg5).trans s1
       have u2 : w6.cell? ⟨g, 12, none⟩ = some (.int .u64 nn) := (hb.cell (p := ⟨g, 12, none⟩) hg5).trans s2
       have hg6 : g < w6.heap.size := Nat.lt_of_lt_of_le hg5 hb.size
       clear hS hb)
    | (go_at_call 118
       with_reducible refine (HP3.out _ A6 HS6.out).mono ?_
       rintro e w7 ⟨A7, rfl, hS, hb⟩
       have v0 : w7.cell? ⟨g, 10, none⟩ = some (.int .i64 tag) := (hb.cell (p := ⟨g, 10, none⟩) hg6).trans u0
       have v1 : w7.cell? ⟨g, 11, none⟩ = some (.int .i64 code) := (hb.cell (p := ⟨g, 11, none⟩) hg6).trans u1
       have v2 : w7.cell? ⟨g, 12, none⟩ = some (.int .u64 nn) := (hb.cell (p := ⟨g, 12, none⟩) hg6).trans u2
       have hp : Hid (BsPost bo w (.returned (.slice A7 bo.length bo.length)) w7) := ⟨A7, rfl, fun M hM => hS M (fun x hx => Nat.lt_of_lt_of_le (hM x hx) Hk6.out.size), (Hk6.out.trans (Keeps.of_below (M := []) hb) (by simp)).below⟩
       clear hS hb))
  all_goals
    go_wp2
    go_ret
    exact hp.out
set_option maxRecDepth 100000 in
set_option maxHeartbeats 2000000 in
theorem mbody_3 (m : MsgD) (dv lv : Value) (mx : Int) (w : World) (hk : m.kd = 3) (ha : MsgAt w [] m dv lv) (hok : MOk m) (hs : MShort m) (hwf : MWf m) (hm : w.cell? ⟨0, 0, none⟩ = some (.int .i64 mx)) :
    Calls Tryz.prog 100 #[.agg (mCell m dv lv).toArray] w fun r w' => BsPost (bodyL m) w r w' := by
  have hw0 : 0 < w.heap.size := by
    have := World.block_lt_of_cell? w _ hm
    simpa using this
  have hkeepm : Hid (∀ W, Keeps [] w W → W.cell? ⟨0, 0, none⟩ = some (.int .i64 mx)) := fun W hb => (hb.cell (p := ⟨0, 0, none⟩) hw0 (by simp)).trans hm
  have _ := hs
  have HB : Hid (bodyL m = [UInt8.ofNat 3] ++ (Lib.uvarint m.term.toNat)) := by show _ = _; unfold bodyL; rw [hk]; rfl
  have hnn0 := hwf.2.2.2.1; have hnn1 := hwf.2.2.2.2.1; have hw1 := hwf.1; have hw2 := hwf.2.1; have hw3 := hwf.2.2.1
  have o1 := hok.tag0; have o2 := hok.term0; have o3 := hok.had0; have o4 := hok.com0; have o5 := hok.len0; have o6 := hok.code0; have o7 := hok.code1; have o8 := hok.com1; have o9 := hok.len1
  obtain ⟨Aa, na, rfl, _⟩ := ha.1.len
  obtain ⟨Ba, ka, rfl, _⟩ := ha.2.len
  clear ha hok hs hwf hm
  generalize bodyL m = bo at *
  obtain ⟨kd, ⟨kind, ag, sh, seq, ep, ds, ser, fr, etg⟩, tag, code, nn, term, had, log, commit, len⟩ := m
  simp only [] at HB hnn0 hnn1 hw1 hw2 hw3 o1 o2 o3 o4 o5 o6 o7 o8 o9 hk
  subst hk
  obtain ⟨term, rfl⟩ := Int.eq_ofNat_of_zero_le (show 0 ≤ term by omega)
  simp only [Int.toNat_natCast] at HB
  have hw_term : IntKind.u64.wrap (term : Int) = (term : Int) := by rw [IntKind.wrap_u64]; omega
  have hu_term := Lib.uvarint_length64 (x := term) (by omega)
  have hw_k : IntKind.u8.wrap 3 = 3 := by decide
  simp only [mCell, eCell, List.cons_append, List.nil_append]
  obtain ⟨w2, hw2⟩ : ∃ w2, w2 = w.alloc (.cells #[.int .i64 3, .int .i64 kind, .int .i64 ag, .int .i64 sh, .int .i64 seq, .int .i64 ep, .slice Aa ds.length na, .string ser, .int .i64 fr, .int .i64 etg, .int .i64 tag, .int .i64 code, .int .u64 nn, .int .i64 term, .int .i64 had, .slice Ba log.length ka, .int .i64 commit, .int .i64 len] 68) := ⟨_, rfl⟩
  obtain ⟨w3, hw3⟩ : ∃ w3, w3 = w2.alloc (.cells #[.int .u8 3] 5) := ⟨_, rfl⟩
  have hk2 : Keeps [] w w2 := by rw [hw2]; exact (Keeps.refl _ _).alloc _
  have hk3 : Keeps [] w w3 := by rw [hw3]; exact hk2.alloc _
  have hBa2 : Blk w2 w.heap.size 68 #[.int .i64 3, .int .i64 kind, .int .i64 ag, .int .i64 sh, .int .i64 seq, .int .i64 ep, .slice Aa ds.length na, .string ser, .int .i64 fr, .int .i64 etg, .int .i64 tag, .int .i64 code, .int .u64 nn, .int .i64 term, .int .i64 had, .slice Ba log.length ka, .int .i64 commit, .int .i64 len] := by rw [hw2]; exact Blk.new w _ _
  have hBa : Blk w3 w.heap.size 68 #[.int .i64 3, .int .i64 kind, .int .i64 ag, .int .i64 sh, .int .i64 seq, .int .i64 ep, .slice Aa ds.length na, .string ser, .int .i64 fr, .int .i64 etg, .int .i64 tag, .int .i64 code, .int .u64 nn, .int .i64 term, .int .i64 had, .slice Ba log.length ka, .int .i64 commit, .int .i64 len] := by rw [hw3]; exact hBa2.below (below_new' _ _) hBa2.lt
  have hBb : Blk w3 w2.heap.size 5 #[.int .u8 3] := by rw [hw3]; exact Blk.new w2 _ _
  have hb8 : ∀ M, (∀ g ∈ M, g < w.heap.size) → Bs w3 M (.slice (some ⟨w2.heap.size, 0, none⟩) 1 1) [UInt8.ofNat 3] := fun M hM => ⟨_, _, rfl, Nat.le_refl _, rfl, fun _ => ⟨w2.heap.size, 0, rfl, hBb.lt, fun hm => by have := hM _ hm; have := hBa2.lt; omega, fun j u hu => by
    rw [Nat.zero_add, hBb.cell j]
    cases j with
    | zero => exact hu
    | succ j => cases hu⟩⟩
  have Hw2 := Lib.hid hw2; have Hw3 := Lib.hid hw3; have HBa2 := Lib.hid hBa2; have HBa := Lib.hid hBa; have Hk3 := Lib.hid hk3; have Hb8 := Lib.hid hb8
  clear hw2 hw3 hk2 hk3 hBa2 hBa hBb hb8
  show Calls Tryz.prog 100 #[.agg #[.int .i64 3, .int .i64 kind, .int .i64 ag, .int .i64 sh, .int .i64 seq, .int .i64 ep, .slice Aa ds.length na, .string ser, .int .i64 fr, .int .i64 etg, .int .i64 tag, .int .i64 code, .int .u64 nn, .int .i64 term, .int .i64 had, .slice Ba log.length ka, .int .i64 commit, .int .i64 len]] w fun r w' => BsPost bo w r w'
  go_enter Tryz.func100, Tryz.ntmps100
  go_upto_region 1 with (fail)
  rw [← Hw2.out]
  have hg3 : w.heap.size < w3.heap.size := HBa.out.lt
  obtain ⟨q0, q1, q2, q3, q4, q5, q6, q7, q8, q9, qa, qb, qc, qd, qe, qf, qg, qh, qz⟩ := blk18 HBa2.out
  generalize hgs : w.heap.size = g at HBa HBa2 Hb8 hg3 q0 q1 q2 q3 q4 q5 q6 q7 q8 q9 qa qb qc qd qe qf qg qh qz ⊢
  have Hgs := Lib.hid hgs
  clear Hw2 hgs
  go_upto_region 2 with (fail)
  rw [← Hw3.out]
  generalize w2.heap.size = g3 at *
  clear Hw3 q0 q1 q2 q3 q4 q5 q6 q7 q8 q9 qa qb qc qd qe qf qg qh qz
  obtain ⟨q0, q1, q2, q3, q4, q5, q6, q7, q8, q9, qa, qb, qc, qd, qe, qf, qg, qh, qz⟩ := blk18 HBa.out
  have hput := put_any (.slice (some ⟨g3, 0, none⟩) 1 1) ([UInt8.ofNat 3]) term w3 (Hb8.out [] (by simp)) (by omega) (by simp)
  generalize hL4 : [UInt8.ofNat 3] ++ Lib.uvarint term = L4 at hput
  have HL4 := Lib.hid hL4; have Hput := Lib.hid hput
  clear hL4 hput
  go_wp2_with fail
  refine Hput.out.mono ?_
  rintro e w4 ⟨A4, rfl, hS, hb⟩
  have HS4 : Hid (∀ M, (∀ x ∈ M, x < g) → Bs w4 M (.slice A4 L4.length L4.length) L4) := fun M hM => hS M (fun x hx => by have := hM x hx; have := hg3; omega)
  have Hk4 := Lib.hid (Hk3.out.trans (Keeps.of_below (M := []) hb) (by simp))
  have HBa4 := Lib.hid (HBa.out.below hb (hg3))
  have hg4 : g < w4.heap.size := HBa4.out.lt
  clear hS hb Hput q0 q1 q2 q3 q4 q5 q6 q7 q8 q9 qa qb qc qd qe qf qg qh qz
  obtain ⟨q0, q1, q2, q3, q4, q5, q6, q7, q8, q9, qa, qb, qc, qd, qe, qf, qg, qh, qz⟩ := blk18 HBa4.out
  obtain rfl : bo = L4 := by rw [HB.out, ← HL4.out]
  have hp : Hid (BsPost bo w (.returned (.slice A4 bo.length bo.length)) w4) := ⟨A4, rfl, fun M hM => HS4.out M (by rw [← Hgs.out]; exact hM), Hk4.out.below⟩
  clear HB
  go_wp2
  go_ret
  exact hp.out
set_option maxRecDepth 100000 in
set_option maxHeartbeats 2000000 in
theorem mbody_4 (m : MsgD) (dv lv : Value) (mx : Int) (w : World) (hk : m.kd = 4) (ha : MsgAt w [] m dv lv) (hok : MOk m) (hs : MShort m) (hwf : MWf m) (hm : w.cell? ⟨0, 0, none⟩ = some (.int .i64 mx)) :
    Calls Tryz.prog 100 #[.agg (mCell m dv lv).toArray] w fun r w' => BsPost (bodyL m) w r w' := by
  have hw0 : 0 < w.heap.size := by
    have := World.block_lt_of_cell? w _ hm
    simpa using this
  have hkeepm : Hid (∀ W, Keeps [] w W → W.cell? ⟨0, 0, none⟩ = some (.int .i64 mx)) := fun W hb => (hb.cell (p := ⟨0, 0, none⟩) hw0 (by simp)).trans hm
  have hmp := Lib.hid (fun W (hk' : Keeps [] w W) v lb (hB : Bs W [] v lb) (hlb : lb.length ≤ 1000000000) => mput_any v lb lv m.log mx W hB (ha.2.keep hk' (by simp)) (fun e he => ⟨hok.logs (by omega) e he, hs.2.2 e he, hwf.2.2.2.2.2.2 e he⟩) hok.logl hlb (hkeepm.out W hk'))
  have HB : Hid (bodyL m = [UInt8.ofNat 4] ++ (Lib.uvarint m.term.toNat ++ Lib.uvarint m.had.toNat ++ putLog m.log)) := by show _ = _; unfold bodyL; rw [hk]; rfl
  have hnn0 := hwf.2.2.2.1; have hnn1 := hwf.2.2.2.2.1; have hw1 := hwf.1; have hw2 := hwf.2.1; have hw3 := hwf.2.2.1
  have o1 := hok.tag0; have o2 := hok.term0; have o3 := hok.had0; have o4 := hok.com0; have o5 := hok.len0; have o6 := hok.code0; have o7 := hok.code1; have o8 := hok.com1; have o9 := hok.len1
  obtain ⟨Aa, na, rfl, _⟩ := ha.1.len
  obtain ⟨Ba, ka, rfl, _⟩ := ha.2.len
  clear ha hok hs hwf hm
  generalize bodyL m = bo at *
  obtain ⟨kd, ⟨kind, ag, sh, seq, ep, ds, ser, fr, etg⟩, tag, code, nn, term, had, log, commit, len⟩ := m
  simp only [] at HB hnn0 hnn1 hw1 hw2 hw3 o1 o2 o3 o4 o5 o6 o7 o8 o9 hk hmp
  subst hk
  obtain ⟨term, rfl⟩ := Int.eq_ofNat_of_zero_le (show 0 ≤ term by omega)
  obtain ⟨had, rfl⟩ := Int.eq_ofNat_of_zero_le (show 0 ≤ had by omega)
  simp only [Int.toNat_natCast] at HB
  have hw_term : IntKind.u64.wrap (term : Int) = (term : Int) := by rw [IntKind.wrap_u64]; omega
  have hu_term := Lib.uvarint_length64 (x := term) (by omega)
  have hw_had : IntKind.u64.wrap (had : Int) = (had : Int) := by rw [IntKind.wrap_u64]; omega
  have hu_had := Lib.uvarint_length64 (x := had) (by omega)
  have hw_k : IntKind.u8.wrap 4 = 4 := by decide
  simp only [mCell, eCell, List.cons_append, List.nil_append]
  obtain ⟨w2, hw2⟩ : ∃ w2, w2 = w.alloc (.cells #[.int .i64 4, .int .i64 kind, .int .i64 ag, .int .i64 sh, .int .i64 seq, .int .i64 ep, .slice Aa ds.length na, .string ser, .int .i64 fr, .int .i64 etg, .int .i64 tag, .int .i64 code, .int .u64 nn, .int .i64 term, .int .i64 had, .slice Ba log.length ka, .int .i64 commit, .int .i64 len] 68) := ⟨_, rfl⟩
  obtain ⟨w3, hw3⟩ : ∃ w3, w3 = w2.alloc (.cells #[.int .u8 4] 5) := ⟨_, rfl⟩
  have hk2 : Keeps [] w w2 := by rw [hw2]; exact (Keeps.refl _ _).alloc _
  have hk3 : Keeps [] w w3 := by rw [hw3]; exact hk2.alloc _
  have hBa2 : Blk w2 w.heap.size 68 #[.int .i64 4, .int .i64 kind, .int .i64 ag, .int .i64 sh, .int .i64 seq, .int .i64 ep, .slice Aa ds.length na, .string ser, .int .i64 fr, .int .i64 etg, .int .i64 tag, .int .i64 code, .int .u64 nn, .int .i64 term, .int .i64 had, .slice Ba log.length ka, .int .i64 commit, .int .i64 len] := by rw [hw2]; exact Blk.new w _ _
  have hBa : Blk w3 w.heap.size 68 #[.int .i64 4, .int .i64 kind, .int .i64 ag, .int .i64 sh, .int .i64 seq, .int .i64 ep, .slice Aa ds.length na, .string ser, .int .i64 fr, .int .i64 etg, .int .i64 tag, .int .i64 code, .int .u64 nn, .int .i64 term, .int .i64 had, .slice Ba log.length ka, .int .i64 commit, .int .i64 len] := by rw [hw3]; exact hBa2.below (below_new' _ _) hBa2.lt
  have hBb : Blk w3 w2.heap.size 5 #[.int .u8 4] := by rw [hw3]; exact Blk.new w2 _ _
  have hb8 : ∀ M, (∀ g ∈ M, g < w.heap.size) → Bs w3 M (.slice (some ⟨w2.heap.size, 0, none⟩) 1 1) [UInt8.ofNat 4] := fun M hM => ⟨_, _, rfl, Nat.le_refl _, rfl, fun _ => ⟨w2.heap.size, 0, rfl, hBb.lt, fun hm => by have := hM _ hm; have := hBa2.lt; omega, fun j u hu => by
    rw [Nat.zero_add, hBb.cell j]
    cases j with
    | zero => exact hu
    | succ j => cases hu⟩⟩
  have Hw2 := Lib.hid hw2; have Hw3 := Lib.hid hw3; have HBa2 := Lib.hid hBa2; have HBa := Lib.hid hBa; have Hk3 := Lib.hid hk3; have Hb8 := Lib.hid hb8
  clear hw2 hw3 hk2 hk3 hBa2 hBa hBb hb8
  show Calls Tryz.prog 100 #[.agg #[.int .i64 4, .int .i64 kind, .int .i64 ag, .int .i64 sh, .int .i64 seq, .int .i64 ep, .slice Aa ds.length na, .string ser, .int .i64 fr, .int .i64 etg, .int .i64 tag, .int .i64 code, .int .u64 nn, .int .i64 term, .int .i64 had, .slice Ba log.length ka, .int .i64 commit, .int .i64 len]] w fun r w' => BsPost bo w r w'
  go_enter Tryz.func100, Tryz.ntmps100
  go_upto_region 1 with (fail)
  rw [← Hw2.out]
  have hg3 : w.heap.size < w3.heap.size := HBa.out.lt
  obtain ⟨q0, q1, q2, q3, q4, q5, q6, q7, q8, q9, qa, qb, qc, qd, qe, qf, qg, qh, qz⟩ := blk18 HBa2.out
  generalize hgs : w.heap.size = g at HBa HBa2 Hb8 hg3 q0 q1 q2 q3 q4 q5 q6 q7 q8 q9 qa qb qc qd qe qf qg qh qz ⊢
  have Hgs := Lib.hid hgs
  clear Hw2 hgs
  go_upto_region 2 with (fail)
  rw [← Hw3.out]
  generalize w2.heap.size = g3 at *
  clear Hw3 q0 q1 q2 q3 q4 q5 q6 q7 q8 q9 qa qb qc qd qe qf qg qh qz
  obtain ⟨q0, q1, q2, q3, q4, q5, q6, q7, q8, q9, qa, qb, qc, qd, qe, qf, qg, qh, qz⟩ := blk18 HBa.out
  have hput := put_any (.slice (some ⟨g3, 0, none⟩) 1 1) ([UInt8.ofNat 4]) term w3 (Hb8.out [] (by simp)) (by omega) (by simp)
  generalize hL4 : [UInt8.ofNat 4] ++ Lib.uvarint term = L4 at hput
  have HL4 := Lib.hid hL4; have Hput := Lib.hid hput
  clear hL4 hput
  go_wp2_with fail
  refine Hput.out.mono ?_
  rintro e w4 ⟨A4, rfl, hS, hb⟩
  have HS4 : Hid (∀ M, (∀ x ∈ M, x < g) → Bs w4 M (.slice A4 L4.length L4.length) L4) := fun M hM => hS M (fun x hx => by have := hM x hx; have := hg3; omega)
  have Hk4 := Lib.hid (Hk3.out.trans (Keeps.of_below (M := []) hb) (by simp))
  have HBa4 := Lib.hid (HBa.out.below hb (hg3))
  have hg4 : g < w4.heap.size := HBa4.out.lt
  clear hS hb Hput q0 q1 q2 q3 q4 q5 q6 q7 q8 q9 qa qb qc qd qe qf qg qh qz
  obtain ⟨q0, q1, q2, q3, q4, q5, q6, q7, q8, q9, qa, qb, qc, qd, qe, qf, qg, qh, qz⟩ := blk18 HBa4.out
  have hL4l : L4.length ≤ 11 := by have := congrArg List.length HL4.out; rw [List.length_append] at this; simp at this; omega
  have hput := put_any (.slice A4 L4.length L4.length) L4 had w4.drew ((HS4.out [] (by simp)).keep (M' := []) ((Keeps.refl _ _).drew) (by simp)) (by omega) (by omega)
  generalize hL5 : L4 ++ Lib.uvarint had = L5 at hput
  have hL5l : L5.length ≤ 21 := by rw [← hL5, List.length_append]; omega
  have HL5 := Lib.hid hL5; have Hput := Lib.hid hput
  have HLX : Hid (bo = L5 ++ putLog log) := by show _ = _; rw [HB.out, ← HL5.out, ← HL4.out]; simp
  clear hL5 hput
  go_wp2_with fail
  go_region_held3 (fun w' => w'.cell? ⟨g, 14, none⟩ = some (.int .i64 had) ∧ w'.cell? ⟨g, 15, none⟩ = some (.slice Ba log.length ka)) (first | exact ⟨u0, u1⟩ | exact ⟨s0, s1⟩ | exact ⟨qe, qf⟩) (first
    | (go_at_call 118
       with_reducible refine Hput.out.mono ?_
       rintro e w5 ⟨A5, rfl, hS, hb⟩
       have HS5 := Lib.hid (hS [] (by simp))
       have Hk5 := Lib.hid (Hk4.out.drew.trans (Keeps.of_below (M := []) hb) (by simp))
       have s0 : w5.cell? ⟨g, 14, none⟩ = some (.int .i64 had) := (hb.cell (p := ⟨g, 14, none⟩) hg4).trans qe
       have s1 : w5.cell? ⟨g, 15, none⟩ = some (.slice Ba log.length ka) := (hb.cell (p := ⟨g, 15, none⟩) hg4).trans qf
       have hg5 : g < w5.heap.size := Nat.lt_of_lt_of_le hg4 hb.size
       have hmp5 := hmp.out w5 Hk5.out (.slice A5 L5.length L5.length) L5 HS5.out (by omega)
       rw [← HLX.out] at hmp5
       have Hmp5 := Lib.hid hmp5
       clear hS hb hmp5)
    | (go_at_call 140
       with_reducible refine Hmp5.out.mono ?_
       rintro e w6 ⟨A6, rfl, hS, hb⟩
       have u0 : w6.cell? ⟨g, 14, none⟩ = some (.int .i64 had) := (hb.cell (p := ⟨g, 14, none⟩) hg5).trans s0
       have u1 : w6.cell? ⟨g, 15, none⟩ = some (.slice Ba log.length ka) := (hb.cell (p := ⟨g, 15, none⟩) hg5).trans s1
       have hp : Hid (BsPost bo w (.returned (.slice A6 bo.length bo.length)) w6) := ⟨A6, rfl, fun M hM => hS M (fun x hx => Nat.lt_of_lt_of_le (hM x hx) Hk5.out.size), (Hk5.out.trans (Keeps.of_below (M := []) hb) (by simp)).below⟩
       clear hS hb))
  all_goals
    go_wp2
    go_ret
    exact hp.out
set_option maxRecDepth 100000 in
set_option maxHeartbeats 2000000 in
theorem mbody_5 (m : MsgD) (dv lv : Value) (mx : Int) (w : World) (hk : m.kd = 5) (ha : MsgAt w [] m dv lv) (hok : MOk m) (hs : MShort m) (hwf : MWf m) (hm : w.cell? ⟨0, 0, none⟩ = some (.int .i64 mx)) :
    Calls Tryz.prog 100 #[.agg (mCell m dv lv).toArray] w fun r w' => BsPost (bodyL m) w r w' := by
  have hw0 : 0 < w.heap.size := by
    have := World.block_lt_of_cell? w _ hm
    simpa using this
  have hkeepm : Hid (∀ W, Keeps [] w W → W.cell? ⟨0, 0, none⟩ = some (.int .i64 mx)) := fun W hb => (hb.cell (p := ⟨0, 0, none⟩) hw0 (by simp)).trans hm
  have hmp := Lib.hid (fun W (hk' : Keeps [] w W) v lb (hB : Bs W [] v lb) (hlb : lb.length ≤ 1000000000) => mput_any v lb lv m.log mx W hB (ha.2.keep hk' (by simp)) (fun e he => ⟨hok.logs (by omega) e he, hs.2.2 e he, hwf.2.2.2.2.2.2 e he⟩) hok.logl hlb (hkeepm.out W hk'))
  have HB : Hid (bodyL m = [UInt8.ofNat 5] ++ (Lib.uvarint m.term.toNat ++ Lib.uvarint m.commit.toNat ++ putLog m.log)) := by show _ = _; unfold bodyL; rw [hk]; rfl
  have hnn0 := hwf.2.2.2.1; have hnn1 := hwf.2.2.2.2.1; have hw1 := hwf.1; have hw2 := hwf.2.1; have hw3 := hwf.2.2.1
  have o1 := hok.tag0; have o2 := hok.term0; have o3 := hok.had0; have o4 := hok.com0; have o5 := hok.len0; have o6 := hok.code0; have o7 := hok.code1; have o8 := hok.com1; have o9 := hok.len1
  obtain ⟨Aa, na, rfl, _⟩ := ha.1.len
  obtain ⟨Ba, ka, rfl, _⟩ := ha.2.len
  clear ha hok hs hwf hm
  generalize bodyL m = bo at *
  obtain ⟨kd, ⟨kind, ag, sh, seq, ep, ds, ser, fr, etg⟩, tag, code, nn, term, had, log, commit, len⟩ := m
  simp only [] at HB hnn0 hnn1 hw1 hw2 hw3 o1 o2 o3 o4 o5 o6 o7 o8 o9 hk hmp
  subst hk
  obtain ⟨term, rfl⟩ := Int.eq_ofNat_of_zero_le (show 0 ≤ term by omega)
  obtain ⟨commit, rfl⟩ := Int.eq_ofNat_of_zero_le (show 0 ≤ commit by omega)
  simp only [Int.toNat_natCast] at HB
  have hw_term : IntKind.u64.wrap (term : Int) = (term : Int) := by rw [IntKind.wrap_u64]; omega
  have hu_term := Lib.uvarint_length64 (x := term) (by omega)
  have hw_commit : IntKind.u64.wrap (commit : Int) = (commit : Int) := by rw [IntKind.wrap_u64]; omega
  have hu_commit := Lib.uvarint_length64 (x := commit) (by omega)
  have hw_k : IntKind.u8.wrap 5 = 5 := by decide
  simp only [mCell, eCell, List.cons_append, List.nil_append]
  obtain ⟨w2, hw2⟩ : ∃ w2, w2 = w.alloc (.cells #[.int .i64 5, .int .i64 kind, .int .i64 ag, .int .i64 sh, .int .i64 seq, .int .i64 ep, .slice Aa ds.length na, .string ser, .int .i64 fr, .int .i64 etg, .int .i64 tag, .int .i64 code, .int .u64 nn, .int .i64 term, .int .i64 had, .slice Ba log.length ka, .int .i64 commit, .int .i64 len] 68) := ⟨_, rfl⟩
  obtain ⟨w3, hw3⟩ : ∃ w3, w3 = w2.alloc (.cells #[.int .u8 5] 5) := ⟨_, rfl⟩
  have hk2 : Keeps [] w w2 := by rw [hw2]; exact (Keeps.refl _ _).alloc _
  have hk3 : Keeps [] w w3 := by rw [hw3]; exact hk2.alloc _
  have hBa2 : Blk w2 w.heap.size 68 #[.int .i64 5, .int .i64 kind, .int .i64 ag, .int .i64 sh, .int .i64 seq, .int .i64 ep, .slice Aa ds.length na, .string ser, .int .i64 fr, .int .i64 etg, .int .i64 tag, .int .i64 code, .int .u64 nn, .int .i64 term, .int .i64 had, .slice Ba log.length ka, .int .i64 commit, .int .i64 len] := by rw [hw2]; exact Blk.new w _ _
  have hBa : Blk w3 w.heap.size 68 #[.int .i64 5, .int .i64 kind, .int .i64 ag, .int .i64 sh, .int .i64 seq, .int .i64 ep, .slice Aa ds.length na, .string ser, .int .i64 fr, .int .i64 etg, .int .i64 tag, .int .i64 code, .int .u64 nn, .int .i64 term, .int .i64 had, .slice Ba log.length ka, .int .i64 commit, .int .i64 len] := by rw [hw3]; exact hBa2.below (below_new' _ _) hBa2.lt
  have hBb : Blk w3 w2.heap.size 5 #[.int .u8 5] := by rw [hw3]; exact Blk.new w2 _ _
  have hb8 : ∀ M, (∀ g ∈ M, g < w.heap.size) → Bs w3 M (.slice (some ⟨w2.heap.size, 0, none⟩) 1 1) [UInt8.ofNat 5] := fun M hM => ⟨_, _, rfl, Nat.le_refl _, rfl, fun _ => ⟨w2.heap.size, 0, rfl, hBb.lt, fun hm => by have := hM _ hm; have := hBa2.lt; omega, fun j u hu => by
    rw [Nat.zero_add, hBb.cell j]
    cases j with
    | zero => exact hu
    | succ j => cases hu⟩⟩
  have Hw2 := Lib.hid hw2; have Hw3 := Lib.hid hw3; have HBa2 := Lib.hid hBa2; have HBa := Lib.hid hBa; have Hk3 := Lib.hid hk3; have Hb8 := Lib.hid hb8
  clear hw2 hw3 hk2 hk3 hBa2 hBa hBb hb8
  show Calls Tryz.prog 100 #[.agg #[.int .i64 5, .int .i64 kind, .int .i64 ag, .int .i64 sh, .int .i64 seq, .int .i64 ep, .slice Aa ds.length na, .string ser, .int .i64 fr, .int .i64 etg, .int .i64 tag, .int .i64 code, .int .u64 nn, .int .i64 term, .int .i64 had, .slice Ba log.length ka, .int .i64 commit, .int .i64 len]] w fun r w' => BsPost bo w r w'
  go_enter Tryz.func100, Tryz.ntmps100
  go_upto_region 1 with (fail)
  rw [← Hw2.out]
  have hg3 : w.heap.size < w3.heap.size := HBa.out.lt
  obtain ⟨q0, q1, q2, q3, q4, q5, q6, q7, q8, q9, qa, qb, qc, qd, qe, qf, qg, qh, qz⟩ := blk18 HBa2.out
  generalize hgs : w.heap.size = g at HBa HBa2 Hb8 hg3 q0 q1 q2 q3 q4 q5 q6 q7 q8 q9 qa qb qc qd qe qf qg qh qz ⊢
  have Hgs := Lib.hid hgs
  clear Hw2 hgs
  go_upto_region 2 with (fail)
  rw [← Hw3.out]
  generalize w2.heap.size = g3 at *
  clear Hw3 q0 q1 q2 q3 q4 q5 q6 q7 q8 q9 qa qb qc qd qe qf qg qh qz
  obtain ⟨q0, q1, q2, q3, q4, q5, q6, q7, q8, q9, qa, qb, qc, qd, qe, qf, qg, qh, qz⟩ := blk18 HBa.out
  have hput := put_any (.slice (some ⟨g3, 0, none⟩) 1 1) ([UInt8.ofNat 5]) term w3 (Hb8.out [] (by simp)) (by omega) (by simp)
  generalize hL4 : [UInt8.ofNat 5] ++ Lib.uvarint term = L4 at hput
  have HL4 := Lib.hid hL4; have Hput := Lib.hid hput
  clear hL4 hput
  go_wp2_with fail
  refine Hput.out.mono ?_
  rintro e w4 ⟨A4, rfl, hS, hb⟩
  have HS4 : Hid (∀ M, (∀ x ∈ M, x < g) → Bs w4 M (.slice A4 L4.length L4.length) L4) := fun M hM => hS M (fun x hx => by have := hM x hx; have := hg3; omega)
  have Hk4 := Lib.hid (Hk3.out.trans (Keeps.of_below (M := []) hb) (by simp))
  have HBa4 := Lib.hid (HBa.out.below hb (hg3))
  have hg4 : g < w4.heap.size := HBa4.out.lt
  clear hS hb Hput q0 q1 q2 q3 q4 q5 q6 q7 q8 q9 qa qb qc qd qe qf qg qh qz
  obtain ⟨q0, q1, q2, q3, q4, q5, q6, q7, q8, q9, qa, qb, qc, qd, qe, qf, qg, qh, qz⟩ := blk18 HBa4.out
  have hL4l : L4.length ≤ 11 := by have := congrArg List.length HL4.out; rw [List.length_append] at this; simp at this; omega
  have hput := put_any (.slice A4 L4.length L4.length) L4 commit w4.drew ((HS4.out [] (by simp)).keep (M' := []) ((Keeps.refl _ _).drew) (by simp)) (by omega) (by omega)
  generalize hL5 : L4 ++ Lib.uvarint commit = L5 at hput
  have hL5l : L5.length ≤ 21 := by rw [← hL5, List.length_append]; omega
  have HL5 := Lib.hid hL5; have Hput := Lib.hid hput
  have HLX : Hid (bo = L5 ++ putLog log) := by show _ = _; rw [HB.out, ← HL5.out, ← HL4.out]; simp
  clear hL5 hput
  go_wp2_with fail
  go_region_held3 (fun w' => w'.cell? ⟨g, 16, none⟩ = some (.int .i64 commit) ∧ w'.cell? ⟨g, 15, none⟩ = some (.slice Ba log.length ka)) (first | exact ⟨u0, u1⟩ | exact ⟨s0, s1⟩ | exact ⟨qg, qf⟩) (first
    | (go_at_call 118
       with_reducible refine Hput.out.mono ?_
       rintro e w5 ⟨A5, rfl, hS, hb⟩
       have HS5 := Lib.hid (hS [] (by simp))
       have Hk5 := Lib.hid (Hk4.out.drew.trans (Keeps.of_below (M := []) hb) (by simp))
       have s0 : w5.cell? ⟨g, 16, none⟩ = some (.int .i64 commit) := (hb.cell (p := ⟨g, 16, none⟩) hg4).trans qg
       have s1 : w5.cell? ⟨g, 15, none⟩ = some (.slice Ba log.length ka) := (hb.cell (p := ⟨g, 15, none⟩) hg4).trans qf
       have hg5 : g < w5.heap.size := Nat.lt_of_lt_of_le hg4 hb.size
       have hmp5 := hmp.out w5 Hk5.out (.slice A5 L5.length L5.length) L5 HS5.out (by omega)
       rw [← HLX.out] at hmp5
       have Hmp5 := Lib.hid hmp5
       clear hS hb hmp5)
    | (go_at_call 140
       with_reducible refine Hmp5.out.mono ?_
       rintro e w6 ⟨A6, rfl, hS, hb⟩
       have u0 : w6.cell? ⟨g, 16, none⟩ = some (.int .i64 commit) := (hb.cell (p := ⟨g, 16, none⟩) hg5).trans s0
       have u1 : w6.cell? ⟨g, 15, none⟩ = some (.slice Ba log.length ka) := (hb.cell (p := ⟨g, 15, none⟩) hg5).trans s1
       have hp : Hid (BsPost bo w (.returned (.slice A6 bo.length bo.length)) w6) := ⟨A6, rfl, fun M hM => hS M (fun x hx => Nat.lt_of_lt_of_le (hM x hx) Hk5.out.size), (Hk5.out.trans (Keeps.of_below (M := []) hb) (by simp)).below⟩
       clear hS hb))
  all_goals
    go_wp2
    go_ret
    exact hp.out
set_option maxRecDepth 100000 in
set_option maxHeartbeats 2000000 in
theorem mbody_6 (m : MsgD) (dv lv : Value) (mx : Int) (w : World) (hk : m.kd = 6) (ha : MsgAt w [] m dv lv) (hok : MOk m) (hs : MShort m) (hwf : MWf m) (hm : w.cell? ⟨0, 0, none⟩ = some (.int .i64 mx)) :
    Calls Tryz.prog 100 #[.agg (mCell m dv lv).toArray] w fun r w' => BsPost (bodyL m) w r w' := by
  have hw0 : 0 < w.heap.size := by
    have := World.block_lt_of_cell? w _ hm
    simpa using this
  have hkeepm : Hid (∀ W, Keeps [] w W → W.cell? ⟨0, 0, none⟩ = some (.int .i64 mx)) := fun W hb => (hb.cell (p := ⟨0, 0, none⟩) hw0 (by simp)).trans hm
  have _ := hs
  have HB : Hid (bodyL m = [UInt8.ofNat 6] ++ (Lib.uvarint m.term.toNat ++ Lib.uvarint m.len.toNat)) := by show _ = _; unfold bodyL; rw [hk]; rfl
  have hnn0 := hwf.2.2.2.1; have hnn1 := hwf.2.2.2.2.1; have hw1 := hwf.1; have hw2 := hwf.2.1; have hw3 := hwf.2.2.1
  have o1 := hok.tag0; have o2 := hok.term0; have o3 := hok.had0; have o4 := hok.com0; have o5 := hok.len0; have o6 := hok.code0; have o7 := hok.code1; have o8 := hok.com1; have o9 := hok.len1
  obtain ⟨Aa, na, rfl, _⟩ := ha.1.len
  obtain ⟨Ba, ka, rfl, _⟩ := ha.2.len
  clear ha hok hs hwf hm
  generalize bodyL m = bo at *
  obtain ⟨kd, ⟨kind, ag, sh, seq, ep, ds, ser, fr, etg⟩, tag, code, nn, term, had, log, commit, len⟩ := m
  simp only [] at HB hnn0 hnn1 hw1 hw2 hw3 o1 o2 o3 o4 o5 o6 o7 o8 o9 hk
  subst hk
  obtain ⟨term, rfl⟩ := Int.eq_ofNat_of_zero_le (show 0 ≤ term by omega)
  obtain ⟨len, rfl⟩ := Int.eq_ofNat_of_zero_le (show 0 ≤ len by omega)
  simp only [Int.toNat_natCast] at HB
  have hw_term : IntKind.u64.wrap (term : Int) = (term : Int) := by rw [IntKind.wrap_u64]; omega
  have hu_term := Lib.uvarint_length64 (x := term) (by omega)
  have hw_len : IntKind.u64.wrap (len : Int) = (len : Int) := by rw [IntKind.wrap_u64]; omega
  have hu_len := Lib.uvarint_length64 (x := len) (by omega)
  have hw_k : IntKind.u8.wrap 6 = 6 := by decide
  simp only [mCell, eCell, List.cons_append, List.nil_append]
  obtain ⟨w2, hw2⟩ : ∃ w2, w2 = w.alloc (.cells #[.int .i64 6, .int .i64 kind, .int .i64 ag, .int .i64 sh, .int .i64 seq, .int .i64 ep, .slice Aa ds.length na, .string ser, .int .i64 fr, .int .i64 etg, .int .i64 tag, .int .i64 code, .int .u64 nn, .int .i64 term, .int .i64 had, .slice Ba log.length ka, .int .i64 commit, .int .i64 len] 68) := ⟨_, rfl⟩
  obtain ⟨w3, hw3⟩ : ∃ w3, w3 = w2.alloc (.cells #[.int .u8 6] 5) := ⟨_, rfl⟩
  have hk2 : Keeps [] w w2 := by rw [hw2]; exact (Keeps.refl _ _).alloc _
  have hk3 : Keeps [] w w3 := by rw [hw3]; exact hk2.alloc _
  have hBa2 : Blk w2 w.heap.size 68 #[.int .i64 6, .int .i64 kind, .int .i64 ag, .int .i64 sh, .int .i64 seq, .int .i64 ep, .slice Aa ds.length na, .string ser, .int .i64 fr, .int .i64 etg, .int .i64 tag, .int .i64 code, .int .u64 nn, .int .i64 term, .int .i64 had, .slice Ba log.length ka, .int .i64 commit, .int .i64 len] := by rw [hw2]; exact Blk.new w _ _
  have hBa : Blk w3 w.heap.size 68 #[.int .i64 6, .int .i64 kind, .int .i64 ag, .int .i64 sh, .int .i64 seq, .int .i64 ep, .slice Aa ds.length na, .string ser, .int .i64 fr, .int .i64 etg, .int .i64 tag, .int .i64 code, .int .u64 nn, .int .i64 term, .int .i64 had, .slice Ba log.length ka, .int .i64 commit, .int .i64 len] := by rw [hw3]; exact hBa2.below (below_new' _ _) hBa2.lt
  have hBb : Blk w3 w2.heap.size 5 #[.int .u8 6] := by rw [hw3]; exact Blk.new w2 _ _
  have hb8 : ∀ M, (∀ g ∈ M, g < w.heap.size) → Bs w3 M (.slice (some ⟨w2.heap.size, 0, none⟩) 1 1) [UInt8.ofNat 6] := fun M hM => ⟨_, _, rfl, Nat.le_refl _, rfl, fun _ => ⟨w2.heap.size, 0, rfl, hBb.lt, fun hm => by have := hM _ hm; have := hBa2.lt; omega, fun j u hu => by
    rw [Nat.zero_add, hBb.cell j]
    cases j with
    | zero => exact hu
    | succ j => cases hu⟩⟩
  have Hw2 := Lib.hid hw2; have Hw3 := Lib.hid hw3; have HBa2 := Lib.hid hBa2; have HBa := Lib.hid hBa; have Hk3 := Lib.hid hk3; have Hb8 := Lib.hid hb8
  clear hw2 hw3 hk2 hk3 hBa2 hBa hBb hb8
  show Calls Tryz.prog 100 #[.agg #[.int .i64 6, .int .i64 kind, .int .i64 ag, .int .i64 sh, .int .i64 seq, .int .i64 ep, .slice Aa ds.length na, .string ser, .int .i64 fr, .int .i64 etg, .int .i64 tag, .int .i64 code, .int .u64 nn, .int .i64 term, .int .i64 had, .slice Ba log.length ka, .int .i64 commit, .int .i64 len]] w fun r w' => BsPost bo w r w'
  go_enter Tryz.func100, Tryz.ntmps100
  go_upto_region 1 with (fail)
  rw [← Hw2.out]
  have hg3 : w.heap.size < w3.heap.size := HBa.out.lt
  obtain ⟨q0, q1, q2, q3, q4, q5, q6, q7, q8, q9, qa, qb, qc, qd, qe, qf, qg, qh, qz⟩ := blk18 HBa2.out
  generalize hgs : w.heap.size = g at HBa HBa2 Hb8 hg3 q0 q1 q2 q3 q4 q5 q6 q7 q8 q9 qa qb qc qd qe qf qg qh qz ⊢
  have Hgs := Lib.hid hgs
  clear Hw2 hgs
  go_upto_region 2 with (fail)
  rw [← Hw3.out]
  generalize w2.heap.size = g3 at *
  clear Hw3 q0 q1 q2 q3 q4 q5 q6 q7 q8 q9 qa qb qc qd qe qf qg qh qz
  obtain ⟨q0, q1, q2, q3, q4, q5, q6, q7, q8, q9, qa, qb, qc, qd, qe, qf, qg, qh, qz⟩ := blk18 HBa.out
  have hput := put_any (.slice (some ⟨g3, 0, none⟩) 1 1) ([UInt8.ofNat 6]) term w3 (Hb8.out [] (by simp)) (by omega) (by simp)
  generalize hL4 : [UInt8.ofNat 6] ++ Lib.uvarint term = L4 at hput
  have HL4 := Lib.hid hL4; have Hput := Lib.hid hput
  clear hL4 hput
  go_wp2_with fail
  refine Hput.out.mono ?_
  rintro e w4 ⟨A4, rfl, hS, hb⟩
  have HS4 : Hid (∀ M, (∀ x ∈ M, x < g) → Bs w4 M (.slice A4 L4.length L4.length) L4) := fun M hM => hS M (fun x hx => by have := hM x hx; have := hg3; omega)
  have Hk4 := Lib.hid (Hk3.out.trans (Keeps.of_below (M := []) hb) (by simp))
  have HBa4 := Lib.hid (HBa.out.below hb (hg3))
  have hg4 : g < w4.heap.size := HBa4.out.lt
  clear hS hb Hput q0 q1 q2 q3 q4 q5 q6 q7 q8 q9 qa qb qc qd qe qf qg qh qz
  obtain ⟨q0, q1, q2, q3, q4, q5, q6, q7, q8, q9, qa, qb, qc, qd, qe, qf, qg, qh, qz⟩ := blk18 HBa4.out
  have hput := put_any (.slice A4 L4.length L4.length) (L4) len w4 (HS4.out [] (by simp)) (by omega) (by have := congrArg List.length HL4.out; rw [List.length_append] at this; simp at this; omega)
  generalize hL5 : L4 ++ Lib.uvarint len = L5 at hput
  have HL5 := Lib.hid hL5; have Hput := Lib.hid hput
  clear hL5 hput
  go_wp2_with fail
  refine Hput.out.mono ?_
  rintro e w5 ⟨A5, rfl, hS, hb⟩
  have HS5 : Hid (∀ M, (∀ x ∈ M, x < g) → Bs w5 M (.slice A5 L5.length L5.length) L5) := fun M hM => hS M (fun x hx => by have := hM x hx; have := hg4; omega)
  have Hk5 := Lib.hid (Hk4.out.trans (Keeps.of_below (M := []) hb) (by simp))
  have HBa5 := Lib.hid (HBa4.out.below hb (hg4))
  have hg5 : g < w5.heap.size := HBa5.out.lt
  clear hS hb Hput q0 q1 q2 q3 q4 q5 q6 q7 q8 q9 qa qb qc qd qe qf qg qh qz
  obtain ⟨q0, q1, q2, q3, q4, q5, q6, q7, q8, q9, qa, qb, qc, qd, qe, qf, qg, qh, qz⟩ := blk18 HBa5.out
  obtain rfl : bo = L5 := by rw [HB.out, ← HL5.out, ← HL4.out]; simp
  have hp : Hid (BsPost bo w (.returned (.slice A5 bo.length bo.length)) w5) := ⟨A5, rfl, fun M hM => HS5.out M (by rw [← Hgs.out]; exact hM), Hk5.out.below⟩
  clear HB
  go_wp2
  go_ret
  exact hp.out
theorem mbody_any (m : MsgD) (dv lv : Value) (mx : Int) (w : World) (ha : MsgAt w [] m dv lv) (hok : MOk m) (hs : MShort m) (hwf : MWf m) (hm : w.cell? ⟨0, 0, none⟩ = some (.int .i64 mx)) :
    Calls Tryz.prog 100 #[.agg (mCell m dv lv).toArray] w fun r w' => BsPost (bodyL m) w r w' := by
  have h1 := hok.k1; have h6 := hok.k6
  rcases (show m.kd = 1 ∨ m.kd = 2 ∨ m.kd = 3 ∨ m.kd = 4 ∨ m.kd = 5 ∨ m.kd = 6 by omega) with h | h | h | h | h | h
  · exact mbody_1 m dv lv mx w h ha hok hs hwf hm
  · exact mbody_2 m dv lv mx w h ha hok hs hwf hm
  · exact mbody_3 m dv lv mx w h ha hok hs hwf hm
  · exact mbody_4 m dv lv mx w h ha hok hs hwf hm
  · exact mbody_5 m dv lv mx w h ha hok hs hwf hm
  · exact mbody_6 m dv lv mx w h ha hok hs hwf hm
end Go.Proofs.YtinnifhnabncfaaGreatDoor.Vi
end
/- Contract of mail.Bytes. -/
section
namespace Go.Proofs.YtinnifhnabncfaaGreatDoor.Vi
open Go.RowKit Base Mem Go.Shelf
def mbytesS (m : MsgD) : List UInt8 × Nat := if mrightS m = 0 then (if 65536 < (bodyL m).length then ([], 3) else (frameL (bodyL m), 0)) else ([], mrightS m)
def MBPost (r : List UInt8 × Nat) (w : World) (e : Ending) (w' : World) : Prop := ∃ A c, e = .returned (.tuple #[.slice A r.1.length c, .int .i64 r.2]) ∧ (∀ M, (∀ g ∈ M, g < w.heap.size) → Bs w' M (.slice A r.1.length c) r.1) ∧ Below w.heap.size w w'
set_option maxRecDepth 100000 in
set_option maxHeartbeats 2000000 in
theorem mbytes_any (m : MsgD) (dv lv : Value) (mx : Int) (w : World) (ha : MsgAt w [] m dv lv) (hs : MShort m) (hwf : MWf m) (hm : w.cell? ⟨0, 0, none⟩ = some (.int .i64 mx)) :
    Calls Tryz.prog 52 #[.agg (mCell m dv lv).toArray] w fun r w' => MBPost (mbytesS m) w r w' := by
  have hw0 : 0 < w.heap.size := by
    have := World.block_lt_of_cell? w _ hm
    simpa using this
  have hkeepm : Hid (∀ W, Keeps [] w W → W.cell? ⟨0, 0, none⟩ = some (.int .i64 mx)) := fun W hb => (hb.cell (p := ⟨0, 0, none⟩) hw0 (by simp)).trans hm
  have hri := Lib.hid (fun W (hk : Keeps [] w W) => mright_any m dv lv mx W (ha.keep hk (by simp)) hs (hkeepm.out W hk))
  have hbo := Lib.hid (fun W (hk : Keeps [] w W) (hz : mrightS m = 0) => mbody_any m dv lv mx W (ha.keep hk (by simp)) (mright_ok hz) hs hwf (hkeepm.out W hk))
  have HM : Hid (mbytesS m = if mrightS m = 0 then (if 65536 < (bodyL m).length then ([], 3) else (frameL (bodyL m), 0)) else ([], mrightS m)) := rfl
  obtain ⟨Aa, na, rfl, _⟩ := ha.1.len
  obtain ⟨Ba, ka, rfl, _⟩ := ha.2.len
  clear ha hs hwf hm
  generalize mbytesS m = R at *
  generalize mrightS m = z at *
  generalize bodyL m = bl at *
  obtain ⟨kd, ⟨kind, ag, sh, seq, ep, ds, ser, fr, etg⟩, tag, code, nn, term, had, log, commit, len⟩ := m
  simp only [mCell, eCell, List.cons_append, List.nil_append] at hri hbo ⊢
  obtain ⟨w2, hw2⟩ : ∃ w2, w2 = w.alloc (.cells #[.int .i64 kd, .int .i64 kind, .int .i64 ag, .int .i64 sh, .int .i64 seq, .int .i64 ep, .slice Aa ds.length na, .string ser, .int .i64 fr, .int .i64 etg, .int .i64 tag, .int .i64 code, .int .u64 nn, .int .i64 term, .int .i64 had, .slice Ba log.length ka, .int .i64 commit, .int .i64 len] 68) := ⟨_, rfl⟩
  have hk2 : Keeps [] w w2 := by rw [hw2]; exact (Keeps.refl _ _).alloc _
  have hBa : Blk w2 w.heap.size 68 #[.int .i64 kd, .int .i64 kind, .int .i64 ag, .int .i64 sh, .int .i64 seq, .int .i64 ep, .slice Aa ds.length na, .string ser, .int .i64 fr, .int .i64 etg, .int .i64 tag, .int .i64 code, .int .u64 nn, .int .i64 term, .int .i64 had, .slice Ba log.length ka, .int .i64 commit, .int .i64 len] := by rw [hw2]; exact Blk.new w _ _
  have Hw2 := Lib.hid hw2; have HBa := Lib.hid hBa; have Hk2 := Lib.hid hk2
  clear hw2 hBa hk2
  show Calls Tryz.prog 52 #[.agg #[.int .i64 kd, .int .i64 kind, .int .i64 ag, .int .i64 sh, .int .i64 seq, .int .i64 ep, .slice Aa ds.length na, .string ser, .int .i64 fr, .int .i64 etg, .int .i64 tag, .int .i64 code, .int .u64 nn, .int .i64 term, .int .i64 had, .slice Ba log.length ka, .int .i64 commit, .int .i64 len]] w fun r w' => MBPost R w r w'
  go_enter Tryz.func52, Tryz.ntmps52
  go_upto_region 1 with (fail)
  rw [← Hw2.out]
  have hg2 : w.heap.size < w2.heap.size := HBa.out.lt
  generalize hgs : w.heap.size = g at HBa hg2 ⊢
  have Hgs := Lib.hid hgs
  clear Hw2 hgs
  have HR := Lib.hid (blk_range HBa.out)
  have Hr := Lib.hid (hri.out w2 Hk2.out)
  go_wp2_with (refine wpList_load_mid rfl 68 (.tmp 1) rfl g 0 rfl _ _ HR.out Tryz.underlying68 rfl (by kernel_rfl) ?_)
  refine Hr.out.mono ?_
  rintro e w3 ⟨rfl, hb3⟩
  have HB3 := Lib.hid (HBa.out.below hb3 hg2)
  have Hk3 := Lib.hid (Hk2.out.trans (Keeps.of_below (M := []) hb3) (by simp))
  clear hb3 Hr hri HBa Hk2 hg2 HR
  by_cases hz : z = 0
  · subst hz
    have Hb := Lib.hid (hbo.out w3 Hk3.out rfl)
    have HR := Lib.hid (blk_range HB3.out)
    have HM2 : Hid (R = if 65536 < bl.length then ([], 3) else (frameL bl, 0)) := by show _ = _; rw [HM.out, if_pos rfl]
    clear HM hbo
    go_wp2_with (refine wpList_load_mid rfl 68 (.tmp 1) rfl g 0 rfl _ _ HR.out Tryz.underlying68 rfl (by kernel_rfl) ?_)
    refine Hb.out.mono ?_
    rintro e w4 ⟨A4, rfl, hS4, hb4⟩
    have HS4 := Lib.hid (hS4 [] (by simp))
    have Hk4 := Lib.hid (Hk3.out.trans (Keeps.of_below (M := []) hb4) (by simp))
    clear hS4 hb4 Hb HR HB3
    go_wp2_with fail
    by_cases hl : 65536 < bl.length
    · obtain rfl : R = ([], 3) := by rw [HM2.out, if_pos hl]
      refine (frame_long _ bl w4 HS4.out hl).mono ?_
      rintro e w5 ⟨rfl, rfl⟩
      clear HM2
      go_wp2
      go_ret2
      exact ⟨none, 0, rfl, fun M _ => Bs.nil _ _, Hk4.out.below⟩
    · obtain rfl : R = (frameL bl, 0) := by rw [HM2.out, if_neg hl]
      refine (frame_any _ bl w4 HS4.out (by omega)).mono ?_
      rintro e w5 ⟨A5, c5, rfl, hS5, hb5⟩
      have HS5 := Lib.hid hS5
      have Hk5 := Lib.hid (Hk4.out.trans (Keeps.of_below (M := []) hb5) (by simp))
      clear hS5 hb5 HM2
      go_wp2
      go_ret2
      exact ⟨A5, c5, rfl, fun M hM => HS5.out M (fun x hx => Nat.lt_of_lt_of_le (hM x hx) Hk4.out.size), Hk5.out.below⟩
  · obtain rfl : R = ([], z) := by rw [HM.out, if_neg hz]
    have hz2 : ((z : Int) != 0) = true := by simpa using hz
    clear HM hbo
    go_wp2
    go_ret2
    exact ⟨none, 0, rfl, fun M _ => Bs.nil _ _, Hk3.out.below⟩
end Go.Proofs.YtinnifhnabncfaaGreatDoor.Vi
end
/- A whole value out of a block, into a block; results that lie in a block. -/
section
namespace Go.Proofs.YtinnifhnabncfaaGreatDoor.Vi
open Go.RowKit Base Mem
def setAll : Array Value → Nat → List Value → Array Value
  | cs, _, [] => cs
  | cs, o, v :: r => setAll (cs.setIfInBounds o v) (o + 1) r
theorem setAll_list : ∀ (vs : List Value) (o : Nat) (cs : Array Value), o + vs.length ≤ cs.size → (setAll cs o vs).toList = cs.toList.take o ++ (vs ++ cs.toList.drop (o + vs.length))
  | [], o, cs, _ => by simp [setAll]
  | v :: r, o, cs, h => by
    have hl : o < cs.toList.length := by simp at h ⊢; omega
    rw [setAll, setAll_list r (o + 1) _ (by simp at h ⊢; omega), Array.toList_setIfInBounds, List.drop_set_of_lt (by omega), List.take_add_one, List.take_set_of_le (Nat.le_refl _), List.getElem?_set_self hl]
    rw [List.append_assoc, List.length_cons, Nat.add_comm r.length 1, ← Nat.add_assoc]
    rfl
theorem blk_setCells {g : Nat} {t : TypeId} : ∀ (vs : List Value) (o : Nat) (w : World) (cs : Array Value), Blk w g t cs → Blk (w.setCells g o vs) g t (setAll cs o vs)
  | [], _, _, _, h => h
  | v :: r, o, _, _, h => blk_setCells r (o + 1) _ _ (h.set_ o v)
theorem keeps_setCells {M : List Nat} {a : World} {g : Nat} (hg : g ∈ M ∨ a.heap.size ≤ g) : ∀ (vs : List Value) (o : Nat) (w : World), Keeps M a w → Keeps M a (w.setCells g o vs)
  | [], _, _, h => h
  | v :: r, o, _, h => keeps_setCells hg r (o + 1) _ (h.setCell hg v)
theorem there_blk {w : World} {g : Nat} {t : TypeId} {cs : Array Value} (h : Blk w g t cs) {o n : Nat} (hn : o + n ≤ cs.size) : w.there g o n := fun j hj =>
  ⟨by rw [h.cell, Array.getElem?_eq_getElem (by omega)]; rfl, h.frozen _⟩
theorem wpList_store_blk {P : Program} {ops : Array Oper} {rest : List Oper} {op : Oper} {a : Act} {w : World} {Q : Exit → Act → World → Prop} (hgd : op.guard = none) (ty : TypeId) (x y : Operand) (ho : op.op = .store ty x y)
    (g o : Nat) (T : TypeId) (c0 c1 cells : Array Value) (hx : a.eval x = .pointer (some ⟨g, o, none⟩)) (hy : a.eval y = .agg cells)
    (hB : Blk w g T c0) (hn : o + cells.size ≤ c0.size) (hc : c1.toList = c0.toList.take o ++ (cells.toList ++ c0.toList.drop (o + cells.toList.length))) (hi : (P.info? ty).map (·.size) = some cells.size) (h1 : cells.toList.all (·.oneCell') = true)
    (h : ∀ w', Keeps [g] w w' → Blk w' g T c1 → wpList P ops Q rest (a.put op.dst undef) w') : wpList P ops Q (op :: rest) a w :=
  wpList_store_mid hgd ty x y ho g o cells hx hy (there_blk hB hn) hi (by rw [← Array.all_toList]; exact h1) (h _ (keeps_setCells (by simp) _ _ _ (Keeps.refl _ _)) (by have := blk_setCells cells.toList o _ _ hB; rwa [show setAll c0 o cells.toList = c1 from Array.toList_inj.1 ((setAll_list _ _ _ (by simpa using hn)).trans hc.symm)] at this))
theorem results_cell1 {P : Program} {fn : Func} {t : Tmp} {ty : TypeId} (h : fn.results = #[.cell t ty]) (tmps : Array Value) (w : World) (g : Nat) (T : TypeId) (cs : Array Value) (d : TypeDesc)
    (ht : tmps.getD t undef = .pointer (some ⟨g, 0, none⟩)) (hB : Blk w g T cs) (hu : P.underlying ty = some d) (hd : d.isRow = true) (hi : (P.info? ty).map (·.size) = some cs.size) :
    (results fn tmps).run P w = .ok (.agg cs) w := by
  have hl := run_loadVar_mid (P := P) w g 0 ty cs.toList d (blk_range hB) hu hd (by simpa using hi)
  have ht' : tmps[t]?.getD undef = .pointer (some ⟨g, 0, none⟩) := by simpa using ht
  simp [results, h, ht', asAddr, hl]
theorem results_cell2 {P : Program} {fn : Func} {t u : Tmp} {ty : TypeId} (h : fn.results = #[.cell t ty, .tmp u]) (tmps : Array Value) (w : World) (g : Nat) (T : TypeId) (cs : Array Value) (d : TypeDesc)
    (ht : tmps.getD t undef = .pointer (some ⟨g, 0, none⟩)) (hB : Blk w g T cs) (hu : P.underlying ty = some d) (hd : d.isRow = true) (hi : (P.info? ty).map (·.size) = some cs.size) :
    (results fn tmps).run P w = .ok (.tuple #[.agg cs, tmps.getD u undef]) w := by
  have hl := run_loadVar_mid (P := P) w g 0 ty cs.toList d (blk_range hB) hu hd (by simpa using hi)
  have ht' : tmps[t]?.getD undef = .pointer (some ⟨g, 0, none⟩) := by simpa using ht
  simp [results, h, ht', asAddr, hl]
end Go.Proofs.YtinnifhnabncfaaGreatDoor.Vi
end
/- Contract of the tape's Log. -/
section
namespace Go.Proofs.YtinnifhnabncfaaGreatDoor.Tape
open Go.RowKit Base Mem
theorem infoEnt4 : (Tryz.prog.info? 26).map (fun i => (i.zero, i.size, i.bytes)) = some (some (.agg #[.int .i64 0, .int .i64 0, .int .i64 0, .int .i64 0, .int .i64 0, .slice none 0 0, .string ByteArray.empty, .int .i64 0, .int .i64 0]), 9, 96) := by kernel_rfl
def LogPost (b : Nat) (L : TapeL) (most : Int) (w : World) (e : Ending) (w' : World) : Prop := ∃ (v : Value) (l : List EntryD) (k' : Nat), e = .returned v ∧ (∀ en ∈ l, EntryOk en) ∧ (l.length : Int) ≤ most ∧
  (∀ M, (∀ g ∈ M, g < w.heap.size) → Ens w' M v l) ∧ TapeAt w' b L k' ∧ Keeps [b] w w'
theorem dsOwn_keep {w wr w' : World} {M : List Nat} {out : Value} {qs : List (EntryD × Value)} (h : DsOwn w wr out qs) (hk : Keeps M wr w') (hM : ∀ g ∈ M, g < w.heap.size) : DsOwn w w' out qs := fun q hq M' hM' =>
  ((h q hq (M ++ M') (by intro g hg; rcases List.mem_append.1 hg with h1 | h1; exact .inl (hM g h1); exact hM' g h1)).keep hk (fun _ hg => .inl (List.mem_append_left _ hg))).avoid (fun _ hg => .inl (List.mem_append_right _ hg))
set_option maxRecDepth 100000 in
theorem log_any (b : Nat) (L : TapeL) (k : Nat) (most : Int) (w : World) (h : TapeAt w b L k) (h1 : 0 ≤ most) (h2 : most ≤ 1000) :
    Calls Tryz.prog 80 #[.pointer (some ⟨b, 0, none⟩), .int .i64 most] w fun e w' => LogPost b L most w e w' := by
  have hbw := h.lt
  have H := Lib.hid h
  obtain ⟨i0, hi0, hz0, hz1, hz2⟩ := info_parts infoEnt4
  have Hi0 := Lib.hid hi0; have Hz0 := Lib.hid hz0; have Hz1 := Lib.hid hz1; have Hz2 := Lib.hid hz2
  clear h hi0 hz0 hz1 hz2
  go_enter Tryz.func80, Tryz.ntmps80
  go_wp2_with fail
  refine (next_any b L k (most + 1) w H.out).mono ?_
  rintro e w1 ⟨v, k1, rfl, hv0, hv8, hT, hK⟩
  have hv9 := hv8 (by omega)
  have HT := Lib.hid hT; have HK := Lib.hid hK
  clear hv8 hT hK
  go_wp2
  go_loopw [5, 6] (fun out nn wr => ∃ (qs : List (EntryD × Value)) (r : Int) (k' : Nat), nn = .int .i64 r ∧ 0 ≤ r ∧ Hid (r + qs.length = v) ∧ qs.length ≤ 1000 ∧ r ≤ v ∧ Hid (∀ q ∈ qs, EntryOk q.1) ∧ Hid (wr.ownsRow w.heap.size 26 9 out qs.length (qs.flatMap eCell)) ∧ Hid (DsOwn w wr out qs) ∧ Hid (TapeAt wr b L k') ∧ Hid (Keeps [b] w wr))
    (fun _ nn _ => (intOf nn).toNat)
  case atStart => exact ⟨[], v, k1, rfl, by omega, (by show _ = _; simp), by simp, by omega, (show ∀ _, _ from by simp), World.ownsRow_nil _ _ _ _, (show DsOwn _ _ _ _ from by intro q hq; cases hq), HT.out, HK.out⟩
  case round =>
    obtain ⟨qs, r, k', rfl, hr0, Hrl, hq8, hrv, Hok, Hown, Hds, HTr, HKr⟩ := hrel
    by_cases hr : 0 < r
    · go_wp2_with fail
      refine (entry_any b L k' wr HTr.out).mono ?_
      rintro e w2 ⟨en, dv, k2, rfl, hok, hds, hT2, hK2⟩
      obtain ⟨Ad, cd, hdv, _⟩ := (hds [] (by simp)).len
      subst hdv
      have Hok2 := Lib.hid hok; have Hds2 := Lib.hid hds; have HT2 := Lib.hid hT2; have HK2 := Lib.hid hK2
      have Hown2 := Lib.hid ((own_keep Hown.out hK2 (by simp; omega)).alloc (.cells (eCell (en, .slice Ad en.ds.length cd)).toArray 26))
      clear hok hds hT2 hK2
      simp only [eCell]
      go_wp2_with (at_builtin; refine wpList_append_any _ rfl (.tmp 15) (.tmp 18) _ rfl w.heap.size 26 i0 _ 9 96 Tryz.underlying52 Hi0.out Hz0.out Hz1.out Hz2.out rfl (by omega) u5 qs.length (qs.flatMap eCell) rfl Hown2.out (w2.heap.size + 1) (some ⟨w2.heap.size, 0, none⟩) 1 1 (eCell (en, .slice Ad en.ds.length cd)) rfl (reads_new _ _ _ _ _ rfl) (by intro u hu; simp [eCell] at hu; rcases hu with rfl | rfl | rfl | rfl | rfl | rfl | rfl | rfl | rfl <;> rfl) (by unfold maxLen; omega) (by omega) (by have := HKr.out.size; have := HK2.out.size; simp; omega) ?_)
      intro v' w4 hown4 hg4 hat4
      have hlt0 := Hown.out.lt
      have hK5 : Keeps [b] w w4 := ((HKr.out.trans HK2.out (by simp)).alloc _).grown hg4 (fun g hg => .inr (hlt0 g hg).1)
      have hT5 : TapeAt w4 b L k2 := HT2.out.keep (M' := u5.ownBlock.toList) (((Keeps.refl _ _).alloc _).grown hg4 (fun g hg => .inl (by simpa using hg))) (by intro g hg; have := hlt0 g (by simpa using hg); omega)
      have hds5 : DsOwn w w4 v' (qs ++ [(en, .slice Ad en.ds.length cd)]) := by
        exact dsOwn_stepK Hds.out HK2.out (by simp; omega) (fun g hg => (hlt0 g hg).2) HKr.out.size Hds2.out hg4 hat4
      have hok4 : ∀ q ∈ qs ++ [(en, Value.slice Ad en.ds.length cd)], EntryOk q.1 := fun q hq => by
        rcases List.mem_append.1 hq with hq | hq
        · exact Hok.out q hq
        · simp at hq; subst hq; exact Hok2.out
      have Hok4 := Lib.hid hok4
      have hown5 : w4.ownsRow w.heap.size 26 9 v' (qs ++ [(en, Value.slice Ad en.ds.length cd)]).length ((qs ++ [(en, Value.slice Ad en.ds.length cd)]).flatMap eCell) := by
        rw [List.length_append, List.flatMap_append]
        simpa using hown4
      have Hown5 := Lib.hid hown5; have Hds5 := Lib.hid hds5; have HT5 := Lib.hid hT5; have HK5 := Lib.hid hK5
      have hr3 := Hrl.out
      have Hr3 : Hid (r - 1 + ((qs ++ [(en, Value.slice Ad en.ds.length cd)]).length : Int) = v) := by show _ = _; simp; omega
      have hq9 : (qs ++ [(en, Value.slice Ad en.ds.length cd)]).length ≤ 1000 := by simp; omega
      clear hown4 hg4 hat4 hlt0 hK5 hT5 hds5 hok4 hown5 hr3
      go_wp2
      go_roundw
      case rel => exact ⟨qs ++ [(en, .slice Ad en.ds.length cd)], r - 1, k2, rfl, by omega, Hr3, hq9, by omega, Hok4, Hown5, Hds5, HT5, HK5⟩
      case measure => simp [intOf]; omega
    · have hr0 : r = 0 := by omega
      subst hr0
      have hrl := Hrl.out
      have hpost : LogPost b L most w (.returned u5) wr :=
        ⟨u5, qs.map (·.1), k', rfl, by intro en hen; obtain ⟨q, hq, rfl⟩ := List.mem_map.1 hen; exact Hok.out q hq, by rw [List.length_map]; omega, fun M hM => ⟨qs, rfl, Rd.of_own Hown.out hM, fun p hp => Hds.out p hp M (fun g hg => .inl (hM g hg))⟩, HTr.out, HKr.out⟩
      clear hrl
      go_wp2
      go_ret
      exact hpost
end Go.Proofs.YtinnifhnabncfaaGreatDoor.Tape
end
/- Contract of the tape's Msg. -/
section
namespace Go.Proofs.YtinnifhnabncfaaGreatDoor.Vi
open Go.RowKit Base Mem Tape Go.Shelf
theorem rowsEq_iff : ∀ (a b : List EntryD), rowsEq a b = true ↔ a = b
  | [], [] => by simp [rowsEq, Lib.allEq]
  | [], _ :: _ => by simp [rowsEq, Lib.allEq]
  | _ :: _, [] => by simp [rowsEq, Lib.allEq]
  | x :: xs, y :: ys => by
    have ih := rowsEq_iff xs ys
    unfold rowsEq at ih ⊢
    rw [Lib.allEq, Bool.and_eq_true, sameE_iff, ih, List.cons.injEq]
theorem sameM_iff (a b : MsgD) : sameM a b = true ↔ a = b := by
  obtain ⟨a0, a1, a2, a3, a4, a5, a6, a7, a8, a9⟩ := a
  obtain ⟨b0, b1, b2, b3, b4, b5, b6, b7, b8, b9⟩ := b
  simp only [sameM, Bool.and_eq_true, sameE_iff, rowsEq_iff, beq_iff_eq, MsgD.mk.injEq]
  constructor
  · rintro ⟨⟨h1, h2⟩, ⟨⟨⟨⟨⟨⟨⟨h3, h4⟩, h5⟩, h6⟩, h7⟩, h8⟩, h9⟩, h10⟩⟩
    exact ⟨h3, h1, h4, h5, h6, h7, h8, h2, h9, h10⟩
  · rintro ⟨h3, h1, h4, h5, h6, h7, h8, h2, h9, h10⟩
    exact ⟨⟨h1, h2⟩, ⟨⟨⟨⟨⟨⟨⟨h3, h4⟩, h5⟩, h6⟩, h7⟩, h8⟩, h9⟩, h10⟩⟩
theorem zeroS_of {m : MsgD} (h : clearM m = zeroM) : zeroS m = true := by
  unfold zeroS
  rw [h]
  exact (sameM_iff _ _).2 rfl
def zero18 : Array Value := #[.int .i64 0, .int .i64 0, .int .i64 0, .int .i64 0, .int .i64 0, .int .i64 0, .slice none 0 0, .string ⟨#[]⟩, .int .i64 0, .int .i64 0, .int .i64 0, .int .i64 0, .int .u64 0, .int .i64 0, .int .i64 0, .slice none 0 0, .int .i64 0, .int .i64 0]
structure StM (w0 w : World) (b : Nat) (L : TapeL) (k g0 g1 : Nat) (c1 : Array Value) : Prop where
  tape : TapeAt w b L k
  keeps : Keeps [b] w0 w
  b0 : Blk w g0 68 zero18
  b1 : Blk w g1 68 c1
  lt0 : b < g0
  lt1 : g0 < g1
  old : w0.heap.size ≤ g0
theorem StM.keep {w0 w w' : World} {b : Nat} {L : TapeL} {k k' g0 g1 : Nat} {c1 : Array Value} (h : StM w0 w b L k g0 g1 c1) (hT : TapeAt w' b L k') (hk : Keeps [b] w w') : StM w0 w' b L k' g0 g1 c1 := by
  have := h.lt0; have := h.lt1; have := h.old
  exact ⟨hT, h.keeps.trans hk (by simp), hk.blk h.b0 (by simp; omega), hk.blk h.b1 (by simp; omega), h.lt0, h.lt1, h.old⟩
theorem StM.in1 {w0 w w' : World} {b : Nat} {L : TapeL} {k g0 g1 : Nat} {c1 c2 : Array Value} (h : StM w0 w b L k g0 g1 c1) (hk : Keeps [g1] w w') (hB : Blk w' g1 68 c2) : StM w0 w' b L k g0 g1 c2 := by
  have := h.lt0; have := h.lt1; have := h.old
  exact ⟨h.tape.keep hk (by intro g hg; simp at hg; omega), h.keeps.trans hk (by intro g hg; simp at hg; right; omega), hk.blk h.b0 (by simp; omega), hB, h.lt0, h.lt1, h.old⟩
theorem StM.set {w0 w : World} {b : Nat} {L : TapeL} {k g0 g1 : Nat} {c1 : Array Value} (h : StM w0 w b L k g0 g1 c1) (i : Nat) (v : Value) : StM w0 (w.setCell ⟨g1, i, none⟩ v) b L k g0 g1 (c1.setIfInBounds i v) :=
  h.in1 ((Keeps.refl _ _).setCell (by simp) v) (h.b1.set_ i v)
theorem stm_next {w0 w : World} {b : Nat} {L : TapeL} {k g0 g1 : Nat} {c1 : Array Value} (h : StM w0 w b L k g0 g1 c1) (n : Int) (hn : 1 ≤ n) :
    Calls Tryz.prog 62 #[.pointer (some ⟨b, 0, none⟩), .int .i64 n] w fun e w' => ∃ (v : Int) (k' : Nat), e = .returned (.int .i64 v) ∧ (0 ≤ v ∧ v < n) ∧ Hid (StM w0 w' b L k' g0 g1 c1) ∧ Hid (Keeps [b] w w') :=
  (next_any b L k n w h.tape).mono fun _ _ ⟨v, k', he, h0, h1, hT, hk⟩ => ⟨v, k', he, ⟨h0, h1 hn⟩, h.keep hT hk, hk⟩
theorem stm_entry {w0 w : World} {b : Nat} {L : TapeL} {k g0 g1 : Nat} {c1 : Array Value} (h : StM w0 w b L k g0 g1 c1) :
    Calls Tryz.prog 16 #[.pointer (some ⟨b, 0, none⟩)] w fun e w' => ∃ (en : EntryD) (A : Option Addr) (c k' : Nat), e = .returned (.agg (eCell (en, .slice A en.ds.length c)).toArray) ∧ Hid (EntryOk en) ∧ Hid (∀ M, (∀ g ∈ M, g ≤ g1) → Ds w' M (.slice A en.ds.length c) en.ds) ∧ Hid (StM w0 w' b L k' g0 g1 c1) :=
  (entry_any b L k w h.tape).mono fun _ _ ⟨en, dv, k', he, hok, hD, hT, hk⟩ => by
    obtain ⟨A, c, rfl, _⟩ := (hD [] (by simp)).len
    exact ⟨en, A, c, k', he, hok, fun M hM => hD M (fun g hg => Nat.lt_of_le_of_lt (hM g hg) h.b1.lt), h.keep hT hk⟩
theorem stm_log {w0 w : World} {b : Nat} {L : TapeL} {k g0 g1 : Nat} {c1 : Array Value} (h : StM w0 w b L k g0 g1 c1) :
    Calls Tryz.prog 80 #[.pointer (some ⟨b, 0, none⟩), .int .i64 4] w fun e w' => ∃ (l : List EntryD) (A : Option Addr) (c k' : Nat), e = .returned (.slice A l.length c) ∧ Hid ((∀ en ∈ l, EntryOk en) ∧ l.length ≤ 4) ∧ Hid (∀ M, (∀ g ∈ M, g ≤ g1) → Ens w' M (.slice A l.length c) l) ∧ Hid (StM w0 w' b L k' g0 g1 c1) :=
  (log_any b L k 4 w h.tape (by omega) (by omega)).mono fun _ _ ⟨v, l, k', he, hok, hl, hE, hT, hk⟩ => by
    obtain ⟨A, c, rfl, _⟩ := (hE [] (by simp)).len
    exact ⟨l, A, c, k', he, ⟨hok, by omega⟩, fun M hM => hE M (fun g hg => Nat.lt_of_le_of_lt (hM g hg) h.b1.lt), h.keep hT hk⟩
/-- A tape's message. -/
def MsgOk (m : MsgD) : Prop := (m.en = zeroD ∨ EntryOk m.en) ∧ (∀ e ∈ m.log, EntryOk e) ∧ m.log.length ≤ 4 ∧ (1 ≤ m.kd ∧ m.kd ≤ 6) ∧ (0 ≤ m.tag ∧ m.tag < 100) ∧ (0 ≤ m.code ∧ m.code < 100) ∧ (0 ≤ m.nn ∧ m.nn < 100) ∧ (0 ≤ m.term ∧ m.term < 100) ∧ (0 ≤ m.had ∧ m.had < 100) ∧ (0 ≤ m.commit ∧ m.commit < 100) ∧ (0 ≤ m.len ∧ m.len < 100) ∧ zeroS m = true ∧ (m.kd ≠ 1 → m.en = zeroD) ∧ (m.kd = 1 → EntryOk m.en)
def MsgPost (b : Nat) (L : TapeL) (w : World) (e : Ending) (w' : World) : Prop := ∃ (m : MsgD) (dv lv : Value) (k' : Nat), e = .returned (.agg (mCell m dv lv).toArray) ∧ MsgOk m ∧ (∀ M, (∀ g ∈ M, g < w.heap.size) → MsgAt w' M m dv lv) ∧ TapeAt w' b L k' ∧ Keeps [b] w w'
theorem msg_fin {w w5 w7 : World} {b : Nat} {L : TapeL} {k g0 g1 : Nat} {c1 : Array Value} (h : StM w w5 b L k g0 g1 c1) (hk : Keeps [g0] w5 w7) (m : MsgD) (dv lv : Value) (hc : c1 = (mCell m dv lv).toArray) (hok : MsgOk m)
    (hD : ∀ M, (∀ g ∈ M, g ≤ g1) → MsgAt w5 M m dv lv) : MsgPost b L w (.returned (.agg c1)) w7 := by
  have := h.lt0; have := h.lt1; have := h.old
  refine ⟨m, dv, lv, k, by rw [hc], hok, fun M hM => ?_, h.tape.keep hk (by intro g hg; simp at hg; omega), h.keeps.trans hk (by intro g hg; simp at hg; right; omega)⟩
  exact ((hD (g0 :: M) (by intro g hg; rcases List.mem_cons.1 hg with rfl | hg; omega; have := hM g hg; omega)).keep hk (by simp)).avoid (fun g hg => .inl (List.mem_cons_of_mem _ hg))
/-- Behind stores into the message's own block. -/
theorem MsgAt.in1 {w w' : World} {g1 : Nat} {m : MsgD} {dv lv : Value} (h : ∀ M, (∀ g ∈ M, g ≤ g1) → MsgAt w M m dv lv) (hk : Keeps [g1] w w') : ∀ M, (∀ g ∈ M, g ≤ g1) → MsgAt w' M m dv lv := fun M hM =>
  ((h (g1 :: M) (by intro g hg; rcases List.mem_cons.1 hg with rfl | hg; omega; exact hM g hg)).keep hk (by simp)).avoid (fun g hg => .inl (List.mem_cons_of_mem _ hg))
set_option maxRecDepth 100000 in
set_option maxHeartbeats 400000 in
theorem msg_any (b : Nat) (L : TapeL) (k : Nat) (w : World) (h : TapeAt w b L k) :
    Calls Tryz.prog 43 #[.pointer (some ⟨b, 0, none⟩)] w fun e w' => MsgPost b L w e w' := by
  have hbw := h.lt
  have H := Lib.hid h
  clear h
  go_enter Tryz.func43, Tryz.ntmps43
  go_upto_region 1 with (fail)
  have hT0 : TapeAt (w.alloc (.cells zero18 68)) b L k := H.out.keep (M' := []) ((Keeps.refl _ _).alloc _) (by simp)
  have hB0 : Blk (w.alloc (.cells zero18 68)) w.heap.size 68 zero18 := Blk.new w _ _
  have hK0 : Keeps [b] w (w.alloc (.cells zero18 68)) := (Keeps.refl _ _).alloc _
  have hsz : w.heap.size < (w.alloc (.cells zero18 68)).heap.size := by simp
  obtain ⟨w1, hw1⟩ : ∃ w1, w1 = w.alloc (.cells #[.int .i64 0, .int .i64 0, .int .i64 0, .int .i64 0, .int .i64 0, .int .i64 0, .slice none 0 0, .string ⟨#[]⟩, .int .i64 0, .int .i64 0, .int .i64 0, .int .i64 0, .int .u64 0, .int .i64 0, .int .i64 0, .slice none 0 0, .int .i64 0, .int .i64 0] 68) := ⟨_, rfl⟩
  rw [← hw1]
  rw [show (w.alloc (.cells zero18 68)) = w1 from hw1.symm] at hT0 hB0 hK0 hsz
  generalize hg0 : w.heap.size = g0 at *
  have hbg : b < g0 := hbw
  have HT0 := Lib.hid hT0; have HB0 := Lib.hid hB0; have HK0 := Lib.hid hK0; have Hg0 := Lib.hid hg0
  clear hw1 hT0 hB0 hK0 hg0 H
  go_wp2_with fail
  refine (next_any b L k 6 w1 HT0.out).mono ?_
  rintro e w2 ⟨v, k2, rfl, hv0, hv1, hT2, hK2⟩
  have hv2 := hv1 (by omega)
  have HT2 := Lib.hid hT2; have HK2 := Lib.hid (HK0.out.trans hK2 (by simp)); have HB2 := Lib.hid (hK2.blk HB0.out (by simp; omega))
  have hg2 : g0 < w2.heap.size := HB2.out.lt
  clear hv1 hT2 hK2 HT0 HB0 HK0 hsz
  go_wp2_with (refine wpList_store_blk rfl 68 (.tmp 3) (.tmp 8) rfl w2.heap.size 0 68 _ #[.int .i64 (1 + v), .int .i64 0, .int .i64 0, .int .i64 0, .int .i64 0, .int .i64 0, .slice none 0 0, .string ⟨#[]⟩, .int .i64 0, .int .i64 0, .int .i64 0, .int .i64 0, .int .u64 0, .int .i64 0, .int .i64 0, .slice none 0 0, .int .i64 0, .int .i64 0] #[.int .i64 (1 + v), .int .i64 0, .int .i64 0, .int .i64 0, .int .i64 0, .int .i64 0, .slice none 0 0, .string ⟨#[]⟩, .int .i64 0, .int .i64 0, .int .i64 0, .int .i64 0, .int .u64 0, .int .i64 0, .int .i64 0, .slice none 0 0, .int .i64 0, .int .i64 0] rfl rfl (Blk.new _ _ _) (by show 0 + 18 ≤ 18; omega) rfl (by kernel_rfl) rfl ?_; intro w3 hk3 hB3; have Hk3 := Lib.hid hk3; have HB3 := Lib.hid hB3; clear hk3 hB3)
  have H3 : Hid (StM w w3 b L k2 g0 w2.heap.size #[.int .i64 (1 + v), .int .i64 0, .int .i64 0, .int .i64 0, .int .i64 0, .int .i64 0, .slice none 0 0, .string ⟨#[]⟩, .int .i64 0, .int .i64 0, .int .i64 0, .int .i64 0, .int .u64 0, .int .i64 0, .int .i64 0, .slice none 0 0, .int .i64 0, .int .i64 0]) := by
    have ha : Keeps [w2.heap.size] w2 w3 := ((Keeps.refl _ _).alloc _).trans Hk3.out (by simp)
    exact ⟨HT2.out.keep ha (by intro x hx; simp at hx; omega), HK2.out.trans ha (by intro x hx; simp at hx; right; have := Hg0.out; omega), ha.blk HB2.out (by simp; omega), HB3.out, hbg, hg2, by have := Hg0.out; omega⟩
  generalize w2.heap.size = g1 at *
  generalize hkd : 1 + v = kd at *
  have hk1 : 1 ≤ kd := by omega
  have hk6 : kd ≤ 6 := by omega
  clear Hk3 HB3 hkd hv0 hv2 HT2 HK2 HB2 hg2
  refine (stm_next H3.out 12 (by omega)).mono ?_
  rintro e w4 ⟨tm, k4, rfl, ⟨ht0, ht1⟩, H4, _⟩
  clear H3
  obtain rfl | rfl | rfl | rfl | rfl | rfl : kd = 1 ∨ kd = 2 ∨ kd = 3 ∨ kd = 4 ∨ kd = 5 ∨ kd = 6 := by omega
  · clear hk1 hk6
    obtain ⟨q0, q1, q2, q3, q4, q5, q6, q7, q8, q9, qa, qb, qc, qd, qe, qf, qg, qh, qz⟩ := blk18 H4.out.b1
    go_wp2_with fail
    refine (stm_entry H4.out).mono ?_
    rintro e w5 ⟨en, Ae, ce, k5, rfl, Hok, Hde, H5⟩
    clear q0 q1 q2 q3 q4 q5 q6 q7 q8 q9 qa qb qc qd qe qf qg qh qz
    go_wp2_with (first | (refine wpList_store_blk rfl 26 (.tmp 22) (.tmp 21) rfl g1 1 68 #[.int .i64 1, .int .i64 0, .int .i64 0, .int .i64 0, .int .i64 0, .int .i64 0, .slice none 0 0, .string ⟨#[]⟩, .int .i64 0, .int .i64 0, .int .i64 0, .int .i64 0, .int .u64 0, .int .i64 0, .int .i64 0, .slice none 0 0, .int .i64 0, .int .i64 0] #[.int .i64 1, .int .i64 en.kind, .int .i64 en.ag, .int .i64 en.sh, .int .i64 en.seq, .int .i64 en.ep, .slice Ae en.ds.length ce, .string en.ser, .int .i64 en.fr, .int .i64 en.tag, .int .i64 0, .int .i64 0, .int .u64 0, .int .i64 0, .int .i64 0, .slice none 0 0, .int .i64 0, .int .i64 0] (eCell (en, .slice Ae en.ds.length ce)).toArray rfl rfl H5.out.b1 (by show 1 + 9 ≤ 18; omega) rfl (by kernel_rfl) rfl ?_; intro w9 hk9 hB9; have HS9 := Lib.hid (H5.out.in1 hk9 hB9); have Hk9 := Lib.hid hk9; clear hk9 hB9) | (refine wpList_load_mid rfl 68 (.tmp 3) rfl g1 0 rfl _ _ (blk_range HS9.out.b1) Tryz.underlying68 rfl (by kernel_rfl) ?_) | (refine wpList_store_blk rfl 68 (.tmp 2) (.tmp 59) rfl g0 0 68 zero18 #[.int .i64 1, .int .i64 en.kind, .int .i64 en.ag, .int .i64 en.sh, .int .i64 en.seq, .int .i64 en.ep, .slice Ae en.ds.length ce, .string en.ser, .int .i64 en.fr, .int .i64 en.tag, .int .i64 0, .int .i64 0, .int .u64 0, .int .i64 0, .int .i64 0, .slice none 0 0, .int .i64 0, .int .i64 0] #[.int .i64 1, .int .i64 en.kind, .int .i64 en.ag, .int .i64 en.sh, .int .i64 en.seq, .int .i64 en.ep, .slice Ae en.ds.length ce, .string en.ser, .int .i64 en.fr, .int .i64 en.tag, .int .i64 0, .int .i64 0, .int .u64 0, .int .i64 0, .int .i64 0, .slice none 0 0, .int .i64 0, .int .i64 0] rfl rfl HS9.out.b0 (by show 0 + 18 ≤ 18; omega) rfl (by kernel_rfl) rfl ?_; intro wz hkz hBz; have Hkz := Lib.hid hkz; have HBz := Lib.hid hBz; clear hkz hBz))
    refine bodyPost_ret (results_cell1 rfl _ _ g0 68 #[.int .i64 1, .int .i64 en.kind, .int .i64 en.ag, .int .i64 en.sh, .int .i64 en.seq, .int .i64 en.ep, .slice Ae en.ds.length ce, .string en.ser, .int .i64 en.fr, .int .i64 en.tag, .int .i64 0, .int .i64 0, .int .u64 0, .int .i64 0, .int .i64 0, .slice none 0 0, .int .i64 0, .int .i64 0] _ rfl HBz.out Tryz.underlying68 rfl (by kernel_rfl)) rfl ?_
    exact msg_fin HS9.out Hkz.out ⟨1, en, 0, 0, 0, 0, 0, [], 0, 0⟩ (.slice Ae en.ds.length ce) (.slice none 0 0) rfl ⟨.inr Hok.out, by simp, by simp, ⟨by show (1 : Int) ≤ 1; omega, by show 1 ≤ (6 : Int); omega⟩, ⟨by show (0 : Int) ≤ 0; omega, by show 0 < (100 : Int); omega⟩, ⟨by show (0 : Int) ≤ 0; omega, by show 0 < (100 : Int); omega⟩, ⟨by show (0 : Int) ≤ 0; omega, by show 0 < (100 : Int); omega⟩, ⟨by show (0 : Int) ≤ 0; omega, by show 0 < (100 : Int); omega⟩, ⟨by show (0 : Int) ≤ 0; omega, by show 0 < (100 : Int); omega⟩, ⟨by show (0 : Int) ≤ 0; omega, by show 0 < (100 : Int); omega⟩, ⟨by show (0 : Int) ≤ 0; omega, by show 0 < (100 : Int); omega⟩, zeroS_of rfl, fun h => absurd rfl h, fun _ => Hok.out⟩ (fun M hM => MsgAt.in1 (m := ⟨1, en, 0, 0, 0, 0, 0, [], 0, 0⟩) (dv := .slice Ae en.ds.length ce) (lv := .slice none 0 0) (fun M hM => ⟨Hde.out M hM, Ens.nil _ _⟩) Hk9.out M hM)
  · clear hk1 hk6
    obtain ⟨q0, q1, q2, q3, q4, q5, q6, q7, q8, q9, qa, qb, qc, qd, qe, qf, qg, qh, qz⟩ := blk18 H4.out.b1
    go_wp2_with fail
    refine (stm_next H4.out 20 (by omega)).mono ?_
    rintro e w5 ⟨tg, k5, rfl, ⟨htg0, htg1⟩, H5, KK5⟩
    go_wp2_with fail
    refine (stm_next H5.out 9 (by omega)).mono ?_
    rintro e w6 ⟨cd, k6, rfl, ⟨hcd0, hcd1⟩, H6, KK6⟩
    go_wp2_with fail
    refine (stm_next H6.out 99 (by omega)).mono ?_
    rintro e w7 ⟨nn, k7, rfl, ⟨hnn0, hnn1⟩, H7, KK7⟩
    clear q0 q1 q2 q3 q4 q5 q6 q7 q8 q9 qa qb qc qd qe qf qg qh qz
    have hwn : IntKind.u64.wrap nn = nn := by rw [IntKind.wrap_u64]; omega
    obtain ⟨q0, q1, q2, q3, q4, q5, q6, q7, q8, q9, qa, qb, qc, qd, qe, qf, qg, qh, qz⟩ := blk18 H7.out.b1
    obtain ⟨w9, hw9⟩ : ∃ w9, w9 = (((w7.setCell ⟨g1, 10, none⟩ (.int .i64 tg)).setCell ⟨g1, 11, none⟩ (.int .i64 cd)).setCell ⟨g1, 12, none⟩ (.int .u64 nn)) := ⟨_, rfl⟩
    have hk9 : Keeps [g1] w7 w9 := by rw [hw9]; exact (((Keeps.refl _ _).setCell (by simp) _).setCell (by simp) _).setCell (by simp) _
    have hS9 : StM w w9 b L k7 g0 g1 #[.int .i64 2, .int .i64 0, .int .i64 0, .int .i64 0, .int .i64 0, .int .i64 0, .slice none 0 0, .string ⟨#[]⟩, .int .i64 0, .int .i64 0, .int .i64 tg, .int .i64 cd, .int .u64 nn, .int .i64 0, .int .i64 0, .slice none 0 0, .int .i64 0, .int .i64 0] := by rw [hw9]; exact (by simpa using (((H7.out.set 10 (.int .i64 tg)).set 11 (.int .i64 cd)).set 12 (.int .u64 nn)) : StM w _ b L k7 g0 g1 _)
    have HS9 := Lib.hid hS9; have Hw9 := Lib.hid hw9; have Hk9 := Lib.hid hk9
    clear hw9 hk9 hS9
    go_upto_region 15 with (fail)
    rw [← Hw9.out]
    clear Hw9 q0 q1 q2 q3 q4 q5 q6 q7 q8 q9 qa qb qc qd qe qf qg qh qz
    go_wp2_with (first | (refine wpList_load_mid rfl 68 (.tmp 3) rfl g1 0 rfl _ _ (blk_range HS9.out.b1) Tryz.underlying68 rfl (by kernel_rfl) ?_) | (refine wpList_store_blk rfl 68 (.tmp 2) (.tmp 59) rfl g0 0 68 zero18 #[.int .i64 2, .int .i64 0, .int .i64 0, .int .i64 0, .int .i64 0, .int .i64 0, .slice none 0 0, .string ⟨#[]⟩, .int .i64 0, .int .i64 0, .int .i64 tg, .int .i64 cd, .int .u64 nn, .int .i64 0, .int .i64 0, .slice none 0 0, .int .i64 0, .int .i64 0] #[.int .i64 2, .int .i64 0, .int .i64 0, .int .i64 0, .int .i64 0, .int .i64 0, .slice none 0 0, .string ⟨#[]⟩, .int .i64 0, .int .i64 0, .int .i64 tg, .int .i64 cd, .int .u64 nn, .int .i64 0, .int .i64 0, .slice none 0 0, .int .i64 0, .int .i64 0] rfl rfl HS9.out.b0 (by show 0 + 18 ≤ 18; omega) rfl (by kernel_rfl) rfl ?_; intro wz hkz hBz; have Hkz := Lib.hid hkz; have HBz := Lib.hid hBz; clear hkz hBz))
    refine bodyPost_ret (results_cell1 rfl _ _ g0 68 #[.int .i64 2, .int .i64 0, .int .i64 0, .int .i64 0, .int .i64 0, .int .i64 0, .slice none 0 0, .string ⟨#[]⟩, .int .i64 0, .int .i64 0, .int .i64 tg, .int .i64 cd, .int .u64 nn, .int .i64 0, .int .i64 0, .slice none 0 0, .int .i64 0, .int .i64 0] _ rfl HBz.out Tryz.underlying68 rfl (by kernel_rfl)) rfl ?_
    exact msg_fin HS9.out Hkz.out ⟨2, ⟨0, 0, 0, 0, 0, [], ByteArray.empty, 0, 0⟩, tg, cd, nn, 0, 0, [], 0, 0⟩ (.slice none 0 0) (.slice none 0 0) rfl ⟨.inl rfl, by simp, by simp, ⟨by show (1 : Int) ≤ 2; omega, by show 2 ≤ (6 : Int); omega⟩, ⟨by show (0 : Int) ≤ tg; omega, by show tg < (100 : Int); omega⟩, ⟨by show (0 : Int) ≤ cd; omega, by show cd < (100 : Int); omega⟩, ⟨by show (0 : Int) ≤ nn; omega, by show nn < (100 : Int); omega⟩, ⟨by show (0 : Int) ≤ 0; omega, by show 0 < (100 : Int); omega⟩, ⟨by show (0 : Int) ≤ 0; omega, by show 0 < (100 : Int); omega⟩, ⟨by show (0 : Int) ≤ 0; omega, by show 0 < (100 : Int); omega⟩, ⟨by show (0 : Int) ≤ 0; omega, by show 0 < (100 : Int); omega⟩, zeroS_of rfl, fun _ => rfl, fun h => absurd h (by show ¬ ((2 : Int) = 1); decide)⟩ (fun M hM => ⟨Ds.nil _ _, Ens.nil _ _⟩)
  · clear hk1 hk6
    obtain ⟨q0, q1, q2, q3, q4, q5, q6, q7, q8, q9, qa, qb, qc, qd, qe, qf, qg, qh, qz⟩ := blk18 H4.out.b1
    obtain ⟨w9, hw9⟩ : ∃ w9, w9 = (w4.setCell ⟨g1, 13, none⟩ (.int .i64 tm)) := ⟨_, rfl⟩
    have hk9 : Keeps [g1] w4 w9 := by rw [hw9]; exact (Keeps.refl _ _).setCell (by simp) _
    have hS9 : StM w w9 b L k4 g0 g1 #[.int .i64 3, .int .i64 0, .int .i64 0, .int .i64 0, .int .i64 0, .int .i64 0, .slice none 0 0, .string ⟨#[]⟩, .int .i64 0, .int .i64 0, .int .i64 0, .int .i64 0, .int .u64 0, .int .i64 tm, .int .i64 0, .slice none 0 0, .int .i64 0, .int .i64 0] := by rw [hw9]; exact (by simpa using (H4.out.set 13 (.int .i64 tm)) : StM w _ b L k4 g0 g1 _)
    have HS9 := Lib.hid hS9; have Hw9 := Lib.hid hw9; have Hk9 := Lib.hid hk9
    clear hw9 hk9 hS9
    go_upto_region 15 with (fail)
    rw [← Hw9.out]
    clear Hw9 q0 q1 q2 q3 q4 q5 q6 q7 q8 q9 qa qb qc qd qe qf qg qh qz
    go_wp2_with (first | (refine wpList_load_mid rfl 68 (.tmp 3) rfl g1 0 rfl _ _ (blk_range HS9.out.b1) Tryz.underlying68 rfl (by kernel_rfl) ?_) | (refine wpList_store_blk rfl 68 (.tmp 2) (.tmp 59) rfl g0 0 68 zero18 #[.int .i64 3, .int .i64 0, .int .i64 0, .int .i64 0, .int .i64 0, .int .i64 0, .slice none 0 0, .string ⟨#[]⟩, .int .i64 0, .int .i64 0, .int .i64 0, .int .i64 0, .int .u64 0, .int .i64 tm, .int .i64 0, .slice none 0 0, .int .i64 0, .int .i64 0] #[.int .i64 3, .int .i64 0, .int .i64 0, .int .i64 0, .int .i64 0, .int .i64 0, .slice none 0 0, .string ⟨#[]⟩, .int .i64 0, .int .i64 0, .int .i64 0, .int .i64 0, .int .u64 0, .int .i64 tm, .int .i64 0, .slice none 0 0, .int .i64 0, .int .i64 0] rfl rfl HS9.out.b0 (by show 0 + 18 ≤ 18; omega) rfl (by kernel_rfl) rfl ?_; intro wz hkz hBz; have Hkz := Lib.hid hkz; have HBz := Lib.hid hBz; clear hkz hBz))
    refine bodyPost_ret (results_cell1 rfl _ _ g0 68 #[.int .i64 3, .int .i64 0, .int .i64 0, .int .i64 0, .int .i64 0, .int .i64 0, .slice none 0 0, .string ⟨#[]⟩, .int .i64 0, .int .i64 0, .int .i64 0, .int .i64 0, .int .u64 0, .int .i64 tm, .int .i64 0, .slice none 0 0, .int .i64 0, .int .i64 0] _ rfl HBz.out Tryz.underlying68 rfl (by kernel_rfl)) rfl ?_
    exact msg_fin HS9.out Hkz.out ⟨3, ⟨0, 0, 0, 0, 0, [], ByteArray.empty, 0, 0⟩, 0, 0, 0, tm, 0, [], 0, 0⟩ (.slice none 0 0) (.slice none 0 0) rfl ⟨.inl rfl, by simp, by simp, ⟨by show (1 : Int) ≤ 3; omega, by show 3 ≤ (6 : Int); omega⟩, ⟨by show (0 : Int) ≤ 0; omega, by show 0 < (100 : Int); omega⟩, ⟨by show (0 : Int) ≤ 0; omega, by show 0 < (100 : Int); omega⟩, ⟨by show (0 : Int) ≤ 0; omega, by show 0 < (100 : Int); omega⟩, ⟨by show (0 : Int) ≤ tm; omega, by show tm < (100 : Int); omega⟩, ⟨by show (0 : Int) ≤ 0; omega, by show 0 < (100 : Int); omega⟩, ⟨by show (0 : Int) ≤ 0; omega, by show 0 < (100 : Int); omega⟩, ⟨by show (0 : Int) ≤ 0; omega, by show 0 < (100 : Int); omega⟩, zeroS_of rfl, fun _ => rfl, fun h => absurd h (by show ¬ ((3 : Int) = 1); decide)⟩ (fun M hM => ⟨Ds.nil _ _, Ens.nil _ _⟩)
  · clear hk1 hk6
    obtain ⟨q0, q1, q2, q3, q4, q5, q6, q7, q8, q9, qa, qb, qc, qd, qe, qf, qg, qh, qz⟩ := blk18 H4.out.b1
    go_wp2_with fail
    refine (stm_next H4.out 12 (by omega)).mono ?_
    rintro e w5 ⟨hd, k5, rfl, ⟨hhd0, hhd1⟩, H5, KK5⟩
    clear q0 q1 q2 q3 q4 q5 q6 q7 q8 q9 qa qb qc qd qe qf qg qh qz
    go_wp2_with fail
    refine (stm_log H5.out).mono ?_
    rintro e w6 ⟨lg, Ba, ka, k6, rfl, Hlo, Hle, H6⟩
    obtain ⟨q0, q1, q2, q3, q4, q5, q6, q7, q8, q9, qa, qb, qc, qd, qe, qf, qg, qh, qz⟩ := blk18 H6.out.b1
    obtain ⟨w9, hw9⟩ : ∃ w9, w9 = (((w6.setCell ⟨g1, 13, none⟩ (.int .i64 tm)).setCell ⟨g1, 14, none⟩ (.int .i64 hd)).setCell ⟨g1, 15, none⟩ (.slice Ba lg.length ka)) := ⟨_, rfl⟩
    have hk9 : Keeps [g1] w6 w9 := by rw [hw9]; exact (((Keeps.refl _ _).setCell (by simp) _).setCell (by simp) _).setCell (by simp) _
    have hS9 : StM w w9 b L k6 g0 g1 #[.int .i64 4, .int .i64 0, .int .i64 0, .int .i64 0, .int .i64 0, .int .i64 0, .slice none 0 0, .string ⟨#[]⟩, .int .i64 0, .int .i64 0, .int .i64 0, .int .i64 0, .int .u64 0, .int .i64 tm, .int .i64 hd, .slice Ba lg.length ka, .int .i64 0, .int .i64 0] := by rw [hw9]; exact (by simpa using (((H6.out.set 13 (.int .i64 tm)).set 14 (.int .i64 hd)).set 15 (.slice Ba lg.length ka)) : StM w _ b L k6 g0 g1 _)
    have HS9 := Lib.hid hS9; have Hw9 := Lib.hid hw9; have Hk9 := Lib.hid hk9
    clear hw9 hk9 hS9
    go_upto_region 15 with (fail)
    rw [← Hw9.out]
    clear Hw9 q0 q1 q2 q3 q4 q5 q6 q7 q8 q9 qa qb qc qd qe qf qg qh qz
    go_wp2_with (first | (refine wpList_load_mid rfl 68 (.tmp 3) rfl g1 0 rfl _ _ (blk_range HS9.out.b1) Tryz.underlying68 rfl (by kernel_rfl) ?_) | (refine wpList_store_blk rfl 68 (.tmp 2) (.tmp 59) rfl g0 0 68 zero18 #[.int .i64 4, .int .i64 0, .int .i64 0, .int .i64 0, .int .i64 0, .int .i64 0, .slice none 0 0, .string ⟨#[]⟩, .int .i64 0, .int .i64 0, .int .i64 0, .int .i64 0, .int .u64 0, .int .i64 tm, .int .i64 hd, .slice Ba lg.length ka, .int .i64 0, .int .i64 0] #[.int .i64 4, .int .i64 0, .int .i64 0, .int .i64 0, .int .i64 0, .int .i64 0, .slice none 0 0, .string ⟨#[]⟩, .int .i64 0, .int .i64 0, .int .i64 0, .int .i64 0, .int .u64 0, .int .i64 tm, .int .i64 hd, .slice Ba lg.length ka, .int .i64 0, .int .i64 0] rfl rfl HS9.out.b0 (by show 0 + 18 ≤ 18; omega) rfl (by kernel_rfl) rfl ?_; intro wz hkz hBz; have Hkz := Lib.hid hkz; have HBz := Lib.hid hBz; clear hkz hBz))
    refine bodyPost_ret (results_cell1 rfl _ _ g0 68 #[.int .i64 4, .int .i64 0, .int .i64 0, .int .i64 0, .int .i64 0, .int .i64 0, .slice none 0 0, .string ⟨#[]⟩, .int .i64 0, .int .i64 0, .int .i64 0, .int .i64 0, .int .u64 0, .int .i64 tm, .int .i64 hd, .slice Ba lg.length ka, .int .i64 0, .int .i64 0] _ rfl HBz.out Tryz.underlying68 rfl (by kernel_rfl)) rfl ?_
    exact msg_fin HS9.out Hkz.out ⟨4, ⟨0, 0, 0, 0, 0, [], ByteArray.empty, 0, 0⟩, 0, 0, 0, tm, hd, lg, 0, 0⟩ (.slice none 0 0) (.slice Ba lg.length ka) rfl ⟨.inl rfl, Hlo.out.1, Hlo.out.2, ⟨by show (1 : Int) ≤ 4; omega, by show 4 ≤ (6 : Int); omega⟩, ⟨by show (0 : Int) ≤ 0; omega, by show 0 < (100 : Int); omega⟩, ⟨by show (0 : Int) ≤ 0; omega, by show 0 < (100 : Int); omega⟩, ⟨by show (0 : Int) ≤ 0; omega, by show 0 < (100 : Int); omega⟩, ⟨by show (0 : Int) ≤ tm; omega, by show tm < (100 : Int); omega⟩, ⟨by show (0 : Int) ≤ hd; omega, by show hd < (100 : Int); omega⟩, ⟨by show (0 : Int) ≤ 0; omega, by show 0 < (100 : Int); omega⟩, ⟨by show (0 : Int) ≤ 0; omega, by show 0 < (100 : Int); omega⟩, zeroS_of rfl, fun _ => rfl, fun h => absurd h (by show ¬ ((4 : Int) = 1); decide)⟩ (fun M hM => MsgAt.in1 (m := ⟨4, ⟨0, 0, 0, 0, 0, [], ByteArray.empty, 0, 0⟩, 0, 0, 0, tm, hd, lg, 0, 0⟩) (dv := .slice none 0 0) (lv := .slice Ba lg.length ka) (fun M hM => ⟨Ds.nil _ _, Hle.out M hM⟩) Hk9.out M hM)
  · clear hk1 hk6
    obtain ⟨q0, q1, q2, q3, q4, q5, q6, q7, q8, q9, qa, qb, qc, qd, qe, qf, qg, qh, qz⟩ := blk18 H4.out.b1
    go_wp2_with fail
    refine (stm_log H4.out).mono ?_
    rintro e w5 ⟨lg, Ba, ka, k5, rfl, Hlo, Hle, H5⟩
    clear q0 q1 q2 q3 q4 q5 q6 q7 q8 q9 qa qb qc qd qe qf qg qh qz
    go_wp2_with fail
    refine (stm_next H5.out 5 (by omega)).mono ?_
    rintro e w6 ⟨cm, k6, rfl, ⟨hcm0, hcm1⟩, H6, KK6⟩
    obtain ⟨q0, q1, q2, q3, q4, q5, q6, q7, q8, q9, qa, qb, qc, qd, qe, qf, qg, qh, qz⟩ := blk18 H6.out.b1
    obtain ⟨w9, hw9⟩ : ∃ w9, w9 = (((w6.setCell ⟨g1, 13, none⟩ (.int .i64 tm)).setCell ⟨g1, 15, none⟩ (.slice Ba lg.length ka)).setCell ⟨g1, 16, none⟩ (.int .i64 cm)) := ⟨_, rfl⟩
    have hk9 : Keeps [g1] w6 w9 := by rw [hw9]; exact (((Keeps.refl _ _).setCell (by simp) _).setCell (by simp) _).setCell (by simp) _
    have hS9 : StM w w9 b L k6 g0 g1 #[.int .i64 5, .int .i64 0, .int .i64 0, .int .i64 0, .int .i64 0, .int .i64 0, .slice none 0 0, .string ⟨#[]⟩, .int .i64 0, .int .i64 0, .int .i64 0, .int .i64 0, .int .u64 0, .int .i64 tm, .int .i64 0, .slice Ba lg.length ka, .int .i64 cm, .int .i64 0] := by rw [hw9]; exact (by simpa using (((H6.out.set 13 (.int .i64 tm)).set 15 (.slice Ba lg.length ka)).set 16 (.int .i64 cm)) : StM w _ b L k6 g0 g1 _)
    have HS9 := Lib.hid hS9; have Hw9 := Lib.hid hw9; have Hk9 := Lib.hid hk9
    clear hw9 hk9 hS9
    go_upto_region 15 with (fail)
    rw [← Hw9.out]
    clear Hw9 q0 q1 q2 q3 q4 q5 q6 q7 q8 q9 qa qb qc qd qe qf qg qh qz
    go_wp2_with (first | (refine wpList_load_mid rfl 68 (.tmp 3) rfl g1 0 rfl _ _ (blk_range HS9.out.b1) Tryz.underlying68 rfl (by kernel_rfl) ?_) | (refine wpList_store_blk rfl 68 (.tmp 2) (.tmp 59) rfl g0 0 68 zero18 #[.int .i64 5, .int .i64 0, .int .i64 0, .int .i64 0, .int .i64 0, .int .i64 0, .slice none 0 0, .string ⟨#[]⟩, .int .i64 0, .int .i64 0, .int .i64 0, .int .i64 0, .int .u64 0, .int .i64 tm, .int .i64 0, .slice Ba lg.length ka, .int .i64 cm, .int .i64 0] #[.int .i64 5, .int .i64 0, .int .i64 0, .int .i64 0, .int .i64 0, .int .i64 0, .slice none 0 0, .string ⟨#[]⟩, .int .i64 0, .int .i64 0, .int .i64 0, .int .i64 0, .int .u64 0, .int .i64 tm, .int .i64 0, .slice Ba lg.length ka, .int .i64 cm, .int .i64 0] rfl rfl HS9.out.b0 (by show 0 + 18 ≤ 18; omega) rfl (by kernel_rfl) rfl ?_; intro wz hkz hBz; have Hkz := Lib.hid hkz; have HBz := Lib.hid hBz; clear hkz hBz))
    refine bodyPost_ret (results_cell1 rfl _ _ g0 68 #[.int .i64 5, .int .i64 0, .int .i64 0, .int .i64 0, .int .i64 0, .int .i64 0, .slice none 0 0, .string ⟨#[]⟩, .int .i64 0, .int .i64 0, .int .i64 0, .int .i64 0, .int .u64 0, .int .i64 tm, .int .i64 0, .slice Ba lg.length ka, .int .i64 cm, .int .i64 0] _ rfl HBz.out Tryz.underlying68 rfl (by kernel_rfl)) rfl ?_
    exact msg_fin HS9.out Hkz.out ⟨5, ⟨0, 0, 0, 0, 0, [], ByteArray.empty, 0, 0⟩, 0, 0, 0, tm, 0, lg, cm, 0⟩ (.slice none 0 0) (.slice Ba lg.length ka) rfl ⟨.inl rfl, Hlo.out.1, Hlo.out.2, ⟨by show (1 : Int) ≤ 5; omega, by show 5 ≤ (6 : Int); omega⟩, ⟨by show (0 : Int) ≤ 0; omega, by show 0 < (100 : Int); omega⟩, ⟨by show (0 : Int) ≤ 0; omega, by show 0 < (100 : Int); omega⟩, ⟨by show (0 : Int) ≤ 0; omega, by show 0 < (100 : Int); omega⟩, ⟨by show (0 : Int) ≤ tm; omega, by show tm < (100 : Int); omega⟩, ⟨by show (0 : Int) ≤ 0; omega, by show 0 < (100 : Int); omega⟩, ⟨by show (0 : Int) ≤ cm; omega, by show cm < (100 : Int); omega⟩, ⟨by show (0 : Int) ≤ 0; omega, by show 0 < (100 : Int); omega⟩, zeroS_of rfl, fun _ => rfl, fun h => absurd h (by show ¬ ((5 : Int) = 1); decide)⟩ (fun M hM => MsgAt.in1 (m := ⟨5, ⟨0, 0, 0, 0, 0, [], ByteArray.empty, 0, 0⟩, 0, 0, 0, tm, 0, lg, cm, 0⟩) (dv := .slice none 0 0) (lv := .slice Ba lg.length ka) (fun M hM => ⟨Ds.nil _ _, (Hle.out (b :: M) (by intro x hx; rcases List.mem_cons.1 hx with rfl | hx; have := H5.out.lt0; have := H5.out.lt1; omega; exact hM x hx)).keep KK6.out (by simp) |>.avoid (fun g hg => .inl (List.mem_cons_of_mem _ hg))⟩) Hk9.out M hM)
  · clear hk1 hk6
    obtain ⟨q0, q1, q2, q3, q4, q5, q6, q7, q8, q9, qa, qb, qc, qd, qe, qf, qg, qh, qz⟩ := blk18 H4.out.b1
    go_wp2_with fail
    refine (stm_next H4.out 6 (by omega)).mono ?_
    rintro e w5 ⟨ln, k5, rfl, ⟨hln0, hln1⟩, H5, KK5⟩
    clear q0 q1 q2 q3 q4 q5 q6 q7 q8 q9 qa qb qc qd qe qf qg qh qz
    obtain ⟨q0, q1, q2, q3, q4, q5, q6, q7, q8, q9, qa, qb, qc, qd, qe, qf, qg, qh, qz⟩ := blk18 H5.out.b1
    obtain ⟨w9, hw9⟩ : ∃ w9, w9 = ((w5.setCell ⟨g1, 13, none⟩ (.int .i64 tm)).setCell ⟨g1, 17, none⟩ (.int .i64 ln)) := ⟨_, rfl⟩
    have hk9 : Keeps [g1] w5 w9 := by rw [hw9]; exact ((Keeps.refl _ _).setCell (by simp) _).setCell (by simp) _
    have hS9 : StM w w9 b L k5 g0 g1 #[.int .i64 6, .int .i64 0, .int .i64 0, .int .i64 0, .int .i64 0, .int .i64 0, .slice none 0 0, .string ⟨#[]⟩, .int .i64 0, .int .i64 0, .int .i64 0, .int .i64 0, .int .u64 0, .int .i64 tm, .int .i64 0, .slice none 0 0, .int .i64 0, .int .i64 ln] := by rw [hw9]; exact (by simpa using ((H5.out.set 13 (.int .i64 tm)).set 17 (.int .i64 ln)) : StM w _ b L k5 g0 g1 _)
    have HS9 := Lib.hid hS9; have Hw9 := Lib.hid hw9; have Hk9 := Lib.hid hk9
    clear hw9 hk9 hS9
    go_upto_region 15 with (fail)
    rw [← Hw9.out]
    clear Hw9 q0 q1 q2 q3 q4 q5 q6 q7 q8 q9 qa qb qc qd qe qf qg qh qz
    go_wp2_with (first | (refine wpList_load_mid rfl 68 (.tmp 3) rfl g1 0 rfl _ _ (blk_range HS9.out.b1) Tryz.underlying68 rfl (by kernel_rfl) ?_) | (refine wpList_store_blk rfl 68 (.tmp 2) (.tmp 59) rfl g0 0 68 zero18 #[.int .i64 6, .int .i64 0, .int .i64 0, .int .i64 0, .int .i64 0, .int .i64 0, .slice none 0 0, .string ⟨#[]⟩, .int .i64 0, .int .i64 0, .int .i64 0, .int .i64 0, .int .u64 0, .int .i64 tm, .int .i64 0, .slice none 0 0, .int .i64 0, .int .i64 ln] #[.int .i64 6, .int .i64 0, .int .i64 0, .int .i64 0, .int .i64 0, .int .i64 0, .slice none 0 0, .string ⟨#[]⟩, .int .i64 0, .int .i64 0, .int .i64 0, .int .i64 0, .int .u64 0, .int .i64 tm, .int .i64 0, .slice none 0 0, .int .i64 0, .int .i64 ln] rfl rfl HS9.out.b0 (by show 0 + 18 ≤ 18; omega) rfl (by kernel_rfl) rfl ?_; intro wz hkz hBz; have Hkz := Lib.hid hkz; have HBz := Lib.hid hBz; clear hkz hBz))
    refine bodyPost_ret (results_cell1 rfl _ _ g0 68 #[.int .i64 6, .int .i64 0, .int .i64 0, .int .i64 0, .int .i64 0, .int .i64 0, .slice none 0 0, .string ⟨#[]⟩, .int .i64 0, .int .i64 0, .int .i64 0, .int .i64 0, .int .u64 0, .int .i64 tm, .int .i64 0, .slice none 0 0, .int .i64 0, .int .i64 ln] _ rfl HBz.out Tryz.underlying68 rfl (by kernel_rfl)) rfl ?_
    exact msg_fin HS9.out Hkz.out ⟨6, ⟨0, 0, 0, 0, 0, [], ByteArray.empty, 0, 0⟩, 0, 0, 0, tm, 0, [], 0, ln⟩ (.slice none 0 0) (.slice none 0 0) rfl ⟨.inl rfl, by simp, by simp, ⟨by show (1 : Int) ≤ 6; omega, by show 6 ≤ (6 : Int); omega⟩, ⟨by show (0 : Int) ≤ 0; omega, by show 0 < (100 : Int); omega⟩, ⟨by show (0 : Int) ≤ 0; omega, by show 0 < (100 : Int); omega⟩, ⟨by show (0 : Int) ≤ 0; omega, by show 0 < (100 : Int); omega⟩, ⟨by show (0 : Int) ≤ tm; omega, by show tm < (100 : Int); omega⟩, ⟨by show (0 : Int) ≤ 0; omega, by show 0 < (100 : Int); omega⟩, ⟨by show (0 : Int) ≤ 0; omega, by show 0 < (100 : Int); omega⟩, ⟨by show (0 : Int) ≤ ln; omega, by show ln < (100 : Int); omega⟩, zeroS_of rfl, fun _ => rfl, fun h => absurd h (by show ¬ ((6 : Int) = 1); decide)⟩ (fun M hM => ⟨Ds.nil _ _, Ens.nil _ _⟩)
end Go.Proofs.YtinnifhnabncfaaGreatDoor.Vi
end
