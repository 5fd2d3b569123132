/- Texts put together: RpP, Vz, Tag, McF, McB, McC, McD, McG, CtB, CtC. -/
import Derived.Deep.RegionHeld3
import Derived.Deep.DeepCutAuto
import Derived.Test.YtdaceeijifjpeaaGreatDoorRT1
import Derived.Test.YtdaceeijifjpeaaGreatDoorRT3
import Derived.Test.YtdaceeijifjpeaaGreatDoorRT4
import Derived.Test.YtdaceeijifjpeaaGreatDoorRT5
import Derived.Test.YtdaceeijifjpeaaGreatDoorRT7
set_option linter.unusedVariables false
set_option linter.unusedSimpArgs false
section
namespace Go.Proofs.YtdaceeijifjpeaaGreatDoor.Vi
open Go.RowKit Base Mem Go.Shelf Tape
open Lead (VoteD promiseS wonS accS medS termS newVote)
/-- A replica: its word and where that is written, its machine, its vote. -/
structure RpD where
 node : Int
 nodes : Int
 x : WordD
 b : List UInt8
 k : Nat
 n : Nat
 st : McD
 com : Nat
 ap : Nat
 v : Option VoteD
 leads : Bool
 own : Nat
def rpKeep (R : RpD) (y : WordD) : Bool × RpD := if KpOk y R.b then (true, { R with x := y, b := R.b ++ frameL (recL y), k := R.b.length + (frameL (recL y)).length, n := R.n + 1 }) else (false, R)
def rpPromise (R : RpD) (term : Int) : Bool × RpD := if (R.x.t : Int) < term then rpKeep R ⟨term.toNat, R.x.h, R.x.log⟩ else (false, R)
def rpTake (R : RpD) (term : Int) (l : List EntryD) : Bool × RpD :=
 if AcOk R.x term l then (if ¬ accLong R.x term.toNat l ∧ term = R.x.t then (true, R) else rpKeep R (accW R.x term.toNat l)) else (false, R)
def rpDown (R : RpD) : RpD := { R with leads := false, v := none }
def en0 : EntryD := ⟨0, 0, 0, 0, 0, [], ⟨#[]⟩, 0, 0⟩
def answerM (tag code n : Int) : MsgD := ⟨2, en0, tag, code, n, 0, 0, [], 0, 0⟩
def prepareM (term : Int) : MsgD := ⟨3, en0, 0, 0, 0, term, 0, [], 0, 0⟩
def promiseM (term had : Int) (l : List EntryD) : MsgD := ⟨4, en0, 0, 0, 0, term, had, l, 0, 0⟩
def acceptM (term : Int) (l : List EntryD) (c : Int) : MsgD := ⟨5, en0, 0, 0, 0, term, 0, l, c, 0⟩
def acceptedM (term len : Int) : MsgD := ⟨6, en0, 0, 0, 0, term, 0, [], 0, len⟩
/-- To each other replica, up to the n-th one. -/
def toAll (node : Int) (m : MsgD) (n : Nat) : List SentD := (List.range n).flatMap fun (i : Nat) => if (i : Int) = node then [] else [⟨i, m⟩]
theorem toAll_succ (node : Int) (m : MsgD) (n : Nat) : toAll node m (n + 1) = toAll node m n ++ (if (n : Int) = node then [] else [⟨n, m⟩]) := by
 unfold toAll
 rw [List.range_succ, List.flatMap_append]
 simp
theorem toAll_len (node : Int) (m : MsgD) (n : Nat) : (toAll node m n).length ≤ n := by
 induction n with
 | zero => simp [toAll]
 | succ n ih => rw [toAll_succ, List.length_append]; split <;> simp <;> omega
def rpAll (R : RpD) (m : MsgD) : List SentD := toAll R.node m R.nodes.toNat
def rpAccepts (R : RpD) : List SentD := rpAll R (acceptM R.x.t R.x.log R.com)
/-- The next entry is applied. -/
noncomputable def rpStep (R : RpD) (e : EntryD) : RpD × List SentD :=
  ({ R with st := (applyM R.st (pk e.ag e.sh) e).2.2, com := R.com + 1, ap := R.ap + 1 },
   if R.leads = true ∧ R.own ≤ R.com then [⟨e.fr, answerM e.tag (applyM R.st (pk e.ag e.sh) e).1 (applyM R.st (pk e.ag e.sh) e).2.1⟩] else [])
noncomputable def rpSteps : List EntryD → RpD → RpD × List SentD
 | [], R => (R, [])
 | e :: l, R => ((rpSteps l (rpStep R e).1).1, (rpStep R e).2 ++ (rpSteps l (rpStep R e).1).2)
noncomputable def rpApply (R : RpD) (n : Int) : RpD × List SentD := rpSteps ((R.x.log.take n.toNat).drop R.com) R
noncomputable def rpCounted (R : RpD) (v : VoteD) (fr n : Int) : RpD × List SentD :=
 rpApply { R with v := some { v with acc := accS v fr n } } (medS (accS v fr n) v.nodes.toNat)
/-- The answers, and the row told to all. -/
noncomputable def rpBoth (R : RpD) (v : VoteD) : RpD × List SentD := ((rpCounted R v R.node R.x.log.length).1, (rpCounted R v R.node R.x.log.length).2 ++ rpAccepts (rpCounted R v R.node R.x.log.length).1)
noncomputable def rpWon (R : RpD) (v : VoteD) : RpD × List SentD :=
 if (rpTake R v.term v.best).1 = true then
  rpBoth { (rpTake R v.term v.best).2 with leads := true, own := (rpTake R v.term v.best).2.x.log.length, v := some v } v
 else (rpDown R, [])
noncomputable def rpLead (R : RpD) : RpD × List SentD :=
 let term := termS R.x.t R.node R.nodes
 if (rpPromise R term).1 = true then
  let R2 := rpDown (rpPromise R term).2
  let p := promiseS (newVote term R.nodes) R.node R2.x.h R2.x.log
  if p.1 = true then rpWon { R2 with v := some p.2 } p.2 else ({ R2 with v := some p.2 }, rpAll R2 (prepareM term))
 else (R, [])
def rpTick (R : RpD) : List SentD := if R.leads = true then rpAccepts R else []
def askE (e : EntryD) (fr : Int) : EntryD := { e with fr := fr }
noncomputable def rpAsk (R : RpD) (fr : Int) (e : EntryD) : RpD × List SentD :=
 match R.leads, R.v with
 | true, some v =>
  if R.x.log.length < 128 ∧ (rpTake R v.term (R.x.log ++ [askE e fr])).1 = true then
   rpBoth (rpTake R v.term (R.x.log ++ [askE e fr])).2 v
  else (R, [⟨fr, answerM e.tag 7 0⟩])
 | _, _ => (R, [⟨fr, answerM e.tag 6 0⟩])
def rpPrep (R : RpD) (fr term : Int) : RpD × List SentD :=
 if (rpPromise R term).1 = true then (rpDown (rpPromise R term).2, [⟨fr, promiseM term R.x.h R.x.log⟩]) else (R, [])
noncomputable def rpAcc (R : RpD) (fr : Int) (m : MsgD) : RpD × List SentD :=
 if (rpTake R m.term m.log).1 = true then
  let R1 := (rpTake R m.term m.log).2
  let R2 := if (R1.v.map (·.term)).getD m.term ≠ m.term then rpDown R1 else R1
  let R3 := (rpApply R2 m.commit).1
  (R3, [⟨fr, acceptedM m.term R3.x.log.length⟩])
 else (R, [])
noncomputable def rpRecv (R : RpD) (fr : Int) (m : MsgD) : RpD × List SentD :=
 if mrightS m ≠ 0 then (R, [])
 else if m.kd = 1 then rpAsk R fr m.en
 else if fr < 0 ∨ R.nodes ≤ fr ∨ fr = R.node then (R, [])
 else if m.kd = 3 then rpPrep R fr m.term
 else if m.kd = 4 then
  match R.v with
  | some v =>
   if v.term = m.term ∧ wonS v = false then
    let p := promiseS v fr m.had m.log
    if p.1 = true then rpWon { R with v := some p.2 } p.2 else ({ R with v := some p.2 }, [])
   else (R, [])
  | none => (R, [])
 else if m.kd = 5 then rpAcc R fr m
 else if m.kd = 6 then
  match R.leads, R.v with
  | true, some v => if v.term = m.term then rpCounted R v fr m.len else (R, [])
  | _, _ => (R, [])
 else (R, [])
/-- A replica on a disk. -/
def mc00 : McD := ⟨.map [], .map [], fun _ => none⟩
def rpNew (node nodes : Int) (b : List UInt8) : RpD := ⟨node, nodes, lastV word0 (scanS b).1, b.take (scanS b).2, (scanS b).2, (scanS b).1.length, mc00, 0, 0, none, false, 0⟩
end Go.Proofs.YtdaceeijifjpeaaGreatDoor.Vi
end
section
namespace Go.Proofs.YtdaceeijifjpeaaGreatDoor.Vi
open Go.RowKit Base Mem Tape Go.Shelf
/-- A replica's word; its row avoids blocks Z too. -/
def StZ (w : World) (s p : Nat) (Y Z : List Nat) (x : WordD) (d : Nat) (b : List UInt8) (k n : Nat) : Prop :=
 ∃ lv, Blk w s 115 #[.int .i64 x.t, .int .i64 x.h, lv, .pointer (some ⟨p, 0, none⟩)] ∧ Ens w ((s :: p :: Y) ++ Z) lv x.log ∧ LgAt w p Y d b k n ∧ s ∉ p :: Y ∧ WOk x
section
variable {w w' : World} {s p : Nat} {Y Z : List Nat} {x : WordD} {d k n : Nat} {b : List UInt8}
theorem StZ.st (h : StZ w s p Y Z x d b k n) : StAt w s p Y x d b k n := by
 obtain ⟨lv, hb, he, hr⟩ := h
 exact ⟨lv, hb, he.avoid (fun g hg => .inl (List.mem_append_left _ hg)), hr⟩
theorem StZ.old (h : StZ w s p Y Z x d b k n) : ∀ g ∈ s :: p :: Y, g < w.heap.size := h.st.old
theorem StZ.ok (h : StZ w s p Y Z x d b k n) : WOk x := h.st.ok
theorem StZ.keepZ {M : List Nat} (h : StZ w s p Y Z x d b k n) (hk : Keeps M w w') (hM : ∀ g ∈ M, g ∈ Z ∨ w.heap.size ≤ g) (hn : ∀ g ∈ s :: p :: Y, g ∉ M) : StZ w' s p Y Z x d b k n := by
 obtain ⟨lv, hb, he, hl, hs, ho'⟩ := h
 exact ⟨lv, hk.blk hb (hn s (by simp)), he.keep hk (fun g hg => (hM g hg).imp (fun h => List.mem_append_right _ h) id), hl.keep hk (fun g hg => hn g (List.mem_cons_of_mem _ hg)), hs, ho'⟩
theorem StZ.keep0 (h : StZ w s p Y Z x d b k n) (hk : Keeps [] w w') : StZ w' s p Y Z x d b k n := h.keepZ hk (by simp) (by simp)
theorem StZ.more {Z' : List Nat} (h : StZ w s p Y Z x d b k n) (hZ : ∀ g ∈ Z', g ∈ Z ∨ w.heap.size ≤ g) : StZ w s p Y Z' x d b k n := by
 obtain ⟨lv, hb, he, hr⟩ := h
 exact ⟨lv, hb, he.avoid (fun g hg => by
  rcases List.mem_append.1 hg with h | h
  ·exact .inl (List.mem_append_left _ h)
  ·exact (hZ g h).imp (fun h => List.mem_append_right _ h) id), hr⟩
theorem StZ.lv (h : StZ w s p Y Z x d b k n) : ∃ A c, Blk w s 115 #[.int .i64 x.t, .int .i64 x.h, .slice A x.log.length c, .pointer (some ⟨p, 0, none⟩)] ∧ Ens w ((s :: p :: Y) ++ Z) (.slice A x.log.length c) x.log := by
 obtain ⟨lv, hb, he, _⟩ := h
 obtain ⟨A, c, rfl, _⟩ := he.len
 exact ⟨A, c, hb, he⟩
end
def KpPostZ (s p : Nat) (Y Z : List Nat) (y : WordD) (d : Nat) (b : List UInt8) (n : Nat) (w : World) (e : Ending) (w' : World) : Prop :=
 if KpOk y b then e = .returned (.bool true) ∧ ∃ Y', StZ w' s p Y' Z y d (b ++ frameL (recL y)) (b.length + (frameL (recL y)).length) (n + 1) ∧ Grows Y w Y' ∧ Keeps (s :: p :: Y) w w'
 else e = .returned (.bool false) ∧ Keeps [] w w'
set_option maxRecDepth 100000 in
set_option maxHeartbeats 1000000 in
theorem vkeep_z (s p : Nat) (Y Z : List Nat) (x y : WordD) (d k n : Nat) (b : List UInt8) (w : World) (h : StZ w s p Y Z x d b k n) (lv : Value) (he : Ens w ((s :: p :: Y) ++ Z) lv y.log) (hy : WOk y) (m : Int) (hm : w.cell? ⟨0, 0, none⟩ = some (.int .i64 m)) :
    Calls Tryz.prog 67 #[.pointer (some ⟨s, 0, none⟩), .agg #[.int .i64 y.t, .int .i64 y.h, lv]] w fun e w' => KpPostZ s p Y Z y d b n w e w' := by
  have hw0 : 0 < w.heap.size := by
    have := World.block_lt_of_cell? w _ hm
    simpa using this
  have hkeepm : Hid (∀ W, Keeps [] w W → W.cell? ⟨0, 0, none⟩ = some (.int .i64 m)) := fun W hb => (hb.cell (p := ⟨0, 0, none⟩) hw0 (by simp)).trans hm
  obtain ⟨Al, cl, rfl, _⟩ := he.len
  have H := Lib.hid h; have HE := Lib.hid he; have HY := Lib.hid hy
  have hut := Lib.uvarint_length64 (x := y.t) (by have := hy.1; omega)
  have huh := Lib.uvarint_length64 (x := y.h) (by have := hy.2.1; omega)
  have wt : IntKind.u64.wrap (y.t : Int) = (y.t : Int) := by rw [IntKind.wrap_u64]; have := hy.1; omega
  have wh : IntKind.u64.wrap (y.h : Int) = (y.h : Int) := by rw [IntKind.wrap_u64]; have := hy.2.1; omega
  obtain ⟨w1, hw1⟩ : ∃ w1, w1 = w.alloc (.cells #[.int .i64 y.t, .int .i64 y.h, .slice Al y.log.length cl] 113) := ⟨_, rfl⟩
  have hB1 : Blk w1 w.heap.size 113 #[.int .i64 y.t, .int .i64 y.h, .slice Al y.log.length cl] := by rw [hw1]; exact Blk.new w _ _
  have hk1 : Keeps [] w w1 := by rw [hw1]; exact (Keeps.refl _ _).alloc _
  have HB1 := Lib.hid hB1; have Hk1 := Lib.hid hk1
  have HP1 : Hid (∀ W, Calls Tryz.prog 111 #[.slice none 0 0, .int .u64 y.t] W fun e w' => BsPost ([] ++ Lib.uvarint y.t) W e w') := fun W => put_any _ [] y.t W (Bs.nil _ _) (by have := hy.1; omega) (by simp)
  obtain ⟨L1, hL1⟩ : ∃ L1, L1 = [] ++ Lib.uvarint y.t := ⟨_, rfl⟩
  obtain ⟨L2, hL2⟩ : ∃ L2, L2 = L1 ++ Lib.uvarint y.h := ⟨_, rfl⟩
  have hl1 : L1.length ≤ 10 := by rw [hL1]; simpa using hut
  have hl2 : L2.length ≤ 20 := by rw [hL2, List.length_append]; omega
  have HP2 : Hid (∀ W A, Bs W [] (.slice A L1.length L1.length) L1 → Calls Tryz.prog 111 #[.slice A L1.length L1.length, .int .u64 y.h] W fun e w' => BsPost L2 W e w') := fun W A hv => by
    rw [hL2]; exact put_any _ L1 y.h W hv (by have := hy.2.1; omega) (by omega)
  have HP3 : Hid (∀ W A, Keeps [] w W → Bs W [] (.slice A L2.length L2.length) L2 → Calls Tryz.prog 110 #[.slice A L2.length L2.length, .slice Al y.log.length cl] W fun e w' => BsPost (recL y) W e w') := fun W A hk hv => by
    have := mput_any _ L2 _ y.log m W hv ((he.avoid (M' := []) (by simp)).keep hk (by simp)) hy.2.2.2 hy.2.2.1 (by omega) (hkeepm.out W hk)
    have e : L2 ++ putLog y.log = recL y := by rw [hL2, hL1]; rfl
    rwa [e] at this
  rw [← hL1] at HP1
  obtain ⟨lx, cx, hbx, _⟩ := h.lv
  obtain ⟨hin, hw1s, hsY⟩ : Hid (LgAt w p Y d b k n) ∧ w.heap.size < w1.heap.size ∧ Hid (s ∉ p :: Y) := by
    obtain ⟨_, _, _, hl, hs, _⟩ := h
    exact ⟨hl, HB1.out.lt, hs⟩
  have hsz := h.old s (by simp)
  have HBx := Lib.hid hbx
  have HT : Hid (∀ e W, KpOk y b → (e = .returned (.bool true) ∧ ∃ Y', StZ W s p Y' Z y d (b ++ frameL (recL y)) (b.length + (frameL (recL y)).length) (n + 1) ∧ Grows Y w Y' ∧ Keeps (s :: p :: Y) w W) → KpPostZ s p Y Z y d b n w e W) := fun e W h1 h2 => by unfold KpPostZ; rw [if_pos h1]; exact h2
  have HF : Hid (∀ e W, ¬ KpOk y b → (e = .returned (.bool false) ∧ Keeps [] w W) → KpPostZ s p Y Z y d b n w e W) := fun e W h1 h2 => by unfold KpPostZ; rw [if_neg h1]; exact h2
  have HK : Hid (KpOk y b ↔ (recL y).length ≤ 65536 ∧ b.length + (frameL (recL y)).length ≤ 1048576) := (Iff.rfl : _ ↔ _)
  generalize recL y = R at *
  clear h he hy hm hk1 hB1 hL1 hL2 hbx
  have HC : Hid (∀ W, Keeps [] w1 W → W.cell? ⟨w.heap.size, 0, none⟩ = some (.int .i64 y.t) ∧ W.cell? ⟨w.heap.size, 1, none⟩ = some (.int .i64 y.h) ∧ W.cell? ⟨w.heap.size, 2, none⟩ = some (.slice Al y.log.length cl)) := fun W hk => by
    have hb := hk.blk HB1.out (by simp)
    exact ⟨hb.cell 0, hb.cell 1, hb.cell 2⟩
  have hk1 := Lib.hid (Keeps.refl [] w1)
  go_enter Tryz.func67, Tryz.ntmps67
  go_wp2_with fail
  rw [← hw1]
  clear hw1
  go_region_held3 (fun W => W.cell? ⟨w.heap.size, 0, none⟩ = some (.int .i64 y.t) ∧ W.cell? ⟨w.heap.size, 1, none⟩ = some (.int .i64 y.h) ∧ W.cell? ⟨w.heap.size, 2, none⟩ = some (.slice Al y.log.length cl)) (first | exact HC.out _ hk4.out | exact HC.out _ hk4.out.drew | exact HC.out _ hk3.out | exact HC.out _ hk3.out.drew | exact HC.out _ hk2.out | exact HC.out _ hk2.out.drew | exact HC.out _ hk1.out | exact HC.out _ hk1.out.drew) (first
    | (go_at_call 111
       with_reducible refine (HP1.out _).mono ?_
       rintro e w2 ⟨A2, rfl, hS, hb⟩
       have HS2 := Lib.hid (hS [] (by simp))
       have hk2 := Lib.hid (hk1.out.drew.trans (Keeps.of_below (M := []) hb) (by simp))
       clear hS hb)
    | (go_at_call 111
       with_reducible refine (HP2.out _ _ HS2.out).mono ?_
       rintro e w3 ⟨A3, rfl, hS, hb⟩
       have HS3 := Lib.hid (hS [] (by simp))
       have hk3 := Lib.hid (hk2.out.trans (Keeps.of_below (M := []) hb) (by simp))
       clear hS hb)
    | (go_at_call 110
       with_reducible refine (HP3.out _ _ (Hk1.out.trans hk3.out (by simp)) HS3.out).mono ?_
       rintro e w4 ⟨A4, rfl, hS, hb⟩
       have HS4 := Lib.hid (hS [] (by simp))
       have hk4 := Lib.hid (hk3.out.trans (Keeps.of_below (M := []) hb) (by simp))
       clear hS hb))
  have HK4 : Hid (Keeps [] w w4) := Hk1.out.trans hk4.out (by simp)
  have HB4 := Lib.hid (hk4.out.blk HB1.out (by simp))
  have HL4 := Lib.hid (hin.out.keep0 HK4.out)
  have HX4 := Lib.hid (HK4.out.blk HBx.out (by simp))
  obtain ⟨x0, x1, x2, x3, hsz4⟩ := blk4 HX4.out
  clear hk1 hk2 hk3 hk4 Hk1 HC HP1 HP2 HP3 HB1 HBx hkeepm x0 x1 x2
  go_wp2_with fail
  refine (wwrite_any p Y d k n b w4 HL4.out _ R HS4.out).mono ?_
  intro e w5 hpost
  by_cases hr : KpOk y b
  · have hr2 := HK.out.1 hr
    unfold WaPost at hpost
    rw [if_pos hr2] at hpost
    obtain ⟨rfl, Y', hL5, hG5, hK5⟩ := hpost
    simp only [if_true] at hL5
    have hB5 := hK5.blk HX4.out hsY.out
    have hg5 : w.heap.size ∉ p :: Y := fun hm => by have := hin.out.old _ hm; omega
    have hW5 := hK5.blk HB4.out hg5
    obtain ⟨x0, x1, x2, x3, hsz5⟩ := blk4 hB5
    have f0 := hB5.frozen 0; have f1 := hB5.frozen 1; have f2 := hB5.frozen 2
    have q0 : w5.cell? ⟨w.heap.size, 0, none⟩ = some (.int .i64 y.t) := hW5.cell 0
    have q1 : w5.cell? ⟨w.heap.size, 1, none⟩ = some (.int .i64 y.h) := hW5.cell 1
    have q2 : w5.cell? ⟨w.heap.size, 2, none⟩ = some (.slice Al y.log.length cl) := hW5.cell 2
    have hne : w.heap.size ≠ s := by omega
    have hR : Hid (KpPostZ s p Y Z y d b n w (.returned (.bool true)) (((w5.setCell ⟨s, 0, none⟩ (.int .i64 y.t)).setCell ⟨s, 1, none⟩ (.int .i64 y.h)).setCell ⟨s, 2, none⟩ (.slice Al y.log.length cl))) := by
      refine HT.out _ _ hr ⟨rfl, Y', ?_, ?_, ?_⟩
      · have hks : Keeps [s] w5 (((w5.setCell ⟨s, 0, none⟩ (.int .i64 y.t)).setCell ⟨s, 1, none⟩ (.int .i64 y.h)).setCell ⟨s, 2, none⟩ (.slice Al y.log.length cl)) := (((Keeps.refl _ _).setCell (by simp) _).setCell (by simp) _).setCell (by simp) _
        have hsY' : s ∉ p :: Y' := fun hm => by
          rcases List.mem_cons.1 hm with rfl | hm
          · exact hsY.out (by simp)
          · rcases hG5 s hm with h | h
            · exact hsY.out (by simp [h])
            · omega
        have hall : Keeps (s :: p :: Y) w (((w5.setCell ⟨s, 0, none⟩ (.int .i64 y.t)).setCell ⟨s, 1, none⟩ (.int .i64 y.h)).setCell ⟨s, 2, none⟩ (.slice Al y.log.length cl)) := by
          exact ((HK4.out.mono (M' := s :: p :: Y) (by simp)).trans hK5 (fun g hg => .inl (List.mem_cons_of_mem _ hg))).trans hks (fun g hg => by simp at hg; subst hg; exact .inl (by simp))
        have he6 := ((HE.out.avoid (M' := ((s :: p :: Y) ++ Z) ++ Y') (fun g hg => by
          rcases List.mem_append.1 hg with h | h
          · exact .inl h
          · rcases hG5 g h with h' | h'
            · exact .inl (List.mem_append_left _ (by simp [h']))
            · exact .inr (Nat.le_trans HK4.out.size h'))).keep hall (fun g hg => .inl (List.mem_append_left _ (List.mem_append_left _ hg)))).avoid (M' := (s :: p :: Y') ++ Z) (fun g hg => by
          left
          rcases List.mem_append.1 hg with h | h
          · rcases List.mem_cons.1 h with h | h
            · exact List.mem_append_left _ (List.mem_append_left _ (by simp [h]))
            · rcases List.mem_cons.1 h with h | h
              · exact List.mem_append_left _ (List.mem_append_left _ (by simp [h]))
              · exact List.mem_append_right _ h
          · exact List.mem_append_left _ (List.mem_append_right _ h))
        exact ⟨.slice Al y.log.length cl, by simpa using ((hB5.set_ 0 (.int .i64 y.t)).set_ 1 (.int .i64 y.h)).set_ 2 (.slice Al y.log.length cl), he6, hL5.keep hks (fun g hg hm => by simp at hm; subst hm; exact hsY' hg), hsY', HY.out⟩
      · intro g hg
        rcases hG5 g hg with h | h
        · exact .inl h
        · exact .inr (Nat.le_trans HK4.out.size h)
      · have hks : Keeps [s] w5 (((w5.setCell ⟨s, 0, none⟩ (.int .i64 y.t)).setCell ⟨s, 1, none⟩ (.int .i64 y.h)).setCell ⟨s, 2, none⟩ (.slice Al y.log.length cl)) := (((Keeps.refl _ _).setCell (by simp) _).setCell (by simp) _).setCell (by simp) _
        exact ((HK4.out.mono (M' := s :: p :: Y) (by simp)).trans hK5 (fun g hg => .inl (List.mem_cons_of_mem _ hg))).trans hks (fun g hg => by simp at hg; subst hg; exact .inl (by simp))
    clear hL5 hG5 hK5 hB5 hW5
    go_wp2_with fail
    go_ret
    exact hR.out
  · unfold WaPost at hpost
    rw [if_neg (fun h => hr (HK.out.2 h))] at hpost
    obtain ⟨z, rfl, hz, hk⟩ := hpost
    have hR : Hid (KpPostZ s p Y Z y d b n w (.returned (.bool false)) w5) := HF.out _ _ hr ⟨rfl, HK4.out.trans hk (by simp)⟩
    have hz0 : (z != 0) = true := by simpa using hz
    clear hk
    go_wp2_with fail
    go_ret
    exact hR.out
def PmPostZ (s p : Nat) (Y Z : List Nat) (x : WordD) (d : Nat) (b : List UInt8) (n : Nat) (term : Int) (w : World) (e : Ending) (w' : World) : Prop :=
 if (x.t : Int) < term then KpPostZ s p Y Z ⟨term.toNat, x.h, x.log⟩ d b n w e w' else e = .returned (.bool false) ∧ Keeps [] w w'
theorem KpPostZ.drew {s p : Nat} {Y Z : List Nat} {y : WordD} {d : Nat} {b : List UInt8} {n : Nat} {w w0 w' : World} {e : Ending} (h : KpPostZ s p Y Z y d b n w0 e w') (hk : Keeps [] w w0) : KpPostZ s p Y Z y d b n w e w' := by
 unfold KpPostZ at h ⊢
 split at h
 ·rename_i hc
  rw [if_pos hc]
  obtain ⟨he, Y', h1, h2, h3⟩ := h
  refine ⟨he, Y', h1, fun g hg => (h2 g hg).imp id (Nat.le_trans hk.size), (hk.mono (M' := s :: p :: Y) (by simp)).trans h3 (fun g hg => .inl hg)⟩
 ·rename_i hc
  rw [if_neg hc]
  exact ⟨h.1, hk.trans h.2 (by simp)⟩
theorem KpPostZ.val {s p : Nat} {Y Z : List Nat} {y : WordD} {d : Nat} {b : List UInt8} {n : Nat} {w w' : World} {e : Ending} (h : KpPostZ s p Y Z y d b n w e w') : e = .returned (.bool (decide (KpOk y b))) := by
 unfold KpPostZ at h
 split at h
 ·rename_i hc; rw [decide_eq_true hc]; exact h.1
 ·rename_i hc; rw [decide_eq_false hc]; exact h.1
set_option maxRecDepth 100000 in
theorem vpromise_z (s p : Nat) (Y Z : List Nat) (x : WordD) (d k n : Nat) (b : List UInt8) (w : World) (h : StZ w s p Y Z x d b k n) (term : Int) (ht : term ≤ 9223372036854775807) (m : Int) (hm : w.cell? ⟨0, 0, none⟩ = some (.int .i64 m)) :
  Calls Tryz.prog 30 #[.pointer (some ⟨s, 0, none⟩), .int .i64 term] w fun e w' => PmPostZ s p Y Z x d b n term w e w' := by
 have hw0 : 0 < w.heap.size := by
  have := World.block_lt_of_cell? w _ hm
  simpa using this
 obtain ⟨A, c, hb, he⟩ := h.lv
 obtain ⟨c0, c1, c2, c3, hlt⟩ := blk4 hb
 have hok := h.ok
 by_cases hc : (x.t : Int) < term
 ·have HP : Hid (∀ e W, KpPostZ s p Y Z ⟨term.toNat, x.h, x.log⟩ d b n w e W → PmPostZ s p Y Z x d b n term w e W) := fun e W h => by unfold PmPostZ; rw [if_pos hc]; exact h
  obtain ⟨t, rfl⟩ : ∃ t : Nat, term = t := ⟨term.toNat, by omega⟩
  have hkp : Hid (∀ W, Keeps [] w W → Calls Tryz.prog 67 #[.pointer (some ⟨s, 0, none⟩), .agg #[.int .i64 t, .int .i64 x.h, .slice A x.log.length c]] W fun e w' => PmPostZ s p Y Z x d b n t w e w') := fun W hk => by
   refine (vkeep_z s p Y Z x ⟨t, x.h, x.log⟩ d k n b W (h.keep0 hk) _ (he.keep hk (by simp)) ⟨by simp only []; omega, hok.2⟩ m ((hk.cell (p := ⟨0, 0, none⟩) hw0 (by simp)).trans hm)).mono ?_
   intro e W' hq
   exact HP.out e W' (by simpa using hq.drew hk)
  have hv : Hid (∀ e W, PmPostZ s p Y Z x d b n t w e W → ∃ v, e = .returned (.bool v)) := fun e W h => by
   unfold PmPostZ at h
   rw [if_pos hc] at h
   exact ⟨_, h.val⟩
  clear h hb he hm
  have hd : decide ((x.t : Int) < (t : Int)) = true := decide_eq_true hc
  go_enter Tryz.func30, Tryz.ntmps30
  go_wp2_with fail
  go_still_tail 21, (by kernel_rfl)
  change wpList _ _ _ _ _ w.drew
  go_wp2_with fail
  refine (hkp.out _ ((Keeps.refl _ _).drew)).mono ?_
  intro e w1 hq
  obtain ⟨v, rfl⟩ := hv.out _ _ hq
  have Hq := Lib.hid hq
  clear hq
  go_wp2_with fail
  go_ret
  exact Hq.out
 ·have HP : Hid (∀ q, PmPostZ s p Y Z x d b n term w (.returned (.bool false)) (w.drewN q)) := fun q => by unfold PmPostZ; rw [if_neg hc]; exact ⟨rfl, (Keeps.refl _ _).drewN q⟩
  have hd : decide ((x.t : Int) < term) = false := decide_eq_false hc
  clear h hb he hm
  go_enter Tryz.func30, Tryz.ntmps30
  go_wp2_with fail
  go_quiet (fail)
  go_wp2
  go_ret
  exact HP.out nq
def AcPostZ (s p : Nat) (Y Z : List Nat) (x : WordD) (d : Nat) (b : List UInt8) (n : Nat) (term : Int) (l : List EntryD) (w : World) (e : Ending) (w' : World) : Prop :=
 if AcOk x term l then
  if ¬ accLong x term.toNat l ∧ term = x.t then e = .returned (.bool true) ∧ Keeps [] w w'
  else KpPostZ s p Y Z (accW x term.toNat l) d b n w e w'
 else e = .returned (.bool false) ∧ Keeps [] w w'
set_option maxRecDepth 100000 in
set_option maxHeartbeats 1000000 in
theorem vaccept_z (s p : Nat) (Y Z : List Nat) (x : WordD) (d k n : Nat) (b : List UInt8) (w : World) (h : StZ w s p Y Z x d b k n) (term : Int) (ht : term ≤ 9223372036854775807) (lv : Value) (l : List EntryD) (hl : Ens w [] lv l) (hs : ∀ e ∈ l, Short e ∧ Wf e) (hZ : ∀ g ∈ Z, g < w.heap.size) (m : Int) (hm : w.cell? ⟨0, 0, none⟩ = some (.int .i64 m)) :
  Calls Tryz.prog 71 #[.pointer (some ⟨s, 0, none⟩), .int .i64 term, lv] w fun e w' => AcPostZ s p Y Z x d b n term l w e w' := by
 have hw0 : 0 < w.heap.size := by
  have := World.block_lt_of_cell? w _ hm
  simpa using this
 have hkeepm : Hid (∀ W, Keeps [] w W → W.cell? ⟨0, 0, none⟩ = some (.int .i64 m)) := fun W hb => (hb.cell (p := ⟨0, 0, none⟩) hw0 (by simp)).trans hm
 obtain ⟨A, c, hb, he⟩ := h.lv
 obtain ⟨c0, c1, c2, c3, hlt⟩ := blk4 hb
 have hok := h.ok
 have HZ := Lib.hid hZ; have H := Lib.hid h; have HE := Lib.hid he; have HL := Lib.hid hl; have HS := Lib.hid hs; have HB := Lib.hid hb
 obtain ⟨Al, cl, rfl, hcl⟩ := hl.len
 have hF : Hid (∀ W, ¬ AcOk x term l → Keeps [] w W → AcPostZ s p Y Z x d b n term l w (.returned (.bool false)) W) := fun W h hk => by unfold AcPostZ; rw [if_neg h]; exact ⟨rfl, hk⟩
 clear hZ
 by_cases h1 : term < (x.t : Int)
 ·have hp := hF.out w (fun h => by have := h.1; omega) (Keeps.refl _ _)
  have Hp := Lib.hid hp
  have hd : decide (term < (x.t : Int)) = true := decide_eq_true h1
  clear h hb he hm hl hs hp hF
  go_enter Tryz.func71, Tryz.ntmps71
  go_wp2_with fail
  go_ret
  exact Hp.out
 have hd1 : decide (term < (x.t : Int)) = false := decide_eq_false h1
 by_cases h2 : term < 1
 ·have hp := hF.out w (fun h => by have := h.2.1; omega) (Keeps.refl _ _)
  have Hp := Lib.hid hp
  have hd : decide (term < 1) = true := decide_eq_true h2
  clear h hb he hm hl hs hp hF
  go_enter Tryz.func71, Tryz.ntmps71
  go_wp2_with fail
  go_ret
  exact Hp.out
 have hd2 : decide (term < 1) = false := decide_eq_false h2
 by_cases h3 : 128 < l.length
 ·have hp := hF.out w (fun h => by have := h.2.2.1; omega) (Keeps.refl _ _)
  have Hp := Lib.hid hp
  have hd : decide ((128 : Int) < (l.length : Int)) = true := decide_eq_true (by omega)
  clear h hb he hm hl hs hp hF
  go_enter Tryz.func71, Tryz.ntmps71
  go_wp2_with fail
  go_ret
  exact Hp.out
 have hd3 : decide ((128 : Int) < (l.length : Int)) = false := decide_eq_false (by omega)
 clear h hb he hm hl hs
 obtain ⟨t, rfl⟩ : ∃ t : Nat, term = t := ⟨term.toNat, by omega⟩
 go_enter Tryz.func71, Tryz.ntmps71
 go_wp2_with fail
 go_loopw [29] (fun i wr => ∃ j : Nat, i = .int .i64 j ∧ j ≤ l.length ∧ Hid (∀ e ∈ l.take j, rightE e = 0) ∧ Hid (Keeps [] w wr)) (fun i _ => l.length - (intOf i).toNat)
 case atStart => exact ⟨0, rfl, by omega, (show ∀ e ∈ l.take 0, rightE e = 0 from by simp), Keeps.refl _ _⟩
 case round =>
  obtain ⟨j, rfl, hj, Hr, Hk⟩ := hrel
  by_cases hjl : j < l.length
  ·have hji : (j : Int) < (l.length : Int) := by omega
   obtain ⟨gl, ol, _, dl, e1, _, _, hDl, hcl⟩ := ens_at (HL.out.keep Hk.out (by simp)) hjl
   injection e1 with e1 _ e9
   subst e1
   clear e9
   have hmem := List.getElem_mem hjl
   have hre := Lib.hid (fun W (hk : Keeps [] wr W) => eright_any l[j] dl m W (hDl.keep hk (by simp)) (HS.out _ hmem).1 (hkeepm.out W (Hk.out.trans hk (by simp))))
   obtain ⟨Dl, nl, rfl, _⟩ := hDl.len
   have a0 := hcl 0 _ rfl; have a1 := hcl 1 _ rfl; have a2 := hcl 2 _ rfl; have a3 := hcl 3 _ rfl; have a4 := hcl 4 _ rfl; have a5 := hcl 5 _ rfl; have a6 := hcl 6 _ rfl; have a7 := hcl 7 _ rfl; have a8 := hcl 8 _ rfl
   rw [Nat.add_zero] at a0
   have HR2 : Hid (rightE l[j] = 0 → ∀ e ∈ l.take (j + 1), rightE e = 0) := fun h0 e he => by
    rw [List.take_succ_eq_append_getElem hjl] at he
    rcases List.mem_append.1 he with h | h
    ·exact Hr.out e h
    ·simp at h; subst h; exact h0
   have HR3 : Hid (∀ W, rightE l[j] ≠ 0 → Keeps [] w W → AcPostZ s p Y Z x d b n t l w (.returned (.bool false)) W) := fun W h0 hk => hF.out W (fun h => h0 (h.2.2.2 _ hmem)) hk
   clear hcl hDl c0 c1 c2 c3 hmem
   generalize l[j] = ee at *
   generalize rightE ee = rr at *
   obtain ⟨kind', ag', sh', seq', ep', ds', ser', fr', etg'⟩ := ee
   simp only [eCell] at hre
   simp only [] at a0 a1 a2 a3 a4 a5 a6 a7 a8
   have Hre := Lib.hid (hre.out (wr.alloc (.cells #[.int .i64 kind', .int .i64 ag', .int .i64 sh', .int .i64 seq', .int .i64 ep', .slice Dl ds'.length nl, .string ser', .int .i64 fr', .int .i64 etg'] 33)) ((Keeps.refl _ _).alloc _))
   have Hka := Lib.hid (Hk.out.alloc (.cells #[.int .i64 kind', .int .i64 ag', .int .i64 sh', .int .i64 seq', .int .i64 ep', .slice Dl ds'.length nl, .string ser', .int .i64 fr', .int .i64 etg'] 33))
   clear hre
   go_wp2_with fail
   refine Hre.out.mono ?_
   rintro e w4 ⟨rfl, hb4⟩
   have Hk4 := Lib.hid (Hka.out.trans (Keeps.of_below (M := []) hb4) (by simp))
   clear hb4 Hre Hka a0 a1 a2 a3 a4 a5 a6 a7 a8
   by_cases hrr : rr = 0
   ·have HR4 := Lib.hid (HR2.out hrr)
    have hrn : ((rr : Int) != 0) = false := by simp [hrr]
    clear HR2 hrr
    go_wp2
    go_roundw
    case rel => exact ⟨j + 1, by go_num, by omega, HR4, Hk4⟩
    case measure => simp [intOf] <;> omega
   ·have hp := Lib.hid (HR3.out w4 hrr Hk4.out)
    have hrn : ((rr : Int) != 0) = true := by simpa using hrr
    clear HR2 HR3 hrr
    go_wp2
    go_ret
    exact hp.out
  ·obtain rfl : j = l.length := by omega
   have hA : AcOk x t l := ⟨by omega, by omega, by omega, fun e he => Hr.out e (by rw [List.take_length]; exact he)⟩
   have hX := Hk.out.blk HB.out (by simp)
   obtain ⟨x0, x1, x2, x3, hxl⟩ := blk4 hX
   have hkp : Hid (∀ W y lv, Keeps [] w W → Ens W ((s :: p :: Y) ++ Z) lv y.log → WOk y → Calls Tryz.prog 67 #[.pointer (some ⟨s, 0, none⟩), .agg #[.int .i64 y.t, .int .i64 y.h, lv]] W fun e w' => KpPostZ s p Y Z y d b n w e w') := fun W y lv hk hE hy =>
    (vkeep_z s p Y Z x y d k n b W (H.out.keep0 hk) lv hE hy m (hkeepm.out W hk)).mono fun e W' hq => hq.drew hk
   have hcop : Hid (∀ W, Keeps [] wr W → Calls Tryz.prog 69 #[.slice Al l.length cl] W fun r w' => ∃ A, r = .returned (.slice A l.length l.length) ∧ (∀ M', (∀ g ∈ M', g < W.heap.size) → Ens w' M' (.slice A l.length l.length) l) ∧ Below W.heap.size W w') := fun W hk =>
    copies_any [] _ l W ((HL.out.keep Hk.out (by simp)).keep hk (by simp)) (by omega) (fun e he => by have := eok_ds8 ⟨hA.2.2.2 e he, HS.out e he⟩; omega)
   have hEl := Lib.hid ((HE.out.keep Hk.out (by simp)))
   have HP : Hid (∀ e W, (accLong x t l → KpPostZ s p Y Z ⟨t, t, l⟩ d b n w e W) → (¬ accLong x t l → ¬ (t : Int) = x.t → KpPostZ s p Y Z ⟨t, x.h, x.log⟩ d b n w e W) → (¬ accLong x t l → (t : Int) = x.t → e = .returned (.bool true) ∧ Keeps [] w W) → AcPostZ s p Y Z x d b n t l w e W) := fun e W h1 h2 h3 => by
    unfold AcPostZ
    rw [if_pos hA]
    by_cases hlo : accLong x t l
    ·rw [if_neg (by simp [hlo])]
     unfold accW
     rw [Int.toNat_natCast, if_pos hlo]
     exact h1 hlo
    ·by_cases hte : (t : Int) = x.t
     ·rw [if_pos (by rw [Int.toNat_natCast]; exact ⟨hlo, hte⟩)]
      exact h3 hlo hte
     ·rw [if_neg (by intro h; exact hte h.2)]
      unfold accW
      rw [Int.toNat_natCast, if_neg hlo]
      exact h2 hlo hte
   have hyl : WOk ⟨t, t, l⟩ := ⟨by simp only []; omega, by simp only []; omega, by simp only []; omega, fun e he => ⟨hA.2.2.2 e he, HS.out e he⟩⟩
   have hyx : WOk ⟨t, x.h, x.log⟩ := ⟨by simp only []; omega, hok.2⟩
   have Hyl := Lib.hid hyl; have Hyx := Lib.hid hyx
   clear hX hyl hyx hA c0 c1 c2 c3
   go_wp2_with fail
   go_region
   all_goals
    obtain ⟨w5, hw5⟩ : ∃ w5, w5 = (wr.alloc (.cells #[.int .i64 t, .int .i64 x.h, .slice A x.log.length c] 113)).drew := ⟨_, rfl⟩
    have hk5 : Keeps [] wr w5 := by rw [hw5]; exact ((Keeps.refl _ _).alloc _).drew
    have hB5 : Blk w5 wr.heap.size 113 #[.int .i64 t, .int .i64 x.h, .slice A x.log.length c] := by rw [hw5]; exact Blk.new wr _ _
    rw [← hw5]
    clear hw5
    have y0 : w5.cell? ⟨s, 0, none⟩ = some (.int .i64 x.t) := (hk5.cell (p := ⟨s, 0, none⟩) hxl (by simp)).trans x0
    have y1 : w5.cell? ⟨s, 1, none⟩ = some (.int .i64 x.h) := (hk5.cell (p := ⟨s, 1, none⟩) hxl (by simp)).trans x1
    have y2 : w5.cell? ⟨s, 2, none⟩ = some (.slice A x.log.length c) := (hk5.cell (p := ⟨s, 2, none⟩) hxl (by simp)).trans x2
    have hs5 : s < w5.heap.size := Nat.lt_of_lt_of_le hxl hk5.size
    obtain ⟨g9, Hg9⟩ : ∃ g9, Hid (wr.heap.size = g9) := ⟨_, rfl⟩
    have hg9 : s < g9 ∧ w.heap.size ≤ g9 := by have := Hk.out.size; have := Hg9.out; omega
    obtain ⟨hg91, hg92⟩ := hg9
    rw [Hg9.out] at hB5 ⊢
    have Hk5 := Lib.hid hk5; have HB5 := Lib.hid hB5
    have Hk5w := Lib.hid (Hk.out.trans hk5 (by simp))
    clear hk5 hB5 x0 x1 x2 x3
    by_cases h4 : x.h < t
    ·have hd4 : decide ((x.h : Int) < (t : Int)) = true := decide_eq_true (by omega)
     have hn4 : decide (x.h < t) = true := decide_eq_true h4
     have hlo : accLong x t l := Or.inl h4
     have Hlo := Lib.hid hlo
     clear hlo h4
     go_wp2_with fail
     refine (hcop.out w5 Hk5.out).mono ?_
     rintro e w6 ⟨A6, rfl, hE6, hb6⟩
     have hk6 : Keeps [] w5 w6 := Keeps.of_below (M := []) hb6
     have hB6 := hk6.blk HB5.out (by simp)
     have f1 := hB6.frozen 1; have f2 := hB6.frozen 2
     have r0 := hB6.cell 0; have r1 := hB6.cell 1; have r2 := hB6.cell 2
     simp only [List.getElem?_toArray, List.getElem?_cons_succ, List.getElem?_cons_zero] at r0 r1 r2
     obtain ⟨w7, hw7⟩ : ∃ w7, w7 = (w6.setCell ⟨g9, 1, none⟩ (.int .i64 t)).setCell ⟨g9, 2, none⟩ (.slice A6 l.length l.length) := ⟨_, rfl⟩
     have hk7 : Keeps [g9] w6 w7 := by rw [hw7]; exact ((Keeps.refl _ _).setCell (by simp) _).setCell (by simp) _
     have hB : Blk w7 g9 113 #[.int .i64 t, .int .i64 t, .slice A6 l.length l.length] := by
      rw [hw7]; simpa using (hB6.set_ 1 (.int .i64 t)).set_ 2 (.slice A6 l.length l.length)
     have hE7 : Ens w7 ((s :: p :: Y) ++ Z) (.slice A6 l.length l.length) l := ((hE6 (g9 :: ((s :: p :: Y) ++ Z)) (fun g hg => by
      rcases List.mem_cons.1 hg with rfl | hg
      ·exact HB5.out.lt
      ·rcases List.mem_append.1 hg with hg | hg
       ·exact Nat.lt_of_lt_of_le (H.out.old g hg) (Hk5w.out.size)
       ·exact Nat.lt_of_lt_of_le (HZ.out g hg) (Hk5w.out.size))).keep hk7 (fun g hg => .inl (by simp at hg; simp [hg]))).avoid (fun g hg => .inl (by simp at hg ⊢; exact .inr hg))
     have hK7 : Keeps [] w w7 := ((Hk5w.out.trans hk6 (by simp)).trans hk7 (fun g hg => .inr (by simp at hg; omega)) : Keeps [] w w7)
     have HK7 := Lib.hid hK7; have HE7 := Lib.hid hE7
     have u0 : w7.cell? ⟨s, 0, none⟩ = some (.int .i64 x.t) := (((hk6.mono (M' := [g9]) (by simp)).trans hk7 (fun g hg => .inl hg)).cell (p := ⟨s, 0, none⟩) hs5 (by simp; omega)).trans y0
     clear hE6 hb6 hk6 hB6 hk7 hK7 hE7
     go_upto_region 13 with (fail)
     rw [← hw7]
     clear hw7 r0 r1 r2 f1 f2
     have q0 := hB.cell 0; have q1 := hB.cell 1; have q2 := hB.cell 2
     simp only [List.getElem?_toArray, List.getElem?_cons_succ, List.getElem?_cons_zero] at q0 q1 q2
     clear hB
     go_wp2_with fail
     refine (hkp.out _ ⟨t, t, l⟩ _ HK7.out HE7.out Hyl.out).mono ?_
     intro e w8 hq
     obtain ⟨v, rfl⟩ : ∃ v, e = .returned (.bool v) := ⟨_, hq.val⟩
     have hp := Lib.hid (HP.out _ _ (fun _ => hq) (fun h => absurd Hlo.out h) (fun h => absurd Hlo.out h))
     clear hq
     go_wp2_with fail
     go_ret
     exact hp.out
    ·have hd4 : decide ((x.h : Int) < (t : Int)) = false := decide_eq_false (by omega)
     have hn4 : decide (x.h < t) = false := decide_eq_false h4
     by_cases h5 : x.log.length < l.length
     ·have hd5 : decide ((x.log.length : Int) < (l.length : Int)) = true := decide_eq_true (by omega)
      have hn5 : decide (x.log.length < l.length) = true := decide_eq_true h5
      have hlo : accLong x t l := Or.inr h5
      have Hlo := Lib.hid hlo
      clear hlo h5
      go_wp2_with fail
      refine (hcop.out w5 Hk5.out).mono ?_
      rintro e w6 ⟨A6, rfl, hE6, hb6⟩
      have hk6 : Keeps [] w5 w6 := Keeps.of_below (M := []) hb6
      have hB6 := hk6.blk HB5.out (by simp)
      have f1 := hB6.frozen 1; have f2 := hB6.frozen 2
      have r0 := hB6.cell 0; have r1 := hB6.cell 1; have r2 := hB6.cell 2
      simp only [List.getElem?_toArray, List.getElem?_cons_succ, List.getElem?_cons_zero] at r0 r1 r2
      obtain ⟨w7, hw7⟩ : ∃ w7, w7 = (w6.setCell ⟨g9, 1, none⟩ (.int .i64 t)).setCell ⟨g9, 2, none⟩ (.slice A6 l.length l.length) := ⟨_, rfl⟩
      have hk7 : Keeps [g9] w6 w7 := by rw [hw7]; exact ((Keeps.refl _ _).setCell (by simp) _).setCell (by simp) _
      have hB : Blk w7 g9 113 #[.int .i64 t, .int .i64 t, .slice A6 l.length l.length] := by
       rw [hw7]; simpa using (hB6.set_ 1 (.int .i64 t)).set_ 2 (.slice A6 l.length l.length)
      have hE7 : Ens w7 ((s :: p :: Y) ++ Z) (.slice A6 l.length l.length) l := ((hE6 (g9 :: ((s :: p :: Y) ++ Z)) (fun g hg => by
       rcases List.mem_cons.1 hg with rfl | hg
       ·exact HB5.out.lt
       ·rcases List.mem_append.1 hg with hg | hg
        ·exact Nat.lt_of_lt_of_le (H.out.old g hg) (Hk5w.out.size)
        ·exact Nat.lt_of_lt_of_le (HZ.out g hg) (Hk5w.out.size))).keep hk7 (fun g hg => .inl (by simp at hg; simp [hg]))).avoid (fun g hg => .inl (by simp at hg ⊢; exact .inr hg))
      have hK7 : Keeps [] w w7 := ((Hk5w.out.trans hk6 (by simp)).trans hk7 (fun g hg => .inr (by simp at hg; omega)) : Keeps [] w w7)
      have HK7 := Lib.hid hK7; have HE7 := Lib.hid hE7
      have u0 : w7.cell? ⟨s, 0, none⟩ = some (.int .i64 x.t) := (((hk6.mono (M' := [g9]) (by simp)).trans hk7 (fun g hg => .inl hg)).cell (p := ⟨s, 0, none⟩) hs5 (by simp; omega)).trans y0
      clear hE6 hb6 hk6 hB6 hk7 hK7 hE7
      go_upto_region 13 with (fail)
      rw [← hw7]
      clear hw7 r0 r1 r2 f1 f2
      have q0 := hB.cell 0; have q1 := hB.cell 1; have q2 := hB.cell 2
      simp only [List.getElem?_toArray, List.getElem?_cons_succ, List.getElem?_cons_zero] at q0 q1 q2
      clear hB
      go_wp2_with fail
      refine (hkp.out _ ⟨t, t, l⟩ _ HK7.out HE7.out Hyl.out).mono ?_
      intro e w8 hq
      obtain ⟨v, rfl⟩ : ∃ v, e = .returned (.bool v) := ⟨_, hq.val⟩
      have hp := Lib.hid (HP.out _ _ (fun _ => hq) (fun h => absurd Hlo.out h) (fun h => absurd Hlo.out h))
      clear hq
      go_wp2_with fail
      go_ret
      exact hp.out
     ·have hd5 : decide ((x.log.length : Int) < (l.length : Int)) = false := decide_eq_false (by omega)
      have hn5 : decide (x.log.length < l.length) = false := decide_eq_false h5
      have hno : ¬ accLong x t l := fun h => by rcases h with h | h <;> omega
      have Hno := Lib.hid hno
      have hs6 : Hid (Ens w5 ((s :: p :: Y) ++ Z) (.slice A x.log.length c) x.log) := hEl.out.keep Hk5.out (by simp)
      clear hno h5
      by_cases h6 : (t : Int) = x.t
      ·have hp : Hid (AcPostZ s p Y Z x d b n t l w (.returned (.bool true)) w5) := HP.out _ _ (fun h => absurd h Hno.out) (fun _ h => absurd h6 h) (fun _ _ => ⟨rfl, Hk5w.out⟩)
       obtain rfl : t = x.t := by omega
       clear h6
       go_wp2_with fail
       go_ret
       exact hp.out
      ·have hd6 : ((t : Int) == (x.t : Int)) = false := by simpa using h6
       have H6 := Lib.hid h6
       clear h6
       have hB := HB5.out
       have q0 := hB.cell 0; have q1 := hB.cell 1; have q2 := hB.cell 2
       simp only [List.getElem?_toArray, List.getElem?_cons_succ, List.getElem?_cons_zero] at q0 q1 q2
       clear hB
       go_wp2_with fail
       refine (hkp.out _ ⟨t, x.h, x.log⟩ _ Hk5w.out hs6.out Hyx.out).mono ?_
       intro e w8 hq
       obtain ⟨v, rfl⟩ : ∃ v, e = .returned (.bool v) := ⟨_, hq.val⟩
       have hp := Lib.hid (HP.out _ _ (fun h => absurd h Hno.out) (fun _ _ => hq) (fun _ h => absurd h H6.out))
       clear hq
       go_wp2_with fail
       go_ret
       exact hp.out
end Go.Proofs.YtdaceeijifjpeaaGreatDoor.Vi
end
section
namespace Go.Proofs.YtdaceeijifjpeaaGreatDoor.Vi
open Go.RowKit Base Mem
/-- The blocks of M that belong to these parts. -/
def sel (M : List Nat) (tg : Nat → Nat) (T : List Nat) : List Nat := M.filter fun g => T.contains (tg g)
theorem mem_sel {M : List Nat} {tg : Nat → Nat} {T : List Nat} {g : Nat} : g ∈ sel M tg T ↔ g ∈ M ∧ tg g ∈ T := by simp [sel]
/-- The blocks M' are those of M, and new ones; old ones are of the same parts. -/
structure Ext (w : World) (M : List Nat) (tg : Nat → Nat) (w' : World) (M' : List Nat) (tg' : Nat → Nat) : Prop where
 sub : ∀ g ∈ M, g ∈ M'
 new : ∀ g ∈ M', g ∈ M ∨ w.heap.size ≤ g
 tag : ∀ g, g < w.heap.size → tg' g = tg g
 old : ∀ g ∈ M, g < w.heap.size
 lt : ∀ g ∈ M', g < w'.heap.size
section
variable {w w1 w2 w' : World} {M M1 M2 M' : List Nat} {tg tg1 tg2 tg' : Nat → Nat} {T T' : List Nat}
theorem Ext.refl (hM : ∀ g ∈ M, g < w.heap.size) (hw : w.heap.size ≤ w'.heap.size) : Ext w M tg w' M tg :=
 ⟨fun _ h => h, fun _ h => .inl h, fun _ _ => rfl, hM, fun g h => Nat.lt_of_lt_of_le (hM g h) hw⟩
theorem Ext.trans (h : Ext w M tg w1 M1 tg1) (k : Ext w1 M1 tg1 w2 M2 tg2) (hw : w.heap.size ≤ w1.heap.size) : Ext w M tg w2 M2 tg2 :=
 ⟨fun g hg => k.sub g (h.sub g hg), fun g hg => by
  rcases k.new g hg with h1 | h1
  ·exact h.new g h1
  ·right; omega, fun g hg => (k.tag g (by omega)).trans (h.tag g hg), h.old, k.lt⟩
theorem Ext.later (h : Ext w M tg w1 M1 tg1) (hw : w1.heap.size ≤ w2.heap.size) : Ext w M tg w2 M1 tg1 := ⟨h.sub, h.new, h.tag, h.old, fun g hg => Nat.lt_of_lt_of_le (h.lt g hg) hw⟩
/-- One block more (or none, if it is there). -/
theorem Ext.add (hM : ∀ g ∈ M, g < w.heap.size) (hw : w.heap.size ≤ w'.heap.size) (r : Option Nat) (t : Nat) (hr : ∀ g, r = some g → (g ∈ M ∧ tg g = t ∨ w.heap.size ≤ g) ∧ g < w'.heap.size) : Ext w M tg w' (r.toList ++ M) (fun x => if r = some x then t else tg x) :=
 ⟨fun g hg => List.mem_append_right _ hg, fun g hg => by
  rcases List.mem_append.1 hg with h | h
  ·rcases (hr g (by simpa using h)).1 with h1 | h1
   ·exact .inl h1.1
   ·exact .inr h1
  ·exact .inl h, fun g hg => by
  show (if r = some g then t else tg g) = tg g
  split
  ·rename_i h
   rcases (hr g h).1 with h1 | h1
   ·exact h1.2.symm
   ·omega
  ·rfl, hM, fun g hg => by
  rcases List.mem_append.1 hg with h | h
  ·exact (hr g (by simpa using h)).2
  ·exact Nat.lt_of_lt_of_le (hM g h) hw⟩
/-- What turned later, in the words of what was there at first. -/
theorem Ext.keeps (h : Ext w M tg w1 M1 tg1) (k1 : Keeps (sel M tg T) w w1) (k2 : Keeps (sel M1 tg1 T) w1 w2) : Keeps (sel M tg T) w w2 :=
 k1.trans k2 (fun g hg => by
  obtain ⟨h1, h2⟩ := mem_sel.1 hg
  rcases h.new g h1 with h3 | h3
  ·exact .inl (mem_sel.2 ⟨h3, by rw [← h.tag g (h.old g h3)]; exact h2⟩)
  ·exact .inr h3)
theorem sel_more (hT : ∀ t ∈ T, t ∈ T') {g : Nat} (h : g ∈ sel M tg T) : g ∈ sel M tg T' := by
 obtain ⟨h1, h2⟩ := mem_sel.1 h
 exact mem_sel.2 ⟨h1, hT _ h2⟩
theorem _root_.Go.Proofs.YtdaceeijifjpeaaGreatDoor.Mem.Keeps.sel_mono (k : Keeps (sel M tg T) w w') (hT : ∀ t ∈ T, t ∈ T') : Keeps (sel M tg T') w w' := k.mono fun _ hg => .inl (sel_more hT hg)
theorem _root_.Go.Proofs.YtdaceeijifjpeaaGreatDoor.Mem.Keeps.to_sel {L : List Nat} (k : Keeps L w w') (hL : ∀ g ∈ L, g ∈ M ∧ tg g ∈ T ∨ w.heap.size ≤ g) : Keeps (sel M tg T) w w' := k.mono fun g hg => by
 rcases hL g hg with h | h
 ·exact .inl (mem_sel.2 h)
 ·exact .inr h
theorem Ext.ds {v : Value} {ds : List DeltaD} (h : Ext w M tg w' M' tg') (k : Keeps (sel M tg T) w w') (hd : Ds w M v ds) : Ds w' M' v ds :=
 (hd.avoid h.new).keep k (fun g hg => .inl (h.sub g (mem_sel.1 hg).1))
theorem row_other {base : Nat} {e : TypeId} {size n : Nat} {v : Value} {xs : List Value} (k : Keeps (sel M tg T) w w') (h : w.ownsRow base e size v n xs) (ht : ∀ g, v.ownBlock = some g → tg g ∉ T) : w'.ownsRow base e size v n xs :=
 own_other2 h k (fun g hg hm => ht g hg (mem_sel.1 hm).2)
end
end Go.Proofs.YtdaceeijifjpeaaGreatDoor.Vi
end
section
namespace Go.Proofs.YtdaceeijifjpeaaGreatDoor.Vi
open Go.RowKit Base Mem Tape
open Classical in
theorem nodup_le {α : Type} : ∀ (l m : List α), l.Nodup → (∀ x ∈ l, x ∈ m) → l.length ≤ m.length
 | [], _, _, _ => by simp
 | a :: l, m, hn, hs => by
  obtain ⟨h1, h2⟩ := List.nodup_cons.1 hn
  have ha : a ∈ m := hs a (by simp)
  have := nodup_le l (m.erase a) h2 (fun x hx => (List.mem_erase_of_ne (fun e => h1 (by rw [← e]; exact hx))).2 (hs x (by simp [hx])))
  rw [List.length_erase_of_mem ha] at this
  have : 0 < m.length := List.length_pos_of_mem ha
  simp only [List.length_cons]
  omega
def nameK : List Lit := nameL.map Lit.string
/-- All keys are names that there are. -/
def NamesIn (D : DataW Unit) : Prop := ∀ kl, Maps.has D kl = true → kl ∈ nameK
theorem size_names {D : DataW Unit} (ht : Maps.Tidy D) (hk : ∀ es, D = .map es → ∀ p ∈ es, WideAt.IsKeyLit p.1) (hn : NamesIn D) : Maps.size D ≤ 8 := by
 obtain ⟨es, rfl, hp⟩ := ht
 have h1 : (es.map (·.1)).Nodup := by
  unfold List.Nodup
  rw [List.pairwise_map]
  exact hp
 have := nodup_le (es.map (·.1)) nameK h1 (fun x hx => by
  obtain ⟨p, hp1, rfl⟩ := List.mem_map.1 hx
  exact hn _ (List.any_eq_true.2 ⟨p, hp1, WideAt.sameKey_self (hk es rfl p hp1)⟩))
 simpa [Maps.size, nameK, nameL] using this
/-- All keys are keys. -/
def KeysIn (D : DataW Unit) : Prop := ∃ es, D = .map es ∧ es.Pairwise (fun p q => p.1 ≠ q.1) ∧ ∀ p ∈ es, WideAt.IsKeyLit p.1
theorem KeysIn.tidy {D : DataW Unit} (h : KeysIn D) : Maps.Tidy D := by obtain ⟨es, h1, h2, _⟩ := h; exact ⟨es, h1, h2⟩
theorem KeysIn.size {D : DataW Unit} (h : KeysIn D) (hn : NamesIn D) : Maps.size D ≤ 8 := size_names h.tidy (by obtain ⟨es, rfl, _, h3⟩ := h; intro es' he; injection he with he; subst he; exact h3) hn
theorem KeysIn.put {D : DataW Unit} (h : KeysIn D) {kl : Lit} (hk : WideAt.IsKeyLit kl) (d : DataW Unit) : KeysIn (D.put kl d) := by
 obtain ⟨es, rfl, h2, h3⟩ := h
 obtain ⟨es', he, hp⟩ := (Maps.Tidy.put ⟨es, rfl, h2⟩ hk d : Maps.Tidy ((DataW.map es).put kl d))
 refine ⟨es', he, hp, fun p hp1 => ?_⟩
 have e1 : es' = DataW.insert (kl, d) (es.filter fun p => !p.1.sameKey kl) := by injection he.symm
 rw [e1] at hp1
 have : p = (kl, d) ∨ p ∈ (es.filter fun p => !p.1.sameKey kl) := by
  have := (WideShapes.insert_perm (kl, d) (es.filter fun p => !p.1.sameKey kl)).mem_iff.1 hp1
  simpa using this
 rcases this with rfl | h4
 ·exact hk
 ·exact h3 p (List.mem_filter.1 h4).1
/-- What is known ahead of the i-th batch: the agent's epoch is top, no later number was seen, no sum is great. -/
structure FenceOk (ag : Int) (i : Nat) (top : Int) (kl : Lit) (st : McD) : Prop where
 ep : numAt .i64 st.DE (ekey ag) = top
 f0 : 0 ≤ (st.get kl).f
 fi : (st.get kl).f ≤ i
 m64 : (st.get kl).m < 2 ^ 64
 bad : (st.get kl).bad = []
 new : ∀ n : Int, (i : Int) < n → (st.get kl).seen n = false
 sum : ∀ s, numAt .u64 st.DS (skey s) ≤ 5 * i
 names : NamesIn st.DS
 keys : KeysIn st.DS
 isE : Maps.IsMap st.DE
theorem FenceOk.mono {ag : Int} {i : Nat} {top : Int} {kl : Lit} {st : McD} (h : FenceOk ag i top kl st) : FenceOk ag (i + 1) top kl st :=
 ⟨h.ep, h.f0, by have := h.fi; omega, h.m64, h.bad, fun n hn => h.new n (by omega), fun s => by have := h.sum s; omega, h.names, h.keys, h.isE⟩
def fenceE (ag : Int) (i : Nat) (s : ByteArray) (p n : Int) : EntryD := ⟨1, ag, 0, (i : Int) + 1, p, [⟨s, n⟩], ByteArray.empty, 0, 0⟩
theorem fence_right {ag : Int} (hag : 0 ≤ ag ∧ ag < 8) (i : Nat) {s : ByteArray} (hs : NameOk s) {p n : Int} (hp : 1 ≤ p) (hn : 1 ≤ n) : rightE (fenceE ag i s p n) = 0 := by
 have hb : badId (fenceE ag i s p n) = false := by
  unfold badId withinB fenceE
  simp; omega
 have h0 : ((fenceE ag i s p n).ds.length == 0 || (fenceE ag i s p n).ds.any fun d => d.n == 0) = false := by simp [fenceE]; omega
 have hall : ((fenceE ag i s p n).ds.all fun d => serOk d.ser) = true := by simp [fenceE, (name_ser hs).1]
 have hse : (fenceE ag i s p n).ser.toList.isEmpty = true := by show ByteArray.empty.toList.isEmpty = true; decide +kernel
 unfold rightE kindS writtenS
 rw [hb, h0, hall, hse]
 simp [fenceE, withinB]
theorem may_fence {ag : Int} {i : Nat} {top : Int} {kl : Lit} {st : McD} (h : FenceOk ag i top kl st) (hi : i < 40) (s : ByteArray) {n : Int} (hn : 0 ≤ n ∧ n ≤ 5) : mayS st.DS [⟨s, n⟩] = 0 := by
 have h1 := h.sum s
 have hl : mayL st.DS (.map []) [⟨s, n⟩] = some ((DataW.map []).put (skey s) (.lit (.int .u64 (0 + n)))) := by
  unfold mayL
  rw [numAt_empty, if_neg (by simp only []; omega)]
  rfl
 have h2 := h.keys.size h.names
 have h3 : newS st.DS ((DataW.map [] : DataW Unit).put (skey s) (.lit (.int .u64 (0 + n)))) ≤ Maps.size ((DataW.map [] : DataW Unit).put (skey s) (.lit (.int .u64 (0 + n)))) := leftN_le _ _ _
 have h4 := size_put_le (Maps.tidy_empty) (skey s) (.lit (.int .u64 (0 + n)))
 have h5 : Maps.size (DataW.map [] : DataW Unit) = 0 := rfl
 unfold mayS
 rw [hl]
 show (if 16 < Maps.size st.DS + newS st.DS ((DataW.map [] : DataW Unit).put (skey s) (.lit (.int .u64 (0 + n)))) then (24 : Int) else 0) = 0
 rw [if_neg (by omega)]
theorem fence_far {ag : Int} {i : Nat} {top : Int} {kl : Lit} {st : McD} (h : FenceOk ag i top kl st) (hi : i < 40) : Win.farW (st.get kl).f ((i : Int) + 1) = false := by
 have := h.f0
 unfold Win.farW
 rw [Bool.and_eq_false_iff]
 right
 exact decide_eq_false (by omega)
/-- What one that is counted leaves. -/
noncomputable def fenceS (ag : Int) (i : Nat) (s : ByteArray) (p n : Int) (kl : Lit) (st : McD) : McD := ({ (stE st (fenceE ag i s p n)) with DS := addL st.DS [⟨s, n⟩] } : McD).set kl ((st.get kl).add ((i : Int) + 1))
theorem fence_yes {ag : Int} (hag : 0 ≤ ag ∧ ag < 8) {i : Nat} {top : Int} {kl : Lit} {st : McD} (h : FenceOk ag i top kl st) (hi : i < 40) {s : ByteArray} (hs : NameOk s) {p n : Int} (hp : 1 ≤ p) (hn : 1 ≤ n ∧ n ≤ 5) (hge : top ≤ p) : applyM st kl (fenceE ag i s p n) = (1, 0, fenceS ag i s p n kl st) := by
 have hns : ¬ ((st.get kl).seen (fenceE ag i s p n).seq = true) := by rw [show (fenceE ag i s p n).seq = (i : Int) + 1 from rfl, h.new _ (by omega)]; simp
 have hep : numAt .i64 st.DE (ekey (fenceE ag i s p n).ag) = top := h.ep
 have hfar : ¬ (Win.farW (st.get kl).f (fenceE ag i s p n).seq = true) := by rw [show (fenceE ag i s p n).seq = (i : Int) + 1 from rfl, fence_far h hi]; simp
 have hm : mayS (stE st (fenceE ag i s p n)).DS (fenceE ag i s p n).ds = 0 := may_fence h hi s ⟨by omega, hn.2⟩
 unfold applyM
 rw [if_pos (fence_right hag i hs hp hn.1), if_neg (by show ¬ ((1 : Int) = 2); decide), if_neg hns, hep, if_neg (by show ¬ (p < top); omega), if_neg hfar]
 unfold countM
 rw [if_pos hm]
 rfl
/-- Nothing. -/
def mc0 : McD := ⟨.map [], .map [], fun _ => none⟩
/-- The first state. -/
theorem fence_start (ag : Int) (kl : Lit) : FenceOk ag 0 0 kl mc0 where
 ep := rfl
 f0 := by simp [McD.get, mc0]
 fi := by simp [McD.get, mc0]
 m64 := by simp [McD.get, mc0]
 bad := by simp [McD.get, mc0]
 new := fun n hn => by
  show Win.seenW 0 0 n = false
  unfold Win.seenW
  rw [decide_eq_false (by omega), Nat.zero_testBit, Bool.and_false, Bool.or_false]
 sum := fun s => by show numAt .u64 (DataW.map [] : DataW Unit) (skey s) ≤ _; rw [numAt_empty]; simp
 names := fun k hk => by simp [Maps.has, mc0] at hk
 keys := ⟨[], rfl, List.Pairwise.nil, by simp⟩
 isE := Maps.isMap_empty
end Go.Proofs.YtdaceeijifjpeaaGreatDoor.Vi
end
section
namespace Go.Proofs.YtdaceeijifjpeaaGreatDoor.Vi
open Go.RowKit Base Mem Tape
open Go.Maps (Keyed)
def McNewP (w : World) (e : Ending) (w' : World) : Prop := ∃ g X, e = .returned (.pointer (some ⟨g, 0, none⟩)) ∧ McAt w' g X mc0 0 ∧ (∀ x ∈ X, w.heap.size ≤ x) ∧ Below w.heap.size w w'
theorem mcnew_any (w : World) : Calls Tryz.prog 27 #[] w fun e w' => McNewP w e w' := by
 have hmm := @run_makeMap Tryz.prog
 go_enter Tryz.func27, Tryz.ntmps27
 go_wp2_with fail
 refine (smnew_any w).mono ?_
 rintro e w1 ⟨gs, bm, rfl, hsm, h1, h2, hb⟩
 have hl1 : gs < w1.heap.size := hsm.1.lt
 have hl2 : bm < w1.heap.size := hsm.2.1.lt
 have hP : Hid (McNewP w (.returned (.pointer (some ⟨w1.heap.size + 1 + 1, 0, none⟩))) (((w1.alloc (.map #[] 0)).alloc (.map #[] 0)).alloc (.cells #[.pointer (some ⟨gs, 0, none⟩), .map (some w1.heap.size), .map (some (w1.heap.size + 1))] 98))) := by
  have hk : Keeps [] w1 (((w1.alloc (.map #[] 0)).alloc (.map #[] 0)).alloc (.cells #[.pointer (some ⟨gs, 0, none⟩), .map (some w1.heap.size), .map (some (w1.heap.size + 1))] 98)) := (((Keeps.refl _ _).alloc _).alloc _).alloc _
  refine ⟨w1.heap.size + 1 + 1, [w1.heap.size + 1 + 1, gs, bm, w1.heap.size, w1.heap.size + 1], rfl, ⟨⟨gs, bm, w1.heap.size, w1.heap.size + 1, fun _ => 0, fun _ => []⟩, .map [], ?_, ?_, ?_, ?_, ?_, ?_, ?_, ?_, ?_, ?_⟩, ?_, ?_⟩
  ·have := Blk.new ((w1.alloc (.map #[] 0)).alloc (.map #[] 0)) 98 #[.pointer (some ⟨gs, 0, none⟩), .map (some w1.heap.size), .map (some (w1.heap.size + 1))]
   simpa using this
  ·exact hsm.keep hk (by simp) (by simp)
  ·exact ((World.ownsMap_made w1 _ _ _).alloc _).alloc _
  ·have := World.ownsMap_made (H := Value) (w1.alloc (.map #[] 0)) Tryz.prog 262 heldElem
   rw [World.size_alloc] at this
   exact this.alloc _
  ·simp only [McC.core, List.nodup_cons, List.mem_cons, List.not_mem_nil, or_false, List.nodup_nil, and_true, not_or, not_false_eq_true]
   have := hsm.2.2
   omega
  ·intro kl s h; cases h
  ·intro kl _; rfl
  ·intro kl kl' _ h; exact absurd rfl h
  ·intro x hx; exact hx
  ·intro kl h; exact absurd rfl h
  ·intro x hx
   have := hb.size
   simp at hx
   omega
  ·exact below_then hb (Keeps.below hk)
 clear hsm hb h1 h2
 go_wp2
 go_ret
 exact hP.out
def OfP (st : McD) (c : McC) (kl : Lit) (w : World) (e : Ending) (w' : World) : Prop :=
 ∃ p F, e = .returned (.pointer (some ⟨p, 0, none⟩)) ∧ ShAt w' p F (st.get kl) ∧ (∀ s, st.sh kl = some s → p = c.pt kl ∧ F = c.fp kl) ∧ (st.sh kl = none → ∀ x ∈ F, w.heap.size ≤ x ∧ x < w'.heap.size) ∧ Keeps [] w w'
theorem mcof_any (g : Nat) (c : McC) (X : List Nat) (st : McD) (N : Nat) (DH : DataW Value) (a k : Int) (w : World) (h : McIn w g c X st N DH) (ha : I64 a) (hk : I64 k) :
  Calls Tryz.prog 151 #[.pointer (some ⟨g, 0, none⟩), .int .i64 a, .int .i64 k] w fun e w' => OfP st c (pk a k) w e w' := by
 have c2 := h.b0.cell 2
 simp only [List.getElem?_toArray, List.getElem?_cons_succ, List.getElem?_cons_zero] at c2
 have H := Lib.hid h
 clear h
 cases hs : st.sh (pk a k) with
 | some s =>
  obtain ⟨h1, h2, h3, h4⟩ := H.out.sh _ _ hs
  have hP : Hid (OfP st c (pk a k) w (.returned (.pointer (some ⟨c.pt (pk a k), 0, none⟩))) w) := ⟨_, _, rfl, by unfold McD.get; rw [hs]; exact h3, (fun s' _ => ⟨rfl, rfl⟩), (fun h => by rw [hs] at h; cases h), Keeps.refl _ _⟩
  clear h3 h4 hs
  generalize c.pt (pk a k) = p at *
  go_enter Tryz.func151, Tryz.ntmps151
  go_wp2_with (at_lookup; refine wpl_look_held _ rfl _ _ 96 rfl 262 217 lawP uMH (zPS _) c.bs N DH rfl H.out.m3 _ _ rfl (pk_of ha hk) _ h2 ?_; rw [h1])
  go_ret
  exact hP.out
 | none =>
  have h1 := H.out.no _ hs
  have h2 := Maps.atKey_of_not_has h1 (.held (.pointer none))
  have Hs := Lib.hid hs
  clear hs
  go_enter Tryz.func151, Tryz.ntmps151
  go_wp2_with (at_lookup; refine wpl_look_held _ rfl _ _ 96 rfl 262 217 lawP uMH (zPS _) c.bs N DH rfl H.out.m3 _ _ rfl (pk_of ha hk) _ h2 ?_; rw [h1])
  refine (wnnew_any w).mono ?_
  rintro e w1 ⟨rfl, hwn, hb⟩
  have hlt : w.heap.size < w1.heap.size := hwn.1.lt
  have hP : Hid (OfP st c (pk a k) w (.returned (.pointer (some ⟨w1.heap.size, 0, none⟩))) (w1.alloc (.cells #[.pointer (some ⟨w.heap.size, 0, none⟩), .slice none 0 0] 221))) := by
   refine ⟨w1.heap.size, [w1.heap.size, w.heap.size], rfl, ?_, fun s h => (by rw [Hs.out] at h; cases h), fun _ x hx => (by rw [World.size_alloc]; simp at hx; omega), (Keeps.of_below hb).trans ((Keeps.refl [] _).alloc _) (by simp)⟩
   unfold McD.get
   rw [Hs.out]
   exact ⟨w.heap.size, .slice none 0 0, Blk.new w1 _ _, hwn.keep (M := []) ((Keeps.refl _ _).alloc _) (by simp), World.ownsRow_nil _ _ _ _, by simp, by simp, by omega, (fun g hg => by cases hg), by simp, by simp⟩
  clear hwn hb
  go_wp2
  go_ret
  exact hP.out
def CntP (g : Nat) (X F : List Nat) (r : Int × McD) (N' : Nat) (w : World) (e : Ending) (w' : World) : Prop :=
 e = .returned (.int .i64 r.1) ∧ ∃ X', McAt w' g X' r.2 N' ∧ (∀ x ∈ X', x ∈ X ∨ x ∈ F ∨ (w.heap.size ≤ x ∧ x < w'.heap.size)) ∧ Keeps (X ++ F) w w'
end Go.Proofs.YtdaceeijifjpeaaGreatDoor.Vi
end
section
namespace Go.Proofs.YtdaceeijifjpeaaGreatDoor.Vi
open Go.RowKit Base Mem Tape
def iV (x : Int) : List Value := [.int .i64 x]
theorem iV_map (l : List Int) : l.flatMap iV = l.map (Value.int .i64) := by
 induction l with
 | nil => rfl
 | cons x l ih => rw [List.flatMap_cons, ih]; rfl
def IxP (l : List Int) (n : Int) (w : World) (e : Ending) (w' : World) : Prop := (∃ j : Int, e = .returned (.int .i64 j) ∧ decide (0 ≤ j) = decide (n ∈ l)) ∧ w = w'
theorem ixI_any (v : Value) (l : List Int) (n : Int) (w : World) (h : Rd w [] 1 v l.length (l.map (Value.int .i64))) (hl : l.length ≤ 1099511627776) :
  Calls Tryz.prog 204 #[v, .int .i64 n] w fun e w' => IxP l n w e w' := by
 rw [← iV_map] at h
 have HR := Lib.hid h
 obtain ⟨A, c, rfl, hc, _⟩ := h
 go_enter Tryz.func204, Tryz.ntmps204
 go_wp2_with fail
 go_loopw [8] (fun i wr => ∃ (x : Nat), i = .int .i64 x ∧ x ≤ l.length ∧ Hid (n ∉ l.take x) ∧ wr = w) (fun i _ => l.length - (intOf i).toNat)
 case atStart => exact ⟨0, rfl, by omega, (show n ∉ l.take 0 by simp), rfl⟩
 case round =>
  obtain ⟨x, rfl, hx, Hn, rfl⟩ := hrel
  by_cases hlt : x < l.length
  ·have hx1 : (x : Int) < (l.length : Int) := by omega
   obtain ⟨g3, off, _, e1, _, hg3, _, hcell⟩ := Rd.at_ iV 1 (fun _ => rfl) HR.out hlt
   obtain rfl : A = some ⟨g3, off, none⟩ := by injection e1
   clear e1
   have p0 := hcell 0 _ rfl
   rw [Nat.add_zero, Nat.mul_one] at p0
   by_cases hq : n = l[x]
   ·have hqi : (n == l[x]) = true := beq_iff_eq.2 hq
    have hP : Hid (IxP l n wr (.returned (.int .i64 x)) wr) := ⟨⟨_, rfl, by rw [decide_eq_true (by omega), decide_eq_true (by rw [hq]; exact List.getElem_mem _)]⟩, rfl⟩
    clear hcell hq
    generalize l[x] = y at *
    go_wp2
    go_ret
    exact hP.out
   ·have hqi : (n == l[x]) = false := beq_eq_false_iff_ne.2 hq
    have Hn2 : Hid (n ∉ l.take (x + 1)) := by
     show ¬ _
     rw [List.take_succ_eq_append_getElem hlt, List.mem_append, List.mem_singleton]
     rintro (h | h)
     ·exact Hn.out h
     ·exact hq h
    clear hcell hq
    generalize l[x] = y at *
    go_wp2
    go_roundw
    case rel => exact ⟨x + 1, by go_num, by omega, Hn2, by first | rfl | trivial⟩
    case measure => simp [intOf] <;> omega
  ·obtain rfl : x = l.length := by omega
   have hP : Hid (IxP l n wr (.returned (.int .i64 (-1))) wr) := ⟨⟨_, rfl, by
    have := Hn.out
    rw [List.take_length] at this
    rw [decide_eq_false this]
    rfl⟩, rfl⟩
   go_wp2
   go_ret
   exact hP.out
theorem conI_any (v : Value) (l : List Int) (n : Int) (w : World) (h : Rd w [] 1 v l.length (l.map (Value.int .i64))) (hl : l.length ≤ 1099511627776) :
  Calls Tryz.prog 153 #[v, .int .i64 n] w fun e w' => e = .returned (.bool (decide (n ∈ l))) ∧ w = w' := by
 have HI := Lib.hid (ixI_any v l n w h hl)
 clear h
 go_enter Tryz.func153, Tryz.ntmps153
 go_wp2_with fail
 refine HI.out.mono ?_
 rintro e w1 ⟨⟨j, rfl, hj⟩, rfl⟩
 have hP : Hid (Ending.returned (.bool (decide (0 ≤ j))) = .returned (.bool (decide (n ∈ l)))) := by show _ = _; rw [hj]
 clear hj
 go_wp2
 go_ret
 exact ⟨hP.out, rfl⟩
theorem rd_own {w : World} {v : Value} {l : List Int} (h : w.ownsRow 0 2 1 v l.length (l.map (Value.int .i64))) : Rd w [] 1 v l.length (l.map (Value.int .i64)) := Rd.of_own h (by simp)

theorem mc_ep {w w' : World} {g : Nat} {c : McC} {X : List Nat} {st : McD} {N N' : Nat} {DH : DataW Value} {DE' : DataW Unit} (h : McIn w g c X st N DH) (hk : Keeps [c.be] w w')
  (hown : w'.ownsMap Tryz.prog 3 (plainElem Tryz.prog 2) c.be N' DE') (hN : N ≤ N') : McIn w' g c X { st with DE := DE' } N' DH := by
 have hnd := h.nd
 simp only [McC.core, List.nodup_cons, List.mem_cons, List.not_mem_nil, or_false, List.nodup_nil, and_true, not_or, not_false_eq_true] at hnd
 refine ⟨hk.blk h.b0 (by simp; omega), ⟨(h.sm.keep hk (by simp; omega) (by simp; omega)).1, (h.sm.keep hk (by simp; omega) (by simp; omega)).2.1.mono hN, h.sm.2.2⟩, hown, (om_keep h.m3 hk (by simp; omega)).mono hN, h.nd, fun kl s hs => ?_, h.no, h.dj, h.inX, h.fpX⟩
 obtain ⟨h1, h2, h3, h4⟩ := h.sh kl s hs
 exact ⟨h1, h2, h3.keep hk (fun x hx hm => h4 x hx (by simp at hm; subst hm; simp [McC.core])), h4⟩
def ApP (g : Nat) (X : List Nat) (r : Int × Int × McD) (N' : Nat) (w : World) (e : Ending) (w' : World) : Prop :=
 e = .returned (.tuple #[.int .i64 r.1, .int .u64 r.2.1]) ∧ ∃ X', McAt w' g X' r.2.2 N' ∧ (∀ x ∈ X', x ∈ X ∨ (w.heap.size ≤ x ∧ x < w'.heap.size)) ∧ Keeps X w w'
/-- count's contract at an entry. -/
def CountOk (g : Nat) (c : McC) (X : List Nat) (st : McD) (N : Nat) (DH : DataW Value) (e : EntryD) (dv : Value) : Prop :=
 rightE e = 0 → e.kind ≠ 2 → (st.get (pk e.ag e.sh)).seen e.seq = false → Win.farW (st.get (pk e.ag e.sh)).f e.seq = false → ∀ (W : World) (p : Nat) (F : List Nat), McIn W g c X (stE st e) (N + 1) DH → ShAt W p F ((stE st e).get (pk e.ag e.sh)) →
  (∀ s, (stE st e).sh (pk e.ag e.sh) = some s → p = c.pt (pk e.ag e.sh) ∧ F = c.fp (pk e.ag e.sh)) → ((stE st e).sh (pk e.ag e.sh) = none → ∀ x ∈ F, x ∉ X) → (∀ x ∈ X, x < W.heap.size) → (∀ x ∈ F, x < W.heap.size) → Ds W X dv e.ds →
  Calls Tryz.prog 155 #[.pointer (some ⟨g, 0, none⟩), .pointer (some ⟨p, 0, none⟩), .agg (eCell (e, dv)).toArray] W fun r w' => CntP g X F (countM (stE st e) (pk e.ag e.sh) e) (N + 1 + e.ds.length + 1) W r w'
set_option maxRecDepth 100000 in
set_option maxHeartbeats 8000000 in
theorem mcapply_any (g : Nat) (c : McC) (X : List Nat) (st : McD) (N : Nat) (DH : DataW Value) (e : EntryD) (dv : Value) (mx : Int) (w : World) (h : McIn w g c X st N DH) (hcount : CountOk g c X st N DH e dv) (ha : I64 e.ag) (hs : I64 e.sh) (hq : I64 e.seq) (hp : I64 e.ep)
  (hd : Ds w X dv e.ds) (hsh : Short e) (hN : N ≤ 549755813888) (hX : ∀ x ∈ X, x < w.heap.size) (hm : w.cell? ⟨0, 0, none⟩ = some (.int .i64 mx)) :
  Calls Tryz.prog 120 #[.pointer (some ⟨g, 0, none⟩), .agg (eCell (e, dv)).toArray] w fun r w' => ApP g X (applyM st (pk e.ag e.sh) e) (N + e.ds.length + 2) w r w' := by
 have hw0 : 0 < w.heap.size := by
  have := World.block_lt_of_cell? w _ hm
  simpa using this
 have Hm : Hid (∀ W, Keeps [] w W → W.cell? ⟨0, 0, none⟩ = some (.int .i64 mx)) := fun W hk => (hk.cell (p := ⟨0, 0, none⟩) hw0 (by simp)).trans hm
 have HH := Lib.hid h; have HCount := Lib.hid hcount; have Hsh := Lib.hid hsh; have HD := Lib.hid hd
 have hglt : g < w.heap.size := h.b0.lt
 have hbel : c.be < w.heap.size := h.m2.lt
 have hbeX : c.be ∈ X := h.inX _ (by simp [McC.core])
 have HXlt : Hid (c.be < w.heap.size) := hbel
 have hnd := h.nd
 simp only [McC.core, List.nodup_cons, List.mem_cons, List.not_mem_nil, or_false, List.nodup_nil, and_true, not_or, not_false_eq_true] at hnd
 obtain ⟨⟨n1, n2, n3, n4⟩, ⟨n5, n6, n7⟩, ⟨n8, n9⟩, n10⟩ := hnd
 have HAM : Hid (applyM st (pk e.ag e.sh) e = if rightE e = 0 then
  if e.kind = 2 then (8, numAt .u64 st.DS (skey e.ser), st)
  else if (st.get (pk e.ag e.sh)).seen e.seq = true then (if e.seq ∈ (st.get (pk e.ag e.sh)).bad then 3 else 2, 0, st)
  else if e.ep < numAt .i64 st.DE (ekey e.ag) then (4, 0, st)
  else if Win.farW (st.get (pk e.ag e.sh)).f e.seq = true then (5, 0, stE st e)
  else ((countM (stE st e) (pk e.ag e.sh) e).1, 0, (countM (stE st e) (pk e.ag e.sh) e).2)
 else (0, 0, st)) := rfl
 have HQ : Hid (∀ W code n, Keeps [] w W → applyM st (pk e.ag e.sh) e = (code, n, st) → ApP g X (applyM st (pk e.ag e.sh) e) (N + e.ds.length + 2) w (.returned (.tuple #[.int .i64 code, .int .u64 n])) W) := fun W code n hk he => by
  rw [he]
  exact ⟨rfl, X, ⟨c, DH, (h.keep hk (by simp)).more (by omega)⟩, fun x hx => .inl hx, hk.mono (M := []) (by simp)⟩
 have HRt : Hid (∀ W, Keeps [] w W → Calls Tryz.prog 75 #[.agg (eCell (e, dv)).toArray] W fun r w' => NumPost (rightE e) W r w') := fun W hk => eright_any e dv mx W ((hd.keep (M' := []) hk (by simp)).avoid (by simp)) hsh (Hm.out W hk)
 have HOf : Hid (∀ W, Keeps [] w W → Calls Tryz.prog 151 #[.pointer (some ⟨g, 0, none⟩), .int .i64 e.ag, .int .i64 e.sh] W fun r w' => OfP st c (pk e.ag e.sh) W r w') := fun W hk => mcof_any g c X st N DH _ _ W (h.keep hk (by simp)) ha hs
 have hser : e.ser.size ≤ 9223372036854775807 := by have := hsh.1; omega
 have HGet : Hid (∀ W, Keeps [] w W → Calls Tryz.prog 150 #[.pointer (some ⟨c.gs, 0, none⟩), .string e.ser] W fun r w' => r = .returned (.int .u64 (numAt .u64 st.DS (skey e.ser))) ∧ W = w') := fun W hk => smget_any _ _ _ _ _ W ((h.keep hk (by simp)).sm) hser
 have HM2 := Lib.hid h.m2; have HB0 := Lib.hid h.b0
 have Hep := Lib.hid (ekey_of ha)
 clear h hcount hsh hd hm
 obtain ⟨kind, ag, sh, seq, ep, ds, ser, fr, tag⟩ := e
 simp only [] at *
 obtain ⟨A, cc, rfl, hcc⟩ := HD.out.len
 have hBx := Blk.new w 33 #[.int .i64 kind, .int .i64 ag, .int .i64 sh, .int .i64 seq, .int .i64 ep, .slice A ds.length cc, .string ser, .int .i64 fr, .int .i64 tag]
 have HkA : Hid (Keeps [] w (w.alloc (.cells #[.int .i64 kind, .int .i64 ag, .int .i64 sh, .int .i64 seq, .int .i64 ep, .slice A ds.length cc, .string ser, .int .i64 fr, .int .i64 tag] 33))) := (Keeps.refl _ _).alloc _
 have HBx := Lib.hid hBx
 clear hBx
 generalize hkl : pk ag sh = kl at *
 show Calls Tryz.prog 120 #[.pointer (some ⟨g, 0, none⟩), .agg #[.int .i64 kind, .int .i64 ag, .int .i64 sh, .int .i64 seq, .int .i64 ep, .slice A ds.length cc, .string ser, .int .i64 fr, .int .i64 tag]] w _
 go_enter Tryz.func120, Tryz.ntmps120
 go_upto_region 1 with (fail)
 generalize w.alloc (.cells #[.int .i64 kind, .int .i64 ag, .int .i64 sh, .int .i64 seq, .int .i64 ep, .slice A ds.length cc, .string ser, .int .i64 fr, .int .i64 tag] 33) = wa at *
 obtain ⟨g7, Hg7⟩ : ∃ g7, Hid (g7 = w.heap.size) := ⟨_, rfl⟩
 rw [← Hg7.out] at HBx ⊢
 have q1 : g7 ≠ g ∧ g7 ≠ c.be := by have := Hg7.out; omega
 obtain ⟨q1, q2⟩ := q1
 have HE : Hid (∀ W, Keeps [c.be] wa W → W.cell? ⟨g7, 0, none⟩ = some (.int .i64 kind) ∧ W.cell? ⟨g7, 1, none⟩ = some (.int .i64 ag) ∧ W.cell? ⟨g7, 2, none⟩ = some (.int .i64 sh) ∧ W.cell? ⟨g7, 3, none⟩ = some (.int .i64 seq) ∧ W.cell? ⟨g7, 4, none⟩ = some (.int .i64 ep) ∧ W.cell? ⟨g7, 5, none⟩ = some (.slice A ds.length cc) ∧ W.cell? ⟨g7, 6, none⟩ = some (.string ser) ∧ W.cell? ⟨g7, 7, none⟩ = some (.int .i64 fr) ∧ W.cell? ⟨g7, 8, none⟩ = some (.int .i64 tag)) := fun W hk => by
  have h2 := hk.blk HBx.out (by simp; omega)
  exact ⟨h2.cell 0, h2.cell 1, h2.cell 2, h2.cell 3, h2.cell 4, h2.cell 5, h2.cell 6, h2.cell 7, h2.cell 8⟩
 have HMc : Hid (∀ W, Keeps [c.be] wa W → W.cell? ⟨g, 0, none⟩ = some (.pointer (some ⟨c.gs, 0, none⟩)) ∧ W.cell? ⟨g, 1, none⟩ = some (.map (some c.be))) := fun W hk => by
  have h2 := hk.blk (HkA.out.blk HB0.out (by simp)) (by simp; omega)
  exact ⟨h2.cell 0, h2.cell 1⟩
 obtain ⟨c0, c1, c2, c3, c4, c5, c6, c7, c8⟩ := HE.out wa (Keeps.refl _ _)
 go_wp2_with fail
 refine (HRt.out wa HkA.out).mono ?_
 rintro r w1 ⟨rfl, hb1⟩
 have Hk1 : Hid (Keeps [] w w1) := HkA.out.trans (Keeps.of_below (M := []) hb1) (by simp)
 have Hka1 : Hid (Keeps [c.be] wa w1) := (Keeps.of_below (M := []) hb1).mono (by simp)
 clear hb1 c0 c1 c2 c3 c4 c5 c6 c7 c8 HRt
 obtain ⟨c0, c1, c2, c3, c4, c5, c6, c7, c8⟩ := HE.out w1 Hka1.out
 obtain ⟨m0, m1⟩ := HMc.out w1 Hka1.out
 by_cases hr : rightE ⟨kind, ag, sh, seq, ep, ds, ser, fr, tag⟩ = 0
 ·have hri : decide (((rightE ⟨kind, ag, sh, seq, ep, ds, ser, fr, tag⟩ : Nat) : Int) = 0) = true := decide_eq_true (by omega)
  rw [if_pos hr] at HAM
  rw [hr]
  by_cases hk2 : kind = 2
  ·rw [if_pos hk2] at HAM
   subst hk2
   have hP : Hid (∀ q, ApP g X (applyM st kl ⟨2, ag, sh, seq, ep, ds, ser, fr, tag⟩) (N + ds.length + 2) w (.returned (.tuple #[.int .i64 8, .int .u64 (numAt .u64 st.DS (skey ser))])) (w1.drewN q)) := fun q => HQ.out _ _ _ (Hk1.out.drewN q) HAM.out
   have HG1 : Hid (∀ q, Calls Tryz.prog 150 #[.pointer (some ⟨c.gs, 0, none⟩), .string ser] (w1.drewN q) fun r w' => r = .returned (.int .u64 (numAt .u64 st.DS (skey ser))) ∧ w1.drewN q = w') := fun q => HGet.out _ (Hk1.out.drewN q)
   clear HAM hri
   go_upto_region 4 with (fail)
   go_quiet ((go_at_call 150; exact quiet_left (HG1.out _)))
   go_wp2
   go_ret2
   exact hP.out _
  ·rw [if_neg hk2] at HAM
   have hki : (kind == 2) = false := beq_eq_false_iff_ne.2 hk2
   clear HGet hri
   go_upto_region 5 with (fail)
   go_wp2_with fail
   refine (HOf.out w1 Hk1.out).mono ?_
   rintro r w2 ⟨p, F, rfl, hsh2, hsome, hnone, hkk2⟩
   have Hk2 : Hid (Keeps [] w w2) := Hk1.out.trans hkk2 (by simp)
   have Hka2 : Hid (Keeps [c.be] wa w2) := Hka1.out.trans hkk2 (by simp)
   have HSh2 := Lib.hid hsh2; have Hsome := Lib.hid hsome; have Hnone := Lib.hid hnone
   have HFb : Hid (∀ x ∈ F, x ≠ c.be) := by
    intro x hx
    cases hs' : st.sh kl with
    | some s =>
     obtain ⟨_, rfl⟩ := hsome s hs'
     exact fun e => (HH.out.sh _ s hs').2.2.2 x hx (by rw [e]; simp [McC.core])
    | none =>
     have h1 := (hnone hs' x hx).1
     have h2 := Hk1.out.size
     omega
   have HFX : Hid (st.sh kl = none → ∀ x ∈ F, x ∉ X) := fun hs' x hx hX' => by
    have h1 := (hnone hs' x hx).1
    have h2 := Hk1.out.size
    have h3 := hX x hX'
    omega
   have HFN : Hid (∀ x ∈ F, x ∈ X ∨ (w.heap.size ≤ x ∧ x < w2.heap.size)) := by
    intro x hx
    cases hs' : st.sh kl with
    | some s =>
     obtain ⟨_, rfl⟩ := hsome s hs'
     exact .inl (HH.out.fpX _ (by rw [hs']; simp) x hx)
    | none =>
     have h1 := hnone hs' x hx
     have h2 := Hk1.out.size
     exact .inr (by omega)
   obtain ⟨pw, v, hbp, hwn, hown, hpF, hwF, hpw, hvF, hl8, hbd⟩ := hsh2
   have hpb := HFb.out p hpF
   have hwb := HFb.out pw hwF
   have HPc : Hid (∀ W, Keeps [c.be] w2 W → W.cell? ⟨p, 0, none⟩ = some (.pointer (some ⟨pw, 0, none⟩)) ∧ W.cell? ⟨p, 1, none⟩ = some v) := fun W hk => by
    have h2 := hk.blk hbp (by simp; omega)
    exact ⟨h2.cell 0, h2.cell 1⟩
   have HSeen : Hid (∀ W, Keeps [c.be] w2 W → ∀ q, Calls Tryz.prog 152 #[.pointer (some ⟨pw, 0, none⟩), .int .i64 seq] (W.drewN q) fun e w' => e = .returned (.bool ((st.get kl).seen seq)) ∧ ∃ m, w' = (W.drewN q).drewN m) := fun W hk q =>
    wnseen_any pw _ _ seq _ (hwn.keep (hk.drewN q) (by simp; omega)) hq.2
   have HFar : Hid (∀ W, Keeps [c.be] w2 W → ∀ q, Calls Tryz.prog 154 #[.pointer (some ⟨pw, 0, none⟩), .int .i64 seq] (W.drewN q) fun e w' => e = .returned (.bool (Win.farW (st.get kl).f seq)) ∧ W.drewN q = w') := fun W hk q =>
    wnfar_any pw _ _ seq _ (hwn.keep (hk.drewN q) (by simp; omega)) hq.2
   have HCon : Hid (∀ W, Keeps [c.be] w2 W → ∀ q, Calls Tryz.prog 153 #[v, .int .i64 seq] (W.drewN q) fun e w' => e = .returned (.bool (decide (seq ∈ (st.get kl).bad))) ∧ W.drewN q = w') := fun W hk q =>
    conI_any v _ seq _ (rd_own (own_other2 hown (hk.drewN q) (fun g' hg' => by have := HFb.out g' (hvF g' hg').1; simp; omega))) (by omega)
   clear hbp hwn hown hvF hbd hsome hnone hkk2 HOf c0 c1 c2 c3 c4 c5 c6 c7 c8 m0 m1 hl8
   obtain ⟨c0, c1, c2, c3, c4, c5, c6, c7, c8⟩ := HE.out w2 Hka2.out
   obtain ⟨m0, m1⟩ := HMc.out w2 Hka2.out
   obtain ⟨p0, p1⟩ := HPc.out w2 (Keeps.refl _ _)
   have HS2 := Lib.hid (HSeen.out w2 (Keeps.refl _ _)); have HC2 := Lib.hid (HCon.out w2 (Keeps.refl _ _))
   clear HCon
   go_upto_region 6 with (fail)
   cases hsn : (st.get kl).seen seq with
   | true =>
    rw [hsn, if_pos rfl] at HAM
    rw [hsn] at HS2 HSeen
    by_cases hbn : seq ∈ (st.get kl).bad
    ·rw [if_pos hbn] at HAM
     rw [decide_eq_true hbn] at HC2
     have hP : Hid (∀ q, ApP g X (applyM st kl ⟨kind, ag, sh, seq, ep, ds, ser, fr, tag⟩) (N + ds.length + 2) w (.returned (.tuple #[.int .i64 3, .int .u64 0])) (w2.drewN q)) := fun q => HQ.out _ _ _ (Hk2.out.drewN q) HAM.out
     clear HAM HSeen HFar
     go_quiet (first | (go_at_call 152; exact quiet_add (HS2.out _)) | (go_at_call 153; exact quiet_left (HC2.out _)))
     go_wp2
     go_ret2
     exact hP.out _
    ·rw [if_neg hbn] at HAM
     rw [decide_eq_false hbn] at HC2
     have hP : Hid (∀ q q', ApP g X (applyM st kl ⟨kind, ag, sh, seq, ep, ds, ser, fr, tag⟩) (N + ds.length + 2) w (.returned (.tuple #[.int .i64 2, .int .u64 0])) ((w2.drewN q).drewN q')) := fun q q' => HQ.out _ _ _ ((Hk2.out.drewN q).drewN q') HAM.out
     clear HAM HFar
     go_quiet (first | (go_at_call 152; exact quiet_add (HS2.out _)) | (go_at_call 153; exact quiet_left (HC2.out _)))
     have hP' := Lib.hid (hP.out nq)
     have hk3 : Hid (Keeps [c.be] w2 (w2.drewN nq)) := (Keeps.refl _ _).drewN nq
     have HS3 := Lib.hid (HSeen.out _ hk3.out)
     go_upto_region 8 with (fail)
     generalize w2.drewN nq = w3 at *
     obtain ⟨c0, c1, c2, c3, c4, c5, c6, c7, c8⟩ := HE.out w3 (Hka2.out.trans hk3.out (by simp))
     obtain ⟨p0, p1⟩ := HPc.out w3 hk3.out
     clear HSeen HS2 HC2 hP
     go_quiet ((go_at_call 152; exact quiet_add (HS3.out _)))
     go_wp2
     go_ret2
     exact hP'.out _
   | false =>
    rw [hsn, if_neg (by simp)] at HAM
    rw [hsn] at HS2 HSeen
    go_quiet (first | (go_at_call 152; exact quiet_add (HS2.out _)) | (go_at_call 153; exact quiet_left (HC2.out _)))
    have hk3 : Hid (Keeps [c.be] w2 (w2.drewN nq)) := (Keeps.refl _ _).drewN nq
    have Hk3 : Hid (Keeps [] w (w2.drewN nq)) := Hk2.out.drewN nq
    have HS3 := Lib.hid (HSeen.out _ hk3.out)
    go_upto_region 8 with (fail)
    clear c0 c1 c2 c3 c4 c5 c6 c7 c8 m0 m1 p0 p1
    generalize w2.drewN nq = w3 at *
    obtain ⟨c0, c1, c2, c3, c4, c5, c6, c7, c8⟩ := HE.out w3 (Hka2.out.trans hk3.out (by simp))
    obtain ⟨p0, p1⟩ := HPc.out w3 hk3.out
    clear HSeen HS2 HC2
    go_quiet ((go_at_call 152; exact quiet_add (HS3.out _)))
    have hk4 : Hid (Keeps [c.be] w2 (w3.drewN nq)) := hk3.out.drewN nq
    have Hk4 : Hid (Keeps [] w (w3.drewN nq)) := Hk3.out.drewN nq
    go_upto_region 10 with (fail)
    clear c0 c1 c2 c3 c4 c5 c6 c7 c8 p0 p1 HS3
    generalize w3.drewN nq = w4 at *
    clear hk3 Hk3
    obtain ⟨c0, c1, c2, c3, c4, c5, c6, c7, c8⟩ := HE.out w4 (Hka2.out.trans hk4.out (by simp))
    obtain ⟨m0, m1⟩ := HMc.out w4 (Hka2.out.trans hk4.out (by simp))
    have HM4 : Hid (∀ q, (w4.drewN q).ownsMap Tryz.prog 3 (plainElem Tryz.prog 2) c.be N st.DE) := fun q => om_keep HM2.out (Hk4.out.drewN q) (by simp)
    have hlook : ∀ q, (Instr.lookup 95 (.map (some c.be)) (.int .i64 ag) false).run Tryz.prog (w4.drewN q) = .ok (.int .i64 (numAt .i64 st.DE (ekey ag))) (w4.drewN q) := fun q => (om_num (HM4.out q) lawI uME uI64 (zI64 _) Hep.out).1
    have HIE : Hid (∀ W, Keeps [c.be] w W → W.ownsMap Tryz.prog 3 (plainElem Tryz.prog 2) c.be (N + 1) (st.DE.put (ekey ag) (.lit (.int .i64 ep))) → McIn W g c X (stE st ⟨kind, ag, sh, seq, ep, ds, ser, fr, tag⟩) (N + 1) DH) := fun W h1 h2 => mc_ep HH.out h1 h2 (by omega)
    by_cases hep : ep < numAt .i64 st.DE (ekey ag)
    ·rw [if_pos hep] at HAM
     have hepi : decide (ep < numAt .i64 st.DE (ekey ag)) = true := decide_eq_true hep
     have hP : Hid (∀ q, ApP g X (applyM st kl ⟨kind, ag, sh, seq, ep, ds, ser, fr, tag⟩) (N + ds.length + 2) w (.returned (.tuple #[.int .i64 4, .int .u64 0])) (w4.drewN q)) := fun q => HQ.out _ _ _ (Hk4.out.drewN q) HAM.out
     clear HAM HFar HIE HM4
     generalize numAt .i64 st.DE (ekey ag) = top at *
     go_quiet (fail)
     go_wp2
     go_ret2
     exact hP.out _
    ·rw [if_neg hep] at HAM
     have hepi : decide (ep < numAt .i64 st.DE (ekey ag)) = false := decide_eq_false hep
     generalize htop : numAt .i64 st.DE (ekey ag) = top at *
     clear htop hep
     go_quiet (fail)
     have hk5 : Hid (Keeps [c.be] w2 (w4.drewN nq)) := hk4.out.drewN nq
     have Hk5 : Hid (Keeps [] w (w4.drewN nq)) := Hk4.out.drewN nq
     have HM5 := Lib.hid (HM4.out nq)
     go_upto_region 12 with (fail)
     clear c0 c1 c2 c3 c4 c5 c6 c7 c8 m0 m1 hlook HM4
     generalize w4.drewN nq = w5 at *
     clear hk4 Hk4
     have HS5 : Hid (∀ W, Keeps [c.be] w5 W → W.cell? ⟨g, 1, none⟩ = some (.map (some c.be)) ∧ W.cell? ⟨g7, 1, none⟩ = some (.int .i64 ag) ∧ W.cell? ⟨g7, 4, none⟩ = some (.int .i64 ep)) := fun W hk => by
      have hka := (Hka2.out.trans hk5.out (by simp)).trans hk (by simp)
      obtain ⟨c0, c1, c2, c3, c4, c5, c6, c7, c8⟩ := HE.out W hka
      exact ⟨(HMc.out W hka).2, c1, c4⟩
     obtain ⟨w6, hupd, hown6, hturn⟩ := (om_keep HM5.out ((Keeps.refl [] w5).drew) (by simp)).store lawI uME (by unfold maxLen; omega) Hep.out (plainElem_int uI64 (WalkArith.wf_i64 hp) : plainElem (H := Unit) Tryz.prog 2 (.int .i64 ep) = _)
     have hk6 := turned_keeps hturn
     have Hk56 : Hid (Keeps [c.be] w5 w6) := (Keeps.refl [c.be] w5).drew.trans hk6 (by simp)
     have HIE6 : Hid (∀ W, Keeps [] w6 W → McIn W g c X (stE st ⟨kind, ag, sh, seq, ep, ds, ser, fr, tag⟩) (N + 1) DH) := fun W hk => HIE.out W (((Hk5.out.mono (M' := [c.be]) (by simp)).trans Hk56.out (by simp)).trans hk (by simp)) (om_keep hown6 hk (by simp))
     clear hown6 hturn hk6 HIE HM5
     refine wp_region_held_drew (S := (fun W => W.cell? ⟨g, 1, none⟩ = some (.map (some c.be)) ∧ W.cell? ⟨g7, 1, none⟩ = some (.int .i64 ag) ∧ W.cell? ⟨g7, 4, none⟩ = some (.int .i64 ep))) (by kernel_rfl) (HS5.out _ (Keeps.refl _ _).drew) (fun hHeld => ?_)
     refine wT 0 (v := ?v0d) (by kernel_rfl) rfl (by rfl) ?y0d (fun _ _ _ h => h) (by assumption) ?r0d
     case y0d => (intro w hSw; (obtain ⟨hS0, hS1, hS2⟩ := hSw); go_simp <;> with_reducible rfl)
     try simp only [sgl, Act.put]
     refine wT 1 (v := ?v1d) (by kernel_rfl) rfl (by rfl) ?y1d (fun _ _ _ h => h) (by assumption) ?r1d
     case y1d => (intro w hSw; (obtain ⟨hS0, hS1, hS2⟩ := hSw); go_simp <;> with_reducible rfl)
     try simp only [sgl, Act.put]
     refine wT 2 (v := ?v2d) (by kernel_rfl) rfl (by rfl) ?y2d (fun _ _ _ h => h) (by assumption) ?r2d
     case y2d => (intro w hSw; (obtain ⟨hS0, hS1, hS2⟩ := hSw); go_simp <;> with_reducible rfl)
     try simp only [sgl, Act.put]
     refine wT 3 (v := ?v3d) (by kernel_rfl) rfl (by rfl) ?y3d (fun _ _ _ h => h) (by assumption) ?r3d
     case y3d => (intro w hSw; (obtain ⟨hS0, hS1, hS2⟩ := hSw); go_simp <;> with_reducible rfl)
     try simp only [sgl, Act.put]
     refine wT 4 (v := ?v4d) (by kernel_rfl) rfl (by rfl) ?y4d (fun _ _ _ h => h) (by assumption) ?r4d
     case y4d => (intro w hSw; (obtain ⟨hS0, hS1, hS2⟩ := hSw); go_simp <;> with_reducible rfl)
     try simp only [sgl, Act.put]
     refine wT 5 (v := ?v5d) (by kernel_rfl) rfl (by rfl) ?y5d (fun _ _ _ h => h) (by assumption) ?r5d
     case y5d => (intro w hSw; (obtain ⟨hS0, hS1, hS2⟩ := hSw); go_simp <;> with_reducible rfl)
     try simp only [sgl, Act.put]
     refine wT 6 (v := ?v6d) (by kernel_rfl) rfl (by rfl) ?y6d (fun _ _ _ h => h) (by assumption) ?r6d
     case y6d => (intro w hSw; (obtain ⟨hS0, hS1, hS2⟩ := hSw); go_simp <;> with_reducible rfl)
     try simp only [sgl, Act.put]
     refine wT 7 (v := ?v7d) (by kernel_rfl) rfl (by rfl) ?y7d (fun _ _ _ h => h) (by assumption) ?r7d
     case y7d => (intro w hSw; (obtain ⟨hS0, hS1, hS2⟩ := hSw); go_simp <;> with_reducible rfl)
     try simp only [sgl, Act.put]
     refine wT 8 (v := ?v8d) (by kernel_rfl) rfl (by rfl) ?y8d (fun _ _ _ h => h) (by assumption) ?r8d
     case y8d => (intro w hSw; (obtain ⟨hS0, hS1, hS2⟩ := hSw); go_simp <;> with_reducible rfl)
     try simp only [sgl, Act.put]
     refine wpAnyH_ready (rs := [9]) (by kernel_rfl) (by simp) ?_
     refine AllReadyH.cons (o := _) rfl (fun K hK => ?_) AllReadyH.nil
     go_simp
     refine hK.out _ _ (HS5.out _ Hk56.out) (fun hHeld2 => ?_)
     clear hK K hHeld
     have hHeld := hHeld2
     clear hHeld2
     try simp only [sgl, Act.put]
     refine wpAnyH_done (by kernel_rfl) ?_ _
     clear hupd hHeld HS5
     have hk6 : Hid (Keeps [c.be] w2 w6) := hk5.out.trans Hk56.out (by simp)
     have Hk6 : Hid (Keeps [c.be] w w6) := (Hk5.out.mono (M' := [c.be]) (by simp)).trans Hk56.out (by simp)
     clear hk5 Hk5 Hk56
     have HF6 := Lib.hid (HFar.out w6 hk6.out)
     obtain ⟨c0, c1, c2, c3, c4, c5, c6, c7, c8⟩ := HE.out w6 (Hka2.out.trans hk6.out (by simp))
     obtain ⟨p0, p1⟩ := HPc.out w6 hk6.out
     clear HFar
     go_upto_region 13 with (fail)
     cases hfr : Win.farW (st.get kl).f seq with
     | true =>
      rw [hfr, if_pos rfl] at HAM
      rw [hfr] at HF6
      have hP : Hid (∀ q, ApP g X (applyM st kl ⟨kind, ag, sh, seq, ep, ds, ser, fr, tag⟩) (N + ds.length + 2) w (.returned (.tuple #[.int .i64 5, .int .u64 0])) (w6.drewN q)) := fun q => by
       rw [HAM.out]
       exact ⟨rfl, X, ⟨c, DH, (HIE6.out _ ((Keeps.refl _ _).drewN q)).more (by omega)⟩, fun x hx => .inl hx, (Hk6.out.drewN q).mono (by intro x hx; simp at hx; subst hx; exact .inl hbeX)⟩
      clear HAM
      go_quiet ((go_at_call 154; exact quiet_left (HF6.out _)))
      go_wp2
      go_ret2
      exact hP.out _
     | false =>
      rw [hfr, if_neg (by simp)] at HAM
      rw [hfr] at HF6
      go_quiet ((go_at_call 154; exact quiet_left (HF6.out _)))
      have hk7 : Hid (Keeps [c.be] w2 (w6.drewN nq)) := hk6.out.drewN nq
      have Hk7 : Hid (Keeps [c.be] w (w6.drewN nq)) := Hk6.out.drewN nq
      have HI7 := Lib.hid (HIE6.out _ ((Keeps.refl _ _).drewN nq))
      go_upto_region 15 with (fail)
      clear c0 c1 c2 c3 c4 c5 c6 c7 c8 p0 p1 HF6 HIE6
      generalize w6.drewN nq = w7 at *
      obtain ⟨c0, c1, c2, c3, c4, c5, c6, c7, c8⟩ := HE.out w7 (Hka2.out.trans hk7.out (by simp))
      have HC7 : Hid (Calls Tryz.prog 155 #[.pointer (some ⟨g, 0, none⟩), .pointer (some ⟨p, 0, none⟩), .agg #[.int .i64 kind, .int .i64 ag, .int .i64 sh, .int .i64 seq, .int .i64 ep, .slice A ds.length cc, .string ser, .int .i64 fr, .int .i64 tag]] w7 fun r w' => CntP g X F (countM (stE st ⟨kind, ag, sh, seq, ep, ds, ser, fr, tag⟩) kl ⟨kind, ag, sh, seq, ep, ds, ser, fr, tag⟩) (N + 1 + ds.length + 1) w7 r w') := by
       have := HCount.out hr (by simpa using hk2) (by simp only []; rw [hkl]; exact hsn) (by simp only []; rw [hkl]; exact hfr) w7 p F HI7.out (by simp only []; rw [hkl]; exact HSh2.out.keep hk7.out (fun x hx => by have := HFb.out x hx; simp; omega)) (by simp only []; rw [hkl]; exact Hsome.out) (by simp only []; rw [hkl]; exact HFX.out) (fun x hx => Nat.lt_of_lt_of_le (hX x hx) Hk7.out.size) (fun x hx => by rcases HFN.out x hx with h | h; exact Nat.lt_of_lt_of_le (hX x h) Hk7.out.size; exact Nat.lt_of_lt_of_le h.2 hk7.out.size) (HD.out.keep Hk7.out (by intro x hx; simp at hx; subst hx; exact .inl hbeX))
       simp only [] at this
       rw [hkl] at this
       exact this
      go_wp2_with fail
      refine HC7.out.mono ?_
      rintro r w8 ⟨rfl, X', hmc8, hX8, hk8⟩
      have hP : Hid (ApP g X (applyM st kl ⟨kind, ag, sh, seq, ep, ds, ser, fr, tag⟩) (N + ds.length + 2) w (.returned (.tuple #[.int .i64 (countM (stE st ⟨kind, ag, sh, seq, ep, ds, ser, fr, tag⟩) kl ⟨kind, ag, sh, seq, ep, ds, ser, fr, tag⟩).1, .int .u64 0])) w8) := by
       rw [HAM.out]
       have s1 := Hk7.out.size
       have s2 := hk8.size
       have s3 := hk7.out.size
       refine ⟨rfl, X', ?_, fun x hx => ?_, ?_⟩
       ·rw [show N + ds.length + 2 = N + 1 + ds.length + 1 by omega]; exact hmc8
       ·rcases hX8 x hx with h | h | h
        ·exact .inl h
        ·rcases HFN.out x h with h | h
         ·exact .inl h
         ·exact .inr (by omega)
        ·exact .inr (by omega)
       ·refine (Hk7.out.mono (M' := X) (by intro x hx; simp at hx; subst hx; exact .inl hbeX)).trans hk8 (fun x hx => ?_)
        rcases List.mem_append.1 hx with h | h
        ·exact .inl h
        ·rcases HFN.out x h with h | h
         ·exact .inl h
         ·exact .inr (by omega)
      clear hmc8 hX8 hk8 HC7 HAM
      go_wp2
      go_ret2
      exact hP.out
 ·have hri : (((rightE ⟨kind, ag, sh, seq, ep, ds, ser, fr, tag⟩ : Nat) : Int) == 0) = false := beq_eq_false_iff_ne.2 (by omega)
  have hri2 : (((rightE ⟨kind, ag, sh, seq, ep, ds, ser, fr, tag⟩ : Nat) : Int) != 0) = true := by rw [bne, hri]; rfl
  rw [if_neg hr] at HAM
  have hP := Lib.hid (HQ.out w1 0 0 Hk1.out HAM.out)
  clear HAM HGet HOf hr
  generalize rightE ⟨kind, ag, sh, seq, ep, ds, ser, fr, tag⟩ = rr at *
  go_wp2
  go_ret2
  exact hP.out
end Go.Proofs.YtdaceeijifjpeaaGreatDoor.Vi
end
section
namespace Go.Proofs.YtdaceeijifjpeaaGreatDoor.Vi
open Go.RowKit Base Mem
open Go.Maps (Keyed)
theorem belowQ {B : Nat} {a w : World} (h : Below B a w) (n : Nat) : Below B a (w.drewN n) := ⟨h.os, h.tape, h.output, h.size, h.block⟩
/-- A delta that may be: a number of 64 bits, a series that is no longer than a string may be. -/
def DOk (d : DeltaD) : Prop := 0 ≤ d.n ∧ d.n ≤ 18446744073709551615 ∧ d.ser.size ≤ 9223372036854775807
def MyPost (c : Int) (w : World) (e : Ending) (w' : World) : Prop := e = .returned (.int .i64 c) ∧ Below w.heap.size w w'
theorem wf_u64_bd {c : Int} (h : (Lit.int .u64 c).wf = true) : 0 ≤ c ∧ c ≤ 18446744073709551615 := by
 unfold Lit.wf at h
 rw [Bool.and_eq_true, decide_eq_true_eq, decide_eq_true_eq] at h
 exact h
theorem om_bd {w : World} {b N : Nat} {D : DataW Unit} (h : w.ownsMap Tryz.prog 9 (plainElem Tryz.prog 34) b N D) {s : ByteArray} (hs : s.size ≤ 9223372036854775807) : 0 ≤ numAt .u64 D (skey s) ∧ numAt .u64 D (skey s) ≤ 18446744073709551615 :=
 wf_u64_bd (om_num h lawS uMS uU64 (zU64 _) (skey_of hs)).2.2
theorem invKS : ∀ key kl, keyOf Tryz.prog 9 key = some kl → ∃ x, key = Value.string x := fun key kl h => by
 cases key <;> simp [keyOf, uStr, mapKey] at h
 exact ⟨_, rfl⟩
theorem invVU : ∀ v (y : DataW Unit × List MemPlace), plainElem Tryz.prog 34 v = some y → ∃ c, v = Value.int .u64 c := fun v y h => by
 obtain ⟨c, rfl, _⟩ := plainElem_int_inv uU64 h
 exact ⟨c, rfl⟩
theorem mayL_cons (DS more : DataW Unit) (d : DeltaD) (r : List DeltaD) : mayL DS more (d :: r) = if 18446744073709551615 - numAt .u64 more (skey d.ser) < d.n ∨ 18446744073709551615 - numAt .u64 DS (skey d.ser) < numAt .u64 more (skey d.ser) + d.n then none else mayL DS (more.put (skey d.ser) (.lit (.int .u64 (numAt .u64 more (skey d.ser) + d.n)))) r := rfl
set_option maxRecDepth 100000 in
set_option maxHeartbeats 2000000 in
theorem may_any (g b N : Nat) (DS : DataW Unit) (v : Value) (l : List DeltaD) (w : World) (h : SmAt w g b N DS) (hd : Ds w [] v l) (hn : ∀ d ∈ l, DOk d) (hl : l.length ≤ 1099511627776) (hN : N ≤ 1099511627776) :
  Calls Tryz.prog 248 #[.pointer (some ⟨g, 0, none⟩), v] w fun e w' => MyPost (mayS DS l) w e w' := by
 have hmm := @run_makeMap Tryz.prog
 have HM := Lib.hid h; have HD := Lib.hid hd; have Hn := Lib.hid hn
 obtain ⟨A, c, rfl, hc⟩ := hd.len
 have hb0 : Hid (Below w.heap.size w (w.alloc (.map #[] 0))) := below_new' w _
 have ho0 : Hid ((w.alloc (.map #[] 0)).ownsMap Tryz.prog 9 (plainElem (H := Unit) Tryz.prog 34) w.heap.size 0 (.map [])) := World.ownsMap_made _ _ _ _
 clear h hd hn
 obtain ⟨W0, HW0⟩ : ∃ W0 : Nat, Hid (W0 = w.heap.size) := ⟨_, rfl⟩
 go_enter Tryz.func248, Tryz.ntmps248
 go_wp2_with fail
 rw [← HW0.out] at ho0 hb0
 rw [← HW0.out]
 go_loopw [16] (fun i wr => ∃ (x : Nat) (Dm : DataW Unit), i = .int .i64 x ∧ x ≤ l.length ∧ Hid (wr.ownsMap Tryz.prog 9 (plainElem Tryz.prog 34) W0 x Dm) ∧ Hid (mayL DS (.map []) l = mayL DS Dm (l.drop x)) ∧ Hid (Below W0 w wr)) (fun i _ => l.length - (intOf i).toNat)
 case atStart => exact ⟨0, .map [], rfl, by omega, ho0, rfl, hb0⟩
 case round =>
  obtain ⟨x, Dm, rfl, hx, Hown, Hmay, Hbr⟩ := hrel
  by_cases hlt : x < l.length
  ·have hx1 : (x : Int) < (l.length : Int) := by omega
   obtain ⟨g3, off, _, e1, _, hg3, _, hcell⟩ := Rd.at_ dCell 2 (fun _ => rfl) (HD.out.keep (Keeps.of_below (M := []) (by have := Hbr.out; rw [HW0.out] at this; exact this)) (by simp)) hlt
   obtain rfl : A = some ⟨g3, off, none⟩ := by injection e1
   clear e1
   have p0 := hcell 0 _ rfl
   have p1 := hcell 1 _ rfl
   rw [Nat.add_zero] at p0
   obtain ⟨hn0, hn1, hns⟩ := Hn.out l[x] (List.getElem_mem _)
   have hM0 := Hmay.out
   rw [← List.getElem_cons_drop hlt, mayL_cons] at hM0
   have HMs : Hid (SmAt wr g b N DS) := HM.out.keep (M := []) (Keeps.of_below (by have := Hbr.out; rw [HW0.out] at this; exact this)) (by simp) (by simp)
   clear hcell Hmay
   generalize l[x] = d at *
   obtain ⟨ser, n⟩ := d
   simp only [] at p0 p1 hn0 hn1 hns hM0
   obtain ⟨hc0, hc1⟩ := om_bd Hown.out hns
   obtain ⟨he0, he1⟩ := om_bd HMs.out.2.1 hns
   have HM0 := Lib.hid hM0
   clear hM0
   have hBx := Blk.new wr 91 #[.string ser, .int .u64 n]
   have HbA := Lib.hid (Hbr.out.alloc (by have := Hbr.out.size; have := HW0.out; omega) (.cells #[.string ser, .int .u64 n] 91))
   have HownA := Lib.hid (Hown.out.alloc (.cells #[.string ser, .int .u64 n] 91))
   have HMsA : Hid (SmAt (wr.alloc (.cells #[.string ser, .int .u64 n] 91)) g b N DS) := HMs.out.keep (M := []) ((Keeps.refl _ _).alloc _) (by simp) (by simp)
   have d0 := hBx.cell 0; have d1 := hBx.cell 1
   simp only [List.getElem?_toArray, List.getElem?_cons_succ, List.getElem?_cons_zero] at d0 d1
   clear hBx HMs Hown
   go_upto_region 5 with (fail)
   clear p0 p1
   generalize wr.alloc (.cells #[.string ser, .int .u64 n] 91) = wa at *
   generalize wr.heap.size = g7 at *
   have q0 := HMsA.out.1.cell 0
   simp only [List.getElem?_toArray, List.getElem?_cons_zero] at q0
   have hlook : ∀ q, (Instr.lookup 137 (.map (some b)) (.string ser) false).run Tryz.prog (wa.drewN q) = .ok (.int .u64 (numAt .u64 DS (skey ser))) (wa.drewN q) := fun q => (om_num (w := wa.drewN q) (om_keep HMsA.out.2.1 (M := []) ((Keeps.refl _ _).drewN q) (by simp)) lawS uMS uU64 (zU64 _) (skey_of hns)).1
   go_upto_region 6 with (at_lookup; refine wpl_look_num _ rfl _ _ 137 rfl 9 34 .u64 lawS uMS uU64 (zU64 _) W0 x Dm rfl HownA.out _ _ rfl (skey_of hns) ?_)
   generalize hcd : numAt .u64 Dm (skey ser) = cd at *
   generalize hce : numAt .u64 DS (skey ser) = ce at *
   have hw1 : IntKind.u64.wrap (18446744073709551615 - cd) = 18446744073709551615 - cd := by rw [IntKind.wrap_u64]; omega
   have hw2 : IntKind.u64.wrap (18446744073709551615 - ce) = 18446744073709551615 - ce := by rw [IntKind.wrap_u64]; omega
   by_cases h1 : 18446744073709551615 - cd < n
   ·have h1i : decide (18446744073709551615 - cd < n) = true := decide_eq_true h1
    have hR : Hid (mayS DS l = 25) := by
     show _ = _
     unfold mayS
     rw [HM0.out, if_pos (.inl h1)]
    have hbw : Hid (∀ q, Below W0 w (wa.drewN q)) := fun q => belowQ HbA.out q
    go_quiet (fail)
    have hP : Hid (MyPost (mayS DS l) w (.returned (.int .i64 25)) (wa.drewN nq)) := ⟨by rw [hR.out], by rw [← HW0.out]; exact hbw.out _⟩
    go_wp2
    go_ret
    exact hP.out
   ·have h1i : decide (18446744073709551615 - cd < n) = false := decide_eq_false h1
    have hw3 : IntKind.u64.wrap (cd + n) = cd + n := by rw [IntKind.wrap_u64]; omega
    by_cases h2 : 18446744073709551615 - ce < cd + n
    ·have h2i : decide (18446744073709551615 - ce < cd + n) = true := decide_eq_true h2
     have hR : Hid (mayS DS l = 25) := by
      show _ = _
      unfold mayS
      rw [HM0.out, if_pos (.inr h2)]
     have hbw : Hid (∀ q, Below W0 w (wa.drewN q)) := fun q => belowQ HbA.out q
     go_quiet (fail)
     have hP : Hid (MyPost (mayS DS l) w (.returned (.int .i64 25)) (wa.drewN nq)) := ⟨by rw [hR.out], by rw [← HW0.out]; exact hbw.out _⟩
     go_wp2
     go_ret
     exact hP.out
    ·have h2i : decide (18446744073709551615 - ce < cd + n) = false := decide_eq_false h2
     have hbw : Hid (∀ q, Below W0 w (wa.drewN q)) := fun q => belowQ HbA.out q
     have how : Hid (∀ q, (wa.drewN q).ownsMap Tryz.prog 9 (plainElem Tryz.prog 34) W0 x Dm) := fun q => om_keep HownA.out (M := []) ((Keeps.refl _ _).drewN q) (by simp)
     have hR : Hid (mayL DS (.map []) l = mayL DS (Dm.put (skey ser) (.lit (.int .u64 (cd + n)))) (l.drop (x + 1))) := by
      show _ = _
      rw [HM0.out, if_neg (by omega)]
     clear HM0
     go_quiet (fail)
     go_wp2_with (at_mapUpdate; refine wpList_mapUpdate_own _ rfl _ _ _ 137 rfl 9 34 lawS uMS _ W0 x Dm rfl (how.out nq) (by unfold maxLen; omega) _ _ _ rfl rfl (skey_of hns) _ [] (plainElem_int uU64 (WalkArith.wf_u64 ⟨by omega, by omega⟩)) ?_)
     intro w2 hown2 hg2
     have Hown2 := Lib.hid hown2
     have Hb2 : Hid (Below W0 w w2) := (hbw.out nq).grown hg2 (by have := (hbw.out nq).size; have := HW0.out; omega) (fun j hj => by cases hj; exact Nat.le_refl _)
     clear hown2 hg2
     go_wp2
     go_roundw
     case rel => exact ⟨x + 1, _, by go_num, by omega, Hown2, hR, Hb2⟩
     case measure => simp [intOf] <;> omega
  ·obtain rfl : x = l.length := by omega
   have hM0 := Hmay.out
   rw [List.drop_length] at hM0
   have HM0 : Hid (mayL DS (.map []) l = some Dm) := hM0
   have HMs : Hid (SmAt wr g b N DS) := HM.out.keep (M := []) (Keeps.of_below (by have := Hbr.out; rw [HW0.out] at this; exact this)) (by simp) (by simp)
   have hS : Hid (mayS DS l = if 16 < Maps.size DS + newS DS Dm then 24 else 0) := by
    show _ = _
    unfold mayS
    rw [HM0.out]
   have q0 := HMs.out.1.cell 0
   simp only [List.getElem?_toArray, List.getElem?_cons_zero] at q0
   clear hM0 Hmay HM0
   have HT : Hid (Maps.Tidy Dm) := Hown.out.tidy lawS
   go_wp2_with (first | (at_len; refine wpList_len_own _ rfl _ 137 rfl 9 34 uMS _ b N DS rfl HMs.out.2.1 ?_) | (at_range; refine wpList_range_own _ rfl _ 137 rfl 9 34 lawS uMS _ W0 l.length Dm rfl Hown.out ?_; intro w0 hrg0 hg0 hs0))
   have Hrg0 := Lib.hid hrg0
   have Hb0 : Hid (Below W0 w w0) := Hbr.out.grown hg0 (by have := Hbr.out.size; have := HW0.out; omega) (fun j hj => by cases hj)
   clear hrg0 hg0 hs0
   have Hr : Hid (W0 ≤ wr.heap.size) := by show _ ≤ _; have := Hbr.out.size; have := HW0.out; omega
   generalize wr.heap.size = r at *
   go_frame
   go_loopw [9] (fun n wr => ∃ (left : Lit → Bool) (cnt k : Nat), n = .int .i64 k ∧ Hid (k + leftN DS Dm left = Maps.size DS + newS DS Dm) ∧ Hid (wr.ranges Tryz.prog 9 (plainElem Tryz.prog 34) W0 r l.length Dm left cnt) ∧ Hid (Below W0 w wr)) (fun _ wr => wr.rangeLeft W0 r)
   case atStart => exact ⟨_, _, _, rfl, (show _ = _ from rfl), Hrg0.out, Hb0.out⟩
   case round =>
    obtain ⟨left, cnt, k, rfl, Hk, Hrg, Hbw⟩ := hrel
    have HMs : Hid (SmAt wr g b N DS) := HM.out.keep (M := []) (Keeps.of_below (by have := Hbw.out; rw [HW0.out] at this; exact this)) (by simp) (by simp)
    go_wp2_with (at_next; refine wpList_next_ranges _ rfl _ rfl 9 lawS (plainElem Tryz.prog 34) Value.string (Value.int .u64) invKS invVU W0 r l.length Dm left cnt rfl Hrg.out ?_ ?_)
    ·intro hc0 hl0
     have hk : k = Maps.size DS + newS DS Dm := by
      have := Hk.out
      rw [leftN_end hl0] at this
      omega
     have hP : Hid (MyPost (mayS DS l) w (.returned (.int .i64 (if 16 < k then 24 else 0))) wr) := ⟨by rw [hS.out, hk], by rw [← HW0.out]; exact Hbw.out⟩
     clear hl0
     by_cases h16 : 16 < k
     ·have h16i : decide ((16 : Int) < (k : Int)) = true := decide_eq_true (by omega)
      rw [if_pos h16] at hP
      go_wp2
      go_ret
      exact hP.out
     ·have h16i : decide ((16 : Int) < (k : Int)) = false := decide_eq_false (by omega)
      rw [if_neg h16] at hP
      go_wp2
      go_ret
      exact hP.out
    ·intro x c kl yd yp w2 cnt2 hkey hlk hv hat hrg2 hlt2 hg2 hs2 hen
     have Hrg2 := Lib.hid hrg2
     have hm1 := hrg2.left_eq
     have hm0 := Hrg.out.left_eq
     have Hb2 : Hid (Below W0 w w2) := Hbw.out.grown hg2 (by have := Hbw.out.size; have := HW0.out; omega) (fun j hj => by cases hj; exact Hr.out)
     have HMs2 : Hid (SmAt w2 g b N DS) := HM.out.keep (M := []) (Keeps.of_below (by have := Hb2.out; rw [HW0.out] at this; exact this)) (by simp) (by simp)
     have q2 := HMs2.out.1.cell 0
     simp only [List.getElem?_toArray, List.getElem?_cons_zero] at q2
     have hstep := leftN_step (DS := DS) HT.out (lawS.key hkey) hlk (Maps.has_true_of_atKey hat)
     have Hk0 := Hk.out
     clear hs2 hg2 hrg2 hat hv hlk HMs Hbw Hrg
     cases hh : Maps.has DS kl with
     | true =>
      rw [hh, if_pos rfl] at hstep
      have hkn : Hid (k + leftN DS Dm (fun z => left z && !z.sameKey kl) = Maps.size DS + newS DS Dm) := by show _ = _; omega
      clear hstep Hk0
      go_wp2_with (at_lookup; refine wpl_look_has _ rfl _ _ 137 rfl 9 34 .u64 lawS uMS uU64 (zU64 _) b N DS rfl HMs2.out.2.1 _ _ rfl hkey ?_; rw [hh])
      go_roundw
      case rel => exact ⟨_, _, k, rfl, hkn, Hrg2.out, Hb2.out⟩
      case measure => omega
     | false =>
      rw [hh, if_neg (by simp)] at hstep
      have hkn : Hid ((k + 1) + leftN DS Dm (fun z => left z && !z.sameKey kl) = Maps.size DS + newS DS Dm) := by show _ = _; omega
      have hkb : k < 4611686018427387904 := by
       have h1 := HMs2.out.2.1.size_le
       have h2 := leftN_le DS Dm (Maps.has Dm)
       have h3 := Hrg2.out.owns.size_le
       have h4 := hkn.out
       unfold newS at h4
       omega
      clear hstep Hk0
      go_wp2_with (at_lookup; refine wpl_look_has _ rfl _ _ 137 rfl 9 34 .u64 lawS uMS uU64 (zU64 _) b N DS rfl HMs2.out.2.1 _ _ rfl hkey ?_; rw [hh])
      go_roundw
      case rel => exact ⟨_, _, k + 1, by go_num, hkn, Hrg2.out, Hb2.out⟩
      case measure => omega
theorem addL_cons (DS : DataW Unit) (d : DeltaD) (r : List DeltaD) : addL DS (d :: r) = addL (DS.put (skey d.ser) (.lit (.int .u64 (addZ (numAt .u64 DS (skey d.ser)) d.n)))) r := rfl
theorem addZ_nat (a b : Nat) : addZ (a : Int) (b : Int) = ((addS a b : Nat) : Int) := by
 unfold addZ addS
 split <;> split <;> first | rfl | omega
def SaPost (g b N : Nat) (DS : DataW Unit) (l : List DeltaD) (w : World) (e : Ending) (w' : World) : Prop :=
 e = .returned (.int .i64 (mayS DS l)) ∧ SmAt w' g b (N + l.length) (if mayS DS l = 0 then addL DS l else DS) ∧ Keeps [b] w w'
theorem SmAt.more {w : World} {g b N N' : Nat} {D : DataW Unit} (h : SmAt w g b N D) (hN : N ≤ N') : SmAt w g b N' D := ⟨h.1, h.2.1.mono hN, h.2.2⟩
set_option maxRecDepth 100000 in
set_option maxHeartbeats 2000000 in
theorem smadd_any (g b N : Nat) (DS : DataW Unit) (v : Value) (l : List DeltaD) (w : World) (h : SmAt w g b N DS) (hd : Ds w [b] v l) (hn : ∀ d ∈ l, DOk d) (hl : l.length ≤ 1099511627776) (hN : N ≤ 1099511627776) :
  Calls Tryz.prog 205 #[.pointer (some ⟨g, 0, none⟩), v] w fun e w' => SaPost g b N DS l w e w' := by
 have HY := Lib.hid (may_any g b N DS v l w h (hd.avoid (M' := []) (by simp)) hn hl hN)
 have HM := Lib.hid h; have HD := Lib.hid hd; have Hn := Lib.hid hn
 obtain ⟨A, c, rfl, hc⟩ := hd.len
 clear h hd hn
 go_enter Tryz.func205, Tryz.ntmps205
 go_wp2_with fail
 refine HY.out.mono ?_
 rintro e w1 ⟨rfl, hb1⟩
 have HM1 : Hid (SmAt w1 g b N DS) := HM.out.keep (M := []) (Keeps.of_below hb1) (by simp) (by simp)
 have HD1 : Hid (Ds w1 [b] (.slice A l.length c) l) := HD.out.keep (M' := []) (Keeps.of_below hb1) (by simp)
 have Hk1 : Hid (Keeps [b] w w1) := (Keeps.of_below hb1).mono (M := []) (by simp)
 clear HY hb1 HM HD
 by_cases hm : mayS DS l = 0
 ·have hR : Hid (∀ w', SmAt w' g b (N + l.length) (addL DS l) → Keeps [b] w w' → SaPost g b N DS l w (.returned (.int .i64 0)) w') := fun w' h1 h2 => ⟨by rw [hm], by rw [if_pos hm]; exact h1, h2⟩
  rw [hm]
  clear hm
  go_wp2_with fail
  go_loopw [16] (fun i wr => ∃ (x : Nat) (Dx : DataW Unit), i = .int .i64 x ∧ x ≤ l.length ∧ Hid (SmAt wr g b (N + x) Dx) ∧ Hid (addL DS l = addL Dx (l.drop x)) ∧ Hid (Keeps [b] w wr) ∧ Hid (Keeps [b] w1 wr)) (fun i _ => l.length - (intOf i).toNat)
  case atStart => exact ⟨0, DS, rfl, by omega, HM1.out, rfl, Hk1.out, Keeps.refl _ _⟩
  case round =>
   obtain ⟨x, Dx, rfl, hx, HMr, Hadd, Hkr, Hkr1⟩ := hrel
   by_cases hlt : x < l.length
   ·have hx1 : (x : Int) < (l.length : Int) := by omega
    obtain ⟨g3, off, _, e1, _, hg3, _, hcell⟩ := Rd.at_ dCell 2 (fun _ => rfl) (HD1.out.keep Hkr1.out (by simp)) hlt
    obtain rfl : A = some ⟨g3, off, none⟩ := by injection e1
    clear e1
    have p0 := hcell 0 _ rfl
    have p1 := hcell 1 _ rfl
    rw [Nat.add_zero] at p0
    obtain ⟨hn0, hn1, hns⟩ := Hn.out l[x] (List.getElem_mem _)
    have hM0 := Hadd.out
    rw [← List.getElem_cons_drop hlt, addL_cons] at hM0
    clear hcell Hadd
    generalize l[x] = d at *
    obtain ⟨ser, nn⟩ := d
    simp only [] at p0 p1 hn0 hn1 hns hM0
    obtain ⟨n, rfl⟩ := Int.eq_ofNat_of_zero_le hn0
    obtain ⟨hc0, hc1⟩ := om_bd HMr.out.2.1 hns
    obtain ⟨cd, hcd⟩ := Int.eq_ofNat_of_zero_le hc0
    rw [hcd, addZ_nat] at hM0
    rw [hcd] at hc1
    have HM0 := Lib.hid hM0
    have hcd9 : cd < 18446744073709551616 := by omega
    have hn9 : n < 18446744073709551616 := by omega
    have hs9 : addS cd n ≤ 18446744073709551615 := by unfold addS; split <;> omega
    clear hM0
    have hbl : b < wr.heap.size := HMr.out.2.1.lt
    have hgl : g < wr.heap.size := HMr.out.1.lt
    have hgb : g ≠ b := HMr.out.2.2
    have hBx := Blk.new wr 91 #[.string ser, .int .u64 n]
    have HkA : Hid (Keeps [b] w (wr.alloc (.cells #[.string ser, .int .u64 n] 91))) := Hkr.out.alloc _
    have HkA1 : Hid (Keeps [b] w1 (wr.alloc (.cells #[.string ser, .int .u64 n] 91))) := Hkr1.out.alloc _
    have HMA : Hid (SmAt (wr.alloc (.cells #[.string ser, .int .u64 n] 91)) g b (N + x) Dx) := HMr.out.keep (M := []) ((Keeps.refl _ _).alloc _) (by simp) (by simp)
    have HBx := Lib.hid hBx
    have hb7 : b ≠ wr.heap.size := by omega
    have Hb7 := Lib.hid hb7
    clear hBx HMr
    go_upto_region 7 with (fail)
    clear p0 p1
    generalize wr.alloc (.cells #[.string ser, .int .u64 n] 91) = wa at *
    generalize wr.heap.size = g7 at *
    have HSB : Hid (∀ W, Keeps [b] wa W → W.cell? ⟨g, 0, none⟩ = some (.map (some b)) ∧ W.cell? ⟨g7, 0, none⟩ = some (.string ser) ∧ W.cell? ⟨g7, 1, none⟩ = some (.int .u64 n)) := fun W hk =>
     ⟨(hk.blk HMA.out.1 (by simp [hgb])).cell 0, (hk.blk HBx.out (by simp; exact Ne.symm hb7)).cell 0, (hk.blk HBx.out (by simp; exact Ne.symm hb7)).cell 1⟩
    have Hown : Hid (wa.drew.ownsMap Tryz.prog 9 (plainElem Tryz.prog 34) b (N + x) Dx) := HMA.out.2.1
    have hlook := (om_num Hown.out lawS uMS uU64 (zU64 _) (skey_of hns)).1
    rw [hcd] at hlook
    obtain ⟨w2, hupd, hown2, hturn⟩ := Hown.out.store lawS uMS (by unfold maxLen; omega) (skey_of hns) (plainElem_int uU64 (WalkArith.wf_u64 ⟨by omega, by omega⟩) : plainElem (H := Unit) Tryz.prog 34 (.int .u64 ((addS cd n : Nat) : Int)) = _)
    have hk2 := turned_keeps hturn
    have HkF : Hid (Keeps [b] w w2) := HkA.out.drew.trans hk2 (by simp)
    have HkF1 : Hid (Keeps [b] w1 w2) := HkA1.out.drew.trans hk2 (by simp)
    have HkW : Hid (Keeps [b] wa w2) := ((Keeps.refl _ _).drew).trans hk2 (by simp)
    have HMF : Hid (SmAt w2 g b (N + (x + 1)) (Dx.put (skey ser) (.lit (.int .u64 ((addS cd n : Nat) : Int))))) := ⟨HkW.out.blk HMA.out.1 (by simp [hgb]), hown2, hgb⟩
    clear hown2 hturn hk2 hcd hc0 hc1 hn0 hn1
    refine wp_region_held_drew (S := (fun W => W.cell? ⟨g, 0, none⟩ = some (.map (some b)) ∧ W.cell? ⟨g7, 0, none⟩ = some (.string ser) ∧ W.cell? ⟨g7, 1, none⟩ = some (.int .u64 n))) (by kernel_rfl) (HSB.out _ (Keeps.refl _ _).drew) (fun hHeld => ?_)
    refine wT 0 (v := ?v0) (by kernel_rfl) rfl (by rfl) ?y0 (fun _ _ _ h => h) (by assumption) ?r0
    case y0 => (intro w hSw; (obtain ⟨hS0, hS1, hS2⟩ := hSw); go_simp <;> with_reducible rfl)
    try simp only [sgl, Act.put]
    refine wT 1 (v := ?v1) (by kernel_rfl) rfl (by rfl) ?y1 (fun _ _ _ h => h) (by assumption) ?r1
    case y1 => (intro w hSw; (obtain ⟨hS0, hS1, hS2⟩ := hSw); go_simp <;> with_reducible rfl)
    try simp only [sgl, Act.put]
    refine wT 2 (v := ?v2) (by kernel_rfl) rfl (by rfl) ?y2 (fun _ _ _ h => h) (by assumption) ?r2
    case y2 => (intro w hSw; (obtain ⟨hS0, hS1, hS2⟩ := hSw); go_simp <;> with_reducible rfl)
    try simp only [sgl, Act.put]
    refine wT 3 (v := ?v3) (by kernel_rfl) rfl (by rfl) ?y3 (fun _ _ _ h => h) (by assumption) ?r3
    case y3 => (intro w hSw; (obtain ⟨hS0, hS1, hS2⟩ := hSw); go_simp <;> with_reducible rfl)
    try simp only [sgl, Act.put]
    refine wT 4 (v := ?v4) (by kernel_rfl) rfl (by rfl) ?y4 (fun _ _ _ h => h) (by assumption) ?r4
    case y4 => (intro w hSw; (obtain ⟨hS0, hS1, hS2⟩ := hSw); go_simp <;> with_reducible rfl)
    try simp only [sgl, Act.put]
    refine wT 5 (v := ?v5) (by kernel_rfl) rfl (by rfl) ?y5 (fun _ _ _ h => h) (by assumption) ?r5
    case y5 => (intro w hSw; (obtain ⟨hS0, hS1, hS2⟩ := hSw); go_simp <;> with_reducible rfl)
    try simp only [sgl, Act.put]
    refine wT 6 (v := ?v6) (by kernel_rfl) rfl (by rfl) ?y6 (fun _ _ _ h => h) (by assumption) ?r6
    case y6 => (intro w hSw; (obtain ⟨hS0, hS1, hS2⟩ := hSw); go_simp <;> with_reducible rfl)
    try simp only [sgl, Act.put]
    refine wT 7 (v := ?v7) (by kernel_rfl) rfl (by rfl) ?y7 (fun _ _ _ h => h) (by assumption) ?r7
    case y7 => (intro w hSw; (obtain ⟨hS0, hS1, hS2⟩ := hSw); go_simp <;> with_reducible rfl)
    try simp only [sgl, Act.put]
    refine wT 8 (v := ?v8) (by kernel_rfl) rfl (by rfl) ?y8 (fun _ _ _ h => h) (by assumption) ?r8
    case y8 => (intro w hSw; (obtain ⟨hS0, hS1, hS2⟩ := hSw); go_simp <;> with_reducible rfl)
    try simp only [sgl, Act.put]
    refine wT 9 (v := ?v9) (by kernel_rfl) rfl (by rfl) ?y9 (fun _ _ _ h => h) (by assumption) ?r9
    case y9 => (intro w hSw; (obtain ⟨hS0, hS1, hS2⟩ := hSw); go_simp <;> with_reducible rfl)
    try simp only [sgl, Act.put]
    refine wT 10 (v := ?v10) (by kernel_rfl) rfl (by rfl) ?y10 (fun _ _ _ h => h) (by assumption) ?r10
    case y10 => (intro w hSw; (obtain ⟨hS0, hS1, hS2⟩ := hSw); go_simp <;> with_reducible rfl)
    try simp only [sgl, Act.put]
    refine wT 11 (v := ?v11) (by kernel_rfl) rfl (by rfl) ?y11 (fun _ _ _ h => h) (by assumption) ?r11
    case y11 => (intro w hSw; (obtain ⟨hS0, hS1, hS2⟩ := hSw); go_simp <;> with_reducible rfl)
    try simp only [sgl, Act.put]
    refine wT 13 (v := ?v13) (by kernel_rfl) rfl (by rfl) ?y13 (fun _ _ _ h => h) (by assumption) ?r13
    case y13 => (intro w hSw; (obtain ⟨hS0, hS1, hS2⟩ := hSw); go_simp <;> with_reducible rfl)
    try simp only [sgl, Act.put]
    refine wT 14 (v := ?v14) (by kernel_rfl) rfl (by rfl) ?y14 (fun _ _ _ h => h) (by assumption) ?r14
    case y14 => (intro w hSw; (obtain ⟨hS0, hS1, hS2⟩ := hSw); go_simp <;> with_reducible rfl)
    try simp only [sgl, Act.put]
    refine wpAnyH_ready (rs := [12]) (by kernel_rfl) (by simp) ?_
    refine AllReadyH.cons (o := _) rfl (fun K hK => ?_) AllReadyH.nil
    go_simp
    refine hK.out _ _ (HSB.out _ (Keeps.refl _ _).drew) (fun hHeld2 => ?_)
    clear hK K hHeld
    have hHeld := hHeld2
    clear hHeld2
    try simp only [sgl, Act.put]
    refine wpAnyH_ready (rs := [15]) (by kernel_rfl) (by simp) ?_
    refine AllReadyH.cons (o := _) rfl (fun K hK => ?_) AllReadyH.nil
    go_simp
    refine (add_any cd n _ hcd9 hn9).mono ?_
    rintro e w7 ⟨rfl, rfl⟩
    refine hK.out _ _ (HSB.out _ (Keeps.refl _ _).drew) (fun hHeld2 => ?_)
    clear hK K hHeld
    have hHeld := hHeld2
    clear hHeld2
    try simp only [sgl, Act.put]
    refine wpAnyH_ready (rs := [16]) (by kernel_rfl) (by simp) ?_
    refine AllReadyH.cons (o := _) rfl (fun K hK => ?_) AllReadyH.nil
    go_simp
    refine hK.out _ _ (HSB.out _ HkW.out) (fun hHeld2 => ?_)
    clear hK K hHeld
    have hHeld := hHeld2
    clear hHeld2
    try simp only [sgl, Act.put]
    refine wpAnyH_done (by kernel_rfl) ?_ _
    clear hupd hlook
    go_wp2
    go_roundw
    case rel => exact ⟨x + 1, _, by go_num, by omega, HMF, HM0, HkF, HkF1⟩
    case measure => simp [intOf] <;> omega
   ·obtain rfl : x = l.length := by omega
    have hP : Hid (SaPost g b N DS l w (.returned (.int .i64 0)) wr) := hR.out wr (by
     have := Hadd.out
     rw [List.drop_length] at this
     rw [this]
     exact HMr.out) Hkr.out
    go_wp2
    go_ret
    exact hP.out
 ·have hP : Hid (SaPost g b N DS l w (.returned (.int .i64 (mayS DS l))) w1) := ⟨rfl, by rw [if_neg hm]; exact HM1.out.more (by omega), Hk1.out⟩
  have hmi : decide (mayS DS l = 0) = false := decide_eq_false hm
  generalize mayS DS l = mm at *
  go_wp2
  go_ret
  exact hP.out
end Go.Proofs.YtdaceeijifjpeaaGreatDoor.Vi
end
