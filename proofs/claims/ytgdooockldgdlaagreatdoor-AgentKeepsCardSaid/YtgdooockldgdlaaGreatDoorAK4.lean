/- Texts put together: Bk1, Bk2, Bk3, Map, McQ, WinP, EntB, PlN, PlE, PlE2, EntC, EntK, Tape, Tape2, Tape3, EntE, McP, WinA, WinB, WinC, WinD, CtA, McA, Tag, Qu2, Qu3. -/
import Derived.Deep.RegionHeld3
import Derived.Deep.RegionWith
import Derived.Maps.RangeWalk
import Derived.DeepKeys4
import Derived.WalkKit
import Derived.Lib.Hide
import Derived.Lib.Strings
import Derived.BigQuiet
import Derived.Deep.QuietTactic
import Derived.Deep.DeepCutAuto
import Derived.Handy
import Derived.StillTailTactics
import Derived.Test.YtgdooockldgdlaaGreatDoorAK1
import Derived.Test.YtgdooockldgdlaaGreatDoorAK3
set_option linter.unusedVariables false
set_option linter.unusedSimpArgs false
section
namespace Go.Proofs.YtgdooockldgdlaaGreatDoor.Vi
open Go.RowKit Base Mem
def iV (n : Nat) : Value := .int .i64 n
def Ns (w : World) (M : List Nat) (v : Value) (l : List Nat) : Prop := Rd w M 1 v l.length (l.map iV)
theorem uv_len (n : Nat) (h : n ≤ 18446744073709551615) : (Lib.uvarint n).length ≤ 10 := Lib.uvarint_length64 (by omega)
theorem uvs_len (l : List Nat) (h : ∀ n ∈ l, n ≤ 9223372036854775807) : (l.flatMap Lib.uvarint).length ≤ l.length * 10 := by
 induction l with
 | nil => simp
 | cons a l ih =>
  have h1 := uv_len a (by have := h a (by simp); omega)
  have h2 := ih (fun n hn => h n (by simp [hn]))
  simp only [List.flatMap_cons, List.length_append, List.length_cons]
  omega
set_option maxRecDepth 100000 in
theorem record_any (kind : Nat) (v : Value) (l : List Nat) (w : World) (h : Ns w [] v l) (hk : kind ≤ 100) (hl : ∀ n ∈ l, n ≤ 9223372036854775807) (hlen : l.length ≤ 10) :
  Calls Tryz.prog 104 #[.int .u64 kind, v] w fun e w' => BsPost (Lib.uvarint kind ++ l.flatMap Lib.uvarint) w e w' := by
 obtain ⟨A, c, rfl, hc, _, hr⟩ := id h
 have H := Lib.hid h
 have HR := Lib.hid hr
 have hp0 := Lib.hid (put_any (.slice none 0 0) [] kind w (Bs.nil _ _) (by omega) (by simp))
 have hpn : Hid (∀ W A' (L : List UInt8) (n : Nat), Bs W [] (.slice A' L.length L.length) L → n ≤ 9223372036854775807 → L.length ≤ 1000 → Calls Tryz.prog 162 #[.slice A' L.length L.length, .int .u64 n] W fun e w' => BsPost (L ++ Lib.uvarint n) W e w') := fun W A' L n hb hn hL => put_any _ L n W hb (by omega) (by omega)
 have hk10 := uv_len kind (by omega)
 have HP : Hid (∀ e W, BsPost (Lib.uvarint kind ++ l.flatMap Lib.uvarint) w e W = ∃ A, e = .returned (.slice A (Lib.uvarint kind ++ l.flatMap Lib.uvarint).length (Lib.uvarint kind ++ l.flatMap Lib.uvarint).length) ∧ (∀ M, (∀ g ∈ M, g < w.heap.size) → Bs W M (.slice A (Lib.uvarint kind ++ l.flatMap Lib.uvarint).length (Lib.uvarint kind ++ l.flatMap Lib.uvarint).length) (Lib.uvarint kind ++ l.flatMap Lib.uvarint)) ∧ Below w.heap.size w W) := fun e W => rfl
 have Hl := Lib.hid hl
 clear h hr hl
 go_enter Tryz.func104, Tryz.ntmps104
 go_wp2_with fail
 refine hp0.out.mono ?_
 rintro e w1 ⟨A1, rfl, hB1, hb1⟩
 have HB1 := Lib.hid hB1; have Hb1 := Lib.hid hb1
 clear hB1 hb1 hp0
 simp only [List.nil_append] at HB1 ⊢
 go_wp2_with fail
 go_loopw [5, 12] (fun b i wr => ∃ (k : Nat) (A' : Option Addr) (L : List UInt8), k ≤ l.length ∧ i = .int .i64 k ∧ b = .slice A' L.length L.length ∧ L.length ≤ 10 + k * 10 ∧ Hid (L = Lib.uvarint kind ++ (l.take k).flatMap Lib.uvarint) ∧ Hid (∀ M, (∀ g ∈ M, g < w.heap.size) → Bs wr M (.slice A' L.length L.length) L) ∧ Hid (Below w.heap.size w wr))
  (fun _ i _ => l.length - (intOf i).toNat)
 case atStart => exact ⟨0, A1, Lib.uvarint kind, by omega, rfl, rfl, by omega, (by show _ = _; simp), HB1.out, Hb1.out⟩
 case round =>
  obtain ⟨k, A', L, hkl, rfl, rfl, hLl, HL, HB, Hb⟩ := hrel
  by_cases hlt : k < l.length
  ·obtain ⟨g, off, rfl, hg, _, hx⟩ := HR.out (by omega)
   have hck : w.cell? ⟨g, off + k, none⟩ = some (.int .i64 l[k]) := hx k (iV l[k]) (by rw [List.getElem?_map, List.getElem?_eq_getElem hlt]; rfl)
   have hcw : wr.cell? ⟨g, off + k, none⟩ = some (.int .i64 l[k]) := (Hb.out.cell (p := ⟨g, off + k, none⟩) hg).trans hck
   have hn := Hl.out _ (List.getElem_mem hlt)
   have Htk : Hid (L ++ Lib.uvarint l[k] = Lib.uvarint kind ++ (l.take (k + 1)).flatMap Lib.uvarint) := by
    show _ = _
    rw [HL.out, List.take_succ_eq_append_getElem hlt, List.flatMap_append]; simp
   have h10 := uv_len l[k] (by omega)
   have hlk : k ≤ 10 := by omega
   clear hx hck
   generalize l[k] = n at *
   have hwn : IntKind.u64.wrap (n : Int) = (n : Int) := by rw [IntKind.wrap_u64]; omega
   go_wp2_with fail
   refine (hpn.out wr A' L n (HB.out [] (by simp)) hn (by omega)).mono ?_
   rintro e w2 ⟨A2, rfl, hB2, hb2⟩
   have HB2 : Hid (∀ M, (∀ g ∈ M, g < w.heap.size) → Bs w2 M (.slice A2 (L ++ Lib.uvarint n).length (L ++ Lib.uvarint n).length) (L ++ Lib.uvarint n)) := fun M hM => hB2 M (fun g hg => Nat.lt_of_lt_of_le (hM g hg) Hb.out.size)
   have Hb2 : Hid (Below w.heap.size w w2) := Hb.out.trans (hb2.mono Hb.out.size)
   have hL2 : (L ++ Lib.uvarint n).length ≤ 10 + (k + 1) * 10 := by rw [List.length_append]; omega
   clear hB2 hb2 hcw
   generalize L ++ Lib.uvarint n = L2 at *
   go_wp2
   go_roundw
   case rel => exact ⟨k + 1, A2, L2, by omega, by go_num, rfl, by omega, Htk, HB2, Hb2⟩
   case measure => simp [intOf]; omega
  ·have hkk : k = l.length := by omega
   have hR : Hid (BsPost (Lib.uvarint kind ++ l.flatMap Lib.uvarint) w (.returned (.slice A' L.length L.length)) wr) := by
    have e : L = Lib.uvarint kind ++ l.flatMap Lib.uvarint := by rw [HL.out, hkk, List.take_length]
    rw [← e]
    exact ⟨A', rfl, HB.out, Hb.out⟩
   clear HP
   go_wp2
   go_ret
   exact hR.out
def RecPost (l : List UInt8) (w : World) (e : Ending) (w' : World) : Prop := ∃ A, e = .returned (.slice A l.length l.length) ∧ Bs w' [] (.slice A l.length l.length) l ∧ Below w.heap.size w w'
def recE (n : Nat) : List UInt8 := Lib.uvarint 1 ++ [n].flatMap Lib.uvarint
def recS (d : DeltaD) : List UInt8 := Lib.uvarint 2 ++ [d].flatMap dBytes
def recB (k : Nat) (b : BatD) : List UInt8 := Lib.uvarint 3 ++ [k, b.seq.toNat, b.ds.length].flatMap Lib.uvarint ++ b.ds.flatMap dBytes
def recD (k n : Nat) : List UInt8 := Lib.uvarint 5 ++ [k, n].flatMap Lib.uvarint
theorem ns_new (w : World) (l : List Nat) (cs : Array Value) (h : cs = (l.map iV).toArray) : Ns (w.alloc (.cells cs 2)) [] (.slice (some ⟨w.heap.size, 0, none⟩) l.length l.length) l := by
 subst h
 refine ⟨_, _, rfl, Nat.le_refl _, by simp, fun _ => ⟨w.heap.size, 0, rfl, by simp, by simp, fun j u hu => ?_⟩⟩
 rw [(Base.Blk.new w 2 _).cell, Nat.zero_add]
 simpa using hu
theorem rec_call (kind : Nat) (l : List Nat) (W : World) (cs : Array Value) (hcs : cs = (l.map iV).toArray) (hk : kind ≤ 100) (hl : ∀ n ∈ l, n ≤ 9223372036854775807) (hlen : l.length ≤ 10) (n : Nat) (hn : n = l.length) :
  Calls Tryz.prog 104 #[.int .u64 kind, .slice (some ⟨W.heap.size, 0, none⟩) n n] (W.alloc (.cells cs 2)) fun e w' => RecPost (Lib.uvarint kind ++ l.flatMap Lib.uvarint) W e w' := by
 subst hn
 refine (record_any kind _ l _ (ns_new W l cs hcs) hk hl hlen).mono ?_
 rintro e w' ⟨A, h1, h2, h3⟩
 exact ⟨A, h1, h2 [] (by simp), (below_new' W _).trans (h3.mono (by simp))⟩
theorem RecPost.val {l : List UInt8} {w w' : World} {e : Ending} (h : RecPost l w e w') : ∃ A n, e = .returned (.slice A n n) := by
 obtain ⟨A, h, _⟩ := h
 exact ⟨A, _, h⟩
theorem bkepoch_any (n : Nat) (w : World) (hn : n ≤ 9223372036854775807) :
  Calls Tryz.prog 58 #[.int .i64 n] w fun e w' => RecPost (recE n) w e w' := by
 have hr := Lib.hid (rec_call 1 [n] w #[.int .i64 n] rfl (by omega) (by simpa using hn) (by simp) 1 rfl)
 have hv : Hid (∀ e W, RecPost (Lib.uvarint 1 ++ [n].flatMap Lib.uvarint) w e W → (∃ A m, e = .returned (.slice A m m)) ∧ RecPost (recE n) w e W) := fun e W h => ⟨h.val, h⟩
 go_enter Tryz.func58, Tryz.ntmps58
 go_wp2_with fail
 refine hr.out.mono ?_
 intro e w1 hp
 obtain ⟨⟨A, m, rfl⟩, hp⟩ := hv.out _ _ hp
 have Hp := Lib.hid hp
 clear hp hr hv
 go_wp2
 go_ret
 exact Hp.out
theorem bkdone_any (k n : Nat) (w : World) (hk : k ≤ 9223372036854775807) (hn : n ≤ 9223372036854775807) :
  Calls Tryz.prog 121 #[.int .i64 k, .int .i64 n] w fun e w' => RecPost (recD k n) w e w' := by
 have hr := Lib.hid (rec_call 5 [k, n] w #[.int .i64 k, .int .i64 n] rfl (by omega) (by simp; omega) (by simp) 2 rfl)
 have hv : Hid (∀ e W, RecPost (Lib.uvarint 5 ++ [k, n].flatMap Lib.uvarint) w e W → (∃ A m, e = .returned (.slice A m m)) ∧ RecPost (recD k n) w e W) := fun e W h => ⟨h.val, h⟩
 go_enter Tryz.func121, Tryz.ntmps121
 go_wp2_with fail
 refine hr.out.mono ?_
 intro e w1 hp
 obtain ⟨⟨A, m, rfl⟩, hp⟩ := hv.out _ _ hp
 have Hp := Lib.hid hp
 clear hp hr hv
 go_wp2
 go_ret
 exact Hp.out
theorem ds_new (w : World) (d : DeltaD) : Ds (w.alloc (.cells #[.string d.ser, .int .u64 d.n] 38)) [] (.slice (some ⟨w.heap.size, 0, none⟩) 1 1) [d] := by
 refine ⟨_, _, rfl, Nat.le_refl _, rfl, fun _ => ⟨w.heap.size, 0, rfl, by simp, by simp, fun j u hu => ?_⟩⟩
 rw [(Base.Blk.new w 38 _).cell, Nat.zero_add]
 simpa [dCells, dCell] using hu
set_option maxRecDepth 100000 in
theorem bksample_any (d : DeltaD) (w : World) (hn : NOk d) (hs : d.ser.size ≤ 100000000000) :
    Calls Tryz.prog 61 #[.agg #[.string d.ser, .int .u64 d.n]] w fun e w' => RecPost (recS d) w e w' := by
  obtain ⟨w0, hw0⟩ : ∃ w0, w0 = w.alloc (.cells #[.string d.ser, .int .u64 d.n] 38) := ⟨_, rfl⟩
  have hb0 : Below w.heap.size w w0 := by rw [hw0]; exact (Below.refl _ _).alloc (Nat.le_refl _) _
  have hB0 : Blk w0 w.heap.size 38 #[.string d.ser, .int .u64 d.n] := by rw [hw0]; exact Blk.new w _ _
  have hS : Hid (∀ W, Keeps [] w0 W → W.cell? ⟨w.heap.size, 0, none⟩ = some (.string d.ser) ∧ W.cell? ⟨w.heap.size, 1, none⟩ = some (.int .u64 d.n)) := fun W hk => by
    have := hk.blk hB0 (by simp)
    exact ⟨this.cell 0, this.cell 1⟩
  have hrec : Hid (∀ W, Calls Tryz.prog 104 #[.int .u64 2, .slice none 0 0] W fun e w' => ∃ A, e = .returned (.slice A (Lib.uvarint 2).length (Lib.uvarint 2).length) ∧ Bs w' [] (.slice A (Lib.uvarint 2).length (Lib.uvarint 2).length) (Lib.uvarint 2) ∧ Below W.heap.size W w') := fun W => by
    refine (record_any 2 _ [] W ⟨none, 0, rfl, Nat.le_refl _, rfl, fun h => absurd h (by simp)⟩ (by omega) (by simp) (by simp)).mono ?_
    rintro e w' ⟨A, h1, h2, h3⟩
    simp only [List.flatMap_nil, List.append_nil] at h1 h2
    exact ⟨A, h1, h2 [] (by simp), h3⟩
  have hsz : ([d].flatMap dBytes).length ≤ 100000000100 := by
    have h1 := uv_len d.ser.size (by omega)
    have h2 := uv_len d.n.toNat (by have := hn.2; omega)
    simp [dBytes, sB]; omega
  have hU2 := uv_len 2 (by omega)
  have hput : Hid (∀ W A dv, Bs W [] (.slice A (Lib.uvarint 2).length (Lib.uvarint 2).length) (Lib.uvarint 2) → Ds W [] dv [d] → Keeps [] w0 W → Calls Tryz.prog 108 #[.slice A (Lib.uvarint 2).length (Lib.uvarint 2).length, dv] W fun e w' => ∃ A' n', e = .returned (.slice A' n' n') ∧ RecPost (recS d) w e w' ∧ Keeps [] w0 w') := fun W A dv h1 h2 hk => by
    refine (eput_any [] A (Lib.uvarint 2) dv [d] W (by simp) h1 h2 (by simpa using hn) (by simp) (by omega)).mono ?_
    rintro e w' ⟨A', h3, h4, h5⟩
    exact ⟨A', _, h3, ⟨A', h3, h4, hb0.trans ((hk.below.trans (h5.mono hk.size)).mono hb0.size)⟩, hk.trans (Keeps.of_below (M := []) h5) (by simp)⟩
  have hds : Hid (∀ W : World, Ds (W.alloc (.cells #[.string d.ser, .int .u64 d.n] 38)) [] (.slice (some ⟨W.heap.size, 0, none⟩) 1 1) [d]) := fun W => ds_new W d
  have hds2 : Hid (∀ W W' : World, Keeps [] (W.alloc (.cells #[.string d.ser, .int .u64 d.n] 38)).drew W' → Ds W' [] (.slice (some ⟨W.heap.size, 0, none⟩) 1 1) [d]) := fun W W' hk => Rd.keep (w := (W.alloc (.cells #[.string d.ser, .int .u64 d.n] 38)).drew) (ds_new W d) hk (by simp)
  clear hB0 hb0 hsz hU2
  generalize Lib.uvarint 2 = U at *
  go_enter Tryz.func61, Tryz.ntmps61
  go_upto_region 1 with (fail)
  rw [← hw0]
  clear hw0
  have Hk0 := Lib.hid (Keeps.refl [] w0)
  go_region_held3 (fun W => W.cell? ⟨w.heap.size, 0, none⟩ = some (.string d.ser) ∧ W.cell? ⟨w.heap.size, 1, none⟩ = some (.int .u64 d.n))
    ((refine hS.out _ ?_; repeat (first | (with_reducible exact Hk2.out) | (with_reducible exact Hk1.out) | (with_reducible exact Hk0.out) | (with_reducible refine Keeps.alloc ?_ _) | (with_reducible refine Keeps.drew ?_))))
    (first
      | (go_at_call 104
         with_reducible refine (hrec.out _).mono ?_
         rintro e w1 ⟨A1, rfl, hB1, hb1⟩
         have HB1 := Lib.hid hB1
         have Hc1 := Lib.hid (Keeps.of_below (M := []) hb1)
         have Hk1 : Hid (Keeps [] w0 w1) := by
           show Keeps _ _ _
           refine Keeps.trans (M' := []) ?_ (Keeps.of_below hb1) (by simp)
           repeat (first | (with_reducible exact Hk0.out) | (with_reducible refine Keeps.alloc ?_ _) | (with_reducible refine Keeps.drew ?_))
         clear hB1 hb1)
      | (go_at_call 108
         with_reducible refine (hput.out _ _ _ ?_ ?_ ?_).mono ?_
         · first | (with_reducible exact HB1.out) | (with_reducible exact HB1.out.keep ((Keeps.refl [] _).alloc _) (by simp))
         · first | (with_reducible exact hds.out _) | (with_reducible exact hds2.out _ _ Hc1.out)
         · first | (with_reducible exact Hk1.out) | (with_reducible exact Hk1.out.alloc _)
         rintro e w2 ⟨A2, n2, rfl, hp, hk2⟩
         have Hp := Lib.hid hp; have Hk2 := Lib.hid hk2
         clear hp hk2))
  all_goals
    go_wp2
    go_ret
    exact Hp.out
set_option maxRecDepth 100000 in
theorem bkbatch_any (k : Nat) (b : BatD) (dv : Value) (w : World) (h : Ds w [] dv b.ds) (hk : k ≤ 9223372036854775807) (h0 : 0 ≤ b.seq) (h1 : b.seq ≤ 9223372036854775807) (hn : ∀ d ∈ b.ds, NOk d) (hl : b.ds.length ≤ 1000000) (hsz : (b.ds.flatMap dBytes).length ≤ 100000000000) :
    Calls Tryz.prog 114 #[.int .i64 k, .agg (bCell (b, dv)).toArray] w fun e w' => RecPost (recB k b) w e w' := by
  obtain ⟨q, hq⟩ : ∃ q : Nat, b.seq = q := ⟨b.seq.toNat, by omega⟩
  obtain ⟨Ad, cd, rfl, hcd⟩ := h.len
  obtain ⟨w0, hw0⟩ : ∃ w0, w0 = w.alloc (.cells #[.int .i64 b.seq, .slice Ad b.ds.length cd] 136) := ⟨_, rfl⟩
  have hb0 : Below w.heap.size w w0 := by rw [hw0]; exact (Below.refl _ _).alloc (Nat.le_refl _) _
  have hB0 : Blk w0 w.heap.size 136 #[.int .i64 b.seq, .slice Ad b.ds.length cd] := by rw [hw0]; exact Blk.new w _ _
  have hS : Hid (∀ W, Keeps [] w0 W → W.cell? ⟨w.heap.size, 0, none⟩ = some (.int .i64 b.seq) ∧ W.cell? ⟨w.heap.size, 1, none⟩ = some (.slice Ad b.ds.length cd)) := fun W hk => by
    have := hk.blk hB0 (by simp)
    exact ⟨this.cell 0, this.cell 1⟩
  have hU : (Lib.uvarint 3 ++ [k, b.seq.toNat, b.ds.length].flatMap Lib.uvarint).length ≤ 40 := by
    have a1 := uv_len 3 (by omega); have a2 := uvs_len [k, b.seq.toNat, b.ds.length] (by simp; omega)
    rw [List.length_append]; simp at a2 ⊢; omega
  have hrec : Hid (∀ (W : World) (cs : Array Value) (n : Nat), cs = #[.int .i64 k, .int .i64 b.seq, .int .i64 b.ds.length] → n = 3 → Calls Tryz.prog 104 #[.int .u64 3, .slice (some ⟨W.heap.size, 0, none⟩) n n] (W.alloc (.cells cs 2)).drew fun e w' => RecPost (Lib.uvarint 3 ++ [k, b.seq.toNat, b.ds.length].flatMap Lib.uvarint) W.drew e w') := fun W cs n hcs hn => by
    refine rec_call 3 [k, b.seq.toNat, b.ds.length] W.drew cs ?_ (by omega) (by simp; omega) (by simp) n hn
    rw [hcs, hq]; rfl
  have hput : Hid (∀ W A, Bs W [] (.slice A (Lib.uvarint 3 ++ [k, b.seq.toNat, b.ds.length].flatMap Lib.uvarint).length (Lib.uvarint 3 ++ [k, b.seq.toNat, b.ds.length].flatMap Lib.uvarint).length) (Lib.uvarint 3 ++ [k, b.seq.toNat, b.ds.length].flatMap Lib.uvarint) → Keeps [] w0 W → Calls Tryz.prog 108 #[.slice A (Lib.uvarint 3 ++ [k, b.seq.toNat, b.ds.length].flatMap Lib.uvarint).length (Lib.uvarint 3 ++ [k, b.seq.toNat, b.ds.length].flatMap Lib.uvarint).length, .slice Ad b.ds.length cd] W fun e w' => ∃ A' n', e = .returned (.slice A' n' n') ∧ RecPost (recB k b) w e w' ∧ Keeps [] w0 w') := fun W A h1 hk => by
    refine (eput_any [] A _ (.slice Ad b.ds.length cd) b.ds W (by simp) h1 ((h.keep (Keeps.of_below (M := []) hb0) (by simp)).keep hk (by simp)) hn (by omega) (by omega)).mono ?_
    rintro e w' ⟨A', h3, h4, h5⟩
    exact ⟨A', _, h3, ⟨A', h3, h4, hb0.trans ((hk.below.trans (h5.mono hk.size)).mono hb0.size)⟩, hk.trans (Keeps.of_below (M := []) h5) (by simp)⟩
  have hlw : IntKind.i64.wrap (b.ds.length : Int) = (b.ds.length : Int) := by rw [IntKind.wrap_i64]; omega
  clear hB0 hb0 hsz hU hq h
  generalize Lib.uvarint 3 ++ [k, b.seq.toNat, b.ds.length].flatMap Lib.uvarint = U at *
  unfold bCell
  simp only []
  go_enter Tryz.func114, Tryz.ntmps114
  go_upto_region 1 with (fail)
  rw [← hw0]
  clear hw0
  have Hk0 := Lib.hid (Keeps.refl [] w0)
  go_region_held3 (fun W => W.cell? ⟨w.heap.size, 0, none⟩ = some (.int .i64 b.seq) ∧ W.cell? ⟨w.heap.size, 1, none⟩ = some (.slice Ad b.ds.length cd))
    ((refine hS.out _ ?_; repeat (first | (with_reducible exact Hk2.out) | (with_reducible exact Hk1.out) | (with_reducible exact Hk0.out) | (with_reducible refine Keeps.alloc ?_ _) | (with_reducible refine Keeps.drew ?_))))
    (first
      | (go_at_call 104
         with_reducible refine (hrec.out _ _ _ rfl rfl).mono ?_
         rintro e w1 ⟨A1, rfl, hB1, hb1⟩
         have HB1 := Lib.hid hB1
         have Hk1 : Hid (Keeps [] w0 w1) := by
           show Keeps _ _ _
           refine Keeps.trans (M' := []) ?_ (Keeps.of_below hb1) (by simp)
           repeat (first | (with_reducible exact Hk0.out) | (with_reducible refine Keeps.alloc ?_ _) | (with_reducible refine Keeps.drew ?_))
         clear hB1 hb1)
      | (go_at_call 108
         with_reducible refine (hput.out _ _ HB1.out Hk1.out).mono ?_
         rintro e w2 ⟨A2, n2, rfl, hp, hk2⟩
         have Hp := Lib.hid hp; have Hk2 := Lib.hid hk2
         clear hp hk2))
  all_goals
    go_wp2
    go_ret
    exact Hp.out
set_option maxRecDepth 100000 in
theorem bright_any (d : DeltaD) (m : Int) (w : World) (hs : d.ser.size < 4294967281) (hm : w.cell? ⟨0, 0, none⟩ = some (.int .i64 m)) :
  Calls Tryz.prog 105 #[.agg #[.string d.ser, .int .u64 d.n]] w fun e w' => e = .returned (.bool (goodD d)) ∧ Below w.heap.size w w' := by
 have hw0 : 0 < w.heap.size := by
  have := World.block_lt_of_cell? w _ hm
  simpa using this
 obtain ⟨w0, hw0'⟩ : ∃ w0, w0 = w.alloc (.cells #[.string d.ser, .int .u64 d.n] 38) := ⟨_, rfl⟩
 have hb0 : Below w.heap.size w w0 := by rw [hw0']; exact (Below.refl _ _).alloc (Nat.le_refl _) _
 have hB0 : Blk w0 w.heap.size 38 #[.string d.ser, .int .u64 d.n] := by rw [hw0']; exact Blk.new w _ _
 have b0 := hB0.cell 0
 simp only [List.getElem?_toArray, List.getElem?_cons_zero] at b0
 have hz := hB0.lt
 have hp := Lib.hid (parse_any d.ser m w0 hs ((hb0.cell (p := ⟨0, 0, none⟩) hw0).trans hm))
 have HB0 := Lib.hid hB0; have Hb0 := Lib.hid hb0
 have hg : Hid (goodD d = (serOk d.ser && decide (0 < d.n))) := rfl
 clear hB0 hb0 hm
 rcases hok : serOk d.ser with _ | _
 ·rw [hok] at hg
  have hv : Hid (∀ e W, ParsePost d.ser w0 e W → ∃ v, e = .returned (.tuple #[v, .int .i64 12]) ∧ Below w0.heap.size w0 W) := fun e W h => by
   obtain ⟨v, h1, h2⟩ := h
   rw [hok] at h1
   exact ⟨v, h1, h2⟩
  have hgf : Hid (goodD d = false) := hg.out
  clear hok hg
  go_enter Tryz.func105, Tryz.ntmps105
  go_upto_region 1 with (fail)
  rw [← hw0']
  clear hw0'
  go_wp2_with fail
  refine hp.out.mono ?_
  intro e w1 hpp
  obtain ⟨v, rfl, hb1⟩ := hv.out _ _ hpp
  have Hb1 : Hid (Below w.heap.size w w1) := Hb0.out.trans (hb1.mono Hb0.out.size)
  clear hpp hb1 hp hv
  go_wp2
  go_ret
  exact ⟨ret_bool (by rw [hgf.out]), Hb1.out⟩
 ·rw [hok, Bool.true_and] at hg
  have hv : Hid (∀ e W, ParsePost d.ser w0 e W → ∃ v, e = .returned (.tuple #[v, .int .i64 0]) ∧ Below w0.heap.size w0 W) := fun e W h => by
   obtain ⟨v, h1, h2⟩ := h
   rw [hok] at h1
   exact ⟨v, h1, h2⟩
  clear hok
  go_enter Tryz.func105, Tryz.ntmps105
  go_upto_region 1 with (fail)
  rw [← hw0']
  clear hw0'
  go_wp2_with fail
  refine hp.out.mono ?_
  intro e w1 hpp
  obtain ⟨v, rfl, hb1⟩ := hv.out _ _ hpp
  have Hb1 : Hid (Below w.heap.size w w1) := Hb0.out.trans (hb1.mono Hb0.out.size)
  have b1 : w1.cell? ⟨w.heap.size, 1, none⟩ = some (.int .u64 d.n) := (hb1.cell (p := ⟨w.heap.size, 1, none⟩) hz).trans (HB0.out.cell 1)
  clear hpp hb1 hp hv
  go_wp2
  go_ret
  exact ⟨ret_bool (by rw [hg.out]), Hb1.out⟩
end Go.Proofs.YtgdooockldgdlaaGreatDoor.Vi
end
section
namespace Go.Proofs.YtgdooockldgdlaaGreatDoor.Vi
open Go.RowKit Base Mem
open Go.Maps (Keyed)
section
variable {H : Type} {P : Program} {k e t : TypeId} {q : IntKind} {w w' : World} {b n r : Nat} {D : DataW H} {R : Value → Option (DataW H × List MemPlace)}
theorem om_keep {M : List Nat} (h : w.ownsMap P k R b n D) (hk : Keeps M w w') (hb : b ∉ M) : w'.ownsMap P k R b n D := by
 have hlt := h.lt
 obtain ⟨es, clock, h1, F, hs, hD⟩ := h
 exact ⟨es, clock, (hk.block b hlt hb).trans h1, F, hs, hD⟩
theorem turned_keeps (h : w.mapTurned w' b) : Keeps [b] w w' := (Keeps.refl _ _).grown h.grown (fun g hg => .inl (by cases hg; simp))
/-- The number at a key. -/
def numAt (q : IntKind) (D : DataW H) (kl : Lit) : Int := match D.atKey kl (.lit (.int q 0)) with | .lit (.int _ c) => c | _ => 0
theorem numAt_of {kl : Lit} {c : Int} (h : D.atKey kl (.lit (.int q 0)) = .lit (.int q c)) : numAt q D kl = c := by unfold numAt; rw [h]
theorem numAt_same (hD : Maps.IsMap D) {kl : Lit} (hk : WideAt.IsKeyLit kl) (c : Int) : numAt q (D.put kl (.lit (.int q c))) kl = c := numAt_of (Maps.atKey_put_same hD hk _ _)
theorem numAt_other {kl kl' : Lit} (h : kl' ≠ kl) (d : DataW H) : numAt q (D.put kl d) kl' = numAt q D kl' := by unfold numAt; rw [Maps.atKey_put_other h]
/-- A value as an element. -/
def heldElem (v : Value) : Option (DataW Value × List MemPlace) := some (.held v, [])
end
section
variable {H : Type} {P : Program} (w : World) {ops : Array Oper} {rest : List Oper} {o : Oper} {a : Act} {Q : Exit → Act → World → Prop}
end
end Go.Proofs.YtgdooockldgdlaaGreatDoor.Vi
end
section
namespace Go.Proofs.YtgdooockldgdlaaGreatDoor.Vi
open Go.RowKit Base Mem
/-- A series as a key. -/
def skey (s : ByteArray) : Lit := .string s.data.toList
theorem skey_inj {a b : ByteArray} (h : skey a = skey b) : a = b := by
 unfold skey at h
 injection h with h
 obtain ⟨⟨a⟩⟩ := a
 obtain ⟨⟨b⟩⟩ := b
 simp only [] at h
 rw [h]
def addZ (a b : Int) : Int := if 18446744073709551615 < a + b then 18446744073709551615 else a + b
def addL : DataW Unit → List DeltaD → DataW Unit
 | DS, [] => DS
 | DS, d :: r => addL (DS.put (skey d.ser) (.lit (.int .u64 (addZ (numAt .u64 DS (skey d.ser)) d.n)))) r
end Go.Proofs.YtgdooockldgdlaaGreatDoor.Vi
end
section
namespace Go.Proofs.YtgdooockldgdlaaGreatDoor.Win
def normW : Nat → Int → Nat → Int × Nat
 | 0, f, m => (f, m)
 | k + 1, f, m => if m % 2 = 1 then normW k (f + 1) (m / 2) else (f, m)
/-- The window with a number more. -/
def addW (f : Int) (m : Nat) (n : Int) : Int × Nat := normW 64 f (m ||| 2 ^ (n - f - 1).toNat)
end Go.Proofs.YtgdooockldgdlaaGreatDoor.Win
end
section
namespace Go.Proofs.YtgdooockldgdlaaGreatDoor.Vi
open Go.RowKit Base Mem Go.Shelf

end Go.Proofs.YtgdooockldgdlaaGreatDoor.Vi
end
section
namespace Go.Proofs.YtgdooockldgdlaaGreatDoor.Vi
open Go.RowKit Base Mem
/-- A number that was put is got. -/
theorem getF_put (n i acc : Nat) (r : List UInt8) (hacc : acc < 2 ^ (7 * i)) (hb : acc + n * 2 ^ (7 * i) < 18446744073709551616) (hz : i = 0 ∨ 0 < n) :
  getF i acc (Lib.uvarint n ++ r) = (acc + n * 2 ^ (7 * i), i + (Lib.uvarint n).length) := by
 induction n using Nat.strongRecOn generalizing i acc with
 | _ n ih =>
 have hp : 0 < 2 ^ (7 * i) := Nat.two_pow_pos _
 have hi : i < 10 := by
  rcases hz with rfl | h0
  ·omega
  ·apply Decidable.byContradiction; intro hge
   have h1 : 2 ^ 70 ≤ 2 ^ (7 * i) := Nat.pow_le_pow_right (by omega) (by omega)
   have h2 : 1 * 2 ^ (7 * i) ≤ n * 2 ^ (7 * i) := Nat.mul_le_mul_right _ h0
   have h3 : (2 : Nat) ^ 70 = 1180591620717411303424 := rfl
   omega
 by_cases hs : n < 128
 ·rw [Lib.uvarint_small hs]
  have hc : (n.toUInt8).toNat = n := by rw [Nat.toUInt8_eq, UInt8.toNat_ofNat']; omega
  have hm : n % 128 = n := Nat.mod_eq_of_lt hs
  rw [List.singleton_append, getF, hc, hm, if_neg (by omega), if_neg (by omega), if_neg (by omega), if_neg (by omega)]
  simp
 ·rw [Lib.uvarint_big (by omega)]
  have hc : ((n % 128 + 128).toUInt8).toNat = n % 128 + 128 := by rw [Nat.toUInt8_eq, UInt8.toNat_ofNat']; omega
  have hm : (n % 128 + 128) % 128 = n % 128 := by omega
  have hpow : 2 ^ (7 * (i + 1)) = 128 * 2 ^ (7 * i) := by rw [show 7 * (i + 1) = 7 * i + 7 by omega, Nat.pow_add, Nat.mul_comm]
  have hsplit : n * 2 ^ (7 * i) = n % 128 * 2 ^ (7 * i) + n / 128 * (128 * 2 ^ (7 * i)) := by
   conv => lhs; rw [← Nat.mod_add_div n 128]
   rw [Nat.add_mul, Nat.mul_comm 128 (n / 128), Nat.mul_assoc]
  have hlt : n % 128 * 2 ^ (7 * i) ≤ 127 * 2 ^ (7 * i) := Nat.mul_le_mul_right _ (by omega)
  rw [List.cons_append, getF, hc, hm, if_neg (by omega), if_neg (by omega), if_pos (by omega)]
  rw [ih (n / 128) (by omega) (i + 1) (acc + n % 128 * 2 ^ (7 * i)) (by rw [hpow]; omega) (by rw [hpow]; omega) (.inr (by omega))]
  rw [hpow, List.length_cons]
  congr 1 <;> omega
theorem getL_put (n : Nat) (r : List UInt8) (hn : n < 18446744073709551616) : getL (Lib.uvarint n ++ r) = (n, (Lib.uvarint n).length) := by
 have := getF_put n 0 0 r (by decide) (by omega) (.inl rfl)
 simpa [getL] using this
/-- A number cut short is none. -/
theorem getF_cut (n i acc : Nat) (k : Nat) (hk : k < (Lib.uvarint n).length) (hacc : acc < 2 ^ (7 * i)) (hb : acc + n * 2 ^ (7 * i) < 18446744073709551616) (hz : i = 0 ∨ 0 < n) :
  getF i acc ((Lib.uvarint n).take k) = (0, 0) := by
 induction n using Nat.strongRecOn generalizing i acc k with
 | _ n ih =>
 cases k with
 | zero => rfl
 | succ k =>
 have hp : 0 < 2 ^ (7 * i) := Nat.two_pow_pos _
 by_cases hs : n < 128
 ·rw [Lib.uvarint_small hs] at hk
  simp at hk
 ·rw [Lib.uvarint_big (by omega)] at hk ⊢
  rw [List.length_cons] at hk
  have hi : i < 10 := by
   apply Decidable.byContradiction; intro hge
   have h1 : 2 ^ 70 ≤ 2 ^ (7 * i) := Nat.pow_le_pow_right (by omega) (by omega)
   have h2 : 1 * 2 ^ (7 * i) ≤ n * 2 ^ (7 * i) := Nat.mul_le_mul_right _ (by omega)
   have h3 : (2 : Nat) ^ 70 = 1180591620717411303424 := rfl
   omega
  have hc : ((n % 128 + 128).toUInt8).toNat = n % 128 + 128 := by rw [Nat.toUInt8_eq, UInt8.toNat_ofNat']; omega
  have hm : (n % 128 + 128) % 128 = n % 128 := by omega
  have hpow : 2 ^ (7 * (i + 1)) = 128 * 2 ^ (7 * i) := by rw [show 7 * (i + 1) = 7 * i + 7 by omega, Nat.pow_add, Nat.mul_comm]
  have hsplit : n * 2 ^ (7 * i) = n % 128 * 2 ^ (7 * i) + n / 128 * (128 * 2 ^ (7 * i)) := by
   conv => lhs; rw [← Nat.mod_add_div n 128]
   rw [Nat.add_mul, Nat.mul_comm 128 (n / 128), Nat.mul_assoc]
  have hlt : n % 128 * 2 ^ (7 * i) ≤ 127 * 2 ^ (7 * i) := Nat.mul_le_mul_right _ (by omega)
  rw [List.take_succ_cons, getF, hc, hm, if_neg (by omega), if_neg (by omega), if_pos (by omega)]
  exact ih (n / 128) (by omega) (i + 1) _ k (by omega) (by rw [hpow]; omega) (by rw [hpow]; omega) (.inr (by omega))
theorem numS_put (n : Nat) (r : List UInt8) (hn : n < 18446744073709551616) : numS (Lib.uvarint n ++ r) false = (n, r, false) := by
 have h1 := Lib.uvarint_pos n
 unfold numS
 rw [getL_put n r hn, if_neg (fun h => by rcases h with h | h; cases h; simp only [] at h; omega)]
 simp
theorem intS_put (n : Nat) (r : List UInt8) (hn : n ≤ 9223372036854775807) : intS (Lib.uvarint n ++ r) false = (n, r, false) := by
 unfold intS
 rw [numS_put n r (by omega), if_neg (by simp only []; omega)]
theorem countS_put (n : Nat) (r : List UInt8) (most : Nat) (hn : n ≤ most) (hm : most ≤ 9223372036854775807) : countS (Lib.uvarint n ++ r) false most = (n, r, false) := by
 unfold countS
 rw [intS_put n r (by omega), if_neg (by simp only []; omega)]
theorem cutL_put (s r : List UInt8) (hn : s.length < 18446744073709551616) : cutL (Lib.uvarint s.length ++ s ++ r) = (s, (Lib.uvarint s.length).length + s.length) := by
 have h1 := Lib.uvarint_pos s.length
 unfold cutL
 rw [List.append_assoc, getL_put _ _ hn, if_neg (by simp only [List.length_append]; omega)]
 simp
theorem textS_put (s r : List UInt8) (hn : s.length < 18446744073709551616) : textS (Lib.uvarint s.length ++ s ++ r) false = (s, r, false) := by
 have h1 := Lib.uvarint_pos s.length
 unfold textS
 rw [cutL_put s r hn, if_neg (fun h => by rcases h with h | h; cases h; simp only [] at h; omega)]
 simp only [Prod.mk.injEq, and_true, true_and]
 rw [← List.length_append, List.drop_left]
def zeroD : EntryD := ⟨0, 0, 0, 0, 0, [], ⟨#[]⟩, 0, 0⟩
theorem getDs_put (ds : List DeltaD) (r : List UInt8) (hn : ∀ d ∈ ds, NOk d) (hs : ∀ d ∈ ds, d.ser.size < 4294967281) : getDs ds.length (ds.flatMap dBytes ++ r) false = (ds, r, false) := by
 induction ds with
 | nil => rfl
 | cons d ds ih =>
  obtain ⟨h0, h1⟩ := hn d (by simp)
  have h2 := hs d (by simp)
  obtain ⟨ser, n⟩ := d
  obtain ⟨n, rfl⟩ := Int.eq_ofNat_of_zero_le h0
  simp only [] at h1 h2
  have ht := textS_put (sB ser) (Lib.uvarint n ++ (ds.flatMap dBytes ++ r)) (by show ser.size < _; omega)
  have hu := numS_put n (ds.flatMap dBytes ++ r) (by omega)
  have hd : dBytes ⟨ser, n⟩ = Lib.uvarint (sB ser).length ++ sB ser ++ Lib.uvarint n := rfl
  rw [List.flatMap_cons, hd, List.length_cons, getDs]
  simp only [List.append_assoc] at ht ⊢
  rw [ht]
  simp only []
  rw [hu]
  simp only []
  rw [ih (fun d hd => hn d (by simp [hd])) (fun d hd => hs d (by simp [hd]))]
  rfl
theorem numS_len (l : List UInt8) (b : Bool) : (numS l b).2.1.length ≤ l.length := by
 unfold numS
 split
 ·exact Nat.le_refl _
 ·simp only [List.length_drop]; omega
theorem intS_len (l : List UInt8) (b : Bool) : (intS l b).2.1.length ≤ l.length := by
 unfold intS
 split <;> exact numS_len l b
theorem countS_len (l : List UInt8) (b : Bool) (m : Nat) : (countS l b m).2.1.length ≤ l.length := by
 unfold countS
 split <;> exact intS_len l b
theorem countS_most (l : List UInt8) (b : Bool) (m : Nat) : (countS l b m).1 ≤ m := by
 unfold countS
 split
 ·simp
 ·omega
theorem textS_len (l : List UInt8) (b : Bool) : (textS l b).2.1.length ≤ l.length ∧ (textS l b).1.length ≤ l.length := by
 unfold textS
 split
 ·simp
 ·refine ⟨by simp only [List.length_drop]; omega, ?_⟩
  unfold cutL
  split
  ·simp
  ·simp only [List.length_take, List.length_drop]; omega
theorem getDs_short : ∀ (n : Nat) (l : List UInt8) (b : Bool), (∀ d ∈ (getDs n l b).1, d.ser.size ≤ l.length ∧ NOk d) ∧ (getDs n l b).1.length = n
 | 0, _, _ => ⟨by simp [getDs], rfl⟩
 | n + 1, l, b => by
  have h1 := textS_len l b
  have h2 := numS_len (textS l b).2.1 (textS l b).2.2
  have h4 := numS_lt (textS l b).2.1 (textS l b).2.2
  obtain ⟨h3, h5⟩ := getDs_short n (numS (textS l b).2.1 (textS l b).2.2).2.1 (numS (textS l b).2.1 (textS l b).2.2).2.2
  rw [getDs]
  refine ⟨fun d hd => ?_, by simp only [List.length_cons, h5]⟩
  rcases List.mem_cons.1 hd with rfl | hd
  ·refine ⟨h1.2, ?_⟩
   unfold NOk
   simp only []
   omega
  ·obtain ⟨h6, h7⟩ := h3 d hd
   exact ⟨by omega, h7⟩
end Go.Proofs.YtgdooockldgdlaaGreatDoor.Vi
end
section
namespace Go.Proofs.YtgdooockldgdlaaGreatDoor.Vi
open Go.RowKit Base Mem Go.Shelf
def zeroA : Array Value := #[.int .i64 0, .int .i64 0, .int .i64 0, .int .i64 0, .int .i64 0, .slice none 0 0, .string ⟨#[]⟩, .int .i64 0, .int .i64 0]
/-- What stands between two calls: the reader, the result's block, the entry's block. -/
structure Re (w0 w : World) (p g0 g5 : Nat) (l : List UInt8) (bad : Bool) (c : Array Value) : Prop where
 rd : RdAt w [g5] p l bad
 keeps : Below w0.heap.size w0 w
 b0 : Blk w g0 33 zeroA
 b5 : Blk w g5 33 c
 o0 : w0.heap.size ≤ g0
 o1 : g0 < p
 o2 : p < g5
theorem Re.step {w0 w w' : World} {p g0 g5 : Nat} {l l' : List UInt8} {bad bad' : Bool} {c : Array Value} (h : Re w0 w p g0 g5 l bad c) (hr : RdAt w' [g5] p l' bad') (hk : Keeps [p] w w') : Re w0 w' p g0 g5 l' bad' c := by
 have h0 := h.o0; have h1 := h.o1; have h2 := h.o2
 exact ⟨hr, ((Keeps.of_below (M := []) h.keeps).trans hk (by intro g hg; simp at hg; right; omega)).below, hk.blk h.b0 (by simp; omega), hk.blk h.b5 (by simp; omega), h0, h1, h2⟩
theorem Re.set {w0 w : World} {p g0 g5 : Nat} {l : List UInt8} {bad : Bool} {c : Array Value} (h : Re w0 w p g0 g5 l bad c) (i : Nat) (v : Value) : Re w0 (w.setCell ⟨g5, i, none⟩ v) p g0 g5 l bad (c.setIfInBounds i v) := by
 have h0 := h.o0; have h1 := h.o1; have h2 := h.o2
 have hk : Keeps [g5] w (w.setCell ⟨g5, i, none⟩ v) := (Keeps.refl _ _).setCell (by simp) v
 exact ⟨h.rd.keep hk (by simp) (by simp; omega), ((Keeps.of_below (M := []) h.keeps).trans hk (by intro g hg; simp at hg; right; omega)).below, hk.blk h.b0 (by simp; omega), h.b5.set_ i v, h0, h1, h2⟩
theorem blk9 {w : World} {g : Nat} {t : TypeId} {c0 c1 c2 c3 c4 c5 c6 c7 c8 : Value} (h : Blk w g t #[c0, c1, c2, c3, c4, c5, c6, c7, c8]) :
  w.cell? ⟨g, 0, none⟩ = some c0 ∧ w.cell? ⟨g, 1, none⟩ = some c1 ∧ w.cell? ⟨g, 2, none⟩ = some c2 ∧ w.cell? ⟨g, 3, none⟩ = some c3 ∧ w.cell? ⟨g, 4, none⟩ = some c4 ∧ w.cell? ⟨g, 5, none⟩ = some c5 ∧ w.cell? ⟨g, 6, none⟩ = some c6 ∧ w.cell? ⟨g, 7, none⟩ = some c7 ∧ w.cell? ⟨g, 8, none⟩ = some c8 ∧ (∀ i, w.frozen? ⟨g, i, none⟩ = false) :=
 ⟨h.cell 0, h.cell 1, h.cell 2, h.cell 3, h.cell 4, h.cell 5, h.cell 6, h.cell 7, h.cell 8, h.frozen⟩
def kl : List DeltaD := [⟨⟨#[97]⟩, 1⟩, ⟨⟨#[98]⟩, 2⟩, ⟨⟨#[97]⟩, 3⟩]
end Go.Proofs.YtgdooockldgdlaaGreatDoor.Vi
end
section
namespace Go.Proofs.YtgdooockldgdlaaGreatDoor.Tape
open Go.RowKit Base Mem
def withinS (n lo hi : Int) : Int := if lo ≤ n ∧ n ≤ hi then n else lo + n % (hi - lo + 1)
theorem tmod_fix (n m : Int) (hm : 0 < m) : (n.tmod m < 0 → n.tmod m + m = n % m) ∧ (¬ n.tmod m < 0 → n.tmod m = n % m) := by
 have h := Int.tmod_eq_emod (a := n) (b := m)
 have h1 := Int.emod_nonneg n (show m ≠ 0 by omega)
 have h2 := Int.emod_lt_of_pos n hm
 split at h
 ·omega
 ·rename_i hc
  have h3 : n % m ≠ 0 := fun h0 => hc (.inr (Int.dvd_of_emod_eq_zero h0))
  omega
theorem within_bd (n lo hi : Int) (h : lo ≤ hi) : lo ≤ withinS n lo hi ∧ withinS n lo hi ≤ hi := by
 unfold withinS
 have h1 := Int.emod_nonneg n (show hi - lo + 1 ≠ 0 by omega)
 have h2 := Int.emod_lt_of_pos n (show 0 < hi - lo + 1 by omega)
 split <;> omega
theorem within_any (n lo hi : Int) (w : World) (h0 : 0 ≤ lo) (h1 : lo ≤ hi) (h2 : hi ≤ 1073741824) :
  Calls Tryz.prog 21 #[.int .i64 n, .int .i64 lo, .int .i64 hi] w fun e w' => e = .returned (.int .i64 (withinS n lo hi)) ∧ w = w' := by
 by_cases hin : lo ≤ n ∧ n ≤ hi
 ·have Hw : Hid (withinS n lo hi = n) := if_pos hin
  obtain ⟨hi1, hi2⟩ := hin
  go_enter Tryz.func21, Tryz.ntmps21
  go_wp2
  go_ret
  exact ⟨ret_int Hw.out.symm, rfl⟩
 ·have Hw : Hid (withinS n lo hi = lo + n % (hi - lo + 1)) := if_neg hin
  obtain ⟨t1, t2⟩ := tmod_fix n (hi - lo + 1) (by omega)
  have h3 := Int.emod_nonneg n (show hi - lo + 1 ≠ 0 by omega)
  have h4 := Int.emod_lt_of_pos n (show 0 < hi - lo + 1 by omega)
  have hc : n < lo ∨ (lo ≤ n ∧ hi < n) := by omega
  have T1 := Lib.hid t1; have T2 := Lib.hid t2
  clear hin t1 t2
  have hb : n.tmod (hi - lo + 1) < hi - lo + 1 ∧ -(hi - lo + 1) ≤ n.tmod (hi - lo + 1) := by
   have a := T1.out; have b := T2.out
   by_cases hh : n.tmod (hi - lo + 1) < 0
   ·have := a hh; omega
   ·have := b hh; omega
  obtain ⟨hb1, hb2⟩ := hb
  generalize hg : n.tmod (hi - lo + 1) = t at *
  generalize n % (hi - lo + 1) = r at *
  by_cases ht : t < 0
  ·have Hr : Hid (t + hi - lo + 1 = r) := by have := T1.out ht; show _ = _; omega
   rcases hc with hc | ⟨hc, hc2⟩
   all_goals
    go_enter Tryz.func21, Tryz.ntmps21
    go_wp2
    go_ret
    exact ⟨ret_int (by rw [Hw.out, ← Hr.out]), rfl⟩
  ·have Hr : Hid (t = r) := T2.out ht
   rcases hc with hc | ⟨hc, hc2⟩
   all_goals
    go_enter Tryz.func21, Tryz.ntmps21
    go_wp2
    go_ret
    exact ⟨ret_int (by rw [Hw.out, ← Hr.out]), rfl⟩
/-- A tape's numbers, and below which block they lie. -/
structure TapeL where
 l : List Int
 B : Nat
/-- A tape lies in block b: its numbers, how many are read. -/
structure TapeAt (w : World) (b : Nat) (L : TapeL) (k : Nat) : Prop where
 le : k ≤ L.l.length
 max : L.l.length ≤ 9223372036854775807
 low : L.B ≤ b
 mem : ∃ A c, Blk w b 49 #[.slice A L.l.length c, .int .i64 k] ∧ L.l.length ≤ c ∧ (0 < L.l.length → ∃ g off, A = some ⟨g, off, none⟩ ∧ g < L.B ∧ ∀ (j : Nat) (x : Int), L.l[j]? = some x → w.cell? ⟨g, off + j, none⟩ = some (.int .i64 x))
section
variable {w w' : World} {M' : List Nat} {b k : Nat} {L : TapeL}
theorem TapeAt.lt (h : TapeAt w b L k) : b < w.heap.size := by obtain ⟨_, _, _, _, _, hv, _⟩ := h; exact hv.lt
theorem TapeAt.keep2 (h : TapeAt w b L k) (hk : Keeps M' w w') (hM : ∀ g ∈ M', L.B ≤ g ∧ g ≠ b) : TapeAt w' b L k := by
 obtain ⟨h1, h2, h3, A, c, hv, hc, hr⟩ := h
 refine ⟨h1, h2, h3, A, c, hk.blk hv (fun hm => (hM b hm).2 rfl), hc, fun hn => ?_⟩
 obtain ⟨g, off, e, hg, hx⟩ := hr hn
 exact ⟨g, off, e, hg, fun j x hj => (hk.cell (p := ⟨g, off + j, none⟩) (by have := hv.lt; simp; omega) (fun hm => by have := hM g hm; omega)).trans (hx j x hj)⟩
theorem TapeAt.keep (h : TapeAt w b L k) (hk : Keeps M' w w') (hM : ∀ g ∈ M', b < g) : TapeAt w' b L k :=
 h.keep2 hk (fun g hg => by have := hM g hg; have := h.low; omega)
theorem TapeAt.set_at (h : TapeAt w b L k) {j : Nat} (hj : j ≤ L.l.length) : TapeAt (w.setCell ⟨b, 1, none⟩ (.int .i64 j)) b L j := by
 obtain ⟨h1, h2, h3, A, c, hv, hc, hr⟩ := h
 refine ⟨hj, h2, h3, A, c, hv.set_ 1 (.int .i64 j), hc, fun hn => ?_⟩
 obtain ⟨g, off, e, hg, hx⟩ := hr hn
 exact ⟨g, off, e, hg, fun j' x hj' => (World.cell?_setCell_other _ _ _ _ (by intro e; injection e with e1; omega)).trans (hx j' x hj')⟩
theorem TapeAt.drewN (h : TapeAt w b L k) (n : Nat) : TapeAt (w.drewN n) b L k := h.keep (M' := []) ((Keeps.refl _ _).drewN n) (by simp)
theorem TapeAt.cells (h : TapeAt w b L k) : ∃ A c, w.cell? ⟨b, 0, none⟩ = some (.slice A L.l.length c) ∧ L.l.length ≤ c ∧ w.cell? ⟨b, 1, none⟩ = some (.int .i64 k) ∧ w.frozen? ⟨b, 1, none⟩ = false ∧ b < w.heap.size ∧
  (k < L.l.length → ∃ g off x, A = some ⟨g, off, none⟩ ∧ g < w.heap.size ∧ g ≠ b ∧ w.cell? ⟨g, off + k, none⟩ = some (.int .i64 x)) := by
 obtain ⟨h1, h2, h3, A, c, hv, hc, hr⟩ := h
 refine ⟨A, c, hv.cell 0, hc, hv.cell 1, hv.frozen 1, hv.lt, fun hk => ?_⟩
 obtain ⟨g, off, e, hg, hx⟩ := hr (by omega)
 exact ⟨g, off, L.l[k], e, by have := hv.lt; omega, by omega, hx k _ (List.getElem?_eq_getElem hk)⟩
end
theorem next_any (b : Nat) (L : TapeL) (k : Nat) (n : Int) (w : World) (h : TapeAt w b L k) :
  Calls Tryz.prog 26 #[.pointer (some ⟨b, 0, none⟩), .int .i64 n] w fun e w' => ∃ (v : Int) (k' : Nat), e = .returned (.int .i64 v) ∧ 0 ≤ v ∧ (1 ≤ n → v < n) ∧ TapeAt w' b L k' ∧ Keeps [b] w w' := by
 obtain ⟨A, c, c0, hc, c1, f1, hlt, hx⟩ := h.cells
 have hle := h.le
 have hmx := h.max
 have H := Lib.hid h
 by_cases hk : k < L.l.length
 ·by_cases hn : 1 ≤ n
  ·obtain ⟨g, off, x, rfl, hg, hne, hcell⟩ := hx hk
   have hwi := Lib.hid (fun W => within_any x 0 1073741824 W (by omega) (by omega) (by omega))
   have hwb := within_bd x 0 1073741824 (by omega)
   have hcell2 : (w.setCell ⟨b, 1, none⟩ (.int .i64 ((k : Int) + 1))).cell? ⟨g, off + k, none⟩ = some (.int .i64 x) := by
    rw [World.cell?_setCell_other _ _ _ _ (by intro e; injection e with e1; exact hne e1.symm)]; exact hcell
   have hj : ((k : Int) + 1 - 1) = k := by omega
   clear h hx hcell
   generalize withinS x 0 1073741824 = y at *
   have hr1 := Int.emod_nonneg y (show n ≠ 0 by omega)
   have hr2 := Int.emod_lt_of_pos y (show 0 < n by omega)
   have d0 : decide (L.l.length ≤ k) = false := by simp; omega
   have d1 : decide (n < 1) = false := by simp; omega
   go_enter Tryz.func26, Tryz.ntmps26
   go_wp2
   go_quiet (fail)
   go_wp2
   have hT : TapeAt ((w.drewN nq).setCell ⟨b, 1, none⟩ (.int .i64 ((k : Int) + 1))) b L (k + 1) := by
    have := (H.out.drewN nq).set_at (j := k + 1) (by omega)
    rwa [show (((k + 1 : Nat)) : Int) = (k : Int) + 1 by omega] at this
   have hK : Keeps [b] w ((w.drewN nq).setCell ⟨b, 1, none⟩ (.int .i64 ((k : Int) + 1))) := ((Keeps.refl _ _).drewN nq).setCell (by simp) _
   have e0 : ((w.drewN nq).setCell ⟨b, 1, none⟩ (.int .i64 ((k : Int) + 1))).cell? ⟨b, 0, none⟩ = some (.slice (some ⟨g, off, none⟩) L.l.length c) := by
    rw [World.cell?_setCell_other _ _ _ _ (by intro e; injection e with e1 e2; omega)]; exact c0
   have e1 : ((w.drewN nq).setCell ⟨b, 1, none⟩ (.int .i64 ((k : Int) + 1))).cell? ⟨b, 1, none⟩ = some (.int .i64 ((k : Int) + 1)) := by
    obtain ⟨_, _, _, _, _, hv, _⟩ := hT
    have := hv.cell 1
    simpa using this
   have e2 : ((w.drewN nq).setCell ⟨b, 1, none⟩ (.int .i64 ((k : Int) + 1))).cell? ⟨g, off + k, none⟩ = some (.int .i64 x) := hcell2
   clear hcell2 c0 c1 f1
   generalize ((w.drewN nq).setCell ⟨b, 1, none⟩ (.int .i64 ((k : Int) + 1))) = W at *
   have hk0 : (0 : Int) ≤ (k : Int) := by omega
   have hk1 : (k : Int) < (L.l.length : Int) := by omega
   go_quiet ((go_at_call 21; exact quiet_left (hwi.out _)))
   go_wp2
   go_ret
   exact ⟨_, _, rfl, hr1, fun _ => hr2, hT.drewN _, hK.drewN _⟩
  ·have d0 : decide (L.l.length ≤ k) = false := by simp; omega
   have d1 : decide (n < 1) = true := by simp; omega
   clear h hx
   go_enter Tryz.func26, Tryz.ntmps26
   go_wp2
   go_quiet (fail)
   go_wp2
   go_ret
   exact ⟨0, k, rfl, by omega, fun h => by omega, H.out.drewN _, (Keeps.refl _ _).drewN _⟩
 ·have d0 : decide (L.l.length ≤ k) = true := by simp; omega
  clear h hx
  go_enter Tryz.func26, Tryz.ntmps26
  go_wp2
  go_quiet (fail)
  go_wp2
  go_ret
  exact ⟨0, k, rfl, by omega, fun h => by omega, H.out.drewN _, (Keeps.refl _ _).drewN _⟩
def nameL : List (List UInt8) := [[97, 61, 49], [97, 61, 50], [97, 61, 49, 44, 98, 61, 120], [106, 111, 98, 61, 97, 112, 105, 44, 122, 111, 110, 101, 61, 101, 117], [106, 111, 98, 61, 119, 101, 98], [107, 61, 118], [110, 61, 48], [97, 61, 51, 44, 99, 61, 57]]
/-- A series that there is. -/
def NameOk (s : ByteArray) : Prop := ∃ l ∈ nameL, s = ⟨l.toArray⟩
theorem names_any (w : World) : Calls Tryz.prog 39 #[] w fun e w' => e = .returned (.slice (some ⟨w.heap.size, 0, none⟩) 8 8) ∧ Blk w' w.heap.size 9 (nameL.map fun l => Value.string ⟨l.toArray⟩).toArray ∧ Below w.heap.size w w' := by
 go_enter Tryz.func39, Tryz.ntmps39
 go_wp2
 go_ret
 exact ⟨rfl, Blk.new w _ _, below_new' _ _⟩
theorem name_at {w : World} {g j : Nat} (h : Blk w g 9 (nameL.map fun l => Value.string ⟨l.toArray⟩).toArray) (hj : j < 8) : ∃ s, w.cell? ⟨g, j, none⟩ = some (.string s) ∧ NameOk s := by
 have hl : j < nameL.length := hj
 refine ⟨⟨nameL[j].toArray⟩, ?_, nameL[j], List.getElem_mem hl, rfl⟩
 rw [h.cell, List.getElem?_toArray, List.getElem?_map, List.getElem?_eq_getElem hl]
 rfl
theorem series_any (b : Nat) (L : TapeL) (k : Nat) (w : World) (h : TapeAt w b L k) :
  Calls Tryz.prog 19 #[.pointer (some ⟨b, 0, none⟩)] w fun e w' => ∃ (s : ByteArray) (k' : Nat), e = .returned (.string s) ∧ NameOk s ∧ TapeAt w' b L k' ∧ Keeps [b] w w' := by
 have H := Lib.hid h
 obtain ⟨_, _, _, _, _, _, hlt, _⟩ := h.cells
 clear h
 go_enter Tryz.func19, Tryz.ntmps19
 go_wp2_with fail
 refine (names_any w).mono ?_
 rintro e w1 ⟨rfl, hb1, hbel⟩
 have hT := H.out.keep (Keeps.of_below (M := []) hbel) (by simp)
 have Hb1 := Lib.hid hb1; have Hbel := Lib.hid hbel; have HT := Lib.hid hT
 clear hb1 hbel hT
 go_wp2_with fail
 refine (next_any b L k 8 w1 HT.out).mono ?_
 rintro e w2 ⟨v, k', rfl, hv0, hv8, hT2, hK2⟩
 obtain ⟨j, rfl⟩ := Int.eq_ofNat_of_zero_le hv0
 have hj8 : (j : Int) < 8 := hv8 (by omega)
 obtain ⟨s, hs, hok⟩ := name_at (hK2.blk Hb1.out (by simp; omega)) (show j < 8 by omega)
 have HT2 := Lib.hid hT2; have HK := Lib.hid ((Keeps.of_below (M := [b]) Hbel.out).trans hK2 (by simp))
 have Hok := Lib.hid hok
 clear hv8 hT2 hK2 hok
 go_wp2
 go_ret
 exact ⟨s, k', rfl, Hok.out, HT2.out, HK.out⟩
def zeroE : Array Value := #[.int .i64 0, .int .i64 0, .int .i64 0, .int .i64 0, .int .i64 0, .slice none 0 0, .string ⟨#[]⟩, .int .i64 0, .int .i64 0]
/-- What is known between two calls: the tape, the result's block g0, the entry's block g1. -/
structure St (w0 w : World) (b : Nat) (L : TapeL) (k g0 g1 : Nat) (c1 : Array Value) : Prop where
 tape : TapeAt w b L k
 keeps : Keeps [b] w0 w
 b0 : Blk w g0 33 zeroE
 b1 : Blk w g1 33 c1
 lt0 : b < g0
 lt1 : g0 < g1
 old : w0.heap.size ≤ g0
theorem St.set {w0 w : World} {b : Nat} {L : TapeL} {k g0 g1 : Nat} {c1 : Array Value} (h : St w0 w b L k g0 g1 c1) (i : Nat) (v : Value) : St w0 (w.setCell ⟨g1, i, none⟩ v) b L k g0 g1 (c1.setIfInBounds i v) := by
 have hk : Keeps [g1] w (w.setCell ⟨g1, i, none⟩ v) := (Keeps.refl _ _).setCell (by simp) v
 have := h.lt0; have := h.lt1; have := h.old
 exact ⟨h.tape.keep hk (by intro g hg; simp at hg; omega), h.keeps.trans hk (by intro g hg; simp at hg; right; omega), hk.blk h.b0 (by simp; omega), h.b1.set_ i v, h.lt0, h.lt1, h.old⟩
theorem St.keep {w0 w w' : World} {b : Nat} {L : TapeL} {k k' g0 g1 : Nat} {c1 : Array Value} (h : St w0 w b L k g0 g1 c1) (hT : TapeAt w' b L k') (hk : Keeps [b] w w') : St w0 w' b L k' g0 g1 c1 := by
 have := h.lt0; have := h.lt1; have := h.old
 exact ⟨hT, h.keeps.trans hk (by simp), hk.blk h.b0 (by simp; omega), hk.blk h.b1 (by simp; omega), h.lt0, h.lt1, h.old⟩
end Go.Proofs.YtgdooockldgdlaaGreatDoor.Tape
end
section
namespace Go.Proofs.YtgdooockldgdlaaGreatDoor.Vi
open Go.RowKit Base Mem Tape
theorem toList_inj {a b : ByteArray} (h : a.toList = b.toList) : a = b := by
 rw [Lib.toList_data, Lib.toList_data] at h
 obtain ⟨⟨a⟩⟩ := a
 obtain ⟨⟨b⟩⟩ := b
 simp only [] at h
 rw [h]
theorem dsEq_iff (a b : List DeltaD) : dsEq a b = true ↔ a = b := by
 unfold dsEq
 induction a generalizing b with
 | nil => cases b <;> simp [Lib.allEq]
 | cons x a ih =>
  cases b with
  | nil => simp [Lib.allEq]
  | cons y b =>
   obtain ⟨xs, xn⟩ := x
   obtain ⟨ys, yn⟩ := y
   simp only [Lib.allEq, Bool.and_eq_true, ih, dEq, beq_iff_eq, List.cons.injEq, DeltaD.mk.injEq]
   constructor
   ·rintro ⟨⟨h1, h2⟩, h3⟩; exact ⟨⟨toList_inj h1, h2⟩, h3⟩
   ·rintro ⟨⟨rfl, rfl⟩, rfl⟩; exact ⟨⟨rfl, rfl⟩, rfl⟩
/-- A shard: its floor, its mask, its refused batches. -/
structure ShD where
 f : Int
 m : Nat
 bad : List Int
structure McD where
 DS : DataW Unit
 DE : DataW Unit
 sh : Lit → Option ShD
open Classical in
noncomputable def McD.set (st : McD) (kl : Lit) (s : ShD) : McD := { st with sh := fun k => if k = kl then some s else st.sh k }
def ShD.add (s : ShD) (n : Int) : ShD := { s with f := (Win.addW s.f s.m n).1, m := (Win.addW s.f s.m n).2 }
/-- A window lies in block g: its floor, its mask. -/
def WnAt (w : World) (g : Nat) (f : Int) (m : Nat) : Prop := Blk w g 171 #[.int .i64 f, .int .u64 m] ∧ 0 ≤ f ∧ f ≤ 4611686018427387904 ∧ m < 18446744073709551616
theorem WnAt.keep {w w' : World} {M : List Nat} {g : Nat} {f : Int} {m : Nat} (h : WnAt w g f m) (hk : Keeps M w w') (hg : g ∉ M) : WnAt w' g f m := ⟨hk.blk h.1 hg, h.2⟩



end Go.Proofs.YtgdooockldgdlaaGreatDoor.Vi
end
section
namespace Go.Proofs.YtgdooockldgdlaaGreatDoor.Vi
open Go.RowKit Base Mem
open Go.Maps (Keyed)
theorem uStr : Tryz.prog.underlying 9 = some .string := by kernel_rfl
theorem uInt : Tryz.prog.underlying 3 = some (.int .i64) := by kernel_rfl
theorem uI64 : Tryz.prog.underlying 2 = some (.int .i64) := by kernel_rfl
theorem lawS : Keyed Tryz.prog 9 := Maps.string_keyed uStr
def I64 (n : Int) : Prop := -9223372036854775808 ≤ n ∧ n ≤ 9223372036854775807
theorem skey_of {s : ByteArray} (h : s.size ≤ 9223372036854775807) : keyOf Tryz.prog 9 (.string s) = some (skey s) := Go.WideMaps.keyOf_string_mk uStr h
/-- Sums lie in block g, their map in block b. -/
def SmAt (w : World) (g b N : Nat) (D : DataW Unit) : Prop := Blk w g 159 #[.map (some b)] ∧ w.ownsMap Tryz.prog 9 (plainElem Tryz.prog 34) b N D ∧ g ≠ b
theorem SmAt.keep {w w' : World} {g b N : Nat} {D : DataW Unit} {M : List Nat} (h : SmAt w g b N D) (hk : Keeps M w w') (hg : g ∉ M) (hb : b ∉ M) : SmAt w' g b N D := ⟨hk.blk h.1 hg, om_keep h.2.1 hk hb, h.2.2⟩
end Go.Proofs.YtgdooockldgdlaaGreatDoor.Vi
end
section
namespace Go.Proofs.YtgdooockldgdlaaGreatDoor.Vi
open Go.RowKit Base Mem Tape
open Go.Maps (Keyed)
theorem laidOutP : laidOutB Tryz.prog = true := by kernel_rfl
/-- A shard's key. -/
noncomputable def pk (a s : Int) : Lit := (keyOf Tryz.prog 168 (.agg #[.int .i64 a, .int .i64 s])).getD (.bool false)
theorem posP : 0 < Tryz.prog.types.size := of_decide_eq_true (by kernel_rfl)
/-- A shard lies in block p; F are its blocks. -/
def ShAt (w : World) (p : Nat) (F : List Nat) (s : ShD) : Prop :=
 ∃ pw v, Blk w p 101 #[.pointer (some ⟨pw, 0, none⟩), v] ∧ WnAt w pw s.f s.m ∧ w.ownsRow 0 2 1 v s.bad.length (s.bad.map (Value.int .i64)) ∧ p ∈ F ∧ pw ∈ F ∧ p ≠ pw ∧
  (∀ g, v.ownBlock = some g → g ∈ F ∧ g ≠ p ∧ g ≠ pw) ∧ s.bad.length ≤ 8 ∧ ∀ n ∈ s.bad, I64 n
theorem own_other2 {M : List Nat} {w w1 : World} {base : Nat} {e : TypeId} {size n : Nat} {v : Value} {xs : List Value} (h : w.ownsRow base e size v n xs) (hk : Keeps M w w1) (hM : ∀ g, v.ownBlock = some g → g ∉ M) : w1.ownsRow base e size v n xs := by
 obtain ⟨hl, h⟩ := h
 refine ⟨hl, ?_⟩
 rcases h with h | ⟨g, cap, cur, hv, hb, hg, rest⟩
 ·exact .inl h
 ·exact .inr ⟨g, cap, cur, hv, hb, (hk.block g (Array.getElem?_eq_some_iff.1 hg).1 (hM g (by rw [hv]; rfl))).trans hg, rest⟩
theorem ShAt.keep {w w' : World} {p : Nat} {F M : List Nat} {s : ShD} (h : ShAt w p F s) (hk : Keeps M w w') (hM : ∀ g ∈ F, g ∉ M) : ShAt w' p F s := by
 obtain ⟨pw, v, h1, h2, h3, h4, h5, h6, h7, h8⟩ := h
 exact ⟨pw, v, hk.blk h1 (hM p h4), h2.keep hk (hM pw h5), own_other2 h3 hk (fun g hg => hM g (h7 g hg).1), h4, h5, h6, h7, h8⟩
structure McC where
 gs : Nat
 bm : Nat
 be : Nat
 bs : Nat
 pt : Lit → Nat
 fp : Lit → List Nat
def McC.core (c : McC) (g : Nat) : List Nat := [g, c.gs, c.bm, c.be, c.bs]
structure McIn (w : World) (g : Nat) (c : McC) (X : List Nat) (st : McD) (N : Nat) (DH : DataW Value) : Prop where
 b0 : Blk w g 92 #[.pointer (some ⟨c.gs, 0, none⟩), .map (some c.be), .map (some c.bs)]
 sm : SmAt w c.gs c.bm N st.DS
 m2 : w.ownsMap Tryz.prog 3 (plainElem Tryz.prog 2) c.be N st.DE
 m3 : w.ownsMap Tryz.prog 168 heldElem c.bs N DH
 nd : (c.core g).Nodup
 sh : ∀ kl s, st.sh kl = some s → Maps.has DH kl = true ∧ DH.atKey kl (.held (.pointer none)) = .held (.pointer (some ⟨c.pt kl, 0, none⟩)) ∧ ShAt w (c.pt kl) (c.fp kl) s ∧ ∀ x ∈ c.fp kl, x ∉ c.core g
 no : ∀ kl, st.sh kl = none → Maps.has DH kl = false
 dj : ∀ kl kl', kl ≠ kl' → st.sh kl ≠ none → st.sh kl' ≠ none → ∀ x ∈ c.fp kl, x ∉ c.fp kl'
 inX : ∀ x ∈ c.core g, x ∈ X
 fpX : ∀ kl, st.sh kl ≠ none → ∀ x ∈ c.fp kl, x ∈ X
/-- A machine lies in block g; X are its blocks. -/
def McAt (w : World) (g : Nat) (X : List Nat) (st : McD) (N : Nat) : Prop := ∃ c DH, McIn w g c X st N DH
theorem McIn.keep {w w' : World} {g : Nat} {c : McC} {X M : List Nat} {st : McD} {N : Nat} {DH : DataW Value} (h : McIn w g c X st N DH) (hk : Keeps M w w') (hM : ∀ x ∈ X, x ∉ M) : McIn w' g c X st N DH where
 b0 := hk.blk h.b0 (hM _ (h.inX _ (by simp [McC.core])))
 sm := h.sm.keep hk (hM _ (h.inX _ (by simp [McC.core]))) (hM _ (h.inX _ (by simp [McC.core])))
 m2 := om_keep h.m2 hk (hM _ (h.inX _ (by simp [McC.core])))
 m3 := om_keep h.m3 hk (hM _ (h.inX _ (by simp [McC.core])))
 nd := h.nd
 sh := fun kl s hs => by
  obtain ⟨h1, h2, h3, h4⟩ := h.sh kl s hs
  exact ⟨h1, h2, h3.keep hk (fun x hx => hM x (h.fpX kl (by rw [hs]; simp) x hx)), h4⟩
 no := h.no
 dj := h.dj
 inX := h.inX
 fpX := h.fpX
theorem McAt.keep {w w' : World} {g : Nat} {X M : List Nat} {st : McD} {N : Nat} (h : McAt w g X st N) (hk : Keeps M w w') (hM : ∀ x ∈ X, x ∉ M) : McAt w' g X st N := by
 obtain ⟨c, DH, h⟩ := h
 exact ⟨c, DH, h.keep hk hM⟩
theorem McIn.more {w : World} {g : Nat} {c : McC} {X : List Nat} {st : McD} {N N' : Nat} {DH : DataW Value} (h : McIn w g c X st N DH) (hN : N ≤ N') : McIn w g c X st N' DH :=
 ⟨h.b0, ⟨h.sm.1, h.sm.2.1.mono hN, h.sm.2.2⟩, h.m2.mono hN, h.m3.mono hN, h.nd, h.sh, h.no, h.dj, h.inX, h.fpX⟩
theorem ShAt.lt {w : World} {p : Nat} {F : List Nat} {s : ShD} (h : ShAt w p F s) : p < w.heap.size := by
 obtain ⟨pw, v, h1, _⟩ := h
 exact h1.lt
end Go.Proofs.YtgdooockldgdlaaGreatDoor.Vi
end
section
namespace Go.Proofs.YtgdooockldgdlaaGreatDoor.Vi
open Go.RowKit Base Mem
/-- The blocks of M that belong to these parts. -/
def sel (M : List Nat) (tg : Nat → Nat) (T : List Nat) : List Nat := M.filter fun g => T.contains (tg g)
theorem mem_sel {M : List Nat} {tg : Nat → Nat} {T : List Nat} {g : Nat} : g ∈ sel M tg T ↔ g ∈ M ∧ tg g ∈ T := by simp [sel]
/-- The blocks M' are those of M, and new ones; old ones are of the same parts. -/
structure Ext (w : World) (M : List Nat) (tg : Nat → Nat) (w' : World) (M' : List Nat) (tg' : Nat → Nat) : Prop where
 sub : ∀ g ∈ M, g ∈ M'
 new : ∀ g ∈ M', g ∈ M ∨ w.heap.size ≤ g
 tag : ∀ g, g < w.heap.size → tg' g = tg g
 old : ∀ g ∈ M, g < w.heap.size
 lt : ∀ g ∈ M', g < w'.heap.size
section
variable {w w1 w2 w' : World} {M M1 M2 M' : List Nat} {tg tg1 tg2 tg' : Nat → Nat} {T T' : List Nat}
theorem Ext.refl (hM : ∀ g ∈ M, g < w.heap.size) (hw : w.heap.size ≤ w'.heap.size) : Ext w M tg w' M tg :=
 ⟨fun _ h => h, fun _ h => .inl h, fun _ _ => rfl, hM, fun g h => Nat.lt_of_lt_of_le (hM g h) hw⟩
theorem Ext.trans (h : Ext w M tg w1 M1 tg1) (k : Ext w1 M1 tg1 w2 M2 tg2) (hw : w.heap.size ≤ w1.heap.size) : Ext w M tg w2 M2 tg2 :=
 ⟨fun g hg => k.sub g (h.sub g hg), fun g hg => by
  rcases k.new g hg with h1 | h1
  ·exact h.new g h1
  ·right; omega, fun g hg => (k.tag g (by omega)).trans (h.tag g hg), h.old, k.lt⟩
theorem Ext.later (h : Ext w M tg w1 M1 tg1) (hw : w1.heap.size ≤ w2.heap.size) : Ext w M tg w2 M1 tg1 := ⟨h.sub, h.new, h.tag, h.old, fun g hg => Nat.lt_of_lt_of_le (h.lt g hg) hw⟩
/-- One block more (or none, if it is there). -/
theorem Ext.add (hM : ∀ g ∈ M, g < w.heap.size) (hw : w.heap.size ≤ w'.heap.size) (r : Option Nat) (t : Nat) (hr : ∀ g, r = some g → (g ∈ M ∧ tg g = t ∨ w.heap.size ≤ g) ∧ g < w'.heap.size) : Ext w M tg w' (r.toList ++ M) (fun x => if r = some x then t else tg x) :=
 ⟨fun g hg => List.mem_append_right _ hg, fun g hg => by
  rcases List.mem_append.1 hg with h | h
  ·rcases (hr g (by simpa using h)).1 with h1 | h1
   ·exact .inl h1.1
   ·exact .inr h1
  ·exact .inl h, fun g hg => by
  show (if r = some g then t else tg g) = tg g
  split
  ·rename_i h
   rcases (hr g h).1 with h1 | h1
   ·exact h1.2.symm
   ·omega
  ·rfl, hM, fun g hg => by
  rcases List.mem_append.1 hg with h | h
  ·exact (hr g (by simpa using h)).2
  ·exact Nat.lt_of_lt_of_le (hM g h) hw⟩
/-- What turned later, in the words of what was there at first. -/
theorem Ext.keeps (h : Ext w M tg w1 M1 tg1) (k1 : Keeps (sel M tg T) w w1) (k2 : Keeps (sel M1 tg1 T) w1 w2) : Keeps (sel M tg T) w w2 :=
 k1.trans k2 (fun g hg => by
  obtain ⟨h1, h2⟩ := mem_sel.1 hg
  rcases h.new g h1 with h3 | h3
  ·exact .inl (mem_sel.2 ⟨h3, by rw [← h.tag g (h.old g h3)]; exact h2⟩)
  ·exact .inr h3)
theorem sel_more (hT : ∀ t ∈ T, t ∈ T') {g : Nat} (h : g ∈ sel M tg T) : g ∈ sel M tg T' := by
 obtain ⟨h1, h2⟩ := mem_sel.1 h
 exact mem_sel.2 ⟨h1, hT _ h2⟩
theorem _root_.Go.Proofs.YtgdooockldgdlaaGreatDoor.Mem.Keeps.sel_mono (k : Keeps (sel M tg T) w w') (hT : ∀ t ∈ T, t ∈ T') : Keeps (sel M tg T') w w' := k.mono fun _ hg => .inl (sel_more hT hg)
theorem _root_.Go.Proofs.YtgdooockldgdlaaGreatDoor.Mem.Keeps.to_sel {L : List Nat} (k : Keeps L w w') (hL : ∀ g ∈ L, g ∈ M ∧ tg g ∈ T ∨ w.heap.size ≤ g) : Keeps (sel M tg T) w w' := k.mono fun g hg => by
 rcases hL g hg with h | h
 ·exact .inl (mem_sel.2 h)
 ·exact .inr h
theorem Ext.ds {v : Value} {ds : List DeltaD} (h : Ext w M tg w' M' tg') (k : Keeps (sel M tg T) w w') (hd : Ds w M v ds) : Ds w' M' v ds :=
 (hd.avoid h.new).keep k (fun g hg => .inl (h.sub g (mem_sel.1 hg).1))
theorem blk_other {g : Nat} {t : TypeId} {cs : Array Value} (k : Keeps (sel M tg T) w w') (hb : Blk w g t cs) (ht : tg g ∉ T) : Blk w' g t cs := k.blk hb (fun hm => ht (mem_sel.1 hm).2)
theorem row_other {base : Nat} {e : TypeId} {size n : Nat} {v : Value} {xs : List Value} (k : Keeps (sel M tg T) w w') (h : w.ownsRow base e size v n xs) (ht : ∀ g, v.ownBlock = some g → tg g ∉ T) : w'.ownsRow base e size v n xs :=
 own_other2 h k (fun g hg hm => ht g hg (mem_sel.1 hm).2)
end
/-- What holds of every queue that there is. -/
def QuOk (Q : QuD) : Prop := Q.l.length ≤ 16 ∧ 0 ≤ Q.last ∧ Q.last ≤ 9223372036854775807 ∧ (∀ b ∈ Q.l, 1 ≤ b.seq ∧ b.seq ≤ Q.last ∧ 0 < b.ds.length ∧ b.ds.length ≤ 8 ∧ ∀ d ∈ b.ds, NOk d) ∧ (Q.l.map (·.seq)).Pairwise (· < ·)
theorem quOk0 : QuOk ⟨[], 0⟩ := ⟨by simp, by simp, by simp, by simp, by simp⟩
theorem quAdd_ok {Q : QuD} {b : BatD} (h : QuOk Q) (hb : b.seq ≤ 9223372036854775807) (hn : ∀ d ∈ b.ds, NOk d) : QuOk (quAdd Q b).2 := by
 unfold quAdd
 by_cases ha : quArg Q b = true
 ·rw [if_pos ha]; exact h
 ·rw [if_neg ha]
  by_cases h16 : 16 ≤ Q.l.length
  ·rw [if_pos h16]; exact h
  ·rw [if_neg h16]
   simp only [quArg, Bool.or_eq_true, decide_eq_true_eq, not_or] at ha
   obtain ⟨h1, h2, h3, h4, h5⟩ := h
   refine ⟨by simp; omega, by simp; omega, by simpa using hb, ?_, ?_⟩
   ·intro x hx
    rcases List.mem_append.1 hx with hx | hx
    ·obtain ⟨a1, a2, a3⟩ := h4 x hx
     exact ⟨a1, by simp; omega, a3⟩
    ·simp at hx; subst hx
     exact ⟨by omega, by simp, by omega, by omega, hn⟩
   ·rw [List.map_append, List.pairwise_append]
    refine ⟨h5, by simp, ?_⟩
    intro x hx y hy
    obtain ⟨c, hc, rfl⟩ := List.mem_map.1 hx
    simp at hy; subst hy
    have := (h4 c hc).2.1
    omega
theorem outB_sub (n : Int) : ∀ l : List BatD, List.Sublist (outB n l) l
 | [] => List.Sublist.slnil
 | b :: r => by
  rw [outB]
  split
  ·exact List.sublist_cons_self _ _
  ·exact (outB_sub n r).cons_cons b
theorem quDone_ok {Q : QuD} (n : Int) (h : QuOk Q) : QuOk (quDone Q n) := by
 obtain ⟨h1, h2, h3, h4, h5⟩ := h
 have hs := outB_sub n Q.l
 refine ⟨Nat.le_trans hs.length_le h1, h2, h3, fun b hb => h4 b (hs.subset hb), ?_⟩
 exact List.Pairwise.sublist (hs.map _) h5
/-- A queue lies in block q (part t), its batches in v's block (part t + 1); their deltas lie in no block of M. -/
structure QuV (w : World) (M : List Nat) (tg : Nat → Nat) (t q : Nat) (Q : QuD) (v : Value) (ps : List (BatD × Value)) : Prop where
 blk : Blk w q 197 #[v, .int .i64 Q.last]
 map : ps.map (·.1) = Q.l
 row : w.ownsRow 0 136 2 v ps.length (ps.flatMap bCell)
 ds : ∀ p ∈ ps, Ds w M p.2 p.1.ds
 inM : q ∈ M
 tq : tg q = t
 tr : ∀ g, v.ownBlock = some g → g ∈ M ∧ tg g = t + 1
def QuAt (w : World) (M : List Nat) (tg : Nat → Nat) (t q : Nat) (Q : QuD) : Prop := QuOk Q ∧ ∃ v ps, QuV w M tg t q Q v ps
section
variable {w w' : World} {M M' : List Nat} {tg tg' : Nat → Nat} {t q : Nat} {Q : QuD} {T : List Nat} {v : Value} {ps : List (BatD × Value)}
theorem QuV.keep (h : QuV w M tg t q Q v ps) (x : Ext w M tg w' M' tg') (k : Keeps (sel M tg T) w w') (h1 : t ∉ T) (h2 : t + 1 ∉ T) : QuV w' M' tg' t q Q v ps := by
 have hq := h.blk.lt
 refine ⟨blk_other k h.blk (by rw [h.tq]; exact h1), h.map, row_other k h.row (fun g hg => by rw [(h.tr g hg).2]; exact h2), fun p hp => x.ds k (h.ds p hp), x.sub _ h.inM, by rw [x.tag q hq]; exact h.tq, fun g hg => ?_⟩
 obtain ⟨a1, a2⟩ := h.tr g hg
 exact ⟨x.sub _ a1, by rw [x.tag g (x.old g a1)]; exact a2⟩
theorem QuAt.keep (h : QuAt w M tg t q Q) (x : Ext w M tg w' M' tg') (k : Keeps (sel M tg T) w w') (h1 : t ∉ T) (h2 : t + 1 ∉ T) : QuAt w' M' tg' t q Q := by
 obtain ⟨ho, v, ps, hv⟩ := h
 exact ⟨ho, v, ps, hv.keep x k h1 h2⟩
theorem QuV.keep0 (h : QuV w M tg t q Q v ps) (hM : ∀ g ∈ M, g < w.heap.size) (k : Keeps [] w w') : QuV w' M tg t q Q v ps := h.keep (T := []) (Ext.refl hM k.size) (k.to_sel (by simp)) (by simp) (by simp)
theorem QuAt.keep0 (h : QuAt w M tg t q Q) (hM : ∀ g ∈ M, g < w.heap.size) (k : Keeps [] w w') : QuAt w' M tg t q Q := h.keep (T := []) (Ext.refl hM k.size) (k.to_sel (by simp)) (by simp) (by simp)
theorem QuV.len (h : QuV w M tg t q Q v ps) : ∃ A c, v = .slice A Q.l.length c ∧ Q.l.length ≤ c := by
 obtain ⟨A, c, e, hc, _⟩ := Rd.of_own (M := []) h.row (by simp)
 have hl : ps.length = Q.l.length := by rw [← h.map, List.length_map]
 exact ⟨A, c, by rw [← hl]; exact e, by rw [← hl]; exact hc⟩
theorem QuV.bats (h : QuV w M tg t q Q v ps) : Bats w [] v Q.l := ⟨ps, h.map, Rd.of_own h.row (by simp), fun p hp => (h.ds p hp).avoid (by simp)⟩
theorem qnew_any (w : World) :
  Calls Tryz.prog 102 #[] w fun e w' => e = .returned (.pointer (some ⟨w.heap.size, 0, none⟩)) ∧ Blk w' w.heap.size 197 #[.slice none 0 0, .int .i64 0] ∧ Below w.heap.size w w' := by
 have hR : Hid (Blk (w.alloc (.cells #[.slice none 0 0, .int .i64 0] 197)) w.heap.size 197 #[.slice none 0 0, .int .i64 0]) := Blk.new w _ _
 go_enter Tryz.func102, Tryz.ntmps102
 go_wp2
 go_ret
 exact ⟨rfl, hR.out, (Below.refl _ _).alloc (Nat.le_refl _) _⟩
theorem qu_new {g : Nat} (hb : Blk w g 197 #[.slice none 0 0, .int .i64 0]) (hM : g ∈ M) (ht : tg g = t) : QuAt w M tg t g ⟨[], 0⟩ :=
 ⟨quOk0, _, [], hb, rfl, World.ownsRow_nil _ _ _ _, by simp, hM, ht, by simp [Value.ownBlock]⟩
theorem qlen_any (h : QuAt w M tg t q Q) :
  Calls Tryz.prog 113 #[.pointer (some ⟨q, 0, none⟩)] w fun e w' => e = .returned (.int .i64 Q.l.length) ∧ w = w' := by
 obtain ⟨_, v, ps, hv⟩ := h
 obtain ⟨A, c, rfl, hc⟩ := hv.len
 have c0 := hv.blk.cell 0
 simp only [List.getElem?_toArray, List.getElem?_cons_zero] at c0
 clear hv
 go_enter Tryz.func113, Tryz.ntmps113
 go_wp2
 go_ret
 exact ⟨rfl, rfl⟩
theorem qlast_any (h : QuAt w M tg t q Q) :
  Calls Tryz.prog 65 #[.pointer (some ⟨q, 0, none⟩)] w fun e w' => e = .returned (.int .i64 Q.last) ∧ w = w' := by
 obtain ⟨_, v, ps, hv⟩ := h
 have c1 := hv.blk.cell 1
 simp only [List.getElem?_toArray, List.getElem?_cons_succ, List.getElem?_cons_zero] at c1
 clear hv
 go_enter Tryz.func65, Tryz.ntmps65
 go_wp2
 go_ret
 exact ⟨rfl, rfl⟩
theorem qall_any (h : QuAt w M tg t q Q) :
  Calls Tryz.prog 70 #[.pointer (some ⟨q, 0, none⟩)] w fun e w' => BatsPost Q.l w e w' := by
 obtain ⟨ho, v, ps, hv⟩ := h
 obtain ⟨A, c, rfl, hc⟩ := hv.len
 have c0 := hv.blk.cell 0
 simp only [List.getElem?_toArray, List.getElem?_cons_zero] at c0
 have hs := Lib.hid (some_any [] _ Q.l w hv.bats (by have := ho.1; omega) (fun b hb => by have := (ho.2.2.2.1 b hb).2.2.2.1; omega))
 clear hv ho
 have HP : Hid (∀ e W, BatsPost Q.l w e W → ∃ A, e = .returned (.slice A Q.l.length Q.l.length) ∧ BatsPost Q.l w e W) := fun e W h => by
  obtain ⟨A, h1, h2⟩ := id h
  exact ⟨A, h1, h⟩
 go_enter Tryz.func70, Tryz.ntmps70
 go_wp2_with fail
 refine hs.out.mono ?_
 intro e w1 hp
 obtain ⟨A1, rfl, hp⟩ := HP.out _ _ hp
 have Hp := Lib.hid hp
 clear hp hs HP
 go_wp2
 go_ret
 exact Hp.out
end
section
variable {w w' : World} {M M' : List Nat} {tg tg' : Nat → Nat} {t q : Nat} {Q : QuD} {T : List Nat} {v : Value} {ps : List (BatD × Value)}
theorem Bats.take {A : Option Addr} {c : Nat} {l : List BatD} (h : Bats w M (.slice A l.length c) l) (m : Nat) (hm : m ≤ l.length) : Bats w M (.slice A m c) (l.take m) := by
 obtain ⟨ps, hl, ⟨A', c', e, hc, hx, hr⟩, hd⟩ := h
 injection e with e1 e2 e3
 subst e1 e3
 have hpl : ps.length = l.length := e2.symm
 refine ⟨ps.take m, by rw [List.map_take, hl], ⟨A, c, by rw [List.length_take, Nat.min_eq_left (by omega)], by rw [List.length_take]; omega, by rw [bCells_len], fun h0 => ?_⟩, fun p hp => hd p (List.mem_of_mem_take hp)⟩
 rw [List.length_take] at h0
 obtain ⟨g, off, e1, e2, e3, e4⟩ := hr (by omega)
 refine ⟨g, off, e1, e2, e3, fun j u hu => e4 j u ?_⟩
 have hs : ps.flatMap bCell = (ps.take m).flatMap bCell ++ (ps.drop m).flatMap bCell := by rw [← List.flatMap_append, List.take_append_drop]
 have hj := (List.getElem?_eq_some_iff.1 hu).1
 rw [hs, List.getElem?_append_left hj]
 exact hu
set_option maxRecDepth 100000 in
theorem qflight_any (h : QuAt w M tg t q Q) :
    Calls Tryz.prog 66 #[.pointer (some ⟨q, 0, none⟩)] w fun e w' => BatsPost (Q.l.take 4) w e w' := by
  obtain ⟨ho, v, ps, hv⟩ := h
  obtain ⟨A, c, rfl, hc⟩ := hv.len
  have c0 := hv.blk.cell 0
  simp only [List.getElem?_toArray, List.getElem?_cons_zero] at c0
  obtain ⟨m, hm4, hml, hmn⟩ : ∃ m : Nat, Q.l.take m = Q.l.take 4 ∧ m ≤ Q.l.length ∧ min (Q.l.length : Int) 4 = (m : Int) := by
    by_cases h4 : Q.l.length ≤ 4
    · exact ⟨Q.l.length, by rw [List.take_of_length_le (Nat.le_refl _), List.take_of_length_le h4], Nat.le_refl _, by omega⟩
    · exact ⟨4, rfl, by omega, by omega⟩
  have hs := Lib.hid (fun W (hk : Keeps [] w W) => some_any [] (.slice A m c) (Q.l.take 4) W (by rw [← hm4]; exact (hv.bats.keep hk (by simp)).take m hml) (by rw [List.length_take]; omega) (fun b hb => by have := (ho.2.2.2.1 b (List.mem_of_mem_take hb)).2.2.2.1; omega))
  have HP : Hid (∀ e W W', Keeps [] w W → BatsPost (Q.l.take 4) W e W' → ∃ A n c, e = .returned (.slice A n c) ∧ BatsPost (Q.l.take 4) w e W') := fun e W W' hk h => by
    obtain ⟨A, h1, h2, h3⟩ := id h
    exact ⟨A, _, _, h1, A, h1, fun M' hM => h2 M' (fun g hg => Nat.lt_of_lt_of_le (hM g hg) hk.size), hk.below.trans (h3.mono hk.size)⟩
  have hl16 := ho.1
  have hlt := hv.blk.lt
  have hmc : (m : Int) ≤ (c : Int) := by omega
  have hm0 : (0 : Int) ≤ (m : Int) := by omega
  clear hv ho hm4
  generalize Q.l.length = n at *
  go_enter Tryz.func66, Tryz.ntmps66
  have HC : Hid (∀ e W, BatsPost (Q.l.take 4) w e W → W.cell? ⟨q, 0, none⟩ = some (.slice A n c)) := fun e W h => by
    obtain ⟨_, _, _, hb⟩ := h
    exact (hb.cell (p := ⟨q, 0, none⟩) hlt).trans c0
  go_wp2_with fail
  go_region_held3 (fun W => W.cell? ⟨q, 0, none⟩ = some (.slice A n c)) (first | exact c0 | exact HC.out _ _ Hp.out) (first
    | (go_at_call 116
       with_reducible refine (hs.out _ ((Keeps.refl _ _).drew)).mono ?_
       intro e w1 hq
       obtain ⟨A1, n1, c1, rfl, hp⟩ := HP.out _ _ _ ((Keeps.refl _ _).drew) hq
       have Hp := Lib.hid hp
       clear hq hp))
  go_wp2
  go_ret
  exact Hp.out
/-- What Add leaves. -/
def QaPost (M : List Nat) (tg : Nat → Nat) (t q : Nat) (R : Int × QuD) (w : World) (e : Ending) (w' : World) : Prop :=
 e = .returned (.int .i64 R.1) ∧ ∃ M' tg', QuAt w' M' tg' t q R.2 ∧ Ext w M tg w' M' tg' ∧ Keeps (sel M tg [t, t + 1]) w w'
theorem qa_same (h : QuAt w M tg t q Q) (hM : ∀ g ∈ M, g < w.heap.size) (hk : Keeps [] w w') (c : Int) : QaPost M tg t q (c, Q) w (.returned (.int .i64 c)) w' :=
 ⟨rfl, M, tg, h.keep0 hM hk, Ext.refl hM hk.size, hk.to_sel (by simp)⟩
/-- Behind the append and the two stores. -/
theorem qa_put {w1 w2 : World} {v' dv : Value} {b : BatD} {o : Obj} (hv : QuV w M tg t q Q v ps) (ho : QuOk (quAdd Q b).2) (hq : quAdd Q b = (0, ⟨Q.l ++ [b], b.seq⟩)) (hM : ∀ g ∈ M, g < w.heap.size) (hb1 : Below w.heap.size w w1)
  (hd : ∀ L, (∀ g ∈ L, g < w.heap.size) → Ds w1 L dv b.ds) (hown : w2.ownsRow 0 136 2 v' (ps.length + 1) (ps.flatMap bCell ++ bCell (b, dv))) (hg : (w1.alloc o).grownBy w2 v.ownBlock) (hat : v'.ownBlock = v.ownBlock ∨ v'.ownBlock = some (w1.heap.size + 1)) :
  QaPost M tg t q (quAdd Q b) w (.returned (.int .i64 0)) ((w2.setCell ⟨q, 0, none⟩ v').setCell ⟨q, 1, none⟩ (.int .i64 b.seq)) := by
 rw [hq] at ho ⊢
 have hvq : v.ownBlock ≠ some q := fun h => by have := (hv.tr q h).2; rw [hv.tq] at this; omega
 have hqw := hv.blk.lt
 have hv'q : v'.ownBlock ≠ some q := fun h => by
  rcases hat with h1 | h1
  ·exact hvq (by rw [← h1, h])
  ·rw [h1] at h; injection h with h; have := hb1.size; omega
 have k12 : Keeps v.ownBlock.toList w w2 := (((Keeps.of_below (M := []) hb1).alloc o).mono (by simp)).grown hg (fun g hg => .inl (by simpa using hg))
 have k2 : Keeps [q] w2 ((w2.setCell ⟨q, 0, none⟩ v').setCell ⟨q, 1, none⟩ (.int .i64 b.seq)) := ((Keeps.refl _ _).setCell (by simp) _).setCell (by simp) _
 have hnew : ∀ g, v'.ownBlock = some g → (g ∈ M ∧ tg g = t + 1 ∨ w.heap.size ≤ g) ∧ g < w2.heap.size := fun g hg => by
  refine ⟨?_, (hown.lt g hg).2⟩
  rcases hat with h1 | h1
  ·exact .inl (hv.tr g (by rw [← h1, hg]))
  ·rw [h1] at hg; injection hg with hg; have := hb1.size; exact .inr (by omega)
 have hx : Ext w M tg w2 (v'.ownBlock.toList ++ M) (fun x => if v'.ownBlock = some x then t + 1 else tg x) := Ext.add hM k12.size _ _ hnew
 have hks : Keeps (sel M tg [t, t + 1]) w w2 := k12.to_sel (fun g hg => .inl (by have := hv.tr g (by simpa using hg); simp [this.1, this.2]))
 have hkf : Keeps (sel M tg [t, t + 1]) w ((w2.setCell ⟨q, 0, none⟩ v').setCell ⟨q, 1, none⟩ (.int .i64 b.seq)) := hks.trans k2 (fun g hg => .inl (by simp at hg; subst hg; exact mem_sel.2 ⟨hv.inM, by rw [hv.tq]; simp⟩))
 refine ⟨rfl, _, _, ⟨ho, v', ps ++ [(b, dv)], ?_⟩, hx.later k2.size, hkf⟩
 refine ⟨?_, by rw [List.map_append, hv.map]; rfl, ?_, fun p hp => ?_, List.mem_append_right _ hv.inM, ?_, fun g hg => ⟨List.mem_append_left _ (by simpa using hg), by simp [hg]⟩⟩
 ·have hB2 : Blk w2 q 197 #[v, .int .i64 Q.last] := k12.blk hv.blk (by simpa using hvq)
  have := (hB2.set_ 0 v').set_ 1 (.int .i64 b.seq)
  simpa using this
 ·have := own_other2 hown k2 (fun g hg hm => by simp at hm; subst hm; exact hv'q hg)
  simpa using this
 ·have hL : ∀ g ∈ v'.ownBlock.toList ++ M, g < w.heap.size ∨ v'.ownBlock = some g := fun g hg => by
   rcases List.mem_append.1 hg with h | h
   ·exact .inr (by simpa using h)
   ·exact .inl (hM g h)
  have hfin : Ds w2 (v'.ownBlock.toList ++ M) p.2 p.1.ds := by
   rcases List.mem_append.1 hp with h | h
   ·exact hx.ds hks (hv.ds p h)
   ·simp at h; subst h
    exact dsOwn_one (fun L hL => hd L (fun g hg => by rcases hL g hg with h | h; exact h; exact hM g (hv.tr g h).1)) hg hat _ hL
  exact hfin.keep k2 (fun g hg => .inl (by simp at hg; subst hg; exact List.mem_append_right _ hv.inM))
 ·have := hx.tag q hqw
  exact this.trans hv.tq
set_option maxRecDepth 100000 in
set_option maxHeartbeats 1000000 in
theorem qadd_any (h : QuAt w M tg t q Q) (hM : ∀ g ∈ M, g < w.heap.size) (b : BatD) (dv : Value) (hd : Ds w [] dv b.ds) (hs : b.seq ≤ 9223372036854775807) (hn : ∀ d ∈ b.ds, NOk d) (hl : b.ds.length ≤ 1000000) :
  Calls Tryz.prog 166 #[.pointer (some ⟨q, 0, none⟩), .agg (bCell (b, dv)).toArray] w fun e w' => QaPost M tg t q (quAdd Q b) w e w' := by
 have hok := quAdd_ok h.1 hs hn
 have H := Lib.hid h
 obtain ⟨ho, v, ps, hv⟩ := h
 obtain ⟨A, c, rfl, hc⟩ := hv.len
 obtain ⟨Ad, cd, rfl, hcd⟩ := hd.len
 have c0 := hv.blk.cell 0; have c1 := hv.blk.cell 1
 simp only [List.getElem?_toArray, List.getElem?_cons_succ, List.getElem?_cons_zero] at c0 c1
 have hlt := hv.blk.lt
 have hl16 := ho.1; have hl0 := ho.2.1; have hl1 := ho.2.2.1
 have HM := Lib.hid hM; have Hok := Lib.hid hok; have Hv := Lib.hid hv; have Hd := Lib.hid hd
 unfold bCell
 simp only []
 by_cases ha : quArg Q b = true
 ·have HP : Hid (∀ q', QaPost M tg t q (quAdd Q b) w (.returned (.int .i64 1)) ((w.alloc (.cells #[.int .i64 b.seq, .slice Ad b.ds.length cd] 136)).drewN q')) := fun q' => by
   have : quAdd Q b = (1, Q) := by unfold quAdd; rw [if_pos ha]
   rw [this]
   exact qa_same H.out HM.out (((Keeps.refl _ _).alloc _).drewN _) 1
  simp only [quArg, Bool.or_eq_true, decide_eq_true_eq] at ha
  have hor : b.seq < 1 ∨ b.seq ≤ Q.last ∨ b.ds.length = 0 ∨ 8 < b.ds.length := by
   rcases ha with ((h | h) | h) | h
   ·exact .inl h
   ·exact .inr (.inl h)
   ·exact .inr (.inr (.inl h))
   ·exact .inr (.inr (.inr h))
  clear hok hv hd hM ha
  generalize b.ds.length = n at *
  generalize Q.l.length = m at *
  by_cases h1 : b.seq < 1
  ·have d1 : decide (b.seq < 1) = true := decide_eq_true h1
   go_enter Tryz.func166, Tryz.ntmps166
   go_wp2_with fail
   go_quiet (fail)
   go_wp2
   go_ret
   exact HP.out _
  ·have d1 : decide (b.seq < 1) = false := decide_eq_false h1
   by_cases h2 : b.seq ≤ Q.last
   ·have d2 : decide (b.seq ≤ Q.last) = true := decide_eq_true h2
    go_enter Tryz.func166, Tryz.ntmps166
    go_wp2_with fail
    go_quiet (fail)
    go_wp2
    go_ret
    exact HP.out _
   ·have d2 : decide (b.seq ≤ Q.last) = false := decide_eq_false h2
    by_cases h3 : n = 0
    ·subst h3
     go_enter Tryz.func166, Tryz.ntmps166
     go_wp2_with fail
     go_quiet (fail)
     go_wp2
     go_ret
     exact HP.out _
    ·have d3 : ((n : Int) == 0) = false := beq_eq_false_iff_ne.2 (by omega)
     have h8 : 8 < n := by omega
     have d4 : decide ((8 : Int) < (n : Int)) = true := decide_eq_true (by omega)
     have d5 : decide (8 < n) = true := decide_eq_true h8
     clear hor
     go_enter Tryz.func166, Tryz.ntmps166
     go_wp2_with fail
     go_quiet (fail)
     go_wp2
     go_ret
     exact HP.out _
 ·have hqa : Hid (quArg Q b = false) := by show _ = _; simpa using ha
  simp only [quArg, Bool.or_eq_true, decide_eq_true_eq, not_or] at ha
  obtain ⟨⟨⟨h1, h2⟩, h3⟩, h4⟩ := ha
  have d1 : decide (b.seq < 1) = false := decide_eq_false h1
  have d2 : decide (b.seq ≤ Q.last) = false := decide_eq_false h2
  by_cases h16 : 16 ≤ Q.l.length
  ·have HP : Hid (∀ q', QaPost M tg t q (quAdd Q b) w (.returned (.int .i64 24)) ((w.alloc (.cells #[.int .i64 b.seq, .slice Ad b.ds.length cd] 136)).drewN q')) := fun q' => by
    have : quAdd Q b = (24, Q) := by unfold quAdd; rw [hqa.out, if_neg (by simp), if_pos h16]
    rw [this]
    exact qa_same H.out HM.out (((Keeps.refl _ _).alloc _).drewN _) 24
   clear hok hv hd hM hqa
   generalize b.ds.length = n at *
   generalize Q.l.length = m at *
   have d3 : ((n : Int) == 0) = false := beq_eq_false_iff_ne.2 (by omega)
   have d4 : decide ((8 : Int) < (n : Int)) = false := decide_eq_false (by omega)
   have d6 : decide ((16 : Int) ≤ (m : Int)) = true := decide_eq_true (by omega)
   go_enter Tryz.func166, Tryz.ntmps166
   go_wp2_with fail
   go_quiet (fail)
   go_wp2
   go_ret
   exact HP.out _
  ·have hqq : quAdd Q b = (0, ⟨Q.l ++ [b], b.seq⟩) := by unfold quAdd; rw [hqa.out, if_neg (by simp), if_neg h16]
   obtain ⟨w0, hw0⟩ : ∃ w0, w0 = w.alloc (.cells #[.int .i64 b.seq, .slice Ad b.ds.length cd] 136) := ⟨_, rfl⟩
   have hb0 : Below w.heap.size w w0 := by rw [hw0]; exact (Below.refl _ _).alloc (Nat.le_refl _) _
   have hz0 : w0.heap.size = w.heap.size + 1 := by rw [hw0]; simp
   have hB0 : Blk w0 w.heap.size 136 #[.int .i64 b.seq, .slice Ad b.ds.length cd] := by rw [hw0]; exact Blk.new w _ _
   have HV0 := Lib.hid (Hv.out.keep0 hM (Keeps.of_below (M := []) hb0))
   have Hb0 := Lib.hid hb0
   have HB0 := Lib.hid hB0
   have b0 := hB0.cell 0; have b1 := hB0.cell 1
   simp only [List.getElem?_toArray, List.getElem?_cons_succ, List.getElem?_cons_zero] at b0 b1
   have c0' : w0.cell? ⟨q, 0, none⟩ = some (.slice A Q.l.length c) := (hb0.cell (p := ⟨q, 0, none⟩) hlt).trans c0
   have Hown := Lib.hid (own_any [] b (.slice Ad b.ds.length cd) w0.drew ((hd.keep (Keeps.of_below (M := []) hb0) (by simp)).keep ((Keeps.refl [] _).drew) (by simp)) (by omega))
   have Hqq := Lib.hid hqq
   have d3 : ((b.ds.length : Int) == 0) = false := beq_eq_false_iff_ne.2 (by omega)
   have d4 : decide ((8 : Int) < (b.ds.length : Int)) = false := decide_eq_false (by omega)
   have d6 : decide ((16 : Int) ≤ (Q.l.length : Int)) = false := decide_eq_false (by omega)
   have HOwn : Hid (∀ W, Keeps [] w0 W → Calls Tryz.prog 170 #[.agg #[.int .i64 b.seq, .slice Ad b.ds.length cd]] W fun r w' => ∃ (A' : Option Addr) (n c' : Nat), r = .returned (.agg #[.int .i64 b.seq, .slice A' n c']) ∧ (∀ L, (∀ g ∈ L, g < W.heap.size) → Ds w' L (.slice A' n c') b.ds) ∧ Below W.heap.size W w') := fun W hk => by
    refine (own_any [] b (.slice Ad b.ds.length cd) W ((hd.keep (Keeps.of_below (M := []) hb0) (by simp)).keep hk (by simp)) (by omega)).mono ?_
    rintro e w' ⟨dv', rfl, h1, h2⟩
    obtain ⟨A', c', rfl, _⟩ := (h1 [] (by simp)).len
    exact ⟨A', _, c', rfl, h1, h2⟩
   have hqb : ¬ q = w.heap.size := by omega
   have HS : Hid (∀ W, Keeps (q :: (Value.ownBlock (.slice A Q.l.length c)).toList) w0 W → W.cell? ⟨w.heap.size, 0, none⟩ = some (.int .i64 b.seq) ∧ W.cell? ⟨w.heap.size, 1, none⟩ = some (.slice Ad b.ds.length cd)) := fun W hk => by
    have := hk.blk HB0.out (by
     intro hm
     rcases List.mem_cons.1 hm with h | h
     ·omega
     ·have := hM _ (hv.tr _ (by simpa using h)).1; omega)
    exact ⟨this.cell 0, this.cell 1⟩
   have c1' : w0.cell? ⟨q, 1, none⟩ = some (.int .i64 Q.last) := (hb0.cell (p := ⟨q, 1, none⟩) hlt).trans c1
   obtain ⟨i0, hi0, hz0', hz1, hz2⟩ := info_parts infoBatch2
   have Hi0 := Lib.hid hi0; have Hz0 := Lib.hid hz0'; have Hz1 := Lib.hid hz1; have Hz2 := Lib.hid hz2
   have hrow := HV0.out.row
   have hpl : ps.length = Q.l.length := by rw [← hv.map, List.length_map]
   have Hpl := Lib.hid hpl; have Hrow := Lib.hid hrow; have Hl16 := Lib.hid hl16
   have HF : Hid (∀ W, Keeps (Value.ownBlock (.slice A Q.l.length c)).toList w0 W → W.cell? ⟨q, 0, none⟩ = some (.slice A Q.l.length c) ∧ W.cell? ⟨q, 1, none⟩ = some (.int .i64 Q.last) ∧ W.frozen? ⟨q, 0, none⟩ = false ∧ W.frozen? ⟨q, 1, none⟩ = false) := fun W hk => by
    have := hk.blk HV0.out.blk (by
     intro hm
     have := (hv.tr q (by simpa using hm)).2; rw [hv.tq] at this; omega)
    exact ⟨this.cell 0, this.cell 1, this.frozen 0, this.frozen 1⟩
   clear hok hv hd hM hqa c0 c1 hqq h1 h2 h3 h4 h16 hi0 hz0' hz1 hz2 hB0 hrow hpl hl16 hl0 hl1 ho H Hown
   go_enter Tryz.func166, Tryz.ntmps166
   go_upto_region 1 with (fail)
   rw [← hw0]
   clear hw0
   go_wp2_with fail
   go_quiet (fail)
   go_upto_region 5 with (fail)
   clear d1 d2 d3 d4 d6 c1' c0' b0 b1 hqb
   obtain ⟨wq, hwq⟩ : ∃ wq, wq = w0.drewN nq := ⟨_, rfl⟩
   have Hkq : Hid (Keeps [] w0 wq) := by rw [hwq]; exact (Keeps.refl _ _).drewN _
   rw [← hwq]
   clear hwq
   obtain ⟨p0, p1, -, -⟩ := HF.out wq (Hkq.out.mono (by simp))
   refine wp_region_held_drew (S := (fun W => W.cell? ⟨w.heap.size, 0, none⟩ = some (.int .i64 b.seq) ∧ W.cell? ⟨w.heap.size, 1, none⟩ = some (.slice Ad b.ds.length cd))) (by kernel_rfl) (by refine HS.out _ ?_; repeat (first | (with_reducible exact HK2.out) | (with_reducible exact HK1.out) | (with_reducible exact Hkq.out.mono (by simp)) | (with_reducible refine Keeps.setCell ?_ (by simp) _) | (with_reducible refine Keeps.alloc ?_ _) | (with_reducible refine Keeps.drew ?_))) (fun hHeld => ?_)
   refine wpAnyH_take (i := 0) (oi := _) (v := ?v0u1) rfl (by kernel_rfl) (by kernel_rfl) (by kernel_rfl) (fun _ _ _ h => h) (Or.inl ⟨by rfl, ?y0u1⟩) (by assumption) ?r0u1
   case y0u1 => (intro w hSw; (obtain ⟨hS0, hS1⟩ := hSw); go_simp <;> with_reducible rfl)
   try simp only [List.getElem_toArray, List.getElem_cons_succ, List.getElem_cons_zero, Act.put, List.setIfInBounds_toArray, List.set_cons_zero, List.set_cons_succ]
   refine wpAnyH_take (i := 1) (oi := _) (v := ?v1u2) rfl (by kernel_rfl) (by kernel_rfl) (by kernel_rfl) (fun _ _ _ h => h) (Or.inl ⟨by rfl, ?y1u2⟩) (by assumption) ?r1u2
   case y1u2 => (intro w hSw; (obtain ⟨hS0, hS1⟩ := hSw); go_simp <;> with_reducible rfl)
   try simp only [List.getElem_toArray, List.getElem_cons_succ, List.getElem_cons_zero, Act.put, List.setIfInBounds_toArray, List.set_cons_zero, List.set_cons_succ]
   refine wpAnyH_take (i := 2) (oi := _) (v := ?v2u3) rfl (by kernel_rfl) (by kernel_rfl) (by kernel_rfl) (fun _ _ _ h => h) (Or.inl ⟨by rfl, ?y2u3⟩) (by assumption) ?r2u3
   case y2u3 => (intro w hSw; (obtain ⟨hS0, hS1⟩ := hSw); go_simp <;> with_reducible rfl)
   try simp only [List.getElem_toArray, List.getElem_cons_succ, List.getElem_cons_zero, Act.put, List.setIfInBounds_toArray, List.set_cons_zero, List.set_cons_succ]
   refine wpAnyH_take (i := 3) (oi := _) (v := ?v3u4) rfl (by kernel_rfl) (by kernel_rfl) (by kernel_rfl) (fun _ _ _ h => h) (Or.inl ⟨by rfl, ?y3u4⟩) (by assumption) ?r3u4
   case y3u4 => (intro w hSw; (obtain ⟨hS0, hS1⟩ := hSw); go_simp <;> with_reducible rfl)
   try simp only [List.getElem_toArray, List.getElem_cons_succ, List.getElem_cons_zero, Act.put, List.setIfInBounds_toArray, List.set_cons_zero, List.set_cons_succ]
   refine wpAnyH_take (i := 4) (oi := _) (v := ?v4u5) rfl (by kernel_rfl) (by kernel_rfl) (by kernel_rfl) (fun _ _ _ h => h) (Or.inl ⟨by rfl, ?y4u5⟩) (by assumption) ?r4u5
   case y4u5 => (intro w hSw; (obtain ⟨hS0, hS1⟩ := hSw); go_simp <;> with_reducible rfl)
   try simp only [List.getElem_toArray, List.getElem_cons_succ, List.getElem_cons_zero, Act.put, List.setIfInBounds_toArray, List.set_cons_zero, List.set_cons_succ]
   refine wpAnyH_take (i := 6) (oi := _) (v := ?v6u6) rfl (by kernel_rfl) (by kernel_rfl) (by kernel_rfl) (fun _ _ _ h => h) (Or.inl ⟨by rfl, ?y6u6⟩) (by assumption) ?r6u6
   case y6u6 => (intro w hSw; (obtain ⟨hS0, hS1⟩ := hSw); go_simp <;> with_reducible rfl)
   try simp only [List.getElem_toArray, List.getElem_cons_succ, List.getElem_cons_zero, Act.put, List.setIfInBounds_toArray, List.set_cons_zero, List.set_cons_succ]
   refine wpAnyH_take (i := 10) (oi := _) (v := ?v10u7) rfl (by kernel_rfl) (by kernel_rfl) (by kernel_rfl) (fun _ _ _ h => h) (Or.inl ⟨by rfl, ?y10u7⟩) (by assumption) ?r10u7
   case y10u7 => (intro w hSw; (obtain ⟨hS0, hS1⟩ := hSw); go_simp <;> with_reducible rfl)
   try simp only [List.getElem_toArray, List.getElem_cons_succ, List.getElem_cons_zero, Act.put, List.setIfInBounds_toArray, List.set_cons_zero, List.set_cons_succ]
   refine wpAnyH_take (i := 11) (oi := _) (v := ?v11u8) rfl (by kernel_rfl) (by kernel_rfl) (by kernel_rfl) (fun _ _ _ h => h) (Or.inl ⟨by rfl, ?y11u8⟩) (by assumption) ?r11u8
   case y11u8 => (intro w hSw; (obtain ⟨hS0, hS1⟩ := hSw); go_simp <;> with_reducible rfl)
   try simp only [List.getElem_toArray, List.getElem_cons_succ, List.getElem_cons_zero, Act.put, List.setIfInBounds_toArray, List.set_cons_zero, List.set_cons_succ]
   refine wpAnyH_ready (rs := [5, 7]) (by kernel_rfl) (by simp) ?_
   refine AllReadyH.cons (o := _) rfl (fun K hK => ?u23) (AllReadyH.cons (o := _) rfl (fun K hK => ?u24) AllReadyH.nil)
   case' u23 =>
    go_simp
    refine hK.out _ _ (by refine HS.out _ ?_; repeat (first | (with_reducible exact HK2.out) | (with_reducible exact HK1.out) | (with_reducible exact Hkq.out.mono (by simp)) | (with_reducible refine Keeps.setCell ?_ (by simp) _) | (with_reducible refine Keeps.alloc ?_ _) | (with_reducible refine Keeps.drew ?_))) (fun hHeld2 => ?_)
    clear hK K hHeld
    have hHeld := hHeld2
    clear hHeld2
    try simp only [List.getElem_toArray, List.getElem_cons_succ, List.getElem_cons_zero, Act.put, List.setIfInBounds_toArray, List.set_cons_zero, List.set_cons_succ]
    refine wpAnyH_ready (rs := [7]) (by kernel_rfl) (by simp) ?_
    refine AllReadyH.cons (o := _) rfl (fun K hK => ?_) AllReadyH.nil
    go_simp
    with_reducible refine (HOwn.out _ Hkq.out.drew).mono ?_
    rintro e w1 ⟨A', n', c', rfl, hds', hbel0⟩
    have hbel : Below wq.heap.size wq w1 := ⟨hbel0.os, hbel0.tape, hbel0.output, hbel0.size, hbel0.block⟩
    have Hds := Lib.hid hds'
    have Hbel : Hid (Below wq.heap.size wq w1) := hbel
    have HK1 : Hid (Keeps (q :: (Value.ownBlock (.slice A Q.l.length c)).toList) w0 w1) := (Hkq.out.trans (Keeps.of_below (M := []) hbel) (by simp)).mono (by simp)
    obtain ⟨p2, -, -, -⟩ := HF.out w1 ((Hkq.out.trans (Keeps.of_below (M := []) hbel) (by simp)).mono (by simp))
    have p3 : ∀ o, (w1.alloc o).cell? ⟨q, 0, none⟩ = some (.slice A Q.l.length c) := fun o => (HF.out (w1.alloc o) (((Hkq.out.trans (Keeps.of_below (M := []) hbel) (by simp)).alloc o).mono (by simp))).1
    clear hds' hbel hbel0
    refine hK.out _ _ (by refine HS.out _ ?_; repeat (first | (with_reducible exact HK2.out) | (with_reducible exact HK1.out) | (with_reducible exact Hkq.out.mono (by simp)) | (with_reducible refine Keeps.setCell ?_ (by simp) _) | (with_reducible refine Keeps.alloc ?_ _) | (with_reducible refine Keeps.drew ?_))) (fun hHeld2 => ?_)
    clear hK K hHeld
    have hHeld := hHeld2
    clear hHeld2
    try simp only [List.getElem_toArray, List.getElem_cons_succ, List.getElem_cons_zero, Act.put, List.setIfInBounds_toArray, List.set_cons_zero, List.set_cons_succ]
    refine wpAnyH_ready (rs := [8]) (by kernel_rfl) (by simp) ?_
    refine AllReadyH.cons (o := _) rfl (fun K hK => ?_) AllReadyH.nil
    go_simp
    refine hK.out _ _ (by refine HS.out _ ?_; repeat (first | (with_reducible exact HK2.out) | (with_reducible exact HK1.out) | (with_reducible exact Hkq.out.mono (by simp)) | (with_reducible refine Keeps.setCell ?_ (by simp) _) | (with_reducible refine Keeps.alloc ?_ _) | (with_reducible refine Keeps.drew ?_))) (fun hHeld2 => ?_)
    clear hK K hHeld
    have hHeld := hHeld2
    clear hHeld2
    try simp only [List.getElem_toArray, List.getElem_cons_succ, List.getElem_cons_zero, Act.put, List.setIfInBounds_toArray, List.set_cons_zero, List.set_cons_succ]
    refine wpAnyH_ready (rs := [9]) (by kernel_rfl) (by simp) ?_
    refine AllReadyH.cons (o := _) rfl (fun K hK => ?_) AllReadyH.nil
    refine step_append_any _ rfl (.tmp 42) (.tmp 45) 133 rfl 0 136 i0 _ 2 32 Tryz.underlying133 Hi0.out Hz0.out Hz1.out Hz2.out rfl (by omega) (.slice A Q.l.length c) ps.length (ps.flatMap bCell) (by simp [Act.eval, Act.put]) ((own_below (own_below (own_below Hrow.out (Hkq.out.below)) Hbel.out) (below_new' w1 _))) (w1.heap.size + 1) (some ⟨w1.heap.size, 0, none⟩) 1 1 [.int .i64 b.seq, .slice A' n' c'] (by simp [Act.eval, Act.put]) (reads_new _ _ _ _ _ rfl) (by intro u hu; simp at hu; rcases hu with rfl | rfl <;> rfl) (by have := Hl16.out; have := Hpl.out; unfold maxLen; omega) (by have := Hl16.out; have := Hpl.out; omega) (Nat.zero_le _) ?_
    intro v2 w2 hown2 hg2 hat2
    rw [World.size_alloc] at hat2
    have hk2 : Keeps (Value.ownBlock (.slice A Q.l.length c)).toList w0 w2 := (((Hkq.out.trans (Keeps.of_below (M := []) Hbel.out) (by simp)).alloc _).mono (by simp)).grown hg2 (fun g hg => .inl (by simpa using hg))
    have HK2 : Hid (Keeps (q :: (Value.ownBlock (.slice A Q.l.length c)).toList) w0 w2) := hk2.mono (fun _ hg => .inl (List.mem_cons_of_mem _ hg))
    obtain ⟨p4, p5, p6, p7⟩ := HF.out w2 hk2
    obtain ⟨A2, c2, rfl⟩ : ∃ A2 c2, v2 = .slice A2 (ps.length + 1) c2 := by
     obtain ⟨A2, c2, h1, _⟩ := Rd.of_own (M := []) hown2 (by simp)
     exact ⟨A2, c2, h1⟩
    have Hown2 := Lib.hid hown2; have Hg2 := Lib.hid hg2; have Hat2 := Lib.hid hat2
    clear hown2 hg2 hat2 hk2
    refine hK.out _ _ (by refine HS.out _ ?_; repeat (first | (with_reducible exact HK2.out) | (with_reducible exact HK1.out) | (with_reducible exact Hkq.out.mono (by simp)) | (with_reducible refine Keeps.setCell ?_ (by simp) _) | (with_reducible refine Keeps.alloc ?_ _) | (with_reducible refine Keeps.drew ?_))) (fun hHeld2 => ?_)
    clear hK K hHeld
    have hHeld := hHeld2
    clear hHeld2
    try simp only [List.getElem_toArray, List.getElem_cons_succ, List.getElem_cons_zero, Act.put, List.setIfInBounds_toArray, List.set_cons_zero, List.set_cons_succ]
    refine wpAnyH_take (i := 12) (oi := _) (v := ?v12u9) rfl (by kernel_rfl) (by kernel_rfl) (by kernel_rfl) (fun _ _ _ h => h) (Or.inl ⟨by rfl, ?y12u9⟩) (by assumption) ?r12u9
    case y12u9 => (intro w hSw; (obtain ⟨hS0, hS1⟩ := hSw); go_simp <;> with_reducible rfl)
    try simp only [List.getElem_toArray, List.getElem_cons_succ, List.getElem_cons_zero, Act.put, List.setIfInBounds_toArray, List.set_cons_zero, List.set_cons_succ]
    refine wpAnyH_take (i := 13) (oi := _) (v := ?v13u10) rfl (by kernel_rfl) (by kernel_rfl) (by kernel_rfl) (fun _ _ _ h => h) (Or.inl ⟨by rfl, ?y13u10⟩) (by assumption) ?r13u10
    case y13u10 => (intro w hSw; (obtain ⟨hS0, hS1⟩ := hSw); go_simp <;> with_reducible rfl)
    try simp only [List.getElem_toArray, List.getElem_cons_succ, List.getElem_cons_zero, Act.put, List.setIfInBounds_toArray, List.set_cons_zero, List.set_cons_succ]
    refine wpAnyH_ready (rs := [14]) (by kernel_rfl) (by simp) ?_
    refine AllReadyH.cons (o := _) rfl (fun K hK => ?_) AllReadyH.nil
    go_simp
    refine hK.out _ _ (by refine HS.out _ ?_; repeat (first | (with_reducible exact HK2.out) | (with_reducible exact HK1.out) | (with_reducible exact Hkq.out.mono (by simp)) | (with_reducible refine Keeps.setCell ?_ (by simp) _) | (with_reducible refine Keeps.alloc ?_ _) | (with_reducible refine Keeps.drew ?_))) (fun hHeld2 => ?_)
    clear hK K hHeld
    have hHeld := hHeld2
    clear hHeld2
    try simp only [List.getElem_toArray, List.getElem_cons_succ, List.getElem_cons_zero, Act.put, List.setIfInBounds_toArray, List.set_cons_zero, List.set_cons_succ]
    refine wpAnyH_take (i := 15) (oi := _) (v := ?v15u11) rfl (by kernel_rfl) (by kernel_rfl) (by kernel_rfl) (fun _ _ _ h => h) (Or.inl ⟨by rfl, ?y15u11⟩) (by assumption) ?r15u11
    case y15u11 => (intro w hSw; (obtain ⟨hS0, hS1⟩ := hSw); go_simp <;> with_reducible rfl)
    try simp only [List.getElem_toArray, List.getElem_cons_succ, List.getElem_cons_zero, Act.put, List.setIfInBounds_toArray, List.set_cons_zero, List.set_cons_succ]
    refine wpAnyH_take (i := 16) (oi := _) (v := ?v16u12) rfl (by kernel_rfl) (by kernel_rfl) (by kernel_rfl) (fun _ _ _ h => h) (Or.inl ⟨by rfl, ?y16u12⟩) (by assumption) ?r16u12
    case y16u12 => (intro w hSw; (obtain ⟨hS0, hS1⟩ := hSw); go_simp <;> with_reducible rfl)
    try simp only [List.getElem_toArray, List.getElem_cons_succ, List.getElem_cons_zero, Act.put, List.setIfInBounds_toArray, List.set_cons_zero, List.set_cons_succ]
    refine wpAnyH_ready (rs := [17]) (by kernel_rfl) (by simp) ?_
    refine AllReadyH.cons (o := _) rfl (fun K hK => ?_) AllReadyH.nil
    go_simp
    refine hK.out _ _ (by refine HS.out _ ?_; repeat (first | (with_reducible exact HK2.out) | (with_reducible exact HK1.out) | (with_reducible exact Hkq.out.mono (by simp)) | (with_reducible refine Keeps.setCell ?_ (by simp) _) | (with_reducible refine Keeps.alloc ?_ _) | (with_reducible refine Keeps.drew ?_))) (fun hHeld2 => ?_)
    clear hK K hHeld
    have hHeld := hHeld2
    clear hHeld2
    try simp only [List.getElem_toArray, List.getElem_cons_succ, List.getElem_cons_zero, Act.put, List.setIfInBounds_toArray, List.set_cons_zero, List.set_cons_succ]
    refine wpAnyH_done (by kernel_rfl) ?_ _
    clear hHeld
   case' u24 =>
    go_simp
    with_reducible refine (HOwn.out _ Hkq.out.drew).mono ?_
    rintro e w1 ⟨A', n', c', rfl, hds', hbel0⟩
    have hbel : Below wq.heap.size wq w1 := ⟨hbel0.os, hbel0.tape, hbel0.output, hbel0.size, hbel0.block⟩
    have Hds := Lib.hid hds'
    have Hbel : Hid (Below wq.heap.size wq w1) := hbel
    have HK1 : Hid (Keeps (q :: (Value.ownBlock (.slice A Q.l.length c)).toList) w0 w1) := (Hkq.out.trans (Keeps.of_below (M := []) hbel) (by simp)).mono (by simp)
    obtain ⟨p2, -, -, -⟩ := HF.out w1 ((Hkq.out.trans (Keeps.of_below (M := []) hbel) (by simp)).mono (by simp))
    have p3 : ∀ o, (w1.alloc o).cell? ⟨q, 0, none⟩ = some (.slice A Q.l.length c) := fun o => (HF.out (w1.alloc o) (((Hkq.out.trans (Keeps.of_below (M := []) hbel) (by simp)).alloc o).mono (by simp))).1
    clear hds' hbel hbel0
    refine hK.out _ _ (by refine HS.out _ ?_; repeat (first | (with_reducible exact HK2.out) | (with_reducible exact HK1.out) | (with_reducible exact Hkq.out.mono (by simp)) | (with_reducible refine Keeps.setCell ?_ (by simp) _) | (with_reducible refine Keeps.alloc ?_ _) | (with_reducible refine Keeps.drew ?_))) (fun hHeld2 => ?_)
    clear hK K hHeld
    have hHeld := hHeld2
    clear hHeld2
    try simp only [List.getElem_toArray, List.getElem_cons_succ, List.getElem_cons_zero, Act.put, List.setIfInBounds_toArray, List.set_cons_zero, List.set_cons_succ]
    refine wpAnyH_ready (rs := [5, 8]) (by kernel_rfl) (by simp) ?_
    refine AllReadyH.cons (o := _) rfl (fun K hK => ?u21) (AllReadyH.cons (o := _) rfl (fun K hK => ?u22) AllReadyH.nil)
    case' u21 =>
     go_simp
     refine hK.out _ _ (by refine HS.out _ ?_; repeat (first | (with_reducible exact HK2.out) | (with_reducible exact HK1.out) | (with_reducible exact Hkq.out.mono (by simp)) | (with_reducible refine Keeps.setCell ?_ (by simp) _) | (with_reducible refine Keeps.alloc ?_ _) | (with_reducible refine Keeps.drew ?_))) (fun hHeld2 => ?_)
     clear hK K hHeld
     have hHeld := hHeld2
     clear hHeld2
     try simp only [List.getElem_toArray, List.getElem_cons_succ, List.getElem_cons_zero, Act.put, List.setIfInBounds_toArray, List.set_cons_zero, List.set_cons_succ]
     refine wpAnyH_ready (rs := [8]) (by kernel_rfl) (by simp) ?_
     refine AllReadyH.cons (o := _) rfl (fun K hK => ?_) AllReadyH.nil
     go_simp
     refine hK.out _ _ (by refine HS.out _ ?_; repeat (first | (with_reducible exact HK2.out) | (with_reducible exact HK1.out) | (with_reducible exact Hkq.out.mono (by simp)) | (with_reducible refine Keeps.setCell ?_ (by simp) _) | (with_reducible refine Keeps.alloc ?_ _) | (with_reducible refine Keeps.drew ?_))) (fun hHeld2 => ?_)
     clear hK K hHeld
     have hHeld := hHeld2
     clear hHeld2
     try simp only [List.getElem_toArray, List.getElem_cons_succ, List.getElem_cons_zero, Act.put, List.setIfInBounds_toArray, List.set_cons_zero, List.set_cons_succ]
     refine wpAnyH_ready (rs := [9]) (by kernel_rfl) (by simp) ?_
     refine AllReadyH.cons (o := _) rfl (fun K hK => ?_) AllReadyH.nil
     refine step_append_any _ rfl (.tmp 42) (.tmp 45) 133 rfl 0 136 i0 _ 2 32 Tryz.underlying133 Hi0.out Hz0.out Hz1.out Hz2.out rfl (by omega) (.slice A Q.l.length c) ps.length (ps.flatMap bCell) (by simp [Act.eval, Act.put]) ((own_below (own_below (own_below Hrow.out (Hkq.out.below)) Hbel.out) (below_new' w1 _))) (w1.heap.size + 1) (some ⟨w1.heap.size, 0, none⟩) 1 1 [.int .i64 b.seq, .slice A' n' c'] (by simp [Act.eval, Act.put]) (reads_new _ _ _ _ _ rfl) (by intro u hu; simp at hu; rcases hu with rfl | rfl <;> rfl) (by have := Hl16.out; have := Hpl.out; unfold maxLen; omega) (by have := Hl16.out; have := Hpl.out; omega) (Nat.zero_le _) ?_
     intro v2 w2 hown2 hg2 hat2
     rw [World.size_alloc] at hat2
     have hk2 : Keeps (Value.ownBlock (.slice A Q.l.length c)).toList w0 w2 := (((Hkq.out.trans (Keeps.of_below (M := []) Hbel.out) (by simp)).alloc _).mono (by simp)).grown hg2 (fun g hg => .inl (by simpa using hg))
     have HK2 : Hid (Keeps (q :: (Value.ownBlock (.slice A Q.l.length c)).toList) w0 w2) := hk2.mono (fun _ hg => .inl (List.mem_cons_of_mem _ hg))
     obtain ⟨p4, p5, p6, p7⟩ := HF.out w2 hk2
     obtain ⟨A2, c2, rfl⟩ : ∃ A2 c2, v2 = .slice A2 (ps.length + 1) c2 := by
      obtain ⟨A2, c2, h1, _⟩ := Rd.of_own (M := []) hown2 (by simp)
      exact ⟨A2, c2, h1⟩
     have Hown2 := Lib.hid hown2; have Hg2 := Lib.hid hg2; have Hat2 := Lib.hid hat2
     clear hown2 hg2 hat2 hk2
     refine hK.out _ _ (by refine HS.out _ ?_; repeat (first | (with_reducible exact HK2.out) | (with_reducible exact HK1.out) | (with_reducible exact Hkq.out.mono (by simp)) | (with_reducible refine Keeps.setCell ?_ (by simp) _) | (with_reducible refine Keeps.alloc ?_ _) | (with_reducible refine Keeps.drew ?_))) (fun hHeld2 => ?_)
     clear hK K hHeld
     have hHeld := hHeld2
     clear hHeld2
     try simp only [List.getElem_toArray, List.getElem_cons_succ, List.getElem_cons_zero, Act.put, List.setIfInBounds_toArray, List.set_cons_zero, List.set_cons_succ]
     refine wpAnyH_take (i := 12) (oi := _) (v := ?v12u13) rfl (by kernel_rfl) (by kernel_rfl) (by kernel_rfl) (fun _ _ _ h => h) (Or.inl ⟨by rfl, ?y12u13⟩) (by assumption) ?r12u13
     case y12u13 => (intro w hSw; (obtain ⟨hS0, hS1⟩ := hSw); go_simp <;> with_reducible rfl)
     try simp only [List.getElem_toArray, List.getElem_cons_succ, List.getElem_cons_zero, Act.put, List.setIfInBounds_toArray, List.set_cons_zero, List.set_cons_succ]
     refine wpAnyH_take (i := 13) (oi := _) (v := ?v13u14) rfl (by kernel_rfl) (by kernel_rfl) (by kernel_rfl) (fun _ _ _ h => h) (Or.inl ⟨by rfl, ?y13u14⟩) (by assumption) ?r13u14
     case y13u14 => (intro w hSw; (obtain ⟨hS0, hS1⟩ := hSw); go_simp <;> with_reducible rfl)
     try simp only [List.getElem_toArray, List.getElem_cons_succ, List.getElem_cons_zero, Act.put, List.setIfInBounds_toArray, List.set_cons_zero, List.set_cons_succ]
     refine wpAnyH_ready (rs := [14]) (by kernel_rfl) (by simp) ?_
     refine AllReadyH.cons (o := _) rfl (fun K hK => ?_) AllReadyH.nil
     go_simp
     refine hK.out _ _ (by refine HS.out _ ?_; repeat (first | (with_reducible exact HK2.out) | (with_reducible exact HK1.out) | (with_reducible exact Hkq.out.mono (by simp)) | (with_reducible refine Keeps.setCell ?_ (by simp) _) | (with_reducible refine Keeps.alloc ?_ _) | (with_reducible refine Keeps.drew ?_))) (fun hHeld2 => ?_)
     clear hK K hHeld
     have hHeld := hHeld2
     clear hHeld2
     try simp only [List.getElem_toArray, List.getElem_cons_succ, List.getElem_cons_zero, Act.put, List.setIfInBounds_toArray, List.set_cons_zero, List.set_cons_succ]
     refine wpAnyH_take (i := 15) (oi := _) (v := ?v15u15) rfl (by kernel_rfl) (by kernel_rfl) (by kernel_rfl) (fun _ _ _ h => h) (Or.inl ⟨by rfl, ?y15u15⟩) (by assumption) ?r15u15
     case y15u15 => (intro w hSw; (obtain ⟨hS0, hS1⟩ := hSw); go_simp <;> with_reducible rfl)
     try simp only [List.getElem_toArray, List.getElem_cons_succ, List.getElem_cons_zero, Act.put, List.setIfInBounds_toArray, List.set_cons_zero, List.set_cons_succ]
     refine wpAnyH_take (i := 16) (oi := _) (v := ?v16u16) rfl (by kernel_rfl) (by kernel_rfl) (by kernel_rfl) (fun _ _ _ h => h) (Or.inl ⟨by rfl, ?y16u16⟩) (by assumption) ?r16u16
     case y16u16 => (intro w hSw; (obtain ⟨hS0, hS1⟩ := hSw); go_simp <;> with_reducible rfl)
     try simp only [List.getElem_toArray, List.getElem_cons_succ, List.getElem_cons_zero, Act.put, List.setIfInBounds_toArray, List.set_cons_zero, List.set_cons_succ]
     refine wpAnyH_ready (rs := [17]) (by kernel_rfl) (by simp) ?_
     refine AllReadyH.cons (o := _) rfl (fun K hK => ?_) AllReadyH.nil
     go_simp
     refine hK.out _ _ (by refine HS.out _ ?_; repeat (first | (with_reducible exact HK2.out) | (with_reducible exact HK1.out) | (with_reducible exact Hkq.out.mono (by simp)) | (with_reducible refine Keeps.setCell ?_ (by simp) _) | (with_reducible refine Keeps.alloc ?_ _) | (with_reducible refine Keeps.drew ?_))) (fun hHeld2 => ?_)
     clear hK K hHeld
     have hHeld := hHeld2
     clear hHeld2
     try simp only [List.getElem_toArray, List.getElem_cons_succ, List.getElem_cons_zero, Act.put, List.setIfInBounds_toArray, List.set_cons_zero, List.set_cons_succ]
     refine wpAnyH_done (by kernel_rfl) ?_ _
     clear hHeld
    case' u22 =>
     go_simp
     refine hK.out _ _ (by refine HS.out _ ?_; repeat (first | (with_reducible exact HK2.out) | (with_reducible exact HK1.out) | (with_reducible exact Hkq.out.mono (by simp)) | (with_reducible refine Keeps.setCell ?_ (by simp) _) | (with_reducible refine Keeps.alloc ?_ _) | (with_reducible refine Keeps.drew ?_))) (fun hHeld2 => ?_)
     clear hK K hHeld
     have hHeld := hHeld2
     clear hHeld2
     try simp only [List.getElem_toArray, List.getElem_cons_succ, List.getElem_cons_zero, Act.put, List.setIfInBounds_toArray, List.set_cons_zero, List.set_cons_succ]
     refine wpAnyH_ready (rs := [5]) (by kernel_rfl) (by simp) ?_
     refine AllReadyH.cons (o := _) rfl (fun K hK => ?_) AllReadyH.nil
     go_simp
     refine hK.out _ _ (by refine HS.out _ ?_; repeat (first | (with_reducible exact HK2.out) | (with_reducible exact HK1.out) | (with_reducible exact Hkq.out.mono (by simp)) | (with_reducible refine Keeps.setCell ?_ (by simp) _) | (with_reducible refine Keeps.alloc ?_ _) | (with_reducible refine Keeps.drew ?_))) (fun hHeld2 => ?_)
     clear hK K hHeld
     have hHeld := hHeld2
     clear hHeld2
     try simp only [List.getElem_toArray, List.getElem_cons_succ, List.getElem_cons_zero, Act.put, List.setIfInBounds_toArray, List.set_cons_zero, List.set_cons_succ]
     refine wpAnyH_ready (rs := [9]) (by kernel_rfl) (by simp) ?_
     refine AllReadyH.cons (o := _) rfl (fun K hK => ?_) AllReadyH.nil
     refine step_append_any _ rfl (.tmp 42) (.tmp 45) 133 rfl 0 136 i0 _ 2 32 Tryz.underlying133 Hi0.out Hz0.out Hz1.out Hz2.out rfl (by omega) (.slice A Q.l.length c) ps.length (ps.flatMap bCell) (by simp [Act.eval, Act.put]) ((own_below (own_below (own_below Hrow.out (Hkq.out.below)) Hbel.out) (below_new' w1 _))) (w1.heap.size + 1) (some ⟨w1.heap.size, 0, none⟩) 1 1 [.int .i64 b.seq, .slice A' n' c'] (by simp [Act.eval, Act.put]) (reads_new _ _ _ _ _ rfl) (by intro u hu; simp at hu; rcases hu with rfl | rfl <;> rfl) (by have := Hl16.out; have := Hpl.out; unfold maxLen; omega) (by have := Hl16.out; have := Hpl.out; omega) (Nat.zero_le _) ?_
     intro v2 w2 hown2 hg2 hat2
     rw [World.size_alloc] at hat2
     have hk2 : Keeps (Value.ownBlock (.slice A Q.l.length c)).toList w0 w2 := (((Hkq.out.trans (Keeps.of_below (M := []) Hbel.out) (by simp)).alloc _).mono (by simp)).grown hg2 (fun g hg => .inl (by simpa using hg))
     have HK2 : Hid (Keeps (q :: (Value.ownBlock (.slice A Q.l.length c)).toList) w0 w2) := hk2.mono (fun _ hg => .inl (List.mem_cons_of_mem _ hg))
     obtain ⟨p4, p5, p6, p7⟩ := HF.out w2 hk2
     obtain ⟨A2, c2, rfl⟩ : ∃ A2 c2, v2 = .slice A2 (ps.length + 1) c2 := by
      obtain ⟨A2, c2, h1, _⟩ := Rd.of_own (M := []) hown2 (by simp)
      exact ⟨A2, c2, h1⟩
     have Hown2 := Lib.hid hown2; have Hg2 := Lib.hid hg2; have Hat2 := Lib.hid hat2
     clear hown2 hg2 hat2 hk2
     refine hK.out _ _ (by refine HS.out _ ?_; repeat (first | (with_reducible exact HK2.out) | (with_reducible exact HK1.out) | (with_reducible exact Hkq.out.mono (by simp)) | (with_reducible refine Keeps.setCell ?_ (by simp) _) | (with_reducible refine Keeps.alloc ?_ _) | (with_reducible refine Keeps.drew ?_))) (fun hHeld2 => ?_)
     clear hK K hHeld
     have hHeld := hHeld2
     clear hHeld2
     try simp only [List.getElem_toArray, List.getElem_cons_succ, List.getElem_cons_zero, Act.put, List.setIfInBounds_toArray, List.set_cons_zero, List.set_cons_succ]
     refine wpAnyH_take (i := 12) (oi := _) (v := ?v12u17) rfl (by kernel_rfl) (by kernel_rfl) (by kernel_rfl) (fun _ _ _ h => h) (Or.inl ⟨by rfl, ?y12u17⟩) (by assumption) ?r12u17
     case y12u17 => (intro w hSw; (obtain ⟨hS0, hS1⟩ := hSw); go_simp <;> with_reducible rfl)
     try simp only [List.getElem_toArray, List.getElem_cons_succ, List.getElem_cons_zero, Act.put, List.setIfInBounds_toArray, List.set_cons_zero, List.set_cons_succ]
     refine wpAnyH_take (i := 13) (oi := _) (v := ?v13u18) rfl (by kernel_rfl) (by kernel_rfl) (by kernel_rfl) (fun _ _ _ h => h) (Or.inl ⟨by rfl, ?y13u18⟩) (by assumption) ?r13u18
     case y13u18 => (intro w hSw; (obtain ⟨hS0, hS1⟩ := hSw); go_simp <;> with_reducible rfl)
     try simp only [List.getElem_toArray, List.getElem_cons_succ, List.getElem_cons_zero, Act.put, List.setIfInBounds_toArray, List.set_cons_zero, List.set_cons_succ]
     refine wpAnyH_ready (rs := [14]) (by kernel_rfl) (by simp) ?_
     refine AllReadyH.cons (o := _) rfl (fun K hK => ?_) AllReadyH.nil
     go_simp
     refine hK.out _ _ (by refine HS.out _ ?_; repeat (first | (with_reducible exact HK2.out) | (with_reducible exact HK1.out) | (with_reducible exact Hkq.out.mono (by simp)) | (with_reducible refine Keeps.setCell ?_ (by simp) _) | (with_reducible refine Keeps.alloc ?_ _) | (with_reducible refine Keeps.drew ?_))) (fun hHeld2 => ?_)
     clear hK K hHeld
     have hHeld := hHeld2
     clear hHeld2
     try simp only [List.getElem_toArray, List.getElem_cons_succ, List.getElem_cons_zero, Act.put, List.setIfInBounds_toArray, List.set_cons_zero, List.set_cons_succ]
     refine wpAnyH_take (i := 15) (oi := _) (v := ?v15u19) rfl (by kernel_rfl) (by kernel_rfl) (by kernel_rfl) (fun _ _ _ h => h) (Or.inl ⟨by rfl, ?y15u19⟩) (by assumption) ?r15u19
     case y15u19 => (intro w hSw; (obtain ⟨hS0, hS1⟩ := hSw); go_simp <;> with_reducible rfl)
     try simp only [List.getElem_toArray, List.getElem_cons_succ, List.getElem_cons_zero, Act.put, List.setIfInBounds_toArray, List.set_cons_zero, List.set_cons_succ]
     refine wpAnyH_take (i := 16) (oi := _) (v := ?v16u20) rfl (by kernel_rfl) (by kernel_rfl) (by kernel_rfl) (fun _ _ _ h => h) (Or.inl ⟨by rfl, ?y16u20⟩) (by assumption) ?r16u20
     case y16u20 => (intro w hSw; (obtain ⟨hS0, hS1⟩ := hSw); go_simp <;> with_reducible rfl)
     try simp only [List.getElem_toArray, List.getElem_cons_succ, List.getElem_cons_zero, Act.put, List.setIfInBounds_toArray, List.set_cons_zero, List.set_cons_succ]
     refine wpAnyH_ready (rs := [17]) (by kernel_rfl) (by simp) ?_
     refine AllReadyH.cons (o := _) rfl (fun K hK => ?_) AllReadyH.nil
     go_simp
     refine hK.out _ _ (by refine HS.out _ ?_; repeat (first | (with_reducible exact HK2.out) | (with_reducible exact HK1.out) | (with_reducible exact Hkq.out.mono (by simp)) | (with_reducible refine Keeps.setCell ?_ (by simp) _) | (with_reducible refine Keeps.alloc ?_ _) | (with_reducible refine Keeps.drew ?_))) (fun hHeld2 => ?_)
     clear hK K hHeld
     have hHeld := hHeld2
     clear hHeld2
     try simp only [List.getElem_toArray, List.getElem_cons_succ, List.getElem_cons_zero, Act.put, List.setIfInBounds_toArray, List.set_cons_zero, List.set_cons_succ]
     refine wpAnyH_done (by kernel_rfl) ?_ _
     clear hHeld
   all_goals
    have hP := Lib.hid (qa_put Hv.out Hok.out Hqq.out HM.out (Hb0.out.trans ((Hkq.out.below.trans (Hbel.out.mono Hkq.out.size)).mono Hb0.out.size)) (fun L hL => Hds.out L (fun g hg => Nat.lt_of_lt_of_le (Nat.lt_of_lt_of_le (hL g hg) Hb0.out.size) Hkq.out.size)) Hown2.out Hg2.out Hat2.out)
    go_wp2
    go_ret
    exact hP.out
end
end Go.Proofs.YtgdooockldgdlaaGreatDoor.Vi
end
