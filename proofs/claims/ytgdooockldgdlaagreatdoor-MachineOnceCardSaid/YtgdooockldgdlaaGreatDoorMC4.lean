/- Texts put together: WinB, WinC, WinD, CtA, McA, OnA, CtB, CtC, McLay, McM, McO, McF, McB, McC, McD. -/
import Derived.BigQuiet
import Derived.Deep.QuietTactic
import Derived.Deep.RegionHeld3
import Derived.Deep.DeepCutAuto
import Derived.Handy
import Derived.WideKeyEntry
import Derived.Shelf.SlGeneric
import Derived.Shelf.SlLaysF0
import Derived.Shelf.SlLaysM
import Derived.Ground.SlsfProg
import Derived.Ground.SlgmProg
import Derived.Test.YtgdooockldgdlaaGreatDoorProg
import Derived.Shelf.SlSortCmp.SmallK
import Derived.Shelf.SlSortCmp.NoneTotal
import Derived.Sort.Walk0
import Derived.Test.YtgdooockldgdlaaGreatDoorMC1
import Derived.Test.YtgdooockldgdlaaGreatDoorMC2
import Derived.Test.YtgdooockldgdlaaGreatDoorMC3
set_option linter.unusedVariables false
set_option linter.unusedSimpArgs false
section
namespace Go.Proofs.YtgdooockldgdlaaGreatDoor.Vi
open Go.RowKit Base Mem Tape
set_option maxRecDepth 100000 in
theorem wnseen_any (g : Nat) (f : Int) (m : Nat) (n : Int) (w : World) (h : WnAt w g f m) (hn : n ≤ 9223372036854775807) :
  Calls Tryz.prog 46 #[.pointer (some ⟨g, 0, none⟩), .int .i64 n] w fun e w' => e = .returned (.bool (Win.seenW f m n)) ∧ ∃ q, w' = w.drewN q := by
 have HW : Hid (∀ q, WnAt (w.drewN q) g f m) := fun q => h.keep (M := []) ((Keeps.refl _ _).drewN q) (by simp)
 have HF : Hid (∀ q, Calls Tryz.prog 48 #[.pointer (some ⟨g, 0, none⟩), .int .i64 n] (w.drewN q) fun e w' => e = .returned (.bool (Win.farW f n)) ∧ w.drewN q = w') := fun q => wnfar_any g f m n _ (HW.out q) hn
 have HA : Hid (f < n → ∀ q, Calls Tryz.prog 89 #[.pointer (some ⟨g, 0, none⟩), .int .i64 n] (w.drewN q) fun e w' => e = .returned (.int .u64 (n - f - 1)) ∧ w.drewN q = w') := fun hf q => wnat_any g f m n _ (HW.out q) hn hf
 obtain ⟨hb, h0, h1, h2⟩ := h
 have c0 := hb.cell 0; have c1 := hb.cell 1
 simp only [List.getElem?_toArray, List.getElem?_cons_succ, List.getElem?_cons_zero] at c0 c1
 clear hb HW
 by_cases hf : n ≤ f
 ·have hfi : decide (n ≤ f) = true := decide_eq_true hf
  have hq : Hid (Win.seenW f m n = true) := by show _ = _; unfold Win.seenW; rw [decide_eq_true hf, Bool.true_or]
  rw [hq.out]
  clear HF HA
  go_enter Tryz.func46, Tryz.ntmps46
  go_wp2_with fail
  go_quiet (fail)
  go_wp2
  go_ret
  exact ⟨rfl, nq, rfl⟩
 ·have hfi : decide (n ≤ f) = false := decide_eq_false hf
  have HA2 := Lib.hid (HA.out (by omega))
  clear HA
  cases hfar : Win.farW f n with
  | true =>
   rw [hfar] at HF
   have hq : Hid (Win.seenW f m n = false) := by
    show _ = _
    unfold Win.farW at hfar
    unfold Win.seenW
    rw [Bool.and_eq_true, decide_eq_true_eq, decide_eq_true_eq] at hfar
    rw [hfi, Bool.false_or, decide_eq_false (by omega), Bool.false_and]
   rw [hq.out]
   clear HA2
   go_enter Tryz.func46, Tryz.ntmps46
   go_wp2_with fail
   go_quiet ((go_at_call 48; exact quiet_left (HF.out _)))
   go_wp2
   go_ret
   exact ⟨rfl, nq, rfl⟩
  | false =>
   rw [hfar] at HF
   have hj : Hid (0 ≤ n - f - 1 ∧ n - f - 1 < 64) := by
    show _ ∧ _
    unfold Win.farW at hfar
    rw [Bool.and_eq_false_iff, decide_eq_false_iff_not, decide_eq_false_iff_not] at hfar
    omega
   obtain ⟨j, Hj⟩ : ∃ j : Nat, Hid (n - f - 1 = (j : Int)) := ⟨(n - f - 1).toNat, by show _ = _; have := hj.out; omega⟩
   have hj64 : j < 64 := by have := hj.out; have := Hj.out; omega
   rw [Hj.out] at HA2
   clear hj
   go_enter Tryz.func46, Tryz.ntmps46
   go_wp2_with fail
   go_quiet (first | (go_at_call 48; exact quiet_left (HF.out _)) | (go_at_call 89; exact quiet_left (HA2.out _)))
   go_wp2
   go_ret
   have e1 : ((m : Int) / 2 ^ j) = ((m / 2 ^ j : Nat) : Int) := by rw [Int.natCast_ediv, Int.natCast_pow]; rfl
   have hlt : m / 2 ^ j < 18446744073709551616 := Nat.lt_of_le_of_lt (Nat.div_le_self _ _) h2
   have e2 : bits .and .u64 ((m : Int) / 2 ^ j) 1 = ((m / 2 ^ j % 2 : Nat) : Int) := by
    rw [e1, show (1 : Int) = ((1 : Nat) : Int) from rfl, u64_and_nat _ _ hlt (by omega), Nat.and_one_is_mod]
   have hq : Win.seenW f m n = (bits .and .u64 ((m : Int) / 2 ^ j) 1 == 1) := by
    unfold Win.seenW
    rw [hfi, Bool.false_or, Hj.out, decide_eq_true (show (j : Int) < 64 by omega), Bool.true_and, Int.toNat_natCast, e2, Nat.testBit_eq_decide_div_mod_eq, Bool.eq_iff_iff, decide_eq_true_eq, beq_iff_eq]
    omega
   rw [hq]
   exact ⟨rfl, nq, rfl⟩
theorem wnfloor_any (g : Nat) (f : Int) (m : Nat) (w : World) (h : WnAt w g f m) :
  Calls Tryz.prog 98 #[.pointer (some ⟨g, 0, none⟩)] w fun e w' => e = .returned (.int .i64 f) ∧ w = w' := by
 obtain ⟨hb, h0, h1, h2⟩ := h
 have c0 := hb.cell 0
 simp only [List.getElem?_toArray, List.getElem?_cons_succ, List.getElem?_cons_zero] at c0
 clear hb
 go_enter Tryz.func98, Tryz.ntmps98
 go_wp2
 go_ret
 exact ⟨rfl, rfl⟩
theorem bdrewW {B : Nat} {a w : World} (h : Below B a w) : Below B a w.drew := ⟨h.os, h.tape, h.output, h.size, h.block⟩
theorem wnat_cells {w : World} {g : Nat} {f : Int} {m : Nat} (h : WnAt w g f m) : w.cell? ⟨g, 0, none⟩ = some (.int .i64 f) ∧ w.cell? ⟨g, 1, none⟩ = some (.int .u64 m) ∧ w.frozen? ⟨g, 0, none⟩ = false ∧ w.frozen? ⟨g, 1, none⟩ = false :=
 ⟨h.1.cell 0, h.1.cell 1, h.1.frozen 0, h.1.frozen 1⟩
theorem normW_even_stop {k : Nat} {f : Int} {m : Nat} (h : m % 2 = 0) : Win.normW k f m = (f, m) := by
 cases k with
 | zero => rfl
 | succ k => rw [Win.normW, if_neg (by omega)]
def wnLeft (g : Nat) (w : World) : Nat := match w.cell? ⟨g, 1, none⟩ with | some (.int _ c) => c.toNat | _ => 0
theorem wnLeft_of {w : World} {g : Nat} {f : Int} {m : Nat} (h : WnAt w g f m) : wnLeft g w = m := by
 unfold wnLeft
 rw [(wnat_cells h).2.1]
 exact Int.toNat_natCast _
def WdPost (g : Nat) (r : Int × Nat) (w : World) (e : Ending) (w' : World) : Prop := e = .returned (.bool true) ∧ WnAt w' g r.1 r.2 ∧ Keeps [g] w w'
set_option maxRecDepth 100000 in
set_option maxHeartbeats 2000000 in
theorem wnadd_any (g : Nat) (f : Int) (m : Nat) (n : Int) (w : World) (h : WnAt w g f m) (hn : n ≤ 9223372036854775807) (hs : Win.seenW f m n = false) (hfar : Win.farW f n = false) (hf : f ≤ 4611686018427387000) :
  Calls Tryz.prog 93 #[.pointer (some ⟨g, 0, none⟩), .int .i64 n] w fun e w' => WdPost g (Win.addW f m n) w e w' := by
 have hlt : f < n := by
  unfold Win.seenW at hs
  rw [Bool.or_eq_false_iff, decide_eq_false_iff_not] at hs
  omega
 have hj64 : n - f - 1 < 64 := by
  unfold Win.farW at hfar
  rw [Bool.and_eq_false_iff, decide_eq_false_iff_not, decide_eq_false_iff_not] at hfar
  omega
 obtain ⟨j, Hj⟩ : ∃ j : Nat, Hid (n - f - 1 = (j : Int)) := ⟨(n - f - 1).toNat, by show _ = _; omega⟩
 have hj : j < 64 := by have := Hj.out; omega
 have HF := Lib.hid (wnfar_any g f m n w h hn)
 have HS := Lib.hid (wnseen_any g f m n w h hn)
 rw [hfar] at HF
 rw [hs] at HS
 obtain ⟨hb, h0, h1, h2⟩ := id h
 have HA0 : Hid (Win.addW f m n = Win.normW 64 f (m ||| 2 ^ j)) := by show _ = _; unfold Win.addW; rw [Hj.out, Int.toNat_natCast]
 have HW := Lib.hid h
 clear h hs hfar hb hj64
 go_enter Tryz.func93, Tryz.ntmps93
 go_wp2_with fail
 refine HF.out.mono ?_
 rintro e w1 ⟨rfl, rfl⟩
 clear HF
 go_wp2_with fail
 refine HS.out.mono ?_
 rintro e w1 ⟨rfl, nq, rfl⟩
 clear HS
 have HW1 : Hid (WnAt (w.drewN nq) g f m) := HW.out.keep (M := []) ((Keeps.refl _ _).drewN nq) (by simp)
 have Hk1 : Hid (Keeps [] w (w.drewN nq)) := (Keeps.refl _ _).drewN nq
 go_upto_region 3 with (fail)
 generalize w.drewN nq = wa at *
 have HSB : Hid (∀ W, Below wa.heap.size wa W → WnAt W g f m) := fun W hb => HW1.out.keep (M := []) (Keeps.of_below hb) (by simp)
 have HAT : Hid (∀ W, Below wa.heap.size wa W → Calls Tryz.prog 89 #[.pointer (some ⟨g, 0, none⟩), .int .i64 n] W fun e w' => e = .returned (.int .u64 j) ∧ W = w') := fun W hb => by
  have := wnat_any g f m n W (HSB.out W hb) hn hlt
  rw [Hj.out] at this
  exact this
 obtain ⟨m2, Hm2⟩ : ∃ m2 : Nat, Hid (m2 = m ||| 2 ^ j) := ⟨_, rfl⟩
 have hm2 : m2 < 18446744073709551616 := by rw [Hm2.out]; exact Win.or_lt h2 hj
 have hwj : IntKind.u64.wrap (2 ^ j) = (2 : Int) ^ j := by
  have hp64 : (2 : Nat) ^ j < 2 ^ 64 := Nat.pow_lt_pow_right (by omega) hj
  rw [show (2 : Int) ^ j = ((2 ^ j : Nat) : Int) by rw [Int.natCast_pow]; rfl, IntKind.wrap_u64]
  generalize (2 : Nat) ^ j = p at *
  omega
 have hor : bits .or .u64 (m : Int) (2 ^ j) = (m2 : Int) := by
  have hp64 : (2 : Nat) ^ j < 2 ^ 64 := Nat.pow_lt_pow_right (by omega) hj
  rw [show (2 : Int) ^ j = ((2 ^ j : Nat) : Int) by rw [Int.natCast_pow]; rfl, Hm2.out]
  exact u64_or_nat m (2 ^ j) h2 hp64
 obtain ⟨w0, w1, x0, x1⟩ := wnat_cells HW1.out
 go_cut [] (fun wx => Hid (WnAt wx g f m2) ∧ Hid (Keeps [g] w wx))
 case first =>
  go_region_with (go_at_call 89; refine (HAT.out _ (bdrewW (Below.refl _ wa))).mono ?_; rintro e w7 ⟨rfl, rfl⟩)
  all_goals
   have hF : Hid (WnAt ((wa.setCell ⟨g, 1, none⟩ (.int .u64 m2)).drew) g f m2) := by
    have hb := HW1.out.1.set_ 1 (.int .u64 m2)
    refine ⟨?_, h0, h1, hm2⟩
    show Blk (wa.setCell ⟨g, 1, none⟩ (.int .u64 m2)) g _ _
    simpa using hb
   have hK : Hid (Keeps [g] w ((wa.setCell ⟨g, 1, none⟩ (.int .u64 m2)).drew)) := ((Hk1.out.mono (M' := [g]) (by simp)).setCell (by simp) _).drew
   go_wp2_with fail
   go_meet
   exact ⟨hF, hK⟩
 case rest =>
  clear w0 w1 x0 x1 hor hwj HSB HAT HW1 Hk1
  rw [← Hm2.out] at HA0
  go_wp2_with fail
  go_loopw [] (fun wr => ∃ (k : Nat) (f' : Int) (m' : Nat), m' < 2 ^ k ∧ f' + k ≤ f + 64 ∧ Hid (WnAt wr g f' m') ∧ Hid (Win.addW f m n = Win.normW k f' m') ∧ Hid (Keeps [g] w wr)) (fun wr => wnLeft g wr)
  case atStart => exact ⟨64, f, m2, hm2, by omega, hcut.1, HA0, hcut.2⟩
  case round =>
   obtain ⟨k, f', m', hmk, hfk, HWr, HAr, HKr⟩ := hrel
   obtain ⟨_, hf0, hf1, hm64⟩ := HWr.out
   obtain ⟨c0, c1, z0, z1⟩ := wnat_cells HWr.out
   have hand : bits .and .u64 (m' : Int) 1 = ((m' % 2 : Nat) : Int) := by
    rw [show (1 : Int) = ((1 : Nat) : Int) from rfl, u64_and_nat _ _ hm64 (by omega), Nat.and_one_is_mod]
   by_cases hodd : m' % 2 = 1
   ·rw [hodd] at hand
    have hand1 : bits .and .u64 (m' : Int) 1 = 1 := hand
    clear hand
    obtain ⟨k, rfl⟩ : ∃ k', k = k' + 1 := by
     rcases k with _ | k
     ·rw [Nat.pow_zero] at hmk; omega
     ·exact ⟨k, rfl⟩
    have hfb : f' < 4611686018427387904 := by omega
    have hWn : Hid (WnAt ((wr.setCell ⟨g, 0, none⟩ (.int .i64 (f' + 1))).setCell ⟨g, 1, none⟩ (.int .u64 ((m' / 2 : Nat) : Int))) g (f' + 1) (m' / 2)) := by
     have hb := (HWr.out.1.set_ 0 (.int .i64 (f' + 1))).set_ 1 (.int .u64 ((m' / 2 : Nat) : Int))
     refine ⟨?_, by omega, by omega, by omega⟩
     simpa using hb
    have hKn : Hid (Keeps [g] w ((wr.setCell ⟨g, 0, none⟩ (.int .i64 (f' + 1))).setCell ⟨g, 1, none⟩ (.int .u64 ((m' / 2 : Nat) : Int)))) := (HKr.out.setCell (by simp) _).setCell (by simp) _
    have hAn : Hid (Win.addW f m n = Win.normW k (f' + 1) (m' / 2)) := by
     show _ = _
     rw [HAr.out, Win.normW, if_pos hodd]
    have hl1 := wnLeft_of HWr.out
    have hl2 := wnLeft_of hWn.out
    go_wp2_with fail
    go_roundw
    case rel => exact ⟨k, f' + 1, m' / 2, by rw [Nat.pow_succ] at hmk; omega, by omega, hWn, hAn, hKn⟩
    case measure => rw [hl1]; exact Nat.lt_of_le_of_lt (Nat.le_of_eq hl2) (by omega)
   ·have heven : m' % 2 = 0 := by omega
    rw [heven] at hand
    have hand0 : bits .and .u64 (m' : Int) 1 = 0 := hand
    clear hand
    have hP : Hid (WdPost g (Win.addW f m n) w (.returned (.bool true)) wr) := by
     refine ⟨rfl, ?_, HKr.out⟩
     rw [HAr.out, normW_even_stop heven]
     exact HWr.out
    go_wp2
    go_ret
    exact hP.out
end Go.Proofs.YtgdooockldgdlaaGreatDoor.Vi
end
section
namespace Go.Proofs.YtgdooockldgdlaaGreatDoor.Vi
open Go.RowKit Base Mem
open Go.Maps (Keyed)
theorem uStr : Tryz.prog.underlying 9 = some .string := by kernel_rfl
theorem uInt : Tryz.prog.underlying 3 = some (.int .i64) := by kernel_rfl
theorem uI64 : Tryz.prog.underlying 2 = some (.int .i64) := by kernel_rfl
theorem uU64 : Tryz.prog.underlying 34 = some (.int .u64) := by kernel_rfl
theorem uMS : Tryz.prog.underlying 25 = some (.map 9 34) := by kernel_rfl
theorem uME : Tryz.prog.underlying 89 = some (.map 3 2) := by kernel_rfl
theorem zU64 (w : World) : (zeroValue 34).run Tryz.prog w = .ok (.int .u64 0) w := by kernel_rfl
theorem zI64 (w : World) : (zeroValue 2).run Tryz.prog w = .ok (.int .i64 0) w := by kernel_rfl
theorem lawS : Keyed Tryz.prog 9 := Maps.string_keyed uStr
theorem lawI : Keyed Tryz.prog 3 := Maps.int_keyed uInt
def I64 (n : Int) : Prop := -9223372036854775808 ≤ n ∧ n ≤ 9223372036854775807
theorem skey_of {s : ByteArray} (h : s.size ≤ 9223372036854775807) : keyOf Tryz.prog 9 (.string s) = some (skey s) := Go.WideMaps.keyOf_string_mk uStr h
/-- Sums lie in block g, their map in block b. -/
def SmAt (w : World) (g b N : Nat) (D : DataW Unit) : Prop := Blk w g 159 #[.map (some b)] ∧ w.ownsMap Tryz.prog 9 (plainElem Tryz.prog 34) b N D ∧ g ≠ b
theorem SmAt.keep {w w' : World} {g b N : Nat} {D : DataW Unit} {M : List Nat} (h : SmAt w g b N D) (hk : Keeps M w w') (hg : g ∉ M) (hb : b ∉ M) : SmAt w' g b N D := ⟨hk.blk h.1 hg, om_keep h.2.1 hk hb, h.2.2⟩
def SmNew (w : World) (e : Ending) (w' : World) : Prop := ∃ g b, e = .returned (.pointer (some ⟨g, 0, none⟩)) ∧ SmAt w' g b 0 (.map []) ∧ w.heap.size ≤ g ∧ w.heap.size ≤ b ∧ Below w.heap.size w w'
theorem smnew_any (w : World) : Calls Tryz.prog 41 #[] w fun e w' => SmNew w e w' := by
 have hmm := @run_makeMap Tryz.prog
 have hR : Hid (SmNew w (.returned (.pointer (some ⟨w.heap.size + 1, 0, none⟩))) ((w.alloc (.map #[] 0)).alloc (.cells #[.map (some w.heap.size)] 159))) := by
  refine ⟨w.heap.size + 1, w.heap.size, rfl, ⟨?_, World.ownsMap.alloc (World.ownsMap_made _ _ _ _) _, by omega⟩, by omega, by omega, (below_new' w _).alloc (by simp) _⟩
  have := Blk.new (w.alloc (.map #[] 0)) 159 #[.map (some w.heap.size)]
  simpa using this
 go_enter Tryz.func41, Tryz.ntmps41
 go_wp2
 go_ret
 exact hR.out
theorem smget_any (g b N : Nat) (D : DataW Unit) (s : ByteArray) (w : World) (h : SmAt w g b N D) (hs : s.size ≤ 9223372036854775807) :
  Calls Tryz.prog 44 #[.pointer (some ⟨g, 0, none⟩), .string s] w fun e w' => e = .returned (.int .u64 (numAt .u64 D (skey s))) ∧ w = w' := by
 have c0 := h.1.cell 0
 simp only [List.getElem?_toArray, List.getElem?_cons_succ, List.getElem?_cons_zero] at c0
 have hown := Lib.hid h.2.1
 clear h
 go_enter Tryz.func44, Tryz.ntmps44
 go_wp2_with (at_lookup; refine wpl_look_num _ rfl _ _ 25 rfl 9 34 .u64 lawS uMS uU64 (zU64 _) b N D rfl hown.out _ _ rfl (skey_of hs) ?_)
 go_wp2
 go_ret
 exact ⟨rfl, rfl⟩
end Go.Proofs.YtgdooockldgdlaaGreatDoor.Vi
end
section
namespace Go.Proofs.YtgdooockldgdlaaGreatDoor.Vi
open Go.RowKit Base Mem Tape
open Go.Maps (Keyed)
theorem uMH : Tryz.prog.underlying 90 = some (.map 168 96) := by kernel_rfl
theorem zPS (w : World) : (zeroValue 96).run Tryz.prog w = .ok (.pointer none) w := by kernel_rfl
theorem laidOutP : laidOutB Tryz.prog = true := by kernel_rfl
theorem rowP : (168 : TypeId) < Tryz.prog.types.size := of_decide_eq_true (by kernel_rfl)
theorem wideP : (match Tryz.prog.underlying 168 with | some (.array _ _) | some (.struct _) => true | _ => false) = true := by kernel_rfl
set_option maxRecDepth 100000 in
theorem lawP : Keyed Tryz.prog 168 := Keyed.of_law (deep_law_laid laidOutP (m := 3) (by omega) rowP (by kernel_rfl) wideP)
/-- A shard's key. -/
noncomputable def pk (a s : Int) : Lit := (keyOf Tryz.prog 168 (.agg #[.int .i64 a, .int .i64 s])).getD (.bool false)
theorem ekey_of {a : Int} (h : I64 a) : keyOf Tryz.prog 3 (.int .i64 a) = some (ekey a) := Maps.keyOf_int_mk uInt (WalkArith.wf_i64 h)
theorem posP : 0 < Tryz.prog.types.size := of_decide_eq_true (by kernel_rfl)
theorem pk_of {a s : Int} (ha : I64 a) (hs : I64 s) : keyOf Tryz.prog 168 (.agg #[.int .i64 a, .int .i64 s]) = some (pk a s) := by
 have hwa := WalkArith.wf_i64 ha
 have hws := WalkArith.wf_i64 hs
 have hu := Tryz.underlying168
 have hui := uInt
 have hk : Tryz.prog.keyType 168 = true := by kernel_rfl
 have hc : Tryz.prog.cellsOf 168 = 2 := by kernel_rfl
 have hci : Tryz.prog.cellsOf 3 = 1 := by kernel_rfl
 have hf : (Value.agg #[.int .i64 a, .int .i64 s]).formed Tryz.prog 168 = true := by simp [Value.formed, hu, hc]
 obtain ⟨m, hm⟩ := Nat.exists_eq_succ_of_ne_zero (Nat.ne_of_gt posP)
 have hl : Tryz.prog.keyLits (Tryz.prog.types.size + 1) 168 [.int .i64 a, .int .i64 s] = some [.int .i64 a, .int .i64 s] := by
  rw [hm]
  unfold Program.keyLits
  rw [hu]
  simp [hc, hci, Program.keyLits, hui, hwa, hws]
 unfold pk
 have hall : ∃ l, keyOf Tryz.prog 168 (.agg #[.int .i64 a, .int .i64 s]) = some l := by
  unfold keyOf
  rw [hu]
  simp only [hk, hf, Bool.and_self, if_true]
  exact ⟨_, by rw [show (Value.agg #[.int .i64 a, .int .i64 s]).cells.toList = [.int .i64 a, .int .i64 s] from rfl, hl]; rfl⟩
 obtain ⟨l, hl2⟩ := hall
 rw [hl2]
 rfl
/-- A shard lies in block p; F are its blocks. -/
def ShAt (w : World) (p : Nat) (F : List Nat) (s : ShD) : Prop :=
 ∃ pw v, Blk w p 101 #[.pointer (some ⟨pw, 0, none⟩), v] ∧ WnAt w pw s.f s.m ∧ w.ownsRow 0 2 1 v s.bad.length (s.bad.map (Value.int .i64)) ∧ p ∈ F ∧ pw ∈ F ∧ p ≠ pw ∧
  (∀ g, v.ownBlock = some g → g ∈ F ∧ g ≠ p ∧ g ≠ pw) ∧ s.bad.length ≤ 8 ∧ ∀ n ∈ s.bad, I64 n
theorem own_other2 {M : List Nat} {w w1 : World} {base : Nat} {e : TypeId} {size n : Nat} {v : Value} {xs : List Value} (h : w.ownsRow base e size v n xs) (hk : Keeps M w w1) (hM : ∀ g, v.ownBlock = some g → g ∉ M) : w1.ownsRow base e size v n xs := by
 obtain ⟨hl, h⟩ := h
 refine ⟨hl, ?_⟩
 rcases h with h | ⟨g, cap, cur, hv, hb, hg, rest⟩
 ·exact .inl h
 ·exact .inr ⟨g, cap, cur, hv, hb, (hk.block g (Array.getElem?_eq_some_iff.1 hg).1 (hM g (by rw [hv]; rfl))).trans hg, rest⟩
theorem ShAt.keep {w w' : World} {p : Nat} {F M : List Nat} {s : ShD} (h : ShAt w p F s) (hk : Keeps M w w') (hM : ∀ g ∈ F, g ∉ M) : ShAt w' p F s := by
 obtain ⟨pw, v, h1, h2, h3, h4, h5, h6, h7, h8⟩ := h
 exact ⟨pw, v, hk.blk h1 (hM p h4), h2.keep hk (hM pw h5), own_other2 h3 hk (fun g hg => hM g (h7 g hg).1), h4, h5, h6, h7, h8⟩
structure McC where
 gs : Nat
 bm : Nat
 be : Nat
 bs : Nat
 pt : Lit → Nat
 fp : Lit → List Nat
def McC.core (c : McC) (g : Nat) : List Nat := [g, c.gs, c.bm, c.be, c.bs]
structure McIn (w : World) (g : Nat) (c : McC) (X : List Nat) (st : McD) (N : Nat) (DH : DataW Value) : Prop where
 b0 : Blk w g 92 #[.pointer (some ⟨c.gs, 0, none⟩), .map (some c.be), .map (some c.bs)]
 sm : SmAt w c.gs c.bm N st.DS
 m2 : w.ownsMap Tryz.prog 3 (plainElem Tryz.prog 2) c.be N st.DE
 m3 : w.ownsMap Tryz.prog 168 heldElem c.bs N DH
 nd : (c.core g).Nodup
 sh : ∀ kl s, st.sh kl = some s → Maps.has DH kl = true ∧ DH.atKey kl (.held (.pointer none)) = .held (.pointer (some ⟨c.pt kl, 0, none⟩)) ∧ ShAt w (c.pt kl) (c.fp kl) s ∧ ∀ x ∈ c.fp kl, x ∉ c.core g
 no : ∀ kl, st.sh kl = none → Maps.has DH kl = false
 dj : ∀ kl kl', kl ≠ kl' → st.sh kl ≠ none → st.sh kl' ≠ none → ∀ x ∈ c.fp kl, x ∉ c.fp kl'
 inX : ∀ x ∈ c.core g, x ∈ X
 fpX : ∀ kl, st.sh kl ≠ none → ∀ x ∈ c.fp kl, x ∈ X
/-- A machine lies in block g; X are its blocks. -/
def McAt (w : World) (g : Nat) (X : List Nat) (st : McD) (N : Nat) : Prop := ∃ c DH, McIn w g c X st N DH
theorem McIn.keep {w w' : World} {g : Nat} {c : McC} {X M : List Nat} {st : McD} {N : Nat} {DH : DataW Value} (h : McIn w g c X st N DH) (hk : Keeps M w w') (hM : ∀ x ∈ X, x ∉ M) : McIn w' g c X st N DH where
 b0 := hk.blk h.b0 (hM _ (h.inX _ (by simp [McC.core])))
 sm := h.sm.keep hk (hM _ (h.inX _ (by simp [McC.core]))) (hM _ (h.inX _ (by simp [McC.core])))
 m2 := om_keep h.m2 hk (hM _ (h.inX _ (by simp [McC.core])))
 m3 := om_keep h.m3 hk (hM _ (h.inX _ (by simp [McC.core])))
 nd := h.nd
 sh := fun kl s hs => by
  obtain ⟨h1, h2, h3, h4⟩ := h.sh kl s hs
  exact ⟨h1, h2, h3.keep hk (fun x hx => hM x (h.fpX kl (by rw [hs]; simp) x hx)), h4⟩
 no := h.no
 dj := h.dj
 inX := h.inX
 fpX := h.fpX
theorem McAt.keep {w w' : World} {g : Nat} {X M : List Nat} {st : McD} {N : Nat} (h : McAt w g X st N) (hk : Keeps M w w') (hM : ∀ x ∈ X, x ∉ M) : McAt w' g X st N := by
 obtain ⟨c, DH, h⟩ := h
 exact ⟨c, DH, h.keep hk hM⟩
theorem McIn.more {w : World} {g : Nat} {c : McC} {X : List Nat} {st : McD} {N N' : Nat} {DH : DataW Value} (h : McIn w g c X st N DH) (hN : N ≤ N') : McIn w g c X st N' DH :=
 ⟨h.b0, ⟨h.sm.1, h.sm.2.1.mono hN, h.sm.2.2⟩, h.m2.mono hN, h.m3.mono hN, h.nd, h.sh, h.no, h.dj, h.inX, h.fpX⟩
theorem ShAt.lt {w : World} {p : Nat} {F : List Nat} {s : ShD} (h : ShAt w p F s) : p < w.heap.size := by
 obtain ⟨pw, v, h1, _⟩ := h
 exact h1.lt
end Go.Proofs.YtgdooockldgdlaaGreatDoor.Vi
end
section
namespace Go.Proofs.YtgdooockldgdlaaGreatDoor.Vi
open Go.RowKit Base Mem Tape
open Go.Maps (Keyed)
open Go.WideMaps (KeyLaw)
open Go.ChangeMaps (setBlock heap_setBlock_same)
theorem uMK : Tryz.prog.underlying 26 = some (.map 30 3) := by kernel_rfl
theorem zInt (w : World) : (zeroValue 3).run Tryz.prog w = .ok (.int .i64 0) w := by kernel_rfl
theorem rowK : (30 : TypeId) < Tryz.prog.types.size := of_decide_eq_true (by kernel_rfl)
theorem wideK : (match Tryz.prog.underlying 30 with | some (.array _ _) | some (.struct _) => true | _ => false) = true := by kernel_rfl
set_option maxRecDepth 100000 in
theorem klK : KeyLaw Tryz.prog 30 := deep_law_laid laidOutP (m := 3) (by omega) rowK (by kernel_rfl) wideK
theorem lawK : Keyed Tryz.prog 30 := Keyed.of_law klK
/-- An Ident's key. -/
noncomputable def ik (a s n : Int) : Lit := (keyOf Tryz.prog 30 (.agg #[.int .i64 a, .int .i64 s, .int .i64 n])).getD (.bool false)
theorem ik_of {a s n : Int} (ha : I64 a) (hs : I64 s) (hn : I64 n) : keyOf Tryz.prog 30 (.agg #[.int .i64 a, .int .i64 s, .int .i64 n]) = some (ik a s n) := by
 have hwa := WalkArith.wf_i64 ha
 have hws := WalkArith.wf_i64 hs
 have hwn := WalkArith.wf_i64 hn
 have hu := Tryz.underlying30
 have hui := uInt
 have hui6 := uI64
 have hk : Tryz.prog.keyType 30 = true := by kernel_rfl
 have hc : Tryz.prog.cellsOf 30 = 3 := by kernel_rfl
 have hci : Tryz.prog.cellsOf 3 = 1 := by kernel_rfl
 have hci6 : Tryz.prog.cellsOf 2 = 1 := by kernel_rfl
 have hf : (Value.agg #[.int .i64 a, .int .i64 s, .int .i64 n]).formed Tryz.prog 30 = true := by simp [Value.formed, hu, hc]
 obtain ⟨m, hm⟩ := Nat.exists_eq_succ_of_ne_zero (Nat.ne_of_gt posP)
 have hl : Tryz.prog.keyLits (Tryz.prog.types.size + 1) 30 [.int .i64 a, .int .i64 s, .int .i64 n] = some [.int .i64 a, .int .i64 s, .int .i64 n] := by
  rw [hm]
  unfold Program.keyLits
  rw [hu]
  simp [hc, hci, hci6, Program.keyLits, hui, hui6, hwa, hws, hwn]
 unfold ik
 have hall : ∃ l, keyOf Tryz.prog 30 (.agg #[.int .i64 a, .int .i64 s, .int .i64 n]) = some l := by
  unfold keyOf
  rw [hu]
  simp only [hk, hf, Bool.and_self, if_true]
  exact ⟨_, by rw [show (Value.agg #[.int .i64 a, .int .i64 s, .int .i64 n]).cells.toList = [.int .i64 a, .int .i64 s, .int .i64 n] from rfl, hl]; rfl⟩
 obtain ⟨l, hl2⟩ := hall
 rw [hl2]
 rfl
attribute [irreducible] ik
theorem ok_inj {α : Type} {a b : α} {w w' : World} (h : (Result.ok a w : Result α) = .ok b w') : a = b ∧ w = w' := by cases h; exact ⟨rfl, rfl⟩
theorem ik_key {a s n : Int} (ha : I64 a) (hs : I64 s) (hn : I64 n) : WideAt.IsKeyLit (ik a s n) := lawK.key (l := ik a s n) (ik_of ha hs hn)
theorem ik_inj {a s n a' s' n' : Int} (ha : I64 a) (hs : I64 s) (hn : I64 n) (ha' : I64 a') (hs' : I64 s') (hn' : I64 n') (h : ik a s n = ik a' s' n') : a = a' ∧ s = s' ∧ n = n' := by
 have e2 := ik_of ha' hs' hn'
 rw [← h] at e2
 have := lawK.inj (ik_of ha hs hn) e2
 simp at this
 exact this
theorem pk_inj {a s a' s' : Int} (ha : I64 a) (hs : I64 s) (ha' : I64 a') (hs' : I64 s') (h : pk a s = pk a' s') : a = a' ∧ s = s' := by
 have e2 := pk_of ha' hs'
 rw [← h] at e2
 have := lawP.inj (pk_of ha hs) e2
 simp at this
 exact this
theorem key_one {es : List MapEntry} (hnd : (es.map (·.key)).Nodup) {x y : MapEntry} (hx : x ∈ es) (hy : y ∈ es) (h : x.key = y.key) : x = y := by
 obtain ⟨i, hi, rfl⟩ := List.getElem_of_mem hx
 obtain ⟨j, hj, rfl⟩ := List.getElem_of_mem hy
 have hp := List.pairwise_iff_getElem.1 (List.pairwise_map.1 hnd)
 rcases Nat.lt_trichotomy i j with h1 | h1 | h1
 ·exact absurd h (hp i j hi hj h1)
 ·subst h1; rfl
 ·exact absurd h.symm (hp j i hj hi h1)
section
variable {H : Type} {P : Program} {k e t : TypeId} {q : IntKind} {w : World} {b n : Nat} {D : DataW H}
set_option maxRecDepth 100000 in
/-- Behind an entry a look-up finds what the entry was told to be. -/
theorem entry_look {R : Value → Option (DataW H × List MemPlace)} {es : Array MapEntry} {clock : Nat} (K : KeyLaw P k) (ht : P.underlying t = some (.map k e)) {z : Value} (hz : ∀ u : World, (zeroValue e).run P u = .ok z u) (hb : w.heap[b]? = some (.map es clock)) (F : Go.WideElems.Fit P k R es clock) {key : Value} {kl : Lit} (hkey : keyOf P k key = some kl) {v : Value} {st : Nat} {w1 : World}
  (h : (Instr.mapEntry t (.map (some b)) key).run P w = .ok (.tuple #[v, goInt st]) w1) : (Instr.lookup t (.map (some b)) key false).run P w1 = .ok v w1 := by
 have hkeys : ∀ x ∈ es.toList, ∃ l, keyOf P k x.key = some l := F.keys
 rcases K.find w hkey es.toList F.keys with ⟨h1, h2⟩ | ⟨j, e0, h1, h2, h3⟩
 ·have hrun : (Instr.mapEntry t (.map (some b)) key).run P w = .ok (.tuple #[z, goInt clock]) (setBlock w b (.map (es.push ⟨key, z, clock⟩) (clock + 1))) := by
   simp [Instr.mapEntry, run_underlying ht, MapKept.run_getObj_map hb, K.check w false hkey, h1, hz, MapKept.run_setObj_map _ hb, Result.andThen, setBlock]
  rw [hrun] at h
  obtain ⟨ha, hw⟩ := ok_inj h
  subst hw
  simp at ha
  have hvz := ha.1
  subst hvz
  have hb1 : (setBlock w b (.map (es.push ⟨key, z, clock⟩) (clock + 1))).heap[b]? = some (.map (es.push ⟨key, z, clock⟩) (clock + 1)) := heap_setBlock_same hb _
  rcases K.find (setBlock w b (.map (es.push ⟨key, z, clock⟩) (clock + 1))) hkey (es.push ⟨key, z, clock⟩).toList (fun x hx => by
   simp only [Array.toList_push, List.mem_append, List.mem_singleton] at hx
   rcases hx with hx | rfl
   ·exact hkeys x hx
   ·exact ⟨kl, hkey⟩) with ⟨_, g2⟩ | ⟨j, e1, g1, g2, g3⟩
  ·exact absurd rfl (g2 ⟨key, z, clock⟩ (by simp))
  ·have hm : e1 ∈ (es.push ⟨key, z, clock⟩).toList := List.mem_of_getElem? g2
   have hv : e1.val = z := by
    simp only [Array.toList_push, List.mem_append, List.mem_singleton] at hm
    rcases hm with hm | rfl
    ·exact absurd g3 (h2 e1 hm)
    ·rfl
   simp only [Array.toList_push] at g1
   simp [Instr.lookup, run_underlying ht, MapKept.run_getObj_map hb1, K.check _ _ hkey, g1, hv, Result.andThen]
 ·have hj : es[j]? = some e0 := by simpa using h2
  have hsame : es.modify j (fun e => { e with key := key }) = es := by
   apply Array.ext'
   rw [Array.toList_modify, Go.ChangeMaps.modify_eq_set _ _ _ _ h2]
   have : ({ e0 with key := key } : MapEntry) = e0 := by rw [← h3]
   rw [this]
   exact Go.WideElems.set_self _ _ _ h2
  have hrun : (Instr.mapEntry t (.map (some b)) key).run P w = .ok (.tuple #[e0.val, goInt e0.born]) (setBlock w b (.map es clock)) := by
   simp [Instr.mapEntry, run_underlying ht, MapKept.run_getObj_map hb, K.check w false hkey, h1, hj, h3, K.stays w hkey, hsame, MapKept.run_setObj_map _ hb, Result.andThen, setBlock]
  rw [hrun] at h
  obtain ⟨ha, hw⟩ := ok_inj h
  subst hw
  simp at ha
  have hvz := ha.1
  subst hvz
  have hb1 : (setBlock w b (.map es clock)).heap[b]? = some (.map es clock) := heap_setBlock_same hb _
  rcases K.find (setBlock w b (.map es clock)) hkey es.toList F.keys with ⟨_, g2⟩ | ⟨j', e1, g1, g2, g3⟩
  ·exact absurd h3 (g2 e0 (List.mem_of_getElem? h2))
  ·have hv : e1.val = e0.val := by rw [key_one F.stamped.2.2 (List.mem_of_getElem? g2) (List.mem_of_getElem? h2) (by rw [g3, h3])]
   simp [Instr.lookup, run_underlying ht, MapKept.run_getObj_map hb1, K.check _ _ hkey, g1, hv, Result.andThen]
set_option maxRecDepth 100000 in
/-- 'm[k] op= ..': the entry's number is what stands at the key; a store behind it is an update. -/
theorem om_entry (h : w.ownsMap P k (plainElem P e) b n D) (K : KeyLaw P k) (ht : P.underlying t = some (.map k e)) (he : P.underlying e = some (.int q)) (hz : ∀ u : World, (zeroValue e).run P u = .ok (.int q 0) u) (hn : n < maxLen) {key : Value} {kl : Lit} (hkey : keyOf P k key = some kl) :
  ∃ (st : Nat) (w1 : World), (Instr.mapEntry t (.map (some b)) key).run P w = .ok (.tuple #[.int q (numAt q D kl), .int .i64 st]) w1 ∧ Keeps [b] w w1 ∧ (Instr.lookup t (.map (some b)) key false).run P w1 = .ok (.int q (numAt q D kl)) w1 ∧
   ∀ w2 : World, w2.heap[b]? = w1.heap[b]? → ∀ c : Int, (Lit.int q c).wf = true → ∃ w3, (Instr.entryStore t (.map (some b)) (.int .i64 st) (.int q c)).run P w2 = .ok () w3 ∧ w3.ownsMap P k (plainElem P e) b (n + 1) (D.put kl (.lit (.int q c))) ∧ Keeps [b] w2 w3 := by
 have h0 := h
 obtain ⟨es, clock, hb, F, hs, hD⟩ := h
 obtain ⟨v0, st, es1, clock1, r1, r2, r3⟩ := WideElems.entry_then_store (t := t) K ht hz hb F hkey
 obtain ⟨e1, _, _⟩ := om_num h0 (Keyed.of_law K) ht he (hz w) hkey
 have hv : v0 = .int q (numAt q D kl) := by
  rcases Maps.fit_look false (Keyed.of_law K) ht (hz w) hb F hkey with ⟨l1, l2, _⟩ | ⟨e0, y, m0, k0, l1, _⟩
  ·rw [e1] at l1
   rcases r2 with ⟨x, hx, hk, _⟩ | ⟨_, hv⟩
   ·exact absurd hk (l2 x hx)
   ·injection l1 with l1
    simp at l1
    rw [hv, l1]
  ·rw [e1] at l1
   injection l1 with l1
   simp at l1
   rcases r2 with ⟨x, hx, hk, hv⟩ | ⟨hno, _⟩
   ·have hxe : x = e0 := key_one F.stamped.2.2 hx m0 (by rw [hk, k0])
    rw [hv, hxe]
    exact l1.symm
   ·exact absurd k0 (hno e0 m0)
 refine ⟨st, setBlock w b (.map es1 clock1), by rw [r1, hv]; rfl, turned_keeps ⟨es, clock, es1, clock1, hb, rfl⟩, by rw [← hv]; exact entry_look K ht hz hb F hkey r1, fun w2 hw2 c hc => ?_⟩
 have hw2' : w2.heap[b]? = some (.map es1 clock1) := by rw [hw2]; exact heap_setBlock_same hb _
 obtain ⟨es', clock', s1, s2⟩ := r3 w2 (.int q c) hw2'
 obtain ⟨w', u1, u2, _⟩ := h0.store (Keyed.of_law K) ht hn hkey (plainElem_int he hc : plainElem (H := H) P e (.int q c) = _)
 rw [s2] at u1
 injection u1 with _ u1
 subst u1
 refine ⟨_, s1, ?_, turned_keeps ⟨es1, clock1, es', clock', hw2', rfl⟩⟩
 obtain ⟨es2, clock2, q1, q2, q3, q4⟩ := u2
 rw [heap_setBlock_same hb] at q1
 exact ⟨es2, clock2, by rw [heap_setBlock_same hw2']; exact q1, q2, q3, q4⟩
end
end Go.Proofs.YtgdooockldgdlaaGreatDoor.Vi
end
section
namespace Go.Proofs.YtgdooockldgdlaaGreatDoor.Vi
open Go.RowKit Base Mem
open Go.Maps (Keyed)
theorem belowQ {B : Nat} {a w : World} (h : Below B a w) (n : Nat) : Below B a (w.drewN n) := ⟨h.os, h.tape, h.output, h.size, h.block⟩
/-- A delta that may be: a number of 64 bits, a series that is no longer than a string may be. -/
def DOk (d : DeltaD) : Prop := 0 ≤ d.n ∧ d.n ≤ 18446744073709551615 ∧ d.ser.size ≤ 9223372036854775807
def MyPost (c : Int) (w : World) (e : Ending) (w' : World) : Prop := e = .returned (.int .i64 c) ∧ Below w.heap.size w w'
theorem wf_u64_bd {c : Int} (h : (Lit.int .u64 c).wf = true) : 0 ≤ c ∧ c ≤ 18446744073709551615 := by
 unfold Lit.wf at h
 rw [Bool.and_eq_true, decide_eq_true_eq, decide_eq_true_eq] at h
 exact h
theorem om_bd {w : World} {b N : Nat} {D : DataW Unit} (h : w.ownsMap Tryz.prog 9 (plainElem Tryz.prog 34) b N D) {s : ByteArray} (hs : s.size ≤ 9223372036854775807) : 0 ≤ numAt .u64 D (skey s) ∧ numAt .u64 D (skey s) ≤ 18446744073709551615 :=
 wf_u64_bd (om_num h lawS uMS uU64 (zU64 _) (skey_of hs)).2.2
theorem invKS : ∀ key kl, keyOf Tryz.prog 9 key = some kl → ∃ x, key = Value.string x := fun key kl h => by
 cases key <;> simp [keyOf, uStr, mapKey] at h
 exact ⟨_, rfl⟩
theorem invVU : ∀ v (y : DataW Unit × List MemPlace), plainElem Tryz.prog 34 v = some y → ∃ c, v = Value.int .u64 c := fun v y h => by
 obtain ⟨c, rfl, _⟩ := plainElem_int_inv uU64 h
 exact ⟨c, rfl⟩
theorem mayL_cons (DS more : DataW Unit) (d : DeltaD) (r : List DeltaD) : mayL DS more (d :: r) = if 18446744073709551615 - numAt .u64 more (skey d.ser) < d.n ∨ 18446744073709551615 - numAt .u64 DS (skey d.ser) < numAt .u64 more (skey d.ser) + d.n then none else mayL DS (more.put (skey d.ser) (.lit (.int .u64 (numAt .u64 more (skey d.ser) + d.n)))) r := rfl
set_option maxRecDepth 100000 in
set_option maxHeartbeats 2000000 in
theorem may_any (g b N : Nat) (DS : DataW Unit) (v : Value) (l : List DeltaD) (w : World) (h : SmAt w g b N DS) (hd : Ds w [] v l) (hn : ∀ d ∈ l, DOk d) (hl : l.length ≤ 1099511627776) (hN : N ≤ 1099511627776) :
  Calls Tryz.prog 150 #[.pointer (some ⟨g, 0, none⟩), v] w fun e w' => MyPost (mayS DS l) w e w' := by
 have hmm := @run_makeMap Tryz.prog
 have HM := Lib.hid h; have HD := Lib.hid hd; have Hn := Lib.hid hn
 obtain ⟨A, c, rfl, hc⟩ := hd.len
 have hb0 : Hid (Below w.heap.size w (w.alloc (.map #[] 0))) := below_new' w _
 have ho0 : Hid ((w.alloc (.map #[] 0)).ownsMap Tryz.prog 9 (plainElem (H := Unit) Tryz.prog 34) w.heap.size 0 (.map [])) := World.ownsMap_made _ _ _ _
 clear h hd hn
 obtain ⟨W0, HW0⟩ : ∃ W0 : Nat, Hid (W0 = w.heap.size) := ⟨_, rfl⟩
 go_enter Tryz.func150, Tryz.ntmps150
 go_wp2_with fail
 rw [← HW0.out] at ho0 hb0
 rw [← HW0.out]
 go_loopw [16] (fun i wr => ∃ (x : Nat) (Dm : DataW Unit), i = .int .i64 x ∧ x ≤ l.length ∧ Hid (wr.ownsMap Tryz.prog 9 (plainElem Tryz.prog 34) W0 x Dm) ∧ Hid (mayL DS (.map []) l = mayL DS Dm (l.drop x)) ∧ Hid (Below W0 w wr)) (fun i _ => l.length - (intOf i).toNat)
 case atStart => exact ⟨0, .map [], rfl, by omega, ho0, rfl, hb0⟩
 case round =>
  obtain ⟨x, Dm, rfl, hx, Hown, Hmay, Hbr⟩ := hrel
  by_cases hlt : x < l.length
  ·have hx1 : (x : Int) < (l.length : Int) := by omega
   obtain ⟨g3, off, _, e1, _, hg3, _, hcell⟩ := Rd.at_ dCell 2 (fun _ => rfl) (HD.out.keep (Keeps.of_below (M := []) (by have := Hbr.out; rw [HW0.out] at this; exact this)) (by simp)) hlt
   obtain rfl : A = some ⟨g3, off, none⟩ := by injection e1
   clear e1
   have p0 := hcell 0 _ rfl
   have p1 := hcell 1 _ rfl
   rw [Nat.add_zero] at p0
   obtain ⟨hn0, hn1, hns⟩ := Hn.out l[x] (List.getElem_mem _)
   have hM0 := Hmay.out
   rw [← List.getElem_cons_drop hlt, mayL_cons] at hM0
   have HMs : Hid (SmAt wr g b N DS) := HM.out.keep (M := []) (Keeps.of_below (by have := Hbr.out; rw [HW0.out] at this; exact this)) (by simp) (by simp)
   clear hcell Hmay
   generalize l[x] = d at *
   obtain ⟨ser, n⟩ := d
   simp only [] at p0 p1 hn0 hn1 hns hM0
   obtain ⟨hc0, hc1⟩ := om_bd Hown.out hns
   obtain ⟨he0, he1⟩ := om_bd HMs.out.2.1 hns
   have HM0 := Lib.hid hM0
   clear hM0
   have hBx := Blk.new wr 38 #[.string ser, .int .u64 n]
   have HbA := Lib.hid (Hbr.out.alloc (by have := Hbr.out.size; have := HW0.out; omega) (.cells #[.string ser, .int .u64 n] 38))
   have HownA := Lib.hid (Hown.out.alloc (.cells #[.string ser, .int .u64 n] 38))
   have HMsA : Hid (SmAt (wr.alloc (.cells #[.string ser, .int .u64 n] 38)) g b N DS) := HMs.out.keep (M := []) ((Keeps.refl _ _).alloc _) (by simp) (by simp)
   have d0 := hBx.cell 0; have d1 := hBx.cell 1
   simp only [List.getElem?_toArray, List.getElem?_cons_succ, List.getElem?_cons_zero] at d0 d1
   clear hBx HMs Hown
   go_upto_region 5 with (fail)
   clear p0 p1
   generalize wr.alloc (.cells #[.string ser, .int .u64 n] 38) = wa at *
   generalize wr.heap.size = g7 at *
   have q0 := HMsA.out.1.cell 0
   simp only [List.getElem?_toArray, List.getElem?_cons_zero] at q0
   have hlook : ∀ q, (Instr.lookup 25 (.map (some b)) (.string ser) false).run Tryz.prog (wa.drewN q) = .ok (.int .u64 (numAt .u64 DS (skey ser))) (wa.drewN q) := fun q => (om_num (w := wa.drewN q) (om_keep HMsA.out.2.1 (M := []) ((Keeps.refl _ _).drewN q) (by simp)) lawS uMS uU64 (zU64 _) (skey_of hns)).1
   go_upto_region 6 with (at_lookup; refine wpl_look_num _ rfl _ _ 25 rfl 9 34 .u64 lawS uMS uU64 (zU64 _) W0 x Dm rfl HownA.out _ _ rfl (skey_of hns) ?_)
   generalize hcd : numAt .u64 Dm (skey ser) = cd at *
   generalize hce : numAt .u64 DS (skey ser) = ce at *
   have hw1 : IntKind.u64.wrap (18446744073709551615 - cd) = 18446744073709551615 - cd := by rw [IntKind.wrap_u64]; omega
   have hw2 : IntKind.u64.wrap (18446744073709551615 - ce) = 18446744073709551615 - ce := by rw [IntKind.wrap_u64]; omega
   by_cases h1 : 18446744073709551615 - cd < n
   ·have h1i : decide (18446744073709551615 - cd < n) = true := decide_eq_true h1
    have hR : Hid (mayS DS l = 25) := by
     show _ = _
     unfold mayS
     rw [HM0.out, if_pos (.inl h1)]
    have hbw : Hid (∀ q, Below W0 w (wa.drewN q)) := fun q => belowQ HbA.out q
    go_quiet (fail)
    have hP : Hid (MyPost (mayS DS l) w (.returned (.int .i64 25)) (wa.drewN nq)) := ⟨by rw [hR.out], by rw [← HW0.out]; exact hbw.out _⟩
    go_wp2
    go_ret
    exact hP.out
   ·have h1i : decide (18446744073709551615 - cd < n) = false := decide_eq_false h1
    have hw3 : IntKind.u64.wrap (cd + n) = cd + n := by rw [IntKind.wrap_u64]; omega
    by_cases h2 : 18446744073709551615 - ce < cd + n
    ·have h2i : decide (18446744073709551615 - ce < cd + n) = true := decide_eq_true h2
     have hR : Hid (mayS DS l = 25) := by
      show _ = _
      unfold mayS
      rw [HM0.out, if_pos (.inr h2)]
     have hbw : Hid (∀ q, Below W0 w (wa.drewN q)) := fun q => belowQ HbA.out q
     go_quiet (fail)
     have hP : Hid (MyPost (mayS DS l) w (.returned (.int .i64 25)) (wa.drewN nq)) := ⟨by rw [hR.out], by rw [← HW0.out]; exact hbw.out _⟩
     go_wp2
     go_ret
     exact hP.out
    ·have h2i : decide (18446744073709551615 - ce < cd + n) = false := decide_eq_false h2
     have hbw : Hid (∀ q, Below W0 w (wa.drewN q)) := fun q => belowQ HbA.out q
     have how : Hid (∀ q, (wa.drewN q).ownsMap Tryz.prog 9 (plainElem Tryz.prog 34) W0 x Dm) := fun q => om_keep HownA.out (M := []) ((Keeps.refl _ _).drewN q) (by simp)
     have hR : Hid (mayL DS (.map []) l = mayL DS (Dm.put (skey ser) (.lit (.int .u64 (cd + n)))) (l.drop (x + 1))) := by
      show _ = _
      rw [HM0.out, if_neg (by omega)]
     clear HM0
     go_quiet (fail)
     go_wp2_with (at_mapUpdate; refine wpList_mapUpdate_own _ rfl _ _ _ 25 rfl 9 34 lawS uMS _ W0 x Dm rfl (how.out nq) (by unfold maxLen; omega) _ _ _ rfl rfl (skey_of hns) _ [] (plainElem_int uU64 (WalkArith.wf_u64 ⟨by omega, by omega⟩)) ?_)
     intro w2 hown2 hg2
     have Hown2 := Lib.hid hown2
     have Hb2 : Hid (Below W0 w w2) := (hbw.out nq).grown hg2 (by have := (hbw.out nq).size; have := HW0.out; omega) (fun j hj => by cases hj; exact Nat.le_refl _)
     clear hown2 hg2
     go_wp2
     go_roundw
     case rel => exact ⟨x + 1, _, by go_num, by omega, Hown2, hR, Hb2⟩
     case measure => simp [intOf] <;> omega
  ·obtain rfl : x = l.length := by omega
   have hM0 := Hmay.out
   rw [List.drop_length] at hM0
   have HM0 : Hid (mayL DS (.map []) l = some Dm) := hM0
   have HMs : Hid (SmAt wr g b N DS) := HM.out.keep (M := []) (Keeps.of_below (by have := Hbr.out; rw [HW0.out] at this; exact this)) (by simp) (by simp)
   have hS : Hid (mayS DS l = if 16 < Maps.size DS + newS DS Dm then 24 else 0) := by
    show _ = _
    unfold mayS
    rw [HM0.out]
   have q0 := HMs.out.1.cell 0
   simp only [List.getElem?_toArray, List.getElem?_cons_zero] at q0
   clear hM0 Hmay HM0
   have HT : Hid (Maps.Tidy Dm) := Hown.out.tidy lawS
   go_wp2_with (first | (at_len; refine wpList_len_own _ rfl _ 25 rfl 9 34 uMS _ b N DS rfl HMs.out.2.1 ?_) | (at_range; refine wpList_range_own _ rfl _ 25 rfl 9 34 lawS uMS _ W0 l.length Dm rfl Hown.out ?_; intro w0 hrg0 hg0 hs0))
   have Hrg0 := Lib.hid hrg0
   have Hb0 : Hid (Below W0 w w0) := Hbr.out.grown hg0 (by have := Hbr.out.size; have := HW0.out; omega) (fun j hj => by cases hj)
   clear hrg0 hg0 hs0
   have Hr : Hid (W0 ≤ wr.heap.size) := by show _ ≤ _; have := Hbr.out.size; have := HW0.out; omega
   generalize wr.heap.size = r at *
   go_frame
   go_loopw [9] (fun n wr => ∃ (left : Lit → Bool) (cnt k : Nat), n = .int .i64 k ∧ Hid (k + leftN DS Dm left = Maps.size DS + newS DS Dm) ∧ Hid (wr.ranges Tryz.prog 9 (plainElem Tryz.prog 34) W0 r l.length Dm left cnt) ∧ Hid (Below W0 w wr)) (fun _ wr => wr.rangeLeft W0 r)
   case atStart => exact ⟨_, _, _, rfl, (show _ = _ from rfl), Hrg0.out, Hb0.out⟩
   case round =>
    obtain ⟨left, cnt, k, rfl, Hk, Hrg, Hbw⟩ := hrel
    have HMs : Hid (SmAt wr g b N DS) := HM.out.keep (M := []) (Keeps.of_below (by have := Hbw.out; rw [HW0.out] at this; exact this)) (by simp) (by simp)
    go_wp2_with (at_next; refine wpList_next_ranges _ rfl _ rfl 9 lawS (plainElem Tryz.prog 34) Value.string (Value.int .u64) invKS invVU W0 r l.length Dm left cnt rfl Hrg.out ?_ ?_)
    ·intro hc0 hl0
     have hk : k = Maps.size DS + newS DS Dm := by
      have := Hk.out
      rw [leftN_end hl0] at this
      omega
     have hP : Hid (MyPost (mayS DS l) w (.returned (.int .i64 (if 16 < k then 24 else 0))) wr) := ⟨by rw [hS.out, hk], by rw [← HW0.out]; exact Hbw.out⟩
     clear hl0
     by_cases h16 : 16 < k
     ·have h16i : decide ((16 : Int) < (k : Int)) = true := decide_eq_true (by omega)
      rw [if_pos h16] at hP
      go_wp2
      go_ret
      exact hP.out
     ·have h16i : decide ((16 : Int) < (k : Int)) = false := decide_eq_false (by omega)
      rw [if_neg h16] at hP
      go_wp2
      go_ret
      exact hP.out
    ·intro x c kl yd yp w2 cnt2 hkey hlk hv hat hrg2 hlt2 hg2 hs2 hen
     have Hrg2 := Lib.hid hrg2
     have hm1 := hrg2.left_eq
     have hm0 := Hrg.out.left_eq
     have Hb2 : Hid (Below W0 w w2) := Hbw.out.grown hg2 (by have := Hbw.out.size; have := HW0.out; omega) (fun j hj => by cases hj; exact Hr.out)
     have HMs2 : Hid (SmAt w2 g b N DS) := HM.out.keep (M := []) (Keeps.of_below (by have := Hb2.out; rw [HW0.out] at this; exact this)) (by simp) (by simp)
     have q2 := HMs2.out.1.cell 0
     simp only [List.getElem?_toArray, List.getElem?_cons_zero] at q2
     have hstep := leftN_step (DS := DS) HT.out (lawS.key hkey) hlk (Maps.has_true_of_atKey hat)
     have Hk0 := Hk.out
     clear hs2 hg2 hrg2 hat hv hlk HMs Hbw Hrg
     cases hh : Maps.has DS kl with
     | true =>
      rw [hh, if_pos rfl] at hstep
      have hkn : Hid (k + leftN DS Dm (fun z => left z && !z.sameKey kl) = Maps.size DS + newS DS Dm) := by show _ = _; omega
      clear hstep Hk0
      go_wp2_with (at_lookup; refine wpl_look_has _ rfl _ _ 25 rfl 9 34 .u64 lawS uMS uU64 (zU64 _) b N DS rfl HMs2.out.2.1 _ _ rfl hkey ?_; rw [hh])
      go_roundw
      case rel => exact ⟨_, _, k, rfl, hkn, Hrg2.out, Hb2.out⟩
      case measure => omega
     | false =>
      rw [hh, if_neg (by simp)] at hstep
      have hkn : Hid ((k + 1) + leftN DS Dm (fun z => left z && !z.sameKey kl) = Maps.size DS + newS DS Dm) := by show _ = _; omega
      have hkb : k < 4611686018427387904 := by
       have h1 := HMs2.out.2.1.size_le
       have h2 := leftN_le DS Dm (Maps.has Dm)
       have h3 := Hrg2.out.owns.size_le
       have h4 := hkn.out
       unfold newS at h4
       omega
      clear hstep Hk0
      go_wp2_with (at_lookup; refine wpl_look_has _ rfl _ _ 25 rfl 9 34 .u64 lawS uMS uU64 (zU64 _) b N DS rfl HMs2.out.2.1 _ _ rfl hkey ?_; rw [hh])
      go_roundw
      case rel => exact ⟨_, _, k + 1, by go_num, hkn, Hrg2.out, Hb2.out⟩
      case measure => omega
theorem addL_cons (DS : DataW Unit) (d : DeltaD) (r : List DeltaD) : addL DS (d :: r) = addL (DS.put (skey d.ser) (.lit (.int .u64 (addZ (numAt .u64 DS (skey d.ser)) d.n)))) r := rfl
theorem addZ_nat (a b : Nat) : addZ (a : Int) (b : Int) = ((addS a b : Nat) : Int) := by
 unfold addZ addS
 split <;> split <;> first | rfl | omega
def SaPost (g b N : Nat) (DS : DataW Unit) (l : List DeltaD) (w : World) (e : Ending) (w' : World) : Prop :=
 e = .returned (.int .i64 (mayS DS l)) ∧ SmAt w' g b (N + l.length) (if mayS DS l = 0 then addL DS l else DS) ∧ Keeps [b] w w'
theorem SmAt.more {w : World} {g b N N' : Nat} {D : DataW Unit} (h : SmAt w g b N D) (hN : N ≤ N') : SmAt w g b N' D := ⟨h.1, h.2.1.mono hN, h.2.2⟩
set_option maxRecDepth 100000 in
set_option maxHeartbeats 2000000 in
theorem smadd_any (g b N : Nat) (DS : DataW Unit) (v : Value) (l : List DeltaD) (w : World) (h : SmAt w g b N DS) (hd : Ds w [b] v l) (hn : ∀ d ∈ l, DOk d) (hl : l.length ≤ 1099511627776) (hN : N ≤ 1099511627776) :
  Calls Tryz.prog 91 #[.pointer (some ⟨g, 0, none⟩), v] w fun e w' => SaPost g b N DS l w e w' := by
 have HY := Lib.hid (may_any g b N DS v l w h (hd.avoid (M' := []) (by simp)) hn hl hN)
 have HM := Lib.hid h; have HD := Lib.hid hd; have Hn := Lib.hid hn
 obtain ⟨A, c, rfl, hc⟩ := hd.len
 clear h hd hn
 go_enter Tryz.func91, Tryz.ntmps91
 go_wp2_with fail
 refine HY.out.mono ?_
 rintro e w1 ⟨rfl, hb1⟩
 have HM1 : Hid (SmAt w1 g b N DS) := HM.out.keep (M := []) (Keeps.of_below hb1) (by simp) (by simp)
 have HD1 : Hid (Ds w1 [b] (.slice A l.length c) l) := HD.out.keep (M' := []) (Keeps.of_below hb1) (by simp)
 have Hk1 : Hid (Keeps [b] w w1) := (Keeps.of_below hb1).mono (M := []) (by simp)
 clear HY hb1 HM HD
 by_cases hm : mayS DS l = 0
 ·have hR : Hid (∀ w', SmAt w' g b (N + l.length) (addL DS l) → Keeps [b] w w' → SaPost g b N DS l w (.returned (.int .i64 0)) w') := fun w' h1 h2 => ⟨by rw [hm], by rw [if_pos hm]; exact h1, h2⟩
  rw [hm]
  clear hm
  go_wp2_with fail
  go_loopw [16] (fun i wr => ∃ (x : Nat) (Dx : DataW Unit), i = .int .i64 x ∧ x ≤ l.length ∧ Hid (SmAt wr g b (N + x) Dx) ∧ Hid (addL DS l = addL Dx (l.drop x)) ∧ Hid (Keeps [b] w wr) ∧ Hid (Keeps [b] w1 wr)) (fun i _ => l.length - (intOf i).toNat)
  case atStart => exact ⟨0, DS, rfl, by omega, HM1.out, rfl, Hk1.out, Keeps.refl _ _⟩
  case round =>
   obtain ⟨x, Dx, rfl, hx, HMr, Hadd, Hkr, Hkr1⟩ := hrel
   by_cases hlt : x < l.length
   ·have hx1 : (x : Int) < (l.length : Int) := by omega
    obtain ⟨g3, off, _, e1, _, hg3, _, hcell⟩ := Rd.at_ dCell 2 (fun _ => rfl) (HD1.out.keep Hkr1.out (by simp)) hlt
    obtain rfl : A = some ⟨g3, off, none⟩ := by injection e1
    clear e1
    have p0 := hcell 0 _ rfl
    have p1 := hcell 1 _ rfl
    rw [Nat.add_zero] at p0
    obtain ⟨hn0, hn1, hns⟩ := Hn.out l[x] (List.getElem_mem _)
    have hM0 := Hadd.out
    rw [← List.getElem_cons_drop hlt, addL_cons] at hM0
    clear hcell Hadd
    generalize l[x] = d at *
    obtain ⟨ser, nn⟩ := d
    simp only [] at p0 p1 hn0 hn1 hns hM0
    obtain ⟨n, rfl⟩ := Int.eq_ofNat_of_zero_le hn0
    obtain ⟨hc0, hc1⟩ := om_bd HMr.out.2.1 hns
    obtain ⟨cd, hcd⟩ := Int.eq_ofNat_of_zero_le hc0
    rw [hcd, addZ_nat] at hM0
    rw [hcd] at hc1
    have HM0 := Lib.hid hM0
    have hcd9 : cd < 18446744073709551616 := by omega
    have hn9 : n < 18446744073709551616 := by omega
    have hs9 : addS cd n ≤ 18446744073709551615 := by unfold addS; split <;> omega
    clear hM0
    have hbl : b < wr.heap.size := HMr.out.2.1.lt
    have hgl : g < wr.heap.size := HMr.out.1.lt
    have hgb : g ≠ b := HMr.out.2.2
    have hBx := Blk.new wr 38 #[.string ser, .int .u64 n]
    have HkA : Hid (Keeps [b] w (wr.alloc (.cells #[.string ser, .int .u64 n] 38))) := Hkr.out.alloc _
    have HkA1 : Hid (Keeps [b] w1 (wr.alloc (.cells #[.string ser, .int .u64 n] 38))) := Hkr1.out.alloc _
    have HMA : Hid (SmAt (wr.alloc (.cells #[.string ser, .int .u64 n] 38)) g b (N + x) Dx) := HMr.out.keep (M := []) ((Keeps.refl _ _).alloc _) (by simp) (by simp)
    have HBx := Lib.hid hBx
    have hb7 : b ≠ wr.heap.size := by omega
    have Hb7 := Lib.hid hb7
    clear hBx HMr
    go_upto_region 7 with (fail)
    clear p0 p1
    generalize wr.alloc (.cells #[.string ser, .int .u64 n] 38) = wa at *
    generalize wr.heap.size = g7 at *
    have HSB : Hid (∀ W, Keeps [b] wa W → W.cell? ⟨g, 0, none⟩ = some (.map (some b)) ∧ W.cell? ⟨g7, 0, none⟩ = some (.string ser) ∧ W.cell? ⟨g7, 1, none⟩ = some (.int .u64 n)) := fun W hk =>
     ⟨(hk.blk HMA.out.1 (by simp [hgb])).cell 0, (hk.blk HBx.out (by simp; exact Ne.symm hb7)).cell 0, (hk.blk HBx.out (by simp; exact Ne.symm hb7)).cell 1⟩
    have Hown : Hid (wa.drew.ownsMap Tryz.prog 9 (plainElem Tryz.prog 34) b (N + x) Dx) := HMA.out.2.1
    have hlook := (om_num Hown.out lawS uMS uU64 (zU64 _) (skey_of hns)).1
    rw [hcd] at hlook
    obtain ⟨w2, hupd, hown2, hturn⟩ := Hown.out.store lawS uMS (by unfold maxLen; omega) (skey_of hns) (plainElem_int uU64 (WalkArith.wf_u64 ⟨by omega, by omega⟩) : plainElem (H := Unit) Tryz.prog 34 (.int .u64 ((addS cd n : Nat) : Int)) = _)
    have hk2 := turned_keeps hturn
    have HkF : Hid (Keeps [b] w w2) := HkA.out.drew.trans hk2 (by simp)
    have HkF1 : Hid (Keeps [b] w1 w2) := HkA1.out.drew.trans hk2 (by simp)
    have HkW : Hid (Keeps [b] wa w2) := ((Keeps.refl _ _).drew).trans hk2 (by simp)
    have HMF : Hid (SmAt w2 g b (N + (x + 1)) (Dx.put (skey ser) (.lit (.int .u64 ((addS cd n : Nat) : Int))))) := ⟨HkW.out.blk HMA.out.1 (by simp [hgb]), hown2, hgb⟩
    clear hown2 hturn hk2 hcd hc0 hc1 hn0 hn1
    refine wp_region_held_drew (S := (fun W => W.cell? ⟨g, 0, none⟩ = some (.map (some b)) ∧ W.cell? ⟨g7, 0, none⟩ = some (.string ser) ∧ W.cell? ⟨g7, 1, none⟩ = some (.int .u64 n))) (by kernel_rfl) (HSB.out _ (Keeps.refl _ _).drew) (fun hHeld => ?_)
    refine wpAnyH_take (i := 0) (oi := _) (v := ?v0) rfl (by kernel_rfl) (by kernel_rfl) (by kernel_rfl) (fun _ _ _ h => h) (Or.inl ⟨by rfl, ?y0⟩) (by assumption) ?r0
    case y0 => (intro w hSw; (obtain ⟨hS0, hS1, hS2⟩ := hSw); go_simp <;> with_reducible rfl)
    try simp only [List.getElem_toArray, List.getElem_cons_succ, List.getElem_cons_zero, Act.put, List.setIfInBounds_toArray, List.set_cons_zero, List.set_cons_succ]
    refine wpAnyH_take (i := 1) (oi := _) (v := ?v1) rfl (by kernel_rfl) (by kernel_rfl) (by kernel_rfl) (fun _ _ _ h => h) (Or.inl ⟨by rfl, ?y1⟩) (by assumption) ?r1
    case y1 => (intro w hSw; (obtain ⟨hS0, hS1, hS2⟩ := hSw); go_simp <;> with_reducible rfl)
    try simp only [List.getElem_toArray, List.getElem_cons_succ, List.getElem_cons_zero, Act.put, List.setIfInBounds_toArray, List.set_cons_zero, List.set_cons_succ]
    refine wpAnyH_take (i := 2) (oi := _) (v := ?v2) rfl (by kernel_rfl) (by kernel_rfl) (by kernel_rfl) (fun _ _ _ h => h) (Or.inl ⟨by rfl, ?y2⟩) (by assumption) ?r2
    case y2 => (intro w hSw; (obtain ⟨hS0, hS1, hS2⟩ := hSw); go_simp <;> with_reducible rfl)
    try simp only [List.getElem_toArray, List.getElem_cons_succ, List.getElem_cons_zero, Act.put, List.setIfInBounds_toArray, List.set_cons_zero, List.set_cons_succ]
    refine wpAnyH_take (i := 3) (oi := _) (v := ?v3) rfl (by kernel_rfl) (by kernel_rfl) (by kernel_rfl) (fun _ _ _ h => h) (Or.inl ⟨by rfl, ?y3⟩) (by assumption) ?r3
    case y3 => (intro w hSw; (obtain ⟨hS0, hS1, hS2⟩ := hSw); go_simp <;> with_reducible rfl)
    try simp only [List.getElem_toArray, List.getElem_cons_succ, List.getElem_cons_zero, Act.put, List.setIfInBounds_toArray, List.set_cons_zero, List.set_cons_succ]
    refine wpAnyH_take (i := 4) (oi := _) (v := ?v4) rfl (by kernel_rfl) (by kernel_rfl) (by kernel_rfl) (fun _ _ _ h => h) (Or.inl ⟨by rfl, ?y4⟩) (by assumption) ?r4
    case y4 => (intro w hSw; (obtain ⟨hS0, hS1, hS2⟩ := hSw); go_simp <;> with_reducible rfl)
    try simp only [List.getElem_toArray, List.getElem_cons_succ, List.getElem_cons_zero, Act.put, List.setIfInBounds_toArray, List.set_cons_zero, List.set_cons_succ]
    refine wpAnyH_take (i := 5) (oi := _) (v := ?v5) rfl (by kernel_rfl) (by kernel_rfl) (by kernel_rfl) (fun _ _ _ h => h) (Or.inl ⟨by rfl, ?y5⟩) (by assumption) ?r5
    case y5 => (intro w hSw; (obtain ⟨hS0, hS1, hS2⟩ := hSw); go_simp <;> with_reducible rfl)
    try simp only [List.getElem_toArray, List.getElem_cons_succ, List.getElem_cons_zero, Act.put, List.setIfInBounds_toArray, List.set_cons_zero, List.set_cons_succ]
    refine wpAnyH_take (i := 6) (oi := _) (v := ?v6) rfl (by kernel_rfl) (by kernel_rfl) (by kernel_rfl) (fun _ _ _ h => h) (Or.inl ⟨by rfl, ?y6⟩) (by assumption) ?r6
    case y6 => (intro w hSw; (obtain ⟨hS0, hS1, hS2⟩ := hSw); go_simp <;> with_reducible rfl)
    try simp only [List.getElem_toArray, List.getElem_cons_succ, List.getElem_cons_zero, Act.put, List.setIfInBounds_toArray, List.set_cons_zero, List.set_cons_succ]
    refine wpAnyH_take (i := 7) (oi := _) (v := ?v7) rfl (by kernel_rfl) (by kernel_rfl) (by kernel_rfl) (fun _ _ _ h => h) (Or.inl ⟨by rfl, ?y7⟩) (by assumption) ?r7
    case y7 => (intro w hSw; (obtain ⟨hS0, hS1, hS2⟩ := hSw); go_simp <;> with_reducible rfl)
    try simp only [List.getElem_toArray, List.getElem_cons_succ, List.getElem_cons_zero, Act.put, List.setIfInBounds_toArray, List.set_cons_zero, List.set_cons_succ]
    refine wpAnyH_take (i := 8) (oi := _) (v := ?v8) rfl (by kernel_rfl) (by kernel_rfl) (by kernel_rfl) (fun _ _ _ h => h) (Or.inl ⟨by rfl, ?y8⟩) (by assumption) ?r8
    case y8 => (intro w hSw; (obtain ⟨hS0, hS1, hS2⟩ := hSw); go_simp <;> with_reducible rfl)
    try simp only [List.getElem_toArray, List.getElem_cons_succ, List.getElem_cons_zero, Act.put, List.setIfInBounds_toArray, List.set_cons_zero, List.set_cons_succ]
    refine wpAnyH_take (i := 9) (oi := _) (v := ?v9) rfl (by kernel_rfl) (by kernel_rfl) (by kernel_rfl) (fun _ _ _ h => h) (Or.inl ⟨by rfl, ?y9⟩) (by assumption) ?r9
    case y9 => (intro w hSw; (obtain ⟨hS0, hS1, hS2⟩ := hSw); go_simp <;> with_reducible rfl)
    try simp only [List.getElem_toArray, List.getElem_cons_succ, List.getElem_cons_zero, Act.put, List.setIfInBounds_toArray, List.set_cons_zero, List.set_cons_succ]
    refine wpAnyH_take (i := 10) (oi := _) (v := ?v10) rfl (by kernel_rfl) (by kernel_rfl) (by kernel_rfl) (fun _ _ _ h => h) (Or.inl ⟨by rfl, ?y10⟩) (by assumption) ?r10
    case y10 => (intro w hSw; (obtain ⟨hS0, hS1, hS2⟩ := hSw); go_simp <;> with_reducible rfl)
    try simp only [List.getElem_toArray, List.getElem_cons_succ, List.getElem_cons_zero, Act.put, List.setIfInBounds_toArray, List.set_cons_zero, List.set_cons_succ]
    refine wpAnyH_take (i := 11) (oi := _) (v := ?v11) rfl (by kernel_rfl) (by kernel_rfl) (by kernel_rfl) (fun _ _ _ h => h) (Or.inl ⟨by rfl, ?y11⟩) (by assumption) ?r11
    case y11 => (intro w hSw; (obtain ⟨hS0, hS1, hS2⟩ := hSw); go_simp <;> with_reducible rfl)
    try simp only [List.getElem_toArray, List.getElem_cons_succ, List.getElem_cons_zero, Act.put, List.setIfInBounds_toArray, List.set_cons_zero, List.set_cons_succ]
    refine wpAnyH_take (i := 13) (oi := _) (v := ?v13) rfl (by kernel_rfl) (by kernel_rfl) (by kernel_rfl) (fun _ _ _ h => h) (Or.inl ⟨by rfl, ?y13⟩) (by assumption) ?r13
    case y13 => (intro w hSw; (obtain ⟨hS0, hS1, hS2⟩ := hSw); go_simp <;> with_reducible rfl)
    try simp only [List.getElem_toArray, List.getElem_cons_succ, List.getElem_cons_zero, Act.put, List.setIfInBounds_toArray, List.set_cons_zero, List.set_cons_succ]
    refine wpAnyH_take (i := 14) (oi := _) (v := ?v14) rfl (by kernel_rfl) (by kernel_rfl) (by kernel_rfl) (fun _ _ _ h => h) (Or.inl ⟨by rfl, ?y14⟩) (by assumption) ?r14
    case y14 => (intro w hSw; (obtain ⟨hS0, hS1, hS2⟩ := hSw); go_simp <;> with_reducible rfl)
    try simp only [List.getElem_toArray, List.getElem_cons_succ, List.getElem_cons_zero, Act.put, List.setIfInBounds_toArray, List.set_cons_zero, List.set_cons_succ]
    refine wpAnyH_ready (rs := [12]) (by kernel_rfl) (by simp) ?_
    refine AllReadyH.cons (o := _) rfl (fun K hK => ?_) AllReadyH.nil
    go_simp
    refine hK.out _ _ (HSB.out _ (Keeps.refl _ _).drew) (fun hHeld2 => ?_)
    clear hK K hHeld
    have hHeld := hHeld2
    clear hHeld2
    try simp only [List.getElem_toArray, List.getElem_cons_succ, List.getElem_cons_zero, Act.put, List.setIfInBounds_toArray, List.set_cons_zero, List.set_cons_succ]
    refine wpAnyH_ready (rs := [15]) (by kernel_rfl) (by simp) ?_
    refine AllReadyH.cons (o := _) rfl (fun K hK => ?_) AllReadyH.nil
    go_simp
    refine (add_any cd n _ hcd9 hn9).mono ?_
    rintro e w7 ⟨rfl, rfl⟩
    refine hK.out _ _ (HSB.out _ (Keeps.refl _ _).drew) (fun hHeld2 => ?_)
    clear hK K hHeld
    have hHeld := hHeld2
    clear hHeld2
    try simp only [List.getElem_toArray, List.getElem_cons_succ, List.getElem_cons_zero, Act.put, List.setIfInBounds_toArray, List.set_cons_zero, List.set_cons_succ]
    refine wpAnyH_ready (rs := [16]) (by kernel_rfl) (by simp) ?_
    refine AllReadyH.cons (o := _) rfl (fun K hK => ?_) AllReadyH.nil
    go_simp
    refine hK.out _ _ (HSB.out _ HkW.out) (fun hHeld2 => ?_)
    clear hK K hHeld
    have hHeld := hHeld2
    clear hHeld2
    try simp only [List.getElem_toArray, List.getElem_cons_succ, List.getElem_cons_zero, Act.put, List.setIfInBounds_toArray, List.set_cons_zero, List.set_cons_succ]
    refine wpAnyH_done (by kernel_rfl) ?_ _
    clear hupd hlook
    go_wp2
    go_roundw
    case rel => exact ⟨x + 1, _, by go_num, by omega, HMF, HM0, HkF, HkF1⟩
    case measure => simp [intOf] <;> omega
   ·obtain rfl : x = l.length := by omega
    have hP : Hid (SaPost g b N DS l w (.returned (.int .i64 0)) wr) := hR.out wr (by
     have := Hadd.out
     rw [List.drop_length] at this
     rw [this]
     exact HMr.out) Hkr.out
    go_wp2
    go_ret
    exact hP.out
 ·have hP : Hid (SaPost g b N DS l w (.returned (.int .i64 (mayS DS l))) w1) := ⟨rfl, by rw [if_neg hm]; exact HM1.out.more (by omega), Hk1.out⟩
  have hmi : decide (mayS DS l = 0) = false := decide_eq_false hm
  generalize mayS DS l = mm at *
  go_wp2
  go_ret
  exact hP.out
end Go.Proofs.YtgdooockldgdlaaGreatDoor.Vi
end
section
namespace Go.Proofs
open Go.Shelf
def Tryz.sortDelta_ren : Go.Shelf.Ren := ⟨fun | 6 => 94 | 15 => 152 | 14 => 153 | 28 => 211 | 29 => 212 | 20 => 213 | 21 => 214 | 22 => 215 | 23 => 216 | 24 => 217 | 25 => 218 | 26 => 219 | 27 => 220 | 46 => 263 | 47 => 258 | 48 => 259 | 49 => 264 | 50 => 265 | 57 => 289 | n => n, fun | 22 => 31 | 24 => 38 | 25 => 178 | 3 => 3 | 39 => 125 | 0 => 0 | 53 => 155 | 55 => 34 | 4 => 4 | 46 => 270 | 45 => 269 | 50 => 275 | 5 => 5 | 9 => 9 | 66 => 309 | 70 => 312 | 76 => 326 | 77 => 327 | n => n, fun | n => n⟩
theorem Tryz.sortDelta : Go.Proofs.SlLaysF0.n6 Tryz.prog Tryz.sortDelta_ren := {
 mixed := by kernel_rfl
 f6 := ⟨Tryz.f94.name, by decide, Tryz.func94.trans (congrArg some (by kernel_rfl))⟩
 f14 := ⟨Tryz.f153.name, by decide, Tryz.func153.trans (congrArg some (by kernel_rfl))⟩
 f15 := Tryz.func152.trans (congrArg some (by kernel_rfl))
 f20 := ⟨Tryz.f213.name, by decide, Tryz.func213.trans (congrArg some (by kernel_rfl))⟩
 f21 := ⟨Tryz.f214.name, by decide, Tryz.func214.trans (congrArg some (by kernel_rfl))⟩
 f22 := ⟨Tryz.f215.name, by decide, Tryz.func215.trans (congrArg some (by kernel_rfl))⟩
 f23 := ⟨Tryz.f216.name, by decide, Tryz.func216.trans (congrArg some (by kernel_rfl))⟩
 f24 := ⟨Tryz.f217.name, by decide, Tryz.func217.trans (congrArg some (by kernel_rfl))⟩
 f25 := ⟨Tryz.f218.name, by decide, Tryz.func218.trans (congrArg some (by kernel_rfl))⟩
 f26 := ⟨Tryz.f219.name, by decide, Tryz.func219.trans (congrArg some (by kernel_rfl))⟩
 f27 := ⟨Tryz.f220.name, by decide, Tryz.func220.trans (congrArg some (by kernel_rfl))⟩
 f28 := Tryz.func211.trans (congrArg some (by kernel_rfl))
 f29 := Tryz.func212.trans (congrArg some (by kernel_rfl))
 f46 := ⟨Tryz.f263.name, by decide, Tryz.func263.trans (congrArg some (by kernel_rfl))⟩
 f47 := Tryz.func258.trans (congrArg some (by kernel_rfl))
 f48 := Tryz.func259.trans (congrArg some (by kernel_rfl))
 f49 := ⟨Tryz.f264.name, by decide, Tryz.func264.trans (congrArg some (by kernel_rfl))⟩
 f50 := ⟨Tryz.f265.name, by decide, Tryz.func265.trans (congrArg some (by kernel_rfl))⟩
 f57 := ⟨Tryz.f289.name, by decide, Tryz.func289.trans (congrArg some (by kernel_rfl))⟩
 t0 := Tryz.underlying0
 a0 := Tryz.isAgg0
 z0 := Tryz.sizeOf0
 v0 := Tryz.zeroValue0
 t3 := Tryz.underlying3
 a3 := Tryz.isAgg3
 z3 := Tryz.sizeOf3
 v3 := Tryz.zeroValue3
 t4 := Tryz.underlying4
 a4 := Tryz.isAgg4
 z4 := Tryz.sizeOf4
 v4 := Tryz.zeroValue4
 t5 := Tryz.underlying5
 a5 := Tryz.isAgg5
 z5 := Tryz.sizeOf5
 v5 := Tryz.zeroValue5
 t9 := Tryz.underlying9
 a9 := Tryz.isAgg9
 z9 := Tryz.sizeOf9
 v9 := Tryz.zeroValue9
 t22 := Tryz.underlying31
 a22 := Tryz.isAgg31
 z22 := Tryz.sizeOf31
 v22 := Tryz.zeroValue31
 t25 := Tryz.underlying178
 a25 := Tryz.isAgg178
 z25 := Tryz.sizeOf178
 v25 := Tryz.zeroValue178
 t39 := Tryz.underlying125
 a39 := Tryz.isAgg125
 z39 := Tryz.sizeOf125
 v39 := Tryz.zeroValue125
 t45 := Tryz.underlying269
 a45 := Tryz.isAgg269
 z45 := Tryz.sizeOf269
 v45 := Tryz.zeroValue269
 t46 := Tryz.underlying270
 a46 := Tryz.isAgg270
 z46 := Tryz.sizeOf270
 v46 := Tryz.zeroValue270
 t50 := Tryz.underlying275
 a50 := Tryz.isAgg275
 z50 := Tryz.sizeOf275
 v50 := Tryz.zeroValue275
 t53 := Tryz.underlying155
 a53 := Tryz.isAgg155
 z53 := Tryz.sizeOf155
 v53 := Tryz.zeroValue155
 t55 := Tryz.underlying34
 a55 := Tryz.isAgg34
 z55 := Tryz.sizeOf34
 v55 := Tryz.zeroValue34
 t66 := Tryz.underlying309
 a66 := Tryz.isAgg309
 z66 := Tryz.sizeOf309
 v66 := Tryz.zeroValue309
 t70 := Tryz.underlying312
 a70 := Tryz.isAgg312
 z70 := Tryz.sizeOf312
 v70 := Tryz.zeroValue312
 t76 := Tryz.underlying326
 a76 := Tryz.isAgg326
 z76 := Tryz.sizeOf326
 v76 := Tryz.zeroValue326
 t77 := Tryz.underlying327
 a77 := Tryz.isAgg327
 z77 := Tryz.sizeOf327
 v77 := Tryz.zeroValue327 }
def Tryz.sortI64_ren : Go.Shelf.Ren := ⟨fun | 5 => 92 | 8 => 152 | 7 => 151 | 19 => 211 | 20 => 212 | 10 => 202 | 11 => 203 | 12 => 204 | 13 => 205 | 14 => 206 | 15 => 207 | 16 => 208 | 17 => 209 | 18 => 210 | 30 => 257 | 31 => 258 | 32 => 259 | 33 => 260 | 34 => 261 | 35 => 262 | 40 => 288 | n => n, fun | 23 => 99 | 25 => 2 | 3 => 3 | 32 => 125 | 22 => 99 | 0 => 0 | 44 => 155 | 46 => 34 | 4 => 4 | 36 => 270 | 35 => 269 | 41 => 275 | 5 => 5 | 9 => 9 | 53 => 309 | 57 => 312 | 63 => 326 | 64 => 327 | n => n, fun | n => n⟩
theorem Tryz.sortI64 : Go.Proofs.SlLaysM.n5 Tryz.prog Tryz.sortI64_ren := {
 mixed := by kernel_rfl
 f5 := ⟨Tryz.f92.name, by decide, Tryz.func92.trans (congrArg some (by kernel_rfl))⟩
 f7 := ⟨Tryz.f151.name, by decide, Tryz.func151.trans (congrArg some (by kernel_rfl))⟩
 f8 := Tryz.func152.trans (congrArg some (by kernel_rfl))
 f10 := ⟨Tryz.f202.name, by decide, Tryz.func202.trans (congrArg some (by kernel_rfl))⟩
 f11 := ⟨Tryz.f203.name, by decide, Tryz.func203.trans (congrArg some (by kernel_rfl))⟩
 f12 := ⟨Tryz.f204.name, by decide, Tryz.func204.trans (congrArg some (by kernel_rfl))⟩
 f13 := ⟨Tryz.f205.name, by decide, Tryz.func205.trans (congrArg some (by kernel_rfl))⟩
 f14 := ⟨Tryz.f206.name, by decide, Tryz.func206.trans (congrArg some (by kernel_rfl))⟩
 f15 := ⟨Tryz.f207.name, by decide, Tryz.func207.trans (congrArg some (by kernel_rfl))⟩
 f16 := ⟨Tryz.f208.name, by decide, Tryz.func208.trans (congrArg some (by kernel_rfl))⟩
 f17 := ⟨Tryz.f209.name, by decide, Tryz.func209.trans (congrArg some (by kernel_rfl))⟩
 f18 := ⟨Tryz.f210.name, by decide, Tryz.func210.trans (congrArg some (by kernel_rfl))⟩
 f19 := Tryz.func211.trans (congrArg some (by kernel_rfl))
 f20 := Tryz.func212.trans (congrArg some (by kernel_rfl))
 f30 := ⟨Tryz.f257.name, by decide, Tryz.func257.trans (congrArg some (by kernel_rfl))⟩
 f31 := Tryz.func258.trans (congrArg some (by kernel_rfl))
 f32 := Tryz.func259.trans (congrArg some (by kernel_rfl))
 f33 := ⟨Tryz.f260.name, by decide, Tryz.func260.trans (congrArg some (by kernel_rfl))⟩
 f34 := ⟨Tryz.f261.name, by decide, Tryz.func261.trans (congrArg some (by kernel_rfl))⟩
 f35 := ⟨Tryz.f262.name, by decide, Tryz.func262.trans (congrArg some (by kernel_rfl))⟩
 f40 := ⟨Tryz.f288.name, by decide, Tryz.func288.trans (congrArg some (by kernel_rfl))⟩
 t0 := Tryz.underlying0
 a0 := Tryz.isAgg0
 z0 := Tryz.sizeOf0
 v0 := Tryz.zeroValue0
 t3 := Tryz.underlying3
 a3 := Tryz.isAgg3
 z3 := Tryz.sizeOf3
 v3 := Tryz.zeroValue3
 t4 := Tryz.underlying4
 a4 := Tryz.isAgg4
 z4 := Tryz.sizeOf4
 v4 := Tryz.zeroValue4
 t5 := Tryz.underlying5
 a5 := Tryz.isAgg5
 z5 := Tryz.sizeOf5
 v5 := Tryz.zeroValue5
 t9 := Tryz.underlying9
 a9 := Tryz.isAgg9
 z9 := Tryz.sizeOf9
 v9 := Tryz.zeroValue9
 t22 := Tryz.underlying99
 a22 := Tryz.isAgg99
 z22 := Tryz.sizeOf99
 v22 := Tryz.zeroValue99
 t23 := Tryz.underlying99
 a23 := Tryz.isAgg99
 z23 := Tryz.sizeOf99
 v23 := Tryz.zeroValue99
 t25 := Tryz.underlying2
 a25 := Tryz.isAgg2
 z25 := Tryz.sizeOf2
 v25 := Tryz.zeroValue2
 t32 := Tryz.underlying125
 a32 := Tryz.isAgg125
 z32 := Tryz.sizeOf125
 v32 := Tryz.zeroValue125
 t35 := Tryz.underlying269
 a35 := Tryz.isAgg269
 z35 := Tryz.sizeOf269
 v35 := Tryz.zeroValue269
 t36 := Tryz.underlying270
 a36 := Tryz.isAgg270
 z36 := Tryz.sizeOf270
 v36 := Tryz.zeroValue270
 t41 := Tryz.underlying275
 a41 := Tryz.isAgg275
 z41 := Tryz.sizeOf275
 v41 := Tryz.zeroValue275
 t44 := Tryz.underlying155
 a44 := Tryz.isAgg155
 z44 := Tryz.sizeOf155
 v44 := Tryz.zeroValue155
 t46 := Tryz.underlying34
 a46 := Tryz.isAgg34
 z46 := Tryz.sizeOf34
 v46 := Tryz.zeroValue34
 t53 := Tryz.underlying309
 a53 := Tryz.isAgg309
 z53 := Tryz.sizeOf309
 v53 := Tryz.zeroValue309
 t57 := Tryz.underlying312
 a57 := Tryz.isAgg312
 z57 := Tryz.sizeOf312
 v57 := Tryz.zeroValue312
 t63 := Tryz.underlying326
 a63 := Tryz.isAgg326
 z63 := Tryz.sizeOf326
 v63 := Tryz.zeroValue326
 t64 := Tryz.underlying327
 a64 := Tryz.isAgg327
 z64 := Tryz.sizeOf327
 v64 := Tryz.zeroValue327 }
end Go.Proofs
end
section
namespace Go.Proofs.YtgdooockldgdlaaGreatDoor.Vi
open Go.RowKit Base Mem Go.Sort Go.Shelf
instance : Inhabited DeltaD := ⟨⟨⟨#[]⟩, 0⟩⟩
def cmpD (a b : DeltaD) : Int := cmpS a.ser b.ser
theorem bySer_any (a b : DeltaD) (w : World) : Calls Tryz.prog 95 #[.agg #[.string a.ser, .int .u64 a.n], .agg #[.string b.ser, .int .u64 b.n]] w fun e w' => e = .returned (.int .i64 (cmpD a b)) ∧ ∃ q os', w' = Sort.grow (w.drewN q) os' := by
 have hc := Lib.hid (fun x y W => compStr x y W)
 have hr : Hid (cmpD a b = cmpS a.ser b.ser) := rfl
 go_enter Tryz.func95, Tryz.ntmps95
 go_wp2_with fail
 refine (hc.out _ _ _).mono ?_
 rintro e w' ⟨rfl, rfl⟩
 go_wp2
 go_ret
 refine ⟨by rw [hr.out]; rfl, 0, #[.cells #[.string a.ser, .int .u64 a.n] 38, .cells #[.string b.ser, .int .u64 b.n] 38], ?_⟩
 simp only [Sort.alloc_eq_grow, Sort.grow_grow]
 rfl
theorem bySer_lays (blk off size : Nat) (w : World) : CmpLays Tryz.prog 95 #[] dCell 2 cmpD blk off size w := fun _ _ _ _ x y => bySer_any x y _
theorem sLt_ltD (x y : ByteArray) : sLt x y = decide (x.toList < y.toList) := bytesLess_eq _ _
theorem ltOf_ser (a b : DeltaD) : ltOf cmpD a b = sLt a.ser b.ser := by
 unfold ltOf cmpD cmpS
 cases h : sLt a.ser b.ser
 ·simp only [Bool.false_eq_true, if_false]
  split <;> simp
 ·simp
theorem swoD : SWO (ltOf cmpD) where
 irrefl x := by rw [ltOf_ser, sLt_ltD]; simp [List.lt_irrefl]
 trans x y z h1 h2 := by simp only [ltOf_ser, sLt_ltD, decide_eq_true_eq] at *; exact List.lt_trans h1 h2
 ntrans x y z h1 h2 := by
  simp only [ltOf_ser, sLt_ltD, decide_eq_false_iff_not, List.not_lt] at *
  exact List.le_trans h2 h1
/-- Deltas in the order of the sort. -/
def sortD (l : List DeltaD) : List DeltaD := (insertionSort (ltOf cmpD) l.toArray 0 l.length).toList
theorem sortF_any (blk off cap : Nat) (l : List DeltaD) (w : World) (hH : HoldsK dCell 2 w blk off l.toArray) (hblk : blk < w.heap.size) (hsz : l.length ≤ 12) :
  Calls Tryz.prog 94 #[.slice (some ⟨blk, off, none⟩) l.length cap, .func (.func 95) #[] #[]] w fun e w' =>
   e = .returned (.tuple #[]) ∧ ∃ n os, w' = sortWorldK dCell 2 w blk off n (sortD l).toArray os := by
 have eg : ∀ args w, (callFunc 95 args).run Tryz.prog w = .ok (.enter 95 args) w := enters_of Tryz.func95 (by kernel_rfl) rfl
 have h := AnyQ.slices_SortFunc_small Tryz.sortDelta 2 Tryz.isAgg38 Tryz.sizeOf38 dCell (fun _ => rfl) (fun x v hv => by simp [dCell] at hv; rcases hv with rfl | rfl <;> rfl) cmpD 95 #[] blk off cap l.toArray w eg (bySer_lays blk off _ w) hH hblk (by simpa using hsz)
  (fun n W hn => (Tryz.bits_Len n W (by omega) (by omega)).mono fun _ _ ⟨h1, h2⟩ => ⟨⟨_, h1⟩, h2⟩)
 simp only [List.size_toArray] at h
 exact h
theorem sortF_none (A : Option Addr) (cap : Nat) (w : World) : Calls Tryz.prog 94 #[.slice A 0 cap, .func (.func 95) #[] #[]] w fun e w' => e = .returned (.tuple #[]) ∧ w' = w :=
 AnyF.slices_SortFunc_none Tryz.sortDelta A cap (.func (.func 95) #[] #[]) w
theorem sortD_facts (l : List DeltaD) : (sortD l).Perm l ∧ (sortD l).Pairwise fun a b => sLt b.ser a.ser = false := by
 obtain ⟨⟨h1, h2, h3⟩, h4⟩ := insertionSort_holds (lt := ltOf cmpD) swoD l.toArray 0 l.length (Nat.zero_le _) (by simp)
 unfold sortD
 generalize insertionSort (ltOf cmpD) l.toArray 0 l.length = d at *
 have hs : d.size = l.length := by simpa using h1
 have e1 : d.extract 0 l.length = d := by rw [← hs]; simp
 have e2 : l.toArray.extract 0 l.length = l.toArray := by simp
 rw [e1, e2] at h3
 refine ⟨by simpa using h3, ?_⟩
 rw [List.pairwise_iff_getElem]
 intro i j hi hj hij
 have := h4 i j (Nat.zero_le _) hij (by simpa [hs] using hj)
 rw [ltOf_ser] at this
 have a1 : d[j]! = d.toList[j] := by rw [getElem!_pos d j (by simpa using hj)]; simp
 have a2 : d[i]! = d.toList[i] := by rw [getElem!_pos d i (by simpa using hi)]; simp
 rw [a1, a2] at this
 exact this
def SfP (v : Value) (l : List DeltaD) (w : World) (e : Ending) (w' : World) : Prop := e = .returned (.tuple #[]) ∧ (∀ M : List Nat, (∀ g, v.ownBlock = some g → g ∉ M) → Ds w' M v (sortD l)) ∧ Keeps v.ownBlock.toList w w'
theorem sortD_len (l : List DeltaD) : (sortD l).length = l.length := (sortD_facts l).1.length_eq
theorem sortR_any (base : Nat) (v : Value) (l : List DeltaD) (w : World) (h : w.ownsRow base 38 2 v l.length (dCells l)) (hl : l.length ≤ 12) :
  Calls Tryz.prog 94 #[v, .func (.func 95) #[] #[]] w fun e w' => SfP v l w e w' := by
 rcases Nat.eq_zero_or_pos l.length with h0 | h0
 ·obtain rfl : l = [] := List.length_eq_zero_iff.1 h0
  obtain ⟨A, c, rfl, _⟩ := Rd.of_own h (M := []) (by simp)
  refine (sortF_none A c w).mono ?_
  rintro e w' ⟨rfl, rfl⟩
  exact ⟨rfl, fun M _ => ⟨A, c, by rw [sortD_len], by rw [sortD_len]; exact Nat.zero_le _, dCells_len _, fun hn => absurd hn (by rw [sortD_len]; exact Nat.lt_irrefl 0)⟩, Keeps.refl _ _⟩
 ·rcases h.2 with ⟨_, hn⟩ | ⟨g, cap, cur, rfl, hg0, hb, h1, h2, h3, h4⟩
  ·omega
  ·have hcur : cur = (l.flatMap dCell ++ cur.toList.drop (l.length * 2)).toArray := by
    apply Array.ext'
    show cur.toList = l.flatMap dCell ++ cur.toList.drop (l.length * 2)
    rw [show l.flatMap dCell = cur.toList.take (l.length * 2) from h4.symm, List.take_append_drop]
   have hB : Blk w g 38 (l.flatMap dCell ++ cur.toList.drop (l.length * 2)).toArray := by
    unfold Blk
    rw [← hcur]
    exact hb
   refine (sortF_any g 0 cap l w (RowsK.blk_holds dCell 2 (fun _ => rfl) (by omega) hB) hB.lt hl).mono ?_
   rintro e w' ⟨rfl, n, os, rfl⟩
   have hB2 := RowsK.blk_sorted dCell 2 (fun _ => rfl) (by omega) hB (sortD_len l) n os
   refine ⟨rfl, fun M hM => ⟨_, _, by rw [sortD_len], by rw [sortD_len]; exact h1, dCells_len _, fun _ => ⟨g, 0, rfl, hB2.lt, hM g rfl, fun j u hu => ?_⟩⟩, RowsK.keeps_sorted dCell 2 w g n _ os⟩
   have hu' : ((sortD l).flatMap dCell)[j]? = some u := hu
   rw [Nat.zero_add, hB2.cell, List.getElem?_toArray, List.getElem?_append_left (List.getElem?_eq_some_iff.1 hu').1]
   exact hu'
end Go.Proofs.YtgdooockldgdlaaGreatDoor.Vi
end
section
namespace Go.Proofs.YtgdooockldgdlaaGreatDoor.Vi
open Go.RowKit Base Mem Go.Shelf
open Go.Maps (Keyed)
/-- These deltas have been met: those of the map that are no longer to come. -/
def Coll (D : DataW Unit) (left : Lit → Bool) (ss : List DeltaD) : Prop :=
 ss.Pairwise (fun a b => a.ser ≠ b.ser) ∧ ∀ d, d ∈ ss ↔ (Maps.has D (skey d.ser) = true ∧ left (skey d.ser) = false ∧ d.n = numAt .u64 D (skey d.ser))
theorem coll_start (D : DataW Unit) : Coll D (Maps.has D) [] := ⟨List.Pairwise.nil, fun d => ⟨fun h => (by simp at h), fun ⟨h1, h2, _⟩ => by rw [h1] at h2; cases h2⟩⟩
theorem coll_step {D : DataW Unit} {left : Lit → Bool} {ss : List DeltaD} (h : Coll D left ss) {x : ByteArray} {c : Int} (hl : left (skey x) = true) (hh : Maps.has D (skey x) = true) (hc : numAt .u64 D (skey x) = c) :
  Coll D (fun z => left z && !z.sameKey (skey x)) (ss ++ [⟨x, c⟩]) := by
 obtain ⟨h1, h2⟩ := h
 refine ⟨List.pairwise_append.2 ⟨h1, by simp, fun a ha b hb => ?_⟩, fun d => ?_⟩
 ·simp at hb
  subst hb
  intro e
  have := ((h2 a).1 ha).2.1
  rw [show a.ser = x from e, hl] at this
  cases this
 ·rw [List.mem_append, h2 d, List.mem_singleton]
  show _ ↔ (_ ∧ (left (skey d.ser) && !(skey d.ser).sameKey (skey x)) = false ∧ _)
  by_cases e : d.ser = x
  ·subst e
   rw [hl, WideAt.sameKey_self (skey_key _)]
   constructor
   ·rintro (⟨_, h, _⟩ | h)
    ·cases h
    ·rw [h]
     exact ⟨hh, rfl, hc.symm⟩
   ·rintro ⟨_, _, h⟩
    right
    obtain ⟨s, n⟩ := d
    simp only [] at h hc ⊢
    rw [h, hc]
  ·have hne : skey d.ser ≠ skey x := fun h => e (skey_inj h)
   rw [Maps.sameKey_ne hne, Bool.not_false, Bool.and_true]
   constructor
   ·rintro (h | h)
    ·exact h
    ·exact absurd (by rw [h]) e
   ·exact fun h => .inl h
/-- All of a map, by series. -/
def IsAll (D : DataW Unit) (l : List DeltaD) : Prop := (l.Pairwise fun a b => sLt a.ser b.ser = true) ∧ ∀ d, d ∈ l ↔ (Maps.has D (skey d.ser) = true ∧ d.n = numAt .u64 D (skey d.ser))
theorem coll_end {D : DataW Unit} {left : Lit → Bool} {ss : List DeltaD} (h : Coll D left ss) (hl : ∀ kl, left kl = false) : IsAll D (sortD ss) := by
 obtain ⟨h1, h2⟩ := h
 obtain ⟨h3, h4⟩ := sortD_facts ss
 have h5 : (sortD ss).Pairwise (fun a b => a.ser ≠ b.ser) := (h3.pairwise_iff (fun {_ _} h => Ne.symm h)).2 h1
 refine ⟨(h4.and h5).imp (fun {a b} hab => ?_), fun d => ?_⟩
 ·have h6 := hab.1
  rw [sLt_ltD, decide_eq_false_iff_not, List.not_lt] at h6
  rw [sLt_ltD, decide_eq_true_eq]
  rcases List.le_iff_lt_or_eq.1 h6 with h7 | h7
  ·exact h7
  ·exact absurd (toList_inj h7) hab.2
 ·rw [h3.mem_iff, h2 d]
  constructor
  ·exact fun h => ⟨h.1, h.2.2⟩
  ·exact fun h => ⟨h.1, hl _, h.2⟩
def AlP (D : DataW Unit) (w : World) (e : Ending) (w' : World) : Prop := ∃ v l, e = .returned v ∧ IsAll D l ∧ l.length ≤ 12 ∧ (∀ M, (∀ g ∈ M, g < w.heap.size) → Ds w' M v l) ∧ Keeps [] w w'
set_option maxRecDepth 100000 in
set_option maxHeartbeats 2000000 in
theorem small_any (g b N : Nat) (D : DataW Unit) (w : World) (h : SmAt w g b N D) (h12 : Maps.size D ≤ 12) :
  Calls Tryz.prog 50 #[.pointer (some ⟨g, 0, none⟩)] w fun e w' => AlP D w e w' := by
 have c0 := h.1.cell 0
 simp only [List.getElem?_toArray, List.getElem?_cons_zero] at c0
 have HM := Lib.hid h
 have hbl : b < w.heap.size := h.2.1.lt
 obtain ⟨i0, hi0, hz0, hz1, hz2⟩ := info_parts infoDelta
 have Hi0 := Lib.hid hi0; have Hz0 := Lib.hid hz0; have Hz1 := Lib.hid hz1; have Hz2 := Lib.hid hz2
 clear h hi0 hz0 hz1 hz2
 go_enter Tryz.func50, Tryz.ntmps50
 go_wp2_with (at_range; refine wpList_range_own _ rfl _ 25 rfl 9 34 lawS uMS _ b N D rfl HM.out.2.1 ?_; intro w0 hrg0 hg0 hs0)
 have Hrg0 := Lib.hid hrg0
 have Hk0 : Hid (Keeps [] w w0) := (Keeps.refl _ _).grown hg0 (fun j hj => by cases hj)
 have hs0' : w.heap.size < w0.heap.size := by rw [hs0]; exact Nat.lt_succ_self _
 have Hs0 := Lib.hid hs0'
 clear hrg0 hg0 hs0 hs0' c0
 obtain ⟨r, Hr⟩ : ∃ r, Hid (r = w.heap.size) := ⟨_, rfl⟩
 rw [← Hr.out] at Hrg0 ⊢
 go_frame
 go_loopw [3] (fun out wr => ∃ (left : Lit → Bool) (cnt : Nat) (ss : List DeltaD), ss.length + cnt ≤ Maps.size D ∧ Hid (Coll D left ss) ∧ Hid (wr.ranges Tryz.prog 9 (plainElem Tryz.prog 34) b r N D left cnt) ∧ Hid (wr.ownsRow w0.heap.size 38 2 out ss.length (dCells ss)) ∧ Hid (Keeps [r] w0 wr)) (fun _ wr => wr.rangeLeft b r)
 case atStart => exact ⟨_, _, [], by simp, coll_start D, Hrg0.out, World.ownsRow_nil _ _ _ _, Keeps.refl _ _⟩
 case round =>
  obtain ⟨left, cnt, ss, hcnt, HC, Hrg, Hown, Hkr⟩ := hrel
  obtain ⟨Ao, co, rfl, hco⟩ : ∃ Ao co, u3 = .slice Ao ss.length co ∧ ss.length ≤ co := by
   obtain ⟨Ao, co, h1, h2, _⟩ := Rd.of_own Hown.out (M := []) (by simp)
   exact ⟨Ao, co, h1, h2⟩
  go_wp2_with (at_next; refine wpList_next_ranges _ rfl _ rfl 9 lawS (plainElem Tryz.prog 34) Value.string (Value.int .u64) invKS invVU b r N D left cnt rfl Hrg.out ?_ ?_)
  ·intro hc0 hl0
   have HA := Lib.hid (coll_end HC.out hl0)
   have HSF := Lib.hid (sortR_any _ (.slice Ao ss.length co) ss wr Hown.out (by omega))
   clear hl0
   go_wp2_with fail
   refine HSF.out.mono ?_
   rintro e w2 ⟨rfl, hds, hk2⟩
   have Hds := Lib.hid hds; have Hk2 := Lib.hid hk2
   clear hds hk2 HSF
   go_wp2_with fail
   refine (clipDelta Ao ss.length co w2 hco).mono ?_
   rintro e w3 ⟨rfl, rfl⟩
   have hP : Hid (AlP D w (.returned (.slice Ao ss.length ss.length)) w2) := by
    refine ⟨_, sortD ss, rfl, HA.out, by rw [sortD_len]; omega, fun M hM => ?_, ?_⟩
    ·obtain ⟨A1, c1, e1, h1, h2, h3⟩ := Hds.out M (fun g hg hm => by
      have h4 := (Hown.out.lt g hg).1
      have h5 := hM g hm
      have h6 := Hs0.out
      exact absurd (Nat.lt_of_lt_of_le (Nat.lt_trans h5 h6) h4) (Nat.lt_irrefl _))
     injection e1 with e1 e2 e3
     subst e1
     exact ⟨Ao, ss.length, by rw [sortD_len], by rw [sortD_len]; exact Nat.le_refl _, h2, h3⟩
    ·refine (Hk0.out.trans Hkr.out (fun x hx => .inr (by simp at hx; rw [hx, Hr.out]; exact Nat.le_refl _))).trans Hk2.out (fun x hx => .inr ?_)
     have h4 := (Hown.out.lt x (by simpa using hx)).1
     exact Nat.le_trans (Nat.le_of_lt Hs0.out) h4
   go_wp2
   go_ret
   exact hP.out
  ·intro x c kl yd yp w2 cnt2 hkey hlk hv hat hrg2 hlt2 hg2 hs2 hen
   have hks : kl = skey x := by
    simp [keyOf, uStr, mapKey] at hkey
    exact hkey.2.symm
   subst hks
   have hnum : numAt .u64 D (skey x) = c := by
    have h1 := hat (.lit (.int .u64 0))
    obtain ⟨c', e1, e2, _⟩ := plainElem_int_inv uU64 hv
    injection e1 with _ e1
    subst e1
    injection e2 with e2 _
    rw [e2] at h1
    exact numAt_of h1
   have HC2 := Lib.hid (coll_step HC.out hlk (Maps.has_true_of_atKey hat) hnum)
   have hm0 := Hrg.out.left_eq
   have hbr : r < w0.heap.size := by have := Hs0.out; rw [Hr.out]; exact this
   have Hbr := Lib.hid hbr
   have Hk2 : Hid (Keeps [r] w0 w2) := Hkr.out.grown hg2 (fun j hj => .inl (by cases hj; simp))
   have hk2w : Keeps [r] wr w2 := (Keeps.refl _ _).grown hg2 (fun j hj => .inl (by cases hj; simp))
   have Hown2 : Hid ((w2.alloc (.cells #[.string x, .int .u64 c] 38)).ownsRow w0.heap.size 38 2 (.slice Ao ss.length co) ss.length (dCells ss)) := (own_keep Hown.out hk2w (by intro g hg; simp at hg; subst hg; exact hbr)).alloc _
   have hkb : Hid (Keeps [] w2 (w2.alloc (.cells #[.string x, .int .u64 c] 38))) := (Keeps.refl _ _).alloc _
   have Hrg2 := Lib.hid hrg2
   have hle : w0.heap.size ≤ w2.heap.size := Hk2.out.size
   have hss : ss.length < 12 := by omega
   have hcn : (ss ++ [(⟨x, c⟩ : DeltaD)]).length + cnt2 ≤ Maps.size D := by simp; omega
   clear hs2 hg2 hrg2 hat hv hlk hkey hk2w hbr Hrg
   go_wp2_with (at_builtin; refine wpList_append_any _ rfl (.tmp 16) (.tmp 20) _ rfl w0.heap.size 38 i0 _ 2 24 Tryz.underlying31 Hi0.out Hz0.out Hz1.out Hz2.out rfl (by omega) (.slice Ao ss.length co) ss.length (dCells ss) rfl Hown2.out (w2.heap.size + 1) (some ⟨w2.heap.size, 0, none⟩) 1 1 (dCell ⟨x, c⟩) rfl (reads_new _ _ _ _ _ rfl) (by intro u hu; simp [dCell] at hu; rcases hu with rfl | rfl <;> rfl) (by unfold maxLen; omega) (by omega) (by simp; omega) ?_)
   intro v6 w6 hown6 hg6 hat6
   have Hown6 : Hid (w6.ownsRow w0.heap.size 38 2 v6 (ss ++ [(⟨x, c⟩ : DeltaD)]).length (dCells (ss ++ [(⟨x, c⟩ : DeltaD)]))) := by
    show World.ownsRow _ _ _ _ _ _ _
    unfold dCells at hown6 ⊢
    rw [List.flatMap_append]
    simpa using hown6
   have hlt0 := Hown.out.lt
   have hk6 : Keeps (Value.slice Ao ss.length co).ownBlock.toList w2 w6 := ((Keeps.refl _ _).alloc _).grown hg6 (fun k hk => .inl (by simp [hk]))
   have Hrg6 : Hid (w6.ranges Tryz.prog 9 (plainElem Tryz.prog 34) b r N D (fun z => left z && !z.sameKey (skey x)) cnt2) := rg_keep Hrg2.out hk6 (fun hm => by
    have h1 := (hlt0 b (by simpa using hm)).1
    have h2 := Hs0.out
    exact absurd (Nat.lt_trans hbl h2) (Nat.not_lt.2 h1)) (fun hm => by
    have h1 := (hlt0 r (by simpa using hm)).1
    exact absurd Hbr.out (Nat.not_lt.2 h1))
   have Hk6 : Hid (Keeps [r] w0 w6) := Hk2.out.trans hk6 (fun k hk => .inr (hlt0 k (by simpa using hk)).1)
   have hm6 := Hrg6.out.left_eq
   clear hown6 hg6 hat6 hk6 hlt0
   go_wp2
   go_roundw
   case rel => exact ⟨_, cnt2, ss ++ [⟨x, c⟩], hcn, HC2, Hrg6, Hown6, Hk6⟩
   case measure => rw [hm0, hm6]; exact hlt2
end Go.Proofs.YtgdooockldgdlaaGreatDoor.Vi
end
section
namespace Go.Proofs.YtgdooockldgdlaaGreatDoor.Vi
open Go.RowKit Base Mem Tape
open Classical in
theorem nodup_le {α : Type} : ∀ (l m : List α), l.Nodup → (∀ x ∈ l, x ∈ m) → l.length ≤ m.length
 | [], _, _, _ => by simp
 | a :: l, m, hn, hs => by
  obtain ⟨h1, h2⟩ := List.nodup_cons.1 hn
  have ha : a ∈ m := hs a (by simp)
  have := nodup_le l (m.erase a) h2 (fun x hx => (List.mem_erase_of_ne (fun e => h1 (by rw [← e]; exact hx))).2 (hs x (by simp [hx])))
  rw [List.length_erase_of_mem ha] at this
  have : 0 < m.length := List.length_pos_of_mem ha
  simp only [List.length_cons]
  omega
def nameK : List Lit := nameL.map Lit.string
theorem nameK_of {s : ByteArray} (h : NameOk s) : skey s ∈ nameK := by
 obtain ⟨l, hl, rfl⟩ := h
 exact List.mem_map.2 ⟨l, hl, by simp [skey]⟩
/-- All keys are names that there are. -/
def NamesIn (D : DataW Unit) : Prop := ∀ kl, Maps.has D kl = true → kl ∈ nameK
theorem size_names {D : DataW Unit} (ht : Maps.Tidy D) (hk : ∀ es, D = .map es → ∀ p ∈ es, WideAt.IsKeyLit p.1) (hn : NamesIn D) : Maps.size D ≤ 8 := by
 obtain ⟨es, rfl, hp⟩ := ht
 have h1 : (es.map (·.1)).Nodup := by
  unfold List.Nodup
  rw [List.pairwise_map]
  exact hp
 have := nodup_le (es.map (·.1)) nameK h1 (fun x hx => by
  obtain ⟨p, hp1, rfl⟩ := List.mem_map.1 hx
  exact hn _ (List.any_eq_true.2 ⟨p, hp1, WideAt.sameKey_self (hk es rfl p hp1)⟩))
 simpa [Maps.size, nameK, nameL] using this
/-- All keys are keys. -/
def KeysIn (D : DataW Unit) : Prop := ∃ es, D = .map es ∧ es.Pairwise (fun p q => p.1 ≠ q.1) ∧ ∀ p ∈ es, WideAt.IsKeyLit p.1
theorem KeysIn.tidy {D : DataW Unit} (h : KeysIn D) : Maps.Tidy D := by obtain ⟨es, h1, h2, _⟩ := h; exact ⟨es, h1, h2⟩
theorem KeysIn.size {D : DataW Unit} (h : KeysIn D) (hn : NamesIn D) : Maps.size D ≤ 8 := size_names h.tidy (by obtain ⟨es, rfl, _, h3⟩ := h; intro es' he; injection he with he; subst he; exact h3) hn
theorem KeysIn.put {D : DataW Unit} (h : KeysIn D) {kl : Lit} (hk : WideAt.IsKeyLit kl) (d : DataW Unit) : KeysIn (D.put kl d) := by
 obtain ⟨es, rfl, h2, h3⟩ := h
 obtain ⟨es', he, hp⟩ := (Maps.Tidy.put ⟨es, rfl, h2⟩ hk d : Maps.Tidy ((DataW.map es).put kl d))
 refine ⟨es', he, hp, fun p hp1 => ?_⟩
 have e1 : es' = DataW.insert (kl, d) (es.filter fun p => !p.1.sameKey kl) := by injection he.symm
 rw [e1] at hp1
 have : p = (kl, d) ∨ p ∈ (es.filter fun p => !p.1.sameKey kl) := by
  have := (WideShapes.insert_perm (kl, d) (es.filter fun p => !p.1.sameKey kl)).mem_iff.1 hp1
  simpa using this
 rcases this with rfl | h4
 ·exact hk
 ·exact h3 p (List.mem_filter.1 h4).1
/-- What is known ahead of the i-th batch: the agent's epoch is top, no later number was seen, no sum is great. -/
structure FenceOk (ag : Int) (i : Nat) (top : Int) (kl : Lit) (st : McD) : Prop where
 ep : numAt .i64 st.DE (ekey ag) = top
 f0 : 0 ≤ (st.get kl).f
 fi : (st.get kl).f ≤ i
 m64 : (st.get kl).m < 2 ^ 64
 bad : (st.get kl).bad = []
 new : ∀ n : Int, (i : Int) < n → (st.get kl).seen n = false
 sum : ∀ s, numAt .u64 st.DS (skey s) ≤ 5 * i
 names : NamesIn st.DS
 keys : KeysIn st.DS
 isE : Maps.IsMap st.DE
theorem FenceOk.mono {ag : Int} {i : Nat} {top : Int} {kl : Lit} {st : McD} (h : FenceOk ag i top kl st) : FenceOk ag (i + 1) top kl st :=
 ⟨h.ep, h.f0, by have := h.fi; omega, h.m64, h.bad, fun n hn => h.new n (by omega), fun s => by have := h.sum s; omega, h.names, h.keys, h.isE⟩
def fenceE (ag : Int) (i : Nat) (s : ByteArray) (p n : Int) : EntryD := ⟨1, ag, 0, (i : Int) + 1, p, [⟨s, n⟩], ByteArray.empty, 0, 0⟩
theorem fence_right {ag : Int} (hag : 0 ≤ ag ∧ ag < 8) (i : Nat) {s : ByteArray} (hs : NameOk s) {p n : Int} (hp : 1 ≤ p) (hn : 1 ≤ n) : rightE (fenceE ag i s p n) = 0 := by
 have hb : badId (fenceE ag i s p n) = false := by
  unfold badId withinB fenceE
  simp; omega
 have h0 : ((fenceE ag i s p n).ds.length == 0 || (fenceE ag i s p n).ds.any fun d => d.n == 0) = false := by simp [fenceE]; omega
 have hall : ((fenceE ag i s p n).ds.all fun d => serOk d.ser) = true := by simp [fenceE, (name_ser hs).1]
 have hse : (fenceE ag i s p n).ser.toList.isEmpty = true := by show ByteArray.empty.toList.isEmpty = true; decide +kernel
 unfold rightE kindS writtenS
 rw [hb, h0, hall, hse]
 simp [fenceE, withinB]
theorem may_fence {ag : Int} {i : Nat} {top : Int} {kl : Lit} {st : McD} (h : FenceOk ag i top kl st) (hi : i < 40) (s : ByteArray) {n : Int} (hn : 0 ≤ n ∧ n ≤ 5) : mayS st.DS [⟨s, n⟩] = 0 := by
 have h1 := h.sum s
 have hl : mayL st.DS (.map []) [⟨s, n⟩] = some ((DataW.map []).put (skey s) (.lit (.int .u64 (0 + n)))) := by
  unfold mayL
  rw [numAt_empty, if_neg (by simp only []; omega)]
  rfl
 have h2 := h.keys.size h.names
 have h3 : newS st.DS ((DataW.map [] : DataW Unit).put (skey s) (.lit (.int .u64 (0 + n)))) ≤ Maps.size ((DataW.map [] : DataW Unit).put (skey s) (.lit (.int .u64 (0 + n)))) := leftN_le _ _ _
 have h4 := size_put_le (Maps.tidy_empty) (skey s) (.lit (.int .u64 (0 + n)))
 have h5 : Maps.size (DataW.map [] : DataW Unit) = 0 := rfl
 unfold mayS
 rw [hl]
 show (if 16 < Maps.size st.DS + newS st.DS ((DataW.map [] : DataW Unit).put (skey s) (.lit (.int .u64 (0 + n)))) then (24 : Int) else 0) = 0
 rw [if_neg (by omega)]
theorem may_none {ag : Int} {i : Nat} {top : Int} {kl : Lit} {st : McD} (h : FenceOk ag i top kl st) : mayS st.DS [] = 0 := by
 have h2 := h.keys.size h.names
 have h3 : newS st.DS (DataW.map [] : DataW Unit) ≤ Maps.size (DataW.map [] : DataW Unit) := leftN_le _ _ _
 have h5 : Maps.size (DataW.map [] : DataW Unit) = 0 := rfl
 show (if 16 < Maps.size st.DS + newS st.DS (DataW.map [] : DataW Unit) then (24 : Int) else 0) = 0
 rw [if_neg (by omega)]
theorem fence_far {ag : Int} {i : Nat} {top : Int} {kl : Lit} {st : McD} (h : FenceOk ag i top kl st) (hi : i < 40) : Win.farW (st.get kl).f ((i : Int) + 1) = false := by
 have := h.f0
 unfold Win.farW
 rw [Bool.and_eq_false_iff]
 right
 exact decide_eq_false (by omega)
/-- What one that is counted leaves. -/
noncomputable def fenceS (ag : Int) (i : Nat) (s : ByteArray) (p n : Int) (kl : Lit) (st : McD) : McD := ({ (stE st (fenceE ag i s p n)) with DS := addL st.DS [⟨s, n⟩] } : McD).set kl ((st.get kl).add ((i : Int) + 1))
theorem fence_no {ag : Int} (hag : 0 ≤ ag ∧ ag < 8) {i : Nat} {top : Int} {kl : Lit} {st : McD} (h : FenceOk ag i top kl st) {s : ByteArray} (hs : NameOk s) {p n : Int} (hp : 1 ≤ p) (hn : 1 ≤ n) (hlt : p < top) : applyM st kl (fenceE ag i s p n) = (4, 0, st) := by
 have hns : ¬ ((st.get kl).seen (fenceE ag i s p n).seq = true) := by rw [show (fenceE ag i s p n).seq = (i : Int) + 1 from rfl, h.new _ (by omega)]; simp
 have hep : numAt .i64 st.DE (ekey (fenceE ag i s p n).ag) = top := h.ep
 unfold applyM
 rw [if_pos (fence_right hag i hs hp hn), if_neg (by show ¬ ((1 : Int) = 2); decide), if_neg hns, hep, if_pos (by show p < top; exact hlt)]
theorem fence_yes {ag : Int} (hag : 0 ≤ ag ∧ ag < 8) {i : Nat} {top : Int} {kl : Lit} {st : McD} (h : FenceOk ag i top kl st) (hi : i < 40) {s : ByteArray} (hs : NameOk s) {p n : Int} (hp : 1 ≤ p) (hn : 1 ≤ n ∧ n ≤ 5) (hge : top ≤ p) : applyM st kl (fenceE ag i s p n) = (1, 0, fenceS ag i s p n kl st) := by
 have hns : ¬ ((st.get kl).seen (fenceE ag i s p n).seq = true) := by rw [show (fenceE ag i s p n).seq = (i : Int) + 1 from rfl, h.new _ (by omega)]; simp
 have hep : numAt .i64 st.DE (ekey (fenceE ag i s p n).ag) = top := h.ep
 have hfar : ¬ (Win.farW (st.get kl).f (fenceE ag i s p n).seq = true) := by rw [show (fenceE ag i s p n).seq = (i : Int) + 1 from rfl, fence_far h hi]; simp
 have hm : mayS (stE st (fenceE ag i s p n)).DS (fenceE ag i s p n).ds = 0 := may_fence h hi s ⟨by omega, hn.2⟩
 unfold applyM
 rw [if_pos (fence_right hag i hs hp hn.1), if_neg (by show ¬ ((1 : Int) = 2); decide), if_neg hns, hep, if_neg (by show ¬ (p < top); omega), if_neg hfar]
 unfold countM
 rw [if_pos hm]
 rfl
/-- One batch that is counted. -/
theorem fence_next {ag : Int} {i : Nat} {top : Int} {kl : Lit} {st : McD} (h : FenceOk ag i top kl st) (hi : i < 40) {s : ByteArray} (hs : NameOk s) {p n : Int} (hn : 1 ≤ n ∧ n ≤ 5) :
  FenceOk ag (i + 1) p kl (fenceS ag i s p n kl st) ∧ ((fenceS ag i s p n kl st).get kl).seen ((i : Int) + 1) = true := by
 have hf0 := h.f0
 have hfi := h.fi
 have hm64 := h.m64
 have hj : (i : Int) + 1 - (st.get kl).f - 1 < 64 := by omega
 have hseen := fun k => Win.addW_seen hm64 (show (st.get kl).f < (i : Int) + 1 by omega) hj k
 have hbd := Win.normW_bd 64 (st.get kl).f ((st.get kl).m ||| 2 ^ ((i : Int) + 1 - (st.get kl).f - 1).toNat) (Win.or_lt hm64 (by omega))
 have hge' : (Win.addW (st.get kl).f (st.get kl).m ((i : Int) + 1)).1 ≤ (i : Int) + 1 := by
  have hn := hseen ((i : Int) + 2)
  have h2 := h.new ((i : Int) + 2) (by omega)
  unfold ShD.seen at h2
  rw [h2] at hn
  have h3 : ((i : Int) + 2 == (i : Int) + 1) = false := by rw [beq_eq_false_iff_ne]; omega
  rw [h3] at hn
  unfold Win.seenW at hn
  rw [Bool.or_self, Bool.or_eq_false_iff, decide_eq_false_iff_not] at hn
  omega
 have hmap : Maps.IsMap (st.DS) := h.keys.tidy.isMap
 unfold fenceS
 refine ⟨⟨?_, ?_, ?_, ?_, ?_, ?_, ?_, ?_, ?_, ?_⟩, ?_⟩
 ·show numAt .i64 (st.DE.put (ekey ag) (.lit (.int .i64 p))) (ekey ag) = p
  exact numAt_same h.isE (show WideAt.IsKeyLit (ekey ag) from trivial) _
 ·rw [McD.get_set]; show (0 : Int) ≤ (Win.addW _ _ _).1; have := hbd.1; unfold Win.addW; omega
 ·rw [McD.get_set]; show (Win.addW (st.get kl).f (st.get kl).m ((i : Int) + 1)).1 ≤ ((i + 1 : Nat) : Int); omega
 ·rw [McD.get_set]; exact hbd.2.2
 ·rw [McD.get_set]; exact h.bad
 ·intro n hn
  rw [McD.get_set]
  show Win.seenW (Win.addW _ _ _).1 (Win.addW _ _ _).2 n = false
  have h2 := h.new n (by omega)
  unfold ShD.seen at h2
  rw [hseen n, h2, Bool.false_or, beq_eq_false_iff_ne]
  omega
 ·intro s'
  show numAt .u64 (st.DS.put (skey s) (.lit (.int .u64 (addZ (numAt .u64 st.DS (skey s)) n)))) (skey s') ≤ 5 * ((i + 1 : Nat) : Int)
  have h1 := h.sum s
  by_cases he : s' = s
  ·subst he
   rw [numAt_same hmap (skey_key _)]
   unfold addZ
   split <;> omega
  ·rw [numAt_other (fun e => he (skey_inj e))]
   have := h.sum s'
   omega
 ·intro k hk
  show k ∈ nameK
  by_cases he : k = skey s
  ·subst he; exact nameK_of hs
  ·exact h.names k (by rw [← hk]; exact (Maps.has_put_other he _).symm)
 ·exact h.keys.put (skey_key _) _
 ·exact h.isE.put _ _
 ·rw [McD.get_set]
  show Win.seenW (Win.addW _ _ _).1 (Win.addW _ _ _).2 _ = true
  rw [hseen, beq_self_eq_true, Bool.or_true]
/-- Nothing. -/
def mc0 : McD := ⟨.map [], .map [], fun _ => none⟩
/-- The first state. -/
theorem fence_start (ag : Int) (kl : Lit) : FenceOk ag 0 0 kl mc0 where
 ep := rfl
 f0 := by simp [McD.get, mc0]
 fi := by simp [McD.get, mc0]
 m64 := by simp [McD.get, mc0]
 bad := by simp [McD.get, mc0]
 new := fun n hn => by
  show Win.seenW 0 0 n = false
  unfold Win.seenW
  rw [decide_eq_false (by omega), Nat.zero_testBit, Bool.and_false, Bool.or_false]
 sum := fun s => by show numAt .u64 (DataW.map [] : DataW Unit) (skey s) ≤ _; rw [numAt_empty]; simp
 names := fun k hk => by simp [Maps.has, mc0] at hk
 keys := ⟨[], rfl, List.Pairwise.nil, by simp⟩
 isE := Maps.isMap_empty
end Go.Proofs.YtgdooockldgdlaaGreatDoor.Vi
end
section
namespace Go.Proofs.YtgdooockldgdlaaGreatDoor.Vi
open Go.RowKit Base Mem Tape
open Go.Maps (Keyed)
def McNewP (w : World) (e : Ending) (w' : World) : Prop := ∃ g X, e = .returned (.pointer (some ⟨g, 0, none⟩)) ∧ McAt w' g X mc0 0 ∧ (∀ x ∈ X, w.heap.size ≤ x) ∧ Below w.heap.size w w'
theorem mcnew_any (w : World) : Calls Tryz.prog 10 #[] w fun e w' => McNewP w e w' := by
 have hmm := @run_makeMap Tryz.prog
 go_enter Tryz.func10, Tryz.ntmps10
 go_wp2_with fail
 refine (smnew_any w).mono ?_
 rintro e w1 ⟨gs, bm, rfl, hsm, h1, h2, hb⟩
 have hl1 : gs < w1.heap.size := hsm.1.lt
 have hl2 : bm < w1.heap.size := hsm.2.1.lt
 have hP : Hid (McNewP w (.returned (.pointer (some ⟨w1.heap.size + 1 + 1, 0, none⟩))) (((w1.alloc (.map #[] 0)).alloc (.map #[] 0)).alloc (.cells #[.pointer (some ⟨gs, 0, none⟩), .map (some w1.heap.size), .map (some (w1.heap.size + 1))] 92))) := by
  have hk : Keeps [] w1 (((w1.alloc (.map #[] 0)).alloc (.map #[] 0)).alloc (.cells #[.pointer (some ⟨gs, 0, none⟩), .map (some w1.heap.size), .map (some (w1.heap.size + 1))] 92)) := (((Keeps.refl _ _).alloc _).alloc _).alloc _
  refine ⟨w1.heap.size + 1 + 1, [w1.heap.size + 1 + 1, gs, bm, w1.heap.size, w1.heap.size + 1], rfl, ⟨⟨gs, bm, w1.heap.size, w1.heap.size + 1, fun _ => 0, fun _ => []⟩, .map [], ?_, ?_, ?_, ?_, ?_, ?_, ?_, ?_, ?_, ?_⟩, ?_, ?_⟩
  ·have := Blk.new ((w1.alloc (.map #[] 0)).alloc (.map #[] 0)) 92 #[.pointer (some ⟨gs, 0, none⟩), .map (some w1.heap.size), .map (some (w1.heap.size + 1))]
   simpa using this
  ·exact hsm.keep hk (by simp) (by simp)
  ·exact ((World.ownsMap_made w1 _ _ _).alloc _).alloc _
  ·have := World.ownsMap_made (H := Value) (w1.alloc (.map #[] 0)) Tryz.prog 168 heldElem
   rw [World.size_alloc] at this
   exact this.alloc _
  ·simp only [McC.core, List.nodup_cons, List.mem_cons, List.not_mem_nil, or_false, List.nodup_nil, and_true, not_or, not_false_eq_true]
   have := hsm.2.2
   omega
  ·intro kl s h; cases h
  ·intro kl _; rfl
  ·intro kl kl' _ h; exact absurd rfl h
  ·intro x hx; exact hx
  ·intro kl h; exact absurd rfl h
  ·intro x hx
   have := hb.size
   simp at hx
   omega
  ·exact below_then hb (Keeps.below hk)
 clear hsm hb h1 h2
 go_wp2
 go_ret
 exact hP.out
def OfP (st : McD) (c : McC) (kl : Lit) (w : World) (e : Ending) (w' : World) : Prop :=
 ∃ p F, e = .returned (.pointer (some ⟨p, 0, none⟩)) ∧ ShAt w' p F (st.get kl) ∧ (∀ s, st.sh kl = some s → p = c.pt kl ∧ F = c.fp kl) ∧ (st.sh kl = none → ∀ x ∈ F, w.heap.size ≤ x ∧ x < w'.heap.size) ∧ Keeps [] w w'
theorem mcof_any (g : Nat) (c : McC) (X : List Nat) (st : McD) (N : Nat) (DH : DataW Value) (a k : Int) (w : World) (h : McIn w g c X st N DH) (ha : I64 a) (hk : I64 k) :
  Calls Tryz.prog 45 #[.pointer (some ⟨g, 0, none⟩), .int .i64 a, .int .i64 k] w fun e w' => OfP st c (pk a k) w e w' := by
 have c2 := h.b0.cell 2
 simp only [List.getElem?_toArray, List.getElem?_cons_succ, List.getElem?_cons_zero] at c2
 have H := Lib.hid h
 clear h
 cases hs : st.sh (pk a k) with
 | some s =>
  obtain ⟨h1, h2, h3, h4⟩ := H.out.sh _ _ hs
  have hP : Hid (OfP st c (pk a k) w (.returned (.pointer (some ⟨c.pt (pk a k), 0, none⟩))) w) := ⟨_, _, rfl, by unfold McD.get; rw [hs]; exact h3, (fun s' _ => ⟨rfl, rfl⟩), (fun h => by rw [hs] at h; cases h), Keeps.refl _ _⟩
  clear h3 h4 hs
  generalize c.pt (pk a k) = p at *
  go_enter Tryz.func45, Tryz.ntmps45
  go_wp2_with (at_lookup; refine wpl_look_held _ rfl _ _ 90 rfl 168 96 lawP uMH (zPS _) c.bs N DH rfl H.out.m3 _ _ rfl (pk_of ha hk) _ h2 ?_; rw [h1])
  go_ret
  exact hP.out
 | none =>
  have h1 := H.out.no _ hs
  have h2 := Maps.atKey_of_not_has h1 (.held (.pointer none))
  have Hs := Lib.hid hs
  clear hs
  go_enter Tryz.func45, Tryz.ntmps45
  go_wp2_with (at_lookup; refine wpl_look_held _ rfl _ _ 90 rfl 168 96 lawP uMH (zPS _) c.bs N DH rfl H.out.m3 _ _ rfl (pk_of ha hk) _ h2 ?_; rw [h1])
  refine (wnnew_any w).mono ?_
  rintro e w1 ⟨rfl, hwn, hb⟩
  have hlt : w.heap.size < w1.heap.size := hwn.1.lt
  have hP : Hid (OfP st c (pk a k) w (.returned (.pointer (some ⟨w1.heap.size, 0, none⟩))) (w1.alloc (.cells #[.pointer (some ⟨w.heap.size, 0, none⟩), .slice none 0 0] 101))) := by
   refine ⟨w1.heap.size, [w1.heap.size, w.heap.size], rfl, ?_, fun s h => (by rw [Hs.out] at h; cases h), fun _ x hx => (by rw [World.size_alloc]; simp at hx; omega), (Keeps.of_below hb).trans ((Keeps.refl [] _).alloc _) (by simp)⟩
   unfold McD.get
   rw [Hs.out]
   exact ⟨w.heap.size, .slice none 0 0, Blk.new w1 _ _, hwn.keep (M := []) ((Keeps.refl _ _).alloc _) (by simp), World.ownsRow_nil _ _ _ _, by simp, by simp, by omega, (fun g hg => by cases hg), by simp, by simp⟩
  clear hwn hb
  go_wp2
  go_ret
  exact hP.out
def CntP (g : Nat) (X F : List Nat) (r : Int × McD) (N' : Nat) (w : World) (e : Ending) (w' : World) : Prop :=
 e = .returned (.int .i64 r.1) ∧ ∃ X', McAt w' g X' r.2 N' ∧ (∀ x ∈ X', x ∈ X ∨ x ∈ F ∨ (w.heap.size ≤ x ∧ x < w'.heap.size)) ∧ Keeps (X ++ F) w w'
theorem mcepoch_any (g : Nat) (c : McC) (X : List Nat) (st : McD) (N : Nat) (DH : DataW Value) (a : Int) (w : World) (h : McIn w g c X st N DH) (ha : I64 a) :
  Calls Tryz.prog 52 #[.pointer (some ⟨g, 0, none⟩), .int .i64 a] w fun e w' => e = .returned (.int .i64 (numAt .i64 st.DE (ekey a))) ∧ w = w' := by
 have c1 := h.b0.cell 1
 simp only [List.getElem?_toArray, List.getElem?_cons_succ, List.getElem?_cons_zero] at c1
 have H := Lib.hid h
 clear h
 go_enter Tryz.func52, Tryz.ntmps52
 go_wp2_with (at_lookup; refine wpl_look_num _ rfl _ _ 89 rfl 3 2 .i64 lawI uME uI64 (zI64 _) c.be N st.DE rfl H.out.m2 _ _ rfl (ekey_of ha) ?_)
 go_ret
 exact ⟨rfl, rfl⟩
end Go.Proofs.YtgdooockldgdlaaGreatDoor.Vi
end
section
namespace Go.Proofs.YtgdooockldgdlaaGreatDoor.Vi
open Go.RowKit Base Mem Tape
def iV (x : Int) : List Value := [.int .i64 x]
theorem iV_map (l : List Int) : l.flatMap iV = l.map (Value.int .i64) := by
 induction l with
 | nil => rfl
 | cons x l ih => rw [List.flatMap_cons, ih]; rfl
def IxP (l : List Int) (n : Int) (w : World) (e : Ending) (w' : World) : Prop := (∃ j : Int, e = .returned (.int .i64 j) ∧ decide (0 ≤ j) = decide (n ∈ l)) ∧ w = w'
theorem ixI_any (v : Value) (l : List Int) (n : Int) (w : World) (h : Rd w [] 1 v l.length (l.map (Value.int .i64))) (hl : l.length ≤ 1099511627776) :
  Calls Tryz.prog 90 #[v, .int .i64 n] w fun e w' => IxP l n w e w' := by
 rw [← iV_map] at h
 have HR := Lib.hid h
 obtain ⟨A, c, rfl, hc, _⟩ := h
 go_enter Tryz.func90, Tryz.ntmps90
 go_wp2_with fail
 go_loopw [8] (fun i wr => ∃ (x : Nat), i = .int .i64 x ∧ x ≤ l.length ∧ Hid (n ∉ l.take x) ∧ wr = w) (fun i _ => l.length - (intOf i).toNat)
 case atStart => exact ⟨0, rfl, by omega, (show n ∉ l.take 0 by simp), rfl⟩
 case round =>
  obtain ⟨x, rfl, hx, Hn, rfl⟩ := hrel
  by_cases hlt : x < l.length
  ·have hx1 : (x : Int) < (l.length : Int) := by omega
   obtain ⟨g3, off, _, e1, _, hg3, _, hcell⟩ := Rd.at_ iV 1 (fun _ => rfl) HR.out hlt
   obtain rfl : A = some ⟨g3, off, none⟩ := by injection e1
   clear e1
   have p0 := hcell 0 _ rfl
   rw [Nat.add_zero, Nat.mul_one] at p0
   by_cases hq : n = l[x]
   ·have hqi : (n == l[x]) = true := beq_iff_eq.2 hq
    have hP : Hid (IxP l n wr (.returned (.int .i64 x)) wr) := ⟨⟨_, rfl, by rw [decide_eq_true (by omega), decide_eq_true (by rw [hq]; exact List.getElem_mem _)]⟩, rfl⟩
    clear hcell hq
    generalize l[x] = y at *
    go_wp2
    go_ret
    exact hP.out
   ·have hqi : (n == l[x]) = false := beq_eq_false_iff_ne.2 hq
    have Hn2 : Hid (n ∉ l.take (x + 1)) := by
     show ¬ _
     rw [List.take_succ_eq_append_getElem hlt, List.mem_append, List.mem_singleton]
     rintro (h | h)
     ·exact Hn.out h
     ·exact hq h
    clear hcell hq
    generalize l[x] = y at *
    go_wp2
    go_roundw
    case rel => exact ⟨x + 1, by go_num, by omega, Hn2, by first | rfl | trivial⟩
    case measure => simp [intOf] <;> omega
  ·obtain rfl : x = l.length := by omega
   have hP : Hid (IxP l n wr (.returned (.int .i64 (-1))) wr) := ⟨⟨_, rfl, by
    have := Hn.out
    rw [List.take_length] at this
    rw [decide_eq_false this]
    rfl⟩, rfl⟩
   go_wp2
   go_ret
   exact hP.out
theorem conI_any (v : Value) (l : List Int) (n : Int) (w : World) (h : Rd w [] 1 v l.length (l.map (Value.int .i64))) (hl : l.length ≤ 1099511627776) :
  Calls Tryz.prog 47 #[v, .int .i64 n] w fun e w' => e = .returned (.bool (decide (n ∈ l))) ∧ w = w' := by
 have HI := Lib.hid (ixI_any v l n w h hl)
 clear h
 go_enter Tryz.func47, Tryz.ntmps47
 go_wp2_with fail
 refine HI.out.mono ?_
 rintro e w1 ⟨⟨j, rfl, hj⟩, rfl⟩
 have hP : Hid (Ending.returned (.bool (decide (0 ≤ j))) = .returned (.bool (decide (n ∈ l)))) := by show _ = _; rw [hj]
 clear hj
 go_wp2
 go_ret
 exact ⟨hP.out, rfl⟩
theorem rd_own {w : World} {v : Value} {l : List Int} (h : w.ownsRow 0 2 1 v l.length (l.map (Value.int .i64))) : Rd w [] 1 v l.length (l.map (Value.int .i64)) := Rd.of_own h (by simp)
def FlP (f : Int) (w : World) (e : Ending) (w' : World) : Prop := e = .returned (.int .i64 f) ∧ Keeps [] w w'
theorem mcfloor_any (g : Nat) (c : McC) (X : List Nat) (st : McD) (N : Nat) (DH : DataW Value) (a k : Int) (w : World) (h : McIn w g c X st N DH) (ha : I64 a) (hk : I64 k) :
  Calls Tryz.prog 51 #[.pointer (some ⟨g, 0, none⟩), .int .i64 a, .int .i64 k] w fun e w' => FlP (st.get (pk a k)).f w e w' := by
 have HO := Lib.hid (mcof_any g c X st N DH a k w h ha hk)
 clear h
 go_enter Tryz.func51, Tryz.ntmps51
 go_wp2_with fail
 refine HO.out.mono ?_
 rintro e w1 ⟨p, F, rfl, hsh, _, _, hk1⟩
 have Hk1 := Lib.hid hk1
 obtain ⟨pw, v, hb, hwn, _⟩ := hsh
 have c0 := hb.cell 0
 simp only [List.getElem?_toArray, List.getElem?_cons_zero] at c0
 clear HO hb hk1
 go_wp2_with fail
 refine (wnfloor_any pw _ _ w1 hwn).mono ?_
 rintro e w2 ⟨rfl, rfl⟩
 go_wp2
 go_ret
 exact ⟨rfl, Hk1.out⟩
theorem own_low {w : World} {base base' : Nat} {e : TypeId} {size n : Nat} {v : Value} {xs : List Value} (h : w.ownsRow base e size v n xs) (hb : base' ≤ base) : w.ownsRow base' e size v n xs := by
 obtain ⟨hl, h⟩ := h
 refine ⟨hl, ?_⟩
 rcases h with h | ⟨g, cap, cur, hv, hg, rest⟩
 ·exact .inl h
 ·exact .inr ⟨g, cap, cur, hv, Nat.le_trans hb hg, rest⟩
def BdP (l : List Int) (w : World) (e : Ending) (w' : World) : Prop := ∃ v, e = .returned v ∧ w'.ownsRow w.heap.size 2 1 v l.length (l.map (Value.int .i64)) ∧ Keeps [] w w'
theorem mcbad_any (g : Nat) (c : McC) (X : List Nat) (st : McD) (N : Nat) (DH : DataW Value) (a k : Int) (w : World) (h : McIn w g c X st N DH) (ha : I64 a) (hk : I64 k) :
  Calls Tryz.prog 53 #[.pointer (some ⟨g, 0, none⟩), .int .i64 a, .int .i64 k] w fun e w' => BdP (st.get (pk a k)).bad w e w' := by
 have HO := Lib.hid (mcof_any g c X st N DH a k w h ha hk)
 clear h
 go_enter Tryz.func53, Tryz.ntmps53
 go_wp2_with fail
 refine HO.out.mono ?_
 rintro e w1 ⟨p, F, rfl, hsh, _, _, hk1⟩
 have Hk1 := Lib.hid hk1
 obtain ⟨pw, v, hb, _, hown, _, _, _, _, hl8, _⟩ := hsh
 have c1 := hb.cell 1
 simp only [List.getElem?_toArray, List.getElem?_cons_succ, List.getElem?_cons_zero] at c1
 clear HO hb hk1
 have Hown := Lib.hid hown
 clear hown
 go_wp2_with fail
 refine (cloneI64 [] v _ _ w1 (rd_own Hown.out) (by intro u hu; obtain ⟨x, _, rfl⟩ := List.mem_map.1 hu; rfl) (by omega)).mono ?_
 rintro e w2 ⟨v2, rfl, hown2, hb2⟩
 have hP : Hid (BdP (st.get (pk a k)).bad w (.returned v2) w2) := ⟨v2, rfl, own_low hown2 Hk1.out.size, Hk1.out.trans (Keeps.of_below (M := []) hb2) (by simp)⟩
 clear hown2 hb2
 go_wp2
 go_ret
 exact hP.out
def hasM (st : McD) (kl : Lit) (n : Int) : Bool := decide (0 < n) && (st.get kl).seen n && !decide (n ∈ (st.get kl).bad)
def HsP (b : Bool) (w : World) (e : Ending) (w' : World) : Prop := e = .returned (.bool b) ∧ Keeps [] w w'
set_option maxRecDepth 100000 in
theorem mchas_any (g : Nat) (c : McC) (X : List Nat) (st : McD) (N : Nat) (DH : DataW Value) (a k n : Int) (w : World) (h : McIn w g c X st N DH) (ha : I64 a) (hk : I64 k) (hn : n ≤ 9223372036854775807) :
  Calls Tryz.prog 13 #[.pointer (some ⟨g, 0, none⟩), .agg #[.int .i64 a, .int .i64 k, .int .i64 n]] w fun e w' => HsP (hasM st (pk a k) n) w e w' := by
 have hBx := Blk.new w 30 #[.int .i64 a, .int .i64 k, .int .i64 n]
 have HkA : Hid (Keeps [] w (w.alloc (.cells #[.int .i64 a, .int .i64 k, .int .i64 n] 30))) := (Keeps.refl _ _).alloc _
 have HO := Lib.hid (mcof_any g c X st N DH a k _ (h.keep HkA.out (by simp)) ha hk)
 have d0 := hBx.cell 0; have d1 := hBx.cell 1
 simp only [List.getElem?_toArray, List.getElem?_cons_succ, List.getElem?_cons_zero] at d0 d1
 have HBx := Lib.hid hBx
 clear h hBx
 go_enter Tryz.func13, Tryz.ntmps13
 go_wp2_with fail
 refine HO.out.mono ?_
 rintro e w1 ⟨p, F, rfl, hsh, _, _, hk1⟩
 have Hk1 : Hid (Keeps [] w w1) := HkA.out.trans hk1 (by simp)
 have hB1 := hk1.blk HBx.out (by simp)
 have x2 := hB1.cell 2
 obtain ⟨pw, v, hb, hwn, hown, _, _, _, _, hl8, _⟩ := hsh
 have c0 := hb.cell 0; have c1 := hb.cell 1
 simp only [List.getElem?_toArray, List.getElem?_cons_succ, List.getElem?_cons_zero] at c0 c1 x2
 clear HO hb hk1 hB1 HBx HkA d0 d1
 have HS : Hid (∀ q, Calls Tryz.prog 46 #[.pointer (some ⟨pw, 0, none⟩), .int .i64 n] (w1.drewN q) fun e w' => e = .returned (.bool ((st.get (pk a k)).seen n)) ∧ ∃ m, w' = (w1.drewN q).drewN m) := fun q =>
  wnseen_any pw _ _ n _ (hwn.keep (M := []) ((Keeps.refl _ _).drewN q) (by simp)) hn
 have HC : Hid (∀ q, Calls Tryz.prog 47 #[v, .int .i64 n] (w1.drewN q) fun e w' => e = .returned (.bool (decide (n ∈ (st.get (pk a k)).bad))) ∧ w1.drewN q = w') := fun q =>
  conI_any v _ n _ (rd_own (own_other2 (M := []) hown ((Keeps.refl _ _).drewN q) (by simp))) (by omega)
 have HR : Hid (hasM st (pk a k) n = (decide (0 < n) && (st.get (pk a k)).seen n && !decide (n ∈ (st.get (pk a k)).bad))) := rfl
 clear hwn hown hl8
 generalize (st.get (pk a k)).seen n = sn at HS HR
 generalize decide (n ∈ (st.get (pk a k)).bad) = bn at HC HR
 generalize w.heap.size = g7 at *
 go_wp2_with fail
 by_cases h0 : 0 < n
 ·have h0i : decide (0 < n) = true := decide_eq_true h0
  rw [h0i] at HR
  cases sn with
  | true =>
   cases bn with
   | true =>
    have hP : Hid (∀ q, HsP (hasM st (pk a k) n) w (.returned (.bool false)) (w1.drewN q)) := fun q => ⟨by rw [HR.out]; rfl, Hk1.out.drewN q⟩
    clear HR
    go_quiet (first | (go_at_call 46; exact quiet_add (HS.out _)) | (go_at_call 47; exact quiet_left (HC.out _)))
    go_wp2
    go_ret
    exact hP.out _
   | false =>
    have hP : Hid (∀ q, HsP (hasM st (pk a k) n) w (.returned (.bool true)) (w1.drewN q)) := fun q => ⟨by rw [HR.out]; rfl, Hk1.out.drewN q⟩
    clear HR
    go_quiet (first | (go_at_call 46; exact quiet_add (HS.out _)) | (go_at_call 47; exact quiet_left (HC.out _)))
    go_wp2
    go_ret
    exact hP.out _
  | false =>
   have hP : Hid (∀ q, HsP (hasM st (pk a k) n) w (.returned (.bool false)) (w1.drewN q)) := fun q => ⟨by rw [HR.out]; rfl, Hk1.out.drewN q⟩
   clear HR
   go_quiet (first | (go_at_call 46; exact quiet_add (HS.out _)) | (go_at_call 47; exact quiet_left (HC.out _)))
   go_wp2
   go_ret
   exact hP.out _
 ·have h0i : decide (0 < n) = false := decide_eq_false h0
  rw [h0i] at HR
  have hP : Hid (∀ q, HsP (hasM st (pk a k) n) w (.returned (.bool false)) (w1.drewN q)) := fun q => ⟨by rw [HR.out]; rfl, Hk1.out.drewN q⟩
  clear HR
  go_quiet (fail)
  go_wp2
  go_ret
  exact hP.out _
end Go.Proofs.YtgdooockldgdlaaGreatDoor.Vi
end
