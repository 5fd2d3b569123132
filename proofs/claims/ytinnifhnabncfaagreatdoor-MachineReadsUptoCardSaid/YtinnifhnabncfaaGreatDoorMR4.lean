/- Texts put together: WinA, WinB, WinC, WinD, McA, McF, McB, McC, McD, McG, McE, McH, McI. -/
import Derived.BigQuiet
import Derived.Deep.QuietTactic
import Derived.Deep.RegionHeld3
import Derived.Deep.DeepCutAuto
import Derived.Handy
import Derived.Shelf.SortM.Plain
import Derived.Sort.OwnSortedInts
import Derived.Test.YtinnifhnabncfaaGreatDoorMR1
import Derived.Test.YtinnifhnabncfaaGreatDoorMR3
set_option linter.unusedVariables false
set_option linter.unusedSimpArgs false
section
namespace Go.Proofs.YtinnifhnabncfaaGreatDoor.Vi
open Go.RowKit Base Mem Tape
/-- A window lies in block g: its floor, its mask. -/
def WnAt (w : World) (g : Nat) (f : Int) (m : Nat) : Prop := Blk w g 204 #[.int .i64 f, .int .u64 m] ∧ 0 ≤ f ∧ f ≤ 4611686018427387904 ∧ m < 18446744073709551616
theorem WnAt.keep {w w' : World} {M : List Nat} {g : Nat} {f : Int} {m : Nat} (h : WnAt w g f m) (hk : Keeps M w w') (hg : g ∉ M) : WnAt w' g f m := ⟨hk.blk h.1 hg, h.2⟩
theorem wnnew_any (w : World) :
  Calls Tryz.prog 158 #[] w fun e w' => e = .returned (.pointer (some ⟨w.heap.size, 0, none⟩)) ∧ WnAt w' w.heap.size 0 0 ∧ Below w.heap.size w w' := by
 have hR : Hid (WnAt (w.alloc (.cells #[.int .i64 0, .int .u64 0] 204)) w.heap.size 0 0) := ⟨Blk.new w _ _, by omega, by omega, by omega⟩
 go_enter Tryz.func158, Tryz.ntmps158
 go_wp2
 go_ret
 exact ⟨rfl, hR.out, below_new' w _⟩
theorem wnat_any (g : Nat) (f : Int) (m : Nat) (n : Int) (w : World) (h : WnAt w g f m) (hn : n ≤ 9223372036854775807) (hf : f < n) :
  Calls Tryz.prog 159 #[.pointer (some ⟨g, 0, none⟩), .int .i64 n] w fun e w' => e = .returned (.int .u64 (n - f - 1)) ∧ w = w' := by
 obtain ⟨hb, h0, h1, h2⟩ := h
 have c0 := hb.cell 0; have c1 := hb.cell 1
 simp only [List.getElem?_toArray, List.getElem?_cons_succ, List.getElem?_cons_zero] at c0 c1
 clear hb
 have e1 : IntKind.u64.wrap n = n := by rw [IntKind.wrap_u64]; omega
 have e2 : IntKind.u64.wrap f = f := by rw [IntKind.wrap_u64]; omega
 have e3 : IntKind.u64.wrap (n - f) = n - f := by rw [IntKind.wrap_u64]; omega
 have e4 : IntKind.u64.wrap (n - f - 1) = n - f - 1 := by rw [IntKind.wrap_u64]; omega
 go_enter Tryz.func159, Tryz.ntmps159
 go_wp2
 go_ret
 exact ⟨rfl, rfl⟩
theorem wnfar_any (g : Nat) (f : Int) (m : Nat) (n : Int) (w : World) (h : WnAt w g f m) (hn : n ≤ 9223372036854775807) :
  Calls Tryz.prog 112 #[.pointer (some ⟨g, 0, none⟩), .int .i64 n] w fun e w' => e = .returned (.bool (Win.farW f n)) ∧ w = w' := by
 have hat := Lib.hid (fun hf => wnat_any g f m n w h hn hf)
 obtain ⟨hb, h0, h1, h2⟩ := h
 have c0 := hb.cell 0; have c1 := hb.cell 1
 simp only [List.getElem?_toArray, List.getElem?_cons_succ, List.getElem?_cons_zero] at c0 c1
 clear hb
 by_cases hf : f < n
 ·have hp : Hid (∀ b, b = Win.farW f n → Ending.returned (.bool b) = .returned (.bool (Win.farW f n))) := fun b h => by rw [h]
  have hfi : decide (f < n) = true := decide_eq_true hf
  have hq : Hid (decide (64 ≤ n - f - 1) = Win.farW f n) := by show _ = _; unfold Win.farW; rw [decide_eq_true hf, Bool.true_and]
  have Hat := Lib.hid (hat.out hf)
  clear hat
  generalize Win.farW f n = r at *
  go_enter Tryz.func112, Tryz.ntmps112
  go_wp2_with fail
  refine Hat.out.mono ?_
  rintro e w1 ⟨rfl, rfl⟩
  have hq' := hq.out
  go_wp2
  go_ret
  exact ⟨rfl, rfl⟩
 ·have hfi : decide (f < n) = false := decide_eq_false hf
  have hq : Hid (Win.farW f n = false) := by show _ = _; unfold Win.farW; rw [decide_eq_false hf, Bool.false_and]
  rw [hq.out]
  clear hat
  go_enter Tryz.func112, Tryz.ntmps112
  go_wp2
  go_ret
  exact ⟨rfl, rfl⟩
set_option maxRecDepth 100000 in
theorem wnseen_any (g : Nat) (f : Int) (m : Nat) (n : Int) (w : World) (h : WnAt w g f m) (hn : n ≤ 9223372036854775807) :
  Calls Tryz.prog 110 #[.pointer (some ⟨g, 0, none⟩), .int .i64 n] w fun e w' => e = .returned (.bool (Win.seenW f m n)) ∧ ∃ q, w' = w.drewN q := by
 have HW : Hid (∀ q, WnAt (w.drewN q) g f m) := fun q => h.keep (M := []) ((Keeps.refl _ _).drewN q) (by simp)
 have HF : Hid (∀ q, Calls Tryz.prog 112 #[.pointer (some ⟨g, 0, none⟩), .int .i64 n] (w.drewN q) fun e w' => e = .returned (.bool (Win.farW f n)) ∧ w.drewN q = w') := fun q => wnfar_any g f m n _ (HW.out q) hn
 have HA : Hid (f < n → ∀ q, Calls Tryz.prog 159 #[.pointer (some ⟨g, 0, none⟩), .int .i64 n] (w.drewN q) fun e w' => e = .returned (.int .u64 (n - f - 1)) ∧ w.drewN q = w') := fun hf q => wnat_any g f m n _ (HW.out q) hn hf
 obtain ⟨hb, h0, h1, h2⟩ := h
 have c0 := hb.cell 0; have c1 := hb.cell 1
 simp only [List.getElem?_toArray, List.getElem?_cons_succ, List.getElem?_cons_zero] at c0 c1
 clear hb HW
 by_cases hf : n ≤ f
 ·have hfi : decide (n ≤ f) = true := decide_eq_true hf
  have hq : Hid (Win.seenW f m n = true) := by show _ = _; unfold Win.seenW; rw [decide_eq_true hf, Bool.true_or]
  rw [hq.out]
  clear HF HA
  go_enter Tryz.func110, Tryz.ntmps110
  go_wp2_with fail
  go_quiet (fail)
  go_wp2
  go_ret
  exact ⟨rfl, nq, rfl⟩
 ·have hfi : decide (n ≤ f) = false := decide_eq_false hf
  have HA2 := Lib.hid (HA.out (by omega))
  clear HA
  cases hfar : Win.farW f n with
  | true =>
   rw [hfar] at HF
   have hq : Hid (Win.seenW f m n = false) := by
    show _ = _
    unfold Win.farW at hfar
    unfold Win.seenW
    rw [Bool.and_eq_true, decide_eq_true_eq, decide_eq_true_eq] at hfar
    rw [hfi, Bool.false_or, decide_eq_false (by omega), Bool.false_and]
   rw [hq.out]
   clear HA2
   go_enter Tryz.func110, Tryz.ntmps110
   go_wp2_with fail
   go_quiet ((go_at_call 112; exact quiet_left (HF.out _)))
   go_wp2
   go_ret
   exact ⟨rfl, nq, rfl⟩
  | false =>
   rw [hfar] at HF
   have hj : Hid (0 ≤ n - f - 1 ∧ n - f - 1 < 64) := by
    show _ ∧ _
    unfold Win.farW at hfar
    rw [Bool.and_eq_false_iff, decide_eq_false_iff_not, decide_eq_false_iff_not] at hfar
    omega
   obtain ⟨j, Hj⟩ : ∃ j : Nat, Hid (n - f - 1 = (j : Int)) := ⟨(n - f - 1).toNat, by show _ = _; have := hj.out; omega⟩
   have hj64 : j < 64 := by have := hj.out; have := Hj.out; omega
   rw [Hj.out] at HA2
   clear hj
   go_enter Tryz.func110, Tryz.ntmps110
   go_wp2_with fail
   go_quiet (first | (go_at_call 112; exact quiet_left (HF.out _)) | (go_at_call 159; exact quiet_left (HA2.out _)))
   go_wp2
   go_ret
   have e1 : ((m : Int) / 2 ^ j) = ((m / 2 ^ j : Nat) : Int) := by rw [Int.natCast_ediv, Int.natCast_pow]; rfl
   have hlt : m / 2 ^ j < 18446744073709551616 := Nat.lt_of_le_of_lt (Nat.div_le_self _ _) h2
   have e2 : bits .and .u64 ((m : Int) / 2 ^ j) 1 = ((m / 2 ^ j % 2 : Nat) : Int) := by
    rw [e1, show (1 : Int) = ((1 : Nat) : Int) from rfl, u64_and_nat _ _ hlt (by omega), Nat.and_one_is_mod]
   have hq : Win.seenW f m n = (bits .and .u64 ((m : Int) / 2 ^ j) 1 == 1) := by
    unfold Win.seenW
    rw [hfi, Bool.false_or, Hj.out, decide_eq_true (show (j : Int) < 64 by omega), Bool.true_and, Int.toNat_natCast, e2, Nat.testBit_eq_decide_div_mod_eq, Bool.eq_iff_iff, decide_eq_true_eq, beq_iff_eq]
    omega
   rw [hq]
   exact ⟨rfl, nq, rfl⟩
theorem wnfloor_any (g : Nat) (f : Int) (m : Nat) (w : World) (h : WnAt w g f m) :
  Calls Tryz.prog 164 #[.pointer (some ⟨g, 0, none⟩)] w fun e w' => e = .returned (.int .i64 f) ∧ w = w' := by
 obtain ⟨hb, h0, h1, h2⟩ := h
 have c0 := hb.cell 0
 simp only [List.getElem?_toArray, List.getElem?_cons_succ, List.getElem?_cons_zero] at c0
 clear hb
 go_enter Tryz.func164, Tryz.ntmps164
 go_wp2
 go_ret
 exact ⟨rfl, rfl⟩
theorem bdrewW {B : Nat} {a w : World} (h : Below B a w) : Below B a w.drew := ⟨h.os, h.tape, h.output, h.size, h.block⟩
theorem wnat_cells {w : World} {g : Nat} {f : Int} {m : Nat} (h : WnAt w g f m) : w.cell? ⟨g, 0, none⟩ = some (.int .i64 f) ∧ w.cell? ⟨g, 1, none⟩ = some (.int .u64 m) ∧ w.frozen? ⟨g, 0, none⟩ = false ∧ w.frozen? ⟨g, 1, none⟩ = false :=
 ⟨h.1.cell 0, h.1.cell 1, h.1.frozen 0, h.1.frozen 1⟩
theorem normW_even_stop {k : Nat} {f : Int} {m : Nat} (h : m % 2 = 0) : Win.normW k f m = (f, m) := by
 cases k with
 | zero => rfl
 | succ k => rw [Win.normW, if_neg (by omega)]
def wnLeft (g : Nat) (w : World) : Nat := match w.cell? ⟨g, 1, none⟩ with | some (.int _ c) => c.toNat | _ => 0
theorem wnLeft_of {w : World} {g : Nat} {f : Int} {m : Nat} (h : WnAt w g f m) : wnLeft g w = m := by
 unfold wnLeft
 rw [(wnat_cells h).2.1]
 exact Int.toNat_natCast _
def WdPost (g : Nat) (r : Int × Nat) (w : World) (e : Ending) (w' : World) : Prop := e = .returned (.bool true) ∧ WnAt w' g r.1 r.2 ∧ Keeps [g] w w'
set_option maxRecDepth 100000 in
set_option maxHeartbeats 2000000 in
theorem wnadd_any (g : Nat) (f : Int) (m : Nat) (n : Int) (w : World) (h : WnAt w g f m) (hn : n ≤ 9223372036854775807) (hs : Win.seenW f m n = false) (hfar : Win.farW f n = false) (hf : f ≤ 4611686018427387000) :
  Calls Tryz.prog 163 #[.pointer (some ⟨g, 0, none⟩), .int .i64 n] w fun e w' => WdPost g (Win.addW f m n) w e w' := by
 have hlt : f < n := by
  unfold Win.seenW at hs
  rw [Bool.or_eq_false_iff, decide_eq_false_iff_not] at hs
  omega
 have hj64 : n - f - 1 < 64 := by
  unfold Win.farW at hfar
  rw [Bool.and_eq_false_iff, decide_eq_false_iff_not, decide_eq_false_iff_not] at hfar
  omega
 obtain ⟨j, Hj⟩ : ∃ j : Nat, Hid (n - f - 1 = (j : Int)) := ⟨(n - f - 1).toNat, by show _ = _; omega⟩
 have hj : j < 64 := by have := Hj.out; omega
 have HF := Lib.hid (wnfar_any g f m n w h hn)
 have HS := Lib.hid (wnseen_any g f m n w h hn)
 rw [hfar] at HF
 rw [hs] at HS
 obtain ⟨hb, h0, h1, h2⟩ := id h
 have HA0 : Hid (Win.addW f m n = Win.normW 64 f (m ||| 2 ^ j)) := by show _ = _; unfold Win.addW; rw [Hj.out, Int.toNat_natCast]
 have HW := Lib.hid h
 clear h hs hfar hb hj64
 go_enter Tryz.func163, Tryz.ntmps163
 go_wp2_with fail
 refine HF.out.mono ?_
 rintro e w1 ⟨rfl, rfl⟩
 clear HF
 go_wp2_with fail
 refine HS.out.mono ?_
 rintro e w1 ⟨rfl, nq, rfl⟩
 clear HS
 have HW1 : Hid (WnAt (w.drewN nq) g f m) := HW.out.keep (M := []) ((Keeps.refl _ _).drewN nq) (by simp)
 have Hk1 : Hid (Keeps [] w (w.drewN nq)) := (Keeps.refl _ _).drewN nq
 go_upto_region 3 with (fail)
 generalize w.drewN nq = wa at *
 have HSB : Hid (∀ W, Below wa.heap.size wa W → WnAt W g f m) := fun W hb => HW1.out.keep (M := []) (Keeps.of_below hb) (by simp)
 have HAT : Hid (∀ W, Below wa.heap.size wa W → Calls Tryz.prog 159 #[.pointer (some ⟨g, 0, none⟩), .int .i64 n] W fun e w' => e = .returned (.int .u64 j) ∧ W = w') := fun W hb => by
  have := wnat_any g f m n W (HSB.out W hb) hn hlt
  rw [Hj.out] at this
  exact this
 obtain ⟨m2, Hm2⟩ : ∃ m2 : Nat, Hid (m2 = m ||| 2 ^ j) := ⟨_, rfl⟩
 have hm2 : m2 < 18446744073709551616 := by rw [Hm2.out]; exact Win.or_lt h2 hj
 have hwj : IntKind.u64.wrap (2 ^ j) = (2 : Int) ^ j := by
  have hp64 : (2 : Nat) ^ j < 2 ^ 64 := Nat.pow_lt_pow_right (by omega) hj
  rw [show (2 : Int) ^ j = ((2 ^ j : Nat) : Int) by rw [Int.natCast_pow]; rfl, IntKind.wrap_u64]
  generalize (2 : Nat) ^ j = p at *
  omega
 have hor : bits .or .u64 (m : Int) (2 ^ j) = (m2 : Int) := by
  have hp64 : (2 : Nat) ^ j < 2 ^ 64 := Nat.pow_lt_pow_right (by omega) hj
  rw [show (2 : Int) ^ j = ((2 ^ j : Nat) : Int) by rw [Int.natCast_pow]; rfl, Hm2.out]
  exact u64_or_nat m (2 ^ j) h2 hp64
 obtain ⟨w0, w1, x0, x1⟩ := wnat_cells HW1.out
 go_cut [] (fun wx => Hid (WnAt wx g f m2) ∧ Hid (Keeps [g] w wx))
 case first =>
  go_region_with (go_at_call 159; refine (HAT.out _ (bdrewW (Below.refl _ wa))).mono ?_; rintro e w7 ⟨rfl, rfl⟩)
  all_goals
   have hF : Hid (WnAt ((wa.setCell ⟨g, 1, none⟩ (.int .u64 m2)).drew) g f m2) := by
    have hb := HW1.out.1.set_ 1 (.int .u64 m2)
    refine ⟨?_, h0, h1, hm2⟩
    show Blk (wa.setCell ⟨g, 1, none⟩ (.int .u64 m2)) g _ _
    simpa using hb
   have hK : Hid (Keeps [g] w ((wa.setCell ⟨g, 1, none⟩ (.int .u64 m2)).drew)) := ((Hk1.out.mono (M' := [g]) (by simp)).setCell (by simp) _).drew
   go_wp2_with fail
   go_meet
   exact ⟨hF, hK⟩
 case rest =>
  clear w0 w1 x0 x1 hor hwj HSB HAT HW1 Hk1
  rw [← Hm2.out] at HA0
  go_wp2_with fail
  go_loopw [] (fun wr => ∃ (k : Nat) (f' : Int) (m' : Nat), m' < 2 ^ k ∧ f' + k ≤ f + 64 ∧ Hid (WnAt wr g f' m') ∧ Hid (Win.addW f m n = Win.normW k f' m') ∧ Hid (Keeps [g] w wr)) (fun wr => wnLeft g wr)
  case atStart => exact ⟨64, f, m2, hm2, by omega, hcut.1, HA0, hcut.2⟩
  case round =>
   obtain ⟨k, f', m', hmk, hfk, HWr, HAr, HKr⟩ := hrel
   obtain ⟨_, hf0, hf1, hm64⟩ := HWr.out
   obtain ⟨c0, c1, z0, z1⟩ := wnat_cells HWr.out
   have hand : bits .and .u64 (m' : Int) 1 = ((m' % 2 : Nat) : Int) := by
    rw [show (1 : Int) = ((1 : Nat) : Int) from rfl, u64_and_nat _ _ hm64 (by omega), Nat.and_one_is_mod]
   by_cases hodd : m' % 2 = 1
   ·rw [hodd] at hand
    have hand1 : bits .and .u64 (m' : Int) 1 = 1 := hand
    clear hand
    obtain ⟨k, rfl⟩ : ∃ k', k = k' + 1 := by
     rcases k with _ | k
     ·rw [Nat.pow_zero] at hmk; omega
     ·exact ⟨k, rfl⟩
    have hfb : f' < 4611686018427387904 := by omega
    have hWn : Hid (WnAt ((wr.setCell ⟨g, 0, none⟩ (.int .i64 (f' + 1))).setCell ⟨g, 1, none⟩ (.int .u64 ((m' / 2 : Nat) : Int))) g (f' + 1) (m' / 2)) := by
     have hb := (HWr.out.1.set_ 0 (.int .i64 (f' + 1))).set_ 1 (.int .u64 ((m' / 2 : Nat) : Int))
     refine ⟨?_, by omega, by omega, by omega⟩
     simpa using hb
    have hKn : Hid (Keeps [g] w ((wr.setCell ⟨g, 0, none⟩ (.int .i64 (f' + 1))).setCell ⟨g, 1, none⟩ (.int .u64 ((m' / 2 : Nat) : Int)))) := (HKr.out.setCell (by simp) _).setCell (by simp) _
    have hAn : Hid (Win.addW f m n = Win.normW k (f' + 1) (m' / 2)) := by
     show _ = _
     rw [HAr.out, Win.normW, if_pos hodd]
    have hl1 := wnLeft_of HWr.out
    have hl2 := wnLeft_of hWn.out
    go_wp2_with fail
    go_roundw
    case rel => exact ⟨k, f' + 1, m' / 2, by rw [Nat.pow_succ] at hmk; omega, by omega, hWn, hAn, hKn⟩
    case measure => rw [hl1]; exact Nat.lt_of_le_of_lt (Nat.le_of_eq hl2) (by omega)
   ·have heven : m' % 2 = 0 := by omega
    rw [heven] at hand
    have hand0 : bits .and .u64 (m' : Int) 1 = 0 := hand
    clear hand
    have hP : Hid (WdPost g (Win.addW f m n) w (.returned (.bool true)) wr) := by
     refine ⟨rfl, ?_, HKr.out⟩
     rw [HAr.out, normW_even_stop heven]
     exact HWr.out
    go_wp2
    go_ret
    exact hP.out
end Go.Proofs.YtinnifhnabncfaaGreatDoor.Vi
end
section
namespace Go.Proofs.YtinnifhnabncfaaGreatDoor.Vi
open Go.RowKit Base Mem Tape
open Go.Maps (Keyed)
theorem uMH : Tryz.prog.underlying 152 = some (.map 201 157) := by kernel_rfl
theorem zPS (w : World) : (zeroValue 157).run Tryz.prog w = .ok (.pointer none) w := by kernel_rfl
theorem laidOutP : laidOutB Tryz.prog = true := by kernel_rfl
theorem rowP : (201 : TypeId) < Tryz.prog.types.size := of_decide_eq_true (by kernel_rfl)
theorem wideP : (match Tryz.prog.underlying 201 with | some (.array _ _) | some (.struct _) => true | _ => false) = true := by kernel_rfl
set_option maxRecDepth 100000 in
theorem lawP : Keyed Tryz.prog 201 := Keyed.of_law (deep_law_laid laidOutP (m := 3) (by omega) rowP (by kernel_rfl) wideP)
/-- A shard's key. -/
noncomputable def pk (a s : Int) : Lit := (keyOf Tryz.prog 201 (.agg #[.int .i64 a, .int .i64 s])).getD (.bool false)
theorem ekey_of {a : Int} (h : I64 a) : keyOf Tryz.prog 3 (.int .i64 a) = some (ekey a) := Maps.keyOf_int_mk uInt (WalkArith.wf_i64 h)
theorem posP : 0 < Tryz.prog.types.size := of_decide_eq_true (by kernel_rfl)
theorem pk_of {a s : Int} (ha : I64 a) (hs : I64 s) : keyOf Tryz.prog 201 (.agg #[.int .i64 a, .int .i64 s]) = some (pk a s) := by
 have hwa := WalkArith.wf_i64 ha
 have hws := WalkArith.wf_i64 hs
 have hu := Tryz.underlying201
 have hui := uInt
 have hk : Tryz.prog.keyType 201 = true := by kernel_rfl
 have hc : Tryz.prog.cellsOf 201 = 2 := by kernel_rfl
 have hci : Tryz.prog.cellsOf 3 = 1 := by kernel_rfl
 have hf : (Value.agg #[.int .i64 a, .int .i64 s]).formed Tryz.prog 201 = true := by simp [Value.formed, hu, hc]
 obtain ⟨m, hm⟩ := Nat.exists_eq_succ_of_ne_zero (Nat.ne_of_gt posP)
 have hl : Tryz.prog.keyLits (Tryz.prog.types.size + 1) 201 [.int .i64 a, .int .i64 s] = some [.int .i64 a, .int .i64 s] := by
  rw [hm]
  unfold Program.keyLits
  rw [hu]
  simp [hc, hci, Program.keyLits, hui, hwa, hws]
 unfold pk
 have hall : ∃ l, keyOf Tryz.prog 201 (.agg #[.int .i64 a, .int .i64 s]) = some l := by
  unfold keyOf
  rw [hu]
  simp only [hk, hf, Bool.and_self, if_true]
  exact ⟨_, by rw [show (Value.agg #[.int .i64 a, .int .i64 s]).cells.toList = [.int .i64 a, .int .i64 s] from rfl, hl]; rfl⟩
 obtain ⟨l, hl2⟩ := hall
 rw [hl2]
 rfl
/-- A shard lies in block p; F are its blocks. -/
def ShAt (w : World) (p : Nat) (F : List Nat) (s : ShD) : Prop :=
 ∃ pw v, Blk w p 161 #[.pointer (some ⟨pw, 0, none⟩), v] ∧ WnAt w pw s.f s.m ∧ w.ownsRow 0 2 1 v s.bad.length (s.bad.map (Value.int .i64)) ∧ p ∈ F ∧ pw ∈ F ∧ p ≠ pw ∧
  (∀ g, v.ownBlock = some g → g ∈ F ∧ g ≠ p ∧ g ≠ pw) ∧ s.bad.length ≤ 8 ∧ ∀ n ∈ s.bad, I64 n
theorem own_other2 {M : List Nat} {w w1 : World} {base : Nat} {e : TypeId} {size n : Nat} {v : Value} {xs : List Value} (h : w.ownsRow base e size v n xs) (hk : Keeps M w w1) (hM : ∀ g, v.ownBlock = some g → g ∉ M) : w1.ownsRow base e size v n xs := by
 obtain ⟨hl, h⟩ := h
 refine ⟨hl, ?_⟩
 rcases h with h | ⟨g, cap, cur, hv, hb, hg, rest⟩
 ·exact .inl h
 ·exact .inr ⟨g, cap, cur, hv, hb, (hk.block g (Array.getElem?_eq_some_iff.1 hg).1 (hM g (by rw [hv]; rfl))).trans hg, rest⟩
theorem ShAt.keep {w w' : World} {p : Nat} {F M : List Nat} {s : ShD} (h : ShAt w p F s) (hk : Keeps M w w') (hM : ∀ g ∈ F, g ∉ M) : ShAt w' p F s := by
 obtain ⟨pw, v, h1, h2, h3, h4, h5, h6, h7, h8⟩ := h
 exact ⟨pw, v, hk.blk h1 (hM p h4), h2.keep hk (hM pw h5), own_other2 h3 hk (fun g hg => hM g (h7 g hg).1), h4, h5, h6, h7, h8⟩
structure McC where
 gs : Nat
 bm : Nat
 be : Nat
 bs : Nat
 pt : Lit → Nat
 fp : Lit → List Nat
def McC.core (c : McC) (g : Nat) : List Nat := [g, c.gs, c.bm, c.be, c.bs]
structure McIn (w : World) (g : Nat) (c : McC) (X : List Nat) (st : McD) (N : Nat) (DH : DataW Value) : Prop where
 b0 : Blk w g 154 #[.pointer (some ⟨c.gs, 0, none⟩), .map (some c.be), .map (some c.bs)]
 sm : SmAt w c.gs c.bm N st.DS
 m2 : w.ownsMap Tryz.prog 3 (plainElem Tryz.prog 2) c.be N st.DE
 m3 : w.ownsMap Tryz.prog 201 heldElem c.bs N DH
 nd : (c.core g).Nodup
 sh : ∀ kl s, st.sh kl = some s → Maps.has DH kl = true ∧ DH.atKey kl (.held (.pointer none)) = .held (.pointer (some ⟨c.pt kl, 0, none⟩)) ∧ ShAt w (c.pt kl) (c.fp kl) s ∧ ∀ x ∈ c.fp kl, x ∉ c.core g
 no : ∀ kl, st.sh kl = none → Maps.has DH kl = false
 dj : ∀ kl kl', kl ≠ kl' → st.sh kl ≠ none → st.sh kl' ≠ none → ∀ x ∈ c.fp kl, x ∉ c.fp kl'
 inX : ∀ x ∈ c.core g, x ∈ X
 fpX : ∀ kl, st.sh kl ≠ none → ∀ x ∈ c.fp kl, x ∈ X
/-- A machine lies in block g; X are its blocks. -/
def McAt (w : World) (g : Nat) (X : List Nat) (st : McD) (N : Nat) : Prop := ∃ c DH, McIn w g c X st N DH
theorem McIn.keep {w w' : World} {g : Nat} {c : McC} {X M : List Nat} {st : McD} {N : Nat} {DH : DataW Value} (h : McIn w g c X st N DH) (hk : Keeps M w w') (hM : ∀ x ∈ X, x ∉ M) : McIn w' g c X st N DH where
 b0 := hk.blk h.b0 (hM _ (h.inX _ (by simp [McC.core])))
 sm := h.sm.keep hk (hM _ (h.inX _ (by simp [McC.core]))) (hM _ (h.inX _ (by simp [McC.core])))
 m2 := om_keep h.m2 hk (hM _ (h.inX _ (by simp [McC.core])))
 m3 := om_keep h.m3 hk (hM _ (h.inX _ (by simp [McC.core])))
 nd := h.nd
 sh := fun kl s hs => by
  obtain ⟨h1, h2, h3, h4⟩ := h.sh kl s hs
  exact ⟨h1, h2, h3.keep hk (fun x hx => hM x (h.fpX kl (by rw [hs]; simp) x hx)), h4⟩
 no := h.no
 dj := h.dj
 inX := h.inX
 fpX := h.fpX
theorem McAt.keep {w w' : World} {g : Nat} {X M : List Nat} {st : McD} {N : Nat} (h : McAt w g X st N) (hk : Keeps M w w') (hM : ∀ x ∈ X, x ∉ M) : McAt w' g X st N := by
 obtain ⟨c, DH, h⟩ := h
 exact ⟨c, DH, h.keep hk hM⟩
theorem McIn.more {w : World} {g : Nat} {c : McC} {X : List Nat} {st : McD} {N N' : Nat} {DH : DataW Value} (h : McIn w g c X st N DH) (hN : N ≤ N') : McIn w g c X st N' DH :=
 ⟨h.b0, ⟨h.sm.1, h.sm.2.1.mono hN, h.sm.2.2⟩, h.m2.mono hN, h.m3.mono hN, h.nd, h.sh, h.no, h.dj, h.inX, h.fpX⟩
theorem ShAt.lt {w : World} {p : Nat} {F : List Nat} {s : ShD} (h : ShAt w p F s) : p < w.heap.size := by
 obtain ⟨pw, v, h1, _⟩ := h
 exact h1.lt
end Go.Proofs.YtinnifhnabncfaaGreatDoor.Vi
end
section
namespace Go.Proofs.YtinnifhnabncfaaGreatDoor.Vi
open Go.RowKit Base Mem Tape
open Classical in
theorem nodup_le {α : Type} : ∀ (l m : List α), l.Nodup → (∀ x ∈ l, x ∈ m) → l.length ≤ m.length
 | [], _, _, _ => by simp
 | a :: l, m, hn, hs => by
  obtain ⟨h1, h2⟩ := List.nodup_cons.1 hn
  have ha : a ∈ m := hs a (by simp)
  have := nodup_le l (m.erase a) h2 (fun x hx => (List.mem_erase_of_ne (fun e => h1 (by rw [← e]; exact hx))).2 (hs x (by simp [hx])))
  rw [List.length_erase_of_mem ha] at this
  have : 0 < m.length := List.length_pos_of_mem ha
  simp only [List.length_cons]
  omega
def nameK : List Lit := nameL.map Lit.string
theorem nameK_of {s : ByteArray} (h : NameOk s) : skey s ∈ nameK := by
 obtain ⟨l, hl, rfl⟩ := h
 exact List.mem_map.2 ⟨l, hl, by simp [skey]⟩
/-- All keys are names that there are. -/
def NamesIn (D : DataW Unit) : Prop := ∀ kl, Maps.has D kl = true → kl ∈ nameK
theorem size_names {D : DataW Unit} (ht : Maps.Tidy D) (hk : ∀ es, D = .map es → ∀ p ∈ es, WideAt.IsKeyLit p.1) (hn : NamesIn D) : Maps.size D ≤ 8 := by
 obtain ⟨es, rfl, hp⟩ := ht
 have h1 : (es.map (·.1)).Nodup := by
  unfold List.Nodup
  rw [List.pairwise_map]
  exact hp
 have := nodup_le (es.map (·.1)) nameK h1 (fun x hx => by
  obtain ⟨p, hp1, rfl⟩ := List.mem_map.1 hx
  exact hn _ (List.any_eq_true.2 ⟨p, hp1, WideAt.sameKey_self (hk es rfl p hp1)⟩))
 simpa [Maps.size, nameK, nameL] using this
/-- All keys are keys. -/
def KeysIn (D : DataW Unit) : Prop := ∃ es, D = .map es ∧ es.Pairwise (fun p q => p.1 ≠ q.1) ∧ ∀ p ∈ es, WideAt.IsKeyLit p.1
theorem KeysIn.tidy {D : DataW Unit} (h : KeysIn D) : Maps.Tidy D := by obtain ⟨es, h1, h2, _⟩ := h; exact ⟨es, h1, h2⟩
theorem KeysIn.size {D : DataW Unit} (h : KeysIn D) (hn : NamesIn D) : Maps.size D ≤ 8 := size_names h.tidy (by obtain ⟨es, rfl, _, h3⟩ := h; intro es' he; injection he with he; subst he; exact h3) hn
theorem KeysIn.put {D : DataW Unit} (h : KeysIn D) {kl : Lit} (hk : WideAt.IsKeyLit kl) (d : DataW Unit) : KeysIn (D.put kl d) := by
 obtain ⟨es, rfl, h2, h3⟩ := h
 obtain ⟨es', he, hp⟩ := (Maps.Tidy.put ⟨es, rfl, h2⟩ hk d : Maps.Tidy ((DataW.map es).put kl d))
 refine ⟨es', he, hp, fun p hp1 => ?_⟩
 have e1 : es' = DataW.insert (kl, d) (es.filter fun p => !p.1.sameKey kl) := by injection he.symm
 rw [e1] at hp1
 have : p = (kl, d) ∨ p ∈ (es.filter fun p => !p.1.sameKey kl) := by
  have := (WideShapes.insert_perm (kl, d) (es.filter fun p => !p.1.sameKey kl)).mem_iff.1 hp1
  simpa using this
 rcases this with rfl | h4
 ·exact hk
 ·exact h3 p (List.mem_filter.1 h4).1
/-- What is known ahead of the i-th batch: the agent's epoch is top, no later number was seen, no sum is great. -/
structure FenceOk (ag : Int) (i : Nat) (top : Int) (kl : Lit) (st : McD) : Prop where
 ep : numAt .i64 st.DE (ekey ag) = top
 f0 : 0 ≤ (st.get kl).f
 fi : (st.get kl).f ≤ i
 m64 : (st.get kl).m < 2 ^ 64
 bad : (st.get kl).bad = []
 new : ∀ n : Int, (i : Int) < n → (st.get kl).seen n = false
 sum : ∀ s, numAt .u64 st.DS (skey s) ≤ 5 * i
 names : NamesIn st.DS
 keys : KeysIn st.DS
 isE : Maps.IsMap st.DE
theorem FenceOk.mono {ag : Int} {i : Nat} {top : Int} {kl : Lit} {st : McD} (h : FenceOk ag i top kl st) : FenceOk ag (i + 1) top kl st :=
 ⟨h.ep, h.f0, by have := h.fi; omega, h.m64, h.bad, fun n hn => h.new n (by omega), fun s => by have := h.sum s; omega, h.names, h.keys, h.isE⟩
def fenceE (ag : Int) (i : Nat) (s : ByteArray) (p n : Int) : EntryD := ⟨1, ag, 0, (i : Int) + 1, p, [⟨s, n⟩], ByteArray.empty, 0, 0⟩
theorem fence_right {ag : Int} (hag : 0 ≤ ag ∧ ag < 8) (i : Nat) {s : ByteArray} (hs : NameOk s) {p n : Int} (hp : 1 ≤ p) (hn : 1 ≤ n) : rightE (fenceE ag i s p n) = 0 := by
 have hb : badId (fenceE ag i s p n) = false := by
  unfold badId withinB fenceE
  simp; omega
 have h0 : ((fenceE ag i s p n).ds.length == 0 || (fenceE ag i s p n).ds.any fun d => d.n == 0) = false := by simp [fenceE]; omega
 have hall : ((fenceE ag i s p n).ds.all fun d => serOk d.ser) = true := by simp [fenceE, (name_ser hs).1]
 have hse : (fenceE ag i s p n).ser.toList.isEmpty = true := by show ByteArray.empty.toList.isEmpty = true; decide +kernel
 unfold rightE kindS writtenS
 rw [hb, h0, hall, hse]
 simp [fenceE, withinB]
theorem may_fence {ag : Int} {i : Nat} {top : Int} {kl : Lit} {st : McD} (h : FenceOk ag i top kl st) (hi : i < 40) (s : ByteArray) {n : Int} (hn : 0 ≤ n ∧ n ≤ 5) : mayS st.DS [⟨s, n⟩] = 0 := by
 have h1 := h.sum s
 have hl : mayL st.DS (.map []) [⟨s, n⟩] = some ((DataW.map []).put (skey s) (.lit (.int .u64 (0 + n)))) := by
  unfold mayL
  rw [numAt_empty, if_neg (by simp only []; omega)]
  rfl
 have h2 := h.keys.size h.names
 have h3 : newS st.DS ((DataW.map [] : DataW Unit).put (skey s) (.lit (.int .u64 (0 + n)))) ≤ Maps.size ((DataW.map [] : DataW Unit).put (skey s) (.lit (.int .u64 (0 + n)))) := leftN_le _ _ _
 have h4 := size_put_le (Maps.tidy_empty) (skey s) (.lit (.int .u64 (0 + n)))
 have h5 : Maps.size (DataW.map [] : DataW Unit) = 0 := rfl
 unfold mayS
 rw [hl]
 show (if 16 < Maps.size st.DS + newS st.DS ((DataW.map [] : DataW Unit).put (skey s) (.lit (.int .u64 (0 + n)))) then (24 : Int) else 0) = 0
 rw [if_neg (by omega)]
theorem may_none {ag : Int} {i : Nat} {top : Int} {kl : Lit} {st : McD} (h : FenceOk ag i top kl st) : mayS st.DS [] = 0 := by
 have h2 := h.keys.size h.names
 have h3 : newS st.DS (DataW.map [] : DataW Unit) ≤ Maps.size (DataW.map [] : DataW Unit) := leftN_le _ _ _
 have h5 : Maps.size (DataW.map [] : DataW Unit) = 0 := rfl
 show (if 16 < Maps.size st.DS + newS st.DS (DataW.map [] : DataW Unit) then (24 : Int) else 0) = 0
 rw [if_neg (by omega)]
theorem fence_far {ag : Int} {i : Nat} {top : Int} {kl : Lit} {st : McD} (h : FenceOk ag i top kl st) (hi : i < 40) : Win.farW (st.get kl).f ((i : Int) + 1) = false := by
 have := h.f0
 unfold Win.farW
 rw [Bool.and_eq_false_iff]
 right
 exact decide_eq_false (by omega)
/-- What one that is counted leaves. -/
noncomputable def fenceS (ag : Int) (i : Nat) (s : ByteArray) (p n : Int) (kl : Lit) (st : McD) : McD := ({ (stE st (fenceE ag i s p n)) with DS := addL st.DS [⟨s, n⟩] } : McD).set kl ((st.get kl).add ((i : Int) + 1))
theorem fence_no {ag : Int} (hag : 0 ≤ ag ∧ ag < 8) {i : Nat} {top : Int} {kl : Lit} {st : McD} (h : FenceOk ag i top kl st) {s : ByteArray} (hs : NameOk s) {p n : Int} (hp : 1 ≤ p) (hn : 1 ≤ n) (hlt : p < top) : applyM st kl (fenceE ag i s p n) = (4, 0, st) := by
 have hns : ¬ ((st.get kl).seen (fenceE ag i s p n).seq = true) := by rw [show (fenceE ag i s p n).seq = (i : Int) + 1 from rfl, h.new _ (by omega)]; simp
 have hep : numAt .i64 st.DE (ekey (fenceE ag i s p n).ag) = top := h.ep
 unfold applyM
 rw [if_pos (fence_right hag i hs hp hn), if_neg (by show ¬ ((1 : Int) = 2); decide), if_neg hns, hep, if_pos (by show p < top; exact hlt)]
theorem fence_yes {ag : Int} (hag : 0 ≤ ag ∧ ag < 8) {i : Nat} {top : Int} {kl : Lit} {st : McD} (h : FenceOk ag i top kl st) (hi : i < 40) {s : ByteArray} (hs : NameOk s) {p n : Int} (hp : 1 ≤ p) (hn : 1 ≤ n ∧ n ≤ 5) (hge : top ≤ p) : applyM st kl (fenceE ag i s p n) = (1, 0, fenceS ag i s p n kl st) := by
 have hns : ¬ ((st.get kl).seen (fenceE ag i s p n).seq = true) := by rw [show (fenceE ag i s p n).seq = (i : Int) + 1 from rfl, h.new _ (by omega)]; simp
 have hep : numAt .i64 st.DE (ekey (fenceE ag i s p n).ag) = top := h.ep
 have hfar : ¬ (Win.farW (st.get kl).f (fenceE ag i s p n).seq = true) := by rw [show (fenceE ag i s p n).seq = (i : Int) + 1 from rfl, fence_far h hi]; simp
 have hm : mayS (stE st (fenceE ag i s p n)).DS (fenceE ag i s p n).ds = 0 := may_fence h hi s ⟨by omega, hn.2⟩
 unfold applyM
 rw [if_pos (fence_right hag i hs hp hn.1), if_neg (by show ¬ ((1 : Int) = 2); decide), if_neg hns, hep, if_neg (by show ¬ (p < top); omega), if_neg hfar]
 unfold countM
 rw [if_pos hm]
 rfl
/-- One batch that is counted. -/
theorem fence_next {ag : Int} {i : Nat} {top : Int} {kl : Lit} {st : McD} (h : FenceOk ag i top kl st) (hi : i < 40) {s : ByteArray} (hs : NameOk s) {p n : Int} (hn : 1 ≤ n ∧ n ≤ 5) :
  FenceOk ag (i + 1) p kl (fenceS ag i s p n kl st) ∧ ((fenceS ag i s p n kl st).get kl).seen ((i : Int) + 1) = true := by
 have hf0 := h.f0
 have hfi := h.fi
 have hm64 := h.m64
 have hj : (i : Int) + 1 - (st.get kl).f - 1 < 64 := by omega
 have hseen := fun k => Win.addW_seen hm64 (show (st.get kl).f < (i : Int) + 1 by omega) hj k
 have hbd := Win.normW_bd 64 (st.get kl).f ((st.get kl).m ||| 2 ^ ((i : Int) + 1 - (st.get kl).f - 1).toNat) (Win.or_lt hm64 (by omega))
 have hge' : (Win.addW (st.get kl).f (st.get kl).m ((i : Int) + 1)).1 ≤ (i : Int) + 1 := by
  have hn := hseen ((i : Int) + 2)
  have h2 := h.new ((i : Int) + 2) (by omega)
  unfold ShD.seen at h2
  rw [h2] at hn
  have h3 : ((i : Int) + 2 == (i : Int) + 1) = false := by rw [beq_eq_false_iff_ne]; omega
  rw [h3] at hn
  unfold Win.seenW at hn
  rw [Bool.or_self, Bool.or_eq_false_iff, decide_eq_false_iff_not] at hn
  omega
 have hmap : Maps.IsMap (st.DS) := h.keys.tidy.isMap
 unfold fenceS
 refine ⟨⟨?_, ?_, ?_, ?_, ?_, ?_, ?_, ?_, ?_, ?_⟩, ?_⟩
 ·show numAt .i64 (st.DE.put (ekey ag) (.lit (.int .i64 p))) (ekey ag) = p
  exact numAt_same h.isE (show WideAt.IsKeyLit (ekey ag) from trivial) _
 ·rw [McD.get_set]; show (0 : Int) ≤ (Win.addW _ _ _).1; have := hbd.1; unfold Win.addW; omega
 ·rw [McD.get_set]; show (Win.addW (st.get kl).f (st.get kl).m ((i : Int) + 1)).1 ≤ ((i + 1 : Nat) : Int); omega
 ·rw [McD.get_set]; exact hbd.2.2
 ·rw [McD.get_set]; exact h.bad
 ·intro n hn
  rw [McD.get_set]
  show Win.seenW (Win.addW _ _ _).1 (Win.addW _ _ _).2 n = false
  have h2 := h.new n (by omega)
  unfold ShD.seen at h2
  rw [hseen n, h2, Bool.false_or, beq_eq_false_iff_ne]
  omega
 ·intro s'
  show numAt .u64 (st.DS.put (skey s) (.lit (.int .u64 (addZ (numAt .u64 st.DS (skey s)) n)))) (skey s') ≤ 5 * ((i + 1 : Nat) : Int)
  have h1 := h.sum s
  by_cases he : s' = s
  ·subst he
   rw [numAt_same hmap (skey_key _)]
   unfold addZ
   split <;> omega
  ·rw [numAt_other (fun e => he (skey_inj e))]
   have := h.sum s'
   omega
 ·intro k hk
  show k ∈ nameK
  by_cases he : k = skey s
  ·subst he; exact nameK_of hs
  ·exact h.names k (by rw [← hk]; exact (Maps.has_put_other he _).symm)
 ·exact h.keys.put (skey_key _) _
 ·exact h.isE.put _ _
 ·rw [McD.get_set]
  show Win.seenW (Win.addW _ _ _).1 (Win.addW _ _ _).2 _ = true
  rw [hseen, beq_self_eq_true, Bool.or_true]
/-- Nothing. -/
def mc0 : McD := ⟨.map [], .map [], fun _ => none⟩
/-- The first state. -/
theorem fence_start (ag : Int) (kl : Lit) : FenceOk ag 0 0 kl mc0 where
 ep := rfl
 f0 := by simp [McD.get, mc0]
 fi := by simp [McD.get, mc0]
 m64 := by simp [McD.get, mc0]
 bad := by simp [McD.get, mc0]
 new := fun n hn => by
  show Win.seenW 0 0 n = false
  unfold Win.seenW
  rw [decide_eq_false (by omega), Nat.zero_testBit, Bool.and_false, Bool.or_false]
 sum := fun s => by show numAt .u64 (DataW.map [] : DataW Unit) (skey s) ≤ _; rw [numAt_empty]; simp
 names := fun k hk => by simp [Maps.has, mc0] at hk
 keys := ⟨[], rfl, List.Pairwise.nil, by simp⟩
 isE := Maps.isMap_empty
end Go.Proofs.YtinnifhnabncfaaGreatDoor.Vi
end
section
namespace Go.Proofs.YtinnifhnabncfaaGreatDoor.Vi
open Go.RowKit Base Mem Tape
open Go.Maps (Keyed)
def McNewP (w : World) (e : Ending) (w' : World) : Prop := ∃ g X, e = .returned (.pointer (some ⟨g, 0, none⟩)) ∧ McAt w' g X mc0 0 ∧ (∀ x ∈ X, w.heap.size ≤ x) ∧ Below w.heap.size w w'
theorem mcnew_any (w : World) : Calls Tryz.prog 54 #[] w fun e w' => McNewP w e w' := by
 have hmm := @run_makeMap Tryz.prog
 go_enter Tryz.func54, Tryz.ntmps54
 go_wp2_with fail
 refine (smnew_any w).mono ?_
 rintro e w1 ⟨gs, bm, rfl, hsm, h1, h2, hb⟩
 have hl1 : gs < w1.heap.size := hsm.1.lt
 have hl2 : bm < w1.heap.size := hsm.2.1.lt
 have hP : Hid (McNewP w (.returned (.pointer (some ⟨w1.heap.size + 1 + 1, 0, none⟩))) (((w1.alloc (.map #[] 0)).alloc (.map #[] 0)).alloc (.cells #[.pointer (some ⟨gs, 0, none⟩), .map (some w1.heap.size), .map (some (w1.heap.size + 1))] 154))) := by
  have hk : Keeps [] w1 (((w1.alloc (.map #[] 0)).alloc (.map #[] 0)).alloc (.cells #[.pointer (some ⟨gs, 0, none⟩), .map (some w1.heap.size), .map (some (w1.heap.size + 1))] 154)) := (((Keeps.refl _ _).alloc _).alloc _).alloc _
  refine ⟨w1.heap.size + 1 + 1, [w1.heap.size + 1 + 1, gs, bm, w1.heap.size, w1.heap.size + 1], rfl, ⟨⟨gs, bm, w1.heap.size, w1.heap.size + 1, fun _ => 0, fun _ => []⟩, .map [], ?_, ?_, ?_, ?_, ?_, ?_, ?_, ?_, ?_, ?_⟩, ?_, ?_⟩
  ·have := Blk.new ((w1.alloc (.map #[] 0)).alloc (.map #[] 0)) 154 #[.pointer (some ⟨gs, 0, none⟩), .map (some w1.heap.size), .map (some (w1.heap.size + 1))]
   simpa using this
  ·exact hsm.keep hk (by simp) (by simp)
  ·exact ((World.ownsMap_made w1 _ _ _).alloc _).alloc _
  ·have := World.ownsMap_made (H := Value) (w1.alloc (.map #[] 0)) Tryz.prog 201 heldElem
   rw [World.size_alloc] at this
   exact this.alloc _
  ·simp only [McC.core, List.nodup_cons, List.mem_cons, List.not_mem_nil, or_false, List.nodup_nil, and_true, not_or, not_false_eq_true]
   have := hsm.2.2
   omega
  ·intro kl s h; cases h
  ·intro kl _; rfl
  ·intro kl kl' _ h; exact absurd rfl h
  ·intro x hx; exact hx
  ·intro kl h; exact absurd rfl h
  ·intro x hx
   have := hb.size
   simp at hx
   omega
  ·exact below_then hb (Keeps.below hk)
 clear hsm hb h1 h2
 go_wp2
 go_ret
 exact hP.out
def OfP (st : McD) (c : McC) (kl : Lit) (w : World) (e : Ending) (w' : World) : Prop :=
 ∃ p F, e = .returned (.pointer (some ⟨p, 0, none⟩)) ∧ ShAt w' p F (st.get kl) ∧ (∀ s, st.sh kl = some s → p = c.pt kl ∧ F = c.fp kl) ∧ (st.sh kl = none → ∀ x ∈ F, w.heap.size ≤ x ∧ x < w'.heap.size) ∧ Keeps [] w w'
theorem mcof_any (g : Nat) (c : McC) (X : List Nat) (st : McD) (N : Nat) (DH : DataW Value) (a k : Int) (w : World) (h : McIn w g c X st N DH) (ha : I64 a) (hk : I64 k) :
  Calls Tryz.prog 109 #[.pointer (some ⟨g, 0, none⟩), .int .i64 a, .int .i64 k] w fun e w' => OfP st c (pk a k) w e w' := by
 have c2 := h.b0.cell 2
 simp only [List.getElem?_toArray, List.getElem?_cons_succ, List.getElem?_cons_zero] at c2
 have H := Lib.hid h
 clear h
 cases hs : st.sh (pk a k) with
 | some s =>
  obtain ⟨h1, h2, h3, h4⟩ := H.out.sh _ _ hs
  have hP : Hid (OfP st c (pk a k) w (.returned (.pointer (some ⟨c.pt (pk a k), 0, none⟩))) w) := ⟨_, _, rfl, by unfold McD.get; rw [hs]; exact h3, (fun s' _ => ⟨rfl, rfl⟩), (fun h => by rw [hs] at h; cases h), Keeps.refl _ _⟩
  clear h3 h4 hs
  generalize c.pt (pk a k) = p at *
  go_enter Tryz.func109, Tryz.ntmps109
  go_wp2_with (at_lookup; refine wpl_look_held _ rfl _ _ 152 rfl 201 157 lawP uMH (zPS _) c.bs N DH rfl H.out.m3 _ _ rfl (pk_of ha hk) _ h2 ?_; rw [h1])
  go_ret
  exact hP.out
 | none =>
  have h1 := H.out.no _ hs
  have h2 := Maps.atKey_of_not_has h1 (.held (.pointer none))
  have Hs := Lib.hid hs
  clear hs
  go_enter Tryz.func109, Tryz.ntmps109
  go_wp2_with (at_lookup; refine wpl_look_held _ rfl _ _ 152 rfl 201 157 lawP uMH (zPS _) c.bs N DH rfl H.out.m3 _ _ rfl (pk_of ha hk) _ h2 ?_; rw [h1])
  refine (wnnew_any w).mono ?_
  rintro e w1 ⟨rfl, hwn, hb⟩
  have hlt : w.heap.size < w1.heap.size := hwn.1.lt
  have hP : Hid (OfP st c (pk a k) w (.returned (.pointer (some ⟨w1.heap.size, 0, none⟩))) (w1.alloc (.cells #[.pointer (some ⟨w.heap.size, 0, none⟩), .slice none 0 0] 161))) := by
   refine ⟨w1.heap.size, [w1.heap.size, w.heap.size], rfl, ?_, fun s h => (by rw [Hs.out] at h; cases h), fun _ x hx => (by rw [World.size_alloc]; simp at hx; omega), (Keeps.of_below hb).trans ((Keeps.refl [] _).alloc _) (by simp)⟩
   unfold McD.get
   rw [Hs.out]
   exact ⟨w.heap.size, .slice none 0 0, Blk.new w1 _ _, hwn.keep (M := []) ((Keeps.refl _ _).alloc _) (by simp), World.ownsRow_nil _ _ _ _, by simp, by simp, by omega, (fun g hg => by cases hg), by simp, by simp⟩
  clear hwn hb
  go_wp2
  go_ret
  exact hP.out
def CntP (g : Nat) (X F : List Nat) (r : Int × McD) (N' : Nat) (w : World) (e : Ending) (w' : World) : Prop :=
 e = .returned (.int .i64 r.1) ∧ ∃ X', McAt w' g X' r.2 N' ∧ (∀ x ∈ X', x ∈ X ∨ x ∈ F ∨ (w.heap.size ≤ x ∧ x < w'.heap.size)) ∧ Keeps (X ++ F) w w'
theorem mcepoch_any (g : Nat) (c : McC) (X : List Nat) (st : McD) (N : Nat) (DH : DataW Value) (a : Int) (w : World) (h : McIn w g c X st N DH) (ha : I64 a) :
  Calls Tryz.prog 57 #[.pointer (some ⟨g, 0, none⟩), .int .i64 a] w fun e w' => e = .returned (.int .i64 (numAt .i64 st.DE (ekey a))) ∧ w = w' := by
 have c1 := h.b0.cell 1
 simp only [List.getElem?_toArray, List.getElem?_cons_succ, List.getElem?_cons_zero] at c1
 have H := Lib.hid h
 clear h
 go_enter Tryz.func57, Tryz.ntmps57
 go_wp2_with (at_lookup; refine wpl_look_num _ rfl _ _ 151 rfl 3 2 .i64 lawI uME uI64 (zI64 _) c.be N st.DE rfl H.out.m2 _ _ rfl (ekey_of ha) ?_)
 go_ret
 exact ⟨rfl, rfl⟩
end Go.Proofs.YtinnifhnabncfaaGreatDoor.Vi
end
section
namespace Go.Proofs.YtinnifhnabncfaaGreatDoor.Vi
open Go.RowKit Base Mem Tape
def iV (x : Int) : List Value := [.int .i64 x]
theorem iV_map (l : List Int) : l.flatMap iV = l.map (Value.int .i64) := by
 induction l with
 | nil => rfl
 | cons x l ih => rw [List.flatMap_cons, ih]; rfl
def IxP (l : List Int) (n : Int) (w : World) (e : Ending) (w' : World) : Prop := (∃ j : Int, e = .returned (.int .i64 j) ∧ decide (0 ≤ j) = decide (n ∈ l)) ∧ w = w'
theorem ixI_any (v : Value) (l : List Int) (n : Int) (w : World) (h : Rd w [] 1 v l.length (l.map (Value.int .i64))) (hl : l.length ≤ 1099511627776) :
  Calls Tryz.prog 160 #[v, .int .i64 n] w fun e w' => IxP l n w e w' := by
 rw [← iV_map] at h
 have HR := Lib.hid h
 obtain ⟨A, c, rfl, hc, _⟩ := h
 go_enter Tryz.func160, Tryz.ntmps160
 go_wp2_with fail
 go_loopw [8] (fun i wr => ∃ (x : Nat), i = .int .i64 x ∧ x ≤ l.length ∧ Hid (n ∉ l.take x) ∧ wr = w) (fun i _ => l.length - (intOf i).toNat)
 case atStart => exact ⟨0, rfl, by omega, (show n ∉ l.take 0 by simp), rfl⟩
 case round =>
  obtain ⟨x, rfl, hx, Hn, rfl⟩ := hrel
  by_cases hlt : x < l.length
  ·have hx1 : (x : Int) < (l.length : Int) := by omega
   obtain ⟨g3, off, _, e1, _, hg3, _, hcell⟩ := Rd.at_ iV 1 (fun _ => rfl) HR.out hlt
   obtain rfl : A = some ⟨g3, off, none⟩ := by injection e1
   clear e1
   have p0 := hcell 0 _ rfl
   rw [Nat.add_zero, Nat.mul_one] at p0
   by_cases hq : n = l[x]
   ·have hqi : (n == l[x]) = true := beq_iff_eq.2 hq
    have hP : Hid (IxP l n wr (.returned (.int .i64 x)) wr) := ⟨⟨_, rfl, by rw [decide_eq_true (by omega), decide_eq_true (by rw [hq]; exact List.getElem_mem _)]⟩, rfl⟩
    clear hcell hq
    generalize l[x] = y at *
    go_wp2
    go_ret
    exact hP.out
   ·have hqi : (n == l[x]) = false := beq_eq_false_iff_ne.2 hq
    have Hn2 : Hid (n ∉ l.take (x + 1)) := by
     show ¬ _
     rw [List.take_succ_eq_append_getElem hlt, List.mem_append, List.mem_singleton]
     rintro (h | h)
     ·exact Hn.out h
     ·exact hq h
    clear hcell hq
    generalize l[x] = y at *
    go_wp2
    go_roundw
    case rel => exact ⟨x + 1, by go_num, by omega, Hn2, by first | rfl | trivial⟩
    case measure => simp [intOf] <;> omega
  ·obtain rfl : x = l.length := by omega
   have hP : Hid (IxP l n wr (.returned (.int .i64 (-1))) wr) := ⟨⟨_, rfl, by
    have := Hn.out
    rw [List.take_length] at this
    rw [decide_eq_false this]
    rfl⟩, rfl⟩
   go_wp2
   go_ret
   exact hP.out
theorem conI_any (v : Value) (l : List Int) (n : Int) (w : World) (h : Rd w [] 1 v l.length (l.map (Value.int .i64))) (hl : l.length ≤ 1099511627776) :
  Calls Tryz.prog 111 #[v, .int .i64 n] w fun e w' => e = .returned (.bool (decide (n ∈ l))) ∧ w = w' := by
 have HI := Lib.hid (ixI_any v l n w h hl)
 clear h
 go_enter Tryz.func111, Tryz.ntmps111
 go_wp2_with fail
 refine HI.out.mono ?_
 rintro e w1 ⟨⟨j, rfl, hj⟩, rfl⟩
 have hP : Hid (Ending.returned (.bool (decide (0 ≤ j))) = .returned (.bool (decide (n ∈ l)))) := by show _ = _; rw [hj]
 clear hj
 go_wp2
 go_ret
 exact ⟨hP.out, rfl⟩
theorem rd_own {w : World} {v : Value} {l : List Int} (h : w.ownsRow 0 2 1 v l.length (l.map (Value.int .i64))) : Rd w [] 1 v l.length (l.map (Value.int .i64)) := Rd.of_own h (by simp)
def FlP (f : Int) (w : World) (e : Ending) (w' : World) : Prop := e = .returned (.int .i64 f) ∧ Keeps [] w w'
theorem mcfloor_any (g : Nat) (c : McC) (X : List Nat) (st : McD) (N : Nat) (DH : DataW Value) (a k : Int) (w : World) (h : McIn w g c X st N DH) (ha : I64 a) (hk : I64 k) :
  Calls Tryz.prog 114 #[.pointer (some ⟨g, 0, none⟩), .int .i64 a, .int .i64 k] w fun e w' => FlP (st.get (pk a k)).f w e w' := by
 have HO := Lib.hid (mcof_any g c X st N DH a k w h ha hk)
 clear h
 go_enter Tryz.func114, Tryz.ntmps114
 go_wp2_with fail
 refine HO.out.mono ?_
 rintro e w1 ⟨p, F, rfl, hsh, _, _, hk1⟩
 have Hk1 := Lib.hid hk1
 obtain ⟨pw, v, hb, hwn, _⟩ := hsh
 have c0 := hb.cell 0
 simp only [List.getElem?_toArray, List.getElem?_cons_zero] at c0
 clear HO hb hk1
 go_wp2_with fail
 refine (wnfloor_any pw _ _ w1 hwn).mono ?_
 rintro e w2 ⟨rfl, rfl⟩
 go_wp2
 go_ret
 exact ⟨rfl, Hk1.out⟩
theorem own_low {w : World} {base base' : Nat} {e : TypeId} {size n : Nat} {v : Value} {xs : List Value} (h : w.ownsRow base e size v n xs) (hb : base' ≤ base) : w.ownsRow base' e size v n xs := by
 obtain ⟨hl, h⟩ := h
 refine ⟨hl, ?_⟩
 rcases h with h | ⟨g, cap, cur, hv, hg, rest⟩
 ·exact .inl h
 ·exact .inr ⟨g, cap, cur, hv, Nat.le_trans hb hg, rest⟩
def BdP (l : List Int) (w : World) (e : Ending) (w' : World) : Prop := ∃ v, e = .returned v ∧ w'.ownsRow w.heap.size 2 1 v l.length (l.map (Value.int .i64)) ∧ Keeps [] w w'
theorem mcbad_any (g : Nat) (c : McC) (X : List Nat) (st : McD) (N : Nat) (DH : DataW Value) (a k : Int) (w : World) (h : McIn w g c X st N DH) (ha : I64 a) (hk : I64 k) :
  Calls Tryz.prog 115 #[.pointer (some ⟨g, 0, none⟩), .int .i64 a, .int .i64 k] w fun e w' => BdP (st.get (pk a k)).bad w e w' := by
 have HO := Lib.hid (mcof_any g c X st N DH a k w h ha hk)
 clear h
 go_enter Tryz.func115, Tryz.ntmps115
 go_wp2_with fail
 refine HO.out.mono ?_
 rintro e w1 ⟨p, F, rfl, hsh, _, _, hk1⟩
 have Hk1 := Lib.hid hk1
 obtain ⟨pw, v, hb, _, hown, _, _, _, _, hl8, _⟩ := hsh
 have c1 := hb.cell 1
 simp only [List.getElem?_toArray, List.getElem?_cons_succ, List.getElem?_cons_zero] at c1
 clear HO hb hk1
 have Hown := Lib.hid hown
 clear hown
 go_wp2_with fail
 refine (cloneI64 [] v _ _ w1 (rd_own Hown.out) (by intro u hu; obtain ⟨x, _, rfl⟩ := List.mem_map.1 hu; rfl) (by omega)).mono ?_
 rintro e w2 ⟨v2, rfl, hown2, hb2⟩
 have hP : Hid (BdP (st.get (pk a k)).bad w (.returned v2) w2) := ⟨v2, rfl, own_low hown2 Hk1.out.size, Hk1.out.trans (Keeps.of_below (M := []) hb2) (by simp)⟩
 clear hown2 hb2
 go_wp2
 go_ret
 exact hP.out
def hasM (st : McD) (kl : Lit) (n : Int) : Bool := decide (0 < n) && (st.get kl).seen n && !decide (n ∈ (st.get kl).bad)
def HsP (b : Bool) (w : World) (e : Ending) (w' : World) : Prop := e = .returned (.bool b) ∧ Keeps [] w w'
set_option maxRecDepth 100000 in
theorem mchas_any (g : Nat) (c : McC) (X : List Nat) (st : McD) (N : Nat) (DH : DataW Value) (a k n : Int) (w : World) (h : McIn w g c X st N DH) (ha : I64 a) (hk : I64 k) (hn : n ≤ 9223372036854775807) :
  Calls Tryz.prog 58 #[.pointer (some ⟨g, 0, none⟩), .agg #[.int .i64 a, .int .i64 k, .int .i64 n]] w fun e w' => HsP (hasM st (pk a k) n) w e w' := by
 have hBx := Blk.new w 23 #[.int .i64 a, .int .i64 k, .int .i64 n]
 have HkA : Hid (Keeps [] w (w.alloc (.cells #[.int .i64 a, .int .i64 k, .int .i64 n] 23))) := (Keeps.refl _ _).alloc _
 have HO := Lib.hid (mcof_any g c X st N DH a k _ (h.keep HkA.out (by simp)) ha hk)
 have d0 := hBx.cell 0; have d1 := hBx.cell 1
 simp only [List.getElem?_toArray, List.getElem?_cons_succ, List.getElem?_cons_zero] at d0 d1
 have HBx := Lib.hid hBx
 clear h hBx
 go_enter Tryz.func58, Tryz.ntmps58
 go_wp2_with fail
 refine HO.out.mono ?_
 rintro e w1 ⟨p, F, rfl, hsh, _, _, hk1⟩
 have Hk1 : Hid (Keeps [] w w1) := HkA.out.trans hk1 (by simp)
 have hB1 := hk1.blk HBx.out (by simp)
 have x2 := hB1.cell 2
 obtain ⟨pw, v, hb, hwn, hown, _, _, _, _, hl8, _⟩ := hsh
 have c0 := hb.cell 0; have c1 := hb.cell 1
 simp only [List.getElem?_toArray, List.getElem?_cons_succ, List.getElem?_cons_zero] at c0 c1 x2
 clear HO hb hk1 hB1 HBx HkA d0 d1
 have HS : Hid (∀ q, Calls Tryz.prog 110 #[.pointer (some ⟨pw, 0, none⟩), .int .i64 n] (w1.drewN q) fun e w' => e = .returned (.bool ((st.get (pk a k)).seen n)) ∧ ∃ m, w' = (w1.drewN q).drewN m) := fun q =>
  wnseen_any pw _ _ n _ (hwn.keep (M := []) ((Keeps.refl _ _).drewN q) (by simp)) hn
 have HC : Hid (∀ q, Calls Tryz.prog 111 #[v, .int .i64 n] (w1.drewN q) fun e w' => e = .returned (.bool (decide (n ∈ (st.get (pk a k)).bad))) ∧ w1.drewN q = w') := fun q =>
  conI_any v _ n _ (rd_own (own_other2 (M := []) hown ((Keeps.refl _ _).drewN q) (by simp))) (by omega)
 have HR : Hid (hasM st (pk a k) n = (decide (0 < n) && (st.get (pk a k)).seen n && !decide (n ∈ (st.get (pk a k)).bad))) := rfl
 clear hwn hown hl8
 generalize (st.get (pk a k)).seen n = sn at HS HR
 generalize decide (n ∈ (st.get (pk a k)).bad) = bn at HC HR
 generalize w.heap.size = g7 at *
 go_wp2_with fail
 by_cases h0 : 0 < n
 ·have h0i : decide (0 < n) = true := decide_eq_true h0
  rw [h0i] at HR
  cases sn with
  | true =>
   cases bn with
   | true =>
    have hP : Hid (∀ q, HsP (hasM st (pk a k) n) w (.returned (.bool false)) (w1.drewN q)) := fun q => ⟨by rw [HR.out]; rfl, Hk1.out.drewN q⟩
    clear HR
    go_quiet (first | (go_at_call 110; exact quiet_add (HS.out _)) | (go_at_call 111; exact quiet_left (HC.out _)))
    go_wp2
    go_ret
    exact hP.out _
   | false =>
    have hP : Hid (∀ q, HsP (hasM st (pk a k) n) w (.returned (.bool true)) (w1.drewN q)) := fun q => ⟨by rw [HR.out]; rfl, Hk1.out.drewN q⟩
    clear HR
    go_quiet (first | (go_at_call 110; exact quiet_add (HS.out _)) | (go_at_call 111; exact quiet_left (HC.out _)))
    go_wp2
    go_ret
    exact hP.out _
  | false =>
   have hP : Hid (∀ q, HsP (hasM st (pk a k) n) w (.returned (.bool false)) (w1.drewN q)) := fun q => ⟨by rw [HR.out]; rfl, Hk1.out.drewN q⟩
   clear HR
   go_quiet (first | (go_at_call 110; exact quiet_add (HS.out _)) | (go_at_call 111; exact quiet_left (HC.out _)))
   go_wp2
   go_ret
   exact hP.out _
 ·have h0i : decide (0 < n) = false := decide_eq_false h0
  rw [h0i] at HR
  have hP : Hid (∀ q, HsP (hasM st (pk a k) n) w (.returned (.bool false)) (w1.drewN q)) := fun q => ⟨by rw [HR.out]; rfl, Hk1.out.drewN q⟩
  clear HR
  go_quiet (fail)
  go_wp2
  go_ret
  exact hP.out _
theorem mc_ep {w w' : World} {g : Nat} {c : McC} {X : List Nat} {st : McD} {N N' : Nat} {DH : DataW Value} {DE' : DataW Unit} (h : McIn w g c X st N DH) (hk : Keeps [c.be] w w')
  (hown : w'.ownsMap Tryz.prog 3 (plainElem Tryz.prog 2) c.be N' DE') (hN : N ≤ N') : McIn w' g c X { st with DE := DE' } N' DH := by
 have hnd := h.nd
 simp only [McC.core, List.nodup_cons, List.mem_cons, List.not_mem_nil, or_false, List.nodup_nil, and_true, not_or, not_false_eq_true] at hnd
 refine ⟨hk.blk h.b0 (by simp; omega), ⟨(h.sm.keep hk (by simp; omega) (by simp; omega)).1, (h.sm.keep hk (by simp; omega) (by simp; omega)).2.1.mono hN, h.sm.2.2⟩, hown, (om_keep h.m3 hk (by simp; omega)).mono hN, h.nd, fun kl s hs => ?_, h.no, h.dj, h.inX, h.fpX⟩
 obtain ⟨h1, h2, h3, h4⟩ := h.sh kl s hs
 exact ⟨h1, h2, h3.keep hk (fun x hx hm => h4 x hx (by simp at hm; subst hm; simp [McC.core])), h4⟩
def ApP (g : Nat) (X : List Nat) (r : Int × Int × McD) (N' : Nat) (w : World) (e : Ending) (w' : World) : Prop :=
 e = .returned (.tuple #[.int .i64 r.1, .int .u64 r.2.1]) ∧ ∃ X', McAt w' g X' r.2.2 N' ∧ (∀ x ∈ X', x ∈ X ∨ (w.heap.size ≤ x ∧ x < w'.heap.size)) ∧ Keeps X w w'
/-- count's contract at an entry. -/
def CountOk (g : Nat) (c : McC) (X : List Nat) (st : McD) (N : Nat) (DH : DataW Value) (e : EntryD) (dv : Value) : Prop :=
 rightE e = 0 → e.kind ≠ 2 → (st.get (pk e.ag e.sh)).seen e.seq = false → Win.farW (st.get (pk e.ag e.sh)).f e.seq = false → ∀ (W : World) (p : Nat) (F : List Nat), McIn W g c X (stE st e) (N + 1) DH → ShAt W p F ((stE st e).get (pk e.ag e.sh)) →
  (∀ s, (stE st e).sh (pk e.ag e.sh) = some s → p = c.pt (pk e.ag e.sh) ∧ F = c.fp (pk e.ag e.sh)) → ((stE st e).sh (pk e.ag e.sh) = none → ∀ x ∈ F, x ∉ X) → (∀ x ∈ X, x < W.heap.size) → (∀ x ∈ F, x < W.heap.size) → Ds W X dv e.ds →
  Calls Tryz.prog 113 #[.pointer (some ⟨g, 0, none⟩), .pointer (some ⟨p, 0, none⟩), .agg (eCell (e, dv)).toArray] W fun r w' => CntP g X F (countM (stE st e) (pk e.ag e.sh) e) (N + 1 + e.ds.length + 1) W r w'
set_option maxRecDepth 100000 in
set_option maxHeartbeats 8000000 in
theorem mcapply_any (g : Nat) (c : McC) (X : List Nat) (st : McD) (N : Nat) (DH : DataW Value) (e : EntryD) (dv : Value) (mx : Int) (w : World) (h : McIn w g c X st N DH) (hcount : CountOk g c X st N DH e dv) (ha : I64 e.ag) (hs : I64 e.sh) (hq : I64 e.seq) (hp : I64 e.ep)
  (hd : Ds w X dv e.ds) (hsh : Short e) (hN : N ≤ 549755813888) (hX : ∀ x ∈ X, x < w.heap.size) (hm : w.cell? ⟨0, 0, none⟩ = some (.int .i64 mx)) :
  Calls Tryz.prog 56 #[.pointer (some ⟨g, 0, none⟩), .agg (eCell (e, dv)).toArray] w fun r w' => ApP g X (applyM st (pk e.ag e.sh) e) (N + e.ds.length + 2) w r w' := by
 have hw0 : 0 < w.heap.size := by
  have := World.block_lt_of_cell? w _ hm
  simpa using this
 have Hm : Hid (∀ W, Keeps [] w W → W.cell? ⟨0, 0, none⟩ = some (.int .i64 mx)) := fun W hk => (hk.cell (p := ⟨0, 0, none⟩) hw0 (by simp)).trans hm
 have HH := Lib.hid h; have HCount := Lib.hid hcount; have Hsh := Lib.hid hsh; have HD := Lib.hid hd
 have hglt : g < w.heap.size := h.b0.lt
 have hbel : c.be < w.heap.size := h.m2.lt
 have hbeX : c.be ∈ X := h.inX _ (by simp [McC.core])
 have HXlt : Hid (c.be < w.heap.size) := hbel
 have hnd := h.nd
 simp only [McC.core, List.nodup_cons, List.mem_cons, List.not_mem_nil, or_false, List.nodup_nil, and_true, not_or, not_false_eq_true] at hnd
 obtain ⟨⟨n1, n2, n3, n4⟩, ⟨n5, n6, n7⟩, ⟨n8, n9⟩, n10⟩ := hnd
 have HAM : Hid (applyM st (pk e.ag e.sh) e = if rightE e = 0 then
  if e.kind = 2 then (8, numAt .u64 st.DS (skey e.ser), st)
  else if (st.get (pk e.ag e.sh)).seen e.seq = true then (if e.seq ∈ (st.get (pk e.ag e.sh)).bad then 3 else 2, 0, st)
  else if e.ep < numAt .i64 st.DE (ekey e.ag) then (4, 0, st)
  else if Win.farW (st.get (pk e.ag e.sh)).f e.seq = true then (5, 0, stE st e)
  else ((countM (stE st e) (pk e.ag e.sh) e).1, 0, (countM (stE st e) (pk e.ag e.sh) e).2)
 else (0, 0, st)) := rfl
 have HQ : Hid (∀ W code n, Keeps [] w W → applyM st (pk e.ag e.sh) e = (code, n, st) → ApP g X (applyM st (pk e.ag e.sh) e) (N + e.ds.length + 2) w (.returned (.tuple #[.int .i64 code, .int .u64 n])) W) := fun W code n hk he => by
  rw [he]
  exact ⟨rfl, X, ⟨c, DH, (h.keep hk (by simp)).more (by omega)⟩, fun x hx => .inl hx, hk.mono (M := []) (by simp)⟩
 have HRt : Hid (∀ W, Keeps [] w W → Calls Tryz.prog 66 #[.agg (eCell (e, dv)).toArray] W fun r w' => NumPost (rightE e) W r w') := fun W hk => eright_any e dv mx W ((hd.keep (M' := []) hk (by simp)).avoid (by simp)) hsh (Hm.out W hk)
 have HOf : Hid (∀ W, Keeps [] w W → Calls Tryz.prog 109 #[.pointer (some ⟨g, 0, none⟩), .int .i64 e.ag, .int .i64 e.sh] W fun r w' => OfP st c (pk e.ag e.sh) W r w') := fun W hk => mcof_any g c X st N DH _ _ W (h.keep hk (by simp)) ha hs
 have hser : e.ser.size ≤ 9223372036854775807 := by have := hsh.1; omega
 have HGet : Hid (∀ W, Keeps [] w W → Calls Tryz.prog 108 #[.pointer (some ⟨c.gs, 0, none⟩), .string e.ser] W fun r w' => r = .returned (.int .u64 (numAt .u64 st.DS (skey e.ser))) ∧ W = w') := fun W hk => smget_any _ _ _ _ _ W ((h.keep hk (by simp)).sm) hser
 have HM2 := Lib.hid h.m2; have HB0 := Lib.hid h.b0
 have Hep := Lib.hid (ekey_of ha)
 clear h hcount hsh hd hm
 obtain ⟨kind, ag, sh, seq, ep, ds, ser, fr, tag⟩ := e
 simp only [] at *
 obtain ⟨A, cc, rfl, hcc⟩ := HD.out.len
 have hBx := Blk.new w 26 #[.int .i64 kind, .int .i64 ag, .int .i64 sh, .int .i64 seq, .int .i64 ep, .slice A ds.length cc, .string ser, .int .i64 fr, .int .i64 tag]
 have HkA : Hid (Keeps [] w (w.alloc (.cells #[.int .i64 kind, .int .i64 ag, .int .i64 sh, .int .i64 seq, .int .i64 ep, .slice A ds.length cc, .string ser, .int .i64 fr, .int .i64 tag] 26))) := (Keeps.refl _ _).alloc _
 have HBx := Lib.hid hBx
 clear hBx
 generalize hkl : pk ag sh = kl at *
 show Calls Tryz.prog 56 #[.pointer (some ⟨g, 0, none⟩), .agg #[.int .i64 kind, .int .i64 ag, .int .i64 sh, .int .i64 seq, .int .i64 ep, .slice A ds.length cc, .string ser, .int .i64 fr, .int .i64 tag]] w _
 go_enter Tryz.func56, Tryz.ntmps56
 go_upto_region 1 with (fail)
 generalize w.alloc (.cells #[.int .i64 kind, .int .i64 ag, .int .i64 sh, .int .i64 seq, .int .i64 ep, .slice A ds.length cc, .string ser, .int .i64 fr, .int .i64 tag] 26) = wa at *
 obtain ⟨g7, Hg7⟩ : ∃ g7, Hid (g7 = w.heap.size) := ⟨_, rfl⟩
 rw [← Hg7.out] at HBx ⊢
 have q1 : g7 ≠ g ∧ g7 ≠ c.be := by have := Hg7.out; omega
 obtain ⟨q1, q2⟩ := q1
 have HE : Hid (∀ W, Keeps [c.be] wa W → W.cell? ⟨g7, 0, none⟩ = some (.int .i64 kind) ∧ W.cell? ⟨g7, 1, none⟩ = some (.int .i64 ag) ∧ W.cell? ⟨g7, 2, none⟩ = some (.int .i64 sh) ∧ W.cell? ⟨g7, 3, none⟩ = some (.int .i64 seq) ∧ W.cell? ⟨g7, 4, none⟩ = some (.int .i64 ep) ∧ W.cell? ⟨g7, 5, none⟩ = some (.slice A ds.length cc) ∧ W.cell? ⟨g7, 6, none⟩ = some (.string ser) ∧ W.cell? ⟨g7, 7, none⟩ = some (.int .i64 fr) ∧ W.cell? ⟨g7, 8, none⟩ = some (.int .i64 tag)) := fun W hk => by
  have h2 := hk.blk HBx.out (by simp; omega)
  exact ⟨h2.cell 0, h2.cell 1, h2.cell 2, h2.cell 3, h2.cell 4, h2.cell 5, h2.cell 6, h2.cell 7, h2.cell 8⟩
 have HMc : Hid (∀ W, Keeps [c.be] wa W → W.cell? ⟨g, 0, none⟩ = some (.pointer (some ⟨c.gs, 0, none⟩)) ∧ W.cell? ⟨g, 1, none⟩ = some (.map (some c.be))) := fun W hk => by
  have h2 := hk.blk (HkA.out.blk HB0.out (by simp)) (by simp; omega)
  exact ⟨h2.cell 0, h2.cell 1⟩
 obtain ⟨c0, c1, c2, c3, c4, c5, c6, c7, c8⟩ := HE.out wa (Keeps.refl _ _)
 go_wp2_with fail
 refine (HRt.out wa HkA.out).mono ?_
 rintro r w1 ⟨rfl, hb1⟩
 have Hk1 : Hid (Keeps [] w w1) := HkA.out.trans (Keeps.of_below (M := []) hb1) (by simp)
 have Hka1 : Hid (Keeps [c.be] wa w1) := (Keeps.of_below (M := []) hb1).mono (by simp)
 clear hb1 c0 c1 c2 c3 c4 c5 c6 c7 c8 HRt
 obtain ⟨c0, c1, c2, c3, c4, c5, c6, c7, c8⟩ := HE.out w1 Hka1.out
 obtain ⟨m0, m1⟩ := HMc.out w1 Hka1.out
 by_cases hr : rightE ⟨kind, ag, sh, seq, ep, ds, ser, fr, tag⟩ = 0
 ·have hri : decide (((rightE ⟨kind, ag, sh, seq, ep, ds, ser, fr, tag⟩ : Nat) : Int) = 0) = true := decide_eq_true (by omega)
  rw [if_pos hr] at HAM
  rw [hr]
  by_cases hk2 : kind = 2
  ·rw [if_pos hk2] at HAM
   subst hk2
   have hP : Hid (∀ q, ApP g X (applyM st kl ⟨2, ag, sh, seq, ep, ds, ser, fr, tag⟩) (N + ds.length + 2) w (.returned (.tuple #[.int .i64 8, .int .u64 (numAt .u64 st.DS (skey ser))])) (w1.drewN q)) := fun q => HQ.out _ _ _ (Hk1.out.drewN q) HAM.out
   have HG1 : Hid (∀ q, Calls Tryz.prog 108 #[.pointer (some ⟨c.gs, 0, none⟩), .string ser] (w1.drewN q) fun r w' => r = .returned (.int .u64 (numAt .u64 st.DS (skey ser))) ∧ w1.drewN q = w') := fun q => HGet.out _ (Hk1.out.drewN q)
   clear HAM hri
   go_upto_region 4 with (fail)
   go_quiet ((go_at_call 108; exact quiet_left (HG1.out _)))
   go_wp2
   go_ret2
   exact hP.out _
  ·rw [if_neg hk2] at HAM
   have hki : (kind == 2) = false := beq_eq_false_iff_ne.2 hk2
   clear HGet hri
   go_upto_region 5 with (fail)
   go_wp2_with fail
   refine (HOf.out w1 Hk1.out).mono ?_
   rintro r w2 ⟨p, F, rfl, hsh2, hsome, hnone, hkk2⟩
   have Hk2 : Hid (Keeps [] w w2) := Hk1.out.trans hkk2 (by simp)
   have Hka2 : Hid (Keeps [c.be] wa w2) := Hka1.out.trans hkk2 (by simp)
   have HSh2 := Lib.hid hsh2; have Hsome := Lib.hid hsome; have Hnone := Lib.hid hnone
   have HFb : Hid (∀ x ∈ F, x ≠ c.be) := by
    intro x hx
    cases hs' : st.sh kl with
    | some s =>
     obtain ⟨_, rfl⟩ := hsome s hs'
     exact fun e => (HH.out.sh _ s hs').2.2.2 x hx (by rw [e]; simp [McC.core])
    | none =>
     have h1 := (hnone hs' x hx).1
     have h2 := Hk1.out.size
     omega
   have HFX : Hid (st.sh kl = none → ∀ x ∈ F, x ∉ X) := fun hs' x hx hX' => by
    have h1 := (hnone hs' x hx).1
    have h2 := Hk1.out.size
    have h3 := hX x hX'
    omega
   have HFN : Hid (∀ x ∈ F, x ∈ X ∨ (w.heap.size ≤ x ∧ x < w2.heap.size)) := by
    intro x hx
    cases hs' : st.sh kl with
    | some s =>
     obtain ⟨_, rfl⟩ := hsome s hs'
     exact .inl (HH.out.fpX _ (by rw [hs']; simp) x hx)
    | none =>
     have h1 := hnone hs' x hx
     have h2 := Hk1.out.size
     exact .inr (by omega)
   obtain ⟨pw, v, hbp, hwn, hown, hpF, hwF, hpw, hvF, hl8, hbd⟩ := hsh2
   have hpb := HFb.out p hpF
   have hwb := HFb.out pw hwF
   have HPc : Hid (∀ W, Keeps [c.be] w2 W → W.cell? ⟨p, 0, none⟩ = some (.pointer (some ⟨pw, 0, none⟩)) ∧ W.cell? ⟨p, 1, none⟩ = some v) := fun W hk => by
    have h2 := hk.blk hbp (by simp; omega)
    exact ⟨h2.cell 0, h2.cell 1⟩
   have HSeen : Hid (∀ W, Keeps [c.be] w2 W → ∀ q, Calls Tryz.prog 110 #[.pointer (some ⟨pw, 0, none⟩), .int .i64 seq] (W.drewN q) fun e w' => e = .returned (.bool ((st.get kl).seen seq)) ∧ ∃ m, w' = (W.drewN q).drewN m) := fun W hk q =>
    wnseen_any pw _ _ seq _ (hwn.keep (hk.drewN q) (by simp; omega)) hq.2
   have HFar : Hid (∀ W, Keeps [c.be] w2 W → ∀ q, Calls Tryz.prog 112 #[.pointer (some ⟨pw, 0, none⟩), .int .i64 seq] (W.drewN q) fun e w' => e = .returned (.bool (Win.farW (st.get kl).f seq)) ∧ W.drewN q = w') := fun W hk q =>
    wnfar_any pw _ _ seq _ (hwn.keep (hk.drewN q) (by simp; omega)) hq.2
   have HCon : Hid (∀ W, Keeps [c.be] w2 W → ∀ q, Calls Tryz.prog 111 #[v, .int .i64 seq] (W.drewN q) fun e w' => e = .returned (.bool (decide (seq ∈ (st.get kl).bad))) ∧ W.drewN q = w') := fun W hk q =>
    conI_any v _ seq _ (rd_own (own_other2 hown (hk.drewN q) (fun g' hg' => by have := HFb.out g' (hvF g' hg').1; simp; omega))) (by omega)
   clear hbp hwn hown hvF hbd hsome hnone hkk2 HOf c0 c1 c2 c3 c4 c5 c6 c7 c8 m0 m1 hl8
   obtain ⟨c0, c1, c2, c3, c4, c5, c6, c7, c8⟩ := HE.out w2 Hka2.out
   obtain ⟨m0, m1⟩ := HMc.out w2 Hka2.out
   obtain ⟨p0, p1⟩ := HPc.out w2 (Keeps.refl _ _)
   have HS2 := Lib.hid (HSeen.out w2 (Keeps.refl _ _)); have HC2 := Lib.hid (HCon.out w2 (Keeps.refl _ _))
   clear HCon
   go_upto_region 6 with (fail)
   cases hsn : (st.get kl).seen seq with
   | true =>
    rw [hsn, if_pos rfl] at HAM
    rw [hsn] at HS2 HSeen
    by_cases hbn : seq ∈ (st.get kl).bad
    ·rw [if_pos hbn] at HAM
     rw [decide_eq_true hbn] at HC2
     have hP : Hid (∀ q, ApP g X (applyM st kl ⟨kind, ag, sh, seq, ep, ds, ser, fr, tag⟩) (N + ds.length + 2) w (.returned (.tuple #[.int .i64 3, .int .u64 0])) (w2.drewN q)) := fun q => HQ.out _ _ _ (Hk2.out.drewN q) HAM.out
     clear HAM HSeen HFar
     go_quiet (first | (go_at_call 110; exact quiet_add (HS2.out _)) | (go_at_call 111; exact quiet_left (HC2.out _)))
     go_wp2
     go_ret2
     exact hP.out _
    ·rw [if_neg hbn] at HAM
     rw [decide_eq_false hbn] at HC2
     have hP : Hid (∀ q q', ApP g X (applyM st kl ⟨kind, ag, sh, seq, ep, ds, ser, fr, tag⟩) (N + ds.length + 2) w (.returned (.tuple #[.int .i64 2, .int .u64 0])) ((w2.drewN q).drewN q')) := fun q q' => HQ.out _ _ _ ((Hk2.out.drewN q).drewN q') HAM.out
     clear HAM HFar
     go_quiet (first | (go_at_call 110; exact quiet_add (HS2.out _)) | (go_at_call 111; exact quiet_left (HC2.out _)))
     have hP' := Lib.hid (hP.out nq)
     have hk3 : Hid (Keeps [c.be] w2 (w2.drewN nq)) := (Keeps.refl _ _).drewN nq
     have HS3 := Lib.hid (HSeen.out _ hk3.out)
     go_upto_region 8 with (fail)
     generalize w2.drewN nq = w3 at *
     obtain ⟨c0, c1, c2, c3, c4, c5, c6, c7, c8⟩ := HE.out w3 (Hka2.out.trans hk3.out (by simp))
     obtain ⟨p0, p1⟩ := HPc.out w3 hk3.out
     clear HSeen HS2 HC2 hP
     go_quiet ((go_at_call 110; exact quiet_add (HS3.out _)))
     go_wp2
     go_ret2
     exact hP'.out _
   | false =>
    rw [hsn, if_neg (by simp)] at HAM
    rw [hsn] at HS2 HSeen
    go_quiet (first | (go_at_call 110; exact quiet_add (HS2.out _)) | (go_at_call 111; exact quiet_left (HC2.out _)))
    have hk3 : Hid (Keeps [c.be] w2 (w2.drewN nq)) := (Keeps.refl _ _).drewN nq
    have Hk3 : Hid (Keeps [] w (w2.drewN nq)) := Hk2.out.drewN nq
    have HS3 := Lib.hid (HSeen.out _ hk3.out)
    go_upto_region 8 with (fail)
    clear c0 c1 c2 c3 c4 c5 c6 c7 c8 m0 m1 p0 p1
    generalize w2.drewN nq = w3 at *
    obtain ⟨c0, c1, c2, c3, c4, c5, c6, c7, c8⟩ := HE.out w3 (Hka2.out.trans hk3.out (by simp))
    obtain ⟨p0, p1⟩ := HPc.out w3 hk3.out
    clear HSeen HS2 HC2
    go_quiet ((go_at_call 110; exact quiet_add (HS3.out _)))
    have hk4 : Hid (Keeps [c.be] w2 (w3.drewN nq)) := hk3.out.drewN nq
    have Hk4 : Hid (Keeps [] w (w3.drewN nq)) := Hk3.out.drewN nq
    go_upto_region 10 with (fail)
    clear c0 c1 c2 c3 c4 c5 c6 c7 c8 p0 p1 HS3
    generalize w3.drewN nq = w4 at *
    clear hk3 Hk3
    obtain ⟨c0, c1, c2, c3, c4, c5, c6, c7, c8⟩ := HE.out w4 (Hka2.out.trans hk4.out (by simp))
    obtain ⟨m0, m1⟩ := HMc.out w4 (Hka2.out.trans hk4.out (by simp))
    have HM4 : Hid (∀ q, (w4.drewN q).ownsMap Tryz.prog 3 (plainElem Tryz.prog 2) c.be N st.DE) := fun q => om_keep HM2.out (Hk4.out.drewN q) (by simp)
    have hlook : ∀ q, (Instr.lookup 151 (.map (some c.be)) (.int .i64 ag) false).run Tryz.prog (w4.drewN q) = .ok (.int .i64 (numAt .i64 st.DE (ekey ag))) (w4.drewN q) := fun q => (om_num (HM4.out q) lawI uME uI64 (zI64 _) Hep.out).1
    have HIE : Hid (∀ W, Keeps [c.be] w W → W.ownsMap Tryz.prog 3 (plainElem Tryz.prog 2) c.be (N + 1) (st.DE.put (ekey ag) (.lit (.int .i64 ep))) → McIn W g c X (stE st ⟨kind, ag, sh, seq, ep, ds, ser, fr, tag⟩) (N + 1) DH) := fun W h1 h2 => mc_ep HH.out h1 h2 (by omega)
    by_cases hep : ep < numAt .i64 st.DE (ekey ag)
    ·rw [if_pos hep] at HAM
     have hepi : decide (ep < numAt .i64 st.DE (ekey ag)) = true := decide_eq_true hep
     have hP : Hid (∀ q, ApP g X (applyM st kl ⟨kind, ag, sh, seq, ep, ds, ser, fr, tag⟩) (N + ds.length + 2) w (.returned (.tuple #[.int .i64 4, .int .u64 0])) (w4.drewN q)) := fun q => HQ.out _ _ _ (Hk4.out.drewN q) HAM.out
     clear HAM HFar HIE HM4
     generalize numAt .i64 st.DE (ekey ag) = top at *
     go_quiet (fail)
     go_wp2
     go_ret2
     exact hP.out _
    ·rw [if_neg hep] at HAM
     have hepi : decide (ep < numAt .i64 st.DE (ekey ag)) = false := decide_eq_false hep
     generalize htop : numAt .i64 st.DE (ekey ag) = top at *
     clear htop hep
     go_quiet (fail)
     have hk5 : Hid (Keeps [c.be] w2 (w4.drewN nq)) := hk4.out.drewN nq
     have Hk5 : Hid (Keeps [] w (w4.drewN nq)) := Hk4.out.drewN nq
     have HM5 := Lib.hid (HM4.out nq)
     go_upto_region 12 with (fail)
     clear c0 c1 c2 c3 c4 c5 c6 c7 c8 m0 m1 hlook HM4
     generalize w4.drewN nq = w5 at *
     clear hk4 Hk4
     have HS5 : Hid (∀ W, Keeps [c.be] w5 W → W.cell? ⟨g, 1, none⟩ = some (.map (some c.be)) ∧ W.cell? ⟨g7, 1, none⟩ = some (.int .i64 ag) ∧ W.cell? ⟨g7, 4, none⟩ = some (.int .i64 ep)) := fun W hk => by
      have hka := (Hka2.out.trans hk5.out (by simp)).trans hk (by simp)
      obtain ⟨c0, c1, c2, c3, c4, c5, c6, c7, c8⟩ := HE.out W hka
      exact ⟨(HMc.out W hka).2, c1, c4⟩
     obtain ⟨w6, hupd, hown6, hturn⟩ := (om_keep HM5.out ((Keeps.refl [] w5).drew) (by simp)).store lawI uME (by unfold maxLen; omega) Hep.out (plainElem_int uI64 (WalkArith.wf_i64 hp) : plainElem (H := Unit) Tryz.prog 2 (.int .i64 ep) = _)
     have hk6 := turned_keeps hturn
     have Hk56 : Hid (Keeps [c.be] w5 w6) := (Keeps.refl [c.be] w5).drew.trans hk6 (by simp)
     have HIE6 : Hid (∀ W, Keeps [] w6 W → McIn W g c X (stE st ⟨kind, ag, sh, seq, ep, ds, ser, fr, tag⟩) (N + 1) DH) := fun W hk => HIE.out W (((Hk5.out.mono (M' := [c.be]) (by simp)).trans Hk56.out (by simp)).trans hk (by simp)) (om_keep hown6 hk (by simp))
     clear hown6 hturn hk6 HIE HM5
     refine wp_region_held_drew (S := (fun W => W.cell? ⟨g, 1, none⟩ = some (.map (some c.be)) ∧ W.cell? ⟨g7, 1, none⟩ = some (.int .i64 ag) ∧ W.cell? ⟨g7, 4, none⟩ = some (.int .i64 ep))) (by kernel_rfl) (HS5.out _ (Keeps.refl _ _).drew) (fun hHeld => ?_)
     refine wpAnyH_take (i := 0) (oi := _) (v := ?v0d) rfl (by kernel_rfl) (by kernel_rfl) (by kernel_rfl) (fun _ _ _ h => h) (Or.inl ⟨by rfl, ?y0d⟩) (by assumption) ?r0d
     case y0d => (intro w hSw; (obtain ⟨hS0, hS1, hS2⟩ := hSw); go_simp <;> with_reducible rfl)
     try simp only [List.getElem_toArray, List.getElem_cons_succ, List.getElem_cons_zero, Act.put, List.setIfInBounds_toArray, List.set_cons_zero, List.set_cons_succ]
     refine wpAnyH_take (i := 1) (oi := _) (v := ?v1d) rfl (by kernel_rfl) (by kernel_rfl) (by kernel_rfl) (fun _ _ _ h => h) (Or.inl ⟨by rfl, ?y1d⟩) (by assumption) ?r1d
     case y1d => (intro w hSw; (obtain ⟨hS0, hS1, hS2⟩ := hSw); go_simp <;> with_reducible rfl)
     try simp only [List.getElem_toArray, List.getElem_cons_succ, List.getElem_cons_zero, Act.put, List.setIfInBounds_toArray, List.set_cons_zero, List.set_cons_succ]
     refine wpAnyH_take (i := 2) (oi := _) (v := ?v2d) rfl (by kernel_rfl) (by kernel_rfl) (by kernel_rfl) (fun _ _ _ h => h) (Or.inl ⟨by rfl, ?y2d⟩) (by assumption) ?r2d
     case y2d => (intro w hSw; (obtain ⟨hS0, hS1, hS2⟩ := hSw); go_simp <;> with_reducible rfl)
     try simp only [List.getElem_toArray, List.getElem_cons_succ, List.getElem_cons_zero, Act.put, List.setIfInBounds_toArray, List.set_cons_zero, List.set_cons_succ]
     refine wpAnyH_take (i := 3) (oi := _) (v := ?v3d) rfl (by kernel_rfl) (by kernel_rfl) (by kernel_rfl) (fun _ _ _ h => h) (Or.inl ⟨by rfl, ?y3d⟩) (by assumption) ?r3d
     case y3d => (intro w hSw; (obtain ⟨hS0, hS1, hS2⟩ := hSw); go_simp <;> with_reducible rfl)
     try simp only [List.getElem_toArray, List.getElem_cons_succ, List.getElem_cons_zero, Act.put, List.setIfInBounds_toArray, List.set_cons_zero, List.set_cons_succ]
     refine wpAnyH_take (i := 4) (oi := _) (v := ?v4d) rfl (by kernel_rfl) (by kernel_rfl) (by kernel_rfl) (fun _ _ _ h => h) (Or.inl ⟨by rfl, ?y4d⟩) (by assumption) ?r4d
     case y4d => (intro w hSw; (obtain ⟨hS0, hS1, hS2⟩ := hSw); go_simp <;> with_reducible rfl)
     try simp only [List.getElem_toArray, List.getElem_cons_succ, List.getElem_cons_zero, Act.put, List.setIfInBounds_toArray, List.set_cons_zero, List.set_cons_succ]
     refine wpAnyH_take (i := 5) (oi := _) (v := ?v5d) rfl (by kernel_rfl) (by kernel_rfl) (by kernel_rfl) (fun _ _ _ h => h) (Or.inl ⟨by rfl, ?y5d⟩) (by assumption) ?r5d
     case y5d => (intro w hSw; (obtain ⟨hS0, hS1, hS2⟩ := hSw); go_simp <;> with_reducible rfl)
     try simp only [List.getElem_toArray, List.getElem_cons_succ, List.getElem_cons_zero, Act.put, List.setIfInBounds_toArray, List.set_cons_zero, List.set_cons_succ]
     refine wpAnyH_take (i := 6) (oi := _) (v := ?v6d) rfl (by kernel_rfl) (by kernel_rfl) (by kernel_rfl) (fun _ _ _ h => h) (Or.inl ⟨by rfl, ?y6d⟩) (by assumption) ?r6d
     case y6d => (intro w hSw; (obtain ⟨hS0, hS1, hS2⟩ := hSw); go_simp <;> with_reducible rfl)
     try simp only [List.getElem_toArray, List.getElem_cons_succ, List.getElem_cons_zero, Act.put, List.setIfInBounds_toArray, List.set_cons_zero, List.set_cons_succ]
     refine wpAnyH_take (i := 7) (oi := _) (v := ?v7d) rfl (by kernel_rfl) (by kernel_rfl) (by kernel_rfl) (fun _ _ _ h => h) (Or.inl ⟨by rfl, ?y7d⟩) (by assumption) ?r7d
     case y7d => (intro w hSw; (obtain ⟨hS0, hS1, hS2⟩ := hSw); go_simp <;> with_reducible rfl)
     try simp only [List.getElem_toArray, List.getElem_cons_succ, List.getElem_cons_zero, Act.put, List.setIfInBounds_toArray, List.set_cons_zero, List.set_cons_succ]
     refine wpAnyH_take (i := 8) (oi := _) (v := ?v8d) rfl (by kernel_rfl) (by kernel_rfl) (by kernel_rfl) (fun _ _ _ h => h) (Or.inl ⟨by rfl, ?y8d⟩) (by assumption) ?r8d
     case y8d => (intro w hSw; (obtain ⟨hS0, hS1, hS2⟩ := hSw); go_simp <;> with_reducible rfl)
     try simp only [List.getElem_toArray, List.getElem_cons_succ, List.getElem_cons_zero, Act.put, List.setIfInBounds_toArray, List.set_cons_zero, List.set_cons_succ]
     refine wpAnyH_ready (rs := [9]) (by kernel_rfl) (by simp) ?_
     refine AllReadyH.cons (o := _) rfl (fun K hK => ?_) AllReadyH.nil
     go_simp
     refine hK.out _ _ (HS5.out _ Hk56.out) (fun hHeld2 => ?_)
     clear hK K hHeld
     have hHeld := hHeld2
     clear hHeld2
     try simp only [List.getElem_toArray, List.getElem_cons_succ, List.getElem_cons_zero, Act.put, List.setIfInBounds_toArray, List.set_cons_zero, List.set_cons_succ]
     refine wpAnyH_done (by kernel_rfl) ?_ _
     clear hupd hHeld HS5
     have hk6 : Hid (Keeps [c.be] w2 w6) := hk5.out.trans Hk56.out (by simp)
     have Hk6 : Hid (Keeps [c.be] w w6) := (Hk5.out.mono (M' := [c.be]) (by simp)).trans Hk56.out (by simp)
     clear hk5 Hk5 Hk56
     have HF6 := Lib.hid (HFar.out w6 hk6.out)
     obtain ⟨c0, c1, c2, c3, c4, c5, c6, c7, c8⟩ := HE.out w6 (Hka2.out.trans hk6.out (by simp))
     obtain ⟨p0, p1⟩ := HPc.out w6 hk6.out
     clear HFar
     go_upto_region 13 with (fail)
     cases hfr : Win.farW (st.get kl).f seq with
     | true =>
      rw [hfr, if_pos rfl] at HAM
      rw [hfr] at HF6
      have hP : Hid (∀ q, ApP g X (applyM st kl ⟨kind, ag, sh, seq, ep, ds, ser, fr, tag⟩) (N + ds.length + 2) w (.returned (.tuple #[.int .i64 5, .int .u64 0])) (w6.drewN q)) := fun q => by
       rw [HAM.out]
       exact ⟨rfl, X, ⟨c, DH, (HIE6.out _ ((Keeps.refl _ _).drewN q)).more (by omega)⟩, fun x hx => .inl hx, (Hk6.out.drewN q).mono (by intro x hx; simp at hx; subst hx; exact .inl hbeX)⟩
      clear HAM
      go_quiet ((go_at_call 112; exact quiet_left (HF6.out _)))
      go_wp2
      go_ret2
      exact hP.out _
     | false =>
      rw [hfr, if_neg (by simp)] at HAM
      rw [hfr] at HF6
      go_quiet ((go_at_call 112; exact quiet_left (HF6.out _)))
      have hk7 : Hid (Keeps [c.be] w2 (w6.drewN nq)) := hk6.out.drewN nq
      have Hk7 : Hid (Keeps [c.be] w (w6.drewN nq)) := Hk6.out.drewN nq
      have HI7 := Lib.hid (HIE6.out _ ((Keeps.refl _ _).drewN nq))
      go_upto_region 15 with (fail)
      clear c0 c1 c2 c3 c4 c5 c6 c7 c8 p0 p1 HF6 HIE6
      generalize w6.drewN nq = w7 at *
      obtain ⟨c0, c1, c2, c3, c4, c5, c6, c7, c8⟩ := HE.out w7 (Hka2.out.trans hk7.out (by simp))
      have HC7 : Hid (Calls Tryz.prog 113 #[.pointer (some ⟨g, 0, none⟩), .pointer (some ⟨p, 0, none⟩), .agg #[.int .i64 kind, .int .i64 ag, .int .i64 sh, .int .i64 seq, .int .i64 ep, .slice A ds.length cc, .string ser, .int .i64 fr, .int .i64 tag]] w7 fun r w' => CntP g X F (countM (stE st ⟨kind, ag, sh, seq, ep, ds, ser, fr, tag⟩) kl ⟨kind, ag, sh, seq, ep, ds, ser, fr, tag⟩) (N + 1 + ds.length + 1) w7 r w') := by
       have := HCount.out hr (by simpa using hk2) (by simp only []; rw [hkl]; exact hsn) (by simp only []; rw [hkl]; exact hfr) w7 p F HI7.out (by simp only []; rw [hkl]; exact HSh2.out.keep hk7.out (fun x hx => by have := HFb.out x hx; simp; omega)) (by simp only []; rw [hkl]; exact Hsome.out) (by simp only []; rw [hkl]; exact HFX.out) (fun x hx => Nat.lt_of_lt_of_le (hX x hx) Hk7.out.size) (fun x hx => by rcases HFN.out x hx with h | h; exact Nat.lt_of_lt_of_le (hX x h) Hk7.out.size; exact Nat.lt_of_lt_of_le h.2 hk7.out.size) (HD.out.keep Hk7.out (by intro x hx; simp at hx; subst hx; exact .inl hbeX))
       simp only [] at this
       rw [hkl] at this
       exact this
      go_wp2_with fail
      refine HC7.out.mono ?_
      rintro r w8 ⟨rfl, X', hmc8, hX8, hk8⟩
      have hP : Hid (ApP g X (applyM st kl ⟨kind, ag, sh, seq, ep, ds, ser, fr, tag⟩) (N + ds.length + 2) w (.returned (.tuple #[.int .i64 (countM (stE st ⟨kind, ag, sh, seq, ep, ds, ser, fr, tag⟩) kl ⟨kind, ag, sh, seq, ep, ds, ser, fr, tag⟩).1, .int .u64 0])) w8) := by
       rw [HAM.out]
       have s1 := Hk7.out.size
       have s2 := hk8.size
       have s3 := hk7.out.size
       refine ⟨rfl, X', ?_, fun x hx => ?_, ?_⟩
       ·rw [show N + ds.length + 2 = N + 1 + ds.length + 1 by omega]; exact hmc8
       ·rcases hX8 x hx with h | h | h
        ·exact .inl h
        ·rcases HFN.out x h with h | h
         ·exact .inl h
         ·exact .inr (by omega)
        ·exact .inr (by omega)
       ·refine (Hk7.out.mono (M' := X) (by intro x hx; simp at hx; subst hx; exact .inl hbeX)).trans hk8 (fun x hx => ?_)
        rcases List.mem_append.1 hx with h | h
        ·exact .inl h
        ·rcases HFN.out x h with h | h
         ·exact .inl h
         ·exact .inr (by omega)
      clear hmc8 hX8 hk8 HC7 HAM
      go_wp2
      go_ret2
      exact hP.out
 ·have hri : (((rightE ⟨kind, ag, sh, seq, ep, ds, ser, fr, tag⟩ : Nat) : Int) == 0) = false := beq_eq_false_iff_ne.2 (by omega)
  have hri2 : (((rightE ⟨kind, ag, sh, seq, ep, ds, ser, fr, tag⟩ : Nat) : Int) != 0) = true := by rw [bne, hri]; rfl
  rw [if_neg hr] at HAM
  have hP := Lib.hid (HQ.out w1 0 0 Hk1.out HAM.out)
  clear HAM HGet HOf hr
  generalize rightE ⟨kind, ag, sh, seq, ep, ds, ser, fr, tag⟩ = rr at *
  go_wp2
  go_ret2
  exact hP.out
open Classical in
noncomputable def McC.put (c : McC) (kl : Lit) (p : Nat) (F : List Nat) : McC := { c with pt := fun k => if k = kl then p else c.pt k, fp := fun k => if k = kl then F else c.fp k }
theorem McC.pt_same (c : McC) (kl : Lit) (p : Nat) (F : List Nat) : (c.put kl p F).pt kl = p := by simp [McC.put]
theorem McC.fp_same (c : McC) (kl : Lit) (p : Nat) (F : List Nat) : (c.put kl p F).fp kl = F := by simp [McC.put]
theorem McC.pt_other (c : McC) {kl k : Lit} (p : Nat) (F : List Nat) (h : k ≠ kl) : (c.put kl p F).pt k = c.pt k := by simp [McC.put, h]
theorem McC.fp_other (c : McC) {kl k : Lit} (p : Nat) (F : List Nat) (h : k ≠ kl) : (c.put kl p F).fp k = c.fp k := by simp [McC.put, h]
theorem mc_put {w w' : World} {g : Nat} {c : McC} {X : List Nat} {st : McD} {N N' : Nat} {DH : DataW Value} {kl : Lit} {p : Nat} {F M : List Nat} {DS' : DataW Unit} {s' : ShD} (h : McIn w g c X st N DH) (hkl : WideAt.IsKeyLit kl)
  (hsome : ∀ s, st.sh kl = some s → p = c.pt kl ∧ F = c.fp kl) (hnone : st.sh kl = none → ∀ x ∈ F, x ∉ X) (hk : Keeps M w w') (hM : ∀ x ∈ M, x = c.bm ∨ x = c.bs ∨ x ∈ F)
  (hsm : SmAt w' c.gs c.bm N' DS') (hm3 : w'.ownsMap Tryz.prog 201 heldElem c.bs N' (DH.put kl (.held (.pointer (some ⟨p, 0, none⟩))))) (hsh : ShAt w' p F s') (hN : N ≤ N') :
  McIn w' g (c.put kl p F) (X ++ F) (({ st with DS := DS' } : McD).set kl s') N' (DH.put kl (.held (.pointer (some ⟨p, 0, none⟩)))) := by
 have hFc : ∀ x ∈ F, x ∉ c.core g := by
  intro x hx
  cases hs : st.sh kl with
  | some s =>
   obtain ⟨_, rfl⟩ := hsome s hs
   exact (h.sh kl s hs).2.2.2 x hx
  | none => exact fun hc => hnone hs x hx (h.inX x hc)
 have hFk : ∀ k, k ≠ kl → st.sh k ≠ none → ∀ x ∈ c.fp k, x ∉ F := by
  intro k hne hs x hx hF
  cases hs' : st.sh kl with
  | some s =>
   obtain ⟨_, rfl⟩ := hsome s hs'
   exact h.dj k kl hne hs (by rw [hs']; simp) x hx hF
  | none => exact hnone hs' x hF (h.fpX k hs x hx)
 have hnd := h.nd
 simp only [McC.core, List.nodup_cons, List.mem_cons, List.not_mem_nil, or_false, List.nodup_nil, and_true, not_or, not_false_eq_true] at hnd
 have hmap : Maps.IsMap DH := h.m3.isMap
 refine ⟨?_, hsm, ?_, hm3, h.nd, ?_, ?_, ?_, ?_, ?_⟩
 ·refine hk.blk h.b0 (fun hm => ?_)
  rcases hM g hm with e | e | e
  ·omega
  ·omega
  ·exact hFc g e (by simp [McC.core])
 ·refine (om_keep h.m2 hk (fun hm => ?_)).mono hN
  rcases hM _ hm with e | e | e
  ·omega
  ·omega
  ·exact hFc _ e (by simp [McC.core])
 ·intro k s hs
  by_cases e : k = kl
  ·subst e
   rw [McD.sh_set] at hs
   injection hs with hs
   subst hs
   rw [McC.pt_same, McC.fp_same]
   exact ⟨Maps.has_put_same hmap hkl _, Maps.atKey_put_same hmap hkl _ _, hsh, hFc⟩
  ·rw [McD.sh_other _ _ e] at hs
   obtain ⟨h1, h2, h3, h4⟩ := h.sh k s hs
   rw [McC.pt_other _ _ _ e, McC.fp_other _ _ _ e]
   refine ⟨(Maps.has_put_other e _).trans h1, (Maps.atKey_put_other e _ _).trans h2, h3.keep hk (fun x hx hm => ?_), h4⟩
   rcases hM x hm with e' | e' | e'
   ·exact h4 x hx (by rw [e']; simp [McC.core])
   ·exact h4 x hx (by rw [e']; simp [McC.core])
   ·exact hFk k e (by show st.sh k ≠ none; rw [show st.sh k = some s from hs]; simp) x hx e'
 ·intro k hs
  by_cases e : k = kl
  ·subst e; rw [McD.sh_set] at hs; cases hs
  ·rw [McD.sh_other _ _ e] at hs
   exact (Maps.has_put_other e _).trans (h.no k hs)
 ·intro k k' hne hs hs' x hx hx'
  by_cases e : k = kl
  ·subst e
   rw [McC.fp_same] at hx
   have e' : k' ≠ k := fun e => hne e.symm
   rw [McC.fp_other _ _ _ e'] at hx'
   rw [McD.sh_other _ _ e'] at hs'
   exact hFk k' e' hs' x hx' hx
  ·rw [McC.fp_other _ _ _ e] at hx
   rw [McD.sh_other _ _ e] at hs
   by_cases e' : k' = kl
   ·subst e'
    rw [McC.fp_same] at hx'
    exact hFk k e hs x hx hx'
   ·rw [McC.fp_other _ _ _ e'] at hx'
    rw [McD.sh_other _ _ e'] at hs'
    exact h.dj k k' hne hs hs' x hx hx'
 ·intro x hx
  exact List.mem_append_left _ (h.inX x hx)
 ·intro k hs x hx
  by_cases e : k = kl
  ·subst e
   rw [McC.fp_same] at hx
   exact List.mem_append_right _ hx
  ·rw [McC.fp_other _ _ _ e] at hx
   rw [McD.sh_other _ _ e] at hs
   exact List.mem_append_left _ (h.fpX k hs x hx)
set_option maxRecDepth 100000 in
set_option maxHeartbeats 4000000 in
theorem mcount_ok (g : Nat) (c : McC) (X : List Nat) (st : McD) (N : Nat) (DH : DataW Value) (p : Nat) (F : List Nat) (e : EntryD) (dv : Value) (w : World) (h : McIn w g c X st N DH) (hsh : ShAt w p F (st.get (pk e.ag e.sh)))
  (hsome : ∀ s, st.sh (pk e.ag e.sh) = some s → p = c.pt (pk e.ag e.sh) ∧ F = c.fp (pk e.ag e.sh)) (hnone : st.sh (pk e.ag e.sh) = none → ∀ x ∈ F, x ∉ X) (ha : I64 e.ag) (hs : I64 e.sh) (hq : e.seq ≤ 9223372036854775807)
  (hd : Ds w X dv e.ds) (hok : ∀ d ∈ e.ds, DOk d) (hl : e.ds.length ≤ 549755813888) (hN : N ≤ 549755813888) (hmay : mayS st.DS e.ds = 0) (hseen : (st.get (pk e.ag e.sh)).seen e.seq = false) (hfar : Win.farW (st.get (pk e.ag e.sh)).f e.seq = false)
  (hf : (st.get (pk e.ag e.sh)).f ≤ 4611686018427387000) :
  Calls Tryz.prog 113 #[.pointer (some ⟨g, 0, none⟩), .pointer (some ⟨p, 0, none⟩), .agg (eCell (e, dv)).toArray] w fun r w' => CntP g X F (countM st (pk e.ag e.sh) e) (N + e.ds.length + 1) w r w' := by
 have HH := Lib.hid h
 have hkey := lawP.key (pk_of ha hs)
 have HC : Hid (countM st (pk e.ag e.sh) e = (1, ({ st with DS := addL st.DS e.ds } : McD).set (pk e.ag e.sh) ((st.get (pk e.ag e.sh)).add e.seq))) := by show _ = _; unfold countM; rw [if_pos hmay]
 have hpk := Lib.hid (pk_of ha hs)
 have Hsome := Lib.hid hsome; have Hnone := Lib.hid hnone; have Hok := Lib.hid hok
 have hbmX : c.bm ∈ X := h.inX _ (by simp [McC.core])
 have hcgX : ∀ x ∈ c.core g, x ∈ X := h.inX
 have HFc : Hid (∀ x ∈ F, x ∉ c.core g) := by
  intro x hx
  cases hs' : st.sh (pk e.ag e.sh) with
  | some s =>
   obtain ⟨_, rfl⟩ := hsome s hs'
   exact (h.sh _ s hs').2.2.2 x hx
  | none => exact fun hc => hnone hs' x hx (h.inX x hc)
 have HFin : Hid (∀ W (M : List Nat), Keeps M w W → (∀ x ∈ M, x = c.bm ∨ x = c.bs ∨ x ∈ F) → SmAt W c.gs c.bm (N + e.ds.length + 1) (addL st.DS e.ds) → W.ownsMap Tryz.prog 201 heldElem c.bs (N + e.ds.length + 1) (DH.put (pk e.ag e.sh) (.held (.pointer (some ⟨p, 0, none⟩)))) →
   ShAt W p F ((st.get (pk e.ag e.sh)).add e.seq) → CntP g X F (countM st (pk e.ag e.sh) e) (N + e.ds.length + 1) w (.returned (.int .i64 1)) W) := fun W M hk hM h1 h2 h3 => by
  rw [HC.out]
  refine ⟨rfl, X ++ F, ⟨_, _, mc_put h hkey hsome hnone hk hM h1 h2 h3 (by omega)⟩, fun x hx => ?_, hk.mono (fun x hx => ?_)⟩
  ·rcases List.mem_append.1 hx with h | h
   ·exact .inl h
   ·exact .inr (.inl h)
  ·rcases hM x hx with h' | h' | h'
   ·exact .inl (List.mem_append_left _ (by rw [h']; exact hbmX))
   ·exact .inl (List.mem_append_left _ (by rw [h']; exact h.inX _ (by simp [McC.core])))
   ·exact .inl (List.mem_append_right _ h')
 have HSM := Lib.hid h.sm; have HM3 := Lib.hid h.m3; have HB0 := Lib.hid h.b0
 have hglt : g < w.heap.size := h.b0.lt
 have hbml : c.bm < w.heap.size := h.sm.2.1.lt
 have hbsl : c.bs < w.heap.size := h.m3.lt
 have hnd := h.nd
 simp only [McC.core, List.nodup_cons, List.mem_cons, List.not_mem_nil, or_false, List.nodup_nil, and_true, not_or, not_false_eq_true] at hnd
 obtain ⟨⟨n1, n2, n3, n4⟩, ⟨n5, n6, n7⟩, ⟨n8, n9⟩, n10⟩ := hnd
 generalize hst : st.get (pk e.ag e.sh) = s at *
 generalize hkl : pk e.ag e.sh = kl at *
 obtain ⟨pw, v, hbp, hwn, hown, hpF, hwF, hpw, hvF, hl8, hbd⟩ := hsh
 have hpl : p < w.heap.size := hbp.lt
 have hwl : pw < w.heap.size := hwn.1.lt
 have hpc := HFc.out p hpF
 have hwc := HFc.out pw hwF
 simp only [McC.core, List.mem_cons, List.not_mem_nil, or_false, not_or] at hpc hwc
 obtain ⟨a1, a2, a3, a4, a5⟩ := hpc
 obtain ⟨b1, b2, b3, b4, b5⟩ := hwc
 have HvF : Hid (∀ g', v.ownBlock = some g' → g' ≠ c.bm ∧ g' ≠ pw ∧ g' ≠ c.bs) := fun g' hg' => by
  obtain ⟨h1, h2, h3⟩ := hvF g' hg'
  have h4 := HFc.out g' h1
  simp only [McC.core, List.mem_cons, List.not_mem_nil, or_false, not_or] at h4
  exact ⟨h4.2.2.1, h3, h4.2.2.2.2⟩
 have HvF0 := Lib.hid hvF
 have Hbp := Lib.hid hbp; have Hwn := Lib.hid hwn; have Hown := Lib.hid hown; have Hbd := Lib.hid hbd
 have HD := Lib.hid hd
 obtain ⟨kind, ag, sh, seq, ep, ds, ser, fr, tag⟩ := e
 simp only [] at *
 obtain ⟨A, cc, rfl, hcc⟩ := hd.len
 clear h hsome hnone hok hd hbp hwn hown hvF hbd hst HC
 have hBx := Blk.new w 26 #[.int .i64 kind, .int .i64 ag, .int .i64 sh, .int .i64 seq, .int .i64 ep, .slice A ds.length cc, .string ser, .int .i64 fr, .int .i64 tag]
 have HkA : Hid (Keeps [] w (w.alloc (.cells #[.int .i64 kind, .int .i64 ag, .int .i64 sh, .int .i64 seq, .int .i64 ep, .slice A ds.length cc, .string ser, .int .i64 fr, .int .i64 tag] 26))) := (Keeps.refl _ _).alloc _
 have HBx := Lib.hid hBx
 clear hBx
 show Calls Tryz.prog 113 #[.pointer (some ⟨g, 0, none⟩), .pointer (some ⟨p, 0, none⟩), .agg #[.int .i64 kind, .int .i64 ag, .int .i64 sh, .int .i64 seq, .int .i64 ep, .slice A ds.length cc, .string ser, .int .i64 fr, .int .i64 tag]] w _
 go_enter Tryz.func113, Tryz.ntmps113
 go_upto_region 2 with (fail)
 generalize w.alloc (.cells #[.int .i64 kind, .int .i64 ag, .int .i64 sh, .int .i64 seq, .int .i64 ep, .slice A ds.length cc, .string ser, .int .i64 fr, .int .i64 tag] 26) = wa at *
 obtain ⟨g7, Hg7⟩ : ∃ g7, Hid (g7 = w.heap.size) := ⟨_, rfl⟩
 rw [← Hg7.out] at HBx ⊢
 have q1 : g7 ≠ g := by rw [Hg7.out]; exact Nat.ne_of_gt hglt
 have q2 : g7 ≠ c.bm := by rw [Hg7.out]; exact Nat.ne_of_gt hbml
 have q3 : g7 ≠ c.bs := by rw [Hg7.out]; exact Nat.ne_of_gt hbsl
 have q4 : g7 ≠ pw := by rw [Hg7.out]; exact Nat.ne_of_gt hwl
 have Hpn : Hid (p ∉ [c.bm, pw, c.bs]) := by show ¬ _; simp [a3, hpw, a5]
 have Hg7n : Hid (g7 ∉ [c.bm, pw, c.bs]) := by show ¬ _; simp [q2, q3, q4]
 have Hgn : Hid (g ∉ [c.bm, pw, c.bs]) := by show ¬ _; simp [n2, n4, Ne.symm b1]
 have Hgsw : Hid (c.gs ∉ [pw] ∧ c.bm ∉ [pw] ∧ c.gs ∉ [c.bs] ∧ c.bm ∉ [c.bs] ∧ pw ∉ [c.bm] ∧ pw ∉ [c.bs] ∧ c.bs ∉ [c.bm, pw]) := by
  show _ ∧ _
  simp [Ne.symm b2, Ne.symm b3, n7, n9, b3, b5, Ne.symm b5, Ne.symm n9]
 have HS1 : Hid (∀ W, Keeps [c.bm, pw, c.bs] wa W → W.cell? ⟨g, 0, none⟩ = some (.pointer (some ⟨c.gs, 0, none⟩)) ∧ W.cell? ⟨g7, 5, none⟩ = some (.slice A ds.length cc) ∧ W.cell? ⟨p, 0, none⟩ = some (.pointer (some ⟨pw, 0, none⟩)) ∧ W.cell? ⟨g7, 3, none⟩ = some (.int .i64 seq) ∧ W.cell? ⟨g, 2, none⟩ = some (.map (some c.bs)) ∧ W.cell? ⟨g7, 1, none⟩ = some (.int .i64 ag) ∧ W.cell? ⟨g7, 2, none⟩ = some (.int .i64 sh)) := fun W hk => by
  have h1 := hk.blk (HkA.out.blk HB0.out (by simp)) Hgn.out
  have h2 := hk.blk HBx.out Hg7n.out
  have h3 := hk.blk (HkA.out.blk Hbp.out (by simp)) Hpn.out
  exact ⟨h1.cell 0, h2.cell 5, h3.cell 0, h2.cell 3, h1.cell 2, h2.cell 1, h2.cell 2⟩
 have HAdd : Hid (Calls Tryz.prog 161 #[.pointer (some ⟨c.gs, 0, none⟩), .slice A ds.length cc] wa.drew fun e w' => SaPost c.gs c.bm N st.DS ds wa.drew e w') :=
  smadd_any _ _ _ _ _ _ _ (HSM.out.keep (M := []) HkA.out.drew (by simp) (by simp)) ((HD.out.keep (M' := []) HkA.out.drew (by simp)).avoid (M' := [c.bm]) (by intro g hg; simp at hg; subst hg; exact .inl hbmX)) Hok.out (by omega) (by omega)
 have Hpw := Lib.hid hpw
 clear n1 n2 n3 n4 n5 n6 n7 n8 n9 n10 a1 a2 a3 a4 a5 b1 b2 b3 b4 b5 q1 q2 q3 q4 hpw hcgX
 refine wp_region_held_drew (S := (fun W => W.cell? ⟨g, 0, none⟩ = some (.pointer (some ⟨c.gs, 0, none⟩)) ∧ W.cell? ⟨g7, 5, none⟩ = some (.slice A ds.length cc) ∧ W.cell? ⟨p, 0, none⟩ = some (.pointer (some ⟨pw, 0, none⟩)) ∧ W.cell? ⟨g7, 3, none⟩ = some (.int .i64 seq) ∧ W.cell? ⟨g, 2, none⟩ = some (.map (some c.bs)) ∧ W.cell? ⟨g7, 1, none⟩ = some (.int .i64 ag) ∧ W.cell? ⟨g7, 2, none⟩ = some (.int .i64 sh))) (by kernel_rfl) (HS1.out _ (Keeps.refl _ _).drew) (fun hHeld => ?_)
 refine wpAnyH_take (i := 0) (oi := _) (v := ?v0a) rfl (by kernel_rfl) (by kernel_rfl) (by kernel_rfl) (fun _ _ _ h => h) (Or.inl ⟨by rfl, ?y0a⟩) (by assumption) ?r0a
 case y0a => (intro w hSw; (obtain ⟨hS0, hS1, hS2, hS3, hS4, hS5, hS6⟩ := hSw); go_simp <;> with_reducible rfl)
 try simp only [List.getElem_toArray, List.getElem_cons_succ, List.getElem_cons_zero, Act.put, List.setIfInBounds_toArray, List.set_cons_zero, List.set_cons_succ]
 refine wpAnyH_take (i := 1) (oi := _) (v := ?v1a) rfl (by kernel_rfl) (by kernel_rfl) (by kernel_rfl) (fun _ _ _ h => h) (Or.inl ⟨by rfl, ?y1a⟩) (by assumption) ?r1a
 case y1a => (intro w hSw; (obtain ⟨hS0, hS1, hS2, hS3, hS4, hS5, hS6⟩ := hSw); go_simp <;> with_reducible rfl)
 try simp only [List.getElem_toArray, List.getElem_cons_succ, List.getElem_cons_zero, Act.put, List.setIfInBounds_toArray, List.set_cons_zero, List.set_cons_succ]
 refine wpAnyH_take (i := 2) (oi := _) (v := ?v2a) rfl (by kernel_rfl) (by kernel_rfl) (by kernel_rfl) (fun _ _ _ h => h) (Or.inl ⟨by rfl, ?y2a⟩) (by assumption) ?r2a
 case y2a => (intro w hSw; (obtain ⟨hS0, hS1, hS2, hS3, hS4, hS5, hS6⟩ := hSw); go_simp <;> with_reducible rfl)
 try simp only [List.getElem_toArray, List.getElem_cons_succ, List.getElem_cons_zero, Act.put, List.setIfInBounds_toArray, List.set_cons_zero, List.set_cons_succ]
 refine wpAnyH_take (i := 3) (oi := _) (v := ?v3a) rfl (by kernel_rfl) (by kernel_rfl) (by kernel_rfl) (fun _ _ _ h => h) (Or.inl ⟨by rfl, ?y3a⟩) (by assumption) ?r3a
 case y3a => (intro w hSw; (obtain ⟨hS0, hS1, hS2, hS3, hS4, hS5, hS6⟩ := hSw); go_simp <;> with_reducible rfl)
 try simp only [List.getElem_toArray, List.getElem_cons_succ, List.getElem_cons_zero, Act.put, List.setIfInBounds_toArray, List.set_cons_zero, List.set_cons_succ]
 refine wpAnyH_take (i := 4) (oi := _) (v := ?v4a) rfl (by kernel_rfl) (by kernel_rfl) (by kernel_rfl) (fun _ _ _ h => h) (Or.inl ⟨by rfl, ?y4a⟩) (by assumption) ?r4a
 case y4a => (intro w hSw; (obtain ⟨hS0, hS1, hS2, hS3, hS4, hS5, hS6⟩ := hSw); go_simp <;> with_reducible rfl)
 try simp only [List.getElem_toArray, List.getElem_cons_succ, List.getElem_cons_zero, Act.put, List.setIfInBounds_toArray, List.set_cons_zero, List.set_cons_succ]
 refine wpAnyH_take (i := 5) (oi := _) (v := ?v5a) rfl (by kernel_rfl) (by kernel_rfl) (by kernel_rfl) (fun _ _ _ h => h) (Or.inl ⟨by rfl, ?y5a⟩) (by assumption) ?r5a
 case y5a => (intro w hSw; (obtain ⟨hS0, hS1, hS2, hS3, hS4, hS5, hS6⟩ := hSw); go_simp <;> with_reducible rfl)
 try simp only [List.getElem_toArray, List.getElem_cons_succ, List.getElem_cons_zero, Act.put, List.setIfInBounds_toArray, List.set_cons_zero, List.set_cons_succ]
 refine wpAnyH_ready (rs := [6]) (by kernel_rfl) (by simp) ?_
 refine AllReadyH.cons (o := _) rfl (fun K hK => ?_) AllReadyH.nil
 go_simp
 refine HAdd.out.mono ?_
 rintro e w2 ⟨rfl, hsm2, hk2⟩
 rw [if_pos hmay] at hsm2
 rw [hmay]
 have HSM2 := Lib.hid hsm2
 have Hk2 : Hid (Keeps [c.bm, pw, c.bs] wa w2) := (Keeps.refl [c.bm, pw, c.bs] wa).drew.trans hk2 (by simp)
 have Hk02 : Hid (Keeps [c.bm] w w2) := (HkA.out.drew.mono (M' := [c.bm]) (by simp)).trans hk2 (by simp)
 clear hsm2 hk2
 refine hK.out _ _ (HS1.out _ Hk2.out) (fun hHeld2 => ?_)
 clear hK K hHeld
 have hHeld := hHeld2
 clear hHeld2
 try simp only [List.getElem_toArray, List.getElem_cons_succ, List.getElem_cons_zero, Act.put, List.setIfInBounds_toArray, List.set_cons_zero, List.set_cons_succ]
 refine wpAnyH_take (i := 7) (oi := _) (v := ?v7a) rfl (by kernel_rfl) (by kernel_rfl) (by kernel_rfl) (fun _ _ _ h => h) (Or.inl ⟨by rfl, ?y7a⟩) (by assumption) ?r7a
 case y7a => (intro w hSw; (obtain ⟨hS0, hS1, hS2, hS3, hS4, hS5, hS6⟩ := hSw); go_simp <;> with_reducible rfl)
 try simp only [List.getElem_toArray, List.getElem_cons_succ, List.getElem_cons_zero, Act.put, List.setIfInBounds_toArray, List.set_cons_zero, List.set_cons_succ]
 refine wpAnyH_done (by kernel_rfl) ?_ _
 clear hHeld HAdd
 go_upto_region 8 with (fail)
 have HWA : Hid (Calls Tryz.prog 163 #[.pointer (some ⟨pw, 0, none⟩), .int .i64 seq] w2.drew fun e w' => WdPost pw (Win.addW s.f s.m seq) w2.drew e w') :=
  wnadd_any pw s.f s.m seq _ (Hwn.out.keep (M := [c.bm]) Hk02.out.drew Hgsw.out.2.2.2.2.1) hq hseen hfar hf
 refine wp_region_held_drew (S := (fun W => W.cell? ⟨g, 0, none⟩ = some (.pointer (some ⟨c.gs, 0, none⟩)) ∧ W.cell? ⟨g7, 5, none⟩ = some (.slice A ds.length cc) ∧ W.cell? ⟨p, 0, none⟩ = some (.pointer (some ⟨pw, 0, none⟩)) ∧ W.cell? ⟨g7, 3, none⟩ = some (.int .i64 seq) ∧ W.cell? ⟨g, 2, none⟩ = some (.map (some c.bs)) ∧ W.cell? ⟨g7, 1, none⟩ = some (.int .i64 ag) ∧ W.cell? ⟨g7, 2, none⟩ = some (.int .i64 sh))) (by kernel_rfl) (HS1.out _ Hk2.out.drew) (fun hHeld => ?_)
 refine wpAnyH_take (i := 0) (oi := _) (v := ?v0b) rfl (by kernel_rfl) (by kernel_rfl) (by kernel_rfl) (fun _ _ _ h => h) (Or.inl ⟨by rfl, ?y0b⟩) (by assumption) ?r0b
 case y0b => (intro w hSw; (obtain ⟨hS0, hS1, hS2, hS3, hS4, hS5, hS6⟩ := hSw); go_simp <;> with_reducible rfl)
 try simp only [List.getElem_toArray, List.getElem_cons_succ, List.getElem_cons_zero, Act.put, List.setIfInBounds_toArray, List.set_cons_zero, List.set_cons_succ]
 refine wpAnyH_take (i := 1) (oi := _) (v := ?v1b) rfl (by kernel_rfl) (by kernel_rfl) (by kernel_rfl) (fun _ _ _ h => h) (Or.inl ⟨by rfl, ?y1b⟩) (by assumption) ?r1b
 case y1b => (intro w hSw; (obtain ⟨hS0, hS1, hS2, hS3, hS4, hS5, hS6⟩ := hSw); go_simp <;> with_reducible rfl)
 try simp only [List.getElem_toArray, List.getElem_cons_succ, List.getElem_cons_zero, Act.put, List.setIfInBounds_toArray, List.set_cons_zero, List.set_cons_succ]
 refine wpAnyH_take (i := 2) (oi := _) (v := ?v2b) rfl (by kernel_rfl) (by kernel_rfl) (by kernel_rfl) (fun _ _ _ h => h) (Or.inl ⟨by rfl, ?y2b⟩) (by assumption) ?r2b
 case y2b => (intro w hSw; (obtain ⟨hS0, hS1, hS2, hS3, hS4, hS5, hS6⟩ := hSw); go_simp <;> with_reducible rfl)
 try simp only [List.getElem_toArray, List.getElem_cons_succ, List.getElem_cons_zero, Act.put, List.setIfInBounds_toArray, List.set_cons_zero, List.set_cons_succ]
 refine wpAnyH_take (i := 3) (oi := _) (v := ?v3b) rfl (by kernel_rfl) (by kernel_rfl) (by kernel_rfl) (fun _ _ _ h => h) (Or.inl ⟨by rfl, ?y3b⟩) (by assumption) ?r3b
 case y3b => (intro w hSw; (obtain ⟨hS0, hS1, hS2, hS3, hS4, hS5, hS6⟩ := hSw); go_simp <;> with_reducible rfl)
 try simp only [List.getElem_toArray, List.getElem_cons_succ, List.getElem_cons_zero, Act.put, List.setIfInBounds_toArray, List.set_cons_zero, List.set_cons_succ]
 refine wpAnyH_take (i := 4) (oi := _) (v := ?v4b) rfl (by kernel_rfl) (by kernel_rfl) (by kernel_rfl) (fun _ _ _ h => h) (Or.inl ⟨by rfl, ?y4b⟩) (by assumption) ?r4b
 case y4b => (intro w hSw; (obtain ⟨hS0, hS1, hS2, hS3, hS4, hS5, hS6⟩ := hSw); go_simp <;> with_reducible rfl)
 try simp only [List.getElem_toArray, List.getElem_cons_succ, List.getElem_cons_zero, Act.put, List.setIfInBounds_toArray, List.set_cons_zero, List.set_cons_succ]
 refine wpAnyH_take (i := 5) (oi := _) (v := ?v5b) rfl (by kernel_rfl) (by kernel_rfl) (by kernel_rfl) (fun _ _ _ h => h) (Or.inl ⟨by rfl, ?y5b⟩) (by assumption) ?r5b
 case y5b => (intro w hSw; (obtain ⟨hS0, hS1, hS2, hS3, hS4, hS5, hS6⟩ := hSw); go_simp <;> with_reducible rfl)
 try simp only [List.getElem_toArray, List.getElem_cons_succ, List.getElem_cons_zero, Act.put, List.setIfInBounds_toArray, List.set_cons_zero, List.set_cons_succ]
 refine wpAnyH_take (i := 6) (oi := _) (v := ?v6b) rfl (by kernel_rfl) (by kernel_rfl) (by kernel_rfl) (fun _ _ _ h => h) (Or.inl ⟨by rfl, ?y6b⟩) (by assumption) ?r6b
 case y6b => (intro w hSw; (obtain ⟨hS0, hS1, hS2, hS3, hS4, hS5, hS6⟩ := hSw); go_simp <;> with_reducible rfl)
 try simp only [List.getElem_toArray, List.getElem_cons_succ, List.getElem_cons_zero, Act.put, List.setIfInBounds_toArray, List.set_cons_zero, List.set_cons_succ]
 refine wpAnyH_ready (rs := [7]) (by kernel_rfl) (by simp) ?_
 refine AllReadyH.cons (o := _) rfl (fun K hK => ?_) AllReadyH.nil
 go_simp
 refine HWA.out.mono ?_
 rintro e w3 ⟨rfl, hwn3, hk3⟩
 have Hwn3 := Lib.hid hwn3
 have Hk3 : Hid (Keeps [c.bm, pw, c.bs] wa w3) := Hk2.out.drew.trans hk3 (by simp)
 have Hk03 : Hid (Keeps [c.bm, pw] w w3) := (Hk02.out.drew.mono (M' := [c.bm, pw]) (by simp)).trans hk3 (by simp)
 have HSM3 : Hid (SmAt w3 c.gs c.bm (N + ds.length) (addL st.DS ds)) := HSM2.out.keep (M := [pw]) ((Keeps.refl [pw] w2).drew.trans hk3 (by simp)) Hgsw.out.1 Hgsw.out.2.1
 clear hwn3 hk3
 refine hK.out _ _ (HS1.out _ Hk3.out) (fun hHeld2 => ?_)
 clear hK K hHeld
 have hHeld := hHeld2
 clear hHeld2
 try simp only [List.getElem_toArray, List.getElem_cons_succ, List.getElem_cons_zero, Act.put, List.setIfInBounds_toArray, List.set_cons_zero, List.set_cons_succ]
 refine wpAnyH_done (by kernel_rfl) ?_ _
 clear hHeld HWA HSM2 Hk2 Hk02
 go_upto_region 9 with (fail)
 obtain ⟨w4, hupd, hown4, hturn⟩ := (om_keep HM3.out Hk03.out.drew Hgsw.out.2.2.2.2.2.2).store lawP uMH (by unfold maxLen; omega) hpk.out (rfl : heldElem (.pointer (some ⟨p, 0, none⟩)) = some (.held (.pointer (some ⟨p, 0, none⟩)), []))
 have hk4 := turned_keeps hturn
 have Hk4 : Hid (Keeps [c.bm, pw, c.bs] wa w4) := Hk3.out.drew.trans hk4 (by simp)
 have Hk04 : Hid (Keeps [c.bm, pw, c.bs] w w4) := (Hk03.out.drew.mono (M' := [c.bm, pw, c.bs]) (by simp)).trans hk4 (by simp)
 have Hk34 : Hid (Keeps [c.bs] w3 w4) := (Keeps.refl [c.bs] w3).drew.trans hk4 (by simp)
 have hP : Hid (CntP g X F (countM st kl ⟨kind, ag, sh, seq, ep, ds, ser, fr, tag⟩) (N + ds.length + 1) w (.returned (.int .i64 1)) w4) := by
  refine HFin.out w4 [c.bm, pw, c.bs] Hk04.out (by intro x hx; simp at hx; rcases hx with rfl | rfl | rfl; exact .inl rfl; exact .inr (.inr hwF); exact .inr (.inl rfl)) ((HSM3.out.keep Hk34.out Hgsw.out.2.2.1 Hgsw.out.2.2.2.1).more (by omega)) (hown4.mono (by omega)) ?_
  exact ⟨pw, v, Hk04.out.blk Hbp.out Hpn.out, Hwn3.out.keep Hk34.out Hgsw.out.2.2.2.2.2.1, own_other2 Hown.out Hk04.out (fun g' hg' => by have := HvF.out g' hg'; simp; omega), hpF, hwF, Hpw.out, HvF0.out, hl8, Hbd.out⟩
 clear hown4 hturn hk4
 refine wp_region_held_drew (S := (fun W => W.cell? ⟨g, 0, none⟩ = some (.pointer (some ⟨c.gs, 0, none⟩)) ∧ W.cell? ⟨g7, 5, none⟩ = some (.slice A ds.length cc) ∧ W.cell? ⟨p, 0, none⟩ = some (.pointer (some ⟨pw, 0, none⟩)) ∧ W.cell? ⟨g7, 3, none⟩ = some (.int .i64 seq) ∧ W.cell? ⟨g, 2, none⟩ = some (.map (some c.bs)) ∧ W.cell? ⟨g7, 1, none⟩ = some (.int .i64 ag) ∧ W.cell? ⟨g7, 2, none⟩ = some (.int .i64 sh))) (by kernel_rfl) (HS1.out _ Hk3.out.drew) (fun hHeld => ?_)
 refine wpAnyH_take (i := 0) (oi := _) (v := ?v0c) rfl (by kernel_rfl) (by kernel_rfl) (by kernel_rfl) (fun _ _ _ h => h) (Or.inl ⟨by rfl, ?y0c⟩) (by assumption) ?r0c
 case y0c => (intro w hSw; (obtain ⟨hS0, hS1, hS2, hS3, hS4, hS5, hS6⟩ := hSw); go_simp <;> with_reducible rfl)
 try simp only [List.getElem_toArray, List.getElem_cons_succ, List.getElem_cons_zero, Act.put, List.setIfInBounds_toArray, List.set_cons_zero, List.set_cons_succ]
 refine wpAnyH_take (i := 1) (oi := _) (v := ?v1c) rfl (by kernel_rfl) (by kernel_rfl) (by kernel_rfl) (fun _ _ _ h => h) (Or.inl ⟨by rfl, ?y1c⟩) (by assumption) ?r1c
 case y1c => (intro w hSw; (obtain ⟨hS0, hS1, hS2, hS3, hS4, hS5, hS6⟩ := hSw); go_simp <;> with_reducible rfl)
 try simp only [List.getElem_toArray, List.getElem_cons_succ, List.getElem_cons_zero, Act.put, List.setIfInBounds_toArray, List.set_cons_zero, List.set_cons_succ]
 refine wpAnyH_take (i := 2) (oi := _) (v := ?v2c) rfl (by kernel_rfl) (by kernel_rfl) (by kernel_rfl) (fun _ _ _ h => h) (Or.inl ⟨by rfl, ?y2c⟩) (by assumption) ?r2c
 case y2c => (intro w hSw; (obtain ⟨hS0, hS1, hS2, hS3, hS4, hS5, hS6⟩ := hSw); go_simp <;> with_reducible rfl)
 try simp only [List.getElem_toArray, List.getElem_cons_succ, List.getElem_cons_zero, Act.put, List.setIfInBounds_toArray, List.set_cons_zero, List.set_cons_succ]
 refine wpAnyH_take (i := 3) (oi := _) (v := ?v3c) rfl (by kernel_rfl) (by kernel_rfl) (by kernel_rfl) (fun _ _ _ h => h) (Or.inl ⟨by rfl, ?y3c⟩) (by assumption) ?r3c
 case y3c => (intro w hSw; (obtain ⟨hS0, hS1, hS2, hS3, hS4, hS5, hS6⟩ := hSw); go_simp <;> with_reducible rfl)
 try simp only [List.getElem_toArray, List.getElem_cons_succ, List.getElem_cons_zero, Act.put, List.setIfInBounds_toArray, List.set_cons_zero, List.set_cons_succ]
 refine wpAnyH_take (i := 4) (oi := _) (v := ?v4c) rfl (by kernel_rfl) (by kernel_rfl) (by kernel_rfl) (fun _ _ _ h => h) (Or.inl ⟨by rfl, ?y4c⟩) (by assumption) ?r4c
 case y4c => (intro w hSw; (obtain ⟨hS0, hS1, hS2, hS3, hS4, hS5, hS6⟩ := hSw); go_simp <;> with_reducible rfl)
 try simp only [List.getElem_toArray, List.getElem_cons_succ, List.getElem_cons_zero, Act.put, List.setIfInBounds_toArray, List.set_cons_zero, List.set_cons_succ]
 refine wpAnyH_take (i := 5) (oi := _) (v := ?v5c) rfl (by kernel_rfl) (by kernel_rfl) (by kernel_rfl) (fun _ _ _ h => h) (Or.inl ⟨by rfl, ?y5c⟩) (by assumption) ?r5c
 case y5c => (intro w hSw; (obtain ⟨hS0, hS1, hS2, hS3, hS4, hS5, hS6⟩ := hSw); go_simp <;> with_reducible rfl)
 try simp only [List.getElem_toArray, List.getElem_cons_succ, List.getElem_cons_zero, Act.put, List.setIfInBounds_toArray, List.set_cons_zero, List.set_cons_succ]
 refine wpAnyH_take (i := 6) (oi := _) (v := ?v6c) rfl (by kernel_rfl) (by kernel_rfl) (by kernel_rfl) (fun _ _ _ h => h) (Or.inl ⟨by rfl, ?y6c⟩) (by assumption) ?r6c
 case y6c => (intro w hSw; (obtain ⟨hS0, hS1, hS2, hS3, hS4, hS5, hS6⟩ := hSw); go_simp <;> with_reducible rfl)
 try simp only [List.getElem_toArray, List.getElem_cons_succ, List.getElem_cons_zero, Act.put, List.setIfInBounds_toArray, List.set_cons_zero, List.set_cons_succ]
 refine wpAnyH_take (i := 7) (oi := _) (v := ?v7c) rfl (by kernel_rfl) (by kernel_rfl) (by kernel_rfl) (fun _ _ _ h => h) (Or.inl ⟨by rfl, ?y7c⟩) (by assumption) ?r7c
 case y7c => (intro w hSw; (obtain ⟨hS0, hS1, hS2, hS3, hS4, hS5, hS6⟩ := hSw); go_simp <;> with_reducible rfl)
 try simp only [List.getElem_toArray, List.getElem_cons_succ, List.getElem_cons_zero, Act.put, List.setIfInBounds_toArray, List.set_cons_zero, List.set_cons_succ]
 refine wpAnyH_take (i := 8) (oi := _) (v := ?v8c) rfl (by kernel_rfl) (by kernel_rfl) (by kernel_rfl) (fun _ _ _ h => h) (Or.inl ⟨by rfl, ?y8c⟩) (by assumption) ?r8c
 case y8c => (intro w hSw; (obtain ⟨hS0, hS1, hS2, hS3, hS4, hS5, hS6⟩ := hSw); go_simp <;> with_reducible rfl)
 try simp only [List.getElem_toArray, List.getElem_cons_succ, List.getElem_cons_zero, Act.put, List.setIfInBounds_toArray, List.set_cons_zero, List.set_cons_succ]
 refine wpAnyH_take (i := 9) (oi := _) (v := ?v9c) rfl (by kernel_rfl) (by kernel_rfl) (by kernel_rfl) (fun _ _ _ h => h) (Or.inl ⟨by rfl, ?y9c⟩) (by assumption) ?r9c
 case y9c => (intro w hSw; (obtain ⟨hS0, hS1, hS2, hS3, hS4, hS5, hS6⟩ := hSw); go_simp <;> with_reducible rfl)
 try simp only [List.getElem_toArray, List.getElem_cons_succ, List.getElem_cons_zero, Act.put, List.setIfInBounds_toArray, List.set_cons_zero, List.set_cons_succ]
 refine wpAnyH_take (i := 10) (oi := _) (v := ?v10c) rfl (by kernel_rfl) (by kernel_rfl) (by kernel_rfl) (fun _ _ _ h => h) (Or.inl ⟨by rfl, ?y10c⟩) (by assumption) ?r10c
 case y10c => (intro w hSw; (obtain ⟨hS0, hS1, hS2, hS3, hS4, hS5, hS6⟩ := hSw); go_simp <;> with_reducible rfl)
 try simp only [List.getElem_toArray, List.getElem_cons_succ, List.getElem_cons_zero, Act.put, List.setIfInBounds_toArray, List.set_cons_zero, List.set_cons_succ]
 refine wpAnyH_take (i := 11) (oi := _) (v := ?v11c) rfl (by kernel_rfl) (by kernel_rfl) (by kernel_rfl) (fun _ _ _ h => h) (Or.inl ⟨by rfl, ?y11c⟩) (by assumption) ?r11c
 case y11c => (intro w hSw; (obtain ⟨hS0, hS1, hS2, hS3, hS4, hS5, hS6⟩ := hSw); go_simp <;> with_reducible rfl)
 try simp only [List.getElem_toArray, List.getElem_cons_succ, List.getElem_cons_zero, Act.put, List.setIfInBounds_toArray, List.set_cons_zero, List.set_cons_succ]
 refine wpAnyH_ready (rs := [12]) (by kernel_rfl) (by simp) ?_
 refine AllReadyH.cons (o := _) rfl (fun K hK => ?_) AllReadyH.nil
 go_simp
 refine hK.out _ _ (HS1.out _ Hk4.out) (fun hHeld2 => ?_)
 clear hK K hHeld
 have hHeld := hHeld2
 clear hHeld2
 try simp only [List.getElem_toArray, List.getElem_cons_succ, List.getElem_cons_zero, Act.put, List.setIfInBounds_toArray, List.set_cons_zero, List.set_cons_succ]
 refine wpAnyH_done (by kernel_rfl) ?_ _
 clear hHeld hupd
 go_wp2
 go_ret
 exact hP.out
theorem McAt.more {w : World} {g : Nat} {X : List Nat} {st : McD} {N N' : Nat} (h : McAt w g X st N) (hN : N ≤ N') : McAt w g X st N' := by
 obtain ⟨c, DH, h⟩ := h
 exact ⟨c, DH, h.more hN⟩
def ApA (g : Nat) (X : List Nat) (r : Int × Int × McD) (N' : Nat) (w : World) (e : Ending) (w' : World) : Prop :=
 e = .returned (.tuple #[.int .i64 r.1, .int .u64 r.2.1]) ∧ ∃ X', McAt w' g X' r.2.2 N' ∧ (∀ x ∈ X', x < w'.heap.size) ∧ (∀ x ∈ X', x ∈ X ∨ w.heap.size ≤ x) ∧ Keeps X w w'
theorem mcapply_at (g : Nat) (X : List Nat) (st : McD) (N N' : Nat) (e : EntryD) (dv : Value) (mx : Int) (w : World) (h : McAt w g X st N) (hX : ∀ x ∈ X, x < w.heap.size) (hmay : mayS st.DS e.ds = 0) (hf : (st.get (pk e.ag e.sh)).f ≤ 4611686018427387000)
  (ha : I64 e.ag) (hs : I64 e.sh) (hq : I64 e.seq) (hp : I64 e.ep) (hd : Ds w X dv e.ds) (hok : ∀ d ∈ e.ds, DOk d) (hl : e.ds.length ≤ 1000000) (hsh : Short e) (hN : N ≤ 1000000000) (hN' : N + e.ds.length + 2 ≤ N') (hm : w.cell? ⟨0, 0, none⟩ = some (.int .i64 mx)) :
  Calls Tryz.prog 56 #[.pointer (some ⟨g, 0, none⟩), .agg (eCell (e, dv)).toArray] w fun r w' => ApA g X (applyM st (pk e.ag e.sh) e) N' w r w' := by
 obtain ⟨c, DH, h⟩ := h
 refine (mcapply_any g c X st N DH e dv mx w h (fun _ _ hsn hfr W p F hin hsh' hsome hnone _ _ hd' => mcount_ok g c X (stE st e) (N + 1) DH p F e dv W hin hsh' hsome hnone ha hs hq.2 hd' hok (by omega) (by omega) hmay hsn hfr hf) ha hs hq hp hd hsh (by omega) hX hm).mono ?_
 rintro r w' ⟨h1, X', h2, h3, h4⟩
 refine ⟨h1, X', h2.more hN', fun x hx => ?_, fun x hx => (h3 x hx).imp id (·.1), h4⟩
 rcases h3 x hx with h5 | h5
 ·exact Nat.lt_of_lt_of_le (hX x h5) h4.size
 ·exact h5.2
theorem apply_dup {st : McD} {kl : Lit} {e : EntryD} (hr : rightE e = 0) (hk : e.kind ≠ 2) (hs : (st.get kl).seen e.seq = true) (hb : (st.get kl).bad = []) : applyM st kl e = (2, 0, st) := by
 unfold applyM
 rw [if_pos hr, if_neg hk, if_pos hs, hb]
 rfl
theorem apply_read {st : McD} {kl : Lit} {e : EntryD} (hr : rightE e = 0) (hk : e.kind = 2) : applyM st kl e = (8, numAt .u64 st.DS (skey e.ser), st) := by
 unfold applyM
 rw [if_pos hr, if_pos hk]
theorem apply_wrong {st : McD} {kl : Lit} {e : EntryD} (hr : rightE e ≠ 0) : applyM st kl e = (0, 0, st) := by
 unfold applyM
 rw [if_neg hr]
def kA : ByteArray := { data := #[97, 61, 49] }
theorem kA_ok : NameOk kA := ⟨[97, 61, 49], by simp [nameL], rfl⟩
noncomputable def kS : McD := fenceS 1 0 kA 2 5 (pk 1 0) mc0
theorem kS_ok : FenceOk 1 1 2 (pk 1 0) kS := (fence_next (fence_start 1 (pk 1 0)) (by omega) kA_ok ⟨by omega, by omega⟩).1
theorem kS_seen : (kS.get (pk 1 0)).seen 1 = true := (fence_next (fence_start 1 (pk 1 0)) (by omega) kA_ok (n := 5) (p := 2) ⟨by omega, by omega⟩).2
theorem kS_sum : numAt .u64 kS.DS (skey kA) = 5 := by
 show numAt .u64 ((DataW.map [] : DataW Unit).put (skey kA) (.lit (.int .u64 (addZ (numAt .u64 (DataW.map [] : DataW Unit) (skey kA)) 5)))) (skey kA) = 5
 rw [numAt_same Maps.isMap_empty (skey_key _)]
 rfl
theorem kS_ep : numAt .i64 kS.DE (ekey (-1)) = 0 := by
 show numAt .i64 ((DataW.map [] : DataW Unit).put (ekey 1) (.lit (.int .i64 2))) (ekey (-1)) = 0
 rw [numAt_other (fun h => by unfold ekey at h; injection h with _ h; omega), numAt_empty]
theorem kS_f : (kS.get (pk 1 0)).f = 1 := by
 unfold kS fenceS
 rw [McD.get_set]
 show (Win.addW 0 0 (((0 : Nat) : Int) + 1)).1 = 1
 decide +kernel
end Go.Proofs.YtinnifhnabncfaaGreatDoor.Vi
end
section
namespace Go.Proofs.YtinnifhnabncfaaGreatDoor.Vi
open Go.RowKit Base Mem Tape Go.Shelf
theorem sort64 (blk off cap : Nat) (zs : List Int) (w : World) (hH : Go.Sort.Holds (Value.int .i64) w blk off zs.toArray) (hblk : blk < w.heap.size) (hsz : zs.length < 4611686018427387904) :
  Calls Tryz.prog 162 #[.slice (some ⟨blk, off, none⟩) zs.length cap] w fun e w' =>
   e = .returned (.tuple #[]) ∧ ∃ n os, w' = Go.Sort.grow (Go.Sort.putRow (Value.int .i64) (Go.Sort.ahead w n) blk off (zs.mergeSort fun x y => decide (x ≤ y)).toArray) os :=
 AnyM.slices_Sort_int Tryz.sortI64 blk off cap zs w hH hblk hsz
def SoP (v : Value) (l : List Int) (w : World) (e : Ending) (w' : World) : Prop := e = .returned (.tuple #[]) ∧ w'.ownsRow 0 2 1 v l.length ((l.mergeSort fun x y => decide (x ≤ y)).map (Value.int .i64)) ∧ Keeps v.ownBlock.toList w w'
theorem sortI_any (v : Value) (l : List Int) (w : World) (h : w.ownsRow 0 2 1 v l.length (l.map (Value.int .i64))) (h0 : 0 < l.length) (hl : l.length ≤ 1000) :
  Calls Tryz.prog 162 #[v] w fun e w' => SoP v l w e w' := by
 rcases h.2 with ⟨_, hn⟩ | ⟨g, cap, cur, rfl, hg0, hb, h1, h2, h3, h4⟩
 ·have : l = [] := by simpa using hn
  subst this
  simp at h0
 ·refine (sort64 g 0 cap l w (holds_of_blockI hb (by simpa using h4)) (Array.getElem?_eq_some_iff.1 hb).1 (by omega)).mono ?_
  rintro e w' ⟨rfl, n, os, rfl⟩
  exact ⟨rfl, ownsRow_sortedI (by simp) hg0 hb h1 h2 h3, (Keeps.refl _ _).grown (grownBy_sortedI _) (fun k hk => .inl (by simpa [Value.ownBlock] using hk.symm))⟩
end Go.Proofs.YtinnifhnabncfaaGreatDoor.Vi
end
