/- Texts put together: Vo3z, RqN, Pax, RpR, RqP, TNum0, RqA, RqB, LeadR, LeadF. -/
import Derived.Lib.Hide
import Derived.Test.YtdaceeijifjpeaaGreatDoorRT4
import Derived.Test.YtdaceeijifjpeaaGreatDoorRT6
import Derived.Test.YtdaceeijifjpeaaGreatDoorRT7
import Derived.Test.YtdaceeijifjpeaaGreatDoorRT8
import Derived.Test.YtdaceeijifjpeaaGreatDoorRT10
import Derived.Test.YtdaceeijifjpeaaGreatDoorRT11
import Derived.Test.YtdaceeijifjpeaaGreatDoorRT12
set_option linter.unusedVariables false
set_option linter.unusedSimpArgs false
section
namespace Go.Proofs.YtdaceeijifjpeaaGreatDoor.Vi
open Go.RowKit Base Mem Tape Go.Shelf
def VoPostZ (Y Z : List Nat) (d : Nat) (b : List UInt8) (w : World) (e : Ending) (w' : World) : Prop :=
 ∃ s p, e = .returned (.pointer (some ⟨s, 0, none⟩)) ∧ StZ w' s p Y Z (lastV word0 (scanS b).1) d (b.take (scanS b).2) (scanS b).2 (scanS b).1.length ∧ Keeps Y w w' ∧ w.heap.size ≤ s ∧ w.heap.size ≤ p
/-- The word of a state is set anew. -/
theorem StZ.turn {w w' : World} {s p : Nat} {Y Z : List Nat} {x y : WordD} {d k n : Nat} {b : List UInt8} {lv : Value} (h : StZ w s p Y Z x d b k n) (hk : Keeps [] w w') (he : Ens w' ((s :: p :: Y) ++ Z) lv y.log) (hy : WOk y) :
  StZ (((w'.setCell ⟨s, 0, none⟩ (.int .i64 y.t)).setCell ⟨s, 1, none⟩ (.int .i64 y.h)).setCell ⟨s, 2, none⟩ lv) s p Y Z y d b k n := by
 have h' := h.keep0 hk
 obtain ⟨l0, hb, _, hl, hs, _⟩ := h'
 have hks : Keeps [s] w' (((w'.setCell ⟨s, 0, none⟩ (.int .i64 y.t)).setCell ⟨s, 1, none⟩ (.int .i64 y.h)).setCell ⟨s, 2, none⟩ lv) := (((Keeps.refl _ _).setCell (by simp) _).setCell (by simp) _).setCell (by simp) _
 exact ⟨lv, by simpa using ((hb.set_ 0 (.int .i64 y.t)).set_ 1 (.int .i64 y.h)).set_ 2 lv, he.keep hks (fun g hg => by simp at hg; subst hg; exact .inl (by simp)), hl.keep hks (fun g hg hm => by simp at hm; subst hm; exact hs hg), hs, hy⟩
set_option maxRecDepth 100000 in
set_option maxHeartbeats 1000000 in
theorem vopen_z (Y Z : List Nat) (d k : Nat) (b : List UInt8) (w : World) (h : DkAt w Y d b k) (hZ : ∀ g ∈ Z, g < w.heap.size) (m : Int) (hm : w.cell? ⟨0, 0, none⟩ = some (.int .i64 m)) (h0 : 0 ∉ Y) :
  Calls Tryz.prog 26 #[.pointer (some ⟨d, 0, none⟩)] w fun e w' => VoPostZ Y Z d b w e w' := by
 have hw0 : 0 < w.heap.size := by
  have := World.block_lt_of_cell? w _ hm
  simpa using this
 have ho := wopen_any Y d k b w h
 have hle := h.le
 have hYo := h.old
 obtain ⟨hs1, hs2, hs3⟩ := scanS_bd b
 have hkeepm : Hid (∀ W, Keeps Y w W → W.cell? ⟨0, 0, none⟩ = some (.int .i64 m)) := fun W hb => (hb.cell (p := ⟨0, 0, none⟩) hw0 h0).trans hm
 have Ho := Lib.hid ho; have HYo := Lib.hid hYo; have HZ := Lib.hid hZ
 have HP : Hid (∀ s p W, StZ W s p Y Z (lastV word0 (scanS b).1) d (b.take (scanS b).2) (scanS b).2 (scanS b).1.length → Keeps Y w W → w.heap.size ≤ s → w.heap.size ≤ p → VoPostZ Y Z d b w (.returned (.pointer (some ⟨s, 0, none⟩))) W) := fun s p W h1 h2 h3 h4 => ⟨s, p, rfl, h1, h2, h3, h4⟩
 have HO : Hid (∀ e W, WoPost Y d b w e W → ∃ p v, e = .returned (.tuple #[.pointer (some ⟨p, 0, none⟩), v]) ∧ w.heap.size ≤ p ∧ LgAt W p Y d (b.take (scanS b).2) (scanS b).2 (scanS b).1.length ∧ (∀ M, (∀ g ∈ M, g < w.heap.size) → Bss W (p :: M) v (scanS b).1) ∧ Keeps Y w W) := fun _ _ h => h
 clear h ho hYo hm hZ
 generalize scanS b = R at *
 obtain ⟨rs, n⟩ := R
 simp only [] at hs1 hs2 hs3 HP HO
 go_enter Tryz.func26, Tryz.ntmps26
 go_wp2_with fail
 refine Ho.out.mono ?_
 intro e w1 hpost
 obtain ⟨p, v, rfl, hp, hL, hB, hK⟩ := HO.out _ _ hpost
 have HL := Lib.hid hL; have HK := Lib.hid hK
 have hpw := hL.1.lt
 obtain ⟨w2, hw2⟩ : ∃ w2, w2 = w1.alloc (.cells #[.int .i64 0, .int .i64 0, .slice none 0 0, .pointer (some ⟨p, 0, none⟩)] 115) := ⟨_, rfl⟩
 have hk2 : Keeps [] w1 w2 := by rw [hw2]; exact (Keeps.refl _ _).alloc _
 have hS2 : StZ w2 w1.heap.size p Y Z word0 d (b.take n) n rs.length := by
  refine ⟨.slice none 0 0, by rw [hw2]; exact Blk.new w1 _ _, Ens.nil _ _, hL.keep0 hk2, fun hm => by have := hL.old _ hm; omega, word0_ok⟩
 have HB2 : Hid (Bss w2 [w1.heap.size] v rs) := ((hB [] (by simp)).avoid (M' := [w1.heap.size]) (fun g hg => by simp at hg; subst hg; exact .inr (Nat.le_refl _))).keep hk2 (by simp)
 have HS2 := Lib.hid hS2
 have HK2 : Hid (Keeps Y w w2) := hK.trans hk2 (by simp)
 have hs0 : w.heap.size ≤ w1.heap.size := hK.size
 obtain ⟨A, c, rfl, hc⟩ := HB2.out.len
 clear hpost hL hB hK hk2 hS2
 go_wp2_with fail
 rw [← hw2]
 clear hw2
 generalize w1.heap.size = s at *
 go_loopw [22] (fun i wr => ∃ j : Nat, i = .int .i64 j ∧ j ≤ rs.length ∧ Hid (StZ wr s p Y Z (lastV word0 (rs.take j)) d (b.take n) n rs.length) ∧ Hid (Keeps [s] w2 wr)) (fun i _ => rs.length - (intOf i).toNat)
 case atStart => exact ⟨0, rfl, by omega, (by show StZ _ _ _ _ _ _ _ _ _ _; exact HS2.out), Keeps.refl _ _⟩
 case round =>
  obtain ⟨j, rfl, hj, HS, HKr⟩ := hrel
  by_cases hlt : j < rs.length
  ·have hji : (j : Int) < (rs.length : Int) := by omega
   have HBr := Lib.hid (HB2.out.keep HKr.out (fun g hg => .inl hg))
   obtain ⟨g, off, cap, bv, e1, hg, hgs, hcell, hbv⟩ := HBr.out.at_ hlt
   injection e1 with e1 _ e3
   subst e1 e3
   obtain ⟨Ab, cb, rfl, _⟩ := hbv.len
   have hKw : Keeps Y w wr := HK2.out.trans HKr.out (fun g hg => by simp at hg; subst hg; exact .inr hs0)
   have hrd := Lib.hid (vread_any _ rs[j] m wr (hbv.avoid (by simp)) (hs2 _ (List.getElem_mem hlt)) (hkeepm.out wr hKw))
   have HX := Lib.hid (lastV_succ word0 rs j hlt)
   have hxk := Lib.hid (fun (y : WordD) (h : readV rs[j] = some y) => readV_ok (by have := hs2 _ (List.getElem_mem hlt); omega) h)
   clear hbv hKw
   generalize readV rs[j] = rv at *
   generalize rs[j] = rj at *
   have hcc := hcell
   go_wp2_with fail
   refine hrd.out.mono ?_
   intro e w3 hpost
   cases rv with
   | none =>
    simp only [VrPost] at hpost
    obtain ⟨a0, b0, A0, n0, c0, rfl, hk3⟩ := hpost
    have HS3 : Hid (StZ (w3.alloc (.cells #[.int .i64 a0, .int .i64 b0, .slice A0 n0 c0] 113)) s p Y Z (lastV word0 (rs.take (j + 1))) d (b.take n) n rs.length) := by
     show StZ _ _ _ _ _ _ _ _ _ _
     rw [HX.out]
     exact HS.out.keep0 (hk3.alloc _)
    have HK3 : Hid (Keeps [s] w2 (w3.alloc (.cells #[.int .i64 a0, .int .i64 b0, .slice A0 n0 c0] 113))) := HKr.out.trans (hk3.alloc _) (by simp)
    clear hk3 hrd
    go_wp2_with fail
    go_roundw
    case rel => exact ⟨j + 1, by go_num, by omega, HS3, HK3⟩
    case measure => simp [intOf] <;> omega
   | some y =>
    simp only [VrPost] at hpost
    obtain ⟨lv, rfl, hE, hk3⟩ := hpost
    obtain ⟨Al, cl, rfl, _⟩ := (hE [] (by simp)).len
    have hyk := hxk.out y rfl
    have hE3 : Ens w3 ((s :: p :: Y) ++ Z) (.slice Al y.log.length cl) y.log := hE _ (fun g hg => (List.mem_append.1 hg).elim (HS.out.old g) (fun h9 => Nat.lt_of_lt_of_le (HZ.out g h9) (Nat.le_trans HK2.out.size HKr.out.size)))
    have HT := HS.out.turn hk3 hE3 hyk
    have hS3 := HS.out.keep0 hk3
    obtain ⟨As, cs, hbs, _⟩ := hS3.lv
    obtain ⟨s0, s1, s2, s3, hsl⟩ := blk4 hbs
    have f0 := hbs.frozen 0; have f1 := hbs.frozen 1; have f2 := hbs.frozen 2
    have HK5 : Keeps [s] w2 (((w3.setCell ⟨s, 0, none⟩ (.int .i64 y.t)).setCell ⟨s, 1, none⟩ (.int .i64 y.h)).setCell ⟨s, 2, none⟩ (.slice Al y.log.length cl)) :=
     (((HKr.out.trans hk3 (by simp)).setCell (by simp) _).setCell (by simp) _).setCell (by simp) _
    have HX2 : Hid (lastV word0 (rs.take (j + 1)) = y) := HX.out
    have HS5 : Hid (StZ ((((w3.setCell ⟨s, 0, none⟩ (.int .i64 y.t)).setCell ⟨s, 1, none⟩ (.int .i64 y.h)).setCell ⟨s, 2, none⟩ (.slice Al y.log.length cl)).alloc (.cells #[.int .i64 y.t, .int .i64 y.h, .slice Al y.log.length cl] 113)) s p Y Z (lastV word0 (rs.take (j + 1))) d (b.take n) n rs.length) := by
     show StZ _ _ _ _ _ _ _ _ _ _
     rw [HX2.out]
     exact HT.keep0 ((Keeps.refl _ _).alloc _)
    have HK6 := Lib.hid (HK5.alloc (.cells #[.int .i64 y.t, .int .i64 y.h, .slice Al y.log.length cl] 113))
    clear hE hk3 hrd hE3 hS3 hbs HX HK5 HT HX2
    go_wp2_with fail
    go_roundw
    case rel => exact ⟨j + 1, by go_num, by omega, HS5, HK6⟩
    case measure => simp [intOf] <;> omega
  ·obtain rfl : j = rs.length := by omega
   have hji : ¬ (rs.length : Int) < (rs.length : Int) := by omega
   have hfin : Hid (VoPostZ Y Z d b w (.returned (.pointer (some ⟨s, 0, none⟩))) wr) := HP.out s p wr (by have := HS.out; rwa [List.take_length] at this) (HK2.out.trans HKr.out (fun g hg => by simp at hg; subst hg; exact .inr hs0)) hs0 hp
   go_wp2
   go_ret
   exact hfin.out
end Go.Proofs.YtdaceeijifjpeaaGreatDoor.Vi
end
section
namespace Go.Proofs.YtdaceeijifjpeaaGreatDoor.Vi
open Go.RowKit Base Mem Go.Shelf Tape
open Lead (VoteD VoteAt promiseS wonS accS medS termS newVote)
section
variable {w w' : World} {Y : List Nat} {d k : Nat} {b : List UInt8}
def RnPostZ (Y Z : List Nat) (d : Nat) (R : RpD) (w : World) (e : Ending) (w' : World) : Prop :=
 ∃ r M tg, e = .returned (.pointer (some ⟨r, 0, none⟩)) ∧ RpAt w' M tg r d R ∧ (∀ g ∈ M, g ∈ Y ∨ g ∈ Z ∨ w.heap.size ≤ g) ∧ (∀ g ∈ M, g < w'.heap.size) ∧ (∀ g ∈ Z, g ∈ M) ∧ (∀ g ∈ Y, g ∈ M ∧ tg g = 4) ∧ (∀ g, g < w.heap.size → g ∉ Y → tg g = 99) ∧ Keeps Y w w' ∧ w.heap.size ≤ r
set_option maxRecDepth 100000 in
set_option maxHeartbeats 1000000 in
theorem rpnew_z (Z : List Nat) (hZ0 : ∀ g ∈ Z, g < w.heap.size) (node nodes : Int) (h1 : 1 ≤ nodes) (h2 : nodes ≤ 8) (h3 : 0 ≤ node) (h4 : node < nodes) (hd : DkAt w Y d b k) (mx : Int) (hm : w.cell? ⟨0, 0, none⟩ = some (.int .i64 mx)) (h0 : 0 ∉ Y) :
  Calls Tryz.prog 7 #[.int .i64 node, .int .i64 nodes, .pointer (some ⟨d, 0, none⟩)] w fun e w' => RnPostZ Y Z d (rpNew node nodes b) w e w' := by
 have HV := Lib.hid (vopen_z Y Z d k b w hd hZ0 mx hm h0)
 have HZ0 := Lib.hid hZ0
 have e1 : decide (nodes < 1) = false := decide_eq_false (by omega)
 have e2 : decide (8 < nodes) = false := decide_eq_false (by omega)
 have e3 : decide (node < 0) = false := decide_eq_false (by omega)
 have e4 : decide (nodes ≤ node) = false := decide_eq_false (by omega)
 have HB := Lib.hid (⟨⟨h1, h2⟩, h3, h4⟩ : (1 ≤ nodes ∧ nodes ≤ 8) ∧ 0 ≤ node ∧ node < nodes)
 have HY : Hid (∀ g ∈ Y, g < w.heap.size) := by obtain ⟨_, _, _, _, _, _, _, h⟩ := hd; exact h
 clear h1 h2 h3 h4 hd hm h0 hZ0
 go_enter Tryz.func7, Tryz.ntmps7
 go_wp2_with fail
 refine HV.out.mono ?_
 rintro e w1 ⟨s, p, rfl, hst, hk1, hs, hp⟩
 have Hst := Lib.hid hst; have Hk1 := Lib.hid hk1; have Hs := Lib.hid hs; have Hp := Lib.hid hp
 clear hst hk1 hs hp HV
 go_wp2_with fail
 refine (mcnew_any w1).mono ?_
 rintro e w2 ⟨g, X, rfl, hmc, hX, hb⟩
 have Hmc := Lib.hid hmc; have HXn := Lib.hid hX; have Hb := Lib.hid hb
 clear hmc hX hb
 go_wp2_with fail
 go_ret
 clear e1 e2 e3 e4
 obtain ⟨w3, hw3⟩ : ∃ w3, w3 = w2.alloc (.cells #[.int .i64 node, .int .i64 nodes, .pointer (some ⟨s, 0, none⟩), .pointer (some ⟨g, 0, none⟩), .int .i64 0, .pointer none, .bool false, .int .i64 0] 72) := ⟨_, rfl⟩
 have hk3 : Keeps [] w2 w3 := by rw [hw3]; exact (Keeps.refl _ _).alloc _
 have hB : Blk w3 w2.heap.size 72 #[.int .i64 node, .int .i64 nodes, .pointer (some ⟨s, 0, none⟩), .pointer (some ⟨g, 0, none⟩), .int .i64 0, .pointer none, .bool false, .int .i64 0] := by rw [hw3]; exact Blk.new w2 _ _
 show RnPostZ Y Z d (rpNew node nodes b) w (.returned (.pointer (some ⟨w2.heap.size, 0, none⟩))) (w2.alloc _)
 rw [← hw3]
 clear hw3
 have hk2 : Keeps [] w1 w2 := Keeps.of_below (M := []) Hb.out
 obtain ⟨X', hmc, hX'⟩ := mc_core Hmc.out
 have z12 := hk2.size
 have z01 := Hk1.out.size
 have z23 := hB.lt
 have ls := Hst.out.st.old s (by simp)
 have lp := Hst.out.st.old p (by simp)
 have hs := Hs.out
 have hp := Hp.out
 have lX : ∀ x ∈ X', w1.heap.size ≤ x ∧ x < w2.heap.size := fun x hx => ⟨HXn.out x (hX' x hx).1, (hX' x hx).2⟩
 obtain ⟨lv, hb1, he1, hl1, hsY, hwk⟩ := Hst.out
 have hsp : s ≠ p := fun e => hsY (by rw [e]; simp)
 have hM : ∀ x ∈ (w2.heap.size :: s :: p :: (Y ++ X')) ++ Z, x ∈ (s :: p :: Y) ++ Z ∨ w1.heap.size ≤ x := fun x hx => by
  rcases List.mem_append.1 hx with hx | hx
  ·rcases List.mem_cons.1 hx with rfl | hx
   ·exact .inr z12
   ·rcases List.mem_cons.1 hx with rfl | hx
    ·exact .inl (by simp)
    ·rcases List.mem_cons.1 hx with rfl | hx
     ·exact .inl (by simp)
     ·rcases List.mem_append.1 hx with hx | hx
      ·exact .inl (by simp [hx])
      ·exact .inr (lX x hx).1
  ·exact .inl (List.mem_append_right _ hx)
 have hZ : StZ w1 s p Y ((w2.heap.size :: s :: p :: (Y ++ X')) ++ Z) (lastV word0 (scanS b).1) d (b.take (scanS b).2) (scanS b).2 (scanS b).1.length := ⟨lv, hb1, he1.avoid (fun x hx => by
  rcases List.mem_append.1 hx with hx | hx
  ·exact .inl (List.mem_append_left _ hx)
  ·exact hM x hx), hl1, hsY, hwk⟩
 have hin : ∀ x, x ∈ w2.heap.size :: s :: p :: (Y ++ X') → x ∈ (w2.heap.size :: s :: p :: (Y ++ X')) ++ Z := fun x hx => List.mem_append_left _ hx
 refine ⟨w2.heap.size, (w2.heap.size :: s :: p :: (Y ++ X')) ++ Z, fun x => if x = w2.heap.size then 1 else if x = s then 2 else if x = p then 3 else if x ∈ X' then 5 else if x ∈ Y then 4 else 99, rfl, ⟨?_, ⟨s, p, g, d, Y, X', 0, 0⟩, rfl, ⟨hB, (hZ.keep0 hk2).keep0 hk3, hmc.keep hk3 (by simp), fun v hv => (nomatch hv), hin _ (by simp), by simp, hin _ (by simp), ?_, hin _ (by simp), ?_, fun x hx => ⟨hin _ (by simp [hx]), ?_⟩, fun x hx => ⟨hin _ (by simp [hx]), ?_⟩, Nat.zero_le _⟩⟩, fun x hx => ?_, fun x hx => ?_, fun x hx => List.mem_append_right _ hx, fun x hx => ⟨hin _ (by simp [hx]), ?_⟩, fun x hx hn => ?_, (Hk1.out.trans hk2 (by simp)).trans hk3 (by simp), by omega⟩
 ·exact ⟨HB.out.1, HB.out.2, ⟨Nat.zero_le _, Nat.zero_le _⟩, Nat.zero_le _, fun kl => by show (mc00.get kl).f ≤ 64 * ((0 : Nat) : Int); exact Int.le_refl _, fun v hv => (nomatch hv), fun hl => (nomatch hl)⟩
 ·show (if s = w2.heap.size then 1 else if s = s then 2 else _) = 2
  rw [if_neg (by omega), if_pos rfl]
 ·show (if p = w2.heap.size then 1 else if p = s then 2 else if p = p then 3 else _) = 3
  rw [if_neg (by omega), if_neg (fun e => hsp e.symm), if_pos rfl]
 ·have h1 := HY.out x hx
  show (if x = w2.heap.size then 1 else if x = s then 2 else if x = p then 3 else if x ∈ X' then 5 else if x ∈ Y then 4 else 99) = 4
  rw [if_neg (by omega), if_neg (by omega), if_neg (by omega), if_neg (fun hm => by have := lX x hm; omega), if_pos hx]
 ·have h1 := lX x hx
  show (if x = w2.heap.size then 1 else if x = s then 2 else if x = p then 3 else if x ∈ X' then 5 else if x ∈ Y then 4 else 99) = 5
  rw [if_neg (by omega), if_neg (by omega), if_neg (by omega), if_pos hx]
 ·rcases List.mem_append.1 hx with hx | hx
  ·rcases List.mem_cons.1 hx with rfl | hx
   ·exact .inr (.inr (by omega))
   ·rcases List.mem_cons.1 hx with rfl | hx
    ·exact .inr (.inr hs)
    ·rcases List.mem_cons.1 hx with rfl | hx
     ·exact .inr (.inr hp)
     ·rcases List.mem_append.1 hx with hx | hx
      ·exact .inl hx
      ·exact .inr (.inr (by have := lX x hx; omega))
  ·exact .inr (.inl hx)
 ·rcases List.mem_append.1 hx with hx | hx
  ·rcases List.mem_cons.1 hx with rfl | hx
   ·exact z23
   ·rcases List.mem_cons.1 hx with rfl | hx
    ·omega
    ·rcases List.mem_cons.1 hx with rfl | hx
     ·omega
     ·rcases List.mem_append.1 hx with hx | hx
      ·have := HY.out x hx; omega
      ·have := lX x hx; omega
  ·have := HZ0.out x hx; omega
 ·have h1 := HY.out x hx
  show (if x = w2.heap.size then 1 else if x = s then 2 else if x = p then 3 else if x ∈ X' then 5 else if x ∈ Y then 4 else 99) = 4
  rw [if_neg (by omega), if_neg (by omega), if_neg (by omega), if_neg (fun hm => by have := lX x hm; omega), if_pos hx]
 ·show (if x = w2.heap.size then 1 else if x = s then 2 else if x = p then 3 else if x ∈ X' then 5 else if x ∈ Y then 4 else 99) = 99
  rw [if_neg (by omega), if_neg (by omega), if_neg (by omega), if_neg (fun hm => by have := lX x hm; omega), if_neg hn]
end
end Go.Proofs.YtdaceeijifjpeaaGreatDoor.Vi
end
section
namespace Go.Proofs.YtdaceeijifjpeaaGreatDoor.Px
def upd {α : Type} (f : Nat → α) (i : Nat) (x : α) : Nat → α := fun k => if k = i then x else f k
theorem upd_same {α : Type} (f : Nat → α) (i : Nat) (x : α) : upd f i x i = x := if_pos rfl
theorem upd_ne {α : Type} (f : Nat → α) {i k : Nat} (x : α) (h : k ≠ i) : upd f i x k = f k := if_neg h
/-- More than half. -/
def Quo (N : Nat) (p : Nat → Bool) : Prop := N < 2 * (List.range N).countP p
theorem count_inter (p q : Nat → Bool) : ∀ l : List Nat, l.countP p + l.countP q ≤ l.countP (fun x => p x && q x) + l.length
 | [] => by simp
 | x :: l => by
  have := count_inter p q l
  simp only [List.countP_cons, List.length_cons]
  cases p x <;> cases q x <;> simp <;> omega
theorem Quo.inter {N : Nat} {p q : Nat → Bool} (hp : Quo N p) (hq : Quo N q) : ∃ i, i < N ∧ p i = true ∧ q i = true := by
 have h := count_inter p q (List.range N)
 unfold Quo at hp hq
 rw [List.length_range] at h
 have h1 : 0 < (List.range N).countP (fun x => p x && q x) := by omega
 obtain ⟨i, hi, hb⟩ := List.countP_pos_iff.1 h1
 rw [Bool.and_eq_true] at hb
 exact ⟨i, List.mem_range.1 hi, hb.1, hb.2⟩
theorem Quo.mono {N : Nat} {p q : Nat → Bool} (hp : Quo N p) (h : ∀ i, i < N → p i = true → q i = true) : Quo N q := by
 have := List.countP_mono_left (l := List.range N) (p := p) (q := q) (fun x hx hp => h x (List.mem_range.1 hx) hp)
 unfold Quo at *
 omega
/-- A vote. -/
structure Vt (E : Type) where
 term : Nat
 P : Nat → Bool
 h : Nat
 best : List E
 acc : Nat → Nat
/-- Replicas, what was ever sent, and what only the proof knows. -/
structure St (E : Type) where
 t : Nat → Nat
 h : Nat → Nat
 log : Nat → List E
 com : Nat → Nat
 v : Nat → Option (Vt E)
 lead : Nat → Bool
 SP : Nat → Nat → Nat → List E → Prop
 SA : Nat → List E → Nat → Prop
 SD : Nat → Nat → Nat → Prop
 A : Nat → Nat → Nat
 L0 : Nat → Option (List E)
 L : Nat → List E
 Q : Nat → Nat → Bool
variable {E : Type}
def Chosen (N : Nat) (s : St E) (t n : Nat) : Prop := Quo N fun i => decide (n ≤ s.A i t)
def Chb (N : Nat) (s : St E) (t n : Nat) : Prop := Quo N fun i => decide (n ≤ s.A i t) || decide (s.t i ≤ t)
def CP (N : Nat) (s : St E) (t : Nat) (p : List E) : Prop := p = [] ∨ ∃ t0 n, t0 ≤ t ∧ Chosen N s t0 n ∧ p <+: (s.L t0).take n
structure Inv (N : Nat) (s : St E) : Prop where
 ht : ∀ i, s.h i ≤ s.t i
 h0 : ∀ i, s.h i = 0 → s.log i = []
 hw : ∀ i, 0 < s.h i → ∃ l0, s.L0 (s.h i) = some l0 ∧ l0 <+: s.log i ∧ s.log i <+: s.L (s.h i)
 ah : ∀ i t, s.h i < t → s.A i t = 0
 al : ∀ i, s.A i (s.h i) = (s.log i).length
 aL : ∀ i t, s.A i t ≤ (s.L t).length
 aw : ∀ i t, 0 < s.A i t → ∃ l0, s.L0 t = some l0
 wl : ∀ t l0, s.L0 t = some l0 → l0 <+: s.L t ∧ Quo N (s.Q t) ∧ (∀ j, j < N → s.Q t j = true → t ≤ s.t j) ∧ t ≤ s.t (t % N) ∧ 0 < t
 key : ∀ t t' l0 n, s.L0 t' = some l0 → t < t' → Chb N s t n → (s.L t).take n <+: l0
 sp : ∀ i t h l, s.SP i t h l → t ≤ s.t i ∧ h < t ∧ (h = 0 → l = []) ∧ (0 < h → ∃ l0, s.L0 h = some l0 ∧ l0 <+: l ∧ l <+: s.L h) ∧ (∀ t2, h < t2 → t2 < t → s.A i t2 = 0) ∧ s.A i h ≤ l.length
 sa : ∀ t l c, s.SA t l c → ∃ l0, s.L0 t = some l0 ∧ l0 <+: l ∧ l <+: s.L t ∧ c ≤ l.length ∧ CP N s t ((s.L t).take c)
 sd : ∀ i t n, s.SD i t n → n ≤ s.A i t
 vt : ∀ i v, s.v i = some v → v.term = s.t i ∧ v.term % N = i ∧ (∀ j, v.P j = true → ∃ h l, s.SP j v.term h l ∧ (h < v.h ∨ h = v.h ∧ l.length ≤ v.best.length)) ∧ (∃ j, s.SP j v.term v.h v.best) ∧ (∀ j, v.acc j ≤ s.A j v.term) ∧ (s.lead i = false → s.L0 v.term = none)
 ld : ∀ i, s.lead i = true → ∃ v, s.v i = some v ∧ s.h i = v.term ∧ s.log i = s.L v.term
 cm : ∀ i, s.com i ≤ (s.log i).length ∧ CP N s (s.h i) ((s.log i).take (s.com i))
theorem comparable {a b c : List E} (ha : a <+: c) (hb : b <+: c) (n : Nat) (h1 : n ≤ a.length) (h2 : n ≤ b.length) : a.take n = b.take n := by
 have e1 := List.prefix_iff_eq_take.1 ha
 have e2 := List.prefix_iff_eq_take.1 hb
 rw [e1, e2, List.take_take, List.take_take, Nat.min_eq_left h1, Nat.min_eq_left h2]
theorem CP.won {N : Nat} {s : St E} (hI : Inv N s) {t n : Nat} (h : Chosen N s t n) (hn : 0 < n) : ∃ l0, s.L0 t = some l0 := by
 obtain ⟨i, _, h1, _⟩ := Quo.inter h h
 have := of_decide_eq_true h1
 exact hI.aw i t (by omega)
theorem Chosen.chb {N : Nat} {s : St E} {t n : Nat} (h : Chosen N s t n) : Chb N s t n := h.mono (fun i _ hi => by simp only [hi, Bool.true_or])
/-- Two that are chosen go one behind the other. -/
theorem CP.both {N : Nat} {s : St E} (hI : Inv N s) {t1 t2 : Nat} {p q : List E} (hp : CP N s t1 p) (hq : CP N s t2 q) (hl : p.length ≤ q.length) : p <+: q := by
 rcases hp with rfl | ⟨a, n, _, hc, hpa⟩
 ·exact List.nil_prefix
 ·rcases hq with rfl | ⟨b, m, _, hd, hqb⟩
  ·simp at hl
   subst hl
   exact List.nil_prefix
  ·rcases Nat.lt_trichotomy a b with h | h | h
   ·have hm : 0 < m ∨ q = [] := by
     rcases Nat.eq_zero_or_pos m with h0 | h0
     ·subst h0
      right
      simpa using hqb
     ·exact .inl h0
    rcases hm with hm | rfl
    ·obtain ⟨l0, hl0⟩ := CP.won hI hd hm
     have h1 := hI.key a b l0 n hl0 h hc.chb
     have h2 := (hI.wl b l0 hl0).1
     exact List.prefix_of_prefix_length_le ((hpa.trans h1).trans h2) (hqb.trans (List.take_prefix _ _)) hl
    ·simp at hl
     subst hl
     exact List.nil_prefix
   ·subst h
    exact List.prefix_of_prefix_length_le (hpa.trans (List.take_prefix _ _)) (hqb.trans (List.take_prefix _ _)) hl
   ·have hm : 0 < n ∨ p = [] := by
     rcases Nat.eq_zero_or_pos n with h0 | h0
     ·subst h0
      right
      simpa using hpa
     ·exact .inl h0
    rcases hm with hm | rfl
    ·obtain ⟨l0, hl0⟩ := CP.won hI hc hm
     have h1 := hI.key b a l0 m hl0 h hd.chb
     have h2 := (hI.wl a l0 hl0).1
     exact List.prefix_of_prefix_length_le (hpa.trans (List.take_prefix _ _)) ((hqb.trans h1).trans h2) hl
    ·exact List.nil_prefix
theorem Inv.agree {N : Nat} {s : St E} (hI : Inv N s) (i k n : Nat) (h1 : n ≤ s.com i) (h2 : n ≤ s.com k) : n ≤ (s.log i).length ∧ n ≤ (s.log k).length ∧ (s.log i).take n = (s.log k).take n := by
 obtain ⟨a1, a2⟩ := hI.cm i
 obtain ⟨b1, b2⟩ := hI.cm k
 refine ⟨by omega, by omega, ?_⟩
 have e1 : (s.log i).take n = ((s.log i).take (s.com i)).take n := by rw [List.take_take, Nat.min_eq_left h1]
 have e2 : (s.log k).take n = ((s.log k).take (s.com k)).take n := by rw [List.take_take, Nat.min_eq_left h2]
 rw [e1, e2]
 rcases Nat.le_total ((s.log i).take (s.com i)).length ((s.log k).take (s.com k)).length with h | h
 ·have := CP.both hI a2 b2 h
  exact comparable this (List.prefix_refl _) n (by rw [List.length_take]; omega) (by rw [List.length_take]; omega)
 ·have := CP.both hI b2 a2 h
  exact comparable (List.prefix_refl _) this n (by rw [List.length_take]; omega) (by rw [List.length_take]; omega)
def down (s : St E) (i : Nat) : St E := { s with v := upd s.v i none, lead := upd s.lead i false }
theorem Inv.down {N : Nat} {s : St E} (hI : Inv N s) (i : Nat) : Inv N (down s i) where
 ht := hI.ht
 h0 := hI.h0
 hw := hI.hw
 ah := hI.ah
 al := hI.al
 aL := hI.aL
 aw := hI.aw
 wl := hI.wl
 key := hI.key
 sp := hI.sp
 sa := hI.sa
 sd := hI.sd
 vt := fun k v hv => by
  by_cases hk : k = i
  ·subst hk
   simp [Px.down, upd_same] at hv
  ·simp only [Px.down, upd_ne _ _ hk] at hv ⊢
   exact hI.vt k v hv
 ld := fun k hv => by
  by_cases hk : k = i
  ·subst hk
   simp [Px.down, upd_same] at hv
  ·simp only [Px.down, upd_ne _ _ hk] at hv ⊢
   exact hI.ld k hv
 cm := hI.cm
/-- What is committed by a node. -/
def setCom (s : St E) (i c : Nat) : St E := { s with com := upd s.com i c }
theorem Inv.setCom {N : Nat} {s : St E} (hI : Inv N s) (i c : Nat) (hc : c ≤ (s.log i).length) (hp : CP N s (s.h i) ((s.log i).take c)) : Inv N (setCom s i c) where
 ht := hI.ht
 h0 := hI.h0
 hw := hI.hw
 ah := hI.ah
 al := hI.al
 aL := hI.aL
 aw := hI.aw
 wl := hI.wl
 key := hI.key
 sp := hI.sp
 sa := hI.sa
 sd := hI.sd
 vt := hI.vt
 ld := hI.ld
 cm := fun k => by
  by_cases hk : k = i
  ·subst hk
   simp only [Px.setCom, upd_same]
   exact ⟨hc, hp⟩
  ·simp only [Px.setCom, upd_ne _ _ hk]
   exact hI.cm k
/-- A crash. -/
theorem Inv.crash {N : Nat} {s : St E} (hI : Inv N s) (i : Nat) : Inv N (Px.setCom (Px.down s i) i 0) := (hI.down i).setCom i 0 (Nat.zero_le _) (.inl (by simp))
/-- A promise. -/
def prom (s : St E) (i t' : Nat) : St E :=
 { s with t := upd s.t i t', v := upd s.v i none, lead := upd s.lead i false, SP := fun a b c d => s.SP a b c d ∨ (a = i ∧ b = t' ∧ c = s.h i ∧ d = s.log i) }
theorem prom_t {s : St E} {i t' : Nat} (h : s.t i < t') (k : Nat) : s.t k ≤ (prom s i t').t k := by
 by_cases hk : k = i
 ·subst hk; simp only [prom, upd_same]; omega
 ·simp only [prom, upd_ne _ _ hk]; omega
theorem Inv.prom {N : Nat} {s : St E} (hI : Inv N s) (i t' : Nat) (h : s.t i < t') : Inv N (prom s i t') where
 ht := fun k => Nat.le_trans (hI.ht k) (prom_t h k)
 h0 := hI.h0
 hw := hI.hw
 ah := hI.ah
 al := hI.al
 aL := hI.aL
 aw := hI.aw
 wl := fun t l0 h1 => by
  obtain ⟨a, b, c, d, e⟩ := hI.wl t l0 h1
  exact ⟨a, b, fun j hj hq => Nat.le_trans (c j hj hq) (prom_t h j), Nat.le_trans d (prom_t h _), e⟩
 key := fun t u l0 n h1 h2 h3 => hI.key t u l0 n h1 h2 (h3.mono (fun j _ hj => by
  rw [Bool.or_eq_true] at hj ⊢
  refine hj.imp id (fun h4 => ?_)
  have h5 := of_decide_eq_true h4
  have h6 := prom_t h j
  exact decide_eq_true (by omega)))
 sp := fun a t c l h1 => by
  rcases h1 with h1 | ⟨rfl, rfl, rfl, rfl⟩
  ·obtain ⟨q1, q2⟩ := hI.sp a t c l h1
   exact ⟨Nat.le_trans q1 (prom_t h a), q2⟩
  ·refine ⟨by simp only [Px.prom, upd_same]; omega, ?_, hI.h0 a, hI.hw a, fun t2 h2 _ => hI.ah a t2 h2, Nat.le_of_eq (hI.al a)⟩
   have := hI.ht a
   omega
 sa := hI.sa
 sd := hI.sd
 vt := fun k v hv => by
  by_cases hk : k = i
  ·subst hk
   simp [Px.prom, upd_same] at hv
  ·simp only [Px.prom, upd_ne _ _ hk] at hv ⊢
   obtain ⟨a, b, c, ⟨j, d⟩, e⟩ := hI.vt k v hv
   exact ⟨a, b, fun j hj => by obtain ⟨x, y, q1, q2⟩ := c j hj; exact ⟨x, y, .inl q1, q2⟩, ⟨j, .inl d⟩, e⟩
 ld := fun k hv => by
  by_cases hk : k = i
  ·subst hk
   simp [Px.prom, upd_same] at hv
  ·simp only [Px.prom, upd_ne _ _ hk] at hv ⊢
   exact hI.ld k hv
 cm := hI.cm
/-- A vote begins, or goes on. -/
def setV (s : St E) (i : Nat) (v : Vt E) : St E := { s with v := upd s.v i (some v) }
theorem Inv.setV {N : Nat} {s : St E} (hI : Inv N s) (i : Nat) (v : Vt E)
  (hv : v.term = s.t i ∧ v.term % N = i ∧ (∀ j, v.P j = true → ∃ h l, s.SP j v.term h l ∧ (h < v.h ∨ h = v.h ∧ l.length ≤ v.best.length)) ∧ (∃ j, s.SP j v.term v.h v.best) ∧ (∀ j, v.acc j ≤ s.A j v.term) ∧ (s.lead i = false → s.L0 v.term = none))
  (hl : s.lead i = true → s.h i = v.term ∧ s.log i = s.L v.term) : Inv N (setV s i v) where
 ht := hI.ht
 h0 := hI.h0
 hw := hI.hw
 ah := hI.ah
 al := hI.al
 aL := hI.aL
 aw := hI.aw
 wl := hI.wl
 key := hI.key
 sp := hI.sp
 sa := hI.sa
 sd := hI.sd
 vt := fun k x hx => by
  by_cases hk : k = i
  ·subst hk
   simp only [Px.setV, upd_same, Option.some.injEq] at hx
   subst hx
   exact hv
  ·simp only [Px.setV, upd_ne _ _ hk] at hx ⊢
   exact hI.vt k x hx
 ld := fun k hx => by
  by_cases hk : k = i
  ·subst hk
   exact ⟨v, by simp only [Px.setV, upd_same], hl hx⟩
  ·simp only [Px.setV, upd_ne _ _ hk]
   exact hI.ld k hx
 cm := hI.cm
/-- A node tries to lead. -/
def tryV (s : St E) (i t' : Nat) : Vt E := ⟨t', fun j => decide (j = i), s.h i, s.log i, fun _ => 0⟩
theorem Inv.try_ {N : Nat} {s : St E} (hI : Inv N s) (i t' : Nat) (h : s.t i < t') (hm : t' % N = i) : Inv N (Px.setV (Px.prom s i t') i (tryV s i t')) := by
 refine (hI.prom i t' h).setV i _ ⟨?_, hm, fun j hj => ?_, ⟨i, .inr ⟨rfl, rfl, rfl, rfl⟩⟩, fun j => Nat.zero_le _, fun _ => ?_⟩ (fun hl => ?_)
 ·simp only [Px.prom, upd_same, tryV]
 ·have := of_decide_eq_true hj
  subst this
  exact ⟨_, _, .inr ⟨rfl, rfl, rfl, rfl⟩, .inr ⟨rfl, Nat.le_refl _⟩⟩
 ·show s.L0 t' = none
  cases h0 : s.L0 t' with
  | none => rfl
  | some l0 =>
   have := (hI.wl t' l0 h0).2.2.2.1
   rw [hm] at this
   omega
 ·simp [Px.prom, upd_same] at hl
/-- A promise is counted. -/
def gotV (v : Vt E) (j h : Nat) (l : List E) : Vt E :=
 if v.h < h ∨ h = v.h ∧ v.best.length < l.length then { v with P := upd v.P j true, h := h, best := l } else { v with P := upd v.P j true }
theorem Inv.got {N : Nat} {s : St E} (hI : Inv N s) {i : Nat} {v : Vt E} (hv : s.v i = some v) (hl : s.lead i = false) {j h : Nat} {l : List E} (hp : s.SP j v.term h l) : Inv N (Px.setV s i (gotV v j h l)) := by
 obtain ⟨a, b, c, ⟨j0, d⟩, e, f⟩ := hI.vt i v hv
 have ht : (gotV v j h l).term = v.term := by unfold gotV; split <;> rfl
 have ha : (gotV v j h l).acc = v.acc := by unfold gotV; split <;> rfl
 have hP : (gotV v j h l).P = upd v.P j true := by unfold gotV; split <;> rfl
 refine hI.setV i _ ⟨by rw [ht]; exact a, by rw [ht]; exact b, fun k hk => ?_, ?_, by rw [ht, ha]; exact e, by rw [ht]; exact f⟩ (fun h1 => by rw [hl] at h1; cases h1)
 ·rw [ht]
  rw [hP] at hk
  have hbig : v.h < (gotV v j h l).h ∨ v.h = (gotV v j h l).h ∧ v.best.length ≤ (gotV v j h l).best.length := by
   unfold gotV
   split
   ·rename_i h1
    rcases h1 with h1 | ⟨h1, h2⟩
    ·exact .inl h1
    ·exact .inr ⟨h1.symm, Nat.le_of_lt h2⟩
   ·exact .inr ⟨rfl, Nat.le_refl _⟩
  by_cases hkj : k = j
  ·subst hkj
   refine ⟨h, l, hp, ?_⟩
   unfold gotV
   split
   ·exact .inr ⟨rfl, Nat.le_refl _⟩
   ·rename_i h1
    show h < v.h ∨ h = v.h ∧ l.length ≤ v.best.length
    omega
  ·rw [upd_ne _ _ hkj] at hk
   obtain ⟨x, y, q1, q2⟩ := c k hk
   exact ⟨x, y, q1, by omega⟩
 ·rw [ht]
  unfold gotV
  split
  ·exact ⟨j, hp⟩
  ·exact ⟨j0, d⟩
/-- What was accepted is counted. -/
theorem Inv.note {N : Nat} {s : St E} (hI : Inv N s) {i : Nat} {v : Vt E} (hv : s.v i = some v) (j n : Nat) (hn : n ≤ s.A j v.term) : Inv N (Px.setV s i { v with acc := upd v.acc j (max (v.acc j) n) }) := by
 obtain ⟨a, b, c, d, e, f⟩ := hI.vt i v hv
 refine hI.setV i _ ⟨a, b, c, d, fun k => ?_, f⟩ (fun hl => ?_)
 ·show upd v.acc j (max (v.acc j) n) k ≤ _
  by_cases hk : k = j
  ·subst hk
   rw [upd_same]
   exact Nat.max_le.2 ⟨e k, hn⟩
  ·rw [upd_ne _ _ hk]; exact e k
 ·obtain ⟨v', h1, h2⟩ := hI.ld i hl
  rw [hv] at h1
  injection h1 with h1
  subst h1
  exact h2
/-- Letters. -/
def sendA (s : St E) (t : Nat) (l : List E) (c : Nat) : St E := { s with SA := fun a b d => s.SA a b d ∨ (a = t ∧ b = l ∧ d = c) }
theorem Inv.sendA {N : Nat} {s : St E} (hI : Inv N s) (t : Nat) (l : List E) (c : Nat) (h : ∃ l0, s.L0 t = some l0 ∧ l0 <+: l ∧ l <+: s.L t ∧ c ≤ l.length ∧ CP N s t ((s.L t).take c)) : Inv N (sendA s t l c) :=
 { hI with sa := fun a b d h1 => h1.elim (hI.sa a b d) (fun h2 => (by obtain ⟨rfl, rfl, rfl⟩ := h2; exact h)) }
theorem Inv.sends {N : Nat} {s : St E} (hI : Inv N s) {i : Nat} (hl : s.lead i = true) : Inv N (Px.sendA s (s.t i) (s.log i) (s.com i)) := by
 obtain ⟨v, h1, h2, h3⟩ := hI.ld i hl
 have h4 := (hI.vt i v h1).1
 have hpos : 0 < s.h i := by
  obtain ⟨_, _, _, ⟨j, hj⟩, _⟩ := hI.vt i v h1
  have := (hI.sp _ _ _ _ hj).2.1
  omega
 obtain ⟨l0, q1, q2, q3⟩ := hI.hw i hpos
 obtain ⟨c1, c2⟩ := hI.cm i
 rw [h2] at q1 q3 c2
 rw [← h4]
 exact hI.sendA _ _ _ ⟨l0, q1, q2, q3, c1, by rw [← h3]; exact c2⟩
def sendD (s : St E) (i t n : Nat) : St E := { s with SD := fun a b d => s.SD a b d ∨ (a = i ∧ b = t ∧ d = n) }
theorem Inv.sendD {N : Nat} {s : St E} (hI : Inv N s) (i t n : Nat) (h : n ≤ s.A i t) : Inv N (sendD s i t n) :=
 { hI with sd := fun a b d h1 => h1.elim (hI.sd a b d) (fun h2 => (by obtain ⟨rfl, rfl, rfl⟩ := h2; exact h)) }
/-- A vote is won. -/
def win (s : St E) (i : Nat) (v : Vt E) : St E :=
 { s with h := upd s.h i v.term, log := upd s.log i v.best, lead := upd s.lead i true, L0 := upd s.L0 v.term (some v.best), L := upd s.L v.term v.best, Q := upd s.Q v.term v.P, A := upd s.A i (upd (s.A i) v.term v.best.length) }
theorem Inv.win {N : Nat} {s : St E} (hI : Inv N s) {i : Nat} {v : Vt E} (hv : s.v i = some v) (hl : s.lead i = false) (hq : Quo N v.P) : Inv N (win s i v) := by
 obtain ⟨va, vb, vc, ⟨j0, vd⟩, ve, vf⟩ := hI.vt i v hv
 have hN0 : s.L0 v.term = none := vf hl
 have hpos : 0 < v.term := by have := (hI.sp _ _ _ _ vd).2.1; omega
 have hit : s.h i < v.term := by
  have h1 := hI.ht i
  rw [← va] at h1
  rcases Nat.lt_or_eq_of_le h1 with h2 | h2
  ·exact h2
  ·obtain ⟨l0, q1, _⟩ := hI.hw i (by omega)
   rw [h2, hN0] at q1
   cases q1
 have hA0 : ∀ k, s.A k v.term = 0 := fun k => by
  rcases Nat.eq_zero_or_pos (s.A k v.term) with h | h
  ·exact h
  ·obtain ⟨l0, q⟩ := hI.aw k _ h
   rw [hN0] at q
   cases q
 have hA : ∀ k t, (Px.win s i v).A k t = if k = i ∧ t = v.term then v.best.length else s.A k t := fun k t => by
  show upd s.A i _ k t = _
  by_cases hk : k = i
  ·subst hk
   rw [upd_same]
   by_cases ht : t = v.term
   ·subst ht
    rw [upd_same, if_pos ⟨rfl, rfl⟩]
   ·rw [upd_ne _ _ ht, if_neg (fun h => ht h.2)]
  ·rw [upd_ne _ _ hk, if_neg (fun h => hk h.1)]
 have hAle : ∀ k t, s.A k t ≤ (Px.win s i v).A k t := fun k t => by
  rw [hA]
  split
  ·rename_i h
   rw [h.2, hA0 k]
   exact Nat.zero_le _
  ·exact Nat.le_refl _
 have hL : ∀ t, t ≠ v.term → (Px.win s i v).L t = s.L t := fun t ht => upd_ne _ _ ht
 have hLs : (Px.win s i v).L v.term = v.best := upd_same _ _ _
 have hL0 : ∀ t, t ≠ v.term → (Px.win s i v).L0 t = s.L0 t := fun t ht => upd_ne _ _ ht
 have hL0s : (Px.win s i v).L0 v.term = some v.best := upd_same _ _ _
 have hch : ∀ t n, t ≠ v.term → (Chosen N (Px.win s i v) t n ↔ Chosen N s t n) := fun t n ht => by
  unfold Chosen
  have : (fun k => decide (n ≤ (Px.win s i v).A k t)) = fun k => decide (n ≤ s.A k t) := by
   funext k
   rw [hA, if_neg (fun h => ht h.2)]
  rw [this]
 have hcp : ∀ t p, CP N s t p → CP N (Px.win s i v) t p := fun t p h => by
  rcases h with h | ⟨t0, n, h1, h2, h3⟩
  ·exact .inl h
  ·by_cases ht : t0 = v.term
   ·subst ht
    left
    rcases Nat.eq_zero_or_pos n with h0 | h0
    ·subst h0; simpa using h3
    ·obtain ⟨l0, q⟩ := CP.won hI h2 h0
     rw [hN0] at q
     cases q
   ·exact .inr ⟨t0, n, h1, (hch t0 n ht).2 h2, by rw [hL t0 ht]; exact h3⟩
 have hne : ∀ t l0, s.L0 t = some l0 → t ≠ v.term := fun t l0 h e => by rw [e, hN0] at h; cases h
 have hbest : v.h < v.term ∧ (v.h = 0 → v.best = []) ∧ (0 < v.h → ∃ l0, s.L0 v.h = some l0 ∧ l0 <+: v.best ∧ v.best <+: s.L v.h) := by
  obtain ⟨_, q2, q3, q4, _⟩ := hI.sp _ _ _ _ vd
  exact ⟨q2, q3, q4⟩
 have hkey : ∀ t n, t < v.term → Chb N s t n → (s.L t).take n <+: v.best := fun t n ht hc => by
  rcases Nat.eq_zero_or_pos n with h0 | h0
  ·subst h0; exact List.nil_prefix
  ·obtain ⟨j, _, h1, h2⟩ := Quo.inter hc hq
   obtain ⟨h, l, h3, h4⟩ := vc j h2
   obtain ⟨p1, p2, p3, p4, p5, p6⟩ := hI.sp _ _ _ _ h3
   have hnA : n ≤ s.A j t := by
    rw [Bool.or_eq_true] at h1
    rcases h1 with h1 | h1
    ·exact of_decide_eq_true h1
    ·have := of_decide_eq_true h1; omega
   have hth : t ≤ h := by
    rcases Nat.lt_or_ge h t with h5 | h5
    ·have := p5 t h5 ht; omega
    ·exact h5
   obtain ⟨b1, b2, b3⟩ := hbest
   rcases Nat.lt_or_ge t v.h with h5 | h5
   ·obtain ⟨l0, q1, q2, q3⟩ := b3 (by omega)
    exact (hI.key t v.h l0 n q1 h5 hc).trans q2
   ·have e1 : t = h := by omega
    have e2 : h = v.h := by omega
    subst e1
    have hlen : l.length ≤ v.best.length := by omega
    rcases Nat.eq_zero_or_pos t with h6 | h6
    ·have := p3 h6
     rw [this] at p6
     simp at p6
     omega
    ·obtain ⟨l0, q1, q2, q3⟩ := b3 (by omega)
     rw [← e2] at q3
     rw [List.prefix_iff_eq_take.1 q3]
     rw [List.prefix_take_iff]
     exact ⟨List.take_prefix _ _, by rw [List.length_take]; omega⟩
 have hhk : ∀ k, k ≠ i → (Px.win s i v).h k = s.h k := fun k hk => upd_ne _ _ hk
 have hhi : (Px.win s i v).h i = v.term := upd_same _ _ _
 have hlk : ∀ k, k ≠ i → (Px.win s i v).log k = s.log k := fun k hk => upd_ne _ _ hk
 have hli : (Px.win s i v).log i = v.best := upd_same _ _ _
 refine ⟨fun k => ?_, fun k hk => ?_, fun k hk => ?_, fun k t hk => ?_, fun k => ?_, fun k t => ?_, fun k t hk => ?_, fun t l0 h1 => ?_, fun t u l0 n h1 h2 h3 => ?_, fun a t h l h1 => ?_, fun t l c h1 => ?_, fun k t n h1 => ?_, fun k x hx => ?_, fun k hk => ?_, fun k => ?_⟩
 ·by_cases hk : k = i
  ·subst hk; rw [hhi]; show v.term ≤ s.t k; omega
  ·rw [hhk k hk]; exact hI.ht k
 ·by_cases hki : k = i
  ·subst hki; rw [hhi] at hk; omega
  ·rw [hhk k hki] at hk; rw [hlk k hki]; exact hI.h0 k hk
 ·by_cases hki : k = i
  ·subst hki
   rw [hhi, hli]
   exact ⟨v.best, hL0s, List.prefix_refl _, by rw [hLs]; exact List.prefix_refl _⟩
  ·rw [hhk k hki] at hk ⊢
   rw [hlk k hki]
   obtain ⟨l0, q1, q2, q3⟩ := hI.hw k hk
   have hn := hne _ _ q1
   exact ⟨l0, by rw [hL0 _ hn]; exact q1, q2, by rw [hL _ hn]; exact q3⟩
 ·rw [hA]
  by_cases hki : k = i
  ·subst hki
   rw [hhi] at hk
   rw [if_neg (by omega)]
   exact hI.ah k t (by omega)
  ·rw [hhk k hki] at hk
   rw [if_neg (fun h => hki h.1)]
   exact hI.ah k t hk
 ·rw [hA]
  by_cases hki : k = i
  ·subst hki
   rw [hhi, hli, if_pos ⟨rfl, rfl⟩]
  ·rw [hhk k hki, hlk k hki, if_neg (fun h => hki h.1)]
   exact hI.al k
 ·rw [hA]
  split
  ·rename_i h; rw [h.2, hLs]; exact Nat.le_refl _
  ·rename_i h
   by_cases ht : t = v.term
   ·subst ht; rw [hA0 k]; exact Nat.zero_le _
   ·rw [hL t ht]; exact hI.aL k t
 ·by_cases ht : t = v.term
  ·subst ht; exact ⟨_, hL0s⟩
  ·rw [hA, if_neg (fun h => ht h.2)] at hk
   rw [hL0 t ht]
   exact hI.aw k t hk
 ·by_cases ht : t = v.term
  ·subst ht
   rw [hL0s] at h1
   injection h1 with h1
   subst h1
   have hQ : (Px.win s i v).Q v.term = v.P := upd_same _ _ _
   refine ⟨by rw [hLs]; exact List.prefix_refl _, by rw [hQ]; exact hq, fun j _ hj => ?_, ?_, hpos⟩
   ·rw [hQ] at hj
    obtain ⟨h, l, h3, _⟩ := vc j hj
    exact (hI.sp _ _ _ _ h3).1
   ·rw [vb]; show v.term ≤ s.t i; omega
  ·rw [hL0 t ht] at h1
   obtain ⟨a, b, c, d, e⟩ := hI.wl t l0 h1
   have hQ : (Px.win s i v).Q t = s.Q t := upd_ne _ _ ht
   exact ⟨by rw [hL t ht]; exact a, by rw [hQ]; exact b, fun j hj hq' => by rw [hQ] at hq'; exact c j hj hq', d, e⟩
 ·have hcm : t ≠ v.term → Chb N s t n := fun ht => h3.mono (fun j _ hj => by
   rw [hA, if_neg (fun h => ht h.2)] at hj
   exact hj)
  by_cases hu : u = v.term
  ·subst hu
   rw [hL0s] at h1
   injection h1 with h1
   subst h1
   have ht : t ≠ v.term := by omega
   rw [hL t ht]
   exact hkey t n h2 (hcm ht)
  ·rw [hL0 u hu] at h1
   by_cases ht : t = v.term
   ·subst ht
    rcases Nat.eq_zero_or_pos n with h0 | h0
    ·subst h0; exact List.nil_prefix
    ·have hQu := hI.wl u l0 h1
     obtain ⟨j, hj, a1, a2⟩ := Quo.inter h3 hQu.2.1
     have htj := hQu.2.2.1 j hj a2
     rw [Bool.or_eq_true] at a1
     rcases a1 with a1 | a1
     ·have a3 := of_decide_eq_true a1
      rw [hA] at a3
      split at a3
      ·rename_i h
       rw [h.1] at htj
       omega
      ·rw [hA0 j] at a3; omega
     ·have : s.t j ≤ v.term := of_decide_eq_true a1
      omega
   ·rw [hL t ht]
    exact hI.key t u l0 n h1 h2 (hcm ht)
 ·obtain ⟨p1, p2, p3, p4, p5, p6⟩ := hI.sp a t h l h1
  refine ⟨p1, p2, p3, fun h0 => ?_, fun t2 h2 h3 => ?_, ?_⟩
  ·obtain ⟨l0, q1, q2, q3⟩ := p4 h0
   have hn := hne _ _ q1
   exact ⟨l0, by rw [hL0 _ hn]; exact q1, q2, by rw [hL _ hn]; exact q3⟩
  ·rw [hA]
   split
   ·rename_i h4
    have : t ≤ s.t i := by rw [← h4.1]; exact p1
    omega
   ·exact p5 t2 h2 h3
  ·rw [hA]
   split
   ·rename_i h4
    have : t ≤ s.t i := by rw [← h4.1]; exact p1
    omega
   ·exact p6
 ·obtain ⟨l0, q1, q2, q3, q5, q4⟩ := hI.sa t l c h1
  have hn := hne _ _ q1
  exact ⟨l0, by rw [hL0 _ hn]; exact q1, q2, by rw [hL _ hn]; exact q3, q5, by rw [hL _ hn]; exact hcp _ _ q4⟩
 ·exact Nat.le_trans (hI.sd k t n h1) (hAle k t)
 ·have hx' : s.v k = some x := hx
  obtain ⟨a, b, c, d, e, f⟩ := hI.vt k x hx'
  refine ⟨a, b, c, d, fun j => Nat.le_trans (e j) (hAle j _), fun hk => ?_⟩
  have hki : k ≠ i := fun h => by
   subst h
   have : (Px.win s k v).lead k = true := upd_same _ _ _
   rw [this] at hk; cases hk
  have hk' : s.lead k = false := by
   have : (Px.win s i v).lead k = s.lead k := upd_ne _ _ hki
   rw [← this]; exact hk
  have hn : x.term ≠ v.term := fun h => hki (by rw [← b, h, vb])
  rw [hL0 _ hn]
  exact f hk'
 ·by_cases hki : k = i
  ·subst hki
   exact ⟨v, hv, hhi, by rw [hli, hLs]⟩
  ·have hk' : s.lead k = true := by
    have : (Px.win s i v).lead k = s.lead k := upd_ne _ _ hki
    rw [← this]; exact hk
   obtain ⟨x, q1, q2, q3⟩ := hI.ld k hk'
   have hn : x.term ≠ v.term := fun h => hki (by rw [← (hI.vt k x q1).2.1, h, vb])
   exact ⟨x, q1, by rw [hhk k hki]; exact q2, by rw [hlk k hki, hL _ hn]; exact q3⟩
 ·obtain ⟨c1, c2⟩ := hI.cm k
  by_cases hki : k = i
  ·subst hki
   rw [hhi, hli]
   have hpre : (s.log k).take (s.com k) <+: v.best := by
    rcases c2 with c2 | ⟨t0, n, h1, h2, h3⟩
    ·rw [c2]; exact List.nil_prefix
    ·exact h3.trans (hkey t0 n (by omega) h2.chb)
   have hlen : s.com k ≤ v.best.length := by
    have := hpre.length_le
    rw [List.length_take] at this
    omega
   refine ⟨hlen, ?_⟩
   have : v.best.take (s.com k) = (s.log k).take (s.com k) := by
    have h9 := comparable hpre (List.prefix_refl v.best) (s.com k) (by rw [List.length_take]; omega) hlen
    rw [List.take_take, Nat.min_self] at h9
    exact h9.symm
   show CP N (Px.win s k v) v.term (v.best.take (s.com k))
   rw [this]
   have h5 := hcp _ _ c2
   rcases h5 with h5 | ⟨t0, n, h1, h2⟩
   ·exact .inl h5
   ·exact .inr ⟨t0, n, by omega, h2⟩
  ·rw [hhk k hki, hlk k hki]
   exact ⟨c1, hcp _ _ c2⟩
theorem take_more {a b : List E} (h : a <+: b) (n : Nat) : a.take n <+: b.take n := by
 rw [List.prefix_take_iff]
 exact ⟨(List.take_prefix _ _).trans h, by rw [List.length_take]; omega⟩
theorem take_same {a b : List E} (h : a <+: b) {n : Nat} (hn : n ≤ a.length) : b.take n = a.take n := by
 have e := List.prefix_iff_eq_take.1 h
 rw [e, List.take_take, Nat.min_eq_left hn]
/-- A row is accepted. -/
def put (s : St E) (i t' : Nat) (l Ln : List E) : St E :=
 { s with t := upd s.t i t', h := upd s.h i t', log := upd s.log i l, L := upd s.L t' Ln, A := upd s.A i (upd (s.A i) t' l.length) }
theorem Inv.put {N : Nat} {s : St E} (hI : Inv N s) {i t' : Nat} {l Ln l0 : List E} (h0 : s.L0 t' = some l0) (hl0 : l0 <+: l) (hlL : l <+: Ln) (hLL : s.L t' <+: Ln) (ht : s.t i ≤ t')
  (hlong : s.h i < t' ∨ s.h i = t' ∧ (s.log i).length ≤ l.length)
  (hv : ∀ x, s.v i = some x → x.term = t' ∧ s.lead i = true ∧ l = Ln) (hk : ∀ k x, k ≠ i → s.v k = some x → s.lead k = true → x.term = t' → Ln = s.L t') : Inv N (put s i t' l Ln) := by
 have hpos : 0 < t' := (hI.wl t' l0 h0).2.2.2.2
 have hAold : s.A i t' ≤ l.length := by
  rcases hlong with h | ⟨h, h2⟩
  ·rw [hI.ah i t' h]; exact Nat.zero_le _
  ·rw [← h, hI.al i]; exact h2
 have hpre : s.h i = t' → s.log i <+: l := fun h => by
  rcases hlong with h1 | ⟨_, h2⟩
  ·omega
  ·obtain ⟨l1, _, _, q3⟩ := hI.hw i (by omega)
   rw [h] at q3
   exact List.prefix_of_prefix_length_le (q3.trans hLL) hlL h2
 have hA : ∀ k t, (Px.put s i t' l Ln).A k t = if k = i ∧ t = t' then l.length else s.A k t := fun k t => by
  show upd s.A i _ k t = _
  by_cases hk : k = i
  ·subst hk
   rw [upd_same]
   by_cases ht : t = t'
   ·subst ht
    rw [upd_same, if_pos ⟨rfl, rfl⟩]
   ·rw [upd_ne _ _ ht, if_neg (fun h => ht h.2)]
  ·rw [upd_ne _ _ hk, if_neg (fun h => hk h.1)]
 have hAle : ∀ k t, s.A k t ≤ (Px.put s i t' l Ln).A k t := fun k t => by
  rw [hA]
  split
  ·rename_i h
   rw [h.1, h.2]
   exact hAold
  ·exact Nat.le_refl _
 have hL : ∀ t, t ≠ t' → (Px.put s i t' l Ln).L t = s.L t := fun t ht => upd_ne _ _ ht
 have hLs : (Px.put s i t' l Ln).L t' = Ln := upd_same _ _ _
 have hLle : ∀ t, s.L t <+: (Px.put s i t' l Ln).L t := fun t => by
  by_cases h : t = t'
  ·subst h; rw [hLs]; exact hLL
  ·rw [hL t h]; exact List.prefix_refl _
 have htk : ∀ k, k ≠ i → (Px.put s i t' l Ln).t k = s.t k := fun k hk => upd_ne _ _ hk
 have hti : (Px.put s i t' l Ln).t i = t' := upd_same _ _ _
 have htle : ∀ k, s.t k ≤ (Px.put s i t' l Ln).t k := fun k => by
  by_cases h : k = i
  ·subst h; rw [hti]; exact ht
  ·rw [htk k h]; exact Nat.le_refl _
 have hhk : ∀ k, k ≠ i → (Px.put s i t' l Ln).h k = s.h k := fun k hk => upd_ne _ _ hk
 have hhi : (Px.put s i t' l Ln).h i = t' := upd_same _ _ _
 have hlk : ∀ k, k ≠ i → (Px.put s i t' l Ln).log k = s.log k := fun k hk => upd_ne _ _ hk
 have hli : (Px.put s i t' l Ln).log i = l := upd_same _ _ _
 have hch : ∀ t n, Chosen N s t n → Chosen N (Px.put s i t' l Ln) t n := fun t n h => h.mono (fun j _ hj => by
  have := of_decide_eq_true hj
  exact decide_eq_true (Nat.le_trans this (hAle j t)))
 have hcp : ∀ t p, CP N s t p → CP N (Px.put s i t' l Ln) t p := fun t p h => by
  rcases h with h | ⟨t0, n, h1, h2, h3⟩
  ·exact .inl h
  ·exact .inr ⟨t0, n, h1, hch t0 n h2, h3.trans (take_more (hLle t0) n)⟩
 have hcb : ∀ t n, Chb N (Px.put s i t' l Ln) t n → Chb N s t n := fun t n h => h.mono (fun j _ hj => by
  rw [Bool.or_eq_true] at hj ⊢
  rcases hj with hj | hj
  ·have h1 := of_decide_eq_true hj
   rw [hA] at h1
   split at h1
   ·rename_i h2
    right
    rw [h2.1, h2.2]
    exact decide_eq_true ht
   ·exact .inl (decide_eq_true h1)
  ·right
   have h1 := of_decide_eq_true hj
   exact decide_eq_true (Nat.le_trans (htle j) h1))
 refine ⟨fun k => ?_, fun k hk => ?_, fun k hk => ?_, fun k t hk => ?_, fun k => ?_, fun k t => ?_, fun k t hk => ?_, fun t l1 h1 => ?_, fun t u l1 n h1 h2 h3 => ?_, fun a t h l1 h1 => ?_, fun t l1 c h1 => ?_, fun k t n h1 => ?_, fun k x hx => ?_, fun k hk' => ?_, fun k => ?_⟩
 ·by_cases h : k = i
  ·subst h; rw [hhi, hti]; exact Nat.le_refl _
  ·rw [hhk k h, htk k h]; exact hI.ht k
 ·by_cases h : k = i
  ·subst h; rw [hhi] at hk; omega
  ·rw [hhk k h] at hk; rw [hlk k h]; exact hI.h0 k hk
 ·by_cases h : k = i
  ·subst h
   rw [hhi, hli, hLs]
   exact ⟨l0, h0, hl0, hlL⟩
  ·rw [hhk k h] at hk ⊢
   rw [hlk k h]
   obtain ⟨l1, q1, q2, q3⟩ := hI.hw k hk
   exact ⟨l1, q1, q2, q3.trans (hLle _)⟩
 ·rw [hA]
  by_cases h : k = i
  ·subst h
   rw [hhi] at hk
   rw [if_neg (by omega)]
   have := hI.ht k
   exact hI.ah k t (by omega)
  ·rw [hhk k h] at hk
   rw [if_neg (fun h2 => h h2.1)]
   exact hI.ah k t hk
 ·rw [hA]
  by_cases h : k = i
  ·subst h
   rw [hhi, hli, if_pos ⟨rfl, rfl⟩]
  ·rw [hhk k h, hlk k h, if_neg (fun h2 => h h2.1)]
   exact hI.al k
 ·rw [hA]
  split
  ·rename_i h; rw [h.2, hLs]; exact hlL.length_le
  ·exact Nat.le_trans (hI.aL k t) (hLle t).length_le
 ·rw [hA] at hk
  split at hk
  ·rename_i h; rw [h.2]; exact ⟨l0, h0⟩
  ·exact hI.aw k t hk
 ·obtain ⟨a, b, c, d, e⟩ := hI.wl t l1 h1
  exact ⟨a.trans (hLle t), b, fun j hj hq => Nat.le_trans (c j hj hq) (htle j), Nat.le_trans d (htle _), e⟩
 ·have hold := hI.key t u l1 n h1 h2 (hcb t n h3)
  by_cases h : t = t'
  ·subst h
   rw [hLs]
   rcases Nat.lt_or_ge (s.L t).length n with h5 | h5
   ·obtain ⟨_, b, c, _, _⟩ := hI.wl u l1 h1
    obtain ⟨j, hj, a1, a2⟩ := Quo.inter h3 b
    have htj := c j hj a2
    have hji : j ≠ i := fun h => by subst h; omega
    rw [Bool.or_eq_true] at a1
    rcases a1 with a1 | a1
    ·have a3 := of_decide_eq_true a1
     rw [hA, if_neg (fun h => hji h.1)] at a3
     have := hI.aL j t
     omega
    ·have a3 : (Px.put s i t l Ln).t j ≤ t := of_decide_eq_true a1
     rw [htk j hji] at a3
     omega
   ·rw [take_same hLL h5]
    exact hold
  ·rw [hL t h]
   exact hold
 ·obtain ⟨p1, p2, p3, p4, p5, p6⟩ := hI.sp a t h l1 h1
  refine ⟨Nat.le_trans p1 (htle a), p2, p3, fun h0 => ?_, fun t2 h2 h3 => ?_, ?_⟩
  ·obtain ⟨l2, q1, q2, q3⟩ := p4 h0
   exact ⟨l2, q1, q2, q3.trans (hLle h)⟩
  ·rw [hA]
   split
   ·rename_i h4
    rw [h4.1] at p1
    omega
   ·exact p5 t2 h2 h3
  ·rw [hA]
   split
   ·rename_i h4
    rw [h4.1] at p1
    omega
   ·exact p6
 ·obtain ⟨l2, q1, q2, q3, q5, q4⟩ := hI.sa t l1 c h1
  refine ⟨l2, q1, q2, q3.trans (hLle t), q5, ?_⟩
  rw [take_same (hLle t) (Nat.le_trans q5 q3.length_le)]
  exact hcp _ _ q4
 ·exact Nat.le_trans (hI.sd k t n h1) (hAle k t)
 ·have hx' : s.v k = some x := hx
  obtain ⟨a, b, c, d, e, f⟩ := hI.vt k x hx'
  refine ⟨?_, b, c, d, fun j => Nat.le_trans (e j) (hAle j _), f⟩
  by_cases h : k = i
  ·subst h
   rw [hti]
   exact (hv x hx').1
  ·rw [htk k h]; exact a
 ·obtain ⟨x, q1, q2, q3⟩ := hI.ld k hk'
  refine ⟨x, q1, ?_⟩
  by_cases h : k = i
  ·subst h
   obtain ⟨r1, _, r3⟩ := hv x q1
   rw [hhi, hli, r1, hLs]
   exact ⟨rfl, r3⟩
  ·rw [hhk k h, hlk k h]
   refine ⟨q2, ?_⟩
   by_cases h2 : x.term = t'
   ·rw [h2, hLs, hk k x h q1 hk' h2, ← h2]; exact q3
   ·rw [hL _ h2]; exact q3
 ·obtain ⟨c1, c2⟩ := hI.cm k
  by_cases h : k = i
  ·subst h
   rw [hhi, hli]
   have hp : (s.log k).take (s.com k) <+: l := by
    rcases Nat.lt_or_ge (s.h k) t' with h1 | h1
    ·rcases c2 with c2 | ⟨t0, n, q1, q2, q3⟩
     ·rw [c2]; exact List.nil_prefix
     ·exact (q3.trans (hI.key t0 t' l0 n h0 (by omega) q2.chb)).trans hl0
    ·have := hI.ht k
     exact (List.take_prefix _ _).trans (hpre (by omega))
   have hlen : s.com k ≤ l.length := by
    have := hp.length_le
    rw [List.length_take] at this
    omega
   refine ⟨hlen, ?_⟩
   show CP N (Px.put s k t' l Ln) t' (l.take (s.com k))
   have e : l.take (s.com k) = (s.log k).take (s.com k) := by
    have h9 := comparable hp (List.prefix_refl l) (s.com k) (by rw [List.length_take]; omega) hlen
    rw [List.take_take, Nat.min_self] at h9
    exact h9.symm
   rw [e]
   rcases hcp _ _ c2 with h5 | ⟨t0, n, q1, q2⟩
   ·exact .inl h5
   ·have := hI.ht k
    exact .inr ⟨t0, n, by omega, q2⟩
  ·rw [hhk k h, hlk k h]
   exact ⟨c1, hcp _ _ c2⟩
/-- A leader puts an entry behind its row. -/
theorem Inv.append {N : Nat} {s : St E} (hI : Inv N s) {i : Nat} (hl : s.lead i = true) (hv0 : ∃ l0, s.L0 (s.h i) = some l0 ∧ l0 <+: s.log i) (e : E) : Inv N (Px.put s i (s.t i) (s.log i ++ [e]) (s.log i ++ [e])) := by
 obtain ⟨v, h1, h2, h3⟩ := hI.ld i hl
 obtain ⟨va, vb, _⟩ := hI.vt i v h1
 have hht : s.h i = s.t i := by rw [h2, va]
 obtain ⟨l0, q1, q2⟩ := hv0
 rw [hht] at q1
 refine hI.put q1 (q2.trans (List.prefix_append _ _)) (List.prefix_refl _) ?_ (Nat.le_refl _) (.inr ⟨hht, by simp⟩) (fun x hx => ?_) (fun k x hk hx hlk ht => ?_)
 ·rw [← va, ← h3]; exact List.prefix_append _ _
 ·rw [h1] at hx
  injection hx with hx
  subst hx
  exact ⟨va, hl, rfl⟩
 ·exfalso
  have := (hI.vt k x hx).2.1
  rw [ht, ← va, vb] at this
  exact hk this.symm
theorem Inv.leads {N : Nat} {s : St E} (hI : Inv N s) {i : Nat} (hl : s.lead i = true) : s.h i = s.t i ∧ 0 < s.t i ∧ ∃ v, s.v i = some v ∧ v.term = s.t i ∧ s.log i = s.L (s.t i) ∧ ∃ l0, s.L0 (s.h i) = some l0 ∧ l0 <+: s.log i := by
 obtain ⟨v, h1, h2, h3⟩ := hI.ld i hl
 obtain ⟨va, vb, _, ⟨j, hj⟩, _⟩ := hI.vt i v h1
 have hpos : 0 < v.term := by have := (hI.sp _ _ _ _ hj).2.1; omega
 obtain ⟨l0, q1, q2, _⟩ := hI.hw i (by omega)
 exact ⟨by omega, by omega, v, h1, va, by rw [← va]; exact h3, l0, q1, q2⟩
/-- A leader commits what more than half have accepted. -/
theorem Inv.commits {N : Nat} {s : St E} (hI : Inv N s) {i : Nat} (hl : s.lead i = true) {v : Vt E} (hv : s.v i = some v) {n : Nat} (hn : Quo N fun j => decide (n ≤ v.acc j)) : Inv N (Px.setCom s i (min n (s.log i).length)) := by
 obtain ⟨h1, h2, x, h3, h4, h5, _⟩ := hI.leads hl
 rw [hv] at h3
 injection h3 with h3
 subst h3
 obtain ⟨_, _, _, _, ve, _⟩ := hI.vt i v hv
 refine hI.setCom i _ (Nat.min_le_right _ _) (.inr ⟨s.h i, n, Nat.le_refl _, ?_, ?_⟩)
 ·refine hn.mono (fun j _ hj => ?_)
  have := of_decide_eq_true hj
  have := ve j
  rw [h1, ← h4]
  exact decide_eq_true (by omega)
 ·rw [h1, h5]
  rw [List.prefix_take_iff]
  exact ⟨List.take_prefix _ _, by rw [List.length_take]; omega⟩
/-- A row that was sent is accepted. -/
theorem Inv.accepts {N : Nat} {s : St E} (hI : Inv N s) {i t' c : Nat} {l : List E} (hs : s.SA t' l c) (ht : s.t i ≤ t') (hlong : s.h i < t' ∨ s.h i = t' ∧ (s.log i).length < l.length) (hv : s.v i = none) : Inv N (Px.put s i t' l (s.L t')) := by
 obtain ⟨l0, q1, q2, q3, _⟩ := hI.sa t' l c hs
 exact hI.put q1 q2 q3 (List.prefix_refl _) ht (hlong.imp id (fun h => ⟨h.1, Nat.le_of_lt h.2⟩)) (fun x hx => by rw [hv] at hx; cases hx) (fun _ _ _ _ _ _ => rfl)
/-- What a leader told to be committed is. -/
theorem Inv.told {N : Nat} {s : St E} (hI : Inv N s) {i c : Nat} {l : List E} (hs : s.SA (s.h i) l c) : Inv N (Px.setCom s i (min c (s.log i).length)) := by
 obtain ⟨l0, q1, q2, q3, q5, q4⟩ := hI.sa _ l c hs
 have hpos := (hI.wl _ _ q1).2.2.2.2
 obtain ⟨l1, r1, r2, r3⟩ := hI.hw i hpos
 refine hI.setCom i _ (Nat.min_le_right _ _) ?_
 have : (s.log i).take (min c (s.log i).length) <+: (s.L (s.h i)).take c := by
  rw [List.prefix_take_iff]
  exact ⟨(List.take_prefix _ _).trans r3, by rw [List.length_take]; omega⟩
 rcases q4 with q4 | ⟨t0, n, a1, a2, a3⟩
 ·rw [q4] at this
  exact .inl (List.prefix_nil.1 this)
 ·exact .inr ⟨t0, n, a1, a2, this.trans a3⟩
/-- Nothing was said yet. -/
def st0 : St E := ⟨fun _ => 0, fun _ => 0, fun _ => [], fun _ => 0, fun _ => none, fun _ => false, fun _ _ _ _ => False, fun _ _ _ => False, fun _ _ _ => False, fun _ _ => 0, fun _ => none, fun _ => [], fun _ _ => false⟩
theorem inv0 (N : Nat) : Inv N (st0 (E := E)) where
 ht := fun _ => Nat.le_refl _
 h0 := fun _ _ => rfl
 hw := fun _ h => absurd h (Nat.lt_irrefl 0)
 ah := fun _ _ _ => rfl
 al := fun _ => rfl
 aL := fun _ _ => Nat.le_refl _
 aw := fun _ _ h => absurd h (Nat.lt_irrefl 0)
 wl := fun _ _ h => (nomatch h)
 key := fun _ _ _ _ h => (nomatch h)
 sp := fun _ _ _ _ h => h.elim
 sa := fun _ _ _ h => h.elim
 sd := fun _ _ _ h => h.elim
 vt := fun _ _ h => (nomatch h)
 ld := fun _ h => (nomatch h)
 cm := fun _ => ⟨Nat.le_refl _, .inl rfl⟩
end Go.Proofs.YtdaceeijifjpeaaGreatDoor.Px
end
section
namespace Go.Proofs.YtdaceeijifjpeaaGreatDoor.Vi
open Go.RowKit Base Mem Go.Shelf Tape
open Lead (VoteD promiseS wonS accS medS termS newVote)
/-- The word written. -/
def rpKept (R : RpD) (y : WordD) : RpD := { R with x := y, b := R.b ++ frameL (recL y), k := R.b.length + (frameL (recL y)).length, n := R.n + 1 }
theorem rpKeep_ok {R : RpD} {y : WordD} (h : KpOk y R.b) : rpKeep R y = (true, rpKept R y) := if_pos h
theorem rpTake_app {R : RpD} {T : Nat} {l : List EntryD} {e : EntryD} (hx : R.x = ⟨T, T, l⟩) (hT : 1 ≤ T) (hl : l.length < 128) (hr : ∀ a ∈ l ++ [e], rightE a = 0) (hk : KpOk ⟨T, T, l ++ [e]⟩ R.b) :
  rpTake R T (l ++ [e]) = (true, rpKept R ⟨T, T, l ++ [e]⟩) := by
 have h1 : AcOk R.x T (l ++ [e]) := by
  rw [hx]
  exact ⟨Int.le_refl _, by show (1 : Int) ≤ T; omega, by rw [List.length_append]; simp; omega, hr⟩
 have h2 : accLong R.x T (l ++ [e]) := by rw [hx]; exact .inr (by simp)
 have h3 : accW R.x T (l ++ [e]) = ⟨T, T, l ++ [e]⟩ := if_pos h2
 unfold rpTake
 rw [if_pos h1, if_neg (fun h => h.1 (by simpa using h2))]
 show rpKeep R (accW R.x (T : Int).toNat (l ++ [e])) = _
 rw [Int.toNat_natCast, h3, rpKeep_ok hk]
theorem medS_one (a : Int) (l : List Int) : medS (a :: l) 1 = a := by
 unfold medS
 simp
theorem medS_three (a b : Int) (l : List Int) (h1 : 0 ≤ b) (h2 : b ≤ a) : medS (a :: b :: 0 :: l) 3 = b := by
 unfold medS
 have hp : ([0, b, a] : List Int).Perm [a, b, 0] := by
  have := List.reverse_perm [a, b, (0 : Int)]
  simpa using this
 have hs := List.pairwise_mergeSort (le := fun x y : Int => decide (x ≤ y)) (fun a b c h1 h2 => by simp at *; omega) (fun a b => by simp; omega) [a, b, 0]
 have hm := List.mergeSort_perm [a, b, (0 : Int)] (fun x y => decide (x ≤ y))
 have he : [a, b, (0 : Int)].mergeSort (fun x y => decide (x ≤ y)) = [0, b, a] := by
  refine List.Perm.eq_of_pairwise (le := fun x y : Int => decide (x ≤ y) = true) (fun x y _ _ h3 h4 => by simp at h3 h4; omega) hs (by simp; omega) (hm.trans hp.symm)
 show ([a, b, (0 : Int)].mergeSort (fun x y => decide (x ≤ y))).getD 1 0 = b
 rw [he]
 rfl
/-- Nothing is new: nothing is applied. -/
theorem rpApply_none {R : RpD} {n : Int} (h : n ≤ R.com) : rpApply R n = (R, []) := by
 unfold rpApply
 rw [List.drop_eq_nil_of_le (by rw [List.length_take]; omega)]
 rfl
/-- One more entry is applied. -/
theorem rpApply_one {R : RpD} {l : List EntryD} {e : EntryD} (hx : R.x.log = l ++ [e]) (hc : R.com = l.length) : rpApply R ((l.length + 1 : Nat) : Int) = rpStep R e := by
 unfold rpApply
 rw [Int.toNat_natCast, hx, hc, List.take_of_length_le (by simp), List.drop_left]
 simp [rpSteps]
/-- One of one that leads answers an ask at once. -/
theorem rpAsk_one {R : RpD} {T : Nat} {l : List EntryD} {e : EntryD} {fr : Int} {v : VoteD} (hn : R.nodes = 1) (h0 : R.node = 0) (hL : R.leads = true) (hv : R.v = some v) (hvt : v.term = T) (hvn : v.nodes = 1) (hva : ∃ a c, v.acc = a :: c ∧ a ≤ l.length)
  (hx : R.x = ⟨T, T, l⟩) (hc : R.com = l.length) (ho : R.own ≤ l.length) (hT : 1 ≤ T) (hl : l.length < 128) (hr : ∀ a ∈ l ++ [askE e fr], rightE a = 0) (hk : KpOk ⟨T, T, l ++ [askE e fr]⟩ R.b) :
  ∃ R', (rpAsk R fr e).1 = R' ∧ (rpAsk R fr e).2 = (rpStep (rpKept R ⟨T, T, l ++ [askE e fr]⟩) (askE e fr)).2 ++ rpAccepts R' ∧ R' = (rpStep { rpKept R ⟨T, T, l ++ [askE e fr]⟩ with v := some { v with acc := accS v 0 ((l.length + 1 : Nat) : Int) } } (askE e fr)).1 := by
 obtain ⟨a, c, hac, hal⟩ := hva
 have ht := rpTake_app hx hT hl hr hk
 have hb : rpAsk R fr e = rpBoth (rpKept R ⟨T, T, l ++ [askE e fr]⟩) v := by
  unfold rpAsk
  rw [hL, hv]
  simp only
  rw [hvt, hx]
  rw [ht]
  simp [hl]
 have hacc : accS v 0 ((l.length + 1 : Nat) : Int) = ((l.length + 1 : Nat) : Int) :: c := by
  unfold accS
  rw [if_pos ⟨Int.le_refl _, by rw [hvn]; decide⟩, hac]
  simp
  omega
 have hcn : rpCounted (rpKept R ⟨T, T, l ++ [askE e fr]⟩) v R.node ((l.length + 1 : Nat) : Int) = rpStep { rpKept R ⟨T, T, l ++ [askE e fr]⟩ with v := some { v with acc := accS v 0 ((l.length + 1 : Nat) : Int) } } (askE e fr) := by
  unfold rpCounted
  rw [h0, hacc, hvn]
  show rpApply _ (medS (((l.length + 1 : Nat) : Int) :: c) 1) = _
  rw [medS_one]
  exact rpApply_one rfl hc
 have hlen : ((rpKept R ⟨T, T, l ++ [askE e fr]⟩).x.log.length : Int) = ((l.length + 1 : Nat) : Int) := by show (((l ++ [askE e fr]).length : Nat) : Int) = _; rw [List.length_append]; rfl
 have h2 : (rpAsk R fr e).1 = (rpStep { rpKept R ⟨T, T, l ++ [askE e fr]⟩ with v := some { v with acc := accS v 0 ((l.length + 1 : Nat) : Int) } } (askE e fr)).1 := by
  rw [hb]
  unfold rpBoth
  rw [hlen]
  show (rpCounted _ v R.node _).1 = _
  rw [hcn]
 refine ⟨_, h2, ?_, rfl⟩
 ·rw [hb]
  unfold rpBoth
  rw [hlen]
  show (rpCounted _ v R.node _).2 ++ rpAccepts (rpCounted _ v R.node _).1 = _
  rw [hcn]
  rfl
/-- The disk is all records, and the last of them is the word. -/
def GoodW (x : WordD) (b : List UInt8) : Prop := ∃ rs : List (List UInt8), (∀ r ∈ rs, r.length ≤ 65536) ∧ b = rs.flatMap frameL ∧ lastV word0 rs = x
theorem entry_eokW {e : EntryD} (h : EntryOk e) : EOk e := entry_right h
/-- The bytes of a row of few entries of a tape. -/
theorem rec40 {T H : Nat} {l : List EntryD} (hT : T ≤ 1000) (hH : H ≤ 1000) (hl : l.length ≤ 26) (he : ∀ e ∈ l, EntryOk e) : (recL ⟨T, H, l⟩).length ≤ 31800 ∧ (frameL (recL ⟨T, H, l⟩)).length ≤ 32000 := by
 have h1 := Lib.uvarint_length64 (x := T) (by omega)
 have h2 := Lib.uvarint_length64 (x := H) (by omega)
 have h3 := Lib.uvarint_length64 (x := l.length) (by omega)
 have h4 := blobs_len l he
 have h6 : (recL ⟨T, H, l⟩).length ≤ 31800 := by
  unfold recL putLog
  simp only [List.length_append, List.length_nil]
  omega
 have h7 := Lib.uvarint_length64 (x := (recL ⟨T, H, l⟩).length) (by omega)
 exact ⟨h6, by rw [frameL_len]; omega⟩
theorem kp40 {T H : Nat} {l : List EntryD} {b : List UInt8} {j : Nat} (hT : T ≤ 1000) (hH : H ≤ 1000) (hl : l.length ≤ 26) (he : ∀ e ∈ l, EntryOk e) (hb : b.length ≤ j * 32000) (hj : j ≤ 30) : KpOk ⟨T, H, l⟩ b := by
 obtain ⟨h1, h2⟩ := rec40 hT hH hl he
 exact ⟨by omega, by omega⟩
def askM (e : EntryD) : MsgD := ⟨1, e, 0, 0, 0, 0, 0, [], 0, 0⟩
theorem right_ask {e : EntryD} (h : EntryOk e) : mrightS (askM e) = 0 := by
 have hz : zeroS (askM e) = true := zeroS_of rfl
 unfold mrightS
 rw [hz]
 exact (entry_right h).1
theorem right_acc {T c : Int} {l : List EntryD} (h : 0 ≤ T) (hc : 0 ≤ c ∧ c ≤ 128) (hl : l.length ≤ 128) (he : logRight l = 0) : mrightS (acceptM T l c) = 0 := by
 have hz : zeroS (acceptM T l c) = true := zeroS_of rfl
 have hb : bad2 (acceptM T l c) = false := by simp [bad2, acceptM]; exact ⟨⟨decide_eq_false (by omega), decide_eq_false (by omega)⟩, decide_eq_false (by omega)⟩
 have h3 : ¬ 128 < (acceptM T l c).log.length := by show ¬ 128 < l.length; omega
 unfold mrightS
 rw [hz, hb, if_neg h3]
 exact he
theorem rpSteps_com : ∀ (l : List EntryD) (R : RpD), (rpSteps l R).1.com = R.com + l.length ∧ (rpSteps l R).1.ap = R.ap + l.length ∧ (rpSteps l R).1.b = R.b ∧ (rpSteps l R).1.k = R.k ∧ (rpSteps l R).1.n = R.n
 | [], R => ⟨rfl, rfl, rfl, rfl, rfl⟩
 | e :: l, R => by
  obtain ⟨h1, h2, h3, h4, h5⟩ := rpSteps_com l (rpStep R e).1
  refine ⟨?_, ?_, h3, h4, h5⟩
  ·show (rpSteps l (rpStep R e).1).1.com = _
   rw [h1]
   show R.com + 1 + l.length = R.com + (l.length + 1)
   omega
  ·show (rpSteps l (rpStep R e).1).1.ap = _
   rw [h2]
   show R.ap + 1 + l.length = R.ap + (l.length + 1)
   omega
/-- A leader. -/
structure Lds (R : RpD) (n : Int) (T : Nat) (l : List EntryD) (acc : List Int) (c j : Nat) : Prop where
 node : R.node = 0
 nodes : R.nodes = n
 x : R.x = ⟨T, T, l⟩
 leads : R.leads = true
 own : R.own = 0
 v : ∃ v, R.v = some v ∧ v.term = T ∧ v.nodes = n ∧ v.acc = acc
 com : R.com = c
 ap : R.ap = R.com
 b : R.b.length ≤ j * 32000
 good : GoodW R.x R.b ∧ R.k = R.b.length
structure Fls (R : RpD) (T : Nat) (l : List EntryD) (c j : Nat) : Prop where
 node : R.node = 1
 nodes : R.nodes = 3
 t : R.x.t = T
 x : R.x = ⟨T, T, l⟩ ∨ R.x = ⟨T, 0, []⟩ ∧ l = []
 leads : R.leads = false
 v : R.v = none
 com : R.com = c
 ap : R.ap = R.com
 b : R.b.length ≤ j * 32000
theorem good_kept {x y : WordD} {b : List UInt8} (h : GoodW x b) (hy : (recL y).length ≤ 65536) (hw : WOk y) : GoodW y (b ++ frameL (recL y)) := by
 obtain ⟨rs, hr, rfl, _⟩ := h
 refine ⟨rs ++ [recL y], fun r hm => ?_, by simp, lastV_snoc _ _ _ hw⟩
 rcases List.mem_append.1 hm with h | h
 ·exact hr r h
 ·simp at h; subst h; omega
theorem wok40 {T H : Nat} {l : List EntryD} (hT : T ≤ 1000) (hH : H ≤ 1000) (hl : l.length ≤ 26) (he : ∀ e ∈ l, EntryOk e) : WOk ⟨T, H, l⟩ := ⟨by show T ≤ _; omega, by show H ≤ _; omega, by show l.length ≤ _; omega, fun e h => entry_eokW (he e h)⟩
theorem acc_set (v : VoteD) (n : Int) (h : 1 ≤ v.nodes) {a : Int} {r : List Int} (ha : v.acc = a :: r) (hn : a ≤ n) : accS v 0 n = n :: r := by
 unfold accS
 rw [if_pos ⟨Int.le_refl _, by omega⟩, ha]
 simp
 omega
theorem recv_ask {R : RpD} {fr : Int} {e : EntryD} (h : EntryOk e) : rpRecv R fr (askM e) = rpAsk R fr e := by
 unfold rpRecv
 rw [right_ask h]
 rfl
end Go.Proofs.YtdaceeijifjpeaaGreatDoor.Vi
end
section
namespace Go.Proofs.YtdaceeijifjpeaaGreatDoor.Vi
open Go.RowKit Base Mem Tape
/-- A slice of numbers that came in. -/
def Nums (w : World) (A : Option Addr) (c : Nat) (l : List Int) : Prop := l.length ≤ c ∧ c ≤ 9223372036854775807 ∧ (0 < l.length → ∃ g off, A = some ⟨g, off, none⟩ ∧ g < w.heap.size ∧ ∀ (j : Nat) (x : Int), l[j]? = some x → w.cell? ⟨g, off + j, none⟩ = some (.int .i64 x))
theorem tape_new {w w1 : World} {A : Option Addr} {c : Nat} {l : List Int} (h : Nums w A c l) (hb : Below w.heap.size w w1) :
  TapeAt (w1.alloc (.cells #[.slice A l.length c, .int .i64 0] 43)) w1.heap.size ⟨l, w.heap.size⟩ 0 := by
 obtain ⟨h1, h2, h3⟩ := h
 refine ⟨Nat.zero_le _, Nat.le_trans h1 h2, hb.size, A, c, Blk.new w1 _ _, h1, fun h0 => ?_⟩
 obtain ⟨g, off, e, hg, hx⟩ := h3 h0
 exact ⟨g, off, e, hg, fun j x hj => ((below_new hb _).cell (p := ⟨g, off + j, none⟩) hg).trans (hx j x hj)⟩
end Go.Proofs.YtdaceeijifjpeaaGreatDoor.Vi
end
section
namespace Go.Proofs.YtdaceeijifjpeaaGreatDoor.Vi
open Go.RowKit Base Mem Go.Shelf Tape
open Lead (VoteD VoteAt promiseS wonS accS medS termS newVote)
open Px (upd upd_same upd_ne)
theorem rpApply_ap {R : RpD} (n : Int) (h : R.ap = R.com) : (rpApply R n).1.ap = (rpApply R n).1.com := by
 obtain ⟨h1, h2, _⟩ := rpSteps_com ((R.x.log.take n.toNat).drop R.com) R
 show (rpSteps _ R).1.ap = (rpSteps _ R).1.com
 rw [h1, h2, h]
theorem rpCounted_ap {R : RpD} (v : VoteD) (fr n : Int) (h : R.ap = R.com) : (rpCounted R v fr n).1.ap = (rpCounted R v fr n).1.com := rpApply_ap _ h
theorem rpTake_ap {R : RpD} (t : Int) (l : List EntryD) (h : R.ap = R.com) : (rpTake R t l).2.ap = (rpTake R t l).2.com := by
 obtain ⟨_, _, _, _, _, h1, h2, _⟩ := rpTake_same R t l
 rw [h1, h2, h]
theorem rpPromise_ap {R : RpD} (t : Int) (h : R.ap = R.com) : (rpPromise R t).2.ap = (rpPromise R t).2.com := by
 obtain ⟨_, _, _, _, _, h1, h2, _⟩ := rpPromise_same R t
 rw [h1, h2, h]
theorem rpWon_ap {R : RpD} (v : VoteD) (h : R.ap = R.com) : (rpWon R v).1.ap = (rpWon R v).1.com := by
 unfold rpWon
 split
 ·exact rpCounted_ap _ _ _ (rpTake_ap _ _ h)
 ·exact h
theorem rpLead_ap {R : RpD} (h : R.ap = R.com) : (rpLead R).1.ap = (rpLead R).1.com := by
 unfold rpLead
 simp only []
 split
 ·split
  ·exact rpWon_ap _ (rpPromise_ap _ h)
  ·exact rpPromise_ap _ h
 ·exact h
theorem rpAsk_ap {R : RpD} (fr : Int) (e : EntryD) (h : R.ap = R.com) : (rpAsk R fr e).1.ap = (rpAsk R fr e).1.com := by
 unfold rpAsk
 split
 ·split
  ·exact rpCounted_ap _ _ _ (rpTake_ap _ _ h)
  ·exact h
 ·exact h
theorem rpAcc_ap {R : RpD} (fr : Int) (m : MsgD) (h : R.ap = R.com) : (rpAcc R fr m).1.ap = (rpAcc R fr m).1.com := by
 unfold rpAcc
 split
 ·simp only []
  refine rpApply_ap _ ?_
  split
  ·exact rpTake_ap _ _ h
  ·exact rpTake_ap _ _ h
 ·exact h
theorem rpRecv_ap {R : RpD} (fr : Int) (m : MsgD) (h : R.ap = R.com) : (rpRecv R fr m).1.ap = (rpRecv R fr m).1.com := by
 unfold rpRecv
 split
 ·exact h
 split
 ·exact rpAsk_ap _ _ h
 split
 ·exact h
 split
 ·unfold rpPrep
  split
  ·exact rpPromise_ap _ h
  ·exact h
 split
 ·split
  ·split
   ·simp only []
    split
    ·exact rpWon_ap _ h
    ·exact h
   ·exact h
  ·exact h
 split
 ·exact rpAcc_ap _ _ h
 split
 ·split
  ·split
   ·exact rpCounted_ap _ _ _ h
   ·exact h
  ·exact h
 ·exact h
structure RSys (I : Nat → Prop) (w W : World) (M : List Nat) (tg : Nat → Nat → Nat) (r d : Nat → Nat) (R : Nat → RpD) : Prop where
 rp : ∀ i, I i → RpAt W M (tg i) (r i) (d i) (R i)
 ap : ∀ i, I i → (R i).ap = (R i).com
 lt : ∀ g ∈ M, g < W.heap.size
 old : ∀ g ∈ M, w.heap.size ≤ g
 bel : Below w.heap.size w W
 dj : ∀ i j, I i → I j → i ≠ j → ∀ g ∈ M, tg i g < 30 → tg j g = 99
/-- A block beside all of them. -/
def Bes (M : List Nat) (tg : Nat → Nat → Nat) (b : Nat) : Prop := b ∈ M ∧ ∀ j, tg j b = 99
/-- What a step leaves as it was. -/
structure Goes (W : World) (M : List Nat) (tg : Nat → Nat → Nat) (V : World) (M' : List Nat) (tg' : Nat → Nat → Nat) : Prop where
 sub : ∀ g ∈ M, g ∈ M'
 new : ∀ g ∈ M', g ∈ M ∨ W.heap.size ≤ g
 bes : ∀ b, b < W.heap.size → Bes M tg b → Bes M' tg' b
 kx : ∃ L, (∀ g ∈ L, g ∈ M ∧ ¬ Bes M tg g) ∧ Keeps L W V
theorem Goes.k {W V : World} {M M' : List Nat} {tg tg' : Nat → Nat → Nat} (h : Goes W M tg V M' tg') : Keeps M W V := by
 obtain ⟨L, h1, h2⟩ := h.kx
 exact h2.mono (fun g hg => .inl (h1 g hg).1)
theorem Goes.kb {W V : World} {M M' : List Nat} {tg tg' : Nat → Nat → Nat} (h : Goes W M tg V M' tg') (b : Nat) (hb : b < W.heap.size) (hB : Bes M tg b) (j : Nat) : V.cell? ⟨b, j, none⟩ = W.cell? ⟨b, j, none⟩ := by
 obtain ⟨L, h1, h2⟩ := h.kx
 exact h2.cell (p := ⟨b, j, none⟩) hb (fun hm => (h1 b hm).2 hB)
theorem RpAt.other {W V : World} {M M' : List Nat} {t t' : Nat → Nat} {r d : Nat} {R : RpD} (h : RpAt W M t r d R) (hx : Ext W M t V M' t') (hk : Keeps (sel M t [99]) W V) : RpAt V M' t' r d R := by
 obtain ⟨ho, C, hC, hv⟩ := h
 exact ⟨ho, C, hC, hv.keepT hx hk (by simp)⟩
section
variable {I I' : Nat → Prop} {w W V U : World} {M M' M'' : List Nat} {tg tg' tg'' : Nat → Nat → Nat} {r d : Nat → Nat} {R : Nat → RpD} {R' : RpD} {t' : Nat → Nat}
theorem Goes.msg {m : MsgD} {dv lv : Value} (h : Goes W M tg V M' tg') (hm : MsgAt W M m dv lv) : MsgAt V M' m dv lv :=
 (hm.avoid h.new).keep h.k (fun g hg => .inl (h.sub g hg))
theorem Goes.trans (h : Goes W M tg V M' tg') (k : Goes V M' tg' U M'' tg'') (hs : W.heap.size ≤ V.heap.size) : Goes W M tg U M'' tg'' :=
 ⟨fun g hg => k.sub g (h.sub g hg), fun g hg => by
  rcases k.new g hg with h1 | h1
  ·exact h.new g h1
  ·right; omega, fun b hb h1 => k.bes b (by omega) (h.bes b hb h1), by
  obtain ⟨L, h1, h2⟩ := h.kx
  obtain ⟨L', k1, k2⟩ := k.kx
  refine ⟨L ++ L'.filter (fun g => decide (g < W.heap.size)), fun g hg => ?_, (h2.mono (M' := L ++ L'.filter (fun g => decide (g < W.heap.size))) (fun g hg => .inl (List.mem_append_left _ hg))).trans k2 (fun g hg => ?_)⟩
  ·rcases List.mem_append.1 hg with q | q
   ·exact h1 g q
   ·obtain ⟨q1, q2⟩ := List.mem_filter.1 q
    have q3 := of_decide_eq_true q2
    obtain ⟨r1, r2⟩ := k1 g q1
    exact ⟨(h.new g r1).resolve_right (by omega), fun hB => r2 (h.bes g q3 hB)⟩
  ·by_cases q : g < W.heap.size
   ·exact .inl (List.mem_append_right _ (List.mem_filter.2 ⟨hg, decide_eq_true q⟩))
   ·exact .inr (by omega)⟩
theorem RSys.mono (h : RSys I w W M tg r d R) (hI : ∀ i, I' i → I i) : RSys I' w W M tg r d R :=
 ⟨fun i hi => h.rp i (hI i hi), fun i hi => h.ap i (hI i hi), h.lt, h.old, h.bel, fun i j hi hj => h.dj i j (hI i hi) (hI j hj)⟩
theorem RSys.beside (h : RSys I w W M tg r d R) {L : List Nat} (hL : ∀ g ∈ L, Bes M tg g) (hk : Keeps L W V) : RSys I w V M tg r d R :=
 ⟨fun i hi => (h.rp i hi).other (Ext.refl h.lt hk.size) (hk.to_sel (fun g hg => .inl ⟨(hL g hg).1, by rw [(hL g hg).2 i]; simp⟩)), h.ap, fun g hg => Nat.lt_of_lt_of_le (h.lt g hg) hk.size, h.old, h.bel.trans (hk.belowB h.bel.size (fun g hg => h.old g (hL g hg).1)), h.dj⟩
theorem RSys.keep0 (h : RSys I w W M tg r d R) (hk : Keeps [] W V) : RSys I w V M tg r d R := h.beside (L := []) (by simp) hk
theorem Goes.keep0 (h : RSys I w W M tg r d R) (hk : Keeps [] W V) : Goes W M tg V M tg := ⟨fun _ h => h, fun _ h => .inl h, fun _ _ h => h, [], by simp, hk⟩
theorem RSys.more (h : RSys I w W M tg r d R) (hk : Keeps [] W V) (L : List Nat) (hL : ∀ g ∈ L, W.heap.size ≤ g ∧ g < V.heap.size) :
  ∃ tg', RSys I w V (L ++ M) tg' r d R ∧ Goes W M tg V (L ++ M) tg' ∧ ∀ g ∈ L, Bes (L ++ M) tg' g := by
 have hx : ∀ i, Ext W M (tg i) V (L ++ M) (fun g => if g < W.heap.size then tg i g else 99) := fun i => ⟨fun g hg => List.mem_append_right _ hg, fun g hg => by
  rcases List.mem_append.1 hg with h1 | h1
  ·exact .inr (hL g h1).1
  ·exact .inl h1, fun g hg => if_pos hg, h.lt, fun g hg => by
  rcases List.mem_append.1 hg with h1 | h1
  ·exact (hL g h1).2
  ·exact Nat.lt_of_lt_of_le (h.lt g h1) hk.size⟩
 refine ⟨fun i g => if g < W.heap.size then tg i g else 99, ⟨fun i hi => (h.rp i hi).other (hx i) (hk.to_sel (by simp)), h.ap, (hx 0).lt, fun g hg => ?_, h.bel.trans (hk.belowB h.bel.size (by simp)), fun i j hi hj hij g hg hlt => ?_⟩, ⟨(hx 0).sub, (hx 0).new, fun b hb h1 => ⟨(hx 0).sub b h1.1, fun j => by show (if b < W.heap.size then tg j b else 99) = 99; rw [if_pos hb]; exact h1.2 j⟩, [], by simp, hk⟩, fun g hg => ⟨List.mem_append_left _ hg, fun j => if_neg (by have := (hL g hg).1; omega)⟩⟩
 ·rcases (hx 0).new g hg with h1 | h1
  ·exact h.old g h1
  ·exact Nat.le_trans h.bel.size h1
 ·show (if g < W.heap.size then tg j g else 99) = 99
  have hlt' : (if g < W.heap.size then tg i g else 99) < 30 := hlt
  split
  ·rename_i h1
   rw [if_pos h1] at hlt'
   rcases (hx 0).new g hg with h2 | h2
   ·exact h.dj i j hi hj hij g h2 hlt'
   ·omega
  ·rfl
/-- One of them goes a step. -/
theorem RSys.turn (h : RSys I w W M tg r d R) {i : Nat} (hi : I i) (x : Ext W M (tg i) V M' t') (k : Keeps (sel M (tg i) (List.range 30)) W V) (hra : RpAt V M' t' (r i) (d i) R') (hap : R'.ap = R'.com) :
  ∃ tg', RSys I w V M' tg' r d (upd R i R') ∧ Goes W M tg V M' tg' ∧ tg' i = t' ∧ ∀ j, j ≠ i → ∀ g, W.heap.size ≤ g → tg' j g = 99 := by
 have hsz := k.size
 have hx : ∀ j, Ext W M (tg j) V M' (if j = i then t' else fun g => if g < W.heap.size then tg j g else 99) := fun j => ⟨x.sub, x.new, fun g hg => by
  by_cases e : j = i
  ·subst e; rw [if_pos rfl]; exact x.tag g hg
  ·rw [if_neg e]; exact if_pos hg, h.lt, x.lt⟩
 have hbes : ∀ b, b < W.heap.size → Bes M tg b → Bes M' (fun j => if j = i then t' else fun g => if g < W.heap.size then tg j g else 99) b := fun b hb h1 => ⟨x.sub b h1.1, fun j => ((hx j).tag b hb).trans (h1.2 j)⟩
 refine ⟨fun j => if j = i then t' else fun g => if g < W.heap.size then tg j g else 99, ⟨fun j hj => ?_, fun j hj => ?_, x.lt, fun g hg => ?_, h.bel.trans (k.belowB h.bel.size (fun g hg => h.old g (mem_sel.1 hg).1)), fun a b ha hb hab g hg hlt => ?_⟩, ⟨x.sub, x.new, hbes, _, fun g hg => ⟨(mem_sel.1 hg).1, fun hB => by have := (mem_sel.1 hg).2; rw [hB.2 i] at this; simp at this⟩, k⟩, if_pos rfl, fun j hj g hg => ?_⟩
 ·by_cases e : j = i
  ·subst e
   simp only [upd_same, if_pos]
   exact hra
  ·rw [upd_ne _ _ e]
   exact (h.rp j hj).other (hx j) (k.mono (fun g hg => by
    obtain ⟨h1, h2⟩ := mem_sel.1 hg
    exact .inl (mem_sel.2 ⟨h1, by rw [h.dj i j hi hj (fun e' => e e'.symm) g h1 (by simpa using h2)]; simp⟩)))
 ·by_cases e : j = i
  ·subst e; rw [upd_same]; exact hap
  ·rw [upd_ne _ _ e]; exact h.ap j hj
 ·rcases x.new g hg with h1 | h1
  ·exact h.old g h1
  ·exact Nat.le_trans h.bel.size h1
 ·by_cases hgs : g < W.heap.size
  ·have e1 := (hx a).tag g hgs
   have e2 := (hx b).tag g hgs
   rcases x.new g hg with h1 | h1
   ·exact e2.trans (h.dj a b ha hb hab g h1 (by have h9 : (if a = i then t' else fun g => if g < W.heap.size then tg a g else 99) g < 30 := hlt; rw [e1] at h9; exact h9))
   ·omega
  ·by_cases e : b = i
   ·have h9 : (if a = i then t' else fun g => if g < W.heap.size then tg a g else 99) g < 30 := hlt
    rw [if_neg (fun e2 => hab (e2.trans e.symm))] at h9
    have h10 : (if g < W.heap.size then tg a g else 99) < 30 := h9
    rw [if_neg hgs] at h10
    omega
   ·show (if b = i then t' else fun g => if g < W.heap.size then tg b g else 99) g = 99
    rw [if_neg e]
    exact if_neg hgs
 ·show (if j = i then t' else fun g => if g < W.heap.size then tg j g else 99) g = 99
  rw [if_neg hj]
  exact if_neg (by omega)
/-- One more replica. -/
theorem RSys.add (h : RSys I w W M tg r d R) {Y : List Nat} {d' i : Nat} {e : Ending} (hi : ¬ I i) (hY : ∀ g ∈ Y, g ∈ M ∧ ∀ j, I j → tg j g = 99) (hp : RnPostZ Y M d' R' W e V) (hap : R'.ap = R'.com) :
  ∃ M' tg' r', e = .returned (.pointer (some ⟨r', 0, none⟩)) ∧ RSys (fun j => j = i ∨ I j) w V M' tg' (upd r i r') (upd d i d') (upd R i R') ∧ (∀ g ∈ M, g ∈ M') ∧ (∀ g ∈ M', g ∈ M ∨ W.heap.size ≤ g) ∧ (∀ b, b < W.heap.size → Bes M tg b → b ∉ Y → Bes M' tg' b) ∧ Keeps Y W V ∧ W.heap.size ≤ r' := by
 obtain ⟨r', M', t', he, ha, h1, h2, h3, h4, h5, h6, h7⟩ := hp
 have hsz := h6.size
 have hnew : ∀ g ∈ M', g ∈ M ∨ W.heap.size ≤ g := fun g hg => by
  rcases h1 g hg with q | q | q
  ·exact .inl (hY g q).1
  ·exact .inl q
  ·exact .inr q
 have hx : ∀ j, Ext W M (tg j) V M' (fun g => if g < W.heap.size then tg j g else 99) := fun j => ⟨h3, hnew, fun g hg => if_pos hg, h.lt, h2⟩
 have hij : ∀ j, I j → j ≠ i := fun j hj e => hi (e ▸ hj)
 refine ⟨M', fun j => if j = i then t' else fun g => if g < W.heap.size then tg j g else 99, r', he, ⟨fun j hj => ?_, fun j hj => ?_, h2, fun g hg => ?_, h.bel.trans (h6.belowB h.bel.size (fun g hg => h.old g (hY g hg).1)), fun a b ha hb hab g hg hlt => ?_⟩, h3, hnew, fun b hb h8 hn => ⟨h3 b h8.1, fun j => ?_⟩, h6, h7⟩
 ·by_cases e : j = i
  ·subst e
   simp only [upd_same, if_pos]
   exact ha
  ·rw [upd_ne _ _ e, upd_ne _ _ e, upd_ne _ _ e]
   simp only [if_neg e]
   have hj' := hj.resolve_left e
   exact (h.rp j hj').other (hx j) (h6.to_sel (fun g hg => .inl ⟨(hY g hg).1, by rw [(hY g hg).2 j hj']; simp⟩))
 ·by_cases e : j = i
  ·subst e; rw [upd_same]; exact hap
  ·rw [upd_ne _ _ e]; exact h.ap j (hj.resolve_left e)
 ·rcases hnew g hg with q | q
  ·exact h.old g q
  ·exact Nat.le_trans h.bel.size q
 ·have hlt' : (if a = i then t' else fun g => if g < W.heap.size then tg a g else 99) g < 30 := hlt
  show (if b = i then t' else fun g => if g < W.heap.size then tg b g else 99) g = 99
  by_cases ea : a = i
  ·rw [if_pos ea] at hlt'
   have eb : b ≠ i := fun e => hab (ea.trans e.symm)
   rw [if_neg eb]
   show (if g < W.heap.size then tg b g else 99) = 99
   split
   ·rename_i hgs
    by_cases hgY : g ∈ Y
    ·exact (hY g hgY).2 b (hb.resolve_left eb)
    ·have := h5 g hgs hgY
     omega
   ·rfl
  ·rw [if_neg ea] at hlt'
   have hgs : g < W.heap.size := Classical.byContradiction fun hc => by
    have h9 : (if g < W.heap.size then tg a g else 99) < 30 := hlt'
    rw [if_neg hc] at h9
    omega
   have hta : tg a g < 30 := by
    have h9 : (if g < W.heap.size then tg a g else 99) < 30 := hlt'
    rwa [if_pos hgs] at h9
   have hgM : g ∈ M := (hnew g hg).resolve_right (by omega)
   by_cases eb : b = i
   ·rw [if_pos eb]
    refine h5 g hgs (fun hgY => ?_)
    have := (hY g hgY).2 a (ha.resolve_left ea)
    omega
   ·rw [if_neg eb]
    show (if g < W.heap.size then tg b g else 99) = 99
    rw [if_pos hgs]
    exact h.dj a b (ha.resolve_left ea) (hb.resolve_left eb) hab g hgM hta
 ·show (if j = i then t' else fun g => if g < W.heap.size then tg j g else 99) b = 99
  by_cases e : j = i
  ·rw [if_pos e]; exact h5 b hb hn
  ·rw [if_neg e]
   show (if b < W.heap.size then tg j b else 99) = 99
   rw [if_pos hb]
   exact h8.2 j
theorem RSys.start (hw : Below w.heap.size w W) (tg : Nat → Nat → Nat) (r d : Nat → Nat) (R : Nat → RpD) : RSys (fun _ => False) w W [] tg r d R := ⟨fun _ h => h.elim, fun _ h => h.elim, by simp, by simp, hw, fun _ _ h => h.elim⟩
theorem RSys.cell0 (h : RSys I w W M tg r d R) {m : Int} (hm : w.cell? ⟨0, 0, none⟩ = some (.int .i64 m)) : W.cell? ⟨0, 0, none⟩ = some (.int .i64 m) ∧ 0 ∉ M := by
 have hw0 : 0 < w.heap.size := by
  have := World.block_lt_of_cell? w _ hm
  simpa using this
 exact ⟨(h.bel.cell (p := ⟨0, 0, none⟩) hw0).trans hm, fun h1 => by have := h.old 0 h1; omega⟩
/-- A row of messages that a step gives. -/
structure SRow (W0 W : World) (M : List Nat) (tg : Nat → Nat → Nat) (v : Value) (out : List SentD) : Prop where
 qs : ∃ qs : List (SentD × Value × Value), qs.map (·.1) = out ∧ W.ownsRow W0.heap.size 39 19 v out.length (qs.flatMap srCell) ∧ ∀ q ∈ qs, ∀ L, (∀ g ∈ L, g < W0.heap.size) → MsgAt W (L ++ M) q.1.m q.2.1 q.2.2
 far : ∀ g, v.ownBlock = some g → Bes M tg g
theorem RSys.ro (h : RSys I w W M tg r d R) {i : Nat} (hi : I i) {P : RpD × List SentD} {e : Ending} (hp : ROPost M (tg i) (r i) (d i) P W e V) (hap : P.1.ap = P.1.com) :
  ∃ v M' tg', e = .returned v ∧ RSys I w V M' tg' r d (upd R i P.1) ∧ Goes W M tg V M' tg' ∧ SRow W V M' tg' v P.2 := by
 obtain ⟨v, M', t', he, ha, hx, hk, ⟨qs, h1, h2, h3⟩, hf⟩ := hp
 obtain ⟨tg', s1, s2, s3, s4⟩ := h.turn hi hx hk ha hap
 refine ⟨v, M', tg', he, s1, s2, ⟨⟨qs, h1, h2, h3⟩, fun g hg => ⟨(hf g hg).1, fun j => ?_⟩⟩⟩
 by_cases e : j = i
 ·subst e; rw [s3]; exact (hf g hg).2
 ·exact s4 j e g (h2.lt g hg).1
end
/-- A tape beside. -/
structure TpS (w W : World) (M : List Nat) (tg : Nat → Nat → Nat) (b : Nat) (l : List Int) (k : Nat) : Prop where
 at_ : TapeAt W b ⟨l, w.heap.size⟩ k
 bes : Bes M tg b
section
variable {I : Nat → Prop} {w W V : World} {M M' : List Nat} {tg tg' : Nat → Nat → Nat} {r d : Nat → Nat} {R : Nat → RpD} {b k : Nat} {l : List Int}
theorem TpS.goes (h : TpS w W M tg b l k) (hs : RSys I w W M tg r d R) (g : Goes W M tg V M' tg') : TpS w V M' tg' b l k := by
 obtain ⟨L, h1, h2⟩ := g.kx
 exact ⟨h.at_.keep2 h2 (fun x hx => ⟨hs.old x (h1 x hx).1, fun e => (h1 x hx).2 (e ▸ h.bes)⟩), g.bes b h.at_.lt h.bes⟩
theorem TpS.keep0 (h : TpS w W M tg b l k) (hk : Keeps [] W V) : TpS w V M tg b l k := ⟨h.at_.keep2 hk (by simp), h.bes⟩
theorem RSys.tape (h : RSys I w W M tg r d R) {Av : Option Addr} {c : Nat} {l : List Int} (hN : Nums w Av c l) :
  ∃ tg', RSys I w (W.alloc (.cells #[.slice Av l.length c, .int .i64 0] 43)) ([W.heap.size] ++ M) tg' r d R ∧ TpS w (W.alloc (.cells #[.slice Av l.length c, .int .i64 0] 43)) ([W.heap.size] ++ M) tg' W.heap.size l 0 ∧ Goes W M tg (W.alloc (.cells #[.slice Av l.length c, .int .i64 0] 43)) ([W.heap.size] ++ M) tg' := by
 obtain ⟨tg', h1, h2, h3⟩ := h.more ((Keeps.refl _ _).alloc (.cells #[.slice Av l.length c, .int .i64 0] 43)) [W.heap.size] (by simp)
 exact ⟨tg', h1, ⟨tape_new hN h.bel, h3 _ (by simp)⟩, h2⟩
/-- An entry is taken of it. -/
theorem RSys.entry (h : RSys I w W M tg r d R) (t : TpS w W M tg b l k) :
  Calls Tryz.prog 12 #[.pointer (some ⟨b, 0, none⟩)] W fun e V => ∃ (en : EntryD) (dv : Value) (k' : Nat), e = .returned (.agg (eCell (en, dv)).toArray) ∧ EntryOk en ∧ (∀ L, (∀ g ∈ L, g < W.heap.size) → Ds V L dv en.ds) ∧ RSys I w V M tg r d R ∧ TpS w V M tg b l k' ∧ Keeps [b] W V := by
 refine (entry_any b _ k W t.at_).mono ?_
 rintro e V ⟨en, dv, k', he, hok, hds, hT, hk⟩
 exact ⟨en, dv, k', he, hok, hds, h.beside (by intro g hg; simp at hg; subst hg; exact t.bes) hk, ⟨hT, t.bes⟩, hk⟩
theorem RSys.next (h : RSys I w W M tg r d R) (t : TpS w W M tg b l k) (n : Int) (hn : 1 ≤ n) :
  Calls Tryz.prog 16 #[.pointer (some ⟨b, 0, none⟩), .int .i64 n] W fun e V => ∃ (v : Int) (k' : Nat), e = .returned (.int .i64 v) ∧ (0 ≤ v ∧ v < n) ∧ RSys I w V M tg r d R ∧ TpS w V M tg b l k' ∧ Keeps [b] W V := by
 refine (next_any b _ k n W t.at_).mono ?_
 rintro e V ⟨v, k', rfl, h0, h1, hT, hk⟩
 exact ⟨v, k', rfl, ⟨h0, h1 hn⟩, h.beside (by intro g hg; simp at hg; subst hg; exact t.bes) hk, ⟨hT, t.bes⟩, hk⟩
end
theorem row_n {W : World} {base size n : Nat} {e : TypeId} {v : Value} {xs : List Value} (h : W.ownsRow base e size v n xs) (hn : 0 < n) : ∃ g cap, v = .slice (some ⟨g, 0, none⟩) n cap ∧ n ≤ cap ∧ g < W.heap.size ∧ v.ownBlock = some g ∧ ∀ j u, xs[j]? = some u → W.cell? ⟨g, j, none⟩ = some u := by
 obtain ⟨g, cap, hv, _, hlt⟩ := h.form hn
 obtain ⟨A, c, h1, h2, h3, h4⟩ := Rd.of_own (M := []) h (by simp)
 obtain ⟨g', off, e1, _, _, h5⟩ := h4 hn
 rw [hv] at h1
 injection h1 with h1 _ h6
 rw [e1] at h1
 injection h1 with h1
 injection h1 with h7 h8
 subst h7 h8 h6
 exact ⟨g, cap, hv, h2, hlt, by rw [hv]; rfl, fun j u hu => by have := h5 j u hu; rwa [Nat.zero_add] at this⟩
/-- Cells of a block beside, and of one that no replica knows. -/
structure Mem1 (W : World) (M : List Nat) (tg : Nat → Nat → Nat) (b : Nat) (cs : List Value) : Prop where
 bes : Bes M tg b
 lt : b < W.heap.size
 cell : ∀ j u, cs[j]? = some u → W.cell? ⟨b, j, none⟩ = some u
structure Out1 (W : World) (M : List Nat) (b : Nat) (cs : List Value) : Prop where
 out : b ∉ M
 lt : b < W.heap.size
 cell : ∀ j u, cs[j]? = some u → W.cell? ⟨b, j, none⟩ = some u
section
variable {I I' : Nat → Prop} {w W V U : World} {M M' M'' : List Nat} {tg tg' tg'' : Nat → Nat → Nat} {r d : Nat → Nat} {R : Nat → RpD} {R' : RpD} {t' : Nat → Nat} {b : Nat} {cs : List Value}
theorem Mem1.goes (h : Mem1 W M tg b cs) (g : Goes W M tg V M' tg') : Mem1 V M' tg' b cs :=
 ⟨g.bes b h.lt h.bes, Nat.lt_of_lt_of_le h.lt g.k.size, fun j u hu => (g.kb b h.lt h.bes j).trans (h.cell j u hu)⟩
theorem Out1.goes (h : Out1 W M b cs) (g : Goes W M tg V M' tg') : Out1 V M' b cs :=
 ⟨fun hm => (g.new b hm).elim h.out (fun h1 => by have := h.lt; omega), Nat.lt_of_lt_of_le h.lt g.k.size, fun j u hu => (g.k.cell (p := ⟨b, j, none⟩) h.lt h.out).trans (h.cell j u hu)⟩
theorem Out1.new (h : RSys I w W M tg r d R) (hb : W.heap.size ≤ b) (hlt : b < V.heap.size) (hc : ∀ j u, cs[j]? = some u → V.cell? ⟨b, j, none⟩ = some u) : Out1 V M b cs :=
 ⟨fun hm => by have := h.lt b hm; omega, hlt, hc⟩
/-- A new disk beside. -/
theorem RSys.disk (h : RSys I w W M tg r d R) (hb : Below W.heap.size W V) (hd : DkAt V [W.heap.size] W.heap.size [] 0) :
  ∃ tg', RSys I w V ([W.heap.size] ++ M) tg' r d R ∧ Goes W M tg V ([W.heap.size] ++ M) tg' ∧ Bes ([W.heap.size] ++ M) tg' W.heap.size := by
 have hlt : W.heap.size < V.heap.size := hd.old _ (by simp)
 obtain ⟨tg', h1, h2, h3⟩ := h.more (Keeps.of_below (M := []) hb) [W.heap.size] (by intro g hg; simp at hg; subst hg; exact ⟨Nat.le_refl _, hlt⟩)
 exact ⟨tg', h1, h2, h3 _ (by simp)⟩
/-- What a new replica leaves as it was. -/
structure GoesN (W : World) (M : List Nat) (tg : Nat → Nat → Nat) (Y : List Nat) (V : World) (M' : List Nat) (tg' : Nat → Nat → Nat) : Prop where
 sub : ∀ g ∈ M, g ∈ M'
 new : ∀ g ∈ M', g ∈ M ∨ W.heap.size ≤ g
 bes : ∀ b, b < W.heap.size → Bes M tg b → b ∉ Y → Bes M' tg' b
 k : Keeps Y W V
theorem Mem1.goesN {Y : List Nat} (h : Mem1 W M tg b cs) (g : GoesN W M tg Y V M' tg') (hn : b ∉ Y) : Mem1 V M' tg' b cs :=
 ⟨g.bes b h.lt h.bes hn, Nat.lt_of_lt_of_le h.lt g.k.size, fun j u hu => (g.k.cell (p := ⟨b, j, none⟩) h.lt hn).trans (h.cell j u hu)⟩
theorem RSys.newz (h : RSys I w W M tg r d R) {i : Nat} (hi : ¬ I i) {Y : List Nat} {b : Nat} {l : List UInt8} {k : Nat} (hd : DkAt W Y b l k) (hY : ∀ g ∈ Y, g ∈ M ∧ ∀ j, I j → tg j g = 99) (node nodes : Int) (h1 : 1 ≤ nodes) (h2 : nodes ≤ 8) (h3 : 0 ≤ node) (h4 : node < nodes) {m : Int} (hm : w.cell? ⟨0, 0, none⟩ = some (.int .i64 m)) :
  Calls Tryz.prog 7 #[.int .i64 node, .int .i64 nodes, .pointer (some ⟨b, 0, none⟩)] W fun e V => ∃ r' M' tg', e = .returned (.pointer (some ⟨r', 0, none⟩)) ∧ RSys (fun j => j = i ∨ I j) w V M' tg' (upd r i r') (upd d i b) (upd R i (rpNew node nodes l)) ∧ GoesN W M tg Y V M' tg' := by
 obtain ⟨c1, c2⟩ := h.cell0 hm
 refine (rpnew_z M h.lt node nodes h1 h2 h3 h4 hd m c1 (fun hY0 => c2 (hY 0 hY0).1)).mono ?_
 intro e V hp
 obtain ⟨M', tg', r', q1, q2, q3, q4, q5, q6, _⟩ := h.add hi hY hp rfl
 exact ⟨r', M', tg', q1, q2, q3, q4, q5, q6⟩
theorem RSys.lead (h : RSys I w W M tg r d R) {i : Nat} (hi : I i) {m : Int} (hm : w.cell? ⟨0, 0, none⟩ = some (.int .i64 m)) :
  Calls Tryz.prog 9 #[.pointer (some ⟨r i, 0, none⟩)] W fun e V => ∃ v M' tg', e = .returned v ∧ RSys I w V M' tg' r d (upd R i (rpLead (R i)).1) ∧ Goes W M tg V M' tg' ∧ SRow W V M' tg' v (rpLead (R i)).2 := by
 obtain ⟨c1, c2⟩ := h.cell0 hm
 exact (rplead_any (h.rp i hi) h.lt c2 (h.ap i hi) m c1).mono fun e V hp => h.ro hi hp (rpLead_ap (h.ap i hi))
/-- A message that may be given to a replica. -/
structure MFit (m : MsgD) : Prop where
 sh : MShort m
 we : Wf m.en
 wl : ∀ e ∈ m.log, Wf e
 dl : m.en.ds.length ≤ 1048576
 tm : m.term ≤ 9223372036854775807
theorem RSys.recv (h : RSys I w W M tg r d R) {i : Nat} (hi : I i) (fr : Int) (q : MsgD) (dv lv : Value) (hq : MsgAt W M q dv lv) (hf : MFit q) {m : Int} (hm : w.cell? ⟨0, 0, none⟩ = some (.int .i64 m)) :
  Calls Tryz.prog 10 #[.pointer (some ⟨r i, 0, none⟩), .int .i64 fr, .agg (mCell q dv lv).toArray] W fun e V => ∃ v M' tg', e = .returned v ∧ RSys I w V M' tg' r d (upd R i (rpRecv (R i) fr q).1) ∧ Goes W M tg V M' tg' ∧ SRow W V M' tg' v (rpRecv (R i) fr q).2 := by
 obtain ⟨c1, c2⟩ := h.cell0 hm
 exact (rprecv_any (h.rp i hi) h.lt c2 (h.ap i hi) fr q dv lv hq hf.sh hf.we hf.wl hf.dl hf.tm m c1).mono fun e V hp => h.ro hi hp (rpRecv_ap fr q (h.ap i hi))
theorem srow_one {q : SentD} {v : Value} (h : SRow W V M tg v [q]) : ∃ g cap dv lv, v = .slice (some ⟨g, 0, none⟩) 1 cap ∧ 1 ≤ cap ∧ Mem1 V M tg g (sCell q.dst q.m dv lv) ∧ MsgAt V M q.m dv lv := by
 obtain ⟨⟨qs, h1, h2, h3⟩, hf⟩ := h
 obtain ⟨p, rfl⟩ := List.length_eq_one_iff.1 (show qs.length = 1 by rw [← List.length_map (f := (·.1)), h1]; rfl)
 simp at h1
 subst h1
 obtain ⟨g, cap, hv, hc, hg, ho, hcell⟩ := row_n h2 (by simp)
 refine ⟨g, cap, p.2.1, p.2.2, hv, hc, ⟨hf g ho, hg, fun j u hu => hcell j u ?_⟩, by simpa using h3 p (by simp) [] (by simp)⟩
 simpa [srCell] using hu
theorem srow_two {q q2 : SentD} {v : Value} (h : SRow W V M tg v [q, q2]) : ∃ g cap dv lv dv2 lv2, v = .slice (some ⟨g, 0, none⟩) 2 cap ∧ 2 ≤ cap ∧ Mem1 V M tg g (sCell q.dst q.m dv lv ++ sCell q2.dst q2.m dv2 lv2) ∧ MsgAt V M q.m dv lv ∧ MsgAt V M q2.m dv2 lv2 := by
 obtain ⟨⟨qs, h1, h2, h3⟩, hf⟩ := h
 obtain ⟨p, p2, rfl⟩ : ∃ p p2, qs = [p, p2] := by
  cases qs with
  | nil => cases h1
  | cons p t => cases t with
   | nil => simp at h1
   | cons p2 t2 => cases t2 with
    | nil => exact ⟨p, p2, rfl⟩
    | cons _ _ => simp at h1
 have h4 : p.1 = q := by injection h1
 have h5 : p2.1 = q2 := by injection h1 with _ h1; injection h1
 clear h1
 subst h4 h5
 obtain ⟨g, cap, hv, hc, hg, ho, hcell⟩ := row_n h2 (by simp)
 refine ⟨g, cap, p.2.1, p.2.2, p2.2.1, p2.2.2, hv, hc, ⟨hf g ho, hg, fun j u hu => hcell j u ?_⟩, by simpa using h3 p (by simp) [] (by simp), by simpa using h3 p2 (by simp) [] (by simp)⟩
 simpa [srCell] using hu
theorem srow_nil {v : Value} (h : SRow W V M tg v []) : ∃ A cap, v = .slice A 0 cap := by
 obtain ⟨⟨qs, h1, h2, h3⟩, hf⟩ := h
 obtain ⟨A, cap, hv, _⟩ := Rd.of_own (M := []) h2 (by simp)
 exact ⟨A, cap, hv⟩
theorem sys_leads (h : RSys I w W M tg r d R) {i : Nat} (hi : I i) (V : World) (hk : Keeps [] W V) :
  Calls Tryz.prog 14 #[.pointer (some ⟨r i, 0, none⟩)] V fun e w' => e = .returned (.bool (R i).leads) ∧ V = w' := by
 obtain ⟨_, C, _, hv⟩ := (h.keep0 hk).rp i hi
 exact rpleads_any hv
theorem sys_commit (h : RSys I w W M tg r d R) {i : Nat} (hi : I i) (V : World) (hk : Keeps [] W V) :
  Calls Tryz.prog 13 #[.pointer (some ⟨r i, 0, none⟩)] V fun e w' => e = .returned (.int .i64 (R i).com) ∧ V = w' := by
 obtain ⟨_, C, _, hv⟩ := (h.keep0 hk).rp i hi
 exact rpcommit_any hv
theorem sys_term (h : RSys I w W M tg r d R) {i : Nat} (hi : I i) (V : World) (hk : Keeps [] W V) :
  Calls Tryz.prog 47 #[.pointer (some ⟨r i, 0, none⟩)] V fun e w' => e = .returned (.int .i64 (R i).x.t) ∧ V = w' := by
 obtain ⟨_, C, _, hv⟩ := (h.keep0 hk).rp i hi
 exact rpterm_any hv
theorem RSys.congr {r' d' : Nat → Nat} {Q : Nat → RpD} (h : RSys I w W M tg r d R) (he : ∀ i, I i → r i = r' i ∧ d i = d' i ∧ R i = Q i) : RSys I w W M tg r' d' Q :=
 ⟨fun i hi => by obtain ⟨a, b, c⟩ := he i hi; rw [← a, ← b, ← c]; exact h.rp i hi, fun i hi => by rw [← (he i hi).2.2]; exact h.ap i hi, h.lt, h.old, h.bel, h.dj⟩
end
/-- Two of them. -/
def two {α : Type} (a b : α) : Nat → α := fun j => if j = 0 then a else b
def Sys2 (w W : World) (M : List Nat) (tg : Nat → Nat → Nat) (ra rb da db : Nat) (A B : RpD) : Prop := RSys (fun j => j = 0 ∨ j = 1) w W M tg (two ra rb) (two da db) (two A B)
section
variable {w W V : World} {M M' : List Nat} {tg tg' : Nat → Nat → Nat} {ra rb da db : Nat} {A B : RpD} {P : RpD × List SentD}
theorem upd0 {α : Type} (a b c : α) (i : Nat) : upd (two a b) 0 c i = two c b i := by
 unfold two
 by_cases h : i = 0
 ·subst h; rw [upd_same, if_pos rfl]
 ·rw [upd_ne _ _ h, if_neg h, if_neg h]
theorem upd1 {α : Type} (a b c : α) (i : Nat) (hi : i = 0 ∨ i = 1) : upd (two a b) 1 c i = two a c i := by
 unfold two
 rcases hi with rfl | rfl
 ·rw [upd_ne _ _ (by decide)]; rfl
 ·rw [upd_same]; rfl
theorem Sys2.keep0 (h : Sys2 w W M tg ra rb da db A B) (hk : Keeps [] W V) : Sys2 w V M tg ra rb da db A B := RSys.keep0 h hk
theorem Sys2.lead0 (h : Sys2 w W M tg ra rb da db A B) {m : Int} (hm : w.cell? ⟨0, 0, none⟩ = some (.int .i64 m)) (hP : rpLead A = P) :
  Calls Tryz.prog 9 #[.pointer (some ⟨ra, 0, none⟩)] W fun e V => ∃ v M' tg', e = .returned v ∧ Sys2 w V M' tg' ra rb da db P.1 B ∧ Goes W M tg V M' tg' ∧ SRow W V M' tg' v P.2 := by
 subst hP
 refine (RSys.lead h (i := 0) (.inl rfl) hm).mono ?_
 rintro e V ⟨v, M', tg', h1, h2, h3, h4⟩
 exact ⟨v, M', tg', h1, RSys.congr h2 (fun i hi => ⟨rfl, rfl, upd0 _ _ _ i⟩), h3, h4⟩
theorem Sys2.lead1 (h : Sys2 w W M tg ra rb da db A B) {m : Int} (hm : w.cell? ⟨0, 0, none⟩ = some (.int .i64 m)) (hP : rpLead B = P) :
  Calls Tryz.prog 9 #[.pointer (some ⟨rb, 0, none⟩)] W fun e V => ∃ v M' tg', e = .returned v ∧ Sys2 w V M' tg' ra rb da db A P.1 ∧ Goes W M tg V M' tg' ∧ SRow W V M' tg' v P.2 := by
 subst hP
 refine (RSys.lead h (i := 1) (.inr rfl) hm).mono ?_
 rintro e V ⟨v, M', tg', h1, h2, h3, h4⟩
 exact ⟨v, M', tg', h1, RSys.congr h2 (fun i hi => ⟨rfl, rfl, upd1 _ _ _ i hi⟩), h3, h4⟩
theorem Sys2.recv0 (h : Sys2 w W M tg ra rb da db A B) (fr : Int) (q : MsgD) (dv lv : Value) (hq : MsgAt W M q dv lv) (hf : MFit q) {m : Int} (hm : w.cell? ⟨0, 0, none⟩ = some (.int .i64 m)) (hP : rpRecv A fr q = P) :
  Calls Tryz.prog 10 #[.pointer (some ⟨ra, 0, none⟩), .int .i64 fr, .agg (mCell q dv lv).toArray] W fun e V => ∃ v M' tg', e = .returned v ∧ Sys2 w V M' tg' ra rb da db P.1 B ∧ Goes W M tg V M' tg' ∧ SRow W V M' tg' v P.2 := by
 subst hP
 refine (RSys.recv h (i := 0) (.inl rfl) fr q dv lv hq hf hm).mono ?_
 rintro e V ⟨v, M', tg', h1, h2, h3, h4⟩
 exact ⟨v, M', tg', h1, RSys.congr h2 (fun i hi => ⟨rfl, rfl, upd0 _ _ _ i⟩), h3, h4⟩
theorem Sys2.recv1 (h : Sys2 w W M tg ra rb da db A B) (fr : Int) (q : MsgD) (dv lv : Value) (hq : MsgAt W M q dv lv) (hf : MFit q) {m : Int} (hm : w.cell? ⟨0, 0, none⟩ = some (.int .i64 m)) (hP : rpRecv B fr q = P) :
  Calls Tryz.prog 10 #[.pointer (some ⟨rb, 0, none⟩), .int .i64 fr, .agg (mCell q dv lv).toArray] W fun e V => ∃ v M' tg', e = .returned v ∧ Sys2 w V M' tg' ra rb da db A P.1 ∧ Goes W M tg V M' tg' ∧ SRow W V M' tg' v P.2 := by
 subst hP
 refine (RSys.recv h (i := 1) (.inr rfl) fr q dv lv hq hf hm).mono ?_
 rintro e V ⟨v, M', tg', h1, h2, h3, h4⟩
 exact ⟨v, M', tg', h1, RSys.congr h2 (fun i hi => ⟨rfl, rfl, upd1 _ _ _ i hi⟩), h3, h4⟩
theorem Sys2.leads0 (h : Sys2 w W M tg ra rb da db A B) (V : World) (hk : Keeps [] W V) :
  Calls Tryz.prog 14 #[.pointer (some ⟨ra, 0, none⟩)] V fun e w' => e = .returned (.bool A.leads) ∧ V = w' := sys_leads h (i := 0) (.inl rfl) V hk
theorem Sys2.leads1 (h : Sys2 w W M tg ra rb da db A B) (V : World) (hk : Keeps [] W V) :
  Calls Tryz.prog 14 #[.pointer (some ⟨rb, 0, none⟩)] V fun e w' => e = .returned (.bool B.leads) ∧ V = w' := sys_leads h (i := 1) (.inr rfl) V hk
theorem Sys2.commit0 (h : Sys2 w W M tg ra rb da db A B) (V : World) (hk : Keeps [] W V) :
  Calls Tryz.prog 13 #[.pointer (some ⟨ra, 0, none⟩)] V fun e w' => e = .returned (.int .i64 A.com) ∧ V = w' := sys_commit h (i := 0) (.inl rfl) V hk
theorem Sys2.term1 (h : Sys2 w W M tg ra rb da db A B) (V : World) (hk : Keeps [] W V) :
  Calls Tryz.prog 47 #[.pointer (some ⟨rb, 0, none⟩)] V fun e w' => e = .returned (.int .i64 B.x.t) ∧ V = w' := sys_term h (i := 1) (.inr rfl) V hk
theorem Sys2.of (h : RSys (fun j => j = 1 ∨ (j = 0 ∨ False)) w W M tg (upd (upd (fun _ => 0) 0 ra) 1 rb) (upd (upd (fun _ => 0) 0 da) 1 db) (upd (upd (fun _ => rpNew 0 1 []) 0 A) 1 B)) : Sys2 w W M tg ra rb da db A B := by
 refine RSys.congr (h.mono (I' := fun j => j = 0 ∨ j = 1) (fun i hi => hi.elim (fun h => .inr (.inl h)) .inl)) (fun i hi => ?_)
 rcases hi with rfl | rfl
 ·exact ⟨rfl, rfl, rfl⟩
 ·exact ⟨rfl, rfl, rfl⟩
end
/-- One of them. -/
def Sys1 (w W : World) (M : List Nat) (tg : Nat → Nat → Nat) (ra da : Nat) (A : RpD) : Prop := RSys (fun j => j = 0) w W M tg (fun _ => ra) (fun _ => da) (fun _ => A)
section
variable {w W V : World} {M M' : List Nat} {tg tg' : Nat → Nat → Nat} {ra da : Nat} {A : RpD} {P : RpD × List SentD}
theorem Sys1.keep0 (h : Sys1 w W M tg ra da A) (hk : Keeps [] W V) : Sys1 w V M tg ra da A := RSys.keep0 h hk
theorem Sys1.of {I : Nat → Prop} {r d : Nat → Nat} {R : Nat → RpD} (h : RSys I w W M tg r d R) (hI : I 0) (hr : r 0 = ra) (hd : d 0 = da) (hR : R 0 = A) : Sys1 w W M tg ra da A :=
 RSys.congr (h.mono (I' := fun j => j = 0) (fun i hi => by subst hi; exact hI)) (fun i hi => by subst hi; exact ⟨hr, hd, hR⟩)
theorem Sys1.lead (h : Sys1 w W M tg ra da A) {m : Int} (hm : w.cell? ⟨0, 0, none⟩ = some (.int .i64 m)) (hP : rpLead A = P) :
  Calls Tryz.prog 9 #[.pointer (some ⟨ra, 0, none⟩)] W fun e V => ∃ v M' tg', e = .returned v ∧ Sys1 w V M' tg' ra da P.1 ∧ Goes W M tg V M' tg' ∧ SRow W V M' tg' v P.2 := by
 subst hP
 refine (RSys.lead h (i := 0) rfl hm).mono ?_
 rintro e V ⟨v, M', tg', h1, h2, h3, h4⟩
 exact ⟨v, M', tg', h1, Sys1.of h2 rfl rfl rfl (upd_same _ _ _), h3, h4⟩
theorem Sys1.recv (h : Sys1 w W M tg ra da A) (fr : Int) (q : MsgD) (dv lv : Value) (hq : MsgAt W M q dv lv) (hf : MFit q) {m : Int} (hm : w.cell? ⟨0, 0, none⟩ = some (.int .i64 m)) (hP : rpRecv A fr q = P) :
  Calls Tryz.prog 10 #[.pointer (some ⟨ra, 0, none⟩), .int .i64 fr, .agg (mCell q dv lv).toArray] W fun e V => ∃ v M' tg', e = .returned v ∧ Sys1 w V M' tg' ra da P.1 ∧ Goes W M tg V M' tg' ∧ SRow W V M' tg' v P.2 := by
 subst hP
 refine (RSys.recv h (i := 0) rfl fr q dv lv hq hf hm).mono ?_
 rintro e V ⟨v, M', tg', h1, h2, h3, h4⟩
 exact ⟨v, M', tg', h1, Sys1.of h2 rfl rfl rfl (upd_same _ _ _), h3, h4⟩
theorem Sys1.leads (h : Sys1 w W M tg ra da A) (V : World) (hk : Keeps [] W V) :
  Calls Tryz.prog 14 #[.pointer (some ⟨ra, 0, none⟩)] V fun e w' => e = .returned (.bool A.leads) ∧ V = w' := sys_leads h (i := 0) rfl V hk
theorem Sys1.commit (h : Sys1 w W M tg ra da A) (V : World) (hk : Keeps [] W V) :
  Calls Tryz.prog 13 #[.pointer (some ⟨ra, 0, none⟩)] V fun e w' => e = .returned (.int .i64 A.com) ∧ V = w' := sys_commit h (i := 0) rfl V hk
/-- Its machine, and its disk. -/
theorem Sys1.parts (h : Sys1 w W M tg ra da A) : ∃ g X N Y, (∀ V, Keeps [] W V → Calls Tryz.prog 20 #[.pointer (some ⟨ra, 0, none⟩)] V fun e w' => e = .returned (.pointer (some ⟨g, 0, none⟩)) ∧ V = w') ∧ McAt W g X A.st N ∧ DkAt W Y da A.b A.k ∧ (∀ x ∈ X, x ∈ M ∧ tg 0 x = 5) ∧ ∀ x ∈ Y, x ∈ M ∧ tg 0 x = 4 := by
 obtain ⟨_, C, hC, hv⟩ := h.rp 0 rfl
 refine ⟨C.g, C.X, C.N, C.Y, fun V hk => ?_, hv.mc, ?_, hv.xM, hv.yM⟩
 ·obtain ⟨_, C2, hC2, hv2⟩ := (h.keep0 hk).rp 0 rfl
  have e1 := (rpcells hv).2.2.2.1
  have e2 := (rpcells hv2).2.2.2.1
  have e3 : V.cell? ⟨ra, 3, none⟩ = W.cell? ⟨ra, 3, none⟩ := hk.cell (p := ⟨ra, 3, none⟩) (World.block_lt_of_cell? W _ e1) (by simp)
  rw [e3, e1] at e2
  injection e2 with e2
  injection e2 with e2
  injection e2 with e2
  injection e2 with e2
  rw [e2]
  exact rpmachine_any hv2
 ·obtain ⟨lv, _, _, hl, _⟩ := hv.st.st
  rw [← hC]
  exact hl.2.1
/-- No replica any more: all of its blocks are beside. -/
theorem RSys.clear {I : Nat → Prop} {r d : Nat → Nat} {R : Nat → RpD} (h : RSys I w W M tg r d R) : RSys (fun _ => False) w W M (fun _ _ => 99) r d R := ⟨fun _ h => h.elim, fun _ h => h.elim, h.lt, h.old, h.bel, fun _ _ h => h.elim⟩
/-- A machine beside. -/
structure McS (W : World) (M : List Nat) (tg : Nat → Nat → Nat) (g : Nat) (X : List Nat) (st : McD) (N : Nat) : Prop where
 mc : McAt W g X st N
 bes : ∀ x ∈ X, Bes M tg x ∧ x < W.heap.size
theorem McS.goes {g N : Nat} {X : List Nat} {st : McD} (h : McS W M tg g X st N) (k : Goes W M tg V M' tg') : McS V M' tg' g X st N := by
 obtain ⟨L, h1, h2⟩ := k.kx
 exact ⟨h.mc.keep h2 (fun x hx hm => (h1 x hm).2 (h.bes x hx).1), fun x hx => ⟨k.bes x (h.bes x hx).2 (h.bes x hx).1, Nat.lt_of_lt_of_le (h.bes x hx).2 h2.size⟩⟩
theorem McS.goesN {g N : Nat} {X Y : List Nat} {st : McD} (h : McS W M tg g X st N) (k : GoesN W M tg Y V M' tg') (hY : ∀ x ∈ X, x ∉ Y) : McS V M' tg' g X st N :=
 ⟨h.mc.keep k.k hY, fun x hx => ⟨k.bes x (h.bes x hx).2 (h.bes x hx).1 (hY x hx), Nat.lt_of_lt_of_le (h.bes x hx).2 k.k.size⟩⟩
theorem McS.keep0 {g N : Nat} {X : List Nat} {st : McD} (h : McS W M tg g X st N) (k : Keeps [] W V) : McS V M tg g X st N := ⟨h.mc.keep k (by simp), fun x hx => ⟨(h.bes x hx).1, Nat.lt_of_lt_of_le (h.bes x hx).2 k.size⟩⟩
end
end Go.Proofs.YtdaceeijifjpeaaGreatDoor.Vi
end
section
namespace Go.Proofs.YtdaceeijifjpeaaGreatDoor.Lead
open Go.RowKit Base Mem
def rvoteCells (s : VoteD) (bv : Value) : List Value := [.int .i64 s.term, .int .i64 s.nodes] ++ (s.prom.map Value.bool ++ ([.int .i64 s.n, .int .i64 s.had, bv] ++ s.acc.map (Value.int .i64)))
structure RVoteAt (w : World) (M : List Nat) (b : Nat) (s : VoteD) : Prop where
 l1 : s.prom.length = 8
 l2 : s.acc.length = 8
 mem : ∃ bv, Blk w b 167 (rvoteCells s bv).toArray ∧ Ens w (b :: M) bv s.best
section
variable {w : World} {M : List Nat} {b : Nat} {s : VoteD}
theorem RVoteAt.cells (h : RVoteAt w M b s) : ∃ bv, Ens w (b :: M) bv s.best ∧ b < w.heap.size ∧ (∀ i, w.frozen? ⟨b, i, none⟩ = false) ∧ w.cell? ⟨b, 0, none⟩ = some (.int .i64 s.term) ∧ w.cell? ⟨b, 1, none⟩ = some (.int .i64 s.nodes) ∧
  (∀ i, i < 8 → w.cell? ⟨b, 2 + i, none⟩ = some (.bool (s.prom.getD i false))) ∧ (∀ i, i < 8 → w.cell? ⟨b, 13 + i, none⟩ = some (.int .i64 (s.acc.getD i 0))) ∧
  w.cell? ⟨b, 11, none⟩ = some (.int .i64 s.had) ∧ w.cell? ⟨b, 12, none⟩ = some bv ∧ w.cell? ⟨b, 10, none⟩ = some (.int .i64 s.n) := by
 obtain ⟨h1, h2, bv, hb, he⟩ := h
 obtain ⟨term, nodes, prom, acc, had, best, n⟩ := s
 match prom, h1, acc, h2 with
 | [p0, p1, p2, p3, p4, p5, p6, p7], _, [a0, a1, a2, a3, a4, a5, a6, a7], _ =>
  refine ⟨bv, he, hb.lt, hb.frozen, hb.cell 0, hb.cell 1, ?_, ?_, hb.cell 11, hb.cell 12, hb.cell 10⟩
  ·intro i hi
   rw [hb.cell]
   rcases (show i = 0 ∨ i = 1 ∨ i = 2 ∨ i = 3 ∨ i = 4 ∨ i = 5 ∨ i = 6 ∨ i = 7 by omega) with rfl | rfl | rfl | rfl | rfl | rfl | rfl | rfl <;> rfl
  ·intro i hi
   rw [hb.cell]
   rcases (show i = 0 ∨ i = 1 ∨ i = 2 ∨ i = 3 ∨ i = 4 ∨ i = 5 ∨ i = 6 ∨ i = 7 by omega) with rfl | rfl | rfl | rfl | rfl | rfl | rfl | rfl <;> rfl
theorem RVoteAt.drewN (h : RVoteAt w M b s) (n : Nat) : RVoteAt (w.drewN n) M b s := by
 obtain ⟨h1, h2, bv, hb, he⟩ := h
 exact ⟨h1, h2, bv, hb, he.keep (M' := []) ((Keeps.refl _ _).drewN n) (by simp)⟩
theorem RVoteAt.keep {M' : List Nat} {w' : World} (h : RVoteAt w M b s) (k : Keeps M' w w') (hb : b ∉ M') (hM : ∀ g ∈ M', g ∈ M ∨ w.heap.size ≤ g) : RVoteAt w' M b s := by
 obtain ⟨h1, h2, bv, hb', he⟩ := h
 exact ⟨h1, h2, bv, k.blk hb' hb, he.keep k (fun g hg => (hM g hg).imp (List.mem_cons_of_mem _) id)⟩
theorem RVoteAt.set_prom (h : RVoteAt w M b s) {i : Nat} (hi : i < 8) : RVoteAt (w.setCell ⟨b, 2 + i, none⟩ (.bool true)) M b { s with prom := s.prom.set i true } := by
 obtain ⟨h1, h2, bv, hb, he⟩ := h
 refine ⟨by simpa using h1, h2, bv, ?_, he.keep (keep_set w b _ _) (by simp)⟩
 have := hb.set_ (2 + i) (.bool true)
 obtain ⟨term, nodes, prom, acc, had, best, n⟩ := s
 match prom, h1, acc, h2 with
 | [p0, p1, p2, p3, p4, p5, p6, p7], _, [a0, a1, a2, a3, a4, a5, a6, a7], _ =>
  rcases (show i = 0 ∨ i = 1 ∨ i = 2 ∨ i = 3 ∨ i = 4 ∨ i = 5 ∨ i = 6 ∨ i = 7 by omega) with rfl | rfl | rfl | rfl | rfl | rfl | rfl | rfl <;> exact this
theorem RVoteAt.set_acc (h : RVoteAt w M b s) {i : Nat} (hi : i < 8) (x : Int) : RVoteAt (w.setCell ⟨b, 13 + i, none⟩ (.int .i64 x)) M b { s with acc := s.acc.set i x } := by
 obtain ⟨h1, h2, bv, hb, he⟩ := h
 refine ⟨h1, by simpa using h2, bv, ?_, he.keep (keep_set w b _ _) (by simp)⟩
 have := hb.set_ (13 + i) (.int .i64 x)
 obtain ⟨term, nodes, prom, acc, had, best, n⟩ := s
 match prom, h1, acc, h2 with
 | [p0, p1, p2, p3, p4, p5, p6, p7], _, [a0, a1, a2, a3, a4, a5, a6, a7], _ =>
  rcases (show i = 0 ∨ i = 1 ∨ i = 2 ∨ i = 3 ∨ i = 4 ∨ i = 5 ∨ i = 6 ∨ i = 7 by omega) with rfl | rfl | rfl | rfl | rfl | rfl | rfl | rfl <;> exact this
theorem RVoteAt.set_n (h : RVoteAt w M b s) (x : Int) : RVoteAt (w.setCell ⟨b, 10, none⟩ (.int .i64 x)) M b { s with n := x } := by
 obtain ⟨h1, h2, bv, hb, he⟩ := h
 refine ⟨h1, h2, bv, ?_, he.keep (keep_set w b _ _) (by simp)⟩
 have := hb.set_ (10) (.int .i64 x)
 obtain ⟨term, nodes, prom, acc, had, best, n⟩ := s
 match prom, h1, acc, h2 with
 | [p0, p1, p2, p3, p4, p5, p6, p7], _, [a0, a1, a2, a3, a4, a5, a6, a7], _ =>
  exact this
theorem RVoteAt.set_had (h : RVoteAt w M b s) (x : Int) : RVoteAt (w.setCell ⟨b, 11, none⟩ (.int .i64 x)) M b { s with had := x } := by
 obtain ⟨h1, h2, bv, hb, he⟩ := h
 refine ⟨h1, h2, bv, ?_, he.keep (keep_set w b _ _) (by simp)⟩
 have := hb.set_ (11) (.int .i64 x)
 obtain ⟨term, nodes, prom, acc, had, best, n⟩ := s
 match prom, h1, acc, h2 with
 | [p0, p1, p2, p3, p4, p5, p6, p7], _, [a0, a1, a2, a3, a4, a5, a6, a7], _ =>
  exact this
theorem RVoteAt.set_best (h : RVoteAt w M b s) {lv : Value} {l : List EntryD} (hl : Ens w (b :: M) lv l) : RVoteAt (w.setCell ⟨b, 12, none⟩ lv) M b { s with best := l } := by
 obtain ⟨h1, h2, bv, hb, _⟩ := h
 refine ⟨h1, h2, lv, ?_, hl.keep (keep_set w b _ _) (by simp)⟩
 have := hb.set_ (12) lv
 obtain ⟨term, nodes, prom, acc, had, best, n⟩ := s
 match prom, h1, acc, h2 with
 | [p0, p1, p2, p3, p4, p5, p6, p7], _, [a0, a1, a2, a3, a4, a5, a6, a7], _ =>
  exact this
end
/-- How many of the first q are at least x. -/
def cnt (l : List Int) (x : Int) (q : Nat) : Nat := ((l.take q).filter fun y => decide (x ≤ y)).length
/-- What the reference's loop has found behind i rounds. -/
def rb (l : List Int) (k : Nat) : Nat → Int
 | 0 => 0
 | i + 1 => if k / 2 < cnt l (l.getD i 0) k then max (rb l k i) (l.getD i 0) else rb l k i
end Go.Proofs.YtdaceeijifjpeaaGreatDoor.Lead
end
