/- Texts put together: Vote5, TNum, Asks, Vote6, Vote7, VoteK, RSame, RLogs. -/
import Derived.Deep.RegionWith
import Derived.Test.YtinnifhnabncfaaGreatDoorVR5
import Derived.Test.YtinnifhnabncfaaGreatDoorVR8
import Derived.Test.YtinnifhnabncfaaGreatDoorVR9
/- Contract of vote.Accept. -/
section
namespace Go.Proofs.YtinnifhnabncfaaGreatDoor.Vi
open Go.RowKit Base Mem Tape Go.Shelf
def accLong (x : WordD) (t : Nat) (l : List EntryD) : Prop := x.h < t ∨ x.log.length < l.length
instance (x : WordD) (t : Nat) (l : List EntryD) : Decidable (accLong x t l) := inferInstanceAs (Decidable (_ ∨ _))
def accW (x : WordD) (t : Nat) (l : List EntryD) : WordD := if accLong x t l then ⟨t, t, l⟩ else ⟨t, x.h, x.log⟩
def AcOk (x : WordD) (term : Int) (l : List EntryD) : Prop := (x.t : Int) ≤ term ∧ 1 ≤ term ∧ l.length ≤ 128 ∧ ∀ e ∈ l, rightE e = 0
instance (x : WordD) (term : Int) (l : List EntryD) : Decidable (AcOk x term l) := inferInstanceAs (Decidable (_ ∧ _ ∧ _ ∧ _))
def AcPost (s p : Nat) (Y : List Nat) (x : WordD) (d : Nat) (b : List UInt8) (n : Nat) (term : Int) (l : List EntryD) (w : World) (e : Ending) (w' : World) : Prop :=
  if AcOk x term l then
    if ¬ accLong x term.toNat l ∧ term = x.t then e = .returned (.bool true) ∧ Keeps [] w w'
    else KpPost s p Y (accW x term.toNat l) d b n w e w'
  else e = .returned (.bool false) ∧ Keeps [] w w'
set_option maxRecDepth 100000 in
set_option maxHeartbeats 1000000 in
theorem vaccept_any (s p : Nat) (Y : List Nat) (x : WordD) (d k n : Nat) (b : List UInt8) (w : World) (h : StAt w s p Y x d b k n) (term : Int) (ht : term ≤ 9223372036854775807) (lv : Value) (l : List EntryD) (hl : Ens w [] lv l) (hs : ∀ e ∈ l, Short e ∧ Wf e) (m : Int) (hm : w.cell? ⟨0, 0, none⟩ = some (.int .i64 m)) :
    Calls Tryz.prog 34 #[.pointer (some ⟨s, 0, none⟩), .int .i64 term, lv] w fun e w' => AcPost s p Y x d b n term l w e w' := by
  have hw0 : 0 < w.heap.size := by
    have := World.block_lt_of_cell? w _ hm
    simpa using this
  have hkeepm : Hid (∀ W, Keeps [] w W → W.cell? ⟨0, 0, none⟩ = some (.int .i64 m)) := fun W hb => (hb.cell (p := ⟨0, 0, none⟩) hw0 (by simp)).trans hm
  obtain ⟨A, c, hb, he⟩ := h.lv
  obtain ⟨c0, c1, c2, c3, hlt⟩ := blk4 hb
  have hok := h.ok
  have H := Lib.hid h; have HE := Lib.hid he; have HL := Lib.hid hl; have HS := Lib.hid hs; have HB := Lib.hid hb
  obtain ⟨Al, cl, rfl, hcl⟩ := hl.len
  have hF : Hid (∀ W, ¬ AcOk x term l → Keeps [] w W → AcPost s p Y x d b n term l w (.returned (.bool false)) W) := fun W h hk => by unfold AcPost; rw [if_neg h]; exact ⟨rfl, hk⟩
  by_cases h1 : term < (x.t : Int)
  · have hp := hF.out w (fun h => by have := h.1; omega) (Keeps.refl _ _)
    have Hp := Lib.hid hp
    have hd : decide (term < (x.t : Int)) = true := decide_eq_true h1
    clear h hb he hm hl hs hp hF
    go_enter Tryz.func34, Tryz.ntmps34
    go_wp2_with fail
    go_ret
    exact Hp.out
  have hd1 : decide (term < (x.t : Int)) = false := decide_eq_false h1
  by_cases h2 : term < 1
  · have hp := hF.out w (fun h => by have := h.2.1; omega) (Keeps.refl _ _)
    have Hp := Lib.hid hp
    have hd : decide (term < 1) = true := decide_eq_true h2
    clear h hb he hm hl hs hp hF
    go_enter Tryz.func34, Tryz.ntmps34
    go_wp2_with fail
    go_ret
    exact Hp.out
  have hd2 : decide (term < 1) = false := decide_eq_false h2
  by_cases h3 : 128 < l.length
  · have hp := hF.out w (fun h => by have := h.2.2.1; omega) (Keeps.refl _ _)
    have Hp := Lib.hid hp
    have hd : decide ((128 : Int) < (l.length : Int)) = true := decide_eq_true (by omega)
    clear h hb he hm hl hs hp hF
    go_enter Tryz.func34, Tryz.ntmps34
    go_wp2_with fail
    go_ret
    exact Hp.out
  have hd3 : decide ((128 : Int) < (l.length : Int)) = false := decide_eq_false (by omega)
  clear h hb he hm hl hs
  obtain ⟨t, rfl⟩ : ∃ t : Nat, term = t := ⟨term.toNat, by omega⟩
  go_enter Tryz.func34, Tryz.ntmps34
  go_wp2_with fail
  go_loopw [29] (fun i wr => ∃ j : Nat, i = .int .i64 j ∧ j ≤ l.length ∧ Hid (∀ e ∈ l.take j, rightE e = 0) ∧ Hid (Keeps [] w wr)) (fun i _ => l.length - (intOf i).toNat)
  case atStart => exact ⟨0, rfl, by omega, (show ∀ e ∈ l.take 0, rightE e = 0 from by simp), Keeps.refl _ _⟩
  case round =>
    obtain ⟨j, rfl, hj, Hr, Hk⟩ := hrel
    by_cases hjl : j < l.length
    · have hji : (j : Int) < (l.length : Int) := by omega
      obtain ⟨gl, ol, _, dl, e1, _, _, hDl, hcl⟩ := ens_at (HL.out.keep Hk.out (by simp)) hjl
      injection e1 with e1 _ e9
      subst e1
      clear e9
      have hmem := List.getElem_mem hjl
      have hre := Lib.hid (fun W (hk : Keeps [] wr W) => eright_any l[j] dl m W (hDl.keep hk (by simp)) (HS.out _ hmem).1 (hkeepm.out W (Hk.out.trans hk (by simp))))
      obtain ⟨Dl, nl, rfl, _⟩ := hDl.len
      have a0 := hcl 0 _ rfl; have a1 := hcl 1 _ rfl; have a2 := hcl 2 _ rfl; have a3 := hcl 3 _ rfl; have a4 := hcl 4 _ rfl; have a5 := hcl 5 _ rfl; have a6 := hcl 6 _ rfl; have a7 := hcl 7 _ rfl; have a8 := hcl 8 _ rfl
      rw [Nat.add_zero] at a0
      have HR2 : Hid (rightE l[j] = 0 → ∀ e ∈ l.take (j + 1), rightE e = 0) := fun h0 e he => by
        rw [List.take_succ_eq_append_getElem hjl] at he
        rcases List.mem_append.1 he with h | h
        · exact Hr.out e h
        · simp at h; subst h; exact h0
      have HR3 : Hid (∀ W, rightE l[j] ≠ 0 → Keeps [] w W → AcPost s p Y x d b n t l w (.returned (.bool false)) W) := fun W h0 hk => hF.out W (fun h => h0 (h.2.2.2 _ hmem)) hk
      clear hcl hDl c0 c1 c2 c3 hmem
      generalize l[j] = ee at *
      generalize rightE ee = rr at *
      obtain ⟨kind', ag', sh', seq', ep', ds', ser', fr', etg'⟩ := ee
      simp only [eCell] at hre
      simp only [] at a0 a1 a2 a3 a4 a5 a6 a7 a8
      have Hre := Lib.hid (hre.out (wr.alloc (.cells #[.int .i64 kind', .int .i64 ag', .int .i64 sh', .int .i64 seq', .int .i64 ep', .slice Dl ds'.length nl, .string ser', .int .i64 fr', .int .i64 etg'] 26)) ((Keeps.refl _ _).alloc _))
      have Hka := Lib.hid (Hk.out.alloc (.cells #[.int .i64 kind', .int .i64 ag', .int .i64 sh', .int .i64 seq', .int .i64 ep', .slice Dl ds'.length nl, .string ser', .int .i64 fr', .int .i64 etg'] 26))
      clear hre
      go_wp2_with fail
      refine Hre.out.mono ?_
      rintro e w4 ⟨rfl, hb4⟩
      have Hk4 := Lib.hid (Hka.out.trans (Keeps.of_below (M := []) hb4) (by simp))
      clear hb4 Hre Hka a0 a1 a2 a3 a4 a5 a6 a7 a8
      by_cases hrr : rr = 0
      · have HR4 := Lib.hid (HR2.out hrr)
        have hrn : ((rr : Int) != 0) = false := by simp [hrr]
        clear HR2 hrr
        go_wp2
        go_roundw
        case rel => exact ⟨j + 1, by go_num, by omega, HR4, Hk4⟩
        case measure => simp [intOf] <;> omega
      · have hp := Lib.hid (HR3.out w4 hrr Hk4.out)
        have hrn : ((rr : Int) != 0) = true := by simpa using hrr
        clear HR2 HR3 hrr
        go_wp2
        go_ret
        exact hp.out
    · obtain rfl : j = l.length := by omega
      have hA : AcOk x t l := ⟨by omega, by omega, by omega, fun e he => Hr.out e (by rw [List.take_length]; exact he)⟩
      have hX := Hk.out.blk HB.out (by simp)
      obtain ⟨x0, x1, x2, x3, hxl⟩ := blk4 hX
      have hkp : Hid (∀ W y lv, Keeps [] w W → Ens W (s :: p :: Y) lv y.log → WOk y → Calls Tryz.prog 82 #[.pointer (some ⟨s, 0, none⟩), .agg #[.int .i64 y.t, .int .i64 y.h, lv]] W fun e w' => KpPost s p Y y d b n w e w') := fun W y lv hk hE hy =>
        (vkeep_any s p Y x y d k n b W (H.out.keep0 hk) lv hE hy m (hkeepm.out W hk)).mono fun e W' hq => hq.drew hk
      have hcop : Hid (∀ W, Keeps [] wr W → Calls Tryz.prog 81 #[.slice Al l.length cl] W fun r w' => ∃ A, r = .returned (.slice A l.length l.length) ∧ (∀ M', (∀ g ∈ M', g < W.heap.size) → Ens w' M' (.slice A l.length l.length) l) ∧ Below W.heap.size W w') := fun W hk =>
        copies_any [] _ l W ((HL.out.keep Hk.out (by simp)).keep hk (by simp)) (by omega) (fun e he => by have := eok_ds8 ⟨hA.2.2.2 e he, HS.out e he⟩; omega)
      have hEl := Lib.hid ((HE.out.keep Hk.out (by simp)))
      have HP : Hid (∀ e W, (accLong x t l → KpPost s p Y ⟨t, t, l⟩ d b n w e W) → (¬ accLong x t l → ¬ (t : Int) = x.t → KpPost s p Y ⟨t, x.h, x.log⟩ d b n w e W) → (¬ accLong x t l → (t : Int) = x.t → e = .returned (.bool true) ∧ Keeps [] w W) → AcPost s p Y x d b n t l w e W) := fun e W h1 h2 h3 => by
        unfold AcPost
        rw [if_pos hA]
        by_cases hlo : accLong x t l
        · rw [if_neg (by simp [hlo])]
          unfold accW
          rw [Int.toNat_natCast, if_pos hlo]
          exact h1 hlo
        · by_cases hte : (t : Int) = x.t
          · rw [if_pos (by rw [Int.toNat_natCast]; exact ⟨hlo, hte⟩)]
            exact h3 hlo hte
          · rw [if_neg (by intro h; exact hte h.2)]
            unfold accW
            rw [Int.toNat_natCast, if_neg hlo]
            exact h2 hlo hte
      have hyl : WOk ⟨t, t, l⟩ := ⟨by simp only []; omega, by simp only []; omega, by simp only []; omega, fun e he => ⟨hA.2.2.2 e he, HS.out e he⟩⟩
      have hyx : WOk ⟨t, x.h, x.log⟩ := ⟨by simp only []; omega, hok.2⟩
      have Hyl := Lib.hid hyl; have Hyx := Lib.hid hyx
      clear hX hyl hyx hA c0 c1 c2 c3
      go_wp2_with fail
      go_region
      all_goals
        obtain ⟨w5, hw5⟩ : ∃ w5, w5 = (wr.alloc (.cells #[.int .i64 t, .int .i64 x.h, .slice A x.log.length c] 118)).drew := ⟨_, rfl⟩
        have hk5 : Keeps [] wr w5 := by rw [hw5]; exact ((Keeps.refl _ _).alloc _).drew
        have hB5 : Blk w5 wr.heap.size 118 #[.int .i64 t, .int .i64 x.h, .slice A x.log.length c] := by rw [hw5]; exact Blk.new wr _ _
        rw [← hw5]
        clear hw5
        have y0 : w5.cell? ⟨s, 0, none⟩ = some (.int .i64 x.t) := (hk5.cell (p := ⟨s, 0, none⟩) hxl (by simp)).trans x0
        have y1 : w5.cell? ⟨s, 1, none⟩ = some (.int .i64 x.h) := (hk5.cell (p := ⟨s, 1, none⟩) hxl (by simp)).trans x1
        have y2 : w5.cell? ⟨s, 2, none⟩ = some (.slice A x.log.length c) := (hk5.cell (p := ⟨s, 2, none⟩) hxl (by simp)).trans x2
        have hs5 : s < w5.heap.size := Nat.lt_of_lt_of_le hxl hk5.size
        obtain ⟨g9, Hg9⟩ : ∃ g9, Hid (wr.heap.size = g9) := ⟨_, rfl⟩
        have hg9 : s < g9 ∧ w.heap.size ≤ g9 := by have := Hk.out.size; have := Hg9.out; omega
        obtain ⟨hg91, hg92⟩ := hg9
        rw [Hg9.out] at hB5 ⊢
        have Hk5 := Lib.hid hk5; have HB5 := Lib.hid hB5
        have Hk5w := Lib.hid (Hk.out.trans hk5 (by simp))
        clear hk5 hB5 x0 x1 x2 x3
        by_cases h4 : x.h < t
        · have hd4 : decide ((x.h : Int) < (t : Int)) = true := decide_eq_true (by omega)
          have hn4 : decide (x.h < t) = true := decide_eq_true h4
          have hlo : accLong x t l := Or.inl h4
          have Hlo := Lib.hid hlo
          clear hlo h4
          go_wp2_with fail
          refine (hcop.out w5 Hk5.out).mono ?_
          rintro e w6 ⟨A6, rfl, hE6, hb6⟩
          have hk6 : Keeps [] w5 w6 := Keeps.of_below (M := []) hb6
          have hB6 := hk6.blk HB5.out (by simp)
          have f1 := hB6.frozen 1; have f2 := hB6.frozen 2
          have r0 := hB6.cell 0; have r1 := hB6.cell 1; have r2 := hB6.cell 2
          simp only [List.getElem?_toArray, List.getElem?_cons_succ, List.getElem?_cons_zero] at r0 r1 r2
          obtain ⟨w7, hw7⟩ : ∃ w7, w7 = (w6.setCell ⟨g9, 1, none⟩ (.int .i64 t)).setCell ⟨g9, 2, none⟩ (.slice A6 l.length l.length) := ⟨_, rfl⟩
          have hk7 : Keeps [g9] w6 w7 := by rw [hw7]; exact ((Keeps.refl _ _).setCell (by simp) _).setCell (by simp) _
          have hB : Blk w7 g9 118 #[.int .i64 t, .int .i64 t, .slice A6 l.length l.length] := by
            rw [hw7]; simpa using (hB6.set_ 1 (.int .i64 t)).set_ 2 (.slice A6 l.length l.length)
          have hE7 : Ens w7 (s :: p :: Y) (.slice A6 l.length l.length) l := ((hE6 (g9 :: s :: p :: Y) (fun g hg => by
            rcases List.mem_cons.1 hg with rfl | hg
            · exact HB5.out.lt
            · exact Nat.lt_of_lt_of_le (H.out.old g hg) (Hk5w.out.size))).keep hk7 (fun g hg => .inl (by simp at hg; simp [hg]))).avoid (fun g hg => .inl (by simp at hg ⊢; exact .inr hg))
          have hK7 : Keeps [] w w7 := ((Hk5w.out.trans hk6 (by simp)).trans hk7 (fun g hg => .inr (by simp at hg; omega)) : Keeps [] w w7)
          have HK7 := Lib.hid hK7; have HE7 := Lib.hid hE7
          have u0 : w7.cell? ⟨s, 0, none⟩ = some (.int .i64 x.t) := (((hk6.mono (M' := [g9]) (by simp)).trans hk7 (fun g hg => .inl hg)).cell (p := ⟨s, 0, none⟩) hs5 (by simp; omega)).trans y0
          clear hE6 hb6 hk6 hB6 hk7 hK7 hE7
          go_upto_region 13 with (fail)
          rw [← hw7]
          clear hw7 r0 r1 r2 f1 f2
          have q0 := hB.cell 0; have q1 := hB.cell 1; have q2 := hB.cell 2
          simp only [List.getElem?_toArray, List.getElem?_cons_succ, List.getElem?_cons_zero] at q0 q1 q2
          clear hB
          go_wp2_with fail
          refine (hkp.out _ ⟨t, t, l⟩ _ HK7.out HE7.out Hyl.out).mono ?_
          intro e w8 hq
          obtain ⟨v, rfl⟩ : ∃ v, e = .returned (.bool v) := ⟨_, hq.val⟩
          have hp := Lib.hid (HP.out _ _ (fun _ => hq) (fun h => absurd Hlo.out h) (fun h => absurd Hlo.out h))
          clear hq
          go_wp2_with fail
          go_ret
          exact hp.out
        · have hd4 : decide ((x.h : Int) < (t : Int)) = false := decide_eq_false (by omega)
          have hn4 : decide (x.h < t) = false := decide_eq_false h4
          by_cases h5 : x.log.length < l.length
          · have hd5 : decide ((x.log.length : Int) < (l.length : Int)) = true := decide_eq_true (by omega)
            have hn5 : decide (x.log.length < l.length) = true := decide_eq_true h5
            have hlo : accLong x t l := Or.inr h5
            have Hlo := Lib.hid hlo
            clear hlo h5
            go_wp2_with fail
            refine (hcop.out w5 Hk5.out).mono ?_
            rintro e w6 ⟨A6, rfl, hE6, hb6⟩
            have hk6 : Keeps [] w5 w6 := Keeps.of_below (M := []) hb6
            have hB6 := hk6.blk HB5.out (by simp)
            have f1 := hB6.frozen 1; have f2 := hB6.frozen 2
            have r0 := hB6.cell 0; have r1 := hB6.cell 1; have r2 := hB6.cell 2
            simp only [List.getElem?_toArray, List.getElem?_cons_succ, List.getElem?_cons_zero] at r0 r1 r2
            obtain ⟨w7, hw7⟩ : ∃ w7, w7 = (w6.setCell ⟨g9, 1, none⟩ (.int .i64 t)).setCell ⟨g9, 2, none⟩ (.slice A6 l.length l.length) := ⟨_, rfl⟩
            have hk7 : Keeps [g9] w6 w7 := by rw [hw7]; exact ((Keeps.refl _ _).setCell (by simp) _).setCell (by simp) _
            have hB : Blk w7 g9 118 #[.int .i64 t, .int .i64 t, .slice A6 l.length l.length] := by
              rw [hw7]; simpa using (hB6.set_ 1 (.int .i64 t)).set_ 2 (.slice A6 l.length l.length)
            have hE7 : Ens w7 (s :: p :: Y) (.slice A6 l.length l.length) l := ((hE6 (g9 :: s :: p :: Y) (fun g hg => by
              rcases List.mem_cons.1 hg with rfl | hg
              · exact HB5.out.lt
              · exact Nat.lt_of_lt_of_le (H.out.old g hg) (Hk5w.out.size))).keep hk7 (fun g hg => .inl (by simp at hg; simp [hg]))).avoid (fun g hg => .inl (by simp at hg ⊢; exact .inr hg))
            have hK7 : Keeps [] w w7 := ((Hk5w.out.trans hk6 (by simp)).trans hk7 (fun g hg => .inr (by simp at hg; omega)) : Keeps [] w w7)
            have HK7 := Lib.hid hK7; have HE7 := Lib.hid hE7
            have u0 : w7.cell? ⟨s, 0, none⟩ = some (.int .i64 x.t) := (((hk6.mono (M' := [g9]) (by simp)).trans hk7 (fun g hg => .inl hg)).cell (p := ⟨s, 0, none⟩) hs5 (by simp; omega)).trans y0
            clear hE6 hb6 hk6 hB6 hk7 hK7 hE7
            go_upto_region 13 with (fail)
            rw [← hw7]
            clear hw7 r0 r1 r2 f1 f2
            have q0 := hB.cell 0; have q1 := hB.cell 1; have q2 := hB.cell 2
            simp only [List.getElem?_toArray, List.getElem?_cons_succ, List.getElem?_cons_zero] at q0 q1 q2
            clear hB
            go_wp2_with fail
            refine (hkp.out _ ⟨t, t, l⟩ _ HK7.out HE7.out Hyl.out).mono ?_
            intro e w8 hq
            obtain ⟨v, rfl⟩ : ∃ v, e = .returned (.bool v) := ⟨_, hq.val⟩
            have hp := Lib.hid (HP.out _ _ (fun _ => hq) (fun h => absurd Hlo.out h) (fun h => absurd Hlo.out h))
            clear hq
            go_wp2_with fail
            go_ret
            exact hp.out
          · have hd5 : decide ((x.log.length : Int) < (l.length : Int)) = false := decide_eq_false (by omega)
            have hn5 : decide (x.log.length < l.length) = false := decide_eq_false h5
            have hno : ¬ accLong x t l := fun h => by rcases h with h | h <;> omega
            have Hno := Lib.hid hno
            have hs6 : Hid (Ens w5 (s :: p :: Y) (.slice A x.log.length c) x.log) := hEl.out.keep Hk5.out (by simp)
            clear hno h5
            by_cases h6 : (t : Int) = x.t
            · have hp : Hid (AcPost s p Y x d b n t l w (.returned (.bool true)) w5) := HP.out _ _ (fun h => absurd h Hno.out) (fun _ h => absurd h6 h) (fun _ _ => ⟨rfl, Hk5w.out⟩)
              obtain rfl : t = x.t := by omega
              clear h6
              go_wp2_with fail
              go_ret
              exact hp.out
            · have hd6 : ((t : Int) == (x.t : Int)) = false := by simpa using h6
              have H6 := Lib.hid h6
              clear h6
              have hB := HB5.out
              have q0 := hB.cell 0; have q1 := hB.cell 1; have q2 := hB.cell 2
              simp only [List.getElem?_toArray, List.getElem?_cons_succ, List.getElem?_cons_zero] at q0 q1 q2
              clear hB
              go_wp2_with fail
              refine (hkp.out _ ⟨t, x.h, x.log⟩ _ Hk5w.out hs6.out Hyx.out).mono ?_
              intro e w8 hq
              obtain ⟨v, rfl⟩ : ∃ v, e = .returned (.bool v) := ⟨_, hq.val⟩
              have hp := Lib.hid (HP.out _ _ (fun h => absurd h Hno.out) (fun _ _ => hq) (fun _ h => absurd h H6.out))
              clear hq
              go_wp2_with fail
              go_ret
              exact hp.out
end Go.Proofs.YtinnifhnabncfaaGreatDoor.Vi
end
/- A slice of numbers that came in; a tape made of it; its message. (Not together with Back, which has the first two by the same names.) -/
section
namespace Go.Proofs.YtinnifhnabncfaaGreatDoor.Vi
open Go.RowKit Base Mem Tape Go.Shelf
/-- A slice of numbers that came in. -/
def Nums (w : World) (A : Option Addr) (c : Nat) (l : List Int) : Prop := l.length ≤ c ∧ c ≤ 9223372036854775807 ∧ (0 < l.length → ∃ g off, A = some ⟨g, off, none⟩ ∧ g < w.heap.size ∧ ∀ (j : Nat) (x : Int), l[j]? = some x → w.cell? ⟨g, off + j, none⟩ = some (.int .i64 x))
theorem tape_new {w w1 : World} {A : Option Addr} {c : Nat} {l : List Int} (h : Nums w A c l) (hb : Below w.heap.size w w1) :
    TapeAt (w1.alloc (.cells #[.slice A l.length c, .int .i64 0] 31)) w1.heap.size ⟨l, w.heap.size⟩ 0 := by
  obtain ⟨h1, h2, h3⟩ := h
  refine ⟨Nat.zero_le _, Nat.le_trans h1 h2, hb.size, A, c, Blk.new w1 _ _, h1, fun h0 => ?_⟩
  obtain ⟨g, off, e, hg, hx⟩ := h3 h0
  exact ⟨g, off, e, hg, fun j x hj => ((below_new hb _).cell (p := ⟨g, off + j, none⟩) hg).trans (hx j x hj)⟩
/-- A tape's message, made new. -/
def TMsg (w : World) (e : Ending) (w' : World) : Prop := ∃ (m : MsgD) (dv lv : Value), e = .returned (.agg (mCell m dv lv).toArray) ∧ MsgOk m ∧ (∀ M, (∀ g ∈ M, g < w.heap.size) → MsgAt w' M m dv lv) ∧ Below w.heap.size w w'
theorem tmsg_any {w w1 : World} {A : Option Addr} {c : Nat} {l : List Int} (h : Nums w A c l) (hb : Below w.heap.size w w1) :
    Calls Tryz.prog 43 #[.pointer (some ⟨w1.heap.size, 0, none⟩)] (w1.alloc (.cells #[.slice A l.length c, .int .i64 0] 31)) fun e w' => TMsg w1 e w' := by
  refine (msg_any w1.heap.size ⟨l, w.heap.size⟩ 0 _ (tape_new h hb)).mono ?_
  rintro e w' ⟨m, dv, lv, k', rfl, hok, hD, _, hk⟩
  exact ⟨m, dv, lv, rfl, hok, fun M hM => hD M (fun g hg => by have := hM g hg; simp; omega), (((Keeps.refl (M := []) w1).alloc _).trans hk (by intro g hg; simp at hg; right; omega)).below⟩
end Go.Proofs.YtinnifhnabncfaaGreatDoor.Vi
end
/- Contract of hopperlaw14.asks: calls that a tape makes. -/
section
namespace Go.Proofs.YtinnifhnabncfaaGreatDoor.Vi
open Go.RowKit Base Mem Tape Go.Shelf
structure AskD where
  k : Int
  t : Int
  log : List EntryD
def aCell (q : AskD × Value) : List Value := [.int .i64 q.1.k, .int .i64 q.1.t, q.2]
def AskOk (a : AskD) : Prop := 0 ≤ a.k ∧ a.k < 5 ∧ 0 ≤ a.t ∧ a.t < 14 ∧ a.log.length ≤ 5 ∧ ∀ e ∈ a.log, EntryOk e
/-- v reads as these asks. -/
def AskAt (w : World) (M : List Nat) (v : Value) (l : List AskD) : Prop :=
  ∃ qs : List (AskD × Value), qs.map (·.1) = l ∧ Rd w M 3 v qs.length (qs.flatMap aCell) ∧ ∀ q ∈ qs, Ens w M q.2 q.1.log
theorem AskAt.keep {w w' : World} {M M' : List Nat} {v : Value} {l : List AskD} (h : AskAt w M v l) (k : Keeps M' w w') (hM : ∀ g ∈ M', g ∈ M ∨ w.heap.size ≤ g) : AskAt w' M v l := by
  obtain ⟨ps, hl, hr, hd⟩ := h
  exact ⟨ps, hl, hr.keep k hM, fun p hp => (hd p hp).keep k hM⟩
theorem AskAt.avoid {w : World} {M M' : List Nat} {v : Value} {l : List AskD} (h : AskAt w M v l) (hM : ∀ g ∈ M', g ∈ M ∨ w.heap.size ≤ g) : AskAt w M' v l := by
  obtain ⟨ps, hl, hr, hd⟩ := h
  exact ⟨ps, hl, hr.avoid hM, fun p hp => (hd p hp).avoid hM⟩
theorem AskAt.len {w : World} {M : List Nat} {v : Value} {l : List AskD} (h : AskAt w M v l) : ∃ A c, v = .slice A l.length c ∧ l.length ≤ c := by
  obtain ⟨ps, rfl, ⟨A, c, rfl, hc, _⟩, _⟩ := h
  exact ⟨A, c, by simp, by simpa using hc⟩
theorem AskAt.at_ {w : World} {M : List Nat} {v : Value} {l : List AskD} (h : AskAt w M v l) {k : Nat} (hk : k < l.length) :
    ∃ g off cap lv, v = .slice (some ⟨g, off, none⟩) l.length cap ∧ g < w.heap.size ∧ g ∉ M ∧ Ens w M lv l[k].log ∧ ∀ j u, (aCell (l[k], lv))[j]? = some u → w.cell? ⟨g, off + k * 3 + j, none⟩ = some u := by
  obtain ⟨ps, rfl, hr, hd⟩ := h
  have hk' : k < ps.length := by simpa using hk
  obtain ⟨g, off, cap, e, _, hg, hm, hx⟩ := Rd.at_ aCell 3 (fun _ => rfl) hr hk'
  exact ⟨g, off, cap, ps[k].2, by simpa using e, hg, hm, by simpa using hd ps[k] (List.getElem_mem _), by simpa using hx⟩
def AskPost (n : Nat) (w : World) (e : Ending) (w' : World) : Prop := ∃ v l, e = .returned v ∧ l.length ≤ n ∧ (∀ a ∈ l, AskOk a) ∧ (∀ M, (∀ g ∈ M, g < w.heap.size) → AskAt w' M v l) ∧ Keeps [] w w'
/-- What lies apart from old blocks and from a row of the call's own lies so still where the row has grown. -/
theorem own_one {P : World → List Nat → Prop} (hkeep : ∀ {w w' : World} {M M' : List Nat}, P w M → Keeps M' w w' → (∀ g ∈ M', g ∈ M ∨ w.heap.size ≤ g) → P w' M) (havoid : ∀ {w : World} {M M' : List Nat}, P w M → (∀ g ∈ M', g ∈ M ∨ w.heap.size ≤ g) → P w M')
    {w w1 w2 : World} {out v' : Value} {o : Obj} (h : ∀ M', (∀ g ∈ M', g < w.heap.size ∨ out.ownBlock = some g) → P w1 M')
    (hg : (w1.alloc o).grownBy w2 out.ownBlock) (hat : v'.ownBlock = out.ownBlock ∨ v'.ownBlock = some (w1.heap.size + 1)) (M' : List Nat) (hM : ∀ g ∈ M', g < w.heap.size ∨ v'.ownBlock = some g) : P w2 M' := by
  have h1 := h (out.ownBlock.toList ++ M'.filter (fun g => decide (g < w.heap.size))) (by
    intro g hg
    rcases List.mem_append.1 hg with h1 | h1
    · right; simpa using h1
    · left; simpa using (List.mem_filter.1 h1).2)
  have h2 : P (w1.alloc o) (out.ownBlock.toList ++ M'.filter (fun g => decide (g < w.heap.size))) := hkeep (M' := []) h1 ((Keeps.refl _ _).alloc o) (by simp)
  have h3 : P (w1.alloc o) (out.ownBlock.toList ++ M') := havoid h2 (by
    intro g hg
    rcases List.mem_append.1 hg with h1 | h1
    · exact .inl (List.mem_append_left _ h1)
    · rcases hM g h1 with h4 | h4
      · exact .inl (List.mem_append_right _ (List.mem_filter.2 ⟨h1, by simpa using h4⟩))
      · rcases hat with h5 | h5
        · exact .inl (List.mem_append_left _ (by rw [h5] at h4; simpa using h4))
        · rw [h5] at h4; injection h4 with h4; right; simp; omega)
  have h4 : Keeps out.ownBlock.toList (w1.alloc o) w2 := (Keeps.refl _ _).grown hg (fun g hg => .inl (by simpa using hg))
  exact havoid (hkeep h3 h4 (fun g hg => .inl (List.mem_append_left _ hg))) (fun g hg => .inl (List.mem_append_right _ hg))
def AsOwn (w wr : World) (out : Value) (qs : List (AskD × Value)) : Prop := ∀ q ∈ qs, ∀ M', (∀ g ∈ M', g < w.heap.size ∨ out.ownBlock = some g) → Ens wr M' q.2 q.1.log
theorem asOwn_stepK {Mk : List Nat} {w wr w1 w2 : World} {out v' lv : Value} {o : Obj} {qs : List (AskD × Value)} {a : AskD} (hds : AsOwn w wr out qs) (hk : Keeps Mk wr w1) (hMk : ∀ g ∈ Mk, g < w.heap.size) (hlt : ∀ g, out.ownBlock = some g → g < wr.heap.size) (hw : w.heap.size ≤ wr.heap.size)
    (hnew : ∀ M', (∀ g ∈ M', g < wr.heap.size) → Ens w1 M' lv a.log)
    (hg : (w1.alloc o).grownBy w2 out.ownBlock) (hat : v'.ownBlock = out.ownBlock ∨ v'.ownBlock = some (w1.heap.size + 1)) : AsOwn w w2 v' (qs ++ [(a, lv)]) := by
  intro q hq M' hM
  rcases List.mem_append.1 hq with h1 | h1
  · refine own_one (P := fun W M => Ens W M q.2 q.1.log) (fun h k hM => h.keep k hM) (fun h hM => h.avoid hM) (fun M'' hM'' => ?_) hg hat M' hM
    exact ((hds q h1 (Mk ++ M'') (by intro g hg; rcases List.mem_append.1 hg with h2 | h2; exact .inl (hMk g h2); exact hM'' g h2)).keep hk (fun _ hg => .inl (List.mem_append_left _ hg))).avoid (fun _ hg => .inl (List.mem_append_right _ hg))
  · simp at h1
    subst h1
    exact own_one (P := fun W M => Ens W M lv a.log) (fun h k hM => h.keep k hM) (fun h hM => h.avoid hM) (fun M'' hM'' => hnew M'' (fun g hg => by rcases hM'' g hg with h | h; omega; exact hlt g h)) hg hat M' hM
theorem infoAsk : (Tryz.prog.info? 54).map (fun i => (i.zero, i.size, i.bytes)) = some (some (.agg #[.int .i64 0, .int .i64 0, .slice none 0 0]), 3, 40) := by kernel_rfl
set_option maxRecDepth 100000 in
set_option maxHeartbeats 1000000 in
theorem asks_any (A : Option Addr) (c : Nat) (l : List Int) (n : Nat) (hn : n ≤ 100) (w : World) (h : Nums w A c l) :
    Calls Tryz.prog 30 #[.slice A l.length c, .int .i64 n] w fun e w' => AskPost n w e w' := by
  have H := Lib.hid (tape_new h (Below.refl _ w))
  obtain ⟨i0, hi0, hz0, hz1, hz2⟩ := info_parts infoAsk
  have Hi0 := Lib.hid hi0; have Hz0 := Lib.hid hz0; have Hz1 := Lib.hid hz1; have Hz2 := Lib.hid hz2
  have hlen : l.length ≤ 9223372036854775807 := Nat.le_trans h.1 h.2.1
  clear h hi0 hz0 hz1 hz2
  obtain ⟨w1, hw1⟩ : ∃ w1, w1 = w.alloc (.cells #[.slice A l.length c, .int .i64 0] 31) := ⟨_, rfl⟩
  rw [← hw1] at H
  have hs1 : w1.heap.size = w.heap.size + 1 := by rw [hw1]; simp
  have Hs1 := Lib.hid hs1
  have Hk1 : Hid (Keeps [] w w1) := by show Keeps _ _ _; rw [hw1]; exact (Keeps.refl _ _).alloc _
  clear hs1
  go_enter Tryz.func30, Tryz.ntmps30
  go_wp2_with fail
  rw [← hw1]
  clear hw1
  obtain ⟨b, Hb⟩ : ∃ b, Hid (w.heap.size = b) := ⟨_, rfl⟩
  obtain ⟨B0, HB0⟩ : ∃ B0, Hid (w.heap.size = B0) := ⟨_, rfl⟩
  have HT0 : Hid (TapeAt w1 b ⟨l, B0⟩ 0) := by
    show TapeAt _ _ _ _
    rw [← Hb.out, ← HB0.out]; exact H.out
  rw [Hb.out] at ⊢
  have hb1 : b < w1.heap.size := HT0.out.lt
  clear H
  go_loopw [6] (fun out wr => ∃ (qs : List (AskD × Value)) (k' : Nat), qs.length ≤ n ∧ Hid (∀ q ∈ qs, AskOk q.1) ∧ Hid (wr.ownsRow w1.heap.size 54 3 out qs.length (qs.flatMap aCell)) ∧ Hid (AsOwn w1 wr out qs) ∧ Hid (TapeAt wr b ⟨l, B0⟩ k') ∧ Hid (Keeps [b] w1 wr)) (fun out _ => match out with | .slice _ m _ => n - m | _ => 0)
  case atStart => exact ⟨[], 0, by simp, (show ∀ _, _ from by simp), World.ownsRow_nil _ _ _ _, (show AsOwn _ _ _ _ from by intro q hq; cases hq), HT0.out, Keeps.refl _ _⟩
  case round =>
    obtain ⟨qs, k', hq, Hok, Hown, Hds, HT, HK⟩ := hrel
    obtain ⟨Ao, co, e0⟩ : ∃ Ao co, u6 = .slice Ao qs.length co := by
      rcases Hown.out.2 with ⟨h, h'⟩ | ⟨g, cap, cur, h, _⟩
      · exact ⟨none, 0, by rw [h, h']⟩
      · exact ⟨_, _, h⟩
    subst e0
    obtain ⟨_, _, _, _, c1, _, hbl, _⟩ := HT.out.cells
    have hkl := HT.out.le
    simp only [] at hkl
    have hfin : Hid (AskPost n w (.returned (.slice Ao qs.length co)) wr) := by
      have hk0 : Keeps [] w wr := (Hk1.out.mono (M' := [b]) (by simp)).trans HK.out (fun g hg => .inl hg) |>.mono (fun g hg => .inr (by simp at hg; subst hg; rw [Hb.out]; exact Nat.le_refl _))
      refine ⟨_, qs.map (·.1), rfl, by simpa using hq, fun a ha => ?_, fun M hM => ⟨qs, rfl, Rd.of_own Hown.out (fun g hg => Nat.lt_of_lt_of_le (hM g hg) Hk1.out.size), fun q hq => Hds.out q hq M (fun g hg => .inl (Nat.lt_of_lt_of_le (hM g hg) Hk1.out.size))⟩, hk0⟩
      obtain ⟨q, hq, rfl⟩ := List.mem_map.1 ha
      exact Hok.out q hq
    by_cases hlt : qs.length < n
    · by_cases hkt : k' < l.length
      · have hd1 : decide ((qs.length : Int) < (n : Int)) = true := decide_eq_true (by omega)
        have hd2 : decide ((k' : Int) < (l.length : Int)) = true := decide_eq_true (by omega)
        clear hfin
        go_wp2_with fail
        refine (next_any b _ k' 5 wr HT.out).mono ?_
        rintro e w2 ⟨v1, k2, rfl, hv10, hv11, hT2, hK2⟩
        have hv12 := hv11 (by omega)
        have HT2 := Lib.hid hT2; have HK2 := Lib.hid hK2
        clear hv11 hT2 hK2
        go_wp2_with fail
        refine (next_any b _ k2 14 w2 HT2.out).mono ?_
        rintro e w3 ⟨v2, k3, rfl, hv20, hv21, hT3, hK3⟩
        have hv22 := hv21 (by omega)
        have HT3 := Lib.hid hT3; have HK3 := Lib.hid (HK2.out.trans hK3 (fun g hg => .inl hg))
        clear hv21 hT3 hK3
        go_wp2_with fail
        refine (log_any b _ k3 5 w3 HT3.out (by omega) (by omega)).mono ?_
        rintro e w4 ⟨lv, ll, k4, rfl, hlok, hll, hE, hT4, hK4⟩
        obtain ⟨Al, cl, rfl, _⟩ := (hE [] (by simp)).len
        have HT4 := Lib.hid hT4; have HK4 := Lib.hid (HK3.out.trans hK4 (fun g hg => .inl hg))
        have HE := Lib.hid (fun M' (hM : ∀ g ∈ M', g < wr.heap.size) => hE M' (fun g hg => Nat.lt_of_lt_of_le (hM g hg) HK3.out.size))
        have Hao : Hid (AskOk ⟨v1, v2, ll⟩) := ⟨hv10, hv12, hv20, hv22, by simp only []; omega, hlok⟩
        have hown4 := Lib.hid ((own_keep Hown.out HK4.out (fun g hg => by simp at hg; omega)).alloc (.cells (aCell (⟨v1, v2, ll⟩, .slice Al ll.length cl)).toArray 54))
        clear hlok hE hT4 hK4 HT2 HT3 HK2 HK3 HT
        simp only [aCell] at hown4
        go_wp2_with (at_builtin; refine wpList_append_any _ rfl (.tmp 23) (.tmp 31) _ rfl w1.heap.size 54 i0 _ 3 40 Tryz.underlying50 Hi0.out Hz0.out Hz1.out Hz2.out rfl (by omega) (.slice Ao qs.length co) qs.length (qs.flatMap aCell) rfl hown4.out (w4.heap.size + 1) (some ⟨w4.heap.size, 0, none⟩) 1 1 (aCell (⟨v1, v2, ll⟩, .slice Al ll.length cl)) rfl (reads_new _ _ _ _ _ rfl) ?_ ?_ ?_ ?_ ?_)
        · intro u hu; simp [aCell] at hu; rcases hu with rfl | rfl | rfl <;> rfl
        · unfold maxLen; omega
        · omega
        · have := HK.out.size; have := HK4.out.size; simp; omega
        · intro v' w5 hown5 hg5 hat5
          have hlt0 := Hown.out.lt
          have R1 := Lib.hid (asOwn_stepK (a := ⟨v1, v2, ll⟩) Hds.out HK4.out (fun g hg => by simp at hg; omega) (fun g hg => (hlt0 g hg).2) HK.out.size HE.out hg5 hat5)
          have R2 : Hid (Keeps [b] w1 w5) := ((HK.out.trans HK4.out (fun g hg => .inl hg)).alloc _).grown hg5 (fun g hg => .inr (hlt0 g hg).1)
          have R3 : Hid (w5.ownsRow w1.heap.size 54 3 v' (qs ++ [((⟨v1, v2, ll⟩ : AskD), Value.slice Al ll.length cl)]).length ((qs ++ [((⟨v1, v2, ll⟩ : AskD), Value.slice Al ll.length cl)]).flatMap aCell)) := by
            show World.ownsRow _ _ _ _ _ _ _
            rw [List.length_append, List.flatMap_append]
            simpa using hown5
          have R4 : Hid (TapeAt w5 b ⟨l, B0⟩ k4) := HT4.out.keep2 (M' := (Value.ownBlock (.slice Ao qs.length co)).toList) (((Keeps.refl _ _).alloc _).grown hg5 (fun g hg => .inl (by simpa using hg))) (fun g hg => by
            have h1 := hlt0 g (by simpa using hg)
            have h2 : B0 ≤ w1.heap.size := by rw [← HB0.out]; exact Hk1.out.size
            exact ⟨by simp only []; omega, by omega⟩)
          have R5 : Hid (∀ q ∈ qs ++ [((⟨v1, v2, ll⟩ : AskD), Value.slice Al ll.length cl)], AskOk q.1) := fun q hq => by
            rcases List.mem_append.1 hq with hq | hq
            · exact Hok.out q hq
            · simp at hq; subst hq; exact Hao.out
          obtain ⟨Av, cv, ev⟩ : ∃ Av cv, v' = .slice Av (qs.length + 1) cv := by
            rcases hown5.2 with ⟨h, h'⟩ | ⟨g, cap, cur, h, _⟩
            · omega
            · exact ⟨_, _, h⟩
          subst ev
          clear hown5 hg5 hat5 hlt0 hown4 HE Hds Hown Hok Hao
          go_wp2
          go_roundw
          case rel => exact ⟨_, k4, by simp; omega, R5, R3, R1, R4, R2⟩
          case measure => simp; omega
      · have hd1 : decide ((qs.length : Int) < (n : Int)) = true := decide_eq_true (by omega)
        have hd2 : decide ((k' : Int) < (l.length : Int)) = false := decide_eq_false (by omega)
        go_wp2
        go_ret
        exact hfin.out
    · have hd1 : decide ((qs.length : Int) < (n : Int)) = false := decide_eq_false (by omega)
      go_wp2
      go_ret
      exact hfin.out
end Go.Proofs.YtinnifhnabncfaaGreatDoor.Vi
end
/- Calls of a replica's word that a tape makes: each takes a good state to a good one. -/
section
namespace Go.Proofs.YtinnifhnabncfaaGreatDoor.Vi
open Go.RowKit Base Mem Tape Go.Shelf
/-- The disk is all records, and the last of them is the word. -/
def Good (x : WordD) (b : List UInt8) : Prop := ∃ rs : List (List UInt8), (∀ r ∈ rs, r.length ≤ 65536) ∧ b = rs.flatMap frameL ∧ lastV word0 rs = x
/-- A word that a tape makes. -/
def TWord (y : WordD) : Prop := y.t ≤ 13 ∧ y.h ≤ y.t ∧ y.log.length ≤ 5 ∧ ∀ e ∈ y.log, EntryOk e
def VI (x : WordD) (b : List UInt8) (j : Nat) : Prop := Good x b ∧ b.length ≤ j * 6200 ∧ TWord x
theorem entry_eok {e : EntryD} (h : EntryOk e) : EOk e := entry_right h
theorem rec_len {y : WordD} (h : TWord y) : (recL y).length ≤ 6100 ∧ (frameL (recL y)).length ≤ 6200 := by
  have h1 := Lib.uvarint_length64 (x := y.t) (by have := h.1; omega)
  have h2 := Lib.uvarint_length64 (x := y.h) (by have := h.1; have := h.2.1; omega)
  have h3 := Lib.uvarint_length64 (x := y.log.length) (by have := h.2.2.1; omega)
  have h4 := blobs_len y.log h.2.2.2
  have h5 := h.2.2.1
  have h6 : (recL y).length ≤ 6100 := by
    unfold recL putLog
    simp only [List.length_append, List.length_nil]
    omega
  have h7 := Lib.uvarint_length64 (x := (recL y).length) (by omega)
  exact ⟨h6, by rw [frameL_len]; omega⟩
theorem TWord.ok {y : WordD} (h : TWord y) : WOk y := by
  obtain ⟨h1, h2, h3, h4⟩ := h
  exact ⟨by omega, by omega, by omega, fun e he => entry_eok (h4 e he)⟩
set_option maxRecDepth 100000 in
theorem kp_ok {y : WordD} {b : List UInt8} {j : Nat} (h : TWord y) (hb : b.length ≤ j * 6200) (hj : j ≤ 100) : KpOk y b := by
  have := rec_len h
  exact ⟨by omega, by omega⟩
set_option maxRecDepth 100000 in
theorem VI.next {x y : WordD} {b : List UInt8} {j : Nat} (h : VI x b j) (hy : TWord y) : VI y (b ++ frameL (recL y)) (j + 1) := by
  obtain ⟨⟨rs, hr, rfl, _⟩, hb, _⟩ := h
  have hl := rec_len hy
  refine ⟨⟨rs ++ [recL y], fun r hm => ?_, by simp, lastV_snoc _ _ _ hy.ok⟩, by rw [List.length_append]; omega, hy⟩
  rcases List.mem_append.1 hm with h | h
  · exact hr r h
  · simp at h; subst h; omega
set_option maxRecDepth 100000 in
theorem VI.more {x : WordD} {b : List UInt8} {j : Nat} (h : VI x b j) : VI x b (j + 1) := ⟨h.1, by have := h.2.1; omega, h.2.2⟩
theorem Good.scan {x : WordD} {b : List UInt8} (h : Good x b) : ∃ rs, scanS b = (rs, b.length) ∧ lastV word0 rs = x := by
  obtain ⟨rs, hr, rfl, hx⟩ := h
  exact ⟨rs, scanS_put rs hr, hx⟩
def Later (x y : WordD) : Prop := x.t ≤ y.t ∧ x.h ≤ y.h ∧ (y.h = x.h → x.log.length ≤ y.log.length)
theorem Later.refl (x : WordD) : Later x x := ⟨Nat.le_refl _, Nat.le_refl _, fun _ => Nat.le_refl _⟩
def StepTo (s p : Nat) (Y : List Nat) (y : WordD) (d : Nat) (j : Nat) (w w' : World) : Prop :=
  ∃ b' Y' n', StAt w' s p Y' y d b' b'.length n' ∧ VI y b' (j + 1) ∧ Grows Y w Y' ∧ Keeps (s :: p :: Y) w w'
def nextP (x : WordD) (term : Int) : WordD := if (x.t : Int) < term then ⟨term.toNat, x.h, x.log⟩ else x
def nextA (x : WordD) (a : AskD) : WordD := if (x.t : Int) ≤ a.t ∧ 1 ≤ a.t then accW x a.t.toNat a.log else x
theorem nextP_later (x : WordD) (term : Int) : Later x (nextP x term) := by
  unfold nextP
  split
  · exact ⟨by simp only []; omega, Nat.le_refl _, fun _ => Nat.le_refl _⟩
  · exact Later.refl x
theorem nextA_later (x : WordD) (a : AskD) (hx : x.h ≤ x.t) : Later x (nextA x a) := by
  unfold nextA accW
  split
  · split
    · rename_i hlo
      refine ⟨by simp only []; omega, ?_, fun he => ?_⟩
      · simp only []
        omega
      · simp only [] at he ⊢
        rcases hlo with h | h <;> omega
    · exact ⟨by simp only []; omega, Nat.le_refl _, fun _ => Nat.le_refl _⟩
  · exact Later.refl x
section
variable {s p : Nat} {Y : List Nat} {x : WordD} {d n : Nat} {b : List UInt8} {j : Nat}
theorem step_keep {y : WordD} {w w' : World} {e : Ending} (hv : VI x b j) (hj : j ≤ 100) (hy : TWord y) (h : KpPost s p Y y d b n w e w') : e = .returned (.bool true) ∧ StepTo s p Y y d j w w' := by
  unfold KpPost at h
  rw [if_pos (kp_ok hy hv.2.1 hj)] at h
  obtain ⟨he, Y', h1, h2, h3⟩ := h
  rw [← List.length_append] at h1
  exact ⟨he, _, Y', _, h1, hv.next hy, h2, h3⟩
theorem step_same {w w' : World} (hv : VI x b j) (h : StAt w s p Y x d b b.length n) (hk : Keeps [] w w') : StepTo s p Y x d j w w' :=
  ⟨b, Y, n, h.keep0 hk, hv.more, Grows.refl _ _, hk.mono (by simp)⟩
theorem promise_step (hv : VI x b j) (hj : j ≤ 100) (w : World) (h : StAt w s p Y x d b b.length n) (term : Int) (ht0 : 0 ≤ term) (ht : term < 14) (m : Int) (hm : w.cell? ⟨0, 0, none⟩ = some (.int .i64 m)) :
    Calls Tryz.prog 36 #[.pointer (some ⟨s, 0, none⟩), .int .i64 term] w fun e w' => e = .returned (.bool (decide ((x.t : Int) < term))) ∧ StepTo s p Y (nextP x term) d j w w' := by
  refine (vpromise_any s p Y x d b.length n b w h term (by omega) m hm).mono ?_
  intro e w' hp
  unfold PmPost at hp
  unfold nextP
  split at hp
  · rename_i hc
    rw [decide_eq_true hc, if_pos hc]
    obtain ⟨h1, h2, h3, h4⟩ := hv.2.2
    exact step_keep hv hj ⟨by simp only []; omega, by simp only []; omega, h3, h4⟩ hp
  · rename_i hc
    rw [decide_eq_false hc, if_neg hc]
    exact ⟨hp.1, step_same hv h hp.2⟩
theorem accept_step (hv : VI x b j) (hj : j ≤ 100) (w : World) (h : StAt w s p Y x d b b.length n) (a : AskD) (ha : AskOk a) (lv : Value) (hl : Ens w [] lv a.log) (m : Int) (hm : w.cell? ⟨0, 0, none⟩ = some (.int .i64 m)) :
    Calls Tryz.prog 34 #[.pointer (some ⟨s, 0, none⟩), .int .i64 a.t, lv] w fun e w' => e = .returned (.bool (decide ((x.t : Int) ≤ a.t ∧ 1 ≤ a.t))) ∧ StepTo s p Y (nextA x a) d j w w' := by
  obtain ⟨k0, k5, t0, t14, l5, lok⟩ := ha
  refine (vaccept_any s p Y x d b.length n b w h a.t (by omega) lv a.log hl (fun e he => ⟨(entry_eok (lok e he)).2.1, (entry_eok (lok e he)).2.2⟩) m hm).mono ?_
  intro e w' hp
  unfold AcPost at hp
  unfold nextA
  split at hp
  · rename_i hc
    obtain ⟨h1, h2, h3, h4⟩ := hv.2.2
    rw [decide_eq_true (⟨hc.1, hc.2.1⟩ : (x.t : Int) ≤ a.t ∧ 1 ≤ a.t), if_pos ⟨hc.1, hc.2.1⟩]
    split at hp
    · rename_i hn
      have he : accW x a.t.toNat a.log = x := by
        unfold accW
        rw [if_neg hn.1, show a.t.toNat = x.t by omega]
      rw [he]
      exact ⟨hp.1, step_same hv h hp.2⟩
    · refine step_keep hv hj ?_ hp
      unfold accW
      have := hc.1; have := hc.2.1
      split
      · exact ⟨by simp only []; omega, by simp only []; omega, l5, lok⟩
      · exact ⟨by simp only []; omega, by simp only []; omega, h3, h4⟩
  · rename_i hc
    have hn : ¬ ((x.t : Int) ≤ a.t ∧ 1 ≤ a.t) := fun q => hc ⟨q.1, q.2, by omega, fun e he => (entry_eok (lok e he)).1⟩
    rw [decide_eq_false hn, if_neg hn]
    exact ⟨hp.1, step_same hv h hp.2⟩
end
end Go.Proofs.YtinnifhnabncfaaGreatDoor.Vi
end
/- Words for a walk that makes calls of a replica's word one behind the other. -/
section
namespace Go.Proofs.YtinnifhnabncfaaGreatDoor.Vi
open Go.RowKit Base Mem Tape Go.Shelf
theorem crashK_full (b : List UInt8) (keep : Int) : crashK b b.length keep = 0 := by unfold crashK; omega
theorem open_step {x : WordD} {d k j : Nat} {Y : List Nat} {b : List UInt8} (hv : VI x b j) (w : World) (h : DkAt w Y d b k) (m : Int) (hm : w.cell? ⟨0, 0, none⟩ = some (.int .i64 m)) (h0 : 0 ∉ Y) :
    Calls Tryz.prog 29 #[.pointer (some ⟨d, 0, none⟩)] w fun e w' => ∃ s p n, e = .returned (.pointer (some ⟨s, 0, none⟩)) ∧ StAt w' s p Y x d b b.length n ∧ Keeps Y w w' ∧ w.heap.size ≤ s ∧ w.heap.size ≤ p := by
  refine (vopen_any Y d k b w h m hm h0).mono ?_
  rintro e w' ⟨s, p, he, h1, h2, h3, h4⟩
  obtain ⟨rs, hs, hx⟩ := hv.1.scan
  rw [hs] at h1
  simp only [] at h1
  rw [hx, List.take_length] at h1
  exact ⟨s, p, _, he, h1, h2, h3, h4⟩
/-- The blocks of X are not old, and not block g; what was old stands. -/
structure Within (w : World) (g : Nat) (X : List Nat) (w' : World) : Prop where
  new : ∀ k ∈ X, w.heap.size ≤ k ∧ k ≠ g
  kp : Keeps [] w w'
theorem Within.step {w w' w'' : World} {g s p : Nat} {Y Y' : List Nat} (h : Within w g (s :: p :: Y) w') (hg : g < w'.heap.size) (hG : Grows Y w' Y') (hk : Keeps (s :: p :: Y) w' w'') : Within w g (s :: p :: Y') w'' := by
  refine ⟨fun k hm => ?_, ((h.kp.mono (M' := s :: p :: Y) (by simp)).trans hk (fun k hk => .inl hk)).mono (fun k hk => .inr (h.new k hk).1)⟩
  simp only [List.mem_cons] at hm
  rcases hm with h1 | h1 | h1
  · exact h.new k (by simp [h1])
  · exact h.new k (by simp [h1])
  · rcases hG k h1 with h2 | h2
    · exact h.new k (by simp [h2])
    · have := h.kp.size; omega
theorem Within.first {w w3 w4 : World} {g s p : Nat} {Y Y' : List Nat} (ho : ∀ k ∈ s :: p :: Y, k < g) (hn : ∀ k ∈ s :: p :: Y, w.heap.size ≤ k) (hg : g < w3.heap.size) (hk3 : Keeps [] w w3) (hG : Grows Y w3 Y') (hk : Keeps (s :: p :: Y) w3 w4) : Within w g (s :: p :: Y') w4 :=
  Within.step ⟨fun k hm => ⟨hn k hm, by have := ho k hm; omega⟩, hk3⟩ hg hG hk
theorem Within.keep {w w' w'' : World} {g : Nat} {X : List Nat} (h : Within w g X w') (hk : Keeps [] w' w'') : Within w g X w'' := ⟨h.new, h.kp.trans hk (by simp)⟩
end Go.Proofs.YtinnifhnabncfaaGreatDoor.Vi
end
/- hopperlaw14.known. -/
section
namespace Go.Proofs.YtinnifhnabncfaaGreatDoor.Vi
open Go.RowKit Base Mem Tape Go.Shelf
def eD : EntryD := ⟨2, 0, 0, 0, 0, [], ⟨#[97, 61, 49]⟩, 0, 0⟩
theorem eD_ok : EntryOk eD := ⟨by decide, by decide, by decide, by decide, .inl ⟨rfl, ⟨[97, 61, 49], by decide, rfl⟩, rfl, rfl, rfl, rfl, rfl⟩⟩
def e9 : Array Value := #[.int .i64 2, .int .i64 0, .int .i64 0, .int .i64 0, .int .i64 0, .slice none 0 0, .string ⟨#[97, 61, 49]⟩, .int .i64 0, .int .i64 0]
theorem blk_new1 (w : World) (o : Obj) (t : TypeId) (cs : Array Value) : Blk ((w.alloc o).alloc (.cells cs t)) (w.heap.size + 1) t cs := by
  have := Blk.new (w.alloc o) t cs
  simpa using this
theorem ens_e1 {W : World} {g : Nat} (h : Blk W g 26 #[.int .i64 2, .int .i64 0, .int .i64 0, .int .i64 0, .int .i64 0, .slice none 0 0, .string ⟨#[97, 61, 49]⟩, .int .i64 0, .int .i64 0]) : Ens W [] (.slice (some ⟨g, 0, none⟩) 1 1) [eD] :=
  ⟨[(eD, .slice none 0 0)], rfl, ⟨_, 1, rfl, Nat.le_refl _, rfl, fun _ => ⟨g, 0, rfl, h.lt, by simp, fun j u hu => by rw [h.cell, Nat.zero_add]; simpa [eCell, eD] using hu⟩⟩, fun p hp => by simp at hp; subst hp; exact Ds.nil _ _⟩
theorem ens_e2 {W : World} {g : Nat} (h : Blk W g 26 #[.int .i64 2, .int .i64 0, .int .i64 0, .int .i64 0, .int .i64 0, .slice none 0 0, .string ⟨#[97, 61, 49]⟩, .int .i64 0, .int .i64 0, .int .i64 2, .int .i64 0, .int .i64 0, .int .i64 0, .int .i64 0, .slice none 0 0, .string ⟨#[97, 61, 49]⟩, .int .i64 0, .int .i64 0]) : Ens W [] (.slice (some ⟨g, 0, none⟩) 2 2) [eD, eD] :=
  ⟨[(eD, .slice none 0 0), (eD, .slice none 0 0)], rfl, ⟨_, 2, rfl, Nat.le_refl _, rfl, fun _ => ⟨g, 0, rfl, h.lt, by simp, fun j u hu => by rw [h.cell, Nat.zero_add]; simpa [eCell, eD] using hu⟩⟩, fun p hp => by simp at hp; subst hp; exact Ds.nil _ _⟩
set_option maxRecDepth 100000 in
set_option maxHeartbeats 8000000 in
theorem vknown_any (m : Int) (w : World) (hm : w.cell? ⟨0, 0, none⟩ = some (.int .i64 m)) :
    Calls Tryz.prog 37 #[] w fun e w' => SamePost true w e w' := by
  have hw0 : 0 < w.heap.size := by
    have := World.block_lt_of_cell? w _ hm
    simpa using this
  have hkeepm : Hid (∀ W, Keeps [] w W → W.cell? ⟨0, 0, none⟩ = some (.int .i64 m)) := fun W hb => (hb.cell (p := ⟨0, 0, none⟩) hw0 (by simp)).trans hm
  clear hm
  go_enter Tryz.func37, Tryz.ntmps37
  go_wp2_with fail
  refine (dknew_any w).mono ?_
  rintro e w1 ⟨rfl, hD, hb1⟩
  have HD := Lib.hid hD; have Hk1 : Hid (Keeps [] w w1) := Keeps.of_below (M := []) hb1
  clear hD hb1
  go_wp2_with fail
  refine (open_step (x := word0) (j := 0) ⟨⟨[], by simp, rfl, rfl⟩, by simp, ⟨by simp [word0], by simp [word0], by simp [word0], by simp [word0]⟩⟩ w1 HD.out m (hkeepm.out w1 Hk1.out) (by simp; omega)).mono ?_
  rintro e w2 ⟨s, p, n, rfl, hS, hk2, hs2, hp2⟩
  have HS2 := Lib.hid hS
  have Hk2 : Hid (Keeps [] w w2) := (Hk1.out.mono (M' := [w.heap.size]) (by simp)).trans hk2 (fun g hg => .inl hg) |>.mono (fun g hg => .inr (by simp at hg; omega))
  have hs1 := Hk1.out.size
  have hgr2 : Hid (∀ g ∈ s :: p :: [w.heap.size], w.heap.size ≤ g) := fun g hg => by
    simp only [List.mem_cons, List.not_mem_nil, or_false] at hg
    rcases hg with h | h | h <;> omega
  clear hS hk2 HD Hk1
  obtain ⟨d, hd⟩ : ∃ d, Hid (w.heap.size = d) := ⟨_, rfl⟩
  obtain ⟨Y0, hY0⟩ : ∃ Y0, Hid ([w.heap.size] = Y0) := ⟨_, rfl⟩
  rw [hY0.out] at HS2 hgr2
  rw [hd.out] at HS2 ⊢
  obtain ⟨w3, hw3⟩ : ∃ w3, w3 = w2.alloc (.cells #[.int .i64 2, .int .i64 0, .int .i64 0, .int .i64 0, .int .i64 0, .slice none 0 0, .string ⟨#[97, 61, 49]⟩, .int .i64 0, .int .i64 0] 26) := ⟨_, rfl⟩
  have hk3 : Keeps [] w2 w3 := by rw [hw3]; exact (Keeps.refl _ _).alloc _
  have HB3 : Hid (Blk w3 w2.heap.size 26 #[.int .i64 2, .int .i64 0, .int .i64 0, .int .i64 0, .int .i64 0, .slice none 0 0, .string ⟨#[97, 61, 49]⟩, .int .i64 0, .int .i64 0]) := by show Blk _ _ _ _; rw [hw3]; exact Blk.new w2 _ _
  have HS3 := Lib.hid (HS2.out.keep0 hk3); have Hk3 := Lib.hid (Hk2.out.trans hk3 (by simp))
  have ho2 := HS2.out.old
  obtain ⟨g3, hg3⟩ : ∃ g3, Hid (w2.heap.size = g3) := ⟨_, rfl⟩
  have HO2 : Hid (∀ g ∈ s :: p :: Y0, g < g3) := fun g hg => by have := ho2 g hg; have := hg3.out; omega
  clear hk3 HS2 Hk2 ho2
  have HV0 : Hid (VI word0 [] 0) := ⟨⟨[], by simp, rfl, rfl⟩, by simp, ⟨by simp [word0], by simp [word0], by simp [word0], by simp [word0]⟩⟩
  go_wp2_with fail
  rw [← hw3]
  clear hw3
  rw [hg3.out] at HB3 ⊢
  refine (promise_step HV0.out (by omega) w3 HS3.out 3 (by omega) (by omega) m (hkeepm.out w3 Hk3.out)).mono ?_
  rintro e w4 ⟨rfl, b4, Y4, n4, hS4, hV4, hG4, hK4⟩
  have HS4 := Lib.hid hS4; have HV4 := Lib.hid hV4
  have HA4 := Lib.hid (Within.first HO2.out hgr2.out HB3.out.lt Hk3.out hG4 hK4)
  have HB4 := Lib.hid (hK4.blk HB3.out (fun hm => by have := HO2.out _ hm; omega))
  clear hS4 hV4 hG4 hK4 HS3 HB3
  have hx1 : nextP word0 3 = ⟨3, 0, []⟩ := rfl
  rw [hx1] at HS4 HV4
  clear hx1
  rw [show decide ((word0.t : Int) < 3) = true from rfl]
  go_wp2_with fail
  refine (accept_step HV4.out (by omega) w4 HS4.out ⟨0, 2, []⟩ ⟨by simp, by simp, by simp, by simp, by simp, by simp⟩ (.slice none 0 0) (Ens.nil _ _) m (hkeepm.out w4 HA4.out.kp)).mono ?_
  rintro e w5 ⟨rfl, b5, Y5, n5, hS5, hV5, hG5, hK5⟩
  have HS5 := Lib.hid hS5; have HV5 := Lib.hid hV5
  have HA5 := Lib.hid (HA4.out.step HB4.out.lt hG5 hK5)
  have HB5 := Lib.hid (hK5.blk HB4.out (fun hm => (HA4.out.new _ hm).2 rfl))
  clear hS5 hV5 hG5 hK5 HS4 HB4 HA4 HV4
  have hx1 : nextA ⟨3, 0, []⟩ ⟨0, 2, []⟩ = ⟨3, 0, []⟩ := rfl
  rw [hx1] at HS5 HV5
  clear hx1
  rw [show decide (((3 : Nat) : Int) ≤ 2 ∧ (1 : Int) ≤ 2) = false from rfl]
  have hO5 := HS5.out.old
  have HO5 := Lib.hid hO5
  have hacc1 : Hid (∀ W lv, Keeps [] w5 W → Ens W [] lv [eD, eD] → Calls Tryz.prog 34 #[.pointer (some ⟨s, 0, none⟩), .int .i64 3, lv] W fun e w' => e = .returned (.bool true) ∧ StepTo s p Y5 ⟨3, 3, [eD, eD]⟩ d 2 W w') := fun W lv hk hE => by
    have := accept_step HV5.out (by omega) W (HS5.out.keep0 hk) ⟨0, 3, [eD, eD]⟩ ⟨by simp, by simp, by simp, by simp, by simp, fun e he => by simp at he; subst he; exact eD_ok⟩ lv hE m (hkeepm.out W (HA5.out.kp.trans hk (by simp)))
    exact this
  have hacc2 : Hid (∀ W b Y n lv, StAt W s p Y ⟨3, 3, [eD, eD]⟩ d b b.length n → VI ⟨3, 3, [eD, eD]⟩ b 3 → Keeps [] w W → Ens W [] lv [eD] → Calls Tryz.prog 34 #[.pointer (some ⟨s, 0, none⟩), .int .i64 3, lv] W fun e w' => e = .returned (.bool true) ∧ StepTo s p Y ⟨3, 3, [eD, eD]⟩ d 3 W w') := fun W b Y n lv hS hV hk hE => by
    have := accept_step hV (by omega) W hS ⟨0, 3, [eD]⟩ ⟨by simp, by simp, by simp, by simp, by simp, fun e he => by simp at he; subst he; exact eD_ok⟩ lv hE m (hkeepm.out W hk)
    exact this
  have HC : Hid (∀ W X, Within w g3 X W → Blk W g3 26 #[.int .i64 2, .int .i64 0, .int .i64 0, .int .i64 0, .int .i64 0, .slice none 0 0, .string ⟨#[97, 61, 49]⟩, .int .i64 0, .int .i64 0] → (fun W => W.cell? ⟨g3, 0, none⟩ = some (.int .i64 2) ∧ W.cell? ⟨g3, 1, none⟩ = some (.int .i64 0) ∧ W.cell? ⟨g3, 2, none⟩ = some (.int .i64 0) ∧ W.cell? ⟨g3, 3, none⟩ = some (.int .i64 0) ∧ W.cell? ⟨g3, 4, none⟩ = some (.int .i64 0) ∧ W.cell? ⟨g3, 5, none⟩ = some (.slice none 0 0) ∧ W.cell? ⟨g3, 6, none⟩ = some (.string ⟨#[97, 61, 49]⟩) ∧ W.cell? ⟨g3, 7, none⟩ = some (.int .i64 0) ∧ W.cell? ⟨g3, 8, none⟩ = some (.int .i64 0)) W) := fun W X h hb =>
    ⟨hb.cell 0, hb.cell 1, hb.cell 2, hb.cell 3, hb.cell 4, hb.cell 5, hb.cell 6, hb.cell 7, hb.cell 8⟩
  clear hO5
  go_wp2_with fail
  go_region_held3 (fun W => W.cell? ⟨g3, 0, none⟩ = some (.int .i64 2) ∧ W.cell? ⟨g3, 1, none⟩ = some (.int .i64 0) ∧ W.cell? ⟨g3, 2, none⟩ = some (.int .i64 0) ∧ W.cell? ⟨g3, 3, none⟩ = some (.int .i64 0) ∧ W.cell? ⟨g3, 4, none⟩ = some (.int .i64 0) ∧ W.cell? ⟨g3, 5, none⟩ = some (.slice none 0 0) ∧ W.cell? ⟨g3, 6, none⟩ = some (.string ⟨#[97, 61, 49]⟩) ∧ W.cell? ⟨g3, 7, none⟩ = some (.int .i64 0) ∧ W.cell? ⟨g3, 8, none⟩ = some (.int .i64 0)) (first | exact HC.out _ _ HA7.out HB7.out | exact HC.out _ _ HA6.out HB6.out | exact HC.out _ _ (HA6.out.keep ((Keeps.refl _ _).alloc _)) (((Keeps.refl [] _).alloc _).blk HB6.out (by simp)) | exact HC.out _ _ (HA5.out.keep ((Keeps.refl _ _).drew)) HB5.out | exact HC.out _ _ (HA5.out.keep (((Keeps.refl _ _).alloc _).drew)) ((((Keeps.refl [] _).alloc _).drew).blk HB5.out (by simp)) | exact HC.out _ _ (HA5.out.keep ((((Keeps.refl _ _).alloc _).alloc _).drew)) (((((Keeps.refl [] _).alloc _).alloc _).drew).blk HB5.out (by simp))) (first
    | (go_at_call 34
       with_reducible refine (hacc1.out _ _ ?hk ?he).mono ?_
       case hk => first | exact ((Keeps.refl _ _).alloc _).drew | exact (((Keeps.refl _ _).alloc _).alloc _).drew
       case he => first | exact ens_e2 (Blk.new _ _ _) | exact ens_e2 (blk_new1 _ _ _ _) | exact ens_e2 (((Keeps.refl [] _).alloc _).blk (Blk.new _ _ _) (by simp))
       rintro e w6 ⟨rfl, b6, Y6, n6, hS6, hV6, hG6, hK6⟩
       have HS6 := Lib.hid hS6; have HV6 := Lib.hid hV6; have HG6 := Lib.hid hG6; have HK6 := Lib.hid hK6
       have HA6 : Hid (Within w g3 (s :: p :: Y6) w6) := by first | exact (HA5.out.keep (((Keeps.refl _ _).alloc _).drew)).step (Nat.lt_of_lt_of_le HB5.out.lt (by simp)) hG6 hK6 | exact (HA5.out.keep ((((Keeps.refl _ _).alloc _).alloc _).drew)).step (Nat.lt_of_lt_of_le HB5.out.lt (by simp; omega)) hG6 hK6
       have HB6 : Hid (Blk w6 g3 26 #[.int .i64 2, .int .i64 0, .int .i64 0, .int .i64 0, .int .i64 0, .slice none 0 0, .string ⟨#[97, 61, 49]⟩, .int .i64 0, .int .i64 0]) := hK6.blk (by first | exact (((Keeps.refl [] _).alloc _).drew).blk HB5.out (by simp) | exact ((((Keeps.refl [] _).alloc _).alloc _).drew).blk HB5.out (by simp)) (fun hm => (HA5.out.new _ hm).2 rfl)
       clear hS6 hV6 hG6 hK6)
    | (go_at_call 34
       with_reducible refine (hacc2.out _ b6 Y6 n6 _ ?hs HV6.out ?hk ?he).mono ?_
       case hs => first | exact HS6.out | exact HS6.out.keep0 ((Keeps.refl _ _).alloc _)
       case hk => first | exact HA6.out.kp | exact HA6.out.kp.alloc _
       case he => first | exact ens_e1 (Blk.new _ _ _) | exact ens_e1 (HK6.out.blk (blk_new1 _ _ _ _) (fun hm => by have h2 := HO5.out _ hm; omega)) | exact ens_e1 (HK6.out.blk (((Keeps.refl [] _).alloc _).blk (Blk.new w5 _ _) (by simp)) (fun hm => by have h2 := HO5.out _ hm; omega))
       rintro e w7 ⟨rfl, b7, Y7, n7, hS7, hV7, hG7, hK7⟩
       have HS7 := Lib.hid hS7; have HV7 := Lib.hid hV7
       have HA7 : Hid (Within w g3 (s :: p :: Y7) w7) := by first | exact HA6.out.step HB6.out.lt hG7 hK7 | exact (HA6.out.keep ((Keeps.refl _ _).alloc _)).step (Nat.lt_of_lt_of_le HB6.out.lt (by simp)) hG7 hK7
       have HB7 : Hid (Blk w7 g3 26 #[.int .i64 2, .int .i64 0, .int .i64 0, .int .i64 0, .int .i64 0, .slice none 0 0, .string ⟨#[97, 61, 49]⟩, .int .i64 0, .int .i64 0]) := hK7.blk (by first | exact HB6.out | exact ((Keeps.refl [] _).alloc _).blk HB6.out (by simp)) (fun hm => (HA6.out.new _ hm).2 rfl)
       clear hS7 hV7 hG7 hK7))
  all_goals
    have HX7 : Hid ((⟨3, 3, [eD, eD]⟩ : WordD).log.length = 2) := rfl
    go_wp2_with fail
    refine (vlog_any w7 HS7.out).mono ?_
    rintro e w8 ⟨A8, rfl, _, hk8⟩
    have HS8 := Lib.hid (HS7.out.keep0 hk8); have HA8 := Lib.hid (HA7.out.keep hk8)
    have HD8 : Hid (DkAt w8 Y7 d b7 b7.length) := by obtain ⟨_, _, _, hl, _⟩ := HS8.out; exact hl.2.1
    clear hk8 HS7 HA7
    go_wp2_with fail
    refine (dkcrash_any w8 HD8.out 0).mono ?_
    rintro e w9 ⟨rfl, hD9, hk9⟩
    rw [crashK_full, Nat.add_zero, List.take_length] at hD9
    have HD9 := Lib.hid hD9
    have Hk9 : Hid (Keeps Y7 w8 w9) := hk9.mono (fun g hg => by simp at hg; subst hg; exact .inl HD8.out.inX)
    have hm9 := Lib.hid ((hk9.cell (p := ⟨0, 0, none⟩) (World.block_lt_of_cell? _ _ (hkeepm.out w8 HA8.out.kp)) (by
      have h1 := (HA8.out.new d (by simp [HD8.out.inX])).1
      simp
      omega)).trans (hkeepm.out w8 HA8.out.kp))
    clear hD9 hk9
    go_wp2_with fail
    refine (open_step HV7.out w9 HD9.out m hm9.out (fun h => by have := (HA8.out.new 0 (by simp [h])).1; omega)).mono ?_
    rintro e wA ⟨s', p', n', rfl, hSA, hkA, hsA, hpA⟩
    have HSA := Lib.hid hSA
    have hkAll : Keeps Y7 w8 wA := Hk9.out.trans hkA (fun g hg => .inl hg)
    have HSs : Hid (StAt wA s p Y7 ⟨3, 3, [eD, eD]⟩ d b7 b7.length n7) := by
      obtain ⟨lv, hb, he, hl, hs, hok⟩ := HS8.out
      obtain ⟨_, _, _, hl', _⟩ := hSA
      exact ⟨lv, hkAll.blk hb (fun h => hs (by simp [h])), he.keep hkAll (fun g hg => .inl (by simp [hg])), ⟨hkAll.blk hl.1 hl.2.2.1, hl'.2.1, hl.2.2⟩, hs, hok⟩
    have HKA : Hid (Keeps [] w wA) := ((HA8.out.kp.mono (M' := Y7) (by simp)).trans hkAll (fun g hg => .inl hg)).mono (fun g hg => .inr (HA8.out.new g (by simp [hg])).1)
    clear hSA hkA hsA hpA hkAll HS8 HD8 HD9 Hk9 hm9 HA8 HV7 HB7 HA6 HB6 HS6 HV6 HG6 HK6 hacc1 hacc2 HC HO5
    go_wp2_with fail
    refine (vterm_any wA HSA.out).mono ?_
    rintro e wz ⟨rfl, rfl⟩
    go_wp2_with fail
    refine (vhad_any wA HSA.out).mono ?_
    rintro e wz ⟨rfl, rfl⟩
    go_wp2_with fail
    refine (vlog_any wA HSA.out).mono ?_
    rintro e wB ⟨A9, rfl, _, hkB⟩
    have HKB := Lib.hid (HKA.out.trans hkB (by simp))
    have HSB := Lib.hid (HSA.out.keep0 hkB); have HSsB := Lib.hid (HSs.out.keep0 hkB)
    clear hkB HSA HSs HKA
    go_wp2_with fail
    refine (vpromise_any s' p' Y7 _ d b7.length _ b7 wB HSB.out 3 (by omega) m (hkeepm.out wB HKB.out)).mono ?_
    intro e wC hpm
    unfold PmPost at hpm
    rw [if_neg (by simp)] at hpm
    obtain ⟨rfl, hkC⟩ := hpm
    have HKC := Lib.hid (HKB.out.trans hkC (by simp)); have HSsC := Lib.hid (HSsB.out.keep0 hkC)
    clear hkC HSB HSsB HKB
    go_wp2_with fail
    refine (vaccept_any s p Y7 _ d b7.length _ b7 wC HSsC.out 0 (by omega) (.slice none 0 0) [] (Ens.nil _ _) (by simp) m (hkeepm.out wC HKC.out)).mono ?_
    intro e wD hac
    unfold AcPost at hac
    rw [if_neg (fun h => by have := h.2.1; omega)] at hac
    obtain ⟨rfl, hkD⟩ := hac
    have hp : Hid (SamePost true w (.returned (.bool true)) wD) := ⟨rfl, (HKC.out.trans hkD (by simp)).below⟩
    clear hkD
    go_wp2_with fail
    go_ret
    exact hp.out
end Go.Proofs.YtinnifhnabncfaaGreatDoor.Vi
end
/- Contracts of hopperref4.SameDeltas, Same at equal arguments. -/
section
namespace Go.Proofs.YtinnifhnabncfaaGreatDoor.Vi
open Go.RowKit Base Mem
set_option maxRecDepth 100000 in
theorem rsameDs_eq (va vb : Value) (ds : List DeltaD) (w : World) (ha : Ds w [] va ds) (hb : Ds w [] vb ds) (hl : ds.length ≤ 1048576) :
    Calls Tryz.prog 25 #[va, vb] w fun e w' => e = .returned (.bool true) ∧ ∃ n, w' = w.drewN n := by
  have Ha := Lib.hid ha; have Hb := Lib.hid hb
  obtain ⟨Aa, ca, rfl, hca⟩ := ha.len
  obtain ⟨Ab, cb, rfl, hcb⟩ := hb.len
  clear ha hb
  go_enter Tryz.func25, Tryz.ntmps25
  go_wp2_with fail
  go_slots
  go_loopw [13] (fun i wr => ∃ (x q : Nat), i = .int .i64 x ∧ x ≤ ds.length ∧ wr = w.drewN q) (fun i _ => ds.length - (intOf i).toNat)
  case atStart => exact ⟨0, 0, rfl, by omega, rfl⟩
  case round =>
    obtain ⟨x, q, rfl, hx, rfl⟩ := hrel
    by_cases hlt : x < ds.length
    · obtain ⟨ga, oa, _, e1, _, hga, _, h1⟩ := Rd.at_ dCell 2 (fun _ => rfl) Ha.out hlt
      obtain ⟨gb, ob, _, e2, _, hgb, _, h2⟩ := Rd.at_ dCell 2 (fun _ => rfl) Hb.out hlt
      obtain rfl : Aa = some ⟨ga, oa, none⟩ := by injection e1
      obtain rfl : Ab = some ⟨gb, ob, none⟩ := by injection e2
      clear e1 e2
      have c1 : w.cell? ⟨ga, oa + x * 2 + 0, none⟩ = some (.string ds[x].ser) := h1 0 _ rfl
      have c2 : w.cell? ⟨ga, oa + x * 2 + 1, none⟩ = some (.int .u64 ds[x].n) := h1 1 _ rfl
      have c3 : w.cell? ⟨gb, ob + x * 2 + 0, none⟩ = some (.string ds[x].ser) := h2 0 _ rfl
      have c4 : w.cell? ⟨gb, ob + x * 2 + 1, none⟩ = some (.int .u64 ds[x].n) := h2 1 _ rfl
      rw [Nat.add_zero] at c1 c3
      generalize ds[x].ser = sx at *
      generalize ds[x].n = nx at *
      clear h1 h2
      have hx1 : (x : Int) < (ds.length : Int) := by omega
      go_wp2
      go_quiet (fail)
      go_wp2
      go_roundw
      case rel => exact ⟨x + 1, _, by go_num, by omega, rfl⟩
      case measure => simp [intOf] <;> omega
    · obtain rfl : x = ds.length := by omega
      go_wp2
      go_ret
      exact ⟨rfl, q, rfl⟩
def eVal (e : EntryD) (v : Value) : Value := .agg #[.int .i64 e.kind, .int .i64 e.ag, .int .i64 e.sh, .int .i64 e.seq, .int .i64 e.ep, v, .string e.ser, .int .i64 e.fr, .int .i64 e.tag]
set_option maxRecDepth 100000 in
theorem rsame_eq (va vb : Value) (e : EntryD) (w : World) (ha : Ds w [] va e.ds) (hb : Ds w [] vb e.ds) (hl : e.ds.length ≤ 1048576) :
    Calls Tryz.prog 24 #[eVal e va, eVal e vb] w fun r w' => r = .returned (.bool true) ∧ Below w.heap.size w w' := by
  have Ha := Lib.hid ha; have Hb := Lib.hid hb
  obtain ⟨Aa, ca, rfl, hca⟩ := ha.len
  obtain ⟨Ab, cb, rfl, hcb⟩ := hb.len
  obtain ⟨kind, ag, sh, seq, ep, ds, ser, fr, tag⟩ := e
  simp only [eVal]
  clear ha hb
  go_enter Tryz.func24, Tryz.ntmps24
  go_wp2_with fail
  have hk : Keeps [] w ((w.alloc (.cells #[.int .i64 kind, .int .i64 ag, .int .i64 sh, .int .i64 seq, .int .i64 ep, .slice Aa ds.length ca, .string ser, .int .i64 fr, .int .i64 tag] 26)).alloc (.cells #[.int .i64 kind, .int .i64 ag, .int .i64 sh, .int .i64 seq, .int .i64 ep, .slice Ab ds.length cb, .string ser, .int .i64 fr, .int .i64 tag] 26)) := ((Keeps.refl _ _).alloc _).alloc _
  refine (rsameDs_eq _ _ ds _ (Ha.out.keep hk (by simp)) (Hb.out.keep hk (by simp)) hl).mono ?_
  rintro e w1 ⟨rfl, n, rfl⟩
  have Hk := Lib.hid (hk.drewN n).below
  clear hk
  go_wp2
  go_ret
  exact ⟨rfl, Hk.out⟩
end Go.Proofs.YtinnifhnabncfaaGreatDoor.Vi
end
/- Contract of hopperref4.Logs at equal arguments. -/
section
namespace Go.Proofs.YtinnifhnabncfaaGreatDoor.Vi
open Go.RowKit Base Mem
set_option maxRecDepth 100000 in
theorem rlogs_eq (va vb : Value) (l : List EntryD) (w : World) (ha : Ens w [] va l) (hb : Ens w [] vb l) (hsm : l.length ≤ 1048576 ∧ ∀ e ∈ l, e.ds.length ≤ 1048576) :
    Calls Tryz.prog 38 #[va, vb] w fun r w' => r = .returned (.bool true) ∧ Below w.heap.size w w' := by
  have Ha := Lib.hid ha; have Hb := Lib.hid hb; have Hsm := Lib.hid hsm
  obtain ⟨Aa, ca, rfl, hca⟩ := ha.len
  obtain ⟨Ab, cb, rfl, hcb⟩ := hb.len
  have hll : l.length ≤ 1048576 := hsm.1
  clear ha hb hsm
  go_enter Tryz.func38, Tryz.ntmps38
  go_wp2_with fail
  go_slots
  go_loopw [13] (fun i wr => ∃ (x : Nat), i = .int .i64 x ∧ x ≤ l.length ∧ Hid (Below w.heap.size w wr)) (fun i _ => l.length - (intOf i).toNat)
  case atStart => exact ⟨0, rfl, by omega, Below.refl _ _⟩
  case round =>
    obtain ⟨x, rfl, hx, Hbe⟩ := hrel
    by_cases hlt : x < l.length
    · have ha2 := Ha.out.keep (Keeps.of_below (M := []) Hbe.out) (by simp)
      have hb2 := Hb.out.keep (Keeps.of_below (M := []) Hbe.out) (by simp)
      obtain ⟨ga, oa, _, da, e1, hga, _, hda, h1⟩ := ens_at ha2 hlt
      obtain ⟨gb, ob, _, db, e2, hgb, _, hdb, h2⟩ := ens_at hb2 hlt
      obtain rfl : Aa = some ⟨ga, oa, none⟩ := by injection e1
      obtain rfl : Ab = some ⟨gb, ob, none⟩ := by injection e2
      have hsame := Lib.hid (fun n => rsame_eq da db l[x] (wr.drewN n) (hda.keep (M' := []) ((Keeps.refl _ _).drewN n) (by simp)) (hdb.keep (M' := []) ((Keeps.refl _ _).drewN n) (by simp)) (Hsm.out.2 _ (List.getElem_mem _)))
      clear e1 e2 hda hdb ha2 hb2
      generalize l[x] = en at *
      obtain ⟨kind, ag, sh, seq, ep, ds, ser, fr, tag⟩ := en
      have a0 := h1 0 _ rfl; have a1 := h1 1 _ rfl; have a2 := h1 2 _ rfl; have a3 := h1 3 _ rfl; have a4 := h1 4 _ rfl; have a5 := h1 5 _ rfl; have a6 := h1 6 _ rfl; have a7 := h1 7 _ rfl; have a8 := h1 8 _ rfl
      have b0 := h2 0 _ rfl; have b1 := h2 1 _ rfl; have b2 := h2 2 _ rfl; have b3 := h2 3 _ rfl; have b4 := h2 4 _ rfl; have b5 := h2 5 _ rfl; have b6 := h2 6 _ rfl; have b7 := h2 7 _ rfl; have b8 := h2 8 _ rfl
      rw [Nat.add_zero] at a0 b0
      simp only [] at a0 a1 a2 a3 a4 a5 a6 a7 a8 b0 b1 b2 b3 b4 b5 b6 b7 b8
      simp only [eVal] at hsame
      clear h1 h2
      have hx1 : (x : Int) < (l.length : Int) := by omega
      go_wp2
      go_region_with ((go_at_call 24; refine (hsame.out 1).mono ?_; rintro e w2 ⟨rfl, hb2⟩; have Hb2 := Lib.hid (below_then Hbe.out (show Below wr.heap.size wr w2 from ⟨hb2.os, hb2.tape, hb2.output, hb2.size, hb2.block⟩)); clear hb2))
      all_goals
        go_wp2
        go_roundw
        case rel => exact ⟨x + 1, by go_num, by omega, Hb2⟩
        case measure => simp [intOf] <;> omega
    · obtain rfl : x = l.length := by omega
      go_wp2
      go_ret
      exact ⟨rfl, Hbe.out⟩
end Go.Proofs.YtinnifhnabncfaaGreatDoor.Vi
end
