/- Texts put together: Vote1, Vote2, Vote3, Vote4, Vote5, LeadA, LeadB, LeadC, LeadD, LeadE, Map, McQ, WinP, McP, WinA, WinB, WinC, WinD, CtA, McA. -/
import Derived.Deep.RegionHeld3
import Derived.Deep.RegionWith
import Derived.StillTailTactics
import Derived.Sort.OwnSortedInts
import Derived.Maps.RangeWalk
import Derived.DeepKeys4
import Derived.WalkKit
import Derived.Lib.Hide
import Derived.BigQuiet
import Derived.Deep.QuietTactic
import Derived.Deep.DeepCutAuto
import Derived.Handy
import Derived.Test.YtdaceeijifjpeaaGreatDoorRT1
import Derived.Test.YtdaceeijifjpeaaGreatDoorRT3
import Derived.Test.YtdaceeijifjpeaaGreatDoorRT4
import Derived.Test.YtdaceeijifjpeaaGreatDoorRT5
import Derived.Test.YtdaceeijifjpeaaGreatDoorRT6
set_option linter.unusedVariables false
set_option linter.unusedSimpArgs false
section
namespace Go.Proofs.YtdaceeijifjpeaaGreatDoor.Vi
open Go.RowKit Base Mem Tape Go.Shelf
def VrPost (R : Option WordD) (w : World) (e : Ending) (w' : World) : Prop := match R with
 | some x => ∃ lv, e = .returned (.tuple #[.agg #[.int .i64 x.t, .int .i64 x.h, lv], .bool true]) ∧ (∀ M, (∀ g ∈ M, g < w.heap.size) → Ens w' M lv x.log) ∧ Keeps [] w w'
 | none => ∃ (a b : Int) (A : Option Addr) (n c : Nat), e = .returned (.tuple #[.agg #[.int .i64 a, .int .i64 b, .slice A n c], .bool false]) ∧ Keeps [] w w'
set_option maxRecDepth 100000 in
set_option maxHeartbeats 1000000 in
theorem vread_any (v : Value) (l : List UInt8) (m : Int) (w : World) (h : Bs w [] v l) (hl : l.length ≤ 65536) (hm : w.cell? ⟨0, 0, none⟩ = some (.int .i64 m)) :
  Calls Tryz.prog 64 #[v] w fun e w' => VrPost (readV l) w e w' := by
 have hw0 : 0 < w.heap.size := by
  have := World.block_lt_of_cell? w _ hm
  simpa using this
 have hkeepm : Hid (∀ W, Keeps [] w W → W.cell? ⟨0, 0, none⟩ = some (.int .i64 m)) := fun W hb => (hb.cell (p := ⟨0, 0, none⟩) hw0 (by simp)).trans hm
 have HR : Hid (readV l = match mgetS (intS (intS l false).2.1 (intS l false).2.2).2.1 (intS (intS l false).2.1 (intS l false).2.2).2.2 with
 | (none, _) => none
 | (some es, l', bad) => if bad = false ∧ l'.isEmpty = true then some ⟨(intS l false).1, (intS (intS l false).2.1 (intS l false).2.2).1, es⟩ else none) := rfl
 have h1 := intS_lt l false
 have l1 := intS_len l false
 have hnew := Lib.hid (fun W (hk : Keeps [] w W) => new_any [] v l W (h.keep hk (by simp)) (by omega))
 have hi1 := Lib.hid (fun W p (hr : RdAt W [] p l false) => rint_any [] p l false W hr)
 obtain ⟨A, c, rfl, hc⟩ := h.len
 clear h hm
 generalize intS l false = r1 at *
 obtain ⟨t, l1', b1⟩ := r1
 simp only [] at h1 l1 HR hi1
 have h2 := intS_lt l1' b1
 have l2 := intS_len l1' b1
 have hi2 := Lib.hid (fun W p (hr : RdAt W [] p l1' b1) => rint_any [] p l1' b1 W hr)
 generalize intS l1' b1 = r2 at *
 obtain ⟨hd, l2', b2⟩ := r2
 simp only [] at h2 l2 HR hi2
 have hg := Lib.hid (fun W M p (hr : RdAt W M p l2' b2) (hp : p ≠ 0) (hmW : W.cell? ⟨0, 0, none⟩ = some (.int .i64 m)) => mget_any M p l2' b2 m W hr (by omega) hmW hp)
 generalize mgetS l2' b2 = r3 at *
 go_enter Tryz.func64, Tryz.ntmps64
 go_wp2_with fail
 obtain ⟨w0, hw0e⟩ : ∃ w0, w0 = w.alloc (.cells #[.int .i64 0, .int .i64 0, .slice none 0 0] 113) := ⟨_, rfl⟩
 have hk0 : Keeps [] w w0 := by rw [hw0e]; exact (Keeps.refl _ _).alloc _
 have hZ0 : Blk w0 w.heap.size 113 #[.int .i64 0, .int .i64 0, .slice none 0 0] := by rw [hw0e]; exact Blk.new w _ _
 have hlt0 := hZ0.lt
 rw [← hw0e]
 clear hw0e
 refine (hnew.out w0 hk0).mono ?_
 rintro e w1 ⟨rfl, hA1, hb1⟩
 have hk1 : Keeps [] w w1 := hk0.trans (Keeps.of_below (M := []) hb1) (by simp)
 have hZ1 := hZ0.below hb1 hlt0
 have hpl := hA1.lt
 obtain ⟨g0, Hg0⟩ : ∃ g0, Hid (w.heap.size = g0) := ⟨_, rfl⟩
 rw [Hg0.out] at hZ1 hlt0 ⊢
 generalize w0.heap.size = p at *
 have HA1 := Lib.hid hA1; have Hk1 := Lib.hid hk1; have HZ1 := Lib.hid hZ1
 clear hk0 hZ0 hA1 hk1 hZ1 hb1 hnew
 go_wp2_with fail
 refine (hi1.out w1 p HA1.out).mono ?_
 rintro e w2 ⟨rfl, hA2, hk2⟩
 have HA2 := Lib.hid hA2; have Hk2 : Hid (Keeps [p] w w2) := (Hk1.out.mono (M' := [p]) (by simp)).trans hk2 (fun g hg => .inl hg)
 have HZ2 := Lib.hid (hk2.blk HZ1.out (by simp; omega))
 clear hA2 hk2 Hk1 HA1 HZ1
 go_wp2_with fail
 refine (hi2.out w2 p HA2.out).mono ?_
 rintro e w3 ⟨rfl, hA3, hk3⟩
 have hZ3 := hk3.blk HZ2.out (by simp; omega)
 have hpl3 := hA3.lt; have hgl3 := hZ3.lt
 obtain ⟨w4, hw4⟩ : ∃ w4, w4 = w3.alloc (.cells #[.int .i64 t, .int .i64 hd, .slice none 0 0] 113) := ⟨_, rfl⟩
 have hk34 : Keeps [] w3 w4 := by rw [hw4]; exact (Keeps.refl _ _).alloc _
 have HB4 : Hid (Blk w4 w3.heap.size 113 #[.int .i64 t, .int .i64 hd, .slice none 0 0]) := by show Blk _ _ _ _; rw [hw4]; exact Blk.new w3 _ _
 have HZ4 := Lib.hid (hk34.blk hZ3 (by simp))
 have HA4 := Lib.hid ((hA3.avoid (M' := [w3.heap.size]) (fun g hg => .inr (by simp at hg; omega))).keep hk34 (by simp) (by simp))
 have Hk4 : Hid (Keeps [p] w w4) := (Hk2.out.trans hk3 (fun g hg => .inl hg)).trans hk34 (by simp)
 have hs34 : g0 ≤ w3.heap.size := by
  rw [← Hg0.out]; exact (Hk2.out.trans hk3 (fun g hg => .inl hg)).size
 clear hA3 hk3 HA2 Hk2 HZ2 hZ3 hk34
 go_wp2_with fail
 rw [← hw4]
 clear hw4
 obtain ⟨g5, Hg5⟩ : ∃ g5, Hid (w3.heap.size = g5) := ⟨_, rfl⟩
 rw [Hg5.out] at HA4 HB4 hpl3 hgl3 hs34 ⊢
 refine (hg.out w4 [g5] p HA4.out (by omega) ((Hk4.out.cell (p := ⟨0, 0, none⟩) hw0 (by simp; omega)).trans (hkeepm.out w (Keeps.refl _ _)))).mono ?_
 intro e w5 hpost
 obtain ⟨r31, r32⟩ := r3
 cases r31 with
 | none =>
  simp only [MGetPost] at hpost
  obtain ⟨rfl, hk5⟩ := hpost
  have hB5 := hk5.blk HB4.out (by simp; omega)
  have hZ5 := hk5.blk HZ4.out (by simp; omega)
  obtain ⟨w6, hw6⟩ : ∃ w6, w6 = w5.setCell ⟨g5, 2, none⟩ (.slice none 0 0) := ⟨_, rfl⟩
  have hB6 : Blk w6 g5 113 #[.int .i64 t, .int .i64 hd, .slice none 0 0] := by rw [hw6]; simpa using hB5.set_ 2 (.slice none 0 0)
  have hk6 : Keeps [g5] w5 w6 := by rw [hw6]; exact (Keeps.refl _ _).setCell (by simp) _
  have hZ6 : Blk w6 g0 113 #[.int .i64 0, .int .i64 0, .slice none 0 0] := hk6.blk hZ5 (by simp; omega)
  have HB6 := Lib.hid hB6; have HZ6 := Lib.hid hZ6
  have hK6 : Hid (Keeps [p, g5] w4 w6) := (hk5.mono (M' := [p, g5]) (fun g hg => .inl (by simp at hg; simp [hg]))).trans hk6 (fun g hg => .inl (by simp at hg; simp [hg]))
  have HC : Hid (∀ W, Keeps [g0] w6 W → (fun W => W.cell? ⟨g5, 0, none⟩ = some (.int .i64 t) ∧ W.cell? ⟨g5, 1, none⟩ = some (.int .i64 hd) ∧ W.cell? ⟨g5, 2, none⟩ = some (.slice none 0 0)) W) := fun W hk => by
   have hb := hk.blk HB6.out (by simp; omega)
   exact ⟨hb.cell 0, hb.cell 1, hb.cell 2⟩
  have z0 := hZ6.cell 0; have z1 := hZ6.cell 1; have z2 := hZ6.cell 2; have f0 := hZ6.frozen 0; have f1 := hZ6.frozen 1; have f2 := hZ6.frozen 2
  simp only [List.getElem?_toArray, List.getElem?_cons_succ, List.getElem?_cons_zero] at z0 z1 z2
  have hgl : g0 < w6.heap.size := hZ6.lt
  have c52 : w5.cell? ⟨g5, 2, none⟩ = some (.slice none 0 0) := hB5.cell 2
  have f52 := hB5.frozen 2
  clear hB6 hk6 hZ6
  go_wp2_with fail
  rw [← hw6]
  clear hw6 c52 f52
  obtain ⟨b0, b1, b2⟩ := HC.out w6 (Keeps.refl _ _)
  have hk9 : Hid (Keeps [] w ((((w6.setCell ⟨g0, 0, none⟩ (.int .i64 t)).setCell ⟨g0, 1, none⟩ (.int .i64 hd)).setCell ⟨g0, 2, none⟩ (.slice none 0 0)).drew)) := by
   have hk9 : Keeps [p, g5, g0] w w6 := (Hk4.out.mono (M' := [p, g5, g0]) (fun g hg => .inl (by simp at hg; simp [hg]))).trans hK6.out (fun g hg => .inl (by simp at hg ⊢; omega))
   exact (((hk9.setCell (by simp) _).setCell (by simp) _).setCell (by simp) _).drew.mono (M' := []) (fun g hg => .inr (by rw [Hg0.out]; simp at hg; omega))
  have HR2 : Hid (readV l = none) := HR.out
  have hP : Hid (VrPost (readV l) w (.returned (.tuple #[.agg #[.int .i64 t, .int .i64 hd, .slice none 0 0], .bool false])) (((w6.setCell ⟨g0, 0, none⟩ (.int .i64 t)).setCell ⟨g0, 1, none⟩ (.int .i64 hd)).setCell ⟨g0, 2, none⟩ (.slice none 0 0)).drew) := by
   show VrPost _ _ _ _
   rw [HR2.out]
   exact ⟨t, hd, none, 0, 0, rfl, hk9.out⟩
  refine wp_region_held_drew (S := (fun W => W.cell? ⟨g5, 0, none⟩ = some (.int .i64 t) ∧ W.cell? ⟨g5, 1, none⟩ = some (.int .i64 hd) ∧ W.cell? ⟨g5, 2, none⟩ = some (.slice none 0 0))) (by kernel_rfl) (HC.out _ (Keeps.refl _ _).drew) (fun hHeld => ?_)
  refine wT 0 (v := ?v0u1) (by kernel_rfl) rfl (by rfl) ?y0u1 (fun _ _ _ h => h) (by assumption) ?r0u1
  case y0u1 => (intro w hSw; (try dsimp only at hSw); go_simp <;> with_reducible rfl)
  try simp only [sgl, Act.put]
  refine wT 1 (v := ?v1u2) (by kernel_rfl) rfl (by rfl) ?y1u2 (fun _ _ _ h => h) (by assumption) ?r1u2
  case y1u2 => (intro w hSw; (try dsimp only at hSw); go_simp <;> with_reducible rfl)
  try simp only [sgl, Act.put]
  refine wT 2 (v := ?v2u3) (by kernel_rfl) rfl (by rfl) ?y2u3 (fun _ _ _ h => h) (by assumption) ?r2u3
  case y2u3 => (intro w hSw; (try dsimp only at hSw); go_simp <;> with_reducible rfl)
  try simp only [sgl, Act.put]
  refine wS 3 (by kernel_rfl) rfl (by rfl) (fun _ _ _ h => h) (by assumption) ?_
  try simp only [sgl, Act.put]
  refine wS 4 (by kernel_rfl) rfl (by rfl) (fun _ _ _ h => h) (by assumption) ?_
  try simp only [sgl, Act.put]
  refine wT 5 (v := ?v5u4) (by kernel_rfl) rfl (by rfl) ?y5u4 (fun _ _ _ h => h) (by assumption) ?r5u4
  case y5u4 => (intro w hSw; (try dsimp only at hSw); go_simp <;> with_reducible rfl)
  try simp only [sgl, Act.put]
  refine wpAnyH_ready (rs := [6]) (by kernel_rfl) (by simp) ?_
  refine AllReadyH.cons (o := _) rfl (fun K hK => ?_) AllReadyH.nil
  go_simp
  refine hK.out _ _ (HC.out _ ((((Keeps.refl _ _).drew.setCell (by simp) _).setCell (by simp) _).setCell (by simp) _)) (fun hHeld2 => ?_)
  clear hK K hHeld
  have hHeld := hHeld2
  clear hHeld2
  try simp only [sgl, Act.put]
  refine wT 7 (v := ?v7u5) (by kernel_rfl) rfl (by rfl) ?y7u5 (fun _ _ _ h => h) (by assumption) ?r7u5
  case y7u5 => (intro w hSw; (try dsimp only at hSw); go_simp <;> with_reducible rfl)
  try simp only [sgl, Act.put]
  refine wpAnyH_done (by kernel_rfl) ?_ _
  have hZ9 : Blk (((w6.setCell ⟨g0, 0, none⟩ (.int .i64 t)).setCell ⟨g0, 1, none⟩ (.int .i64 hd)).setCell ⟨g0, 2, none⟩ (.slice none 0 0)).drew g0 113 #[.int .i64 t, .int .i64 hd, .slice none 0 0] := by
   have := ((HZ6.out.set_ 0 (.int .i64 t)).set_ 1 (.int .i64 hd)).set_ 2 (.slice none 0 0)
   simp at this
   exact this
  go_wp2_with fail
  refine bodyPost_ret (results_cell2 rfl _ _ g0 113 #[.int .i64 t, .int .i64 hd, .slice none 0 0] _ rfl hZ9 Tryz.underlying113 rfl (by kernel_rfl)) rfl ?_
  exact hP.out
 | some es =>
  obtain ⟨l3, b3⟩ := r32
  simp only [MGetPost] at hpost
  obtain ⟨lv, rfl, hE, hA5, hk5⟩ := hpost
  obtain ⟨Al, cl, rfl, _⟩ := (hE [] (by simp)).len
  have hB5 := hk5.blk HB4.out (by simp; omega)
  have hZ5 := hk5.blk HZ4.out (by simp; omega)
  have hsz45 : g0 < w4.heap.size := by have := HZ4.out.lt; omega
  have HE := Lib.hid hE
  have h54 : g5 < w4.heap.size := HB4.out.lt
  obtain ⟨w6, hw6⟩ : ∃ w6, w6 = w5.setCell ⟨g5, 2, none⟩ (.slice Al es.length cl) := ⟨_, rfl⟩
  have hB6 : Blk w6 g5 113 #[.int .i64 t, .int .i64 hd, .slice Al es.length cl] := by rw [hw6]; simpa using hB5.set_ 2 (.slice Al es.length cl)
  have hk6 : Keeps [g5] w5 w6 := by rw [hw6]; exact (Keeps.refl _ _).setCell (by simp) _
  have hZ6 : Blk w6 g0 113 #[.int .i64 0, .int .i64 0, .slice none 0 0] := hk6.blk hZ5 (by simp; omega)
  have HB6 := Lib.hid hB6; have HZ6 := Lib.hid hZ6
  have hK6 : Hid (Keeps [p, g5] w4 w6) := (hk5.mono (M' := [p, g5]) (fun g hg => .inl (by simp at hg; simp [hg]))).trans hk6 (fun g hg => .inl (by simp at hg; simp [hg]))
  have HC : Hid (∀ W, Keeps [g0] w6 W → (fun W => W.cell? ⟨g5, 0, none⟩ = some (.int .i64 t) ∧ W.cell? ⟨g5, 1, none⟩ = some (.int .i64 hd) ∧ W.cell? ⟨g5, 2, none⟩ = some (.slice Al es.length cl)) W) := fun W hk => by
   have hb := hk.blk HB6.out (by simp; omega)
   exact ⟨hb.cell 0, hb.cell 1, hb.cell 2⟩
  have z0 := hZ6.cell 0; have z1 := hZ6.cell 1; have z2 := hZ6.cell 2; have f0 := hZ6.frozen 0; have f1 := hZ6.frozen 1; have f2 := hZ6.frozen 2
  simp only [List.getElem?_toArray, List.getElem?_cons_succ, List.getElem?_cons_zero] at z0 z1 z2
  have hgl : g0 < w6.heap.size := hZ6.lt
  have c52 : w5.cell? ⟨g5, 2, none⟩ = some (.slice none 0 0) := hB5.cell 2
  have f52 := hB5.frozen 2
  have HK56e := Lib.hid hk6
  have HA6 := Lib.hid (hA5.keep hk6 (fun g hg => .inl hg) (by simp; omega))
  clear hB6 hk6 hZ6
  go_wp2_with fail
  rw [← hw6]
  clear hw6 c52 f52
  obtain ⟨b0, b1, b2⟩ := HC.out w6 (Keeps.refl _ _)
  have hk9 : Hid (Keeps [] w ((((w6.setCell ⟨g0, 0, none⟩ (.int .i64 t)).setCell ⟨g0, 1, none⟩ (.int .i64 hd)).setCell ⟨g0, 2, none⟩ (.slice Al es.length cl)).drew)) := by
   have hk9 : Keeps [p, g5, g0] w w6 := (Hk4.out.mono (M' := [p, g5, g0]) (fun g hg => .inl (by simp at hg; simp [hg]))).trans hK6.out (fun g hg => .inl (by simp at hg ⊢; omega))
   exact (((hk9.setCell (by simp) _).setCell (by simp) _).setCell (by simp) _).drew.mono (M' := []) (fun g hg => .inr (by rw [Hg0.out]; simp at hg; omega))
  have HK56 : Hid (Keeps [g5, g0] w5 w6) := HK56e.out.mono (fun g hg => .inl (by simp at hg; simp [hg]))
  have hEns : Hid (∀ M, (∀ g ∈ M, g < w.heap.size) → Ens (((w6.setCell ⟨g0, 0, none⟩ (.int .i64 t)).setCell ⟨g0, 1, none⟩ (.int .i64 hd)).setCell ⟨g0, 2, none⟩ (.slice Al es.length cl)).drew M (.slice Al es.length cl) es) := fun M hM => by
   rw [Hg0.out] at hM
   have h1 := HE.out (p :: g5 :: g0 :: M) (fun g hg => by
    simp only [List.mem_cons] at hg
    rcases hg with h | h | h | h
    ·omega
    ·omega
    ·omega
    ·have := hM g h; omega)
   have hk59 : Keeps [g5, g0] w5 ((((w6.setCell ⟨g0, 0, none⟩ (.int .i64 t)).setCell ⟨g0, 1, none⟩ (.int .i64 hd)).setCell ⟨g0, 2, none⟩ (.slice Al es.length cl)).drew) := (((HK56.out.setCell (by simp) _).setCell (by simp) _).setCell (by simp) _).drew
   exact (h1.keep hk59 (fun g hg => .inl (by simp at hg ⊢; omega))).avoid (fun g hg => .inl (by simp [hg]))
  cases b3 with
  | true =>
   have HR2 : Hid (readV l = none) := by show _ = _; rw [HR.out]; simp
   have hP : Hid (VrPost (readV l) w (.returned (.tuple #[.agg #[.int .i64 t, .int .i64 hd, .slice Al es.length cl], .bool false])) (((w6.setCell ⟨g0, 0, none⟩ (.int .i64 t)).setCell ⟨g0, 1, none⟩ (.int .i64 hd)).setCell ⟨g0, 2, none⟩ (.slice Al es.length cl)).drew) := by
    show VrPost _ _ _ _
    rw [HR2.out]
    exact ⟨t, hd, _, _, _, rfl, hk9.out⟩
   refine wp_region_held_drew (S := (fun W => W.cell? ⟨g5, 0, none⟩ = some (.int .i64 t) ∧ W.cell? ⟨g5, 1, none⟩ = some (.int .i64 hd) ∧ W.cell? ⟨g5, 2, none⟩ = some (.slice Al es.length cl))) (by kernel_rfl) (HC.out _ (Keeps.refl _ _).drew) (fun hHeld => ?_)
   refine wT 0 (v := ?v0u6) (by kernel_rfl) rfl (by rfl) ?y0u6 (fun _ _ _ h => h) (by assumption) ?r0u6
   case y0u6 => (intro w hSw; (try dsimp only at hSw); go_simp <;> with_reducible rfl)
   try simp only [sgl, Act.put]
   refine wT 1 (v := ?v1u7) (by kernel_rfl) rfl (by rfl) ?y1u7 (fun _ _ _ h => h) (by assumption) ?r1u7
   case y1u7 => (intro w hSw; (try dsimp only at hSw); go_simp <;> with_reducible rfl)
   try simp only [sgl, Act.put]
   refine wT 2 (v := ?v2u8) (by kernel_rfl) rfl (by rfl) ?y2u8 (fun _ _ _ h => h) (by assumption) ?r2u8
   case y2u8 => (intro w hSw; (try dsimp only at hSw); go_simp <;> with_reducible rfl)
   try simp only [sgl, Act.put]
   refine wS 3 (by kernel_rfl) rfl (by rfl) (fun _ _ _ h => h) (by assumption) ?_
   try simp only [sgl, Act.put]
   refine wS 4 (by kernel_rfl) rfl (by rfl) (fun _ _ _ h => h) (by assumption) ?_
   try simp only [sgl, Act.put]
   refine wT 5 (v := ?v5u9) (by kernel_rfl) rfl (by rfl) ?y5u9 (fun _ _ _ h => h) (by assumption) ?r5u9
   case y5u9 => (intro w hSw; (try dsimp only at hSw); go_simp <;> with_reducible rfl)
   try simp only [sgl, Act.put]
   refine wpAnyH_ready (rs := [6]) (by kernel_rfl) (by simp) ?_
   refine AllReadyH.cons (o := _) rfl (fun K hK => ?_) AllReadyH.nil
   go_simp
   refine hK.out _ _ (HC.out _ ((((Keeps.refl _ _).drew.setCell (by simp) _).setCell (by simp) _).setCell (by simp) _)) (fun hHeld2 => ?_)
   clear hK K hHeld
   have hHeld := hHeld2
   clear hHeld2
   try simp only [sgl, Act.put]
   refine wT 7 (v := ?v7u10) (by kernel_rfl) rfl (by rfl) ?y7u10 (fun _ _ _ h => h) (by assumption) ?r7u10
   case y7u10 => (intro w hSw; (try dsimp only at hSw); go_simp <;> with_reducible rfl)
   try simp only [sgl, Act.put]
   refine wpAnyH_done (by kernel_rfl) ?_ _
   have hZ9 : Blk (((w6.setCell ⟨g0, 0, none⟩ (.int .i64 t)).setCell ⟨g0, 1, none⟩ (.int .i64 hd)).setCell ⟨g0, 2, none⟩ (.slice Al es.length cl)).drew g0 113 #[.int .i64 t, .int .i64 hd, .slice Al es.length cl] := by
    have := ((HZ6.out.set_ 0 (.int .i64 t)).set_ 1 (.int .i64 hd)).set_ 2 (.slice Al es.length cl)
    simp at this
    exact this
   go_wp2_with fail
   refine bodyPost_ret (results_cell2 rfl _ _ g0 113 #[.int .i64 t, .int .i64 hd, .slice Al es.length cl] _ rfl hZ9 Tryz.underlying113 rfl (by kernel_rfl)) rfl ?_
   exact hP.out
  | false =>
   have HDn : Hid (∀ W, Keeps [] w6 W → Calls Tryz.prog 109 #[.pointer (some ⟨p, 0, none⟩)] W fun e w' => e = .returned (.bool (l3.isEmpty)) ∧ W = w') := fun W hk => by
    have := done_any [] p l3 false W ((HA6.out.avoid (M' := []) (by simp)).keep hk (by simp) (by simp))
    simpa using this
   cases hem : l3.isEmpty with
   | false =>
    rw [hem] at HDn
    have HR2 : Hid (readV l = none) := by show _ = _; rw [HR.out]; simp [hem]
    have hP : Hid (VrPost (readV l) w (.returned (.tuple #[.agg #[.int .i64 t, .int .i64 hd, .slice Al es.length cl], .bool false])) (((w6.setCell ⟨g0, 0, none⟩ (.int .i64 t)).setCell ⟨g0, 1, none⟩ (.int .i64 hd)).setCell ⟨g0, 2, none⟩ (.slice Al es.length cl)).drew) := by
     show VrPost _ _ _ _
     rw [HR2.out]
     exact ⟨t, hd, _, _, _, rfl, hk9.out⟩
    refine wp_region_held_drew (S := (fun W => W.cell? ⟨g5, 0, none⟩ = some (.int .i64 t) ∧ W.cell? ⟨g5, 1, none⟩ = some (.int .i64 hd) ∧ W.cell? ⟨g5, 2, none⟩ = some (.slice Al es.length cl))) (by kernel_rfl) (HC.out _ (Keeps.refl _ _).drew) (fun hHeld => ?_)
    refine wT 0 (v := ?v0u11) (by kernel_rfl) rfl (by rfl) ?y0u11 (fun _ _ _ h => h) (by assumption) ?r0u11
    case y0u11 => (intro w hSw; (try dsimp only at hSw); go_simp <;> with_reducible rfl)
    try simp only [sgl, Act.put]
    refine wT 1 (v := ?v1u12) (by kernel_rfl) rfl (by rfl) ?y1u12 (fun _ _ _ h => h) (by assumption) ?r1u12
    case y1u12 => (intro w hSw; (try dsimp only at hSw); go_simp <;> with_reducible rfl)
    try simp only [sgl, Act.put]
    refine wT 2 (v := ?v2u13) (by kernel_rfl) rfl (by rfl) ?y2u13 (fun _ _ _ h => h) (by assumption) ?r2u13
    case y2u13 => (intro w hSw; (try dsimp only at hSw); go_simp <;> with_reducible rfl)
    try simp only [sgl, Act.put]
    refine wT 3 (v := ?v3u14) (by kernel_rfl) rfl (by rfl) ?y3u14 (fun _ _ _ h => h) (by assumption) ?r3u14
    case y3u14 => (intro w hSw; (try dsimp only at hSw); go_simp <;> with_reducible rfl)
    try simp only [sgl, Act.put]
    refine wpAnyH_ready (rs := [4]) (by kernel_rfl) (by simp) ?_
    refine AllReadyH.cons (o := _) rfl (fun K hK => ?_) AllReadyH.nil
    go_simp
    refine (HDn.out _ (Keeps.refl _ _).drew).mono ?_
    rintro e w7 ⟨rfl, rfl⟩
    refine hK.out _ _ (HC.out _ (Keeps.refl _ _).drew) (fun hHeld2 => ?_)
    clear hK K hHeld
    have hHeld := hHeld2
    clear hHeld2
    try simp only [sgl, Act.put]
    refine wT 5 (v := ?v5u15) (by kernel_rfl) rfl (by rfl) ?y5u15 (fun _ _ _ h => h) (by assumption) ?r5u15
    case y5u15 => (intro w hSw; (try dsimp only at hSw); go_simp <;> with_reducible rfl)
    try simp only [sgl, Act.put]
    refine wpAnyH_ready (rs := [6]) (by kernel_rfl) (by simp) ?_
    refine AllReadyH.cons (o := _) rfl (fun K hK => ?_) AllReadyH.nil
    go_simp
    refine hK.out _ _ (HC.out _ ((((Keeps.refl _ _).drew.setCell (by simp) _).setCell (by simp) _).setCell (by simp) _)) (fun hHeld2 => ?_)
    clear hK K hHeld
    have hHeld := hHeld2
    clear hHeld2
    try simp only [sgl, Act.put]
    refine wT 7 (v := ?v7u16) (by kernel_rfl) rfl (by rfl) ?y7u16 (fun _ _ _ h => h) (by assumption) ?r7u16
    case y7u16 => (intro w hSw; (try dsimp only at hSw); go_simp <;> with_reducible rfl)
    try simp only [sgl, Act.put]
    refine wpAnyH_done (by kernel_rfl) ?_ _
    have hZ9 : Blk (((w6.setCell ⟨g0, 0, none⟩ (.int .i64 t)).setCell ⟨g0, 1, none⟩ (.int .i64 hd)).setCell ⟨g0, 2, none⟩ (.slice Al es.length cl)).drew g0 113 #[.int .i64 t, .int .i64 hd, .slice Al es.length cl] := by
     have := ((HZ6.out.set_ 0 (.int .i64 t)).set_ 1 (.int .i64 hd)).set_ 2 (.slice Al es.length cl)
     simp at this
     exact this
    go_wp2_with fail
    refine bodyPost_ret (results_cell2 rfl _ _ g0 113 #[.int .i64 t, .int .i64 hd, .slice Al es.length cl] _ rfl hZ9 Tryz.underlying113 rfl (by kernel_rfl)) rfl ?_
    exact hP.out
   | true =>
    rw [hem] at HDn
    have HR2 : Hid (readV l = some ⟨t, hd, es⟩) := by show _ = _; rw [HR.out]; simp [hem]
    have hP : Hid (VrPost (readV l) w (.returned (.tuple #[.agg #[.int .i64 t, .int .i64 hd, .slice Al es.length cl], .bool true])) (((w6.setCell ⟨g0, 0, none⟩ (.int .i64 t)).setCell ⟨g0, 1, none⟩ (.int .i64 hd)).setCell ⟨g0, 2, none⟩ (.slice Al es.length cl)).drew) := by
     show VrPost _ _ _ _
     rw [HR2.out]
     exact ⟨_, rfl, hEns.out, hk9.out⟩
    refine wp_region_held_drew (S := (fun W => W.cell? ⟨g5, 0, none⟩ = some (.int .i64 t) ∧ W.cell? ⟨g5, 1, none⟩ = some (.int .i64 hd) ∧ W.cell? ⟨g5, 2, none⟩ = some (.slice Al es.length cl))) (by kernel_rfl) (HC.out _ (Keeps.refl _ _).drew) (fun hHeld => ?_)
    refine wT 0 (v := ?v0u17) (by kernel_rfl) rfl (by rfl) ?y0u17 (fun _ _ _ h => h) (by assumption) ?r0u17
    case y0u17 => (intro w hSw; (try dsimp only at hSw); go_simp <;> with_reducible rfl)
    try simp only [sgl, Act.put]
    refine wT 1 (v := ?v1u18) (by kernel_rfl) rfl (by rfl) ?y1u18 (fun _ _ _ h => h) (by assumption) ?r1u18
    case y1u18 => (intro w hSw; (try dsimp only at hSw); go_simp <;> with_reducible rfl)
    try simp only [sgl, Act.put]
    refine wT 2 (v := ?v2u19) (by kernel_rfl) rfl (by rfl) ?y2u19 (fun _ _ _ h => h) (by assumption) ?r2u19
    case y2u19 => (intro w hSw; (try dsimp only at hSw); go_simp <;> with_reducible rfl)
    try simp only [sgl, Act.put]
    refine wT 3 (v := ?v3u20) (by kernel_rfl) rfl (by rfl) ?y3u20 (fun _ _ _ h => h) (by assumption) ?r3u20
    case y3u20 => (intro w hSw; (try dsimp only at hSw); go_simp <;> with_reducible rfl)
    try simp only [sgl, Act.put]
    refine wpAnyH_ready (rs := [4]) (by kernel_rfl) (by simp) ?_
    refine AllReadyH.cons (o := _) rfl (fun K hK => ?_) AllReadyH.nil
    go_simp
    refine (HDn.out _ (Keeps.refl _ _).drew).mono ?_
    rintro e w7 ⟨rfl, rfl⟩
    refine hK.out _ _ (HC.out _ (Keeps.refl _ _).drew) (fun hHeld2 => ?_)
    clear hK K hHeld
    have hHeld := hHeld2
    clear hHeld2
    try simp only [sgl, Act.put]
    refine wT 5 (v := ?v5u21) (by kernel_rfl) rfl (by rfl) ?y5u21 (fun _ _ _ h => h) (by assumption) ?r5u21
    case y5u21 => (intro w hSw; (try dsimp only at hSw); go_simp <;> with_reducible rfl)
    try simp only [sgl, Act.put]
    refine wpAnyH_ready (rs := [6]) (by kernel_rfl) (by simp) ?_
    refine AllReadyH.cons (o := _) rfl (fun K hK => ?_) AllReadyH.nil
    go_simp
    refine hK.out _ _ (HC.out _ ((((Keeps.refl _ _).drew.setCell (by simp) _).setCell (by simp) _).setCell (by simp) _)) (fun hHeld2 => ?_)
    clear hK K hHeld
    have hHeld := hHeld2
    clear hHeld2
    try simp only [sgl, Act.put]
    refine wT 7 (v := ?v7u22) (by kernel_rfl) rfl (by rfl) ?y7u22 (fun _ _ _ h => h) (by assumption) ?r7u22
    case y7u22 => (intro w hSw; (try dsimp only at hSw); go_simp <;> with_reducible rfl)
    try simp only [sgl, Act.put]
    refine wpAnyH_done (by kernel_rfl) ?_ _
    have hZ9 : Blk (((w6.setCell ⟨g0, 0, none⟩ (.int .i64 t)).setCell ⟨g0, 1, none⟩ (.int .i64 hd)).setCell ⟨g0, 2, none⟩ (.slice Al es.length cl)).drew g0 113 #[.int .i64 t, .int .i64 hd, .slice Al es.length cl] := by
     have := ((HZ6.out.set_ 0 (.int .i64 t)).set_ 1 (.int .i64 hd)).set_ 2 (.slice Al es.length cl)
     simp at this
     exact this
    go_wp2_with fail
    refine bodyPost_ret (results_cell2 rfl _ _ g0 113 #[.int .i64 t, .int .i64 hd, .slice Al es.length cl] _ rfl hZ9 Tryz.underlying113 rfl (by kernel_rfl)) rfl ?_
    exact hP.out
/-- A replica's word lies in block s, its log in p, its disk in d. -/
def StAt (w : World) (s p : Nat) (Y : List Nat) (x : WordD) (d : Nat) (b : List UInt8) (k n : Nat) : Prop :=
 ∃ lv, Blk w s 115 #[.int .i64 x.t, .int .i64 x.h, lv, .pointer (some ⟨p, 0, none⟩)] ∧ Ens w (s :: p :: Y) lv x.log ∧ LgAt w p Y d b k n ∧ s ∉ p :: Y ∧ WOk x
theorem LgAt.old {w : World} {p : Nat} {Y : List Nat} {d k n : Nat} {b : List UInt8} (h : LgAt w p Y d b k n) : ∀ g ∈ p :: Y, g < w.heap.size := fun g hg => by
 rcases List.mem_cons.1 hg with rfl | hg
 ·exact h.1.lt
 ·exact h.2.1.old g hg
section
variable {w w' : World} {s p : Nat} {Y : List Nat} {x : WordD} {d k n : Nat} {b : List UInt8}
theorem StAt.old (h : StAt w s p Y x d b k n) : ∀ g ∈ s :: p :: Y, g < w.heap.size := fun g hg => by
 obtain ⟨lv, hb, _, hl, _⟩ := h
 rcases List.mem_cons.1 hg with rfl | hg
 ·exact hb.lt
 ·exact hl.old g hg
theorem StAt.ok (h : StAt w s p Y x d b k n) : WOk x := by obtain ⟨_, _, _, _, _, h⟩ := h; exact h
theorem StAt.keep {M : List Nat} (h : StAt w s p Y x d b k n) (hk : Keeps M w w') (hM : ∀ g ∈ M, w.heap.size ≤ g) : StAt w' s p Y x d b k n := by
 have ho := h.old
 obtain ⟨lv, hb, he, hl, hs, ho'⟩ := h
 exact ⟨lv, hk.blk hb (fun hm => by have := hM s hm; have := ho s (by simp); omega), he.keep hk (fun g hg => .inr (hM g hg)), hl.keep hk (fun g hg hm => by have := hM g hm; have := ho g (by simp at hg ⊢; exact .inr hg); omega), hs, ho'⟩
theorem StAt.keep0 (h : StAt w s p Y x d b k n) (hk : Keeps [] w w') : StAt w' s p Y x d b k n := h.keep hk (by simp)
theorem StAt.lv (h : StAt w s p Y x d b k n) : ∃ A c, Blk w s 115 #[.int .i64 x.t, .int .i64 x.h, .slice A x.log.length c, .pointer (some ⟨p, 0, none⟩)] ∧ Ens w (s :: p :: Y) (.slice A x.log.length c) x.log := by
 obtain ⟨lv, hb, he, _⟩ := h
 obtain ⟨A, c, rfl, _⟩ := he.len
 exact ⟨A, c, hb, he⟩
end
theorem blk4 {w : World} {g : Nat} {t : TypeId} {c0 c1 c2 c3 : Value} (h : Blk w g t #[c0, c1, c2, c3]) :
  w.cell? ⟨g, 0, none⟩ = some c0 ∧ w.cell? ⟨g, 1, none⟩ = some c1 ∧ w.cell? ⟨g, 2, none⟩ = some c2 ∧ w.cell? ⟨g, 3, none⟩ = some c3 ∧ g < w.heap.size := ⟨h.cell 0, h.cell 1, h.cell 2, h.cell 3, h.lt⟩
section
variable {s p : Nat} {Y : List Nat} {x : WordD} {d k n : Nat} {b : List UInt8}
theorem vterm_any (w : World) (h : StAt w s p Y x d b k n) :
  Calls Tryz.prog 29 #[.pointer (some ⟨s, 0, none⟩)] w fun e w' => e = .returned (.int .i64 x.t) ∧ w = w' := by
 obtain ⟨A, c, hb, _⟩ := h.lv
 obtain ⟨c0, c1, c2, c3, hlt⟩ := blk4 hb
 clear h hb
 go_enter Tryz.func29, Tryz.ntmps29
 go_wp2
 go_ret
 exact ⟨rfl, rfl⟩
theorem vhad_any (w : World) (h : StAt w s p Y x d b k n) :
  Calls Tryz.prog 34 #[.pointer (some ⟨s, 0, none⟩)] w fun e w' => e = .returned (.int .i64 x.h) ∧ w = w' := by
 obtain ⟨A, c, hb, _⟩ := h.lv
 obtain ⟨c0, c1, c2, c3, hlt⟩ := blk4 hb
 clear h hb
 go_enter Tryz.func34, Tryz.ntmps34
 go_wp2
 go_ret
 exact ⟨rfl, rfl⟩
/-- What a call answers that makes a row of entries. -/
def EnsPost (l : List EntryD) (w : World) (e : Ending) (w' : World) : Prop := ∃ A, e = .returned (.slice A l.length l.length) ∧ (∀ M, (∀ g ∈ M, g < w.heap.size) → Ens w' M (.slice A l.length l.length) l) ∧ Keeps [] w w'
theorem eok_ds8 {e : EntryD} (h : EOk e) : e.ds.length ≤ 8 := by
 obtain ⟨hr, _⟩ := h
 have hk := right_kind hr
 rcases (right_facts hr).2 with h | h
 ·have : e.ds = [] := by
   unfold kindS at hk
   simp [h] at hk
   first | exact hk.2 | exact hk.2.2 | exact hk
  rw [this]; simp
 ·exact h.2.2.2.2.2.2.2
theorem vlog_any (w : World) (h : StAt w s p Y x d b k n) :
  Calls Tryz.prog 35 #[.pointer (some ⟨s, 0, none⟩)] w fun e w' => EnsPost x.log w e w' := by
 have hok := h.ok
 obtain ⟨A, c, hb, he⟩ := h.lv
 obtain ⟨c0, c1, c2, c3, hlt⟩ := blk4 hb
 have hc := Lib.hid (copies_any _ _ x.log w he (by have := hok.2.2.1; omega) (fun e hm => by have := eok_ds8 (hok.2.2.2 e hm); omega))
 clear h hb he
 go_enter Tryz.func35, Tryz.ntmps35
 go_wp2_with fail
 refine hc.out.mono ?_
 rintro e w1 ⟨A1, rfl, hE, hb1⟩
 have hP : Hid (EnsPost x.log w (.returned (.slice A1 x.log.length x.log.length)) w1) := ⟨A1, rfl, hE, Keeps.of_below hb1⟩
 clear hE hb1
 go_wp2
 go_ret
 exact hP.out
end
def KpOk (y : WordD) (b : List UInt8) : Prop := (recL y).length ≤ 65536 ∧ b.length + (frameL (recL y)).length ≤ 1048576
instance (y : WordD) (b : List UInt8) : Decidable (KpOk y b) := inferInstanceAs (Decidable (_ ∧ _))
def KpPost (s p : Nat) (Y : List Nat) (y : WordD) (d : Nat) (b : List UInt8) (n : Nat) (w : World) (e : Ending) (w' : World) : Prop :=
 if KpOk y b then e = .returned (.bool true) ∧ ∃ Y', StAt w' s p Y' y d (b ++ frameL (recL y)) (b.length + (frameL (recL y)).length) (n + 1) ∧ Grows Y w Y' ∧ Keeps (s :: p :: Y) w w'
 else e = .returned (.bool false) ∧ Keeps [] w w'
/-- The word of a state is set anew. -/
theorem StAt.turn {w w' : World} {s p : Nat} {Y : List Nat} {x y : WordD} {d k n : Nat} {b : List UInt8} {lv : Value} (h : StAt w s p Y x d b k n) (hk : Keeps [] w w') (he : Ens w' (s :: p :: Y) lv y.log) (hy : WOk y) :
  StAt (((w'.setCell ⟨s, 0, none⟩ (.int .i64 y.t)).setCell ⟨s, 1, none⟩ (.int .i64 y.h)).setCell ⟨s, 2, none⟩ lv) s p Y y d b k n := by
 have h' := h.keep0 hk
 obtain ⟨l0, hb, _, hl, hs, _⟩ := h'
 have hks : Keeps [s] w' (((w'.setCell ⟨s, 0, none⟩ (.int .i64 y.t)).setCell ⟨s, 1, none⟩ (.int .i64 y.h)).setCell ⟨s, 2, none⟩ lv) := (((Keeps.refl _ _).setCell (by simp) _).setCell (by simp) _).setCell (by simp) _
 exact ⟨lv, by simpa using ((hb.set_ 0 (.int .i64 y.t)).set_ 1 (.int .i64 y.h)).set_ 2 lv, he.keep hks (fun g hg => by simp at hg; subst hg; exact .inl (by simp)), hl.keep hks (fun g hg hm => by simp at hm; subst hm; exact hs hg), hs, hy⟩
theorem lastV_succ (x : WordD) (rs : List (List UInt8)) (j : Nat) (hj : j < rs.length) : lastV x (rs.take (j + 1)) = (readV rs[j]).getD (lastV x (rs.take j)) := by
 unfold lastV
 rw [List.take_succ_eq_append_getElem hj, List.foldl_append]
 rfl
theorem KpPost.drew {s p : Nat} {Y : List Nat} {y : WordD} {d : Nat} {b : List UInt8} {n : Nat} {w w0 w' : World} {e : Ending} (h : KpPost s p Y y d b n w0 e w') (hk : Keeps [] w w0) : KpPost s p Y y d b n w e w' := by
 unfold KpPost at h ⊢
 split at h
 ·rename_i hc
  rw [if_pos hc]
  obtain ⟨he, Y', h1, h2, h3⟩ := h
  refine ⟨he, Y', h1, fun g hg => (h2 g hg).imp id (Nat.le_trans hk.size), (hk.mono (M' := s :: p :: Y) (by simp)).trans h3 (fun g hg => .inl hg)⟩
 ·rename_i hc
  rw [if_neg hc]
  exact ⟨h.1, hk.trans h.2 (by simp)⟩
theorem KpPost.val {s p : Nat} {Y : List Nat} {y : WordD} {d : Nat} {b : List UInt8} {n : Nat} {w w' : World} {e : Ending} (h : KpPost s p Y y d b n w e w') : e = .returned (.bool (decide (KpOk y b))) := by
 unfold KpPost at h
 split at h
 ·rename_i hc; rw [decide_eq_true hc]; exact h.1
 ·rename_i hc; rw [decide_eq_false hc]; exact h.1
def accLong (x : WordD) (t : Nat) (l : List EntryD) : Prop := x.h < t ∨ x.log.length < l.length
instance (x : WordD) (t : Nat) (l : List EntryD) : Decidable (accLong x t l) := inferInstanceAs (Decidable (_ ∨ _))
def accW (x : WordD) (t : Nat) (l : List EntryD) : WordD := if accLong x t l then ⟨t, t, l⟩ else ⟨t, x.h, x.log⟩
def AcOk (x : WordD) (term : Int) (l : List EntryD) : Prop := (x.t : Int) ≤ term ∧ 1 ≤ term ∧ l.length ≤ 128 ∧ ∀ e ∈ l, rightE e = 0
instance (x : WordD) (term : Int) (l : List EntryD) : Decidable (AcOk x term l) := inferInstanceAs (Decidable (_ ∧ _ ∧ _ ∧ _))
end Go.Proofs.YtdaceeijifjpeaaGreatDoor.Vi
end
section
namespace Go.Proofs.YtdaceeijifjpeaaGreatDoor.Lead
open Go.RowKit Base Mem
theorem right_any (n : Int) (w : World) : Calls Tryz.prog 66 #[.int .i64 n] w fun e w' => e = .returned (.bool (decide (1 ≤ n ∧ n ≤ 8))) ∧ w = w' := by
 by_cases h1 : 1 ≤ n
 ·by_cases h2 : n ≤ 8
  all_goals
   go_enter Tryz.func66, Tryz.ntmps66
   go_wp2
   go_ret
   exact ⟨ret_bool (by simp; omega), rfl⟩
 ·go_enter Tryz.func66, Tryz.ntmps66
  go_wp2
  go_ret
  exact ⟨ret_bool (by simp; omega), rfl⟩
structure VoteD where
 term : Int
 nodes : Int
 prom : List Bool
 acc : List Int
 had : Int
 best : List EntryD
 n : Int
def voteCells (s : VoteD) (bv : Value) : List Value := [.int .i64 s.term, .int .i64 s.nodes] ++ (s.prom.map Value.bool ++ (s.acc.map (Value.int .i64) ++ [.int .i64 s.had, bv, .int .i64 s.n]))
structure VoteAt (w : World) (M : List Nat) (b : Nat) (s : VoteD) : Prop where
 l1 : s.prom.length = 8
 l2 : s.acc.length = 8
 mem : ∃ bv, Blk w b 123 (voteCells s bv).toArray ∧ Ens w (b :: M) bv s.best
section
variable {w : World} {M : List Nat} {b : Nat} {s : VoteD}
theorem VoteAt.cells (h : VoteAt w M b s) : ∃ bv, Ens w (b :: M) bv s.best ∧ b < w.heap.size ∧ (∀ i, w.frozen? ⟨b, i, none⟩ = false) ∧ w.cell? ⟨b, 0, none⟩ = some (.int .i64 s.term) ∧ w.cell? ⟨b, 1, none⟩ = some (.int .i64 s.nodes) ∧
  (∀ i, i < 8 → w.cell? ⟨b, 2 + i, none⟩ = some (.bool (s.prom.getD i false))) ∧ (∀ i, i < 8 → w.cell? ⟨b, 10 + i, none⟩ = some (.int .i64 (s.acc.getD i 0))) ∧
  w.cell? ⟨b, 18, none⟩ = some (.int .i64 s.had) ∧ w.cell? ⟨b, 19, none⟩ = some bv ∧ w.cell? ⟨b, 20, none⟩ = some (.int .i64 s.n) := by
 obtain ⟨h1, h2, bv, hb, he⟩ := h
 obtain ⟨term, nodes, prom, acc, had, best, n⟩ := s
 match prom, h1, acc, h2 with
 | [p0, p1, p2, p3, p4, p5, p6, p7], _, [a0, a1, a2, a3, a4, a5, a6, a7], _ =>
  refine ⟨bv, he, hb.lt, hb.frozen, hb.cell 0, hb.cell 1, ?_, ?_, hb.cell 18, hb.cell 19, hb.cell 20⟩
  ·intro i hi
   rw [hb.cell]
   rcases (show i = 0 ∨ i = 1 ∨ i = 2 ∨ i = 3 ∨ i = 4 ∨ i = 5 ∨ i = 6 ∨ i = 7 by omega) with rfl | rfl | rfl | rfl | rfl | rfl | rfl | rfl <;> rfl
  ·intro i hi
   rw [hb.cell]
   rcases (show i = 0 ∨ i = 1 ∨ i = 2 ∨ i = 3 ∨ i = 4 ∨ i = 5 ∨ i = 6 ∨ i = 7 by omega) with rfl | rfl | rfl | rfl | rfl | rfl | rfl | rfl <;> rfl
end
section
variable {w : World} {M : List Nat} {b : Nat} {s : VoteD}
theorem keep_set (w : World) (b i : Nat) (u : Value) : Keeps [b] w (w.setCell ⟨b, i, none⟩ u) := (Keeps.refl _ _).setCell (by simp) u
theorem VoteAt.drewN (h : VoteAt w M b s) (n : Nat) : VoteAt (w.drewN n) M b s := by
 obtain ⟨h1, h2, bv, hb, he⟩ := h
 exact ⟨h1, h2, bv, hb, he.keep (M' := []) ((Keeps.refl _ _).drewN n) (by simp)⟩
theorem VoteAt.keep {M' : List Nat} {w' : World} (h : VoteAt w M b s) (k : Keeps M' w w') (hb : b ∉ M') (hM : ∀ g ∈ M', g ∈ M ∨ w.heap.size ≤ g) : VoteAt w' M b s := by
 obtain ⟨h1, h2, bv, hb', he⟩ := h
 exact ⟨h1, h2, bv, k.blk hb' hb, he.keep k (fun g hg => (hM g hg).imp (List.mem_cons_of_mem _) id)⟩
theorem VoteAt.set_prom (h : VoteAt w M b s) {i : Nat} (hi : i < 8) : VoteAt (w.setCell ⟨b, 2 + i, none⟩ (.bool true)) M b { s with prom := s.prom.set i true } := by
 obtain ⟨h1, h2, bv, hb, he⟩ := h
 refine ⟨by simpa using h1, h2, bv, ?_, he.keep (keep_set w b _ _) (by simp)⟩
 have := hb.set_ (2 + i) (.bool true)
 obtain ⟨term, nodes, prom, acc, had, best, n⟩ := s
 match prom, h1, acc, h2 with
 | [p0, p1, p2, p3, p4, p5, p6, p7], _, [a0, a1, a2, a3, a4, a5, a6, a7], _ =>
  rcases (show i = 0 ∨ i = 1 ∨ i = 2 ∨ i = 3 ∨ i = 4 ∨ i = 5 ∨ i = 6 ∨ i = 7 by omega) with rfl | rfl | rfl | rfl | rfl | rfl | rfl | rfl <;> exact this
theorem VoteAt.set_acc (h : VoteAt w M b s) {i : Nat} (hi : i < 8) (x : Int) : VoteAt (w.setCell ⟨b, 10 + i, none⟩ (.int .i64 x)) M b { s with acc := s.acc.set i x } := by
 obtain ⟨h1, h2, bv, hb, he⟩ := h
 refine ⟨h1, by simpa using h2, bv, ?_, he.keep (keep_set w b _ _) (by simp)⟩
 have := hb.set_ (10 + i) (.int .i64 x)
 obtain ⟨term, nodes, prom, acc, had, best, n⟩ := s
 match prom, h1, acc, h2 with
 | [p0, p1, p2, p3, p4, p5, p6, p7], _, [a0, a1, a2, a3, a4, a5, a6, a7], _ =>
  rcases (show i = 0 ∨ i = 1 ∨ i = 2 ∨ i = 3 ∨ i = 4 ∨ i = 5 ∨ i = 6 ∨ i = 7 by omega) with rfl | rfl | rfl | rfl | rfl | rfl | rfl | rfl <;> exact this
theorem VoteAt.set_n (h : VoteAt w M b s) (x : Int) : VoteAt (w.setCell ⟨b, 20, none⟩ (.int .i64 x)) M b { s with n := x } := by
 obtain ⟨h1, h2, bv, hb, he⟩ := h
 refine ⟨h1, h2, bv, ?_, he.keep (keep_set w b _ _) (by simp)⟩
 have := hb.set_ 20 (.int .i64 x)
 obtain ⟨term, nodes, prom, acc, had, best, n⟩ := s
 match prom, h1, acc, h2 with
 | [p0, p1, p2, p3, p4, p5, p6, p7], _, [a0, a1, a2, a3, a4, a5, a6, a7], _ => exact this
theorem VoteAt.set_had (h : VoteAt w M b s) (x : Int) : VoteAt (w.setCell ⟨b, 18, none⟩ (.int .i64 x)) M b { s with had := x } := by
 obtain ⟨h1, h2, bv, hb, he⟩ := h
 refine ⟨h1, h2, bv, ?_, he.keep (keep_set w b _ _) (by simp)⟩
 have := hb.set_ 18 (.int .i64 x)
 obtain ⟨term, nodes, prom, acc, had, best, n⟩ := s
 match prom, h1, acc, h2 with
 | [p0, p1, p2, p3, p4, p5, p6, p7], _, [a0, a1, a2, a3, a4, a5, a6, a7], _ => exact this
theorem VoteAt.set_best (h : VoteAt w M b s) {lv : Value} {l : List EntryD} (hl : Ens w (b :: M) lv l) : VoteAt (w.setCell ⟨b, 19, none⟩ lv) M b { s with best := l } := by
 obtain ⟨h1, h2, bv, hb, _⟩ := h
 refine ⟨h1, h2, lv, ?_, hl.keep (keep_set w b _ _) (by simp)⟩
 have := hb.set_ 19 lv
 obtain ⟨term, nodes, prom, acc, had, best, n⟩ := s
 match prom, h1, acc, h2 with
 | [p0, p1, p2, p3, p4, p5, p6, p7], _, [a0, a1, a2, a3, a4, a5, a6, a7], _ => exact this
end
theorem node_any (M : List Nat) (b : Nat) (s : VoteD) (i : Int) (w : World) (h : VoteAt w M b s) :
  Calls Tryz.prog 68 #[.pointer (some ⟨b, 0, none⟩), .int .i64 i] w fun e w' => e = .returned (.bool (decide (0 ≤ i ∧ i < s.nodes))) ∧ w = w' := by
 obtain ⟨bv, he, hlt, hfr, c0, c1, cp, ca, c18, c19, c20⟩ := h.cells
 clear he hlt hfr c0 cp ca c18 c19 c20 h
 by_cases h1 : 0 ≤ i
 ·by_cases h2 : i < s.nodes
  all_goals
   go_enter Tryz.func68, Tryz.ntmps68
   go_wp2
   go_ret
   exact ⟨ret_bool (by simp; omega), rfl⟩
 ·go_enter Tryz.func68, Tryz.ntmps68
  go_wp2
  go_ret
  exact ⟨ret_bool (by simp; omega), rfl⟩
theorem won_any (M : List Nat) (b : Nat) (s : VoteD) (w : World) (h : VoteAt w M b s) (h1 : 0 ≤ s.n) (h2 : s.n ≤ 100) :
  Calls Tryz.prog 42 #[.pointer (some ⟨b, 0, none⟩)] w fun e w' => e = .returned (.bool (decide (s.nodes < 2 * s.n))) ∧ ∃ n, w' = w.drewN n := by
 obtain ⟨bv, he, hlt, hfr, c0, c1, cp, ca, c18, c19, c20⟩ := h.cells
 clear he hlt hfr c0 cp ca c18 c19 h
 go_enter Tryz.func42, Tryz.ntmps42
 go_wp2
 go_quiet (fail)
 go_wp2
 go_ret
 exact ⟨rfl, _, rfl⟩
def wonS (s : VoteD) : Bool := decide (s.nodes < 2 * s.n)
def taken (s : VoteD) (i : Nat) : VoteD := { s with prom := s.prom.set i true, n := s.n + 1 }
def better (s : VoteD) (had : Int) (l : List EntryD) : Bool := decide (s.n = 0 ∨ s.had < had ∨ had = s.had ∧ s.best.length < l.length)
def promiseS (s : VoteD) (fr had : Int) (l : List EntryD) : Bool × VoteD :=
 if 0 ≤ fr ∧ fr < s.nodes ∧ s.prom.getD fr.toNat false = false then
  if wonS s then (false, taken s fr.toNat)
  else if better s had l then (wonS (taken s fr.toNat), { taken s fr.toNat with had := had, best := l })
  else (wonS (taken s fr.toNat), taken s fr.toNat)
 else (false, s)
theorem promise_won (M : List Nat) (b : Nat) (s : VoteD) (i : Nat) (had : Int) (lv : Value) (w : World) (h : VoteAt w M b s) (hi : (i : Int) < s.nodes) (hn : s.nodes ≤ 8) (h0 : 0 ≤ s.n) (h8 : s.n ≤ 8) (hp : s.prom.getD i false = false) (hw : wonS s = true) :
  Calls Tryz.prog 33 #[.pointer (some ⟨b, 0, none⟩), .int .i64 i, .int .i64 had, lv] w fun e w' => e = .returned (.bool false) ∧ VoteAt w' M b (taken s i) ∧ Keeps [b] w w' := by
 obtain ⟨bv, he, hlt, hfr, c0, c1, cp, ca, c18, c19, c20⟩ := h.cells
 have hcp : w.cell? ⟨b, 2 + i, none⟩ = some (.bool false) := by rw [cp i (by omega), hp]
 have hfr1 := hfr (2 + i); have hfr2 := hfr 20
 have hi8 : (i : Int) < 8 := by omega
 have hnd := Lib.hid (node_any M b s i w h)
 have hwon := Lib.hid (won_any M b s w h h0 (by omega))
 have Hw : Hid (decide (s.nodes < 2 * s.n) = true) := hw
 have He := Lib.hid he; have H := Lib.hid h
 clear he cp ca hfr hp hw h
 go_enter Tryz.func33, Tryz.ntmps33
 go_wp2_with (first | (go_at_call 68; refine hnd.out.mono ?_; rintro e w' ⟨rfl, rfl⟩; (rw [show decide (0 ≤ (i : Int) ∧ (i : Int) < s.nodes) = true by simp; omega])) | (go_at_call 42; refine hwon.out.mono ?_; rintro e w' ⟨rfl, nq, rfl⟩; rw [Hw.out]))
 go_ret
 refine ⟨rfl, ?_, ((((Keeps.refl _ _).drewN nq).setCell (by simp) _).setCell (by simp) _)⟩
 exact ((H.out.drewN nq).set_prom (by omega)).set_n _
theorem promise_no (M : List Nat) (b : Nat) (s : VoteD) (fr had : Int) (lv : Value) (w : World) (h : VoteAt w M b s) (hn : s.nodes ≤ 8) (hp : ¬ (0 ≤ fr ∧ fr < s.nodes ∧ s.prom.getD fr.toNat false = false)) :
  Calls Tryz.prog 33 #[.pointer (some ⟨b, 0, none⟩), .int .i64 fr, .int .i64 had, lv] w fun e w' => e = .returned (.bool false) ∧ VoteAt w' M b s ∧ Keeps [b] w w' := by
 obtain ⟨bv, he, hlt, hfr, c0, c1, cp, ca, c18, c19, c20⟩ := h.cells
 have hnd := Lib.hid (node_any M b s fr w h)
 have H := Lib.hid h
 by_cases h1 : 0 ≤ fr ∧ fr < s.nodes
 ·obtain ⟨i, rfl⟩ := Int.eq_ofNat_of_zero_le h1.1
  have hi8 : (i : Int) < 8 := by omega
  have hcp : w.cell? ⟨b, 2 + i, none⟩ = some (.bool true) := by
   rw [cp i (by omega)]
   have : s.prom.getD i false = true := by
    cases hc : s.prom.getD i false
    ·exact absurd ⟨h1.1, h1.2, hc⟩ hp
    ·rfl
   rw [this]
  have Hd : Hid (decide (0 ≤ (i : Int) ∧ (i : Int) < s.nodes) = true) := by show _ = _; simp; omega
  clear he cp ca hfr hp h h1
  go_enter Tryz.func33, Tryz.ntmps33
  go_wp2_with (go_at_call 68; refine hnd.out.mono ?_; rintro e w' ⟨rfl, rfl⟩; rw [Hd.out])
  go_ret
  exact ⟨rfl, H.out, Keeps.refl _ _⟩
 ·have Hd : Hid (decide (0 ≤ fr ∧ fr < s.nodes) = false) := by show _ = _; simp; omega
  clear he cp ca hfr hp h h1
  go_enter Tryz.func33, Tryz.ntmps33
  go_wp2_with (go_at_call 68; refine hnd.out.mono ?_; rintro e w' ⟨rfl, rfl⟩; rw [Hd.out])
  go_ret
  exact ⟨rfl, H.out, Keeps.refl _ _⟩
theorem promise_keep (M : List Nat) (b : Nat) (s : VoteD) (i : Nat) (had : Int) (lv : Value) (l : List EntryD) (w : World) (h : VoteAt w M b s) (hl : Ens w (b :: M) lv l) (hi : (i : Int) < s.nodes) (hn : s.nodes ≤ 8) (h0 : 0 ≤ s.n) (h8 : s.n ≤ 8) (hp : s.prom.getD i false = false) (hw : wonS s = false) (hbt : better s had l = false) :
  Calls Tryz.prog 33 #[.pointer (some ⟨b, 0, none⟩), .int .i64 i, .int .i64 had, lv] w fun e w' => e = .returned (.bool (wonS (taken s i))) ∧ VoteAt w' M b (taken s i) ∧ Keeps [b] w w' := by
 obtain ⟨bv, he, hlt, hfr, c0, c1, cp, ca, c18, c19, c20⟩ := h.cells
 obtain ⟨A, c, rfl, hc⟩ := hl.len
 obtain ⟨A2, cc2, rfl, hc2⟩ := he.len
 have hcp : w.cell? ⟨b, 2 + i, none⟩ = some (.bool false) := by rw [cp i (by omega), hp]
 have hfr1 := hfr (2 + i); have hfr2 := hfr 20
 have hi8 : (i : Int) < 8 := by omega
 have hnd := Lib.hid (node_any M b s i w h)
 have hwon := Lib.hid (won_any M b s w h h0 (by omega))
 have hat2 : ∀ nq, VoteAt (((w.drewN nq).setCell ⟨b, 2 + i, none⟩ (.bool true)).setCell ⟨b, 20, none⟩ (.int .i64 (s.n + 1))) M b (taken s i) := fun nq => ((h.drewN nq).set_prom (by omega)).set_n _
 have Hat2 := Lib.hid hat2
 have Hw : Hid (decide (s.nodes < 2 * s.n) = false) := hw
 have hd1 : s.n ≠ 0 ∧ ¬ s.had < had ∧ ¬ (had = s.had ∧ s.best.length < l.length) := by
  unfold better at hbt; simp at hbt; omega
 have e1 : (s.n + 1 == 1) = false := by simp; omega
 have He := Lib.hid he; have H := Lib.hid h
 clear he cp ca hfr hp hw h hat2 hbt
 by_cases hh : had = s.had
 ·have e2 : (had == s.had) = true := by simpa using hh
  have hlen : l.length ≤ s.best.length := by omega
  have hhad : had ≤ s.had := by omega
  clear hd1 hh
  go_enter Tryz.func33, Tryz.ntmps33
  go_wp2_with (first | (go_at_call 68; refine hnd.out.mono ?_; rintro e w' ⟨rfl, rfl⟩; (rw [show decide (0 ≤ (i : Int) ∧ (i : Int) < s.nodes) = true by simp; omega])) | (go_at_call 42; with_reducible refine hwon.out.mono ?_; rintro e w' ⟨rfl, nq, rfl⟩; rw [Hw.out]) | (go_at_call 42; with_reducible refine (won_any M b _ _ (Hat2.out _) (by simp only [taken]; omega) (by simp only [taken]; omega)).mono ?_; rintro e w' ⟨rfl, nq2, rfl⟩))
  go_ret
  exact ⟨rfl, (Hat2.out _).drewN _, ((((Keeps.refl _ _).drewN nq).setCell (by simp) _).setCell (by simp) _).drewN _⟩
 ·have e2 : (had == s.had) = false := by simpa using hh
  have hhad : had < s.had := by omega
  clear hd1 hh
  go_enter Tryz.func33, Tryz.ntmps33
  go_wp2_with (first | (go_at_call 68; refine hnd.out.mono ?_; rintro e w' ⟨rfl, rfl⟩; (rw [show decide (0 ≤ (i : Int) ∧ (i : Int) < s.nodes) = true by simp; omega])) | (go_at_call 42; with_reducible refine hwon.out.mono ?_; rintro e w' ⟨rfl, nq, rfl⟩; rw [Hw.out]) | (go_at_call 42; with_reducible refine (won_any M b _ _ (Hat2.out _) (by simp only [taken]; omega) (by simp only [taken]; omega)).mono ?_; rintro e w' ⟨rfl, nq2, rfl⟩))
  go_ret
  exact ⟨rfl, (Hat2.out _).drewN _, ((((Keeps.refl _ _).drewN nq).setCell (by simp) _).setCell (by simp) _).drewN _⟩
def Small (l : List EntryD) : Prop := l.length ≤ 1048576 ∧ ∀ e ∈ l, e.ds.length ≤ 1048576
theorem promise_take (M : List Nat) (b : Nat) (s : VoteD) (i : Nat) (had : Int) (lv : Value) (l : List EntryD) (w : World) (h : VoteAt w M b s) (hM : ∀ g ∈ M, g < w.heap.size) (hl : Ens w (b :: M) lv l) (hsm : Small l) (hi : (i : Int) < s.nodes) (hn : s.nodes ≤ 8) (h0 : 0 ≤ s.n) (h8 : s.n ≤ 8) (hp : s.prom.getD i false = false) (hw : wonS s = false) (hbt : better s had l = true) :
  Calls Tryz.prog 33 #[.pointer (some ⟨b, 0, none⟩), .int .i64 i, .int .i64 had, lv] w fun e w' => e = .returned (.bool (wonS (taken s i))) ∧ VoteAt w' M b { taken s i with had := had, best := l } ∧ Keeps [b] w w' := by
 obtain ⟨bv, he, hlt, hfr, c0, c1, cp, ca, c18, c19, c20⟩ := h.cells
 have hl0 := hl
 obtain ⟨A, c, rfl, hc⟩ := hl.len
 obtain ⟨A2, cc2, rfl, hc2⟩ := he.len
 have hcp : w.cell? ⟨b, 2 + i, none⟩ = some (.bool false) := by rw [cp i (by omega), hp]
 have hfr1 := hfr (2 + i); have hfr2 := hfr 20
 have hi8 : (i : Int) < 8 := by omega
 have hnd := Lib.hid (node_any M b s i w h)
 have hwon := Lib.hid (won_any M b s w h h0 (by omega))
 have hat2 : ∀ nq, VoteAt (((w.drewN nq).setCell ⟨b, 2 + i, none⟩ (.bool true)).setCell ⟨b, 20, none⟩ (.int .i64 (s.n + 1))) M b (taken s i) := fun nq => ((h.drewN nq).set_prom (by omega)).set_n _
 have Hat2 := Lib.hid hat2
 have Hw : Hid (decide (s.nodes < 2 * s.n) = false) := hw
 have hd1 : s.n = 0 ∨ (s.n ≠ 0 ∧ s.had < had) ∨ (s.n ≠ 0 ∧ had = s.had ∧ s.best.length < l.length) := by
  unfold better at hbt; simp at hbt; omega
 have He := Lib.hid he; have H := Lib.hid h; have Hl := Lib.hid hl; have Hsm := Lib.hid hsm; have HM := Lib.hid hM
 have hl1 := hsm.1
 clear he cp ca hfr hp hw h hat2 hbt hl hsm hl0 hM
 rcases hd1 with hd | ⟨hd, hh⟩ | ⟨hd, hh, hh2⟩
 ·have e1 : (s.n + 1 == 1) = true := by simp; omega
  clear hd
  go_enter Tryz.func33, Tryz.ntmps33
  go_wp2_with (first | (go_at_call 68; refine hnd.out.mono ?_; rintro e w' ⟨rfl, rfl⟩; (rw [show decide (0 ≤ (i : Int) ∧ (i : Int) < s.nodes) = true by simp; omega])) | (go_at_call 42; with_reducible refine hwon.out.mono ?_; rintro e w' ⟨rfl, nq, rfl⟩; rw [Hw.out]) | fail)
  refine (copies_any (b :: M) _ l _ ?_ Hsm.out.1 Hsm.out.2).mono ?_
  ·exact Hl.out.keep (M' := [b]) (((Keeps.refl _ _).drewN nq).setCell (by simp) _ |>.setCell (by simp) _) (by simp)
  rintro r w1 ⟨A', rfl, hens, hbel⟩
  have hv1 := (Hat2.out nq).keep (Keeps.of_below (M := []) hbel) (by simp) (by simp)
  obtain ⟨bv', _, _, hfr', _, _, _, _, d18, d19, _⟩ := hv1.cells
  have f18 := hfr' 18; have f19 := hfr' 19
  have hkeep := Lib.hid (((((Keeps.refl [b] w).drewN nq).setCell (by simp) _).setCell (by simp) _).trans (Keeps.of_below (M := []) hbel) (by simp))
  have hv2 := (hv1.set_had had).set_best ((hens (b :: M) (by intro g hg; simp at hg ⊢; rcases hg with rfl | hg; exact hlt; exact HM.out g hg)).keep (keep_set w1 b 18 (.int .i64 had)) (by simp))
  have Hv2 := Lib.hid hv2
  clear hv1 hfr' hens hbel hv2
  go_wp2_with (first | (go_at_call 42; with_reducible refine (won_any M b _ _ Hv2.out (by simp only [taken]; omega) (by simp only [taken]; omega)).mono ?_; rintro e w' ⟨rfl, nq2, rfl⟩))
  go_ret
  exact ⟨rfl, Hv2.out.drewN _, ((hkeep.out.setCell (by simp) _).setCell (by simp) _).drewN _⟩
 ·have e1 : (s.n + 1 == 1) = false := by simp; omega
  clear hd
  go_enter Tryz.func33, Tryz.ntmps33
  go_wp2_with (first | (go_at_call 68; refine hnd.out.mono ?_; rintro e w' ⟨rfl, rfl⟩; (rw [show decide (0 ≤ (i : Int) ∧ (i : Int) < s.nodes) = true by simp; omega])) | (go_at_call 42; with_reducible refine hwon.out.mono ?_; rintro e w' ⟨rfl, nq, rfl⟩; rw [Hw.out]) | fail)
  refine (copies_any (b :: M) _ l _ ?_ Hsm.out.1 Hsm.out.2).mono ?_
  ·exact Hl.out.keep (M' := [b]) (((Keeps.refl _ _).drewN nq).setCell (by simp) _ |>.setCell (by simp) _) (by simp)
  rintro r w1 ⟨A', rfl, hens, hbel⟩
  have hv1 := (Hat2.out nq).keep (Keeps.of_below (M := []) hbel) (by simp) (by simp)
  obtain ⟨bv', _, _, hfr', _, _, _, _, d18, d19, _⟩ := hv1.cells
  have f18 := hfr' 18; have f19 := hfr' 19
  have hkeep := Lib.hid (((((Keeps.refl [b] w).drewN nq).setCell (by simp) _).setCell (by simp) _).trans (Keeps.of_below (M := []) hbel) (by simp))
  have hv2 := (hv1.set_had had).set_best ((hens (b :: M) (by intro g hg; simp at hg ⊢; rcases hg with rfl | hg; exact hlt; exact HM.out g hg)).keep (keep_set w1 b 18 (.int .i64 had)) (by simp))
  have Hv2 := Lib.hid hv2
  clear hv1 hfr' hens hbel hv2
  go_wp2_with (first | (go_at_call 42; with_reducible refine (won_any M b _ _ Hv2.out (by simp only [taken]; omega) (by simp only [taken]; omega)).mono ?_; rintro e w' ⟨rfl, nq2, rfl⟩))
  go_ret
  exact ⟨rfl, Hv2.out.drewN _, ((hkeep.out.setCell (by simp) _).setCell (by simp) _).drewN _⟩
 ·have e1 : (s.n + 1 == 1) = false := by simp; omega
  have e2 : (had == s.had) = true := by simpa using hh
  have hhad : had ≤ s.had := by omega
  clear hd hh
  go_enter Tryz.func33, Tryz.ntmps33
  go_wp2_with (first | (go_at_call 68; refine hnd.out.mono ?_; rintro e w' ⟨rfl, rfl⟩; (rw [show decide (0 ≤ (i : Int) ∧ (i : Int) < s.nodes) = true by simp; omega])) | (go_at_call 42; with_reducible refine hwon.out.mono ?_; rintro e w' ⟨rfl, nq, rfl⟩; rw [Hw.out]) | fail)
  refine (copies_any (b :: M) _ l _ ?_ Hsm.out.1 Hsm.out.2).mono ?_
  ·exact Hl.out.keep (M' := [b]) (((Keeps.refl _ _).drewN nq).setCell (by simp) _ |>.setCell (by simp) _) (by simp)
  rintro r w1 ⟨A', rfl, hens, hbel⟩
  have hv1 := (Hat2.out nq).keep (Keeps.of_below (M := []) hbel) (by simp) (by simp)
  obtain ⟨bv', _, _, hfr', _, _, _, _, d18, d19, _⟩ := hv1.cells
  have f18 := hfr' 18; have f19 := hfr' 19
  have hkeep := Lib.hid (((((Keeps.refl [b] w).drewN nq).setCell (by simp) _).setCell (by simp) _).trans (Keeps.of_below (M := []) hbel) (by simp))
  have hv2 := (hv1.set_had had).set_best ((hens (b :: M) (by intro g hg; simp at hg ⊢; rcases hg with rfl | hg; exact hlt; exact HM.out g hg)).keep (keep_set w1 b 18 (.int .i64 had)) (by simp))
  have Hv2 := Lib.hid hv2
  clear hv1 hfr' hens hbel hv2
  go_wp2_with (first | (go_at_call 42; with_reducible refine (won_any M b _ _ Hv2.out (by simp only [taken]; omega) (by simp only [taken]; omega)).mono ?_; rintro e w' ⟨rfl, nq2, rfl⟩))
  go_ret
  exact ⟨rfl, Hv2.out.drewN _, ((hkeep.out.setCell (by simp) _).setCell (by simp) _).drewN _⟩
theorem promise_any (M : List Nat) (b : Nat) (s : VoteD) (fr had : Int) (lv : Value) (l : List EntryD) (w : World) (h : VoteAt w M b s) (hM : ∀ g ∈ M, g < w.heap.size) (hl : Ens w (b :: M) lv l) (hsm : Small l) (hn : s.nodes ≤ 8) (h0 : 0 ≤ s.n) (h8 : s.n ≤ 8) :
  Calls Tryz.prog 33 #[.pointer (some ⟨b, 0, none⟩), .int .i64 fr, .int .i64 had, lv] w fun e w' => e = .returned (.bool (promiseS s fr had l).1) ∧ VoteAt w' M b (promiseS s fr had l).2 ∧ Keeps [b] w w' := by
 unfold promiseS
 by_cases hp : 0 ≤ fr ∧ fr < s.nodes ∧ s.prom.getD fr.toNat false = false
 ·rw [if_pos hp]
  obtain ⟨i, rfl⟩ := Int.eq_ofNat_of_zero_le hp.1
  rw [Int.toNat_natCast] at hp ⊢
  cases hw : wonS s
  ·cases hb : better s had l
   ·exact promise_keep M b s i had lv l w h hl hp.2.1 hn h0 h8 hp.2.2 hw hb
   ·exact promise_take M b s i had lv l w h hM hl hsm hp.2.1 hn h0 h8 hp.2.2 hw hb
  ·exact promise_won M b s i had lv w h hp.2.1 hn h0 h8 hp.2.2 hw
 ·rw [if_neg hp]
  exact promise_no M b s fr had lv w h hn hp
def okTerm (above node nodes : Int) : Prop := (1 ≤ nodes ∧ nodes ≤ 8) ∧ 0 ≤ node ∧ node < nodes ∧ 0 ≤ above ∧ above ≤ 1099511627776
instance (above node nodes : Int) : Decidable (okTerm above node nodes) := by unfold okTerm; infer_instance
def termS (above node nodes : Int) : Int := if okTerm above node nodes then above + 1 + (node - (above + 1)) % nodes else 0
theorem term_plain {above node nodes : Int} (h : okTerm above node nodes) : above + 1 ≤ termS above node nodes ∧ termS above node nodes ≤ above + nodes ∧ termS above node nodes % nodes = node ∧
  ∀ t, above + 1 ≤ t → t < termS above node nodes → t % nodes ≠ node := by
 obtain ⟨⟨h1, h2⟩, h3, h4, h5, h6⟩ := id h
 unfold termS
 rw [if_pos h]
 rcases (show nodes = 1 ∨ nodes = 2 ∨ nodes = 3 ∨ nodes = 4 ∨ nodes = 5 ∨ nodes = 6 ∨ nodes = 7 ∨ nodes = 8 by omega) with rfl | rfl | rfl | rfl | rfl | rfl | rfl | rfl
 all_goals (refine ⟨?_, ?_, ?_, ?_⟩ <;> omega)
theorem term_yes (above node nodes : Int) (w : World) (h : okTerm above node nodes) :
  Calls Tryz.prog 28 #[.int .i64 above, .int .i64 node, .int .i64 nodes] w fun e w' => e = .returned (.int .i64 (termS above node nodes)) ∧ w = w' := by
 obtain ⟨p1, p2, p3, p4⟩ := term_plain h
 obtain ⟨⟨h1, h2⟩, h3, h4, h5, h6⟩ := h
 have P3 := Lib.hid p3; have P4 := Lib.hid p4
 have hr := Lib.hid (right_any nodes w)
 have Hd : Hid (decide (1 ≤ nodes ∧ nodes ≤ 8) = true) := by show _ = _; simp; omega
 clear p3 p4
 generalize termS above node nodes = T at *
 go_enter Tryz.func28, Tryz.ntmps28
 go_wp2_with (go_at_call 66; refine hr.out.mono ?_; rintro e w' ⟨rfl, rfl⟩; rw [Hd.out])
 go_loop [7] (fun t => ∃ x : Int, t = .int .i64 x ∧ above + 1 ≤ x ∧ x ≤ T) (fun t => (T - intOf t).toNat)
 case atStart => exact ⟨_, rfl, by omega, by omega⟩
 case round =>
  obtain ⟨x, rfl, hx1, hx2⟩ := hrel
  by_cases hlt : x < T
  ·have hne : (x % nodes != node) = true := by simpa using P4.out x hx1 hlt
   go_wp2
   go_round
   case rel => exact ⟨x + 1, rfl, by omega, by omega⟩
   case measure => simp [intOf]; omega
  ·obtain rfl : x = T := by omega
   have hne : (x % nodes != node) = false := by simpa using P3.out
   go_wp2
   go_ret
   exact ⟨rfl, rfl⟩
theorem term_cases {above node nodes : Int} (h : ¬ okTerm above node nodes) : ¬ (1 ≤ nodes ∧ nodes ≤ 8) ∨ ((1 ≤ nodes ∧ nodes ≤ 8) ∧ node < 0) ∨ ((1 ≤ nodes ∧ nodes ≤ 8) ∧ 0 ≤ node ∧ nodes ≤ node) ∨ ((1 ≤ nodes ∧ nodes ≤ 8) ∧ 0 ≤ node ∧ node < nodes ∧ above < 0) ∨ ((1 ≤ nodes ∧ nodes ≤ 8) ∧ 0 ≤ node ∧ node < nodes ∧ 0 ≤ above ∧ 1099511627776 < above) := by
 unfold okTerm at h; omega
theorem term_any (above node nodes : Int) (w : World) :
  Calls Tryz.prog 28 #[.int .i64 above, .int .i64 node, .int .i64 nodes] w fun e w' => e = .returned (.int .i64 (termS above node nodes)) ∧ w = w' := by
 by_cases h : okTerm above node nodes
 ·exact term_yes above node nodes w h
 ·have Hz := Lib.hid (show termS above node nodes = 0 from if_neg h)
  have hr := Lib.hid (right_any nodes w)
  rcases term_cases h with h1 | ⟨h1, h2⟩ | ⟨h1, h2, h3⟩ | ⟨h1, h2, h3, h4⟩ | ⟨h1, h2, h3, h4, h5⟩
  ·have Hd : Hid (decide (1 ≤ nodes ∧ nodes ≤ 8) = false) := by show _ = _; simp; omega
   clear h h1
   go_enter Tryz.func28, Tryz.ntmps28
   go_wp2_with (go_at_call 66; refine hr.out.mono ?_; rintro e w' ⟨rfl, rfl⟩; rw [Hd.out])
   go_ret
   exact ⟨ret_int Hz.out.symm, rfl⟩
  all_goals
   have Hd : Hid (decide (1 ≤ nodes ∧ nodes ≤ 8) = true) := by show _ = _; simp; omega
   clear h h1
   go_enter Tryz.func28, Tryz.ntmps28
   go_wp2_with (go_at_call 66; refine hr.out.mono ?_; rintro e w' ⟨rfl, rfl⟩; rw [Hd.out])
   go_ret
   exact ⟨ret_int Hz.out.symm, rfl⟩
theorem vterm_any (M : List Nat) (b : Nat) (s : VoteD) (w : World) (h : VoteAt w M b s) :
  Calls Tryz.prog 41 #[.pointer (some ⟨b, 0, none⟩)] w fun e w' => e = .returned (.int .i64 s.term) ∧ w = w' := by
 obtain ⟨bv, he, hlt, hfr, c0, c1, cp, ca, c18, c19, c20⟩ := h.cells
 clear he hlt hfr c1 cp ca c18 c19 c20 h
 go_enter Tryz.func41, Tryz.ntmps41
 go_wp2
 go_ret
 exact ⟨rfl, rfl⟩
def newVote (term nodes : Int) : VoteD := ⟨term, nodes, List.replicate 8 false, List.replicate 8 0, 0, [], 0⟩
theorem new_yes (term nodes : Int) (w : World) (h1 : 1 ≤ nodes) (h2 : nodes ≤ 8) :
  Calls Tryz.prog 32 #[.int .i64 term, .int .i64 nodes] w fun e w' => e = .returned (.pointer (some ⟨w.heap.size, 0, none⟩)) ∧ (∀ M, VoteAt w' M w.heap.size (newVote term nodes)) ∧ Below w.heap.size w w' ∧ w.heap.size < w'.heap.size := by
 have hr := Lib.hid (right_any nodes w)
 have Hd : Hid (decide (1 ≤ nodes ∧ nodes ≤ 8) = true) := by show _ = _; simp; omega
 go_enter Tryz.func32, Tryz.ntmps32
 go_wp2_with (go_at_call 66; refine hr.out.mono ?_; rintro e w' ⟨rfl, rfl⟩; rw [Hd.out])
 go_ret
 exact ⟨rfl, fun M => ⟨rfl, rfl, .slice none 0 0, Blk.new w _ _, Ens.nil _ _⟩, below_new' _ _, by simp⟩
theorem best_any (M : List Nat) (b : Nat) (s : VoteD) (w : World) (h : VoteAt w M b s) (hsm : Small s.best) :
  Calls Tryz.prog 70 #[.pointer (some ⟨b, 0, none⟩)] w fun e w' => ∃ A, e = .returned (.slice A s.best.length s.best.length) ∧ (∀ M', (∀ g ∈ M', g < w.heap.size) → Ens w' M' (.slice A s.best.length s.best.length) s.best) ∧ Below w.heap.size w w' := by
 obtain ⟨bv, he, hlt, hfr, c0, c1, cp, ca, c18, c19, c20⟩ := h.cells
 obtain ⟨A2, cc2, rfl, hc2⟩ := he.len
 have Hc := Lib.hid (copies_any (b :: M) _ s.best w he hsm.1 hsm.2)
 clear he hlt hfr c0 c1 cp ca c18 c20 h hsm
 go_enter Tryz.func70, Tryz.ntmps70
 go_wp2_with fail
 refine Hc.out.mono ?_
 rintro e w1 ⟨A, rfl, h1, h2⟩
 have H1 := Lib.hid h1; have H2 := Lib.hid h2
 clear h1 h2
 go_wp2
 go_ret
 exact ⟨A, rfl, H1.out, H2.out⟩
def accS (s : VoteD) (fr n : Int) : List Int := if 0 ≤ fr ∧ fr < s.nodes then s.acc.set fr.toNat (max (s.acc.getD fr.toNat 0) n) else s.acc
def medS (l : List Int) (k : Nat) : Int := ((l.take k).mergeSort fun x y => decide (x ≤ y)).getD ((k - 1) / 2) 0
theorem acc_rd {w : World} {M : List Nat} {b k : Nat} {s : VoteD} (h : VoteAt w M b s) (hk : k ≤ 8) : Rd w [] 1 (.slice (some ⟨b, 10, none⟩) k 8) k ((s.acc.take k).map (Value.int .i64)) := by
 obtain ⟨bv, he, hlt, hfr, c0, c1, cp, ca, c18, c19, c20⟩ := h.cells
 refine ⟨_, 8, rfl, hk, by rw [List.length_map, List.length_take, h.l2]; omega, fun _ => ⟨b, 10, rfl, hlt, by simp, fun j u hu => ?_⟩⟩
 rw [List.getElem?_map, List.getElem?_take] at hu
 split at hu
 ·rename_i hj
  have hj8 : j < s.acc.length := by rw [h.l2]; omega
  rw [ca j (by omega), List.getD_eq_getElem?_getD]
  rw [List.getElem?_eq_getElem hj8] at hu ⊢
  simpa using hu
 ·simp at hu
theorem own_form {w : World} {base : Nat} {e : TypeId} {v : Value} {n : Nat} {xs : List Value} (h : w.ownsRow base e 1 v n xs) (hn : 0 < n) :
  ∃ g cap cur, v = .slice (some ⟨g, 0, none⟩) n cap ∧ base ≤ g ∧ w.heap[g]? = some (.cells cur e (0, 0)) ∧ n ≤ cap ∧ cap ≤ maxLen ∧ cur.size = cap * 1 ∧ cur.toList.take n = xs := by
 obtain ⟨hl, h⟩ := h
 rcases h with ⟨_, h0⟩ | ⟨g, cap, cur, h1, h2, h3, h4, h5, h6, h7⟩
 ·omega
 ·exact ⟨g, cap, cur, h1, h2, h3, h4, h5, h6, by rw [Nat.mul_one] at h7; exact h7⟩
theorem own_cell {w : World} {base g n c j : Nat} {e : TypeId} {xs : List Value} {u : Value} (h : w.ownsRow base e 1 (.slice (some ⟨g, 0, none⟩) n c) n xs) (hu : xs[j]? = some u) : w.cell? ⟨g, j, none⟩ = some u := by
 have := h.cells (g := g) rfl j u hu
 rwa [addr_add, Nat.zero_add] at this
theorem med_at {l : List Int} {k : Nat} (h : (k - 1) / 2 < (l.take k).length) : (((l.take k).mergeSort fun x y => decide (x ≤ y)).map (Value.int .i64))[(k - 1) / 2]? = some (.int .i64 (medS l k)) := by
 have h2 : (k - 1) / 2 < ((l.take k).mergeSort fun x y => decide (x ≤ y)).length := by rw [List.length_mergeSort]; exact h
 unfold medS
 rw [List.getElem?_map, List.getD_eq_getElem?_getD, List.getElem?_eq_getElem h2]
 rfl
set_option maxRecDepth 100000 in
theorem accepted_in (M : List Nat) (b : Nat) (s s1 : VoteD) (i k : Nat) (n : Int) (w : World) (h : VoteAt w M b s) (hi : i < k) (hk1 : 0 < k) (hk8 : k ≤ 8) (hs : s.nodes = k) (hs1' : s1 = { s with acc := s.acc.set i (max (s.acc.getD i 0) n) }) :
  Calls Tryz.prog 78 #[.pointer (some ⟨b, 0, none⟩), .int .i64 i, .int .i64 n] w fun e w' => e = .returned (.int .i64 (medS s1.acc k)) ∧ VoteAt w' M b s1 ∧ Keeps [b] w w' := by
 obtain ⟨bv, he, hlt, hfr, c0, c1, cp, ca, c18, c19, c20⟩ := h.cells
 have hca := ca i (by omega)
 have hfr1 := hfr (10 + i)
 have hi8 : (i : Int) < 8 := by omega
 have hnd := Lib.hid (node_any M b s i w h)
 have Hd : Hid (decide (0 ≤ (i : Int) ∧ (i : Int) < s.nodes) = true) := by show _ = _; simp; omega
 have He := Lib.hid he; have H := Lib.hid h; have Hs := Lib.hid hs
 have hgd : s.acc.getD i 0 = s.acc[i]?.getD 0 := List.getD_eq_getElem?_getD ..
 rw [hgd] at hca hs1'
 have hs1 : s1.nodes = k := by rw [hs1']; exact hs
 have Hs1' := Lib.hid hs1'
 clear he cp ca hfr h hs hgd hs1' c1 c0 c18 c19 c20
 go_enter Tryz.func78, Tryz.ntmps78
 go_wp2_with (go_at_call 68; refine hnd.out.mono ?_; rintro e w' ⟨rfl, rfl⟩; rw [Hd.out])
 go_region
 have hv : VoteAt ((w.setCell ⟨b, 10 + i, none⟩ (.int .i64 (max (s.acc[i]?.getD 0) n))).drew) M b s1 := by rw [Hs1'.out]; exact (H.out.set_acc (by omega) _).drewN 1
 have hW : Keeps [b] w ((w.setCell ⟨b, 10 + i, none⟩ (.int .i64 (max (s.acc[i]?.getD 0) n))).drew) := ((Keeps.refl _ _).setCell (by simp) _).drew
 generalize ((w.setCell ⟨b, 10 + i, none⟩ (.int .i64 (max (s.acc[i]?.getD 0) n))).drew) = W at *
 have hcl := cloneInt [] (.slice (some ⟨b, 10, none⟩) k 8) k ((s1.acc.take k).map (Value.int .i64)) W.drew (acc_rd (hv.drewN 1) hk8) (ints_oneCell _ _) (by omega)
 have Hcl := Lib.hid hcl; have HW := Lib.hid hW; have Hv := Lib.hid hv
 have hl1 : (s1.acc.take k).length = k := by rw [List.length_take, hv.l2]; omega
 obtain ⟨bv1, _, hlt1, _, _, e1, _, _, _, _, _⟩ := hv.cells
 rw [hs1] at e1
 clear hcl hW hv
 generalize hL : s1.acc.take k = L at *
 have HL := Lib.hid hL; have Hl1 := Lib.hid hl1
 clear hL hl1
 have hk9 : (k : Int) ≤ 8 := by omega
 obtain ⟨j, hj⟩ : ∃ j, j = (k - 1) / 2 := ⟨_, rfl⟩
 have hidx : ((k : Int) - 1) / 2 = (j : Int) := by omega
 have hjk : j < k := by omega
 have Hj := Lib.hid hj
 clear hj
 go_wp2
 go_region_with ((go_at_call 121; refine Hcl.out.mono ?_; rintro e w2 ⟨v2, rfl, hown, hb2⟩; have Hown := Lib.hid (show w2.ownsRow W.heap.size 3 1 v2 k (L.map (Value.int .i64)) from hown); have Hb2 := Lib.hid (show Below W.heap.size W w2 from ⟨hb2.os, hb2.tape, hb2.output, hb2.size, hb2.block⟩); clear hown hb2))
 all_goals
  obtain ⟨g, cap, cur, rfl, hg0, hblk, hkc, hcm, hcur, htk⟩ := own_form Hown.out hk1
  have hgl : g < w2.heap.size := (Array.getElem?_eq_some_iff.1 hblk).1
  have hsort := Lib.hid (Tryz.slices_Sort_int g 0 cap L w2 (holds_of_blockI hblk (by rw [Hl1.out]; simpa using htk)) hgl (by rw [Hl1.out]; omega))
  rw [Hl1.out] at hsort
  have hso := fun (n : Nat) (os : Array Obj) => ownsRow_sortedI (n := n) (os := os) (ss := L) (ts := L.mergeSort fun x y => decide (x ≤ y)) (List.length_mergeSort L) hg0 hblk (by rw [Hl1.out]; exact hkc) hcm hcur
  have Hso := Lib.hid hso
  have hkp : Keeps [] W w2 := Keeps.of_below Hb2.out
  have Hkp := Lib.hid hkp
  have Hg0 := Lib.hid hg0
  have c1' : w2.cell? ⟨b, 1, none⟩ = some (.int .i64 k) := by rw [Hb2.out.cell (p := ⟨b, 1, none⟩) hlt1]; exact e1
  have hne : g ≠ b := by omega
  clear hblk htk hkc hcm hcur hso hkp hg0
  go_wp2_with (go_at_call 122; refine hsort.out.mono ?_; rintro e w3 ⟨rfl, nn, os, rfl⟩; have hrow := Hso.out nn os; have hgr := grownBy_sortedI (w := w2) (g := g) (n := nn) (os := os) ((L.mergeSort fun x y => decide (x ≤ y)).toArray); generalize (Sort.grow (Sort.putRow (Value.int .i64) (Sort.ahead w2 nn) g 0 ((L.mergeSort fun x y => decide (x ≤ y)).toArray)) os) = w3 at *; rw [Hl1.out] at hrow; have c1'' : w3.cell? ⟨b, 1, none⟩ = some (.int .i64 k) := hgr.cell c1' (by simpa using Ne.symm hne); have hcc : w3.cell? ⟨g, j, none⟩ = some (.int .i64 (medS s1.acc k)) := own_cell hrow (by rw [← HL.out, Hj.out]; exact med_at (by rw [HL.out, Hl1.out]; omega)); have Hgr := Lib.hid hgr; clear hgr hrow)
  go_ret
  have hk3 := Hkp.out.grown Hgr.out (fun x hx => by injection hx with hx; right; rw [← hx]; exact Hg0.out)
  exact ⟨rfl, Hv.out.keep hk3 (by simp) (by simp), HW.out.trans hk3 (by simp)⟩
set_option maxRecDepth 100000 in
theorem accepted_out (M : List Nat) (b : Nat) (s1 : VoteD) (k : Nat) (fr n : Int) (w : World) (h : VoteAt w M b s1) (hi : ¬ (0 ≤ fr ∧ fr < k)) (hk1 : 0 < k) (hk8 : k ≤ 8) (hs1 : s1.nodes = k) :
  Calls Tryz.prog 78 #[.pointer (some ⟨b, 0, none⟩), .int .i64 fr, .int .i64 n] w fun e w' => e = .returned (.int .i64 (medS s1.acc k)) ∧ VoteAt w' M b s1 ∧ Keeps [b] w w' := by
 obtain ⟨bv, he, hlt, hfr, c0, c1, cp, ca, c18, c19, c20⟩ := h.cells
 have hnd := Lib.hid (node_any M b s1 fr w h)
 have Hd : Hid (decide (0 ≤ fr ∧ fr < s1.nodes) = false) := by show _ = _; simp; omega
 have hv := h
 have hW : Keeps [b] w w := Keeps.refl _ _
 clear he cp ca hfr h c1 c0 c18 c19 c20 hi
 obtain ⟨W, hWw⟩ : ∃ W, W = w := ⟨_, rfl⟩
 go_enter Tryz.func78, Tryz.ntmps78
 go_wp2_with (go_at_call 68; refine hnd.out.mono ?_; rintro e w' ⟨rfl, rfl⟩; rw [Hd.out])
 subst hWw
 have hcl := cloneInt [] (.slice (some ⟨b, 10, none⟩) k 8) k ((s1.acc.take k).map (Value.int .i64)) W.drew (acc_rd (hv.drewN 1) hk8) (ints_oneCell _ _) (by omega)
 have Hcl := Lib.hid hcl; have HW := Lib.hid hW; have Hv := Lib.hid hv
 have hl1 : (s1.acc.take k).length = k := by rw [List.length_take, hv.l2]; omega
 obtain ⟨bv1, _, hlt1, _, _, e1, _, _, _, _, _⟩ := hv.cells
 rw [hs1] at e1
 clear hcl hW hv
 generalize hL : s1.acc.take k = L at *
 have HL := Lib.hid hL; have Hl1 := Lib.hid hl1
 clear hL hl1
 have hk9 : (k : Int) ≤ 8 := by omega
 obtain ⟨j, hj⟩ : ∃ j, j = (k - 1) / 2 := ⟨_, rfl⟩
 have hidx : ((k : Int) - 1) / 2 = (j : Int) := by omega
 have hjk : j < k := by omega
 have Hj := Lib.hid hj
 clear hj
 go_wp2
 go_region_with ((go_at_call 121; refine Hcl.out.mono ?_; rintro e w2 ⟨v2, rfl, hown, hb2⟩; have Hown := Lib.hid (show w2.ownsRow W.heap.size 3 1 v2 k (L.map (Value.int .i64)) from hown); have Hb2 := Lib.hid (show Below W.heap.size W w2 from ⟨hb2.os, hb2.tape, hb2.output, hb2.size, hb2.block⟩); clear hown hb2))
 all_goals
  obtain ⟨g, cap, cur, rfl, hg0, hblk, hkc, hcm, hcur, htk⟩ := own_form Hown.out hk1
  have hgl : g < w2.heap.size := (Array.getElem?_eq_some_iff.1 hblk).1
  have hsort := Lib.hid (Tryz.slices_Sort_int g 0 cap L w2 (holds_of_blockI hblk (by rw [Hl1.out]; simpa using htk)) hgl (by rw [Hl1.out]; omega))
  rw [Hl1.out] at hsort
  have hso := fun (n : Nat) (os : Array Obj) => ownsRow_sortedI (n := n) (os := os) (ss := L) (ts := L.mergeSort fun x y => decide (x ≤ y)) (List.length_mergeSort L) hg0 hblk (by rw [Hl1.out]; exact hkc) hcm hcur
  have Hso := Lib.hid hso
  have hkp : Keeps [] W w2 := Keeps.of_below Hb2.out
  have Hkp := Lib.hid hkp
  have Hg0 := Lib.hid hg0
  have c1' : w2.cell? ⟨b, 1, none⟩ = some (.int .i64 k) := by rw [Hb2.out.cell (p := ⟨b, 1, none⟩) hlt1]; exact e1
  have hne : g ≠ b := by omega
  clear hblk htk hkc hcm hcur hso hkp hg0
  go_wp2_with (go_at_call 122; refine hsort.out.mono ?_; rintro e w3 ⟨rfl, nn, os, rfl⟩; have hrow := Hso.out nn os; have hgr := grownBy_sortedI (w := w2) (g := g) (n := nn) (os := os) ((L.mergeSort fun x y => decide (x ≤ y)).toArray); generalize (Sort.grow (Sort.putRow (Value.int .i64) (Sort.ahead w2 nn) g 0 ((L.mergeSort fun x y => decide (x ≤ y)).toArray)) os) = w3 at *; rw [Hl1.out] at hrow; have c1'' : w3.cell? ⟨b, 1, none⟩ = some (.int .i64 k) := hgr.cell c1' (by simpa using Ne.symm hne); have hcc : w3.cell? ⟨g, j, none⟩ = some (.int .i64 (medS s1.acc k)) := own_cell hrow (by rw [← HL.out, Hj.out]; exact med_at (by rw [HL.out, Hl1.out]; omega)); have Hgr := Lib.hid hgr; clear hgr hrow)
  go_ret
  have hk3 := Hkp.out.grown Hgr.out (fun x hx => by injection hx with hx; right; rw [← hx]; exact Hg0.out)
  exact ⟨rfl, Hv.out.keep hk3 (by simp) (by simp), HW.out.trans hk3 (by simp)⟩
theorem accepted_any (M : List Nat) (b : Nat) (s : VoteD) (fr n : Int) (w : World) (h : VoteAt w M b s) (h1 : 1 ≤ s.nodes) (h8 : s.nodes ≤ 8) :
  Calls Tryz.prog 78 #[.pointer (some ⟨b, 0, none⟩), .int .i64 fr, .int .i64 n] w fun e w' => e = .returned (.int .i64 (medS (accS s fr n) s.nodes.toNat)) ∧ VoteAt w' M b { s with acc := accS s fr n } ∧ Keeps [b] w w' := by
 have hk : s.nodes = (s.nodes.toNat : Int) := by omega
 unfold accS
 by_cases hf : 0 ≤ fr ∧ fr < s.nodes
 ·rw [if_pos hf]
  obtain ⟨i, rfl⟩ := Int.eq_ofNat_of_zero_le hf.1
  rw [Int.toNat_natCast]
  exact accepted_in M b s _ i _ n w h (by omega) (by omega) (by omega) hk rfl
 ·rw [if_neg hf]
  exact accepted_out M b s _ fr n w h (by rw [← hk]; exact hf) (by omega) (by omega) hk
end Go.Proofs.YtdaceeijifjpeaaGreatDoor.Lead
end
section
namespace Go.Proofs.YtdaceeijifjpeaaGreatDoor.Vi
open Go.RowKit Base Mem
open Go.Maps (Keyed)
section
variable {H : Type} {P : Program} {k e t : TypeId} {q : IntKind} {w w' : World} {b n r : Nat} {D : DataW H} {R : Value → Option (DataW H × List MemPlace)}
theorem om_keep {M : List Nat} (h : w.ownsMap P k R b n D) (hk : Keeps M w w') (hb : b ∉ M) : w'.ownsMap P k R b n D := by
 have hlt := h.lt
 obtain ⟨es, clock, h1, F, hs, hD⟩ := h
 exact ⟨es, clock, (hk.block b hlt hb).trans h1, F, hs, hD⟩
theorem turned_keeps (h : w.mapTurned w' b) : Keeps [b] w w' := (Keeps.refl _ _).grown h.grown (fun g hg => .inl (by cases hg; simp))
/-- The number at a key. -/
def numAt (q : IntKind) (D : DataW H) (kl : Lit) : Int := match D.atKey kl (.lit (.int q 0)) with | .lit (.int _ c) => c | _ => 0
theorem numAt_of {kl : Lit} {c : Int} (h : D.atKey kl (.lit (.int q 0)) = .lit (.int q c)) : numAt q D kl = c := by unfold numAt; rw [h]
theorem om_num (h : w.ownsMap P k (plainElem P e) b n D) (K : Keyed P k) (ht : P.underlying t = some (.map k e)) (he : P.underlying e = some (.int q)) (hz : (zeroValue e).run P w = .ok (.int q 0) w) {key : Value} {kl : Lit} (hkey : keyOf P k key = some kl) :
  (Instr.lookup t (.map (some b)) key false).run P w = .ok (.int q (numAt q D kl)) w ∧ D.atKey kl (.lit (.int q 0)) = .lit (.int q (numAt q D kl)) ∧ (Lit.int q (numAt q D kl)).wf = true := by
 obtain ⟨c, hrun, hat, hwf⟩ := h.lookup_int K ht he hz hkey
 rw [numAt_of hat]
 exact ⟨hrun, hat, hwf⟩
theorem numAt_empty (kl : Lit) : numAt q (DataW.map [] : DataW H) kl = 0 := rfl
/-- A value as an element. -/
def heldElem (v : Value) : Option (DataW Value × List MemPlace) := some (.held v, [])
end
section
variable {H : Type} {P : Program} (w : World) {ops : Array Oper} {rest : List Oper} {o : Oper} {a : Act} {Q : Exit → Act → World → Prop}
theorem wpl_look_num (hg : o.guard = none) (m x : Operand) (t : TypeId) (hop : o.op = Op.lookup t m x false)
  (k e : TypeId) (q : IntKind) (K : Keyed P k) (ht : P.underlying t = some (.map k e)) (he : P.underlying e = some (.int q)) (hz : (zeroValue e).run P w = .ok (.int q 0) w) (b n : Nat) (D : DataW H)
  (hm : a.eval m = .map (some b)) (hown : w.ownsMap P k (plainElem P e) b n D) (key : Value) (kl : Lit) (hx : a.eval x = key) (hkey : keyOf P k key = some kl)
  (hK : wpList P ops Q rest (a.put o.dst (.int q (numAt q D kl))) w) : wpList P ops Q (o :: rest) a w :=
 wpList_lookup_own_int w hg m x t hop k e q K ht he hz b n D hm hown key kl hx hkey (fun c hat _ => by rw [← numAt_of hat]; exact hK)
theorem wpl_look_has (hg : o.guard = none) (m x : Operand) (t : TypeId) (hop : o.op = Op.lookup t m x true)
  (k e : TypeId) (q : IntKind) (K : Keyed P k) (ht : P.underlying t = some (.map k e)) (he : P.underlying e = some (.int q)) (hz : (zeroValue e).run P w = .ok (.int q 0) w) (b n : Nat) (D : DataW H)
  (hm : a.eval m = .map (some b)) (hown : w.ownsMap P k (plainElem P e) b n D) (key : Value) (kl : Lit) (hx : a.eval x = key) (hkey : keyOf P k key = some kl)
  (hK : wpList P ops Q rest (a.put o.dst (.tuple #[.int q (numAt q D kl), .bool (Maps.has D kl)])) w) : wpList P ops Q (o :: rest) a w :=
 wpList_lookup_own_ok_int w hg m x t hop k e q K ht he hz b n D hm hown key kl hx hkey (fun c hat _ => by rw [← numAt_of hat]; exact hK)
theorem wpl_look_held (hg : o.guard = none) (m x : Operand) (t : TypeId) (hop : o.op = Op.lookup t m x true)
  (k e : TypeId) (K : Keyed P k) (ht : P.underlying t = some (.map k e)) {z : Value} (hz : (zeroValue e).run P w = .ok z w) (b n : Nat) (D : DataW Value)
  (hm : a.eval m = .map (some b)) (hown : w.ownsMap P k heldElem b n D) (key : Value) (kl : Lit) (hx : a.eval x = key) (hkey : keyOf P k key = some kl) (v : Value) (hv : D.atKey kl (.held z) = .held v)
  (hK : wpList P ops Q rest (a.put o.dst (.tuple #[v, .bool (Maps.has D kl)])) w) : wpList P ops Q (o :: rest) a w :=
 wpList_lookup_own_ok w hg m x t hop k e K ht heldElem hz (.held z) [] rfl b n D hm hown key kl hx hkey (fun u ps hu => by
  have h1 : (DataW.held u : DataW Value) = .held v := by rw [← hv]; unfold heldElem at hu; injection hu with hu; injection hu
  injection h1 with h1
  subst h1
  exact hK)
end
end Go.Proofs.YtdaceeijifjpeaaGreatDoor.Vi
end
section
namespace Go.Proofs.YtdaceeijifjpeaaGreatDoor.Vi
open Go.RowKit Base Mem
/-- A series as a key. -/
def skey (s : ByteArray) : Lit := .string s.data.toList
/-- What deltas come to, if they may be added one by one. -/
def mayL (DS : DataW Unit) : DataW Unit → List DeltaD → Option (DataW Unit)
 | more, [] => some more
 | more, d :: r =>
  if 18446744073709551615 - numAt .u64 more (skey d.ser) < d.n ∨ 18446744073709551615 - numAt .u64 DS (skey d.ser) < numAt .u64 more (skey d.ser) + d.n then none
  else mayL DS (more.put (skey d.ser) (.lit (.int .u64 (numAt .u64 more (skey d.ser) + d.n)))) r
/-- How many keys are new, of those that are left. -/
def leftN (DS more : DataW Unit) (left : Lit → Bool) : Nat := match more with | .map es => (es.filter fun p => left p.1 && !Maps.has DS p.1).length | _ => 0
def newS (DS more : DataW Unit) : Nat := leftN DS more (Maps.has more)
def mayS (DS : DataW Unit) (l : List DeltaD) : Int := match mayL DS (.map []) l with | none => 25 | some more => if 16 < Maps.size DS + newS DS more then 24 else 0
def addZ (a b : Int) : Int := if 18446744073709551615 < a + b then 18446744073709551615 else a + b
def addL : DataW Unit → List DeltaD → DataW Unit
 | DS, [] => DS
 | DS, d :: r => addL (DS.put (skey d.ser) (.lit (.int .u64 (addZ (numAt .u64 DS (skey d.ser)) d.n)))) r
theorem strike_left (DS : DataW Unit) (left : Lit → Bool) (kl : Lit) (hk : WideAt.IsKeyLit kl) (hl : left kl = true) : ∀ es : List (Lit × DataW Unit), es.Pairwise (fun p q => p.1 ≠ q.1) →
  ((∃ p ∈ es, p.1 = kl) → (es.filter fun p => left p.1 && !Maps.has DS p.1).length = (es.filter fun p => (left p.1 && !p.1.sameKey kl) && !Maps.has DS p.1).length + (if Maps.has DS kl = true then 0 else 1)) ∧
  ((∀ p ∈ es, p.1 ≠ kl) → (es.filter fun p => left p.1 && !Maps.has DS p.1).length = (es.filter fun p => (left p.1 && !p.1.sameKey kl) && !Maps.has DS p.1).length)
 | [], _ => ⟨fun ⟨_, h, _⟩ => by simp at h, fun _ => rfl⟩
 | y :: r, h => by
  obtain ⟨h1, h2⟩ := List.pairwise_cons.1 h
  obtain ⟨i1, i2⟩ := strike_left DS left kl hk hl r h2
  refine ⟨?_, ?_⟩
  ·rintro ⟨p, hp, he⟩
   by_cases hy : y.1 = kl
   ·have hr : ∀ p ∈ r, p.1 ≠ kl := fun p hp e => h1 p hp (by rw [hy, e])
    have i2' := i2 hr
    rw [List.filter_cons, List.filter_cons, hy, hl, WideAt.sameKey_self hk]
    cases hd : Maps.has DS kl <;> simp [i2']
   ·have hs := Maps.sameKey_ne hy
    have hin : ∃ p ∈ r, p.1 = kl := by
     rcases List.mem_cons.1 hp with rfl | hp
     ·exact absurd he hy
     ·exact ⟨p, hp, he⟩
    have i1' := i1 hin
    have hc : ((left y.1 && !y.1.sameKey kl) && !Maps.has DS y.1) = (left y.1 && !Maps.has DS y.1) := by rw [hs, Bool.not_false, Bool.and_true]
    rw [List.filter_cons, List.filter_cons, hc]
    split
    ·rw [List.length_cons, List.length_cons, i1']; omega
    ·exact i1'
  ·intro hall
   have hs := Maps.sameKey_ne (hall y (by simp))
   have i2' := i2 (fun p hp => hall p (by simp [hp]))
   have hc : ((left y.1 && !y.1.sameKey kl) && !Maps.has DS y.1) = (left y.1 && !Maps.has DS y.1) := by rw [hs, Bool.not_false, Bool.and_true]
   rw [List.filter_cons, List.filter_cons, hc]
   split
   ·rw [List.length_cons, List.length_cons, i2']
   ·exact i2'
theorem leftN_step {DS more : DataW Unit} (ht : Maps.Tidy more) {left : Lit → Bool} {kl : Lit} (hk : WideAt.IsKeyLit kl) (hl : left kl = true) (hh : Maps.has more kl = true) :
  leftN DS more left = leftN DS more (fun z => left z && !z.sameKey kl) + (if Maps.has DS kl = true then 0 else 1) := by
 obtain ⟨es, rfl, hp⟩ := ht
 obtain ⟨p, hp1, hp2⟩ := List.any_eq_true.1 hh
 exact (strike_left DS left kl hk hl es hp).1 ⟨p, hp1, WideAt.sameKey_eq hp2⟩
theorem leftN_end {DS more : DataW Unit} {left : Lit → Bool} (h : ∀ kl, left kl = false) : leftN DS more left = 0 := by
 unfold leftN
 cases more <;> try rfl
 simp [h]
theorem leftN_le (DS more : DataW Unit) (left : Lit → Bool) : leftN DS more left ≤ Maps.size more := by
 unfold leftN Maps.size
 cases more <;> try exact Nat.le_refl _
 exact List.length_filter_le _ _
theorem size_put_le {D : DataW Unit} (h : Maps.Tidy D) (kl : Lit) (d : DataW Unit) : Maps.size (D.put kl d) ≤ Maps.size D + 1 := by
 rw [Maps.size_put h]
 split <;> omega
end Go.Proofs.YtdaceeijifjpeaaGreatDoor.Vi
end
section
namespace Go.Proofs.YtdaceeijifjpeaaGreatDoor.Win
/-- Has number n been seen? All up to f are; behind it those of the mask. -/
def seenW (f : Int) (m : Nat) (n : Int) : Bool := decide (n ≤ f) || (decide (n - f - 1 < 64) && m.testBit (n - f - 1).toNat)
def farW (f : Int) (n : Int) : Bool := decide (f < n) && decide (64 ≤ n - f - 1)
def normW : Nat → Int → Nat → Int × Nat
 | 0, f, m => (f, m)
 | k + 1, f, m => if m % 2 = 1 then normW k (f + 1) (m / 2) else (f, m)
/-- The window with a number more. -/
def addW (f : Int) (m : Nat) (n : Int) : Int × Nat := normW 64 f (m ||| 2 ^ (n - f - 1).toNat)
theorem or_lt {m j : Nat} (hm : m < 2 ^ 64) (hj : j < 64) : m ||| 2 ^ j < 2 ^ 64 := Nat.or_lt_two_pow hm (Nat.pow_lt_pow_right (by omega) hj)
end Go.Proofs.YtdaceeijifjpeaaGreatDoor.Win
end
section
namespace Go.Proofs.YtdaceeijifjpeaaGreatDoor.Vi
open Go.RowKit Base Mem Tape
/-- A shard: its floor, its mask, its refused batches. -/
structure ShD where
 f : Int
 m : Nat
 bad : List Int
structure McD where
 DS : DataW Unit
 DE : DataW Unit
 sh : Lit → Option ShD
def McD.get (st : McD) (kl : Lit) : ShD := (st.sh kl).getD ⟨0, 0, []⟩
open Classical in
noncomputable def McD.set (st : McD) (kl : Lit) (s : ShD) : McD := { st with sh := fun k => if k = kl then some s else st.sh k }
theorem McD.get_set (st : McD) (kl : Lit) (s : ShD) : (st.set kl s).get kl = s := by simp [McD.get, McD.set]
theorem McD.get_other (st : McD) {kl k : Lit} (s : ShD) (h : k ≠ kl) : (st.set kl s).get k = st.get k := by simp [McD.get, McD.set, h]
theorem McD.sh_set (st : McD) (kl : Lit) (s : ShD) : (st.set kl s).sh kl = some s := by simp [McD.set]
theorem McD.sh_other (st : McD) {kl k : Lit} (s : ShD) (h : k ≠ kl) : (st.set kl s).sh k = st.sh k := by simp [McD.set, h]
def ShD.seen (s : ShD) (n : Int) : Bool := Win.seenW s.f s.m n
def ShD.add (s : ShD) (n : Int) : ShD := { s with f := (Win.addW s.f s.m n).1, m := (Win.addW s.f s.m n).2 }
/-- A number put among others, in order. -/
def insI (l : List Int) (n : Int) : List Int := (l ++ [n]).mergeSort (fun a b => decide (a ≤ b))
/-- A batch is counted, or refused for good. -/
noncomputable def countM (st : McD) (kl : Lit) (e : EntryD) : Int × McD :=
 if mayS st.DS e.ds = 0 then (1, ({ st with DS := addL st.DS e.ds } : McD).set kl ((st.get kl).add e.seq))
 else if 8 ≤ (st.get kl).bad.length then (5, st)
 else (3, st.set kl ({ (st.get kl) with bad := insI (st.get kl).bad e.seq }.add e.seq))
def ekey (a : Int) : Lit := .int .i64 a
def stE (st : McD) (e : EntryD) : McD := { st with DE := st.DE.put (ekey e.ag) (.lit (.int .i64 e.ep)) }
/-- An entry's answer: code, number, and what the machine is then. -/
noncomputable def applyM (st : McD) (kl : Lit) (e : EntryD) : Int × Int × McD :=
 if rightE e = 0 then
  if e.kind = 2 then (8, numAt .u64 st.DS (skey e.ser), st)
  else if (st.get kl).seen e.seq = true then (if e.seq ∈ (st.get kl).bad then 3 else 2, 0, st)
  else if e.ep < numAt .i64 st.DE (ekey e.ag) then (4, 0, st)
  else if Win.farW (st.get kl).f e.seq = true then (5, 0, stE st e)
  else ((countM (stE st e) kl e).1, 0, (countM (stE st e) kl e).2)
 else (0, 0, st)
/-- A window lies in block g: its floor, its mask. -/
def WnAt (w : World) (g : Nat) (f : Int) (m : Nat) : Prop := Blk w g 265 #[.int .i64 f, .int .u64 m] ∧ 0 ≤ f ∧ f ≤ 4611686018427387904 ∧ m < 18446744073709551616
theorem WnAt.keep {w w' : World} {M : List Nat} {g : Nat} {f : Int} {m : Nat} (h : WnAt w g f m) (hk : Keeps M w w') (hg : g ∉ M) : WnAt w' g f m := ⟨hk.blk h.1 hg, h.2⟩
theorem wnnew_any (w : World) :
  Calls Tryz.prog 202 #[] w fun e w' => e = .returned (.pointer (some ⟨w.heap.size, 0, none⟩)) ∧ WnAt w' w.heap.size 0 0 ∧ Below w.heap.size w w' := by
 have hR : Hid (WnAt (w.alloc (.cells #[.int .i64 0, .int .u64 0] 265)) w.heap.size 0 0) := ⟨Blk.new w _ _, by omega, by omega, by omega⟩
 go_enter Tryz.func202, Tryz.ntmps202
 go_wp2
 go_ret
 exact ⟨rfl, hR.out, below_new' w _⟩
theorem wnat_any (g : Nat) (f : Int) (m : Nat) (n : Int) (w : World) (h : WnAt w g f m) (hn : n ≤ 9223372036854775807) (hf : f < n) :
  Calls Tryz.prog 203 #[.pointer (some ⟨g, 0, none⟩), .int .i64 n] w fun e w' => e = .returned (.int .u64 (n - f - 1)) ∧ w = w' := by
 obtain ⟨hb, h0, h1, h2⟩ := h
 have c0 := hb.cell 0; have c1 := hb.cell 1
 simp only [List.getElem?_toArray, List.getElem?_cons_succ, List.getElem?_cons_zero] at c0 c1
 clear hb
 have e1 : IntKind.u64.wrap n = n := by rw [IntKind.wrap_u64]; omega
 have e2 : IntKind.u64.wrap f = f := by rw [IntKind.wrap_u64]; omega
 have e3 : IntKind.u64.wrap (n - f) = n - f := by rw [IntKind.wrap_u64]; omega
 have e4 : IntKind.u64.wrap (n - f - 1) = n - f - 1 := by rw [IntKind.wrap_u64]; omega
 go_enter Tryz.func203, Tryz.ntmps203
 go_wp2
 go_ret
 exact ⟨rfl, rfl⟩
theorem wnfar_any (g : Nat) (f : Int) (m : Nat) (n : Int) (w : World) (h : WnAt w g f m) (hn : n ≤ 9223372036854775807) :
  Calls Tryz.prog 154 #[.pointer (some ⟨g, 0, none⟩), .int .i64 n] w fun e w' => e = .returned (.bool (Win.farW f n)) ∧ w = w' := by
 have hat := Lib.hid (fun hf => wnat_any g f m n w h hn hf)
 obtain ⟨hb, h0, h1, h2⟩ := h
 have c0 := hb.cell 0; have c1 := hb.cell 1
 simp only [List.getElem?_toArray, List.getElem?_cons_succ, List.getElem?_cons_zero] at c0 c1
 clear hb
 by_cases hf : f < n
 ·have hp : Hid (∀ b, b = Win.farW f n → Ending.returned (.bool b) = .returned (.bool (Win.farW f n))) := fun b h => by rw [h]
  have hfi : decide (f < n) = true := decide_eq_true hf
  have hq : Hid (decide (64 ≤ n - f - 1) = Win.farW f n) := by show _ = _; unfold Win.farW; rw [decide_eq_true hf, Bool.true_and]
  have Hat := Lib.hid (hat.out hf)
  clear hat
  generalize Win.farW f n = r at *
  go_enter Tryz.func154, Tryz.ntmps154
  go_wp2_with fail
  refine Hat.out.mono ?_
  rintro e w1 ⟨rfl, rfl⟩
  have hq' := hq.out
  go_wp2
  go_ret
  exact ⟨rfl, rfl⟩
 ·have hfi : decide (f < n) = false := decide_eq_false hf
  have hq : Hid (Win.farW f n = false) := by show _ = _; unfold Win.farW; rw [decide_eq_false hf, Bool.false_and]
  rw [hq.out]
  clear hat
  go_enter Tryz.func154, Tryz.ntmps154
  go_wp2
  go_ret
  exact ⟨rfl, rfl⟩
set_option maxRecDepth 100000 in
theorem wnseen_any (g : Nat) (f : Int) (m : Nat) (n : Int) (w : World) (h : WnAt w g f m) (hn : n ≤ 9223372036854775807) :
  Calls Tryz.prog 152 #[.pointer (some ⟨g, 0, none⟩), .int .i64 n] w fun e w' => e = .returned (.bool (Win.seenW f m n)) ∧ ∃ q, w' = w.drewN q := by
 have HW : Hid (∀ q, WnAt (w.drewN q) g f m) := fun q => h.keep (M := []) ((Keeps.refl _ _).drewN q) (by simp)
 have HF : Hid (∀ q, Calls Tryz.prog 154 #[.pointer (some ⟨g, 0, none⟩), .int .i64 n] (w.drewN q) fun e w' => e = .returned (.bool (Win.farW f n)) ∧ w.drewN q = w') := fun q => wnfar_any g f m n _ (HW.out q) hn
 have HA : Hid (f < n → ∀ q, Calls Tryz.prog 203 #[.pointer (some ⟨g, 0, none⟩), .int .i64 n] (w.drewN q) fun e w' => e = .returned (.int .u64 (n - f - 1)) ∧ w.drewN q = w') := fun hf q => wnat_any g f m n _ (HW.out q) hn hf
 obtain ⟨hb, h0, h1, h2⟩ := h
 have c0 := hb.cell 0; have c1 := hb.cell 1
 simp only [List.getElem?_toArray, List.getElem?_cons_succ, List.getElem?_cons_zero] at c0 c1
 clear hb HW
 by_cases hf : n ≤ f
 ·have hfi : decide (n ≤ f) = true := decide_eq_true hf
  have hq : Hid (Win.seenW f m n = true) := by show _ = _; unfold Win.seenW; rw [decide_eq_true hf, Bool.true_or]
  rw [hq.out]
  clear HF HA
  go_enter Tryz.func152, Tryz.ntmps152
  go_wp2_with fail
  go_quiet (fail)
  go_wp2
  go_ret
  exact ⟨rfl, nq, rfl⟩
 ·have hfi : decide (n ≤ f) = false := decide_eq_false hf
  have HA2 := Lib.hid (HA.out (by omega))
  clear HA
  cases hfar : Win.farW f n with
  | true =>
   rw [hfar] at HF
   have hq : Hid (Win.seenW f m n = false) := by
    show _ = _
    unfold Win.farW at hfar
    unfold Win.seenW
    rw [Bool.and_eq_true, decide_eq_true_eq, decide_eq_true_eq] at hfar
    rw [hfi, Bool.false_or, decide_eq_false (by omega), Bool.false_and]
   rw [hq.out]
   clear HA2
   go_enter Tryz.func152, Tryz.ntmps152
   go_wp2_with fail
   go_quiet ((go_at_call 154; exact quiet_left (HF.out _)))
   go_wp2
   go_ret
   exact ⟨rfl, nq, rfl⟩
  | false =>
   rw [hfar] at HF
   have hj : Hid (0 ≤ n - f - 1 ∧ n - f - 1 < 64) := by
    show _ ∧ _
    unfold Win.farW at hfar
    rw [Bool.and_eq_false_iff, decide_eq_false_iff_not, decide_eq_false_iff_not] at hfar
    omega
   obtain ⟨j, Hj⟩ : ∃ j : Nat, Hid (n - f - 1 = (j : Int)) := ⟨(n - f - 1).toNat, by show _ = _; have := hj.out; omega⟩
   have hj64 : j < 64 := by have := hj.out; have := Hj.out; omega
   rw [Hj.out] at HA2
   clear hj
   go_enter Tryz.func152, Tryz.ntmps152
   go_wp2_with fail
   go_quiet (first | (go_at_call 154; exact quiet_left (HF.out _)) | (go_at_call 203; exact quiet_left (HA2.out _)))
   go_wp2
   go_ret
   have e1 : ((m : Int) / 2 ^ j) = ((m / 2 ^ j : Nat) : Int) := by rw [Int.natCast_ediv, Int.natCast_pow]; rfl
   have hlt : m / 2 ^ j < 18446744073709551616 := Nat.lt_of_le_of_lt (Nat.div_le_self _ _) h2
   have e2 : bits .and .u64 ((m : Int) / 2 ^ j) 1 = ((m / 2 ^ j % 2 : Nat) : Int) := by
    rw [e1, show (1 : Int) = ((1 : Nat) : Int) from rfl, u64_and_nat _ _ hlt (by omega), Nat.and_one_is_mod]
   have hq : Win.seenW f m n = (bits .and .u64 ((m : Int) / 2 ^ j) 1 == 1) := by
    unfold Win.seenW
    rw [hfi, Bool.false_or, Hj.out, decide_eq_true (show (j : Int) < 64 by omega), Bool.true_and, Int.toNat_natCast, e2, Nat.testBit_eq_decide_div_mod_eq, Bool.eq_iff_iff, decide_eq_true_eq, beq_iff_eq]
    omega
   rw [hq]
   exact ⟨rfl, nq, rfl⟩

theorem bdrewW {B : Nat} {a w : World} (h : Below B a w) : Below B a w.drew := ⟨h.os, h.tape, h.output, h.size, h.block⟩
theorem wnat_cells {w : World} {g : Nat} {f : Int} {m : Nat} (h : WnAt w g f m) : w.cell? ⟨g, 0, none⟩ = some (.int .i64 f) ∧ w.cell? ⟨g, 1, none⟩ = some (.int .u64 m) ∧ w.frozen? ⟨g, 0, none⟩ = false ∧ w.frozen? ⟨g, 1, none⟩ = false :=
 ⟨h.1.cell 0, h.1.cell 1, h.1.frozen 0, h.1.frozen 1⟩
theorem normW_even_stop {k : Nat} {f : Int} {m : Nat} (h : m % 2 = 0) : Win.normW k f m = (f, m) := by
 cases k with
 | zero => rfl
 | succ k => rw [Win.normW, if_neg (by omega)]
def wnLeft (g : Nat) (w : World) : Nat := match w.cell? ⟨g, 1, none⟩ with | some (.int _ c) => c.toNat | _ => 0
theorem wnLeft_of {w : World} {g : Nat} {f : Int} {m : Nat} (h : WnAt w g f m) : wnLeft g w = m := by
 unfold wnLeft
 rw [(wnat_cells h).2.1]
 exact Int.toNat_natCast _
def WdPost (g : Nat) (r : Int × Nat) (w : World) (e : Ending) (w' : World) : Prop := e = .returned (.bool true) ∧ WnAt w' g r.1 r.2 ∧ Keeps [g] w w'
set_option maxRecDepth 100000 in
set_option maxHeartbeats 2000000 in
theorem wnadd_any (g : Nat) (f : Int) (m : Nat) (n : Int) (w : World) (h : WnAt w g f m) (hn : n ≤ 9223372036854775807) (hs : Win.seenW f m n = false) (hfar : Win.farW f n = false) (hf : f ≤ 4611686018427387000) :
  Calls Tryz.prog 207 #[.pointer (some ⟨g, 0, none⟩), .int .i64 n] w fun e w' => WdPost g (Win.addW f m n) w e w' := by
 have hlt : f < n := by
  unfold Win.seenW at hs
  rw [Bool.or_eq_false_iff, decide_eq_false_iff_not] at hs
  omega
 have hj64 : n - f - 1 < 64 := by
  unfold Win.farW at hfar
  rw [Bool.and_eq_false_iff, decide_eq_false_iff_not, decide_eq_false_iff_not] at hfar
  omega
 obtain ⟨j, Hj⟩ : ∃ j : Nat, Hid (n - f - 1 = (j : Int)) := ⟨(n - f - 1).toNat, by show _ = _; omega⟩
 have hj : j < 64 := by have := Hj.out; omega
 have HF := Lib.hid (wnfar_any g f m n w h hn)
 have HS := Lib.hid (wnseen_any g f m n w h hn)
 rw [hfar] at HF
 rw [hs] at HS
 obtain ⟨hb, h0, h1, h2⟩ := id h
 have HA0 : Hid (Win.addW f m n = Win.normW 64 f (m ||| 2 ^ j)) := by show _ = _; unfold Win.addW; rw [Hj.out, Int.toNat_natCast]
 have HW := Lib.hid h
 clear h hs hfar hb hj64
 go_enter Tryz.func207, Tryz.ntmps207
 go_wp2_with fail
 refine HF.out.mono ?_
 rintro e w1 ⟨rfl, rfl⟩
 clear HF
 go_wp2_with fail
 refine HS.out.mono ?_
 rintro e w1 ⟨rfl, nq, rfl⟩
 clear HS
 have HW1 : Hid (WnAt (w.drewN nq) g f m) := HW.out.keep (M := []) ((Keeps.refl _ _).drewN nq) (by simp)
 have Hk1 : Hid (Keeps [] w (w.drewN nq)) := (Keeps.refl _ _).drewN nq
 go_upto_region 3 with (fail)
 generalize w.drewN nq = wa at *
 have HSB : Hid (∀ W, Below wa.heap.size wa W → WnAt W g f m) := fun W hb => HW1.out.keep (M := []) (Keeps.of_below hb) (by simp)
 have HAT : Hid (∀ W, Below wa.heap.size wa W → Calls Tryz.prog 203 #[.pointer (some ⟨g, 0, none⟩), .int .i64 n] W fun e w' => e = .returned (.int .u64 j) ∧ W = w') := fun W hb => by
  have := wnat_any g f m n W (HSB.out W hb) hn hlt
  rw [Hj.out] at this
  exact this
 obtain ⟨m2, Hm2⟩ : ∃ m2 : Nat, Hid (m2 = m ||| 2 ^ j) := ⟨_, rfl⟩
 have hm2 : m2 < 18446744073709551616 := by rw [Hm2.out]; exact Win.or_lt h2 hj
 have hwj : IntKind.u64.wrap (2 ^ j) = (2 : Int) ^ j := by
  have hp64 : (2 : Nat) ^ j < 2 ^ 64 := Nat.pow_lt_pow_right (by omega) hj
  rw [show (2 : Int) ^ j = ((2 ^ j : Nat) : Int) by rw [Int.natCast_pow]; rfl, IntKind.wrap_u64]
  generalize (2 : Nat) ^ j = p at *
  omega
 have hor : bits .or .u64 (m : Int) (2 ^ j) = (m2 : Int) := by
  have hp64 : (2 : Nat) ^ j < 2 ^ 64 := Nat.pow_lt_pow_right (by omega) hj
  rw [show (2 : Int) ^ j = ((2 ^ j : Nat) : Int) by rw [Int.natCast_pow]; rfl, Hm2.out]
  exact u64_or_nat m (2 ^ j) h2 hp64
 obtain ⟨w0, w1, x0, x1⟩ := wnat_cells HW1.out
 go_cut [] (fun wx => Hid (WnAt wx g f m2) ∧ Hid (Keeps [g] w wx))
 case first =>
  go_region_with (go_at_call 203; refine (HAT.out _ (bdrewW (Below.refl _ wa))).mono ?_; rintro e w7 ⟨rfl, rfl⟩)
  all_goals
   have hF : Hid (WnAt ((wa.setCell ⟨g, 1, none⟩ (.int .u64 m2)).drew) g f m2) := by
    have hb := HW1.out.1.set_ 1 (.int .u64 m2)
    refine ⟨?_, h0, h1, hm2⟩
    show Blk (wa.setCell ⟨g, 1, none⟩ (.int .u64 m2)) g _ _
    simpa using hb
   have hK : Hid (Keeps [g] w ((wa.setCell ⟨g, 1, none⟩ (.int .u64 m2)).drew)) := ((Hk1.out.mono (M' := [g]) (by simp)).setCell (by simp) _).drew
   go_wp2_with fail
   go_meet
   exact ⟨hF, hK⟩
 case rest =>
  clear w0 w1 x0 x1 hor hwj HSB HAT HW1 Hk1
  rw [← Hm2.out] at HA0
  go_wp2_with fail
  go_loopw [] (fun wr => ∃ (k : Nat) (f' : Int) (m' : Nat), m' < 2 ^ k ∧ f' + k ≤ f + 64 ∧ Hid (WnAt wr g f' m') ∧ Hid (Win.addW f m n = Win.normW k f' m') ∧ Hid (Keeps [g] w wr)) (fun wr => wnLeft g wr)
  case atStart => exact ⟨64, f, m2, hm2, by omega, hcut.1, HA0, hcut.2⟩
  case round =>
   obtain ⟨k, f', m', hmk, hfk, HWr, HAr, HKr⟩ := hrel
   obtain ⟨_, hf0, hf1, hm64⟩ := HWr.out
   obtain ⟨c0, c1, z0, z1⟩ := wnat_cells HWr.out
   have hand : bits .and .u64 (m' : Int) 1 = ((m' % 2 : Nat) : Int) := by
    rw [show (1 : Int) = ((1 : Nat) : Int) from rfl, u64_and_nat _ _ hm64 (by omega), Nat.and_one_is_mod]
   by_cases hodd : m' % 2 = 1
   ·rw [hodd] at hand
    have hand1 : bits .and .u64 (m' : Int) 1 = 1 := hand
    clear hand
    obtain ⟨k, rfl⟩ : ∃ k', k = k' + 1 := by
     rcases k with _ | k
     ·rw [Nat.pow_zero] at hmk; omega
     ·exact ⟨k, rfl⟩
    have hfb : f' < 4611686018427387904 := by omega
    have hWn : Hid (WnAt ((wr.setCell ⟨g, 0, none⟩ (.int .i64 (f' + 1))).setCell ⟨g, 1, none⟩ (.int .u64 ((m' / 2 : Nat) : Int))) g (f' + 1) (m' / 2)) := by
     have hb := (HWr.out.1.set_ 0 (.int .i64 (f' + 1))).set_ 1 (.int .u64 ((m' / 2 : Nat) : Int))
     refine ⟨?_, by omega, by omega, by omega⟩
     simpa using hb
    have hKn : Hid (Keeps [g] w ((wr.setCell ⟨g, 0, none⟩ (.int .i64 (f' + 1))).setCell ⟨g, 1, none⟩ (.int .u64 ((m' / 2 : Nat) : Int)))) := (HKr.out.setCell (by simp) _).setCell (by simp) _
    have hAn : Hid (Win.addW f m n = Win.normW k (f' + 1) (m' / 2)) := by
     show _ = _
     rw [HAr.out, Win.normW, if_pos hodd]
    have hl1 := wnLeft_of HWr.out
    have hl2 := wnLeft_of hWn.out
    go_wp2_with fail
    go_roundw
    case rel => exact ⟨k, f' + 1, m' / 2, by rw [Nat.pow_succ] at hmk; omega, by omega, hWn, hAn, hKn⟩
    case measure => rw [hl1]; exact Nat.lt_of_le_of_lt (Nat.le_of_eq hl2) (by omega)
   ·have heven : m' % 2 = 0 := by omega
    rw [heven] at hand
    have hand0 : bits .and .u64 (m' : Int) 1 = 0 := hand
    clear hand
    have hP : Hid (WdPost g (Win.addW f m n) w (.returned (.bool true)) wr) := by
     refine ⟨rfl, ?_, HKr.out⟩
     rw [HAr.out, normW_even_stop heven]
     exact HWr.out
    go_wp2
    go_ret
    exact hP.out
end Go.Proofs.YtdaceeijifjpeaaGreatDoor.Vi
end
section
namespace Go.Proofs.YtdaceeijifjpeaaGreatDoor.Vi
open Go.RowKit Base Mem
open Go.Maps (Keyed)
theorem uStr : Tryz.prog.underlying 9 = some .string := by kernel_rfl
theorem uInt : Tryz.prog.underlying 3 = some (.int .i64) := by kernel_rfl
theorem uI64 : Tryz.prog.underlying 2 = some (.int .i64) := by kernel_rfl
theorem uU64 : Tryz.prog.underlying 34 = some (.int .u64) := by kernel_rfl
theorem uMS : Tryz.prog.underlying 137 = some (.map 9 34) := by kernel_rfl
theorem uME : Tryz.prog.underlying 95 = some (.map 3 2) := by kernel_rfl
theorem zU64 (w : World) : (zeroValue 34).run Tryz.prog w = .ok (.int .u64 0) w := by kernel_rfl
theorem zI64 (w : World) : (zeroValue 2).run Tryz.prog w = .ok (.int .i64 0) w := by kernel_rfl
theorem lawS : Keyed Tryz.prog 9 := Maps.string_keyed uStr
theorem lawI : Keyed Tryz.prog 3 := Maps.int_keyed uInt
def I64 (n : Int) : Prop := -9223372036854775808 ≤ n ∧ n ≤ 9223372036854775807
theorem skey_of {s : ByteArray} (h : s.size ≤ 9223372036854775807) : keyOf Tryz.prog 9 (.string s) = some (skey s) := Go.WideMaps.keyOf_string_mk uStr h
/-- Sums lie in block g, their map in block b. -/
def SmAt (w : World) (g b N : Nat) (D : DataW Unit) : Prop := Blk w g 139 #[.map (some b)] ∧ w.ownsMap Tryz.prog 9 (plainElem Tryz.prog 34) b N D ∧ g ≠ b
theorem SmAt.keep {w w' : World} {g b N : Nat} {D : DataW Unit} {M : List Nat} (h : SmAt w g b N D) (hk : Keeps M w w') (hg : g ∉ M) (hb : b ∉ M) : SmAt w' g b N D := ⟨hk.blk h.1 hg, om_keep h.2.1 hk hb, h.2.2⟩
def SmNew (w : World) (e : Ending) (w' : World) : Prop := ∃ g b, e = .returned (.pointer (some ⟨g, 0, none⟩)) ∧ SmAt w' g b 0 (.map []) ∧ w.heap.size ≤ g ∧ w.heap.size ≤ b ∧ Below w.heap.size w w'
theorem smnew_any (w : World) : Calls Tryz.prog 65 #[] w fun e w' => SmNew w e w' := by
 have hmm := @run_makeMap Tryz.prog
 have hR : Hid (SmNew w (.returned (.pointer (some ⟨w.heap.size + 1, 0, none⟩))) ((w.alloc (.map #[] 0)).alloc (.cells #[.map (some w.heap.size)] 139))) := by
  refine ⟨w.heap.size + 1, w.heap.size, rfl, ⟨?_, World.ownsMap.alloc (World.ownsMap_made _ _ _ _) _, by omega⟩, by omega, by omega, (below_new' w _).alloc (by simp) _⟩
  have := Blk.new (w.alloc (.map #[] 0)) 139 #[.map (some w.heap.size)]
  simpa using this
 go_enter Tryz.func65, Tryz.ntmps65
 go_wp2
 go_ret
 exact hR.out
theorem smget_any (g b N : Nat) (D : DataW Unit) (s : ByteArray) (w : World) (h : SmAt w g b N D) (hs : s.size ≤ 9223372036854775807) :
  Calls Tryz.prog 150 #[.pointer (some ⟨g, 0, none⟩), .string s] w fun e w' => e = .returned (.int .u64 (numAt .u64 D (skey s))) ∧ w = w' := by
 have c0 := h.1.cell 0
 simp only [List.getElem?_toArray, List.getElem?_cons_succ, List.getElem?_cons_zero] at c0
 have hown := Lib.hid h.2.1
 clear h
 go_enter Tryz.func150, Tryz.ntmps150
 go_wp2_with (at_lookup; refine wpl_look_num _ rfl _ _ 137 rfl 9 34 .u64 lawS uMS uU64 (zU64 _) b N D rfl hown.out _ _ rfl (skey_of hs) ?_)
 go_wp2
 go_ret
 exact ⟨rfl, rfl⟩
end Go.Proofs.YtdaceeijifjpeaaGreatDoor.Vi
end
section
namespace Go.Proofs.YtdaceeijifjpeaaGreatDoor.Vi
open Go.RowKit Base Mem Tape
open Go.Maps (Keyed)
theorem uMH : Tryz.prog.underlying 96 = some (.map 262 217) := by kernel_rfl
theorem zPS (w : World) : (zeroValue 217).run Tryz.prog w = .ok (.pointer none) w := by kernel_rfl
theorem laidOutP : laidOutB Tryz.prog = true := by kernel_rfl
theorem rowP : (262 : TypeId) < Tryz.prog.types.size := of_decide_eq_true (by kernel_rfl)
theorem wideP : (match Tryz.prog.underlying 262 with | some (.array _ _) | some (.struct _) => true | _ => false) = true := by kernel_rfl
set_option maxRecDepth 100000 in
theorem lawP : Keyed Tryz.prog 262 := Keyed.of_law (deep_law_laid laidOutP (m := 3) (by omega) rowP (by kernel_rfl) wideP)
/-- A shard's key. -/
noncomputable def pk (a s : Int) : Lit := (keyOf Tryz.prog 262 (.agg #[.int .i64 a, .int .i64 s])).getD (.bool false)
theorem ekey_of {a : Int} (h : I64 a) : keyOf Tryz.prog 3 (.int .i64 a) = some (ekey a) := Maps.keyOf_int_mk uInt (WalkArith.wf_i64 h)
theorem posP : 0 < Tryz.prog.types.size := of_decide_eq_true (by kernel_rfl)
theorem pk_of {a s : Int} (ha : I64 a) (hs : I64 s) : keyOf Tryz.prog 262 (.agg #[.int .i64 a, .int .i64 s]) = some (pk a s) := by
 have hwa := WalkArith.wf_i64 ha
 have hws := WalkArith.wf_i64 hs
 have hu := Tryz.underlying262
 have hui := uInt
 have hk : Tryz.prog.keyType 262 = true := by kernel_rfl
 have hc : Tryz.prog.cellsOf 262 = 2 := by kernel_rfl
 have hci : Tryz.prog.cellsOf 3 = 1 := by kernel_rfl
 have hf : (Value.agg #[.int .i64 a, .int .i64 s]).formed Tryz.prog 262 = true := by simp [Value.formed, hu, hc]
 obtain ⟨m, hm⟩ := Nat.exists_eq_succ_of_ne_zero (Nat.ne_of_gt posP)
 have hl : Tryz.prog.keyLits (Tryz.prog.types.size + 1) 262 [.int .i64 a, .int .i64 s] = some [.int .i64 a, .int .i64 s] := by
  rw [hm]
  unfold Program.keyLits
  rw [hu]
  simp [hc, hci, Program.keyLits, hui, hwa, hws]
 unfold pk
 have hall : ∃ l, keyOf Tryz.prog 262 (.agg #[.int .i64 a, .int .i64 s]) = some l := by
  unfold keyOf
  rw [hu]
  simp only [hk, hf, Bool.and_self, if_true]
  exact ⟨_, by rw [show (Value.agg #[.int .i64 a, .int .i64 s]).cells.toList = [.int .i64 a, .int .i64 s] from rfl, hl]; rfl⟩
 obtain ⟨l, hl2⟩ := hall
 rw [hl2]
 rfl
/-- A shard lies in block p; F are its blocks. -/
def ShAt (w : World) (p : Nat) (F : List Nat) (s : ShD) : Prop :=
 ∃ pw v, Blk w p 221 #[.pointer (some ⟨pw, 0, none⟩), v] ∧ WnAt w pw s.f s.m ∧ w.ownsRow 0 2 1 v s.bad.length (s.bad.map (Value.int .i64)) ∧ p ∈ F ∧ pw ∈ F ∧ p ≠ pw ∧
  (∀ g, v.ownBlock = some g → g ∈ F ∧ g ≠ p ∧ g ≠ pw) ∧ s.bad.length ≤ 8 ∧ ∀ n ∈ s.bad, I64 n
theorem own_other2 {M : List Nat} {w w1 : World} {base : Nat} {e : TypeId} {size n : Nat} {v : Value} {xs : List Value} (h : w.ownsRow base e size v n xs) (hk : Keeps M w w1) (hM : ∀ g, v.ownBlock = some g → g ∉ M) : w1.ownsRow base e size v n xs := by
 obtain ⟨hl, h⟩ := h
 refine ⟨hl, ?_⟩
 rcases h with h | ⟨g, cap, cur, hv, hb, hg, rest⟩
 ·exact .inl h
 ·exact .inr ⟨g, cap, cur, hv, hb, (hk.block g (Array.getElem?_eq_some_iff.1 hg).1 (hM g (by rw [hv]; rfl))).trans hg, rest⟩
theorem ShAt.keep {w w' : World} {p : Nat} {F M : List Nat} {s : ShD} (h : ShAt w p F s) (hk : Keeps M w w') (hM : ∀ g ∈ F, g ∉ M) : ShAt w' p F s := by
 obtain ⟨pw, v, h1, h2, h3, h4, h5, h6, h7, h8⟩ := h
 exact ⟨pw, v, hk.blk h1 (hM p h4), h2.keep hk (hM pw h5), own_other2 h3 hk (fun g hg => hM g (h7 g hg).1), h4, h5, h6, h7, h8⟩
structure McC where
 gs : Nat
 bm : Nat
 be : Nat
 bs : Nat
 pt : Lit → Nat
 fp : Lit → List Nat
def McC.core (c : McC) (g : Nat) : List Nat := [g, c.gs, c.bm, c.be, c.bs]
structure McIn (w : World) (g : Nat) (c : McC) (X : List Nat) (st : McD) (N : Nat) (DH : DataW Value) : Prop where
 b0 : Blk w g 98 #[.pointer (some ⟨c.gs, 0, none⟩), .map (some c.be), .map (some c.bs)]
 sm : SmAt w c.gs c.bm N st.DS
 m2 : w.ownsMap Tryz.prog 3 (plainElem Tryz.prog 2) c.be N st.DE
 m3 : w.ownsMap Tryz.prog 262 heldElem c.bs N DH
 nd : (c.core g).Nodup
 sh : ∀ kl s, st.sh kl = some s → Maps.has DH kl = true ∧ DH.atKey kl (.held (.pointer none)) = .held (.pointer (some ⟨c.pt kl, 0, none⟩)) ∧ ShAt w (c.pt kl) (c.fp kl) s ∧ ∀ x ∈ c.fp kl, x ∉ c.core g
 no : ∀ kl, st.sh kl = none → Maps.has DH kl = false
 dj : ∀ kl kl', kl ≠ kl' → st.sh kl ≠ none → st.sh kl' ≠ none → ∀ x ∈ c.fp kl, x ∉ c.fp kl'
 inX : ∀ x ∈ c.core g, x ∈ X
 fpX : ∀ kl, st.sh kl ≠ none → ∀ x ∈ c.fp kl, x ∈ X
/-- A machine lies in block g; X are its blocks. -/
def McAt (w : World) (g : Nat) (X : List Nat) (st : McD) (N : Nat) : Prop := ∃ c DH, McIn w g c X st N DH
theorem McIn.keep {w w' : World} {g : Nat} {c : McC} {X M : List Nat} {st : McD} {N : Nat} {DH : DataW Value} (h : McIn w g c X st N DH) (hk : Keeps M w w') (hM : ∀ x ∈ X, x ∉ M) : McIn w' g c X st N DH where
 b0 := hk.blk h.b0 (hM _ (h.inX _ (by simp [McC.core])))
 sm := h.sm.keep hk (hM _ (h.inX _ (by simp [McC.core]))) (hM _ (h.inX _ (by simp [McC.core])))
 m2 := om_keep h.m2 hk (hM _ (h.inX _ (by simp [McC.core])))
 m3 := om_keep h.m3 hk (hM _ (h.inX _ (by simp [McC.core])))
 nd := h.nd
 sh := fun kl s hs => by
  obtain ⟨h1, h2, h3, h4⟩ := h.sh kl s hs
  exact ⟨h1, h2, h3.keep hk (fun x hx => hM x (h.fpX kl (by rw [hs]; simp) x hx)), h4⟩
 no := h.no
 dj := h.dj
 inX := h.inX
 fpX := h.fpX
theorem McAt.keep {w w' : World} {g : Nat} {X M : List Nat} {st : McD} {N : Nat} (h : McAt w g X st N) (hk : Keeps M w w') (hM : ∀ x ∈ X, x ∉ M) : McAt w' g X st N := by
 obtain ⟨c, DH, h⟩ := h
 exact ⟨c, DH, h.keep hk hM⟩
theorem McIn.more {w : World} {g : Nat} {c : McC} {X : List Nat} {st : McD} {N N' : Nat} {DH : DataW Value} (h : McIn w g c X st N DH) (hN : N ≤ N') : McIn w g c X st N' DH :=
 ⟨h.b0, ⟨h.sm.1, h.sm.2.1.mono hN, h.sm.2.2⟩, h.m2.mono hN, h.m3.mono hN, h.nd, h.sh, h.no, h.dj, h.inX, h.fpX⟩
theorem ShAt.lt {w : World} {p : Nat} {F : List Nat} {s : ShD} (h : ShAt w p F s) : p < w.heap.size := by
 obtain ⟨pw, v, h1, _⟩ := h
 exact h1.lt
end Go.Proofs.YtdaceeijifjpeaaGreatDoor.Vi
end
