/- Contracts of slices.Grow (at nil) and slices.Concat (of two) at idents. -/
import Derived.Test.YtinnifhnabncfaaSets5
namespace Go.Proofs.Ytinnifhnabncfaa.Sets
open Go.RowKit Base Mem Go.Shelf Go.Lib
theorem infoIdent : (Try.prog.info? 58).map (fun i => (i.zero, i.size, i.bytes)) = some (some (.agg #[.int .i64 0, .int .i64 0, .int .i64 0]), 3, 24) := by kernel_rfl
theorem iCells_len (l : List IdentD) : (l.flatMap iEnc).length = l.length * 3 := flat_len iEnc 3 (fun _ => rfl) l
theorem iCells_one (l : List IdentD) : ∀ u ∈ l.flatMap iEnc, u.oneCell' = true := by
  intro u hu
  obtain ⟨d, _, hd⟩ := List.mem_flatMap.1 hu
  simp [iEnc] at hd
  rcases hd with rfl | rfl | rfl <;> rfl
def GrowPost (w : World) (e : Ending) (w' : World) : Prop := ∃ v, e = .returned v ∧ w'.ownsRow w.heap.size 58 3 v 0 [] ∧ Below w.heap.size w w'
theorem grow_any (n : Nat) (w : World) (hn : n ≤ 2097152) :
    Calls Try.prog 74 #[.slice none 0 0, .int .i64 n] w fun e w' => GrowPost w e w' := by
  obtain ⟨i0, hi0, hz0, hz1, hz2⟩ := info_parts infoIdent
  by_cases h0 : n = 0
  · subst h0
    have h := Any8.slices_Grow_room Try.growIdent none 0 0 0 w (by omega) (by omega) (by omega) (by omega)
    refine Calls.mono h ?_
    rintro e w' ⟨rfl, rfl⟩
    exact ⟨_, rfl, World.ownsRow_nil _ _ _ _, Below.refl _ _⟩
  · have h := Any8.slices_Grow_grow Try.growIdent i0 _ hi0 hz0 (by omega) none 0 0 n [] w (by omega) (by omega) (by rw [hz2]; omega) (by omega) (by simp) (fun _ => rfl) (fun _ h => by cases h)
    refine Calls.mono h ?_
    rintro e w' ⟨rfl, rfl⟩
    have hge := grownCap_ge w (0 + n) 0 58
    have hle := grownCap_le_maxLen w (0 + n) 0 58 (by unfold maxLen; omega)
    refine ⟨_, rfl, ⟨by simp, .inr ⟨w.heap.size, _, _, rfl, Nat.le_refl _, heap_alloc_new _ _, Nat.zero_le _, hle, ?_, by simp⟩⟩, below_new (((Keeps.refl [] w).drew).below) _⟩
    simp only [Array.size_append, size_zeroCells, List.size_toArray, List.length_nil]
    have ht : Try.growIdent_ren.t 25 = 58 := rfl
    rw [ht]
    show 0 + (0 + n - 0) * 3 + (_ - (0 + n)) * 3 = _
    omega
def CatPost (la lb : List IdentD) (w : World) (e : Ending) (w' : World) : Prop := ∃ v, e = .returned v ∧ w'.ownsRow w.heap.size 58 3 v (la.length + lb.length) ((la ++ lb).flatMap iEnc) ∧ Below w.heap.size w w'
set_option maxRecDepth 100000 in
theorem concat_any (gs : Nat) (va vb : Value) (la lb : List IdentD) (w : World) (ha : Ids w [] va la) (hb : Ids w [] vb lb) (hla : la.length ≤ 1048576) (hlb : lb.length ≤ 1048576)
    (hgs : gs < w.heap.size) (h0 : w.cell? ⟨gs, 0, none⟩ = some va) (h1 : w.cell? ⟨gs, 1, none⟩ = some vb) :
    Calls Try.prog 54 #[.slice (some ⟨gs, 0, none⟩) 2 2] w fun e w' => CatPost la lb w e w' := by
  have Ha := Lib.hid ha; have Hb := Lib.hid hb
  obtain ⟨Aa, ca, rfl, hca⟩ := ha.len
  obtain ⟨Ab, cb, rfl, hcb⟩ := hb.len
  obtain ⟨i0, hi0, hz0, hz1, hz2⟩ := info_parts infoIdent
  have Hi0 := Lib.hid hi0; have Hz0 := Lib.hid hz0; have Hz1 := Lib.hid hz1; have Hz2 := Lib.hid hz2
  clear ha hb hi0 hz0 hz1 hz2
  go_enter Try.func54, Try.ntmps54
  go_wp2_with fail
  go_slots
  go_loopw [3, 11] (fun n j wr => ∃ x y q : Nat, n = .int .i64 y ∧ j = .int .i64 x ∧ x ≤ 2 ∧ Hid ((x = 0 → y = 0) ∧ (x = 1 → y = la.length) ∧ (x = 2 → y = la.length + lb.length)) ∧ wr = w.drewN q) (fun _ j _ => 2 - (intOf j).toNat)
  case atStart => exact ⟨0, 0, 0, rfl, rfl, by omega, ⟨by omega, by omega, by omega⟩, rfl⟩
  case round =>
    obtain ⟨x, y, q, rfl, rfl, hx, Hy, rfl⟩ := hrel
    rcases (show x = 0 ∨ x = 1 ∨ x = 2 by omega) with rfl | rfl | rfl
    · obtain rfl : y = 0 := Hy.out.1 rfl
      go_wp2
      go_roundw
      case rel => exact ⟨1, la.length, q, by go_num, by go_num, by omega, ⟨by omega, by omega, by omega⟩, rfl⟩
      case measure => simp [intOf]
    · obtain rfl : y = la.length := Hy.out.2.1 rfl
      go_wp2
      go_roundw
      case rel => exact ⟨2, la.length + lb.length, q, by go_num, by go_num, by omega, ⟨by omega, by omega, by omega⟩, rfl⟩
      case measure => simp [intOf]
    · obtain rfl : y = la.length + lb.length := Hy.out.2.2 rfl
      have hgr := Lib.hid (show Calls Try.prog 74 #[.slice none 0 0, .int .i64 ((la.length : Int) + lb.length)] (w.drewN q) (GrowPost (w.drewN q)) by
        have := grow_any (la.length + lb.length) (w.drewN q) (by omega)
        rwa [Int.natCast_add] at this)
      go_wp2_with fail
      refine hgr.out.mono ?_
      rintro e w1 ⟨v0, rfl, hown0, hb0⟩
      have Hown0 := Lib.hid (show w1.ownsRow w.heap.size 58 3 v0 0 [] from hown0)
      have Hb0 := Lib.hid (show Below w.heap.size w w1 from ⟨hb0.os, hb0.tape, hb0.output, hb0.size, hb0.block⟩)
      have k0 : w1.cell? ⟨gs, 0, none⟩ = some (.slice Aa la.length ca) := (Hb0.out.cell (p := ⟨gs, 0, none⟩) hgs).trans h0
      have k1 : w1.cell? ⟨gs, 1, none⟩ = some (.slice Ab lb.length cb) := (Hb0.out.cell (p := ⟨gs, 1, none⟩) hgs).trans h1
      clear hown0 hb0 Hy hgr
      go_wp2_with fail
      go_slots
      go_loopw [6, 27] (fun out j wr => ∃ x : Nat, j = .int .i64 x ∧ x ≤ 2 ∧ Hid (Below w.heap.size w wr) ∧ Hid ((x = 0 → wr.ownsRow w.heap.size 58 3 out 0 []) ∧ (x = 1 → wr.ownsRow w.heap.size 58 3 out la.length (la.flatMap iEnc)) ∧ (x = 2 → wr.ownsRow w.heap.size 58 3 out (la.length + lb.length) ((la ++ lb).flatMap iEnc)))) (fun _ j _ => 2 - (intOf j).toNat)
      case atStart => exact ⟨0, rfl, by omega, Hb0.out, ⟨fun _ => Hown0.out, by omega, by omega⟩⟩
      case round =>
        obtain ⟨x, rfl, hx, Hbr, Hor⟩ := hrel
        have k0 : wr.cell? ⟨gs, 0, none⟩ = some (.slice Aa la.length ca) := (Hbr.out.cell (p := ⟨gs, 0, none⟩) hgs).trans h0
        have k1 : wr.cell? ⟨gs, 1, none⟩ = some (.slice Ab lb.length cb) := (Hbr.out.cell (p := ⟨gs, 1, none⟩) hgs).trans h1
        rcases (show x = 0 ∨ x = 1 ∨ x = 2 by omega) with rfl | rfl | rfl
        · have Hown := Lib.hid (Hor.out.1 rfl)
          have Hrd := Lib.hid ((Ha.out.keep (Keeps.of_below (M := []) Hbr.out) (by simp)).reads)
          obtain ⟨A1, c1, e1, _, hrd⟩ := Hrd.out
          injection e1 with e1 _ e2
          subst e1 e2
          have Hrd2 := Lib.hid hrd
          clear hrd Hrd
          go_wp2_with (at_builtin; refine wpList_append_any _ rfl (.tmp 31) (.tmp 32) _ rfl w.heap.size 58 i0 _ 3 24 Try.underlying54 Hi0.out Hz0.out Hz1.out Hz2.out rfl (by omega) u6 0 [] rfl Hown.out wr.heap.size Aa la.length ca (la.flatMap iEnc) rfl Hrd2.out (iCells_one la) (by unfold maxLen; omega) (by omega) Hbr.out.size ?_)
          intro v' w4 hown4 hg4 hat4
          have Hown4 : Hid (w4.ownsRow w.heap.size 58 3 v' la.length (la.flatMap iEnc)) := by show World.ownsRow _ _ _ _ _ _ _; simpa using hown4
          have Hb4 := Lib.hid (Hbr.out.grown hg4 Hbr.out.size (fun g hg => (Hown.out.lt g hg).1))
          clear hown4 hg4 hat4
          go_wp2
          go_roundw
          case rel => exact ⟨1, by go_num, by omega, Hb4, ⟨by omega, fun _ => Hown4.out, by omega⟩⟩
          case measure => simp [intOf]
        · have Hown := Lib.hid (Hor.out.2.1 rfl)
          have Hrd := Lib.hid ((Hb.out.keep (Keeps.of_below (M := []) Hbr.out) (by simp)).reads)
          obtain ⟨A1, c1, e1, _, hrd⟩ := Hrd.out
          injection e1 with e1 _ e2
          subst e1 e2
          have Hrd2 := Lib.hid hrd
          clear hrd Hrd
          go_wp2_with (at_builtin; refine wpList_append_any _ rfl (.tmp 31) (.tmp 32) _ rfl w.heap.size 58 i0 _ 3 24 Try.underlying54 Hi0.out Hz0.out Hz1.out Hz2.out rfl (by omega) u6 la.length (la.flatMap iEnc) rfl Hown.out wr.heap.size Ab lb.length cb (lb.flatMap iEnc) rfl Hrd2.out (iCells_one lb) (by unfold maxLen; omega) (by omega) Hbr.out.size ?_)
          intro v' w4 hown4 hg4 hat4
          have Hown4 : Hid (w4.ownsRow w.heap.size 58 3 v' (la.length + lb.length) ((la ++ lb).flatMap iEnc)) := by show World.ownsRow _ _ _ _ _ _ _; rw [List.flatMap_append]; exact hown4
          have Hb4 := Lib.hid (Hbr.out.grown hg4 Hbr.out.size (fun g hg => (Hown.out.lt g hg).1))
          clear hown4 hg4 hat4
          go_wp2
          go_roundw
          case rel => exact ⟨2, by go_num, by omega, Hb4, ⟨by omega, by omega, fun _ => Hown4.out⟩⟩
          case measure => simp [intOf]
        · have hp : CatPost la lb w (.returned u6) wr := ⟨u6, rfl, Hor.out.2.2 rfl, Hbr.out⟩
          go_wp2
          go_ret
          exact hp
end Go.Proofs.Ytinnifhnabncfaa.Sets
