/- Texts put together: CatLay, Cat, FrB, FrR, Dk1, Dk2, Ref1, Ref2, RfP, Ref3, Lab1. -/
import Derived.Shelf.SlGeneric
import Derived.Shelf.Spec.SlicesGrow
import Derived.Test.YtinnifhnabncfaaGreatDoorProg
import Derived.ArgAppend
import Derived.Laws.IdiomCopy
import Derived.Deep.RegionHeld3
import Derived.Lib.Strings
import Derived.BigQuiet
import Derived.Test.YtinnifhnabncfaaGreatDoorVP1
set_option linter.unusedVariables false
set_option linter.unusedSimpArgs false
section
namespace Go.Proofs
open Go.Shelf
def Tryz.growU8_ren : Go.Shelf.Ren := ⟨fun | 4 => 187 | n => n, fun | 22 => 36 | 25 => 5 | 3 => 3 | 4 => 4 | 9 => 9 | 20 => 20 | 0 => 0 | n => n, fun | n => n⟩
theorem Tryz.growU8 : Go.Proofs.Lays8.n4 Tryz.prog Tryz.growU8_ren := {
 mixed := by kernel_rfl
 f4 := ⟨Tryz.f187.name, by decide, Tryz.func187.trans (congrArg some (by kernel_rfl))⟩
 t0 := Tryz.underlying0
 a0 := Tryz.isAgg0
 z0 := Tryz.sizeOf0
 v0 := Tryz.zeroValue0
 t3 := Tryz.underlying3
 a3 := Tryz.isAgg3
 z3 := Tryz.sizeOf3
 v3 := Tryz.zeroValue3
 t4 := Tryz.underlying4
 a4 := Tryz.isAgg4
 z4 := Tryz.sizeOf4
 v4 := Tryz.zeroValue4
 t9 := Tryz.underlying9
 a9 := Tryz.isAgg9
 z9 := Tryz.sizeOf9
 v9 := Tryz.zeroValue9
 t20 := Tryz.underlying20
 a20 := Tryz.isAgg20
 z20 := Tryz.sizeOf20
 v20 := Tryz.zeroValue20
 t22 := Tryz.underlying36
 a22 := Tryz.isAgg36
 z22 := Tryz.sizeOf36
 v22 := Tryz.zeroValue36 }
end Go.Proofs
end
section
namespace Go.Proofs.YtinnifhnabncfaaGreatDoor.Vi
open Go.RowKit Base Mem Go.Shelf
def GrowPost (w : World) (e : Ending) (w' : World) : Prop := ∃ v, e = .returned v ∧ w'.ownsRow w.heap.size 5 1 v 0 [] ∧ Below w.heap.size w w'
theorem growB_any (n : Nat) (w : World) (hn : n ≤ 2097152) :
  Calls Tryz.prog 187 #[.slice none 0 0, .int .i64 n] w fun e w' => GrowPost w e w' := by
 obtain ⟨i0, hi0, hz0, hz1, hz2⟩ := info_parts infoU8
 by_cases h0 : n = 0
 ·subst h0
  have h := Any8.slices_Grow_room Tryz.growU8 none 0 0 0 w (by omega) (by omega) (by omega) (by omega)
  refine Calls.mono h ?_
  rintro e w' ⟨rfl, rfl⟩
  exact ⟨_, rfl, World.ownsRow_nil _ _ _ _, Below.refl _ _⟩
 ·have h := Any8.slices_Grow_grow Tryz.growU8 i0 _ hi0 hz0 (by omega) none 0 0 n [] w (by omega) (by omega) (by rw [hz2]; omega) (by omega) (by simp) (fun _ => rfl) (fun _ h => by cases h)
  refine Calls.mono h ?_
  rintro e w' ⟨rfl, rfl⟩
  have hge := grownCap_ge w (0 + n) 0 5
  have hle := grownCap_le_maxLen w (0 + n) 0 5 (by unfold maxLen; omega)
  refine ⟨_, rfl, ⟨by simp, .inr ⟨w.heap.size, _, _, rfl, Nat.le_refl _, heap_alloc_new _ _, Nat.zero_le _, hle, ?_, by simp⟩⟩, below_new (((Keeps.refl [] w).drew).below) _⟩
  simp only [Array.size_append, size_zeroCells, List.size_toArray, List.length_nil]
  have ht : Tryz.growU8_ren.t 25 = 5 := rfl
  rw [ht]
  show 0 + (0 + n - 0) * 1 + (_ - (0 + n)) * 1 = _
  omega
def CatPost (la lb : List UInt8) (w : World) (e : Ending) (w' : World) : Prop := ∃ v, e = .returned v ∧ w'.ownsRow w.heap.size 5 1 v (la.length + lb.length) ((la ++ lb).map bV) ∧ Below w.heap.size w w'
set_option maxRecDepth 100000 in
theorem concatB_any (gs : Nat) (va vb : Value) (la lb : List UInt8) (w : World) (ha : Bs w [] va la) (hb : Bs w [] vb lb) (hla : la.length ≤ 1048576) (hlb : lb.length ≤ 1048576)
  (hgs : gs < w.heap.size) (h0 : w.cell? ⟨gs, 0, none⟩ = some va) (h1 : w.cell? ⟨gs, 1, none⟩ = some vb) :
  Calls Tryz.prog 155 #[.slice (some ⟨gs, 0, none⟩) 2 2] w fun e w' => CatPost la lb w e w' := by
 have Ha := Lib.hid ha; have Hb := Lib.hid hb
 obtain ⟨Aa, ca, rfl, hca⟩ := ha.len
 obtain ⟨Ab, cb, rfl, hcb⟩ := hb.len
 obtain ⟨i0, hi0, hz0, hz1, hz2⟩ := info_parts infoU8
 have Hi0 := Lib.hid hi0; have Hz0 := Lib.hid hz0; have Hz1 := Lib.hid hz1; have Hz2 := Lib.hid hz2
 clear ha hb hi0 hz0 hz1 hz2
 go_enter Tryz.func155, Tryz.ntmps155
 go_wp2_with fail
 go_loopw [3, 11] (fun n j wr => ∃ x y q : Nat, n = .int .i64 y ∧ j = .int .i64 x ∧ x ≤ 2 ∧ Hid ((x = 0 → y = 0) ∧ (x = 1 → y = la.length) ∧ (x = 2 → y = la.length + lb.length)) ∧ wr = w.drewN q) (fun _ j _ => 2 - (intOf j).toNat)
 case atStart => exact ⟨0, 0, 0, rfl, rfl, by omega, ⟨by omega, by omega, by omega⟩, rfl⟩
 case round =>
  obtain ⟨x, y, q, rfl, rfl, hx, Hy, rfl⟩ := hrel
  rcases (show x = 0 ∨ x = 1 ∨ x = 2 by omega) with rfl | rfl | rfl
  ·obtain rfl : y = 0 := Hy.out.1 rfl
   go_wp2
   go_roundw
   case rel => exact ⟨1, la.length, q, by go_num, by go_num, by omega, ⟨by omega, by omega, by omega⟩, rfl⟩
   case measure => simp [intOf]
  ·obtain rfl : y = la.length := Hy.out.2.1 rfl
   go_wp2
   go_roundw
   case rel => exact ⟨2, la.length + lb.length, q, by go_num, by go_num, by omega, ⟨by omega, by omega, by omega⟩, rfl⟩
   case measure => simp [intOf]
  ·obtain rfl : y = la.length + lb.length := Hy.out.2.2 rfl
   have hgr := Lib.hid (show Calls Tryz.prog 187 #[.slice none 0 0, .int .i64 ((la.length : Int) + lb.length)] (w.drewN q) (GrowPost (w.drewN q)) by
    have := growB_any (la.length + lb.length) (w.drewN q) (by omega)
    rwa [Int.natCast_add] at this)
   go_wp2_with fail
   refine hgr.out.mono ?_
   rintro e w1 ⟨v0, rfl, hown0, hb0⟩
   have Hown0 := Lib.hid (show w1.ownsRow w.heap.size 5 1 v0 0 [] from hown0)
   have Hb0 := Lib.hid (show Below w.heap.size w w1 from ⟨hb0.os, hb0.tape, hb0.output, hb0.size, hb0.block⟩)
   have k0 : w1.cell? ⟨gs, 0, none⟩ = some (.slice Aa la.length ca) := (Hb0.out.cell (p := ⟨gs, 0, none⟩) hgs).trans h0
   have k1 : w1.cell? ⟨gs, 1, none⟩ = some (.slice Ab lb.length cb) := (Hb0.out.cell (p := ⟨gs, 1, none⟩) hgs).trans h1
   clear hown0 hb0 Hy hgr
   go_wp2_with fail
   go_loopw [6, 27] (fun out j wr => ∃ x : Nat, j = .int .i64 x ∧ x ≤ 2 ∧ Hid (Below w.heap.size w wr) ∧ Hid ((x = 0 → wr.ownsRow w.heap.size 5 1 out 0 []) ∧ (x = 1 → wr.ownsRow w.heap.size 5 1 out la.length (la.map bV)) ∧ (x = 2 → wr.ownsRow w.heap.size 5 1 out (la.length + lb.length) ((la ++ lb).map bV)))) (fun _ j _ => 2 - (intOf j).toNat)
   case atStart => exact ⟨0, rfl, by omega, Hb0.out, ⟨fun _ => Hown0.out, by omega, by omega⟩⟩
   case round =>
    obtain ⟨x, rfl, hx, Hbr, Hor⟩ := hrel
    have k0 : wr.cell? ⟨gs, 0, none⟩ = some (.slice Aa la.length ca) := (Hbr.out.cell (p := ⟨gs, 0, none⟩) hgs).trans h0
    have k1 : wr.cell? ⟨gs, 1, none⟩ = some (.slice Ab lb.length cb) := (Hbr.out.cell (p := ⟨gs, 1, none⟩) hgs).trans h1
    rcases (show x = 0 ∨ x = 1 ∨ x = 2 by omega) with rfl | rfl | rfl
    ·have Hown := Lib.hid (Hor.out.1 rfl)
     have Hrd := Lib.hid ((Ha.out.keep (Keeps.of_below (M := []) Hbr.out) (by simp)).reads)
     obtain ⟨A1, c1, e1, _, hrd⟩ := Hrd.out
     injection e1 with e1 _ e2
     subst e1 e2
     have Hrd2 := Lib.hid hrd
     clear hrd Hrd
     go_wp2_with (at_builtin; refine wpList_append_any _ rfl (.tmp 31) (.tmp 32) _ rfl w.heap.size 5 i0 _ 1 1 Tryz.underlying36 Hi0.out Hz0.out Hz1.out Hz2.out rfl (by omega) u6 0 [] rfl Hown.out wr.heap.size Aa la.length ca (la.map bV) rfl Hrd2.out (bV_one la) (by unfold maxLen; omega) (by omega) Hbr.out.size ?_)
     intro v' w4 hown4 hg4 hat4
     have Hown4 : Hid (w4.ownsRow w.heap.size 5 1 v' la.length (la.map bV)) := by show World.ownsRow _ _ _ _ _ _ _; simpa using hown4
     have Hb4 := Lib.hid (Hbr.out.grown hg4 Hbr.out.size (fun g hg => (Hown.out.lt g hg).1))
     clear hown4 hg4 hat4
     go_wp2
     go_roundw
     case rel => exact ⟨1, by go_num, by omega, Hb4, ⟨by omega, fun _ => Hown4.out, by omega⟩⟩
     case measure => simp [intOf]
    ·have Hown := Lib.hid (Hor.out.2.1 rfl)
     have Hrd := Lib.hid ((Hb.out.keep (Keeps.of_below (M := []) Hbr.out) (by simp)).reads)
     obtain ⟨A1, c1, e1, _, hrd⟩ := Hrd.out
     injection e1 with e1 _ e2
     subst e1 e2
     have Hrd2 := Lib.hid hrd
     clear hrd Hrd
     go_wp2_with (at_builtin; refine wpList_append_any _ rfl (.tmp 31) (.tmp 32) _ rfl w.heap.size 5 i0 _ 1 1 Tryz.underlying36 Hi0.out Hz0.out Hz1.out Hz2.out rfl (by omega) u6 la.length (la.map bV) rfl Hown.out wr.heap.size Ab lb.length cb (lb.map bV) rfl Hrd2.out (bV_one lb) (by unfold maxLen; omega) (by omega) Hbr.out.size ?_)
     intro v' w4 hown4 hg4 hat4
     have Hown4 : Hid (w4.ownsRow w.heap.size 5 1 v' (la.length + lb.length) ((la ++ lb).map bV)) := by show World.ownsRow _ _ _ _ _ _ _; rw [List.map_append]; exact hown4
     have Hb4 := Lib.hid (Hbr.out.grown hg4 Hbr.out.size (fun g hg => (Hown.out.lt g hg).1))
     clear hown4 hg4 hat4
     go_wp2
     go_roundw
     case rel => exact ⟨2, by go_num, by omega, Hb4, ⟨by omega, by omega, fun _ => Hown4.out⟩⟩
     case measure => simp [intOf]
    ·have hp : CatPost la lb w (.returned u6) wr := ⟨u6, rfl, Hor.out.2.2 rfl, Hbr.out⟩
     go_wp2
     go_ret
     exact hp
theorem own_more {w : World} {base base' : Nat} {e : TypeId} {size n : Nat} {v : Value} {xs : List Value} (h : w.ownsRow base e size v n xs) (hb : base' ≤ base) : w.ownsRow base' e size v n xs := by
 obtain ⟨hl, h⟩ := h
 refine ⟨hl, h.imp id ?_⟩
 rintro ⟨g, cap, cur, hv, hbg, rest⟩
 exact ⟨g, cap, cur, hv, Nat.le_trans hb hbg, rest⟩
def FrPost (l : List UInt8) (w : World) (e : Ending) (w' : World) : Prop := ∃ A c, e = .returned (.tuple #[.slice A (frameL l).length c, .int .i64 0]) ∧ (∀ M, (∀ g ∈ M, g < w.heap.size) → Bs w' M (.slice A (frameL l).length c) (frameL l)) ∧ Below w.heap.size w w'
theorem frame_long (v : Value) (l : List UInt8) (w : World) (h : Bs w [] v l) (hl : 65536 < l.length) :
  Calls Tryz.prog 99 #[v] w fun e w' => e = .returned (.tuple #[.slice none 0 0, .int .i64 3]) ∧ w = w' := by
 obtain ⟨A, c, rfl, _⟩ := h.len
 have hi : (65536 : Int) < (l.length : Int) := by omega
 clear h
 go_enter Tryz.func99, Tryz.ntmps99
 go_wp2
 go_ret2
 exact ⟨rfl, rfl⟩
set_option maxRecDepth 100000 in
set_option maxHeartbeats 1000000 in
theorem frame_any (v : Value) (l : List UInt8) (w : World) (h : Bs w [] v l) (hl : l.length ≤ 65536) :
  Calls Tryz.prog 99 #[v] w fun e w' => FrPost l w e w' := by
 obtain ⟨i0, hi0, hz0, hz1, hz2⟩ := info_parts infoU8
 have Hi0 := Lib.hid hi0; have Hz0 := Lib.hid hz0; have Hz1 := Lib.hid hz1; have Hz2 := Lib.hid hz2
 obtain ⟨A, c, rfl, hc⟩ := h.len
 have Hh := Lib.hid h
 have hput := put_any (.slice none 0 0) [] l.length w (Bs.nil _ _) (by omega) (by simp)
 rw [List.nil_append] at hput
 have Hput := Lib.hid hput
 have hul := Lib.uvarint_length64 (x := l.length) (by omega)
 have hup := Lib.uvarint_pos l.length
 have HF : Hid (frameL l = Lib.uvarint l.length ++ (leL (crcOf l) ++ l)) := rfl
 have hcr := Lib.hid (fun W (hk : Keeps [] w W) => crcof_any (.slice A l.length c) l W (h.keep hk (by simp)) (by omega))
 have hs := crcOf_lt l
 clear h hi0 hz0 hz1 hz2 hput
 generalize crcOf l = s at *
 generalize Lib.uvarint l.length = uv at *
 obtain ⟨n, hn⟩ : ∃ n, n = uv.length := ⟨_, rfl⟩
 have Hn := Lib.hid hn
 rw [← hn] at hul hup
 have hwl : IntKind.u64.wrap (l.length : Int) = (l.length : Int) := by rw [IntKind.wrap_u64]; omega
 have hli : decide ((65536 : Int) < (l.length : Int)) = false := decide_eq_false (by omega)
 clear hn
 go_enter Tryz.func99, Tryz.ntmps99
 go_wp2_with fail
 refine Hput.out.mono ?_
 rintro e w1 ⟨A1, rfl, hB1, hb1⟩
 obtain ⟨g1, o1, rfl⟩ := (hB1 [] (by simp)).some_ (by have := Hn.out; omega)
 rw [← Hn.out] at hB1 ⊢
 have HB1 := Lib.hid (hB1 [] (by simp)); have Hb1 := Lib.hid hb1
 have Hc1 := Lib.hid (hcr.out w1 (Keeps.of_below hb1))
 clear hB1 hb1 hcr Hput
 go_wp2_with fail
 refine Hc1.out.mono ?_
 rintro e w' ⟨rfl, rfl⟩
 clear Hc1
 go_wp2_with fail
 go_loopw [4, 16] (fun out i wr => ∃ x : Nat, i = .int .i64 x ∧ x ≤ 4 ∧ Hid ((x = 0 → out = .slice (some ⟨g1, o1, none⟩) n n ∧ Bs wr [] out uv) ∧ (0 < x → wr.ownsRow w.heap.size 5 1 out (n + x) ((uv ++ (leL s).take x).map bV))) ∧ Hid (Below w.heap.size w wr)) (fun _ i _ => 4 - (intOf i).toNat)
 case atStart => exact ⟨0, rfl, by omega, ⟨fun _ => ⟨rfl, HB1.out⟩, by omega⟩, Hb1.out⟩
 case round =>
  obtain ⟨x, rfl, hx, Hor, Hbr⟩ := hrel
  rcases (show x = 0 ∨ x = 1 ∨ x = 2 ∨ x = 3 ∨ x = 4 by omega) with rfl | rfl | rfl | rfl | rfl
  ·have hone : Hid (bV (UInt8.ofNat (s)) = .int .u8 ((s : Int) % 256)) := by show _ = _; rw [bV_low]; try (congr 1)
   have Hrd := Lib.hid (reads_new wr 5 1 1 [.int .u8 ((s : Int) % 256)] rfl)
   obtain ⟨rfl, hB⟩ := Hor.out.1 rfl
   obtain ⟨_, _, eA, hg, _⟩ := (show ∃ g off, (some ⟨g1, o1, none⟩ : Option Addr) = some ⟨g, off, none⟩ ∧ g < wr.heap.size ∧ True by
    obtain ⟨A', c', e2, _, _, hr⟩ := hB
    injection e2 with e2 _ _
    subst e2
    obtain ⟨g', off', e3, hg', _, _⟩ := hr (by have := Hn.out; omega)
    exact ⟨g', off', e3, hg', trivial⟩)
   injection eA with eA
   injection eA with eg eo _
   subst eg eo
   have HBw := Lib.hid hB
   have Hcells : Hid (∀ (j : Nat) u, (uv.map bV)[j]? = some u → (wr.alloc (.cells #[.int .u8 ((s : Int) % 256)] 5)).cell? ⟨g1, o1 + j, none⟩ = some u) := fun j u hu => by
    obtain ⟨A', c', e2, _, _, hr⟩ := HBw.out
    injection e2 with e2 _ _
    subst e2
    obtain ⟨g', off', e3, hg', _, hx⟩ := hr (by have := Hn.out; omega)
    injection e3 with e3
    injection e3 with e3 e4 _
    subst e3 e4
    rw [World.cell?_alloc_lt wr _ ⟨g1, o1 + j, none⟩ hg]
    exact hx j u hu
   clear hB
   go_wp2_with (at_builtin; refine wpList_append_arg _ rfl (.tmp 19) (.tmp 25) _ rfl 5 i0 _ 1 1 Tryz.underlying36 Hi0.out Hz0.out Hz1.out Hz2.out rfl (by omega) g1 o1 n n (uv.map bV) rfl (by have := Hn.out; simp; omega) Hcells.out ⟨wr.heap.size, 0, none⟩ 1 1 [.int .u8 ((s : Int) % 256)] rfl rfl (fun j u hu => (Hrd.out.2 (by omega)).elim fun ad h => by obtain ⟨e, _, hx⟩ := h; injection e with e; subst e; exact hx j u hu) (by intro u hu; simp at hu; subst hu; rfl) (fun h => by omega) (by unfold maxLen; omega) (by omega) (fun h => by omega) (fun _ => ?_))
   intro v' w4 hown4 hg4
   have Hown4 : Hid (w4.ownsRow w.heap.size 5 1 v' (n + 1) ((uv ++ (leL s).take 1).map bV)) := by
    show World.ownsRow _ _ _ _ _ _ _
    have e : (uv ++ (leL s).take 1).map bV = uv.map bV ++ [.int .u8 ((s : Int) % 256)] := by rw [← hone.out]; simp [leL]
    rw [e]
    exact own_more (base' := w.heap.size) hown4 (by have := Hbr.out.size; simp; omega)
   have Hb4 : Hid (Below w.heap.size w w4) := (Hbr.out.alloc Hbr.out.size _).grown hg4 (by have := Hbr.out.size; simp; omega) (by simp)
   clear hown4 hg4
   go_wp2
   go_roundw
   case rel => exact ⟨1, by go_num, by omega, ⟨by omega, fun _ => Hown4.out⟩, Hb4⟩
   case measure => simp [intOf]
  ·have hone : Hid (bV (UInt8.ofNat (s / 256)) = .int .u8 ((s : Int) / 256 % 256)) := by show _ = _; rw [bV_low]; try (congr 1)
   have Hrd := Lib.hid (reads_new wr 5 1 1 [.int .u8 ((s : Int) / 256 % 256)] rfl)
   have Hown3 := Lib.hid ((Hor.out.2 (by omega)).alloc (.cells #[.int .u8 ((s : Int) / 256 % 256)] 5))
   go_wp2_with (at_builtin; go_must (refine wpList_append_any _ rfl (.tmp 19) (.tmp 25) _ rfl w.heap.size 5 i0 _ 1 1 Tryz.underlying36 Hi0.out Hz0.out Hz1.out Hz2.out rfl (by omega) u4 (n + 1) ((uv ++ (leL s).take 1).map bV) rfl Hown3.out (wr.heap.size + 1) (some ⟨wr.heap.size, 0, none⟩) 1 1 [.int .u8 ((s : Int) / 256 % 256)] rfl Hrd.out (by intro u hu; simp at hu; subst hu; rfl) (by unfold maxLen; omega) (by omega) (by have := Hbr.out.size; simp; omega) ?_))
   intro v' w4 hown4 hg4 hat4
   have Hown4 : Hid (w4.ownsRow w.heap.size 5 1 v' (n + 2) ((uv ++ (leL s).take 2).map bV)) := by
    show World.ownsRow _ _ _ _ _ _ _
    have e : (uv ++ (leL s).take 2).map bV = (uv ++ (leL s).take 1).map bV ++ [.int .u8 ((s : Int) / 256 % 256)] := by rw [← hone.out]; simp [leL]
    rw [e]
    simpa [Nat.add_assoc] using hown4
   have Hb4 : Hid (Below w.heap.size w w4) := (Hbr.out.alloc Hbr.out.size _).grown hg4 (by have := Hbr.out.size; simp; omega) (fun g hg => ((Hor.out.2 (by omega)).lt g hg).1)
   clear hown4 hg4 hat4
   go_wp2
   go_roundw
   case rel => exact ⟨2, by go_num, by omega, ⟨by omega, fun _ => Hown4.out⟩, Hb4⟩
   case measure => simp [intOf]
  ·have hone : Hid (bV (UInt8.ofNat (s / 65536)) = .int .u8 ((s : Int) / 65536 % 256)) := by show _ = _; rw [bV_low]; try (congr 1)
   have Hrd := Lib.hid (reads_new wr 5 1 1 [.int .u8 ((s : Int) / 65536 % 256)] rfl)
   have Hown3 := Lib.hid ((Hor.out.2 (by omega)).alloc (.cells #[.int .u8 ((s : Int) / 65536 % 256)] 5))
   go_wp2_with (at_builtin; go_must (refine wpList_append_any _ rfl (.tmp 19) (.tmp 25) _ rfl w.heap.size 5 i0 _ 1 1 Tryz.underlying36 Hi0.out Hz0.out Hz1.out Hz2.out rfl (by omega) u4 (n + 2) ((uv ++ (leL s).take 2).map bV) rfl Hown3.out (wr.heap.size + 1) (some ⟨wr.heap.size, 0, none⟩) 1 1 [.int .u8 ((s : Int) / 65536 % 256)] rfl Hrd.out (by intro u hu; simp at hu; subst hu; rfl) (by unfold maxLen; omega) (by omega) (by have := Hbr.out.size; simp; omega) ?_))
   intro v' w4 hown4 hg4 hat4
   have Hown4 : Hid (w4.ownsRow w.heap.size 5 1 v' (n + 3) ((uv ++ (leL s).take 3).map bV)) := by
    show World.ownsRow _ _ _ _ _ _ _
    have e : (uv ++ (leL s).take 3).map bV = (uv ++ (leL s).take 2).map bV ++ [.int .u8 ((s : Int) / 65536 % 256)] := by rw [← hone.out]; simp [leL]
    rw [e]
    simpa [Nat.add_assoc] using hown4
   have Hb4 : Hid (Below w.heap.size w w4) := (Hbr.out.alloc Hbr.out.size _).grown hg4 (by have := Hbr.out.size; simp; omega) (fun g hg => ((Hor.out.2 (by omega)).lt g hg).1)
   clear hown4 hg4 hat4
   go_wp2
   go_roundw
   case rel => exact ⟨3, by go_num, by omega, ⟨by omega, fun _ => Hown4.out⟩, Hb4⟩
   case measure => simp [intOf]
  ·have hone : Hid (bV (UInt8.ofNat (s / 16777216)) = .int .u8 ((s : Int) / 16777216)) := by show _ = _; rw [bV_low]; congr 1; omega
   have Hrd := Lib.hid (reads_new wr 5 1 1 [.int .u8 ((s : Int) / 16777216)] rfl)
   have Hown3 := Lib.hid ((Hor.out.2 (by omega)).alloc (.cells #[.int .u8 ((s : Int) / 16777216)] 5))
   go_wp2_with (at_builtin; go_must (refine wpList_append_any _ rfl (.tmp 19) (.tmp 25) _ rfl w.heap.size 5 i0 _ 1 1 Tryz.underlying36 Hi0.out Hz0.out Hz1.out Hz2.out rfl (by omega) u4 (n + 3) ((uv ++ (leL s).take 3).map bV) rfl Hown3.out (wr.heap.size + 1) (some ⟨wr.heap.size, 0, none⟩) 1 1 [.int .u8 ((s : Int) / 16777216)] rfl Hrd.out (by intro u hu; simp at hu; subst hu; rfl) (by unfold maxLen; omega) (by omega) (by have := Hbr.out.size; simp; omega) ?_))
   intro v' w4 hown4 hg4 hat4
   have Hown4 : Hid (w4.ownsRow w.heap.size 5 1 v' (n + 4) ((uv ++ (leL s).take 4).map bV)) := by
    show World.ownsRow _ _ _ _ _ _ _
    have e : (uv ++ (leL s).take 4).map bV = (uv ++ (leL s).take 3).map bV ++ [.int .u8 ((s : Int) / 16777216)] := by rw [← hone.out]; simp [leL]
    rw [e]
    simpa [Nat.add_assoc] using hown4
   have Hb4 : Hid (Below w.heap.size w w4) := (Hbr.out.alloc Hbr.out.size _).grown hg4 (by have := Hbr.out.size; simp; omega) (fun g hg => ((Hor.out.2 (by omega)).lt g hg).1)
   clear hown4 hg4 hat4
   go_wp2
   go_roundw
   case rel => exact ⟨4, by go_num, by omega, ⟨by omega, fun _ => Hown4.out⟩, Hb4⟩
   case measure => simp [intOf]
  ·have hown := Hor.out.2 (by omega)
   have hB4 : Bs wr [] u4 (uv ++ leL s) := by
    have := Rd.of_own (M := []) hown (by simp)
    have e : (leL s).take 4 = leL s := rfl
    rw [e] at this
    unfold Bs
    rw [List.length_append, ← Hn.out, leL_len]
    exact this
   obtain ⟨A4, c4, rfl, hc4⟩ := hB4.len
   have hl4 : (uv ++ leL s).length = n + 4 := by rw [List.length_append, ← Hn.out, leL_len]
   have hBl : Bs wr [] (.slice A l.length c) l := Hh.out.keep (Keeps.of_below (M := []) Hbr.out) (by simp)
   have hk : Keeps [] wr (wr.alloc (.cells #[.slice A4 (n + 4) c4, .slice A l.length c] 36)) := (Keeps.refl _ _).alloc _
   rw [hl4] at hB4
   have hBk := Blk.new wr 36 #[.slice A4 (n + 4) c4, .slice A l.length c]
   have hcat := Lib.hid (concatB_any wr.heap.size (.slice A4 (n + 4) c4) (.slice A l.length c) (uv ++ leL s) l _ (hB4.keep hk (by simp)) (hBl.keep hk (by simp)) (by rw [hl4]; omega) (by omega) hBk.lt (hBk.cell 0) (hBk.cell 1))
   have Hb5 := Lib.hid ((Keeps.of_below (M := []) Hbr.out).trans hk (by simp)).below
   have hfe : Hid (frameL l = (uv ++ leL s) ++ l) := by show _ = _; rw [HF.out, List.append_assoc]
   rw [hl4]
   clear hB4 hBl hk hBk hown hl4 hc4
   go_wp2_with fail
   refine hcat.out.mono ?_
   rintro e w6 ⟨v6, rfl, hown6, hb6⟩
   rw [← List.length_append, ← hfe.out] at hown6
   have hR6 : ∀ M, (∀ g ∈ M, g < w.heap.size) → Bs w6 M v6 (frameL l) := fun M hM => Rd.of_own hown6 (fun g hg => by have := hM g hg; have := Hb5.out.size; omega)
   obtain ⟨A6, c6, rfl, hc6⟩ := (hR6 [] (by simp)).len
   have hp : Hid (FrPost l w (.returned (.tuple #[.slice A6 (frameL l).length c6, .int .i64 0])) w6) := ⟨A6, c6, rfl, hR6, below_then Hb5.out hb6⟩
   clear hown6 hR6 hb6 hcat
   generalize (frameL l).length = fl at *
   go_wp2
   go_ret2
   exact hp.out
def FrRead (l : List UInt8) (w : World) (e : Ending) (w' : World) : Prop := match readF l with
 | none => e = .returned (.tuple #[.slice none 0 0, .int .i64 0, .bool false]) ∧ Below w.heap.size w w'
 | some (x, n) => ∃ A c, e = .returned (.tuple #[.slice A x.length c, .int .i64 n, .bool true]) ∧ (∀ M, (∀ g ∈ M, g < w.heap.size) → Bs w' M (.slice A x.length c) x) ∧ Below w.heap.size w w'
theorem u32_or_shift (a b k : Nat) (ha : a < 2 ^ k) (hk : k ≤ 24) (hb : b < 256) : bits .or .u32 (a : Int) ((b * 2 ^ k : Nat) : Int) = ((a + b * 2 ^ k : Nat) : Int) := by
 have hp : 2 ^ k ≤ 2 ^ 24 := Nat.pow_le_pow_right (by omega) hk
 have hb2 : b * 2 ^ k ≤ 255 * 2 ^ 24 := Nat.mul_le_mul (by omega) hp
 have hlt : a + b * 2 ^ k < 4294967296 := by omega
 show IntKind.u32.wrap ((BitVec.ofInt 32 (a : Int) ||| BitVec.ofInt 32 ((b * 2 ^ k : Nat) : Int)).toNat : Int) = _
 rw [BitVec.toNat_or, BitVec.ofInt_natCast, BitVec.ofInt_natCast, BitVec.toNat_ofNat, BitVec.toNat_ofNat, Nat.mod_eq_of_lt (by omega), Nat.mod_eq_of_lt (by omega), Nat.or_comm, nat_join k (b * 2 ^ k) a (Nat.mul_mod_left _ _) ha, IntKind.wrap_u32]
 omega
set_option maxRecDepth 100000 in
set_option maxHeartbeats 1000000 in
theorem framer_any (v : Value) (l : List UInt8) (w : World) (h : Bs w [] v l) (hl : l.length ≤ 4611686018427387000) :
  Calls Tryz.prog 101 #[v] w fun e w' => FrRead l w e w' := by
 have hg := Lib.hid (get_any v l w h (by omega))
 obtain ⟨A, c, rfl, hc⟩ := h.len
 have H := Lib.hid h
 obtain ⟨hk, hn⟩ := getL_le l
 have HC := Lib.hid (show readF l = (if (getL l).2 = 0 ∨ 65536 < (getL l).1 ∨ l.length < (getL l).2 + 4 + (getL l).1 then none
  else if crcOf ((l.drop ((getL l).2 + 4)).take (getL l).1) = unL (l.drop (getL l).2) then some ((l.drop ((getL l).2 + 4)).take (getL l).1, (getL l).2 + 4 + (getL l).1) else none) from rfl)
 have hnone : Hid (∀ q, readF l = none → FrRead l w (.returned (.tuple #[.slice none 0 0, .int .i64 0, .bool false])) (w.drewN q)) := fun q h => by
  unfold FrRead; rw [h]; exact ⟨rfl, ((Keeps.refl [] w).drewN q).below⟩
 clear h
 generalize (getL l).1 = n at *
 generalize (getL l).2 = k at *
 by_cases hk0 : k = 0
 ·have hR := Lib.hid (fun q => hnone.out q (by rw [HC.out, if_pos (.inl hk0)]))
  subst hk0
  clear HC hnone
  go_enter Tryz.func101, Tryz.ntmps101
  go_wp2_with fail
  refine hg.out.mono ?_
  rintro e w1 ⟨rfl, q, rfl⟩
  go_wp2
  go_ret3
  exact hR.out q
 ·have hkz : ((k : Int) == 0) = false := by simpa using hk0
  by_cases hn6 : 65536 < n
  ·have hR := Lib.hid (fun q => hnone.out q (by rw [HC.out, if_pos (.inr (.inl hn6))]))
   have hni : (65536 : Int) < (n : Int) := by omega
   clear HC hnone
   go_enter Tryz.func101, Tryz.ntmps101
   go_wp2_with fail
   refine hg.out.mono ?_
   rintro e w1 ⟨rfl, q, rfl⟩
   go_wp2
   go_ret3
   exact hR.out q
  ·have hni : decide ((65536 : Int) < (n : Int)) = false := decide_eq_false (by omega)
   have hwn : IntKind.i64.wrap (n : Int) = (n : Int) := by rw [IntKind.wrap_i64]; omega
   have hwk : IntKind.i64.wrap ((k : Int) + 4) = (k : Int) + 4 := by rw [IntKind.wrap_i64]; omega
   have hwkn : IntKind.i64.wrap ((k : Int) + 4 + (n : Int)) = (k : Int) + 4 + (n : Int) := by rw [IntKind.wrap_i64]; omega
   by_cases hlen : l.length < k + 4 + n
   ·have hR := Lib.hid (fun q => hnone.out q (by rw [HC.out, if_pos (.inr (.inr hlen))]))
    have hli : (l.length : Int) < (k : Int) + 4 + (n : Int) := by omega
    clear HC hnone
    go_enter Tryz.func101, Tryz.ntmps101
    go_wp2_with fail
    refine hg.out.mono ?_
    rintro e w1 ⟨rfl, q, rfl⟩
    go_wp2
    go_ret3
    exact hR.out q
   ·have hli : decide ((l.length : Int) < (k : Int) + 4 + (n : Int)) = false := decide_eq_false (by omega)
    have HT : Hid (readF l = if crcOf ((l.drop (k + 4)).take n) = unL (l.drop k) then some ((l.drop (k + 4)).take n, k + 4 + n) else none) := by
     show _ = _; rw [HC.out, if_neg (by omega)]
    obtain ⟨g, off, rfl⟩ := H.out.some_ (by omega)
    have hcell : ∀ j, (hj : j < l.length) → w.cell? ⟨g, off + j, none⟩ = some (.int .u8 (l[j]'hj).toNat) := fun j hj => by
     obtain ⟨A', c', e2, _, _, hr⟩ := H.out
     injection e2 with e2 _ _
     subst e2
     obtain ⟨g', off', e3, _, _, hx⟩ := hr (by omega)
     injection e3 with e3
     injection e3 with e3 e4 _
     subst e3 e4
     exact hx j _ (by rw [List.getElem?_map, List.getElem?_eq_getElem hj]; rfl)
    have hcg : g < w.heap.size := World.block_lt_of_cell? w _ (hcell 0 (by omega))
    have k0 := hcell k (by omega)
    have k1 := hcell (k + 1) (by omega)
    have k2 := hcell (k + 2) (by omega)
    have k3 := hcell (k + 3) (by omega)
    have hun : unL (l.drop k) = l[k].toNat + 256 * l[k + 1].toNat + 65536 * l[k + 2].toNat + 16777216 * l[k + 3].toNat := by
     unfold unL
     simp only [List.getD_eq_getElem?_getD, List.getElem?_drop, Nat.add_zero]
     rw [List.getElem?_eq_getElem (by omega), List.getElem?_eq_getElem (by omega), List.getElem?_eq_getElem (by omega), List.getElem?_eq_getElem (by omega)]
     rfl
    rw [hun] at HT
    have b0 := l[k].toNat_lt; have b1 := l[k + 1].toNat_lt; have b2 := l[k + 2].toNat_lt; have b3 := l[k + 3].toNat_lt
    generalize l[k].toNat = x0 at *
    generalize l[k + 1].toNat = x1 at *
    generalize l[k + 2].toNat = x2 at *
    generalize l[k + 3].toNat = x3 at *
    clear hcell hun HC hnone
    have Hk0 := Lib.hid k0; have Hk1 := Lib.hid k1; have Hk2 := Lib.hid k2; have Hk3 := Lib.hid k3
    clear k0 k1 k2 k3
    go_enter Tryz.func101, Tryz.ntmps101
    go_wp2_with fail
    refine hg.out.mono ?_
    rintro e w1 ⟨rfl, q, rfl⟩
    go_wp2_with fail
    go_loopw [7, 32] (fun s i wr => ∃ (x p : Nat), i = .int .i64 x ∧ x ≤ 4 ∧ s = .int .u32 p ∧ Hid ((x = 0 → p = 0) ∧ (x = 1 → p = x0) ∧ (x = 2 → p = x0 + x1 * 2 ^ 8) ∧ (x = 3 → p = x0 + x1 * 2 ^ 8 + x2 * 2 ^ 16) ∧ (x = 4 → p = x0 + x1 * 2 ^ 8 + x2 * 2 ^ 16 + x3 * 2 ^ 24)) ∧ wr = w.drewN q) (fun _ i _ => 4 - (intOf i).toNat)
    case atStart => exact ⟨0, 0, rfl, by omega, rfl, ⟨by omega, by omega, by omega, by omega, by omega⟩, rfl⟩
    case round =>
     obtain ⟨x, p, rfl, hx, rfl, Hp, rfl⟩ := hrel
     rcases (show x = 0 ∨ x = 1 ∨ x = 2 ∨ x = 3 ∨ x = 4 by omega) with rfl | rfl | rfl | rfl | rfl
     ·have Hpv := Lib.hid (Hp.out.1 rfl)
      have c0 := Hk0.out
      have Hor : Hid (bits .or .u32 (p : Int) (x0 : Int) = ((p + x0 * 2 ^ 0 : Nat) : Int)) := by
       have := u32_or_shift p x0 0 (by have := Hpv.out; omega) (by omega) b0
       rw [show ((x0 * 2 ^ 0 : Nat) : Int) = (x0 : Int) by omega] at this
       exact this
      go_wp2_with fail
      exact ⟨⟨1, p + x0 * 2 ^ 0, by go_num, by omega, by first | rw [Hor.out] | (rw [← Hor.out]), ⟨by omega, fun _ => by have := Hpv.out; omega, by omega, by omega, by omega⟩, by first | trivial | rfl⟩, by simp [intOf]⟩
     ·have Hpv := Lib.hid (Hp.out.2.1 rfl)
      have c0 := Hk1.out
      have Hor : Hid (bits .or .u32 (p : Int) ((x1 : Int) * 256) = ((p + x1 * 2 ^ 8 : Nat) : Int)) := by
       have := u32_or_shift p x1 8 (by have := Hpv.out; omega) (by omega) b1
       rw [show ((x1 * 2 ^ 8 : Nat) : Int) = ((x1 : Int) * 256) by omega] at this
       exact this
      go_wp2_with fail
      exact ⟨⟨2, p + x1 * 2 ^ 8, by go_num, by omega, by first | rw [Hor.out] | (rw [← Hor.out]), ⟨by omega, by omega, fun _ => by have := Hpv.out; omega, by omega, by omega⟩, by first | trivial | rfl⟩, by simp [intOf]⟩
     ·have Hpv := Lib.hid (Hp.out.2.2.1 rfl)
      have c0 := Hk2.out
      have Hor : Hid (bits .or .u32 (p : Int) ((x2 : Int) * 65536) = ((p + x2 * 2 ^ 16 : Nat) : Int)) := by
       have := u32_or_shift p x2 16 (by have := Hpv.out; omega) (by omega) b2
       rw [show ((x2 * 2 ^ 16 : Nat) : Int) = ((x2 : Int) * 65536) by omega] at this
       exact this
      go_wp2_with fail
      exact ⟨⟨3, p + x2 * 2 ^ 16, by go_num, by omega, by first | rw [Hor.out] | (rw [← Hor.out]), ⟨by omega, by omega, by omega, fun _ => by have := Hpv.out; omega, by omega⟩, by first | trivial | rfl⟩, by simp [intOf]⟩
     ·have Hpv := Lib.hid (Hp.out.2.2.2.1 rfl)
      have c0 := Hk3.out
      have Hor : Hid (bits .or .u32 (p : Int) ((x3 : Int) * 16777216) = ((p + x3 * 2 ^ 24 : Nat) : Int)) := by
       have := u32_or_shift p x3 24 (by have := Hpv.out; omega) (by omega) b3
       rw [show ((x3 * 2 ^ 24 : Nat) : Int) = ((x3 : Int) * 16777216) by omega] at this
       exact this
      go_wp2_with fail
      exact ⟨⟨4, p + x3 * 2 ^ 24, by go_num, by omega, by first | rw [Hor.out] | (rw [← Hor.out]), ⟨by omega, by omega, by omega, by omega, fun _ => by have := Hpv.out; omega⟩, by first | trivial | rfl⟩, by simp [intOf]⟩
     ·have Hpv : Hid (p = x0 + 256 * x1 + 65536 * x2 + 16777216 * x3) := by have := Hp.out.2.2.2.2 rfl; show _ = _; omega
      have HX : Hid (readF l = if crcOf ((l.drop (k + 4)).take n) = p then some ((l.drop (k + 4)).take n, k + 4 + n) else none) := by show _ = _; rw [HT.out, Hpv.out]
      have hxl : ((l.drop (k + 4)).take n).length = n := by rw [List.length_take, List.length_drop]; omega
      have hki : (k : Int) + 4 ≤ (k : Int) + 4 + (n : Int) := by omega
      have hkc : (k : Int) + 4 + (n : Int) ≤ (c : Int) := by omega
      have hHq := H.out.keep (M' := []) ((Keeps.refl [] w).drewN q) (by simp)
      have hend : Hid (∀ (v' : Value) (W w' : World), W = w.drewN q → w'.ownsRow W.heap.size 5 1 v' n (((l.drop (k + 4)).take n).map bV) → Below W.heap.size W w' → ∃ A' c', v' = .slice A' n c' ∧ Calls Tryz.prog 154 #[v'] w' (fun e w'' => e = .returned (.int .u32 (crcOf ((l.drop (k + 4)).take n))) ∧ w' = w'') ∧ (crcOf ((l.drop (k + 4)).take n) = p → FrRead l w (.returned (.tuple #[v', .int .i64 ((k : Int) + 4 + (n : Int)), .bool true])) w') ∧ (¬ crcOf ((l.drop (k + 4)).take n) = p → FrRead l w (.returned (.tuple #[.slice none 0 0, .int .i64 0, .bool false])) w')) := by
       rintro v' W w' rfl hown hb
       have hB : ∀ M, (∀ g ∈ M, g < w.heap.size) → Bs w' M v' ((l.drop (k + 4)).take n) := fun M hM => by
        unfold Bs
        rw [hxl]
        exact Rd.of_own hown hM
       have hbw : Below w.heap.size w w' := ⟨hb.os, hb.tape, hb.output, hb.size, hb.block⟩
       obtain ⟨A', c', e, _⟩ := (hB [] (by simp)).len
       rw [hxl] at e
       refine ⟨A', c', e, crcof_any v' _ w' (hB [] (by simp)) (by omega), fun h => ?_, fun h => ?_⟩
       ·unfold FrRead
        rw [HX.out, if_pos h]
        refine ⟨A', c', ?_, ?_, hbw⟩
        ·rw [hxl, e, Int.natCast_add, Int.natCast_add]; rfl
        ·rw [hxl, ← e]; exact hB
       ·unfold FrRead
        rw [HX.out, if_neg h]
        exact ⟨rfl, hbw⟩
      clear Hk0 Hk1 Hk2 Hk3 Hp HT HX Hpv
      by_cases hck : c = k + 4
      ·obtain rfl : n = 0 := by omega
       have hcl := Lib.hid (cloneU8 [] (.slice (some ⟨g, off, none⟩) 0 0) 0 [] (w.drewN q) ⟨_, 0, rfl, Nat.le_refl _, rfl, fun h => absurd h (by omega)⟩ (by simp) (by omega))
       rw [List.take_zero, List.map_nil] at hend
       generalize crcOf ([] : List UInt8) = cx at *
       go_wp2_with fail
       refine hcl.out.mono ?_
       rintro e w2 ⟨v', rfl, hown, hb⟩
       obtain ⟨A', c', rfl, hcr, hy, hno⟩ := hend.out v' _ w2 rfl hown hb
       have Hcr := Lib.hid hcr; have Hy := Lib.hid hy; have Hno := Lib.hid hno
       clear hown hb hcl hcr hy hno hend
       go_wp2_with fail
       refine Hcr.out.mono ?_
       rintro e w3 ⟨rfl, rfl⟩
       by_cases hcp : cx = p
       ·have hne : ((cx : Int) != (p : Int)) = false := by simp [hcp]
        have hp := Lib.hid (Hy.out hcp)
        clear hcp Hy Hno
        go_wp2
        go_ret3
        exact hp.out
       ·have hne : ((cx : Int) != (p : Int)) = true := by simp; omega
        have hp := Lib.hid (Hno.out hcp)
        clear hcp Hy Hno
        go_wp2
        go_ret3
        exact hp.out
      ·have hpt := hHq.part (k + 4) n (by omega) (c - (k + 4)) (by omega) (some ⟨g, off + (k + 4), none⟩) (fun _ => rfl)
       unfold Bs at hpt
       rw [hxl] at hpt
       have hcl := Lib.hid (cloneU8 [] _ n _ (w.drewN q) hpt (bV_one _) (by omega))
       generalize (l.drop (k + 4)).take n = xs at *
       generalize crcOf xs = cx at *
       clear hpt hHq
       go_wp2_with fail
       refine hcl.out.mono ?_
       rintro e w2 ⟨v', rfl, hown, hb⟩
       obtain ⟨A', c', rfl, hcr, hy, hno⟩ := hend.out v' _ w2 rfl hown hb
       have Hcr := Lib.hid hcr; have Hy := Lib.hid hy; have Hno := Lib.hid hno
       clear hown hb hcl hcr hy hno hend
       go_wp2_with fail
       refine Hcr.out.mono ?_
       rintro e w3 ⟨rfl, rfl⟩
       by_cases hcp : cx = p
       ·have hne : ((cx : Int) != (p : Int)) = false := by simp [hcp]
        have hp := Lib.hid (Hy.out hcp)
        clear hcp Hy Hno
        go_wp2
        go_ret3
        exact hp.out
       ·have hne : ((cx : Int) != (p : Int)) = true := by simp; omega
        have hp := Lib.hid (Hno.out hcp)
        clear hcp Hy Hno
        go_wp2
        go_ret3
        exact hp.out
end Go.Proofs.YtinnifhnabncfaaGreatDoor.Vi
end
section
namespace Go.Proofs.YtinnifhnabncfaaGreatDoor.Vi
open Go.RowKit Base Mem
/-- v is a row of these bytes that nobody else writes: it starts its block. -/
def Row1 (w : World) (v : Value) (l : List UInt8) : Prop :=
 (v = .slice none 0 0 ∧ l = []) ∨ ∃ g cap cur, v = .slice (some ⟨g, 0, none⟩) l.length cap ∧ Blk w g 5 cur ∧ l.length ≤ cap ∧ cap ≤ cur.size ∧ cap ≤ maxLen ∧ ∀ (j : Nat) (x : UInt8), l[j]? = some x → cur[j]? = some (bV x)
section
variable {w w' : World} {M M' : List Nat} {v : Value} {l : List UInt8}
theorem Row1.nil (w : World) : Row1 w (.slice none 0 0) [] := Or.inl ⟨rfl, rfl⟩
theorem Row1.of_own {base n : Nat} (h : w.ownsRow base 5 1 v n (l.map bV)) : Row1 w v l := by
 obtain ⟨hl, h⟩ := h
 have hn : n = l.length := by simpa using hl.symm
 subst hn
 rcases h with ⟨rfl, h0⟩ | ⟨g, cap, cur, rfl, _, hg, hnc, hm, hs, ht⟩
 ·exact Or.inl ⟨rfl, List.eq_nil_of_length_eq_zero h0⟩
 ·refine Or.inr ⟨g, cap, cur, rfl, hg, hnc, by omega, hm, fun j x hj => ?_⟩
  have h1 : (l.map bV)[j]? = some (bV x) := by rw [List.getElem?_map, hj]; rfl
  rw [← ht, List.getElem?_take] at h1
  split at h1
  ·simpa using h1
  ·cases h1
theorem Row1.len (h : Row1 w v l) : ∃ A c, v = .slice A l.length c ∧ l.length ≤ c ∧ c ≤ maxLen := by
 rcases h with ⟨rfl, rfl⟩ | ⟨g, cap, cur, rfl, _, h1, _, h2, _⟩
 ·exact ⟨none, 0, rfl, Nat.le_refl _, by unfold maxLen; omega⟩
 ·exact ⟨_, cap, rfl, h1, h2⟩
theorem Row1.lt (h : Row1 w v l) {g : Nat} (hg : v.ownBlock = some g) : g < w.heap.size := by
 rcases h with ⟨rfl, rfl⟩ | ⟨g', cap, cur, rfl, hb, _⟩
 ·simp [Value.ownBlock] at hg
 ·simp [Value.ownBlock] at hg; subst hg; exact hb.lt
theorem Row1.bs (h : Row1 w v l) (hM : ∀ g, v.ownBlock = some g → g ∉ M) : Bs w M v l := by
 rcases h with ⟨rfl, rfl⟩ | ⟨g, cap, cur, rfl, hb, h1, h2, _, hx⟩
 ·exact Bs.nil _ _
 ·refine ⟨_, cap, rfl, h1, by simp, fun _ => ⟨g, 0, rfl, hb.lt, hM g rfl, fun j u hu => ?_⟩⟩
  rw [hb.cell, Nat.zero_add]
  rw [List.getElem?_map] at hu
  obtain ⟨x, hx1, rfl⟩ := Option.map_eq_some_iff.1 hu
  exact hx j x hx1
theorem Row1.keep (h : Row1 w v l) (k : Keeps M w w') (hM : ∀ g, v.ownBlock = some g → g ∉ M) : Row1 w' v l := by
 rcases h with ⟨rfl, rfl⟩ | ⟨g, cap, cur, rfl, hb, rest⟩
 ·exact .nil _
 ·exact Or.inr ⟨g, cap, cur, rfl, k.blk hb (hM g rfl), rest⟩
theorem Row1.cut {A : Option Addr} {c : Nat} (h : Row1 w (.slice A l.length c) l) (n : Nat) (hn : n ≤ l.length) : Row1 w (.slice A n n) (l.take n) := by
 rcases h with ⟨e, rfl⟩ | ⟨g, cap, cur, e, hb, h1, h2, h3, hx⟩
 ·injection e with e1 e2 e3
  subst e1
  have h0 : n = 0 := by simpa using hn
  subst h0
  exact .nil _
 ·injection e with e1 e2 e3
  subst e1
  refine Or.inr ⟨g, n, cur, ?_, hb, ?_, by omega, by omega, fun j x hj => hx j x ?_⟩
  ·rw [List.length_take, Nat.min_eq_left hn]
  ·rw [List.length_take]; omega
  ·rw [List.getElem?_take] at hj
   split at hj
   ·exact hj
   ·cases hj
end
theorem blk_setCells1 {g : Nat} {t : TypeId} : ∀ (vs : List Value) (o : Nat) (w : World) (cur : Array Value), Blk w g t cur →
  ∃ cur', Blk (w.setCells g o vs) g t cur' ∧ cur'.size = cur.size ∧ (∀ j, j < o → cur'[j]? = cur[j]?) ∧ (∀ j u, vs[j]? = some u → o + j < cur.size → cur'[o + j]? = some u) ∧ Keeps [g] w (w.setCells g o vs)
 | [], o, w, cur, h => ⟨cur, h, rfl, fun _ _ => rfl, fun j u hu => by simp at hu, Keeps.refl _ _⟩
 | x :: vs, o, w, cur, h => by
  obtain ⟨cur', h1, h2, h3, h4, h5⟩ := blk_setCells1 vs (o + 1) (w.setCell ⟨g, o, none⟩ x) (cur.setIfInBounds o x) (h.set_ o x)
  rw [Array.size_setIfInBounds] at h2 h4
  refine ⟨cur', h1, h2, fun j hj => ?_, fun j u hu hs => ?_, ?_⟩
  ·rw [h3 j (by omega), Array.getElem?_setIfInBounds_ne (by omega)]
  ·cases j with
   | zero =>
    simp at hu
    subst hu
    rw [h3 (o + 0) (by omega), Nat.add_zero, Array.getElem?_setIfInBounds_self, if_pos (by omega)]
   | succ j =>
    have := h4 j u (by simpa using hu) (by omega)
    rwa [show o + (j + 1) = o + 1 + j by omega]
  ·exact ((Keeps.refl [g] w).setCell (by simp) x).trans h5 (by simp)
set_option maxRecDepth 100000 in
theorem wpList_append_row1 {ops : Array Oper} {rest : List Oper} {o : Oper} {a : Act} {w : World} {Q : Exit → Act → World → Prop} (hgd : o.guard = none) (s x : Operand)
  (ho : o.op = .call { callee := .builtin .append, args := #[s, x], argTypes := #[36, 36] })
  (v : Value) (b l : List UInt8) (A : Option Addr) (c : Nat) (M : List Nat) (hs : a.eval s = v) (hr : Row1 w v b) (hx : a.eval x = .slice A l.length c) (hl : Bs w M (.slice A l.length c) l) (h0 : 0 < l.length) (hb : b.length + l.length ≤ 100000000)
  (h : ∀ v' w', Row1 w' v' (b ++ l) → Keeps v.ownBlock.toList w w' → (∀ g, v'.ownBlock = some g → v.ownBlock = some g ∨ w.heap.size ≤ g) → wpList Tryz.prog ops Q rest (a.put o.dst v') w') : wpList Tryz.prog ops Q (o :: rest) a w := by
 obtain ⟨i0, hi0, hz0, hz1, hz2⟩ := info_parts infoU8
 obtain ⟨A', c', e, hcc, _, hrd⟩ := hl
 obtain ⟨rfl⟩ : A' = A := by injection e with e _ _; exact e.symm
 obtain ⟨g, off, rfl, hg, _, hc⟩ := hrd h0
 have hn : (l.map bV).length = l.length * 1 := by simp
 have hca : ∀ j u, (l.map bV)[j]? = some u → w.cell? ((⟨g, off, none⟩ : Addr).add j) = some u := fun j u hu => by rw [addr_add]; exact hc j u hu
 rcases hr with ⟨rfl, rfl⟩ | ⟨gb, cap, cur, rfl, hB, h1, h2, h3, hx2⟩
 ·refine wpList_append_grows w hgd s x _ ho 5 i0 _ 1 1 Tryz.underlying36 hi0 hz0 hz1 hz2 rfl (by omega) none 0 0 [] hs (fun _ => ⟨rfl, rfl⟩) rfl (fun b hb => by cases hb) ⟨g, off, none⟩ l.length c (l.map bV) hx hn hca (bV_one l) (by omega) (by unfold maxLen; omega) (by omega) ?_
  intro v' w' hown hgr
  have hown' : w'.ownsRow w.heap.size 5 1 v' l.length (l.map bV) := by simpa using hown
  exact h v' w' (Row1.of_own hown') ((Keeps.refl _ _).grown hgr (by simp)) (fun k hk => .inr (hown'.lt k hk).1)
 ·have holds : ∀ j u, (b.map bV)[j]? = some u → w.cell? ⟨gb, 0 + j, none⟩ = some u := fun j u hu => by
   rw [hB.cell, Nat.zero_add]
   rw [List.getElem?_map] at hu
   obtain ⟨y, hy, rfl⟩ := Option.map_eq_some_iff.1 hu
   exact hx2 j y hy
  refine wpList_append_arg w hgd s x _ ho 5 i0 _ 1 1 Tryz.underlying36 hi0 hz0 hz1 hz2 rfl (by omega) gb 0 b.length cap (b.map bV) hs (by simp) holds ⟨g, off, none⟩ l.length c (l.map bV) hx hn hca (bV_one l) ?_ (by unfold maxLen; omega) (by omega) ?_ ?_
  ·intro hroom j hj
   rw [List.length_map] at hj
   refine ⟨?_, hB.frozen _⟩
   rw [hB.cell, Array.getElem?_eq_getElem (by omega)]; rfl
  ·intro hroom
   obtain ⟨cur', hB', hs', hlow, hin, hk⟩ := blk_setCells1 (l.map bV) (0 + b.length * 1) w cur hB
   refine h _ _ (Or.inr ⟨gb, cap, cur', ?_, hB', by rw [List.length_append]; omega, by omega, h3, fun j y hj => ?_⟩) (by simpa [Value.ownBlock] using hk) (fun k hk => .inl hk)
   ·rw [List.length_append]
   ·rcases Nat.lt_or_ge j b.length with hjb | hjb
    ·rw [List.getElem?_append_left hjb] at hj
     rw [hlow j (by omega)]
     exact hx2 j y hj
    ·rw [List.getElem?_append_right hjb] at hj
     have hjl : j - b.length < l.length := (List.getElem?_eq_some_iff.1 hj).1
     have := hin (j - b.length) (bV y) (by rw [List.getElem?_map, hj]; rfl) (by omega)
     rwa [show 0 + b.length * 1 + (j - b.length) = j by omega] at this
  ·intro hgrow v' w' hown hgr
   have hown' : w'.ownsRow w.heap.size 5 1 v' (b.length + l.length) ((b ++ l).map bV) := by simpa using hown
   exact h v' w' (Row1.of_own hown') ((Keeps.refl _ _).grown hgr (by simp)) (fun k hk => .inr (hown'.lt k hk).1)
/-- A disk lies in block d: its bytes, how many of them last; it writes no other blocks than those of X. -/
def DkAt (w : World) (X : List Nat) (d : Nat) (b : List UInt8) (k : Nat) : Prop :=
 ∃ v, Blk w d 112 #[v, .int .i64 k] ∧ Row1 w v b ∧ d ∈ X ∧ (∀ g, v.ownBlock = some g → g ∈ X ∧ g ≠ d) ∧ k ≤ b.length ∧ b.length ≤ 1048576 ∧ ∀ g ∈ X, g < w.heap.size
/-- Blocks of X' are those of X, or new. -/
def Grows (X : List Nat) (w : World) (X' : List Nat) : Prop := ∀ g ∈ X', g ∈ X ∨ w.heap.size ≤ g
theorem Grows.refl (X : List Nat) (w : World) : Grows X w X := fun _ h => .inl h
theorem Grows.trans {X X' X'' : List Nat} {w w' : World} (h : Grows X w X') (k : Grows X' w' X'') (hs : w.heap.size ≤ w'.heap.size) : Grows X w X'' := fun g hg => by
 rcases k g hg with h1 | h1
 ·exact h g h1
 ·right; omega
theorem DkAt.lt {w : World} {X : List Nat} {d k : Nat} {b : List UInt8} (h : DkAt w X d b k) : d < w.heap.size := by obtain ⟨_, h, _⟩ := h; exact h.lt
theorem DkAt.le {w : World} {X : List Nat} {d k : Nat} {b : List UInt8} (h : DkAt w X d b k) : k ≤ b.length ∧ b.length ≤ 1048576 := by obtain ⟨_, _, _, _, _, h1, h2, _⟩ := h; exact ⟨h1, h2⟩
theorem DkAt.keep {w w' : World} {X M : List Nat} {d k : Nat} {b : List UInt8} (h : DkAt w X d b k) (hk : Keeps M w w') (hM : ∀ g ∈ X, g ∉ M) : DkAt w' X d b k := by
 obtain ⟨v, h1, h2, h3, h4, h5, h6, h7⟩ := h
 exact ⟨v, hk.blk h1 (hM d h3), h2.keep hk (fun g hg => hM g (h4 g hg).1), h3, h4, h5, h6, fun g hg => Nat.lt_of_lt_of_le (h7 g hg) hk.size⟩
theorem DkAt.keep0 {w w' : World} {X : List Nat} {d k : Nat} {b : List UInt8} (h : DkAt w X d b k) (hk : Keeps [] w w') : DkAt w' X d b k := h.keep hk (by simp)
theorem dknew_any (w : World) :
  Calls Tryz.prog 28 #[] w fun e w' => e = .returned (.pointer (some ⟨w.heap.size, 0, none⟩)) ∧ DkAt w' [w.heap.size] w.heap.size [] 0 ∧ Below w.heap.size w w' := by
 have hR : Hid (DkAt (w.alloc (.cells #[.slice none 0 0, .int .i64 0] 112)) [w.heap.size] w.heap.size [] 0) :=
  ⟨_, Blk.new w _ _, .nil _, by simp, by simp [Value.ownBlock], by simp, by simp, by simp⟩
 go_enter Tryz.func28, Tryz.ntmps28
 go_wp2
 go_ret
 exact ⟨rfl, hR.out, (Below.refl _ _).alloc (Nat.le_refl _) _⟩
section
variable {w : World} {X : List Nat} {d k : Nat} {b : List UInt8}
theorem dkwaits_any (w : World) (h : DkAt w X d b k) :
  Calls Tryz.prog 83 #[.pointer (some ⟨d, 0, none⟩)] w fun e w' => e = .returned (.int .i64 ((b.length : Int) - k)) ∧ ∃ q, w' = w.drewN q := by
 have hle := h.le
 obtain ⟨v, hb, hr, _⟩ := h
 obtain ⟨A, c, rfl, hc⟩ := hr.len
 have c0 := hb.cell 0; have c1 := hb.cell 1
 simp only [List.getElem?_toArray, List.getElem?_cons_succ, List.getElem?_cons_zero] at c0 c1
 clear hb hr
 go_enter Tryz.func83, Tryz.ntmps83
 go_wp2
 go_quiet (fail)
 go_wp2
 go_ret
 exact ⟨rfl, nq, rfl⟩
theorem dkall_any (w : World) (h : DkAt w X d b k) :
  Calls Tryz.prog 91 #[.pointer (some ⟨d, 0, none⟩)] w fun e w' => ∃ v, e = .returned v ∧ w'.ownsRow w.heap.size 5 1 v b.length (b.map bV) ∧ Below w.heap.size w w' := by
 have hle := h.le
 obtain ⟨v, hb, hr, _⟩ := h
 have hcl := Lib.hid (cloneU8 [] v b.length (b.map bV) w (hr.bs (by simp)) (bV_one b) (by omega))
 obtain ⟨A, c, rfl, hc⟩ := hr.len
 have c0 := hb.cell 0; have c1 := hb.cell 1
 simp only [List.getElem?_toArray, List.getElem?_cons_succ, List.getElem?_cons_zero] at c0 c1
 clear hb hr
 go_enter Tryz.func91, Tryz.ntmps91
 go_wp2_with fail
 refine hcl.out.mono ?_
 rintro e w1 ⟨v1, rfl, hown, hb1⟩
 have Hown := Lib.hid hown; have Hb1 := Lib.hid hb1
 clear hown hb1 hcl
 go_wp2
 go_ret
 exact ⟨v1, rfl, Hown.out, Hb1.out⟩
theorem dksync_any (w : World) (h : DkAt w X d b k) :
  Calls Tryz.prog 201 #[.pointer (some ⟨d, 0, none⟩)] w fun e w' => e = .returned (.tuple #[]) ∧ DkAt w' X d b b.length ∧ Keeps [d] w w' := by
 have hR : Hid (DkAt (w.setCell ⟨d, 1, none⟩ (.int .i64 b.length)) X d b b.length ∧ Keeps [d] w (w.setCell ⟨d, 1, none⟩ (.int .i64 b.length))) := by
  obtain ⟨v, h1, h2, h3, h4, h5, h6, h7⟩ := h
  have hk : Keeps [d] w (w.setCell ⟨d, 1, none⟩ (.int .i64 b.length)) := (Keeps.refl _ _).setCell (by simp) _
  exact ⟨⟨v, by simpa using h1.set_ 1 (.int .i64 b.length), h2.keep hk (fun g hg => by have := (h4 g hg).2; simpa using this), h3, h4, Nat.le_refl _, h6, fun g hg => Nat.lt_of_lt_of_le (h7 g hg) hk.size⟩, hk⟩
 have hle := h.le
 obtain ⟨v, hb, hr, _⟩ := h
 obtain ⟨A, c, rfl, hc⟩ := hr.len
 have c0 := hb.cell 0; have c1 := hb.cell 1; have f1 := hb.frozen 1
 simp only [List.getElem?_toArray, List.getElem?_cons_succ, List.getElem?_cons_zero] at c0 c1
 clear hb hr
 go_enter Tryz.func201, Tryz.ntmps201
 go_wp2
 go_end0
 exact ⟨rfl, hR.out.1, hR.out.2⟩
theorem dkcut_any (w : World) (h : DkAt w X d b k) (n : Nat) (hn : n ≤ b.length) :
  Calls Tryz.prog 84 #[.pointer (some ⟨d, 0, none⟩), .int .i64 n] w fun e w' => e = .returned (.bool true) ∧ DkAt w' X d (b.take n) n ∧ Keeps [d] w w' := by
 have hle := h.le
 obtain ⟨v, hb, hr, h3, h4, h5, h6, h7⟩ := h
 obtain ⟨A, c, rfl, hc, hcm⟩ := hr.len
 have hcut := hr.cut n hn
 have hown : ∀ g, Value.ownBlock (.slice A n n) = some g → Value.ownBlock (.slice A b.length c) = some g := fun g hg => by cases A <;> simp [Value.ownBlock] at hg ⊢ <;> exact hg
 have hR : Hid (DkAt ((w.setCell ⟨d, 0, none⟩ (.slice A n n)).setCell ⟨d, 1, none⟩ (.int .i64 n)) X d (b.take n) n ∧ Keeps [d] w ((w.setCell ⟨d, 0, none⟩ (.slice A n n)).setCell ⟨d, 1, none⟩ (.int .i64 n))) := by
  have hk : Keeps [d] w ((w.setCell ⟨d, 0, none⟩ (.slice A n n)).setCell ⟨d, 1, none⟩ (.int .i64 n)) := ((Keeps.refl _ _).setCell (by simp) _).setCell (by simp) _
  refine ⟨⟨.slice A n n, by simpa using (hb.set_ 0 (.slice A n n)).set_ 1 (.int .i64 n), hcut.keep hk (fun g hg => by have := (h4 g (hown g hg)).2; simpa using this), h3, fun g hg => h4 g (hown g hg), ?_, ?_, fun g hg => Nat.lt_of_lt_of_le (h7 g hg) hk.size⟩, hk⟩
  ·rw [List.length_take]; omega
  ·rw [List.length_take]; omega
 have hcl := Lib.hid (fun W => clipU8 A n c W (by omega))
 have c0 := hb.cell 0; have c1 := hb.cell 1; have f0 := hb.frozen 0; have f1 := hb.frozen 1
 simp only [List.getElem?_toArray, List.getElem?_cons_succ, List.getElem?_cons_zero] at c0 c1
 clear hb hr hcut hown h3 h4 h5 h6 h7
 have hni : (0 : Int) ≤ (n : Int) := by omega
 have hn2 : (n : Int) ≤ (b.length : Int) := by omega
 have hn3 : (n : Int) ≤ (c : Int) := by omega
 go_enter Tryz.func84, Tryz.ntmps84
 go_wp2_with fail
 refine (hcl.out _).mono ?_
 rintro e w1 ⟨rfl, rfl⟩
 go_wp2
 go_ret
 exact ⟨rfl, hR.out.1, hR.out.2⟩
def DaPost (X : List Nat) (d : Nat) (b l : List UInt8) (k : Nat) (w : World) (e : Ending) (w' : World) : Prop :=
 if b.length + l.length ≤ 1048576 then e = .returned (.int .i64 0) ∧ ∃ X', DkAt w' X' d (b ++ l) k ∧ Grows X w X' ∧ Keeps X w w'
 else e = .returned (.int .i64 24) ∧ w = w'
theorem dkappend_any (w : World) (h : DkAt w X d b k) (v : Value) (l : List UInt8) (M : List Nat) (hv : Bs w M v l) (h0 : 0 < l.length) (hl : l.length ≤ 10000000) :
  Calls Tryz.prog 200 #[.pointer (some ⟨d, 0, none⟩), v] w fun e w' => DaPost X d b l k w e w' := by
 have hle := h.le
 obtain ⟨v0, hb, hr, h3, h4, h5, h6, h7⟩ := h
 obtain ⟨A, c, rfl, hc, hcm⟩ := hr.len
 obtain ⟨A2, c2, rfl, hc2⟩ := hv.len
 have c0 := hb.cell 0; have c1 := hb.cell 1; have f0 := hb.frozen 0
 simp only [List.getElem?_toArray, List.getElem?_cons_succ, List.getElem?_cons_zero] at c0 c1
 by_cases hroom : b.length + l.length ≤ 1048576
 ·have HP : Hid (∀ e w', DaPost X d b l k w e w' = (e = .returned (.int .i64 0) ∧ ∃ X', DkAt w' X' d (b ++ l) k ∧ Grows X w X' ∧ Keeps X w w')) := fun e w' => by unfold DaPost; rw [if_pos hroom]
  have hd0 : decide ((1048576 - (b.length : Int)) < (l.length : Int)) = false := decide_eq_false (by omega)
  have Hb := Lib.hid hb; have Hr := Lib.hid hr; have H3 := Lib.hid h3; have H4 := Lib.hid h4; have H7 := Lib.hid h7; have Hv := Lib.hid hv
  have hlt := hb.lt
  clear hb hr h3 h4 h7 hv
  go_enter Tryz.func200, Tryz.ntmps200
  go_wp2_with (at_builtin; refine wpList_append_row1 rfl (.tmp 18) (.tmp 19) rfl _ b l A2 c2 M rfl Hr.out rfl Hv.out h0 (by omega) ?_)
  intro v1 w1 hr1 hk1 ho1
  obtain ⟨A1, c1, rfl, _⟩ := hr1.len
  have Hr1 := Lib.hid hr1; have Hk1 := Lib.hid hk1; have Ho1 := Lib.hid ho1
  have hdn : ∀ g ∈ (Value.ownBlock (.slice A b.length c)).toList, g ≠ d := fun g hg => (H4.out g (by simpa using hg)).2
  have Hb1 := Lib.hid (hk1.blk Hb.out (fun hm => hdn d hm rfl))
  have f1 := Hb1.out.frozen 0
  have hd1 : w1.cell? ⟨d, 0, none⟩ = some (.slice A b.length c) := Hb1.out.cell 0
  have hR : Hid (∃ X', DkAt (w1.setCell ⟨d, 0, none⟩ (.slice A1 (b ++ l).length c1)) X' d (b ++ l) k ∧ Grows X w X' ∧ Keeps X w (w1.setCell ⟨d, 0, none⟩ (.slice A1 (b ++ l).length c1))) := by
   have hk2 : Keeps [d] w1 (w1.setCell ⟨d, 0, none⟩ (.slice A1 (b ++ l).length c1)) := (Keeps.refl _ _).setCell (by simp) _
   have hkX : Keeps X w (w1.setCell ⟨d, 0, none⟩ (.slice A1 (b ++ l).length c1)) := (Hk1.out.mono (M' := X) (fun g hg => .inl (H4.out g (by simpa using hg)).1)).trans hk2 (fun g hg => by simp at hg; subst hg; exact .inl H3.out)
   have hne : ∀ g, (Value.ownBlock (.slice A1 (b ++ l).length c1)) = some g → g ≠ d := fun g hg => by
    rcases Ho1.out g hg with h | h
    ·exact (H4.out g h).2
    ·omega
   have hXs : ∀ g ∈ X ++ (Value.ownBlock (.slice A1 (b ++ l).length c1)).toList, g < (w1.setCell ⟨d, 0, none⟩ (.slice A1 (b ++ l).length c1)).heap.size := fun g hg => by
    rcases List.mem_append.1 hg with h | h
    ·exact Nat.lt_of_lt_of_le (H7.out g h) hkX.size
    ·exact Nat.lt_of_lt_of_le (Hr1.out.lt (by simpa using h)) hk2.size
   refine ⟨X ++ (Value.ownBlock (.slice A1 (b ++ l).length c1)).toList, ⟨.slice A1 (b ++ l).length c1, by simpa using Hb1.out.set_ 0 (.slice A1 (b ++ l).length c1), Hr1.out.keep hk2 (fun g hg => by have := hne g hg; simpa using this), by simp [H3.out], fun g hg => ⟨List.mem_append_right _ (Option.mem_toList.2 hg), hne g hg⟩, by rw [List.length_append]; omega, by rw [List.length_append]; omega, hXs⟩, ?_, hkX⟩
   intro g hg
   rcases List.mem_append.1 hg with h | h
   ·exact .inl h
   ·rcases Ho1.out g (by simpa using h) with h | h
    ·exact .inl (H4.out g h).1
    ·exact .inr h
  have hP : Hid (DaPost X d b l k w (.returned (.int .i64 0)) (w1.setCell ⟨d, 0, none⟩ (.slice A1 (b ++ l).length c1))) := (HP.out _ _).symm ▸ ⟨rfl, hR.out⟩
  rw [List.length_append] at hP
  clear hr1 hk1 ho1 hdn HP hR
  go_wp2
  go_ret
  exact hP.out
 ·have HP : Hid (DaPost X d b l k w (.returned (.int .i64 24)) w) := by unfold DaPost; rw [if_neg hroom]; exact ⟨rfl, rfl⟩
  have hd0 : decide ((1048576 - (b.length : Int)) < (l.length : Int)) = true := decide_eq_true (by omega)
  clear hb hr h3 h4 h7 hv
  go_enter Tryz.func200, Tryz.ntmps200
  go_wp2
  go_ret
  exact HP.out
/-- What lasts behind a crash that lets so many of those that wait last. -/
def crashK (b : List UInt8) (k : Nat) (keep : Int) : Nat := (max 0 (min keep ((b.length : Int) - k))).toNat
theorem dkcrash_any (w : World) (h : DkAt w X d b k) (keep : Int) :
  Calls Tryz.prog 35 #[.pointer (some ⟨d, 0, none⟩), .int .i64 keep] w fun e w' => e = .returned (.int .i64 ((b.length : Int) - k - crashK b k keep)) ∧ DkAt w' X d (b.take (k + crashK b k keep)) (k + crashK b k keep) ∧ Keeps [d] w w' := by
 have hle := h.le
 have hwt := Lib.hid (fun W (hk : Keeps [] w W) => dkwaits_any W (h.keep0 hk))
 have hK : Hid (max 0 (min keep ((b.length : Int) - k)) = (crashK b k keep : Int)) := by show _ = _; unfold crashK; omega
 have hKb : k + crashK b k keep ≤ b.length := by unfold crashK; omega
 have hct := Lib.hid (fun W (hk : Keeps [] w W) => dkcut_any W (h.keep0 hk) (k + crashK b k keep) hKb)
 generalize crashK b k keep = m at *
 obtain ⟨v, hb, _⟩ := h
 have c1 := hb.cell 1
 simp only [List.getElem?_toArray, List.getElem?_cons_succ, List.getElem?_cons_zero] at c1
 have hlt := hb.lt
 have HC : Hid (∀ q, (w.drewN q).cell? ⟨d, 1, none⟩ = some (.int .i64 k)) := fun q => c1
 clear hb
 go_enter Tryz.func35, Tryz.ntmps35
 go_wp2_with fail
 refine (hwt.out w (Keeps.refl _ _)).mono ?_
 rintro e w1 ⟨rfl, q1, rfl⟩
 have hm := hK.out
 have hwm : IntKind.i64.wrap ((m : Int)) = (m : Int) := by rw [IntKind.wrap_i64]; omega
 go_wp2_with fail
 refine (hwt.out (w.drewN q1) ((Keeps.refl _ _).drewN q1)).mono ?_
 rintro e w2 ⟨rfl, q2, rfl⟩
 have hc2 : (w.drewN (q1 + q2)).cell? ⟨d, 1, none⟩ = some (.int .i64 k) := c1
 go_wp2_with fail
 have hct2 := hct.out (w.drewN (q1 + q2)) ((Keeps.refl _ _).drewN _)
 rw [Int.natCast_add] at hct2
 refine hct2.mono ?_
 rintro e w3 ⟨rfl, hD, hk⟩
 have HD := Lib.hid hD; have Hk : Hid (Keeps [d] w w3) := ((Keeps.refl [d] w).drewN (q1 + q2)).trans hk (by simp)
 clear hD hk hct2
 go_wp2
 go_ret
 exact ⟨rfl, HD.out, Hk.out⟩
end
theorem bs_reads {w : World} {A : Option Addr} {c : Nat} {l : List UInt8} (h : Bs w [] (.slice A l.length c) l) : Reads w w.heap.size 1 A l.length (l.map bV) := by
 obtain ⟨A', c', e, _, h⟩ := h.reads
 injection e with e1 _ _
 subst e1
 exact h
/-- What a call answers that makes bytes: a row of its own, that may have room. -/
def OwnB (l : List UInt8) (w : World) (e : Ending) (w' : World) : Prop := ∃ v, e = .returned v ∧ w'.ownsRow w.heap.size 5 1 v l.length (l.map bV) ∧ Below w.heap.size w w'
set_option maxRecDepth 100000 in
theorem rput_any (v : Value) (l : List UInt8) (n : Nat) (w : World) (h : Bs w [] v l) (hn : n < 18446744073709551616) (hl : l.length ≤ 140737488355000) :
  Calls Tryz.prog 67 #[v, .int .u64 n] w fun e w' => OwnB (l ++ Lib.uvarint n) w e w' := by
 obtain ⟨i0, hi0, hz0, hz1, hz2⟩ := info_parts infoU8
 have Hi0 := Lib.hid hi0; have Hz0 := Lib.hid hz0; have Hz1 := Lib.hid hz1; have Hz2 := Lib.hid hz2
 obtain ⟨A, c, rfl, hc⟩ := h.len
 have hrd := Lib.hid (bs_reads h)
 clear h hi0 hz0 hz1 hz2
 have Hun := Lib.hid (Lib.uvarint_length64 hn)
 go_enter Tryz.func67, Tryz.ntmps67
 go_wp2_with (at_builtin; refine wpList_append_any _ rfl (.tmp 6) (.tmp 7) _ rfl w.heap.size 5 i0 _ 1 1 Tryz.underlying36 Hi0.out Hz0.out Hz1.out Hz2.out rfl (by omega) (.slice (some ⟨w.heap.size, 0, none⟩) 0 0) 0 [] rfl (World.ownsRow_made w #[] 0 (Nat.le_refl _) (by unfold maxLen; omega) rfl) w.heap.size A l.length c (l.map bV) rfl (hrd.out.alloc (Nat.le_refl _) _) (bV_one l) (by unfold maxLen; omega) (by omega) (by simp) ?_; intro v1 w1 hown1 hg1 hat1; have Hown : Hid (w1.ownsRow w.heap.size 5 1 v1 l.length (l.map bV)) := (show World.ownsRow _ _ _ _ _ _ _ by simpa using hown1); have Hb1 := Lib.hid (grown_empty hg1); clear hown1 hg1 hat1)
 go_slots
 go_loopw [1, 5] (fun x out wr => ∃ (m : Nat) (pre : List UInt8), x = .int .u64 m ∧ m < 18446744073709551616 ∧ Hid (Lib.uvarint n = pre ++ Lib.uvarint m) ∧ Hid (wr.ownsRow w.heap.size 5 1 out (l.length + pre.length) ((l ++ pre).map bV)) ∧ Hid (Below w.heap.size w wr)) (fun x _ _ => (intOf x).toNat)
 case atStart => exact ⟨n, [], rfl, hn, rfl, (show World.ownsRow _ _ _ _ _ _ _ by simpa using Hown.out), Hb1.out⟩
 case round =>
  obtain ⟨m, pre, rfl, hm, Hp, Hor, Hbr⟩ := hrel
  have hlen : Hid (l.length + pre.length + 1 ≤ 140737488355328) := by
   have h1 := Hun.out
   rw [Hp.out, List.length_append] at h1
   have := Lib.uvarint_pos m
   show _ ≤ _; omega
  by_cases hbig : 128 ≤ m
  ·have hor : bits .or .u8 ((m : Int) % 256) 128 = ((m % 128 + 128 : Nat) : Int) := by
    rw [Lib.u8_or128_any _ (by omega) (by omega)]; omega
   have hmi : (128 : Int) ≤ (m : Int) := by omega
   have hown3 := Lib.hid (Hor.out.alloc (.cells #[.int .u8 ((m % 128 + 128 : Nat) : Int)] 5))
   go_wp2_with (at_builtin; refine wpList_append_any _ rfl (.tmp 11) (.tmp 15) _ rfl w.heap.size 5 i0 _ 1 1 Tryz.underlying36 Hi0.out Hz0.out Hz1.out Hz2.out rfl (by omega) u5 (l.length + pre.length) ((l ++ pre).map bV) rfl hown3.out (wr.heap.size + 1) (some ⟨wr.heap.size, 0, none⟩) 1 1 [.int .u8 ((m % 128 + 128 : Nat) : Int)] rfl (reads_new _ _ _ _ _ rfl) (by intro u hu; simp at hu; subst hu; rfl) (by have := hlen.out; unfold maxLen; omega) (by have := hlen.out; omega) (by have := Hbr.out.size; simp; omega) ?_)
   intro v' w4 hown4 hg4 hat4
   have hcell : Hid (bV (m % 128 + 128).toUInt8 = .int .u8 ((m % 128 + 128 : Nat) : Int)) := by show _ = _; rw [bV_toUInt8]; congr 1; omega
   have Hown4 : Hid (w4.ownsRow w.heap.size 5 1 v' (l.length + (pre ++ [(m % 128 + 128).toUInt8]).length) ((l ++ (pre ++ [(m % 128 + 128).toUInt8])).map bV)) := by
    show World.ownsRow _ _ _ _ _ _ _
    rw [← List.append_assoc, List.map_append, List.map_cons, List.map_nil, hcell.out]
    simpa [Nat.add_assoc] using hown4
   have Hb4 : Hid (Below w.heap.size w w4) := (Hbr.out.alloc Hbr.out.size _).grown hg4 (by have := Hbr.out.size; simp; omega) (fun g hg => (Hor.out.lt g hg).1)
   have Hp4 : Hid (Lib.uvarint n = (pre ++ [(m % 128 + 128).toUInt8]) ++ Lib.uvarint (m / 128)) := by show _ = _; rw [Hp.out, Lib.uvarint_big hbig]; simp
   clear hown4 hg4 hat4
   go_wp2
   go_roundw
   case rel => exact ⟨m / 128, pre ++ [(m % 128 + 128).toUInt8], by go_num, by omega, Hp4, Hown4, Hb4⟩
   case measure => simp [intOf] <;> omega
  ·have hmi : (m : Int) < 128 := by omega
   have hmm : (m : Int) % 256 = (m : Int) := by omega
   have hown3 := Lib.hid (Hor.out.alloc (.cells #[.int .u8 (m : Int)] 5))
   go_wp2_with (at_builtin; refine wpList_append_any _ rfl (.tmp 19) (.tmp 22) _ rfl w.heap.size 5 i0 _ 1 1 Tryz.underlying36 Hi0.out Hz0.out Hz1.out Hz2.out rfl (by omega) u5 (l.length + pre.length) ((l ++ pre).map bV) rfl hown3.out (wr.heap.size + 1) (some ⟨wr.heap.size, 0, none⟩) 1 1 [.int .u8 (m : Int)] rfl (reads_new _ _ _ _ _ rfl) (by intro u hu; simp at hu; subst hu; rfl) (by have := hlen.out; unfold maxLen; omega) (by have := hlen.out; omega) (by have := Hbr.out.size; simp; omega) ?_)
   intro v' w4 hown4 hg4 hat4
   have hcell : Hid (bV m.toUInt8 = .int .u8 (m : Int)) := by show _ = _; rw [bV_toUInt8]; congr 1
   have hfin : Hid (l ++ Lib.uvarint n = l ++ (pre ++ [m.toUInt8])) := by show _ = _; rw [Hp.out, Lib.uvarint_small (by omega)]
   have Hown4 : Hid (w4.ownsRow w.heap.size 5 1 v' (l ++ (pre ++ [m.toUInt8])).length ((l ++ (pre ++ [m.toUInt8])).map bV)) := by
    show World.ownsRow _ _ _ _ _ _ _
    rw [← List.append_assoc, List.map_append, List.map_cons, List.map_nil, hcell.out]
    simpa [Nat.add_assoc] using hown4
   have Hb4 : Hid (Below w.heap.size w w4) := (Hbr.out.alloc Hbr.out.size _).grown hg4 (by have := Hbr.out.size; simp; omega) (fun g hg => (Hor.out.lt g hg).1)
   clear hown4 hg4 hat4
   have hC : Hid (OwnB (l ++ Lib.uvarint n) w (.returned v') w4) := by
    show OwnB _ _ _ _
    rw [hfin.out]
    exact ⟨_, rfl, Hown4.out, Hb4.out⟩
   go_wp2
   go_ret
   exact hC.out
end Go.Proofs.YtinnifhnabncfaaGreatDoor.Vi
end
section
namespace Go.Proofs.YtinnifhnabncfaaGreatDoor.Vi
open Go.RowKit Base Mem Go.Shelf
set_option maxRecDepth 100000 in
theorem rtxt_any (v : Value) (l : List UInt8) (s : ByteArray) (w : World) (h : Bs w [] v l) (hl : l.length + s.size ≤ 140737488355000) :
  Calls Tryz.prog 68 #[v, .string s] w fun e w' => OwnB (l ++ Lib.uvarint s.size ++ sB s) w e w' := by
 obtain ⟨i0, hi0, hz0, hz1, hz2⟩ := info_parts infoU8
 have Hi0 := Lib.hid hi0; have Hz0 := Lib.hid hz0; have Hz1 := Lib.hid hz1; have Hz2 := Lib.hid hz2
 have hp := Lib.hid (rput_any v l s.size w h (by omega) (by omega))
 have hun := Lib.uvarint_length64 (x := s.size) (by omega)
 have hsb : (s.size : Int) < 18446744073709551616 := by omega
 clear h hi0 hz0 hz1 hz2
 go_enter Tryz.func68, Tryz.ntmps68
 go_wp2_with fail
 refine hp.out.mono ?_
 rintro e w1 ⟨v1, rfl, hR, hb⟩
 have hlen0 : (l ++ Lib.uvarint s.size).length + s.size ≤ 140737488355328 := by rw [List.length_append]; omega
 have Hfin : Hid (∀ L : List UInt8, (L ++ sB s).length = L.length + s.size) := fun L => by rw [List.length_append]; rfl
 generalize hL : l ++ Lib.uvarint s.size = L at *
 have HR := Lib.hid hR; have Hb := Lib.hid hb; have HL := Lib.hid hL; have hlen := Lib.hid hlen0; have hbs := Lib.hid hb.size
 clear hR hb hp hL hlen0 hl hun
 go_wp2_with (at_builtin; go_must (refine Lib.wpList_append_own_string w1 rfl (.tmp 9) (.tmp 10) _ _ rfl w.heap.size 5 i0 Tryz.underlying36 Tryz.underlying9 Hi0.out Hz0.out Hz1.out Hz2.out v1 L.length (L.map bV) rfl HR.out s rfl (by have := hlen.out; unfold maxLen; omega) hlen.out hbs.out ?_))
 intro v' w' ho hg _
 have hC : Hid (OwnB (L ++ sB s) w (.returned v') w') := by
  refine ⟨_, rfl, ?_, Hb.out.grown hg Hb.out.size (fun g hg => (HR.out.lt g hg).1)⟩
  rw [Hfin.out L, List.map_append]
  exact ho
 clear ho hg
 have hF := hC.out
 rw [← HL.out] at hF
 have HF := Lib.hid hF
 clear hF
 go_wp2
 go_ret
 exact HF.out
set_option maxRecDepth 100000 in
theorem rnext_any (c : Nat) (x : UInt8) (w : World) (hc : c < 4294967296) :
  Calls Tryz.prog 148 #[.int .u32 c, bV x] w fun e w' => e = .returned (.int .u32 (crcNext c x)) ∧ w = w' := by
 have hx := x.toNat_lt
 have Hx : Hid (crcNext c x = crcN 8 (c ^^^ x.toNat)) := rfl
 have hxor := u32_xor_nat c x.toNat hc (by omega)
 have h0 := Lib.hid (xor_byte_lt hc x)
 have hcv : IntKind.u32.wrap (x.toNat : Int) = (x.toNat : Int) := by rw [IntKind.wrap_u32]; omega
 unfold bV
 generalize c ^^^ x.toNat = a at *
 generalize x.toNat = xn at *
 go_enter Tryz.func148, Tryz.ntmps148
 go_wp2_with fail
 go_loop [0, 5] (fun s i => ∃ k : Nat, i = .int .i64 k ∧ k ≤ 8 ∧ s = .int .u32 (crcN k a : Nat)) (fun _ i => 8 - (intOf i).toNat)
 case atStart => exact ⟨0, rfl, by omega, rfl⟩
 case round =>
  obtain ⟨k, rfl, hk, rfl⟩ := hrel
  have hlt := crcN_lt k h0.out
  have Hs := Lib.hid (crcN_snoc k a)
  generalize hb : crcN k a = b at *
  have Hb := Lib.hid hb
  clear hb
  by_cases h8 : k < 8
  ·have hki : (k : Int) < 8 := by omega
   obtain ⟨q, hq⟩ : ∃ q, q = b / 2 := ⟨_, rfl⟩
   have hand := u32_and1 b hlt
   have hshr : (b : Int) / 2 = (q : Int) := by omega
   have hx2 : bits .xor .u32 (q : Int) 3988292384 = ((q ^^^ 3988292384 : Nat) : Int) := u32_xor_nat q 3988292384 (by omega) (by decide)
   rcases (show b % 2 = 0 ∨ b % 2 = 1 by omega) with hp | hp
   ·have Hst : Hid (crcN (k + 1) a = q) := by show _ = _; rw [Hs.out]; unfold crcStep; rw [hp, hq]; simp
    have hand2 : bits .and .u32 (b : Int) 1 = 0 := by rw [hand, hp]; rfl
    clear hxor hcv Hs hq hp hlt hx2 hand
    go_wp2
    go_round
    case rel => exact ⟨k + 1, by go_num, by omega, by rw [Hst.out]⟩
    case measure => simp [intOf] <;> omega
   ·have Hst : Hid (crcN (k + 1) a = q ^^^ 3988292384) := by show _ = _; rw [Hs.out]; unfold crcStep; rw [hp, hq]
    have hand2 : bits .and .u32 (b : Int) 1 = 1 := by rw [hand, hp]; rfl
    generalize q ^^^ 3988292384 = nx at *
    clear hxor hcv Hs hq hp hlt hand
    go_wp2
    go_round
    case rel => exact ⟨k + 1, by go_num, by omega, by rw [Hst.out]⟩
    case measure => simp [intOf] <;> omega
  ·obtain rfl : k = 8 := by omega
   clear hxor hcv
   go_wp2
   go_ret
   exact ⟨ret_int (by rw [Hx.out, Hb.out]), rfl⟩
set_option maxRecDepth 100000 in
theorem rcrc_any (v : Value) (l : List UInt8) (w : World) (h : Bs w [] v l) (hl : l.length ≤ 4611686018427387904) :
  Calls Tryz.prog 92 #[v] w fun e w' => e = .returned (.int .u32 (crcOf l)) ∧ w = w' := by
 obtain ⟨A, cp, rfl, hcp⟩ := h.len
 have Hh := Lib.hid h
 obtain ⟨c, hc0⟩ : ∃ c : Nat, c = 4294967295 := ⟨_, rfl⟩
 have hc : c < 4294967296 := by omega
 have hci : (c : Int) = 4294967295 := by omega
 have Hci := Lib.hid hci
 have Ho : Hid (crcOf l = 4294967295 - crcOn c l) := by rw [hc0]; rfl
 clear h hci
 go_enter Tryz.func92, Tryz.ntmps92
 go_wp2_with fail
 go_loopw [3, 4] (fun s i wr => ∃ k : Nat, i = .int .i64 k ∧ k ≤ l.length ∧ s = .int .u32 (crcOn c (l.take k) : Nat) ∧ wr = w) (fun _ i _ => l.length - (intOf i).toNat)
 case atStart => exact ⟨0, rfl, by omega, by rw [← Hci.out]; rfl, rfl⟩
 case round =>
  obtain ⟨k, rfl, hk, rfl, rfl⟩ := hrel
  have hlt := crcOn_lt (l.take k) hc
  by_cases h8 : k < l.length
  ·have hki : (k : Int) < (l.length : Int) := by omega
   obtain ⟨g, off, _, e1, _, _, _, h1⟩ := Rd.at_ (fun b => [bV b]) 1 (fun _ => rfl) (xs := l) (show Rd wr [] 1 (.slice A l.length cp) l.length (l.flatMap fun b => [bV b]) by rw [← List.map_eq_flatMap]; exact Hh.out) h8
   obtain rfl : A = some ⟨g, off, none⟩ := by injection e1
   clear e1
   have c0 := h1 0 _ rfl
   rw [Nat.mul_one, Nat.add_zero] at c0
   have Hs : Hid (crcOn c (l.take (k + 1)) = crcNext (crcOn c (l.take k)) l[k]) := by show _ = _; rw [List.take_succ_eq_append_getElem h8, crcOn_snoc]
   generalize crcOn c (l.take k) = b at *
   have hnx := Lib.hid (rnext_any b l[k] wr hlt)
   simp only [bV] at c0 hnx
   generalize crcNext b l[k] = nx at *
   generalize l[k].toNat = xn at *
   clear h1 hlt hc0
   go_wp2_with fail
   refine hnx.out.mono ?_
   rintro e w' ⟨rfl, rfl⟩
   go_wp2
   go_roundw
   case rel => exact ⟨k + 1, by go_num, by omega, by rw [Hs.out], by first | trivial | rfl⟩
   case measure => simp [intOf] <;> omega
  ·obtain rfl : k = l.length := by omega
   rw [List.take_length] at hlt ⊢
   generalize crcOn c l = b at *
   clear hc0
   go_wp2
   go_ret
   refine ⟨ret_int ?_, rfl⟩
   rw [Ho.out, ← u32_not b hlt]
   rfl
set_option maxRecDepth 100000 in
theorem rframe_any (v : Value) (l : List UInt8) (w : World) (h : Bs w [] v l) (hl : l.length ≤ 140737488000000) :
  Calls Tryz.prog 41 #[v] w fun e w' => OwnB (frameL l) w e w' := by
 obtain ⟨i0, hi0, hz0, hz1, hz2⟩ := info_parts infoU8
 have Hi0 := Lib.hid hi0; have Hz0 := Lib.hid hz0; have Hz1 := Lib.hid hz1; have Hz2 := Lib.hid hz2
 obtain ⟨A, c, rfl, hc⟩ := h.len
 have Hh := Lib.hid h
 have hput := rput_any (.slice none 0 0) [] l.length w (Bs.nil _ _) (by omega) (by simp)
 rw [List.nil_append] at hput
 have Hput := Lib.hid hput
 have hul := Lib.uvarint_length64 (x := l.length) (by omega)
 have HF : Hid (frameL l = Lib.uvarint l.length ++ leL (crcOf l) ++ l) := by show _ = _; unfold frameL; rw [List.append_assoc]
 have hcr := Lib.hid (rcrc_any (.slice A l.length c) l w h (by omega))
 have hs := crcOf_lt l
 clear h hi0 hz0 hz1 hz2 hput
 generalize crcOf l = s at *
 generalize Lib.uvarint l.length = uv at *
 have hwl : IntKind.u64.wrap (l.length : Int) = (l.length : Int) := by rw [IntKind.wrap_u64]; omega
 have hfour : Hid ([Value.int .u8 ((s : Int) % 256), .int .u8 ((s : Int) / 256 % 256), .int .u8 ((s : Int) / 65536 % 256), .int .u8 ((s : Int) / 16777216)] = (leL s).map bV) := by
  show _ = _
  have e4 : (s : Int) / 16777216 = (s : Int) / 16777216 % 256 := by omega
  rw [e4]
  simp only [leL, List.map_cons, List.map_nil, bV_low, Int.natCast_ediv]
  rfl
 have hll := leL_len s
 go_enter Tryz.func41, Tryz.ntmps41
 go_wp2_with fail
 refine hcr.out.mono ?_
 rintro e w' ⟨rfl, rfl⟩
 go_wp2_with fail
 refine Hput.out.mono ?_
 rintro e w1 ⟨v1, rfl, hR1, hb1⟩
 have HR1 := Lib.hid hR1; have Hb1 := Lib.hid hb1
 clear hR1 hb1 hcr Hput
 go_wp2_with (first | (at_builtin; refine wpList_append_any _ rfl (.tmp 10) (.tmp 22) _ rfl w.heap.size 5 i0 _ 1 1 Tryz.underlying36 Hi0.out Hz0.out Hz1.out Hz2.out rfl (by omega) v1 uv.length (uv.map bV) rfl (HR1.out.alloc _) (w1.heap.size + 1) (some ⟨w1.heap.size, 0, none⟩) 4 4 [Value.int .u8 ((s : Int) % 256), .int .u8 ((s : Int) / 256 % 256), .int .u8 ((s : Int) / 65536 % 256), .int .u8 ((s : Int) / 16777216)] rfl (reads_new _ _ _ _ _ rfl) (by rw [hfour.out]; exact bV_one _) (by unfold maxLen; omega) (by omega) (by have := Hb1.out.size; simp; omega) ?_; intro v2 w2 hown2 hg2 hat2; have HR2 : Hid (w2.ownsRow w.heap.size 5 1 v2 (uv.length + 4) ((uv ++ leL s).map bV)) := (show World.ownsRow _ _ _ _ _ _ _ by rw [List.map_append, ← hfour.out]; exact hown2); have Hb2 : Hid (Below w.heap.size w w2) := (Hb1.out.alloc Hb1.out.size _).grown hg2 (by have := Hb1.out.size; simp; omega) (fun g hg => (HR1.out.lt g hg).1); clear hown2 hg2 hat2) | (at_builtin; refine wpList_append_any _ rfl (.tmp 24) (.tmp 25) _ rfl w.heap.size 5 i0 _ 1 1 Tryz.underlying36 Hi0.out Hz0.out Hz1.out Hz2.out rfl (by omega) v2 (uv.length + 4) ((uv ++ leL s).map bV) rfl HR2.out w2.heap.size A l.length c (l.map bV) rfl (bs_reads (Hh.out.keep (Keeps.of_below (M := []) Hb2.out) (by simp))) (bV_one l) (by unfold maxLen; omega) (by omega) Hb2.out.size ?_; intro v3 w3 hown3 hg3 hat3; have HR3 : Hid (w3.ownsRow w.heap.size 5 1 v3 (uv ++ leL s ++ l).length ((uv ++ leL s ++ l).map bV)) := (show World.ownsRow _ _ _ _ _ _ _ by rw [List.map_append, List.length_append, List.length_append, hll]; exact hown3); have Hb3 : Hid (Below w.heap.size w w3) := Hb2.out.grown hg3 Hb2.out.size (fun g hg => (HR2.out.lt g hg).1); clear hown3 hg3 hat3) | fail)
 have hC : Hid (OwnB (frameL l) w (.returned v3) w3) := by
  show OwnB _ _ _ _
  rw [HF.out]
  exact ⟨_, rfl, HR3.out, Hb3.out⟩
 go_ret
 exact hC.out
end Go.Proofs.YtinnifhnabncfaaGreatDoor.Vi
end
section
namespace Go.Proofs.YtinnifhnabncfaaGreatDoor.Vi
open Go.RowKit Base Mem
/-- A number that is got is written so. -/
theorem getF_canon : ∀ (l : List UInt8) (i n : Nat), n < 2 ^ (7 * i) → (getF i n l).2 ≠ 0 → i < (getF i n l).2 ∧ ∃ q, (getF i n l).1 = n + q * 2 ^ (7 * i) ∧ l.take ((getF i n l).2 - i) = Lib.uvarint q ∧ (0 < i → 0 < q)
 | [], _, _, _, h => by simp [getF] at h
 | c :: r, i, n, hn, h => by
  have hp : 0 < 2 ^ (7 * i) := Nat.two_pow_pos _
  have hpow : 2 ^ (7 * (i + 1)) = 128 * 2 ^ (7 * i) := by rw [show 7 * (i + 1) = 7 * i + 7 by omega, Nat.pow_add, Nat.mul_comm]
  have hcb := c.toNat_lt
  rw [getF] at h ⊢
  by_cases h10 : 10 ≤ i
  ·rw [if_pos h10] at h; simp at h
  rw [if_neg h10] at h ⊢
  by_cases hov : 18446744073709551616 ≤ c.toNat % 128 * 2 ^ (7 * i)
  ·rw [if_pos hov] at h; simp at h
  rw [if_neg hov] at h ⊢
  by_cases hb : 128 ≤ c.toNat
  ·rw [if_pos hb] at h ⊢
   have hlt : c.toNat % 128 * 2 ^ (7 * i) ≤ 127 * 2 ^ (7 * i) := Nat.mul_le_mul_right _ (by omega)
   obtain ⟨h1, q, h2, h3, h4⟩ := getF_canon r (i + 1) (n + c.toNat % 128 * 2 ^ (7 * i)) (by rw [hpow]; omega) h
   have hq := h4 (by omega)
   refine ⟨by omega, c.toNat % 128 + 128 * q, ?_, ?_, fun _ => by omega⟩
   ·rw [h2, hpow, Nat.add_mul, Nat.add_assoc, Nat.mul_comm 128 q, Nat.mul_assoc]
   ·rw [Lib.uvarint_big (by omega)]
    generalize (getF (i + 1) (n + c.toNat % 128 * 2 ^ (7 * i)) r).2 = k at *
    obtain ⟨k', rfl⟩ : ∃ k', k = i + 1 + k' := ⟨k - (i + 1), by omega⟩
    rw [show i + 1 + k' - i = k' + 1 by omega, List.take_succ_cons]
    rw [show i + 1 + k' - (i + 1) = k' by omega] at h3
    rw [h3]
    congr 1
    ·apply UInt8.toNat_inj.1
     rw [Nat.toUInt8_eq, UInt8.toNat_ofNat']
     omega
    ·congr 1; omega
  ·rw [if_neg hb] at h ⊢
   by_cases hz : c.toNat = 0 ∧ 0 < i
   ·rw [if_pos hz] at h; simp at h
   rw [if_neg hz] at h ⊢
   refine ⟨by simp, c.toNat, by simp only []; rw [Nat.mod_eq_of_lt (by omega)], ?_, fun hi => by omega⟩
   simp only []
   rw [show i + 1 - i = 0 + 1 by omega, List.take_succ_cons, Lib.uvarint_small (by omega), List.take_zero]
   congr 1
   apply UInt8.toNat_inj.1
   rw [Nat.toUInt8_eq, UInt8.toNat_ofNat']
   omega
theorem getL_canon {l : List UInt8} (h : (getL l).2 ≠ 0) : l.take (getL l).2 = Lib.uvarint (getL l).1 := by
 obtain ⟨_, q, h2, h3, _⟩ := getF_canon l 0 0 (by decide) h
 unfold getL
 rw [Nat.sub_zero] at h3
 rw [h3, h2]
 simp
theorem getL_zero {l : List UInt8} (h : (getL l).2 = 0) : getL l = (0, 0) := by
 have h1 := (getL_le l)
 have : ∀ (l : List UInt8) (i n : Nat), (getF i n l).2 = 0 → getF i n l = (0, 0) := by
  intro l
  induction l with
  | nil => intro i n _; rfl
  | cons c r ih =>
   intro i n h
   rw [getF] at h ⊢
   repeat' (split at h)
   all_goals first | (simp_all; done) | skip
 exact this l 0 0 h
/-- The document's way to get a number: what is left to read, all of it. -/
def rgetF (L : List UInt8) : Nat → Nat → List UInt8 → Nat × Nat
 | _, _, [] => (0, 0)
 | i, n, c :: r =>
  if 10 ≤ i then (0, 0)
  else if c.toNat < 128 then (if Lib.uvarint (n + c.toNat % 128 * 2 ^ (7 * i) % 18446744073709551616) = L.take (i + 1) then (n + c.toNat % 128 * 2 ^ (7 * i) % 18446744073709551616, i + 1) else (0, 0))
  else rgetF L (i + 1) (n + c.toNat % 128 * 2 ^ (7 * i) % 18446744073709551616) r
theorem rgetF_eq (L : List UInt8) : ∀ (l : List UInt8) (i n : Nat), n < 2 ^ (7 * i) → getF i n l = getL L → l = L.drop i → rgetF L i n l = getL L
 | [], _, _, _, h, _ => h
 | c :: r, i, n, hn, h, hd => by
  have hp : 0 < 2 ^ (7 * i) := Nat.two_pow_pos _
  have hpow : 2 ^ (7 * (i + 1)) = 128 * 2 ^ (7 * i) := by rw [show 7 * (i + 1) = 7 * i + 7 by omega, Nat.pow_add, Nat.mul_comm]
  have hlt : c.toNat % 128 * 2 ^ (7 * i) ≤ 127 * 2 ^ (7 * i) := Nat.mul_le_mul_right _ (by omega)
  have hr : r = L.drop (i + 1) := by rw [← List.tail_drop, ← hd]; rfl
  rw [rgetF]
  by_cases h10 : 10 ≤ i
  ·rw [if_pos h10, ← h, getF, if_pos h10]
  rw [if_neg h10]
  have hwr : n + c.toNat % 128 * 2 ^ (7 * i) % 18446744073709551616 < 18446744073709551616 := by
   by_cases hi9 : i = 9
   ·subst hi9
    have e : (2 : Nat) ^ (7 * 9) = 9223372036854775808 := rfl
    rw [e] at hn ⊢
    omega
   ·have : (2 : Nat) ^ (7 * i) ≤ 2 ^ 56 := Nat.pow_le_pow_right (by omega) (by omega)
    have e : (2 : Nat) ^ 56 = 72057594037927936 := rfl
    omega
  by_cases hb : c.toNat < 128
  ·rw [if_pos hb]
   by_cases he : Lib.uvarint (n + c.toNat % 128 * 2 ^ (7 * i) % 18446744073709551616) = L.take (i + 1)
   ·rw [if_pos he]
    have h1 := getL_put (n + c.toNat % 128 * 2 ^ (7 * i) % 18446744073709551616) (L.drop (i + 1)) hwr
    rw [he, List.take_append_drop] at h1
    rw [h1, List.length_take]
    have : i < L.length := by
     apply Decidable.byContradiction
     intro hc
     rw [List.drop_of_length_le (by omega)] at hd
     cases hd
    rw [Nat.min_eq_left (by omega)]
   ·rw [if_neg he]
    apply Eq.symm
    apply getL_zero
    apply Decidable.byContradiction
    intro h0
    apply he
    have h1 := getL_canon h0
    rw [← h] at h0 h1
    rw [getF, if_neg h10] at h0 h1
    by_cases hov : 18446744073709551616 ≤ c.toNat % 128 * 2 ^ (7 * i)
    ·rw [if_pos hov] at h0; simp at h0
    rw [if_neg hov, if_neg (by omega)] at h0 h1
    by_cases hz : c.toNat = 0 ∧ 0 < i
    ·rw [if_pos hz] at h0; simp at h0
    rw [if_neg hz] at h1
    simp only [] at h1
    rw [Nat.mod_eq_of_lt (by omega : c.toNat % 128 * 2 ^ (7 * i) < 18446744073709551616)]
    exact h1.symm
  ·rw [if_neg hb]
   rw [getF, if_neg h10] at h
   by_cases hov : 18446744073709551616 ≤ c.toNat % 128 * 2 ^ (7 * i)
   ·rw [if_pos hov] at h
    have hi9 : i = 9 := by
     apply Decidable.byContradiction; intro hne
     have : (2 : Nat) ^ (7 * i) ≤ 2 ^ 56 := Nat.pow_le_pow_right (by omega) (by omega)
     have e : (2 : Nat) ^ 56 = 72057594037927936 := rfl
     omega
    subst hi9
    rw [← h]
    cases r with
    | nil => rfl
    | cons x r => rw [rgetF, if_pos (by omega)]
   ·rw [if_neg hov, if_pos (by omega)] at h
    rw [Nat.mod_eq_of_lt (by omega)]
    exact rgetF_eq L r (i + 1) _ (by rw [hpow]; omega) h hr
theorem rgetF_all (l : List UInt8) : rgetF l 0 0 l = getL l := rgetF_eq l l 0 0 (by decide) rfl rfl
/-- The document's frame at the front is ours. -/
theorem rreadF_iff (b : List UInt8) (h1 : ¬ ((getL b).2 = 0 ∨ 65536 < (getL b).1 ∨ b.length < (getL b).2 + 4 + (getL b).1)) :
  frameL ((b.drop ((getL b).2 + 4)).take (getL b).1) = b.take ((getL b).2 + 4 + (getL b).1) ↔ crcOf ((b.drop ((getL b).2 + 4)).take (getL b).1) = unL (b.drop (getL b).2) := by
 have hc := getL_canon (l := b) (by omega)
 generalize (getL b).1 = n at *
 generalize (getL b).2 = k at *
 have hlen : ((b.drop (k + 4)).take n).length = n := by rw [List.length_take, List.length_drop]; omega
 have hk : (Lib.uvarint n).length = k := by rw [← hc, List.length_take]; omega
 have hb : b.take (k + 4 + n) = Lib.uvarint n ++ ((b.drop k).take 4 ++ (b.drop (k + 4)).take n) := by
  rw [← hc, show k + 4 + n = k + (4 + n) by omega, List.take_add, List.take_add, List.drop_drop]
 unfold frameL
 rw [hlen, hb, List.append_cancel_left_eq]
 have h4 : ((b.drop k).take 4).length = 4 := by rw [List.length_take, List.length_drop]; omega
 have hcl := crcOf_lt ((b.drop (k + 4)).take n)
 generalize crcOf ((b.drop (k + 4)).take n) = s at *
 have hun : unL (b.drop k) = unL ((b.drop k).take 4) := by
  unfold unL
  simp only [List.getD_eq_getElem?_getD, List.getElem?_take]
  rfl
 rw [hun]
 generalize (b.drop k).take 4 = q at *
 constructor
 ·intro h
  have : leL s = q := List.append_cancel_right h
  rw [← this]
  have := unL_leL s hcl []
  rw [List.append_nil] at this
  exact this.symm
 ·intro h
  congr 1
  match q, h4 with
  | [a, b, c, d], _ =>
   have := a.toNat_lt; have := b.toNat_lt; have := c.toNat_lt; have := d.toNat_lt
   unfold unL at h
   simp at h
   unfold leL
   have e0 : UInt8.ofNat s = a := by apply UInt8.toNat_inj.1; rw [UInt8.toNat_ofNat']; omega
   have e1 : UInt8.ofNat (s / 256) = b := by apply UInt8.toNat_inj.1; rw [UInt8.toNat_ofNat']; omega
   have e2 : UInt8.ofNat (s / 65536) = c := by apply UInt8.toNat_inj.1; rw [UInt8.toNat_ofNat']; omega
   have e3 : UInt8.ofNat (s / 16777216) = d := by apply UInt8.toNat_inj.1; rw [UInt8.toNat_ofNat']; omega
   rw [e0, e1, e2, e3]
end Go.Proofs.YtinnifhnabncfaaGreatDoor.Vi
end
section
namespace Go.Proofs.YtinnifhnabncfaaGreatDoor.Vi
open Go.RowKit Base Mem Go.Shelf
def RGetP (l : List UInt8) (w : World) (e : Ending) (w' : World) : Prop := e = .returned (.tuple #[.int .u64 (getL l).1, .int .i64 (getL l).2]) ∧ Below w.heap.size w w'
theorem bdrewG {B : Nat} {a w : World} (h : Below B a w) : Below B a w.drew := ⟨h.os, h.tape, h.output, h.size, h.block⟩
theorem bthenG {a b b' c : World} (h : Below a.heap.size a b) (k : Below b'.heap.size b' c) (hbb : b'.heap = b.heap ∧ b'.os = b.os ∧ b'.tape = b.tape ∧ b'.output = b.output := by first | exact ⟨rfl, rfl, rfl, rfl⟩) : Below a.heap.size a c := by
 obtain ⟨h1, h2, h3, h4⟩ := hbb
 exact ⟨k.os.trans (h2.trans h.os), k.tape.trans (h3.trans h.tape), k.output.trans (h4.trans h.output), Nat.le_trans h.size (by have := k.size; rw [h1] at this; exact this), fun g hg => by
  have := k.block g (by rw [h1]; exact Nat.lt_of_lt_of_le hg h.size)
  rw [this, h1]; exact h.block g hg⟩
theorem u8_and127 (a : Nat) (ha : a < 256) : bits .and .u8 (a : Int) 127 = ((a % 128 : Nat) : Int) := by
 show IntKind.u8.wrap ((BitVec.ofInt 8 (a : Int) &&& BitVec.ofInt 8 127).toNat : Int) = _
 rw [BitVec.toNat_and, BitVec.ofInt_natCast, BitVec.toNat_ofNat, Nat.mod_eq_of_lt (by omega), show (BitVec.ofInt 8 127).toNat = 2 ^ 7 - 1 from rfl, Nat.and_two_pow_sub_one_eq_mod, IntKind.wrap_u8]
 omega
/-- A number with seven more bits of it. -/
theorem or_more (n p k : Nat) (hk : k ≤ 63) (hn : n < 2 ^ k) (hn2 : n < 18446744073709551616) (hp : p < 128) :
  bits .or .u64 (n : Int) (IntKind.u64.wrap ((p : Int) * 2 ^ k)) = ((n + p * 2 ^ k % 18446744073709551616 : Nat) : Int) ∧ n + p * 2 ^ k % 18446744073709551616 < 2 ^ (k + 7) ∧ n + p * 2 ^ k % 18446744073709551616 < 18446744073709551616 := by
 have h64 : (18446744073709551616 : Nat) = 2 ^ (64 - k) * 2 ^ k := by rw [← Nat.pow_add, show 64 - k + k = 64 by omega]
 have hm : p * 2 ^ k % 18446744073709551616 = p % 2 ^ (64 - k) * 2 ^ k := by rw [h64, Nat.mul_mod_mul_right]
 have hlt : p * 2 ^ k % 18446744073709551616 < 18446744073709551616 := Nat.mod_lt _ (by decide)
 have hle : p * 2 ^ k % 18446744073709551616 ≤ p * 2 ^ k := Nat.mod_le _ _
 have hw : IntKind.u64.wrap ((p : Int) * 2 ^ k) = ((p * 2 ^ k % 18446744073709551616 : Nat) : Int) := by rw [cast_shl, IntKind.wrap_u64]; omega
 have h127 : p * 2 ^ k ≤ 127 * 2 ^ k := Nat.mul_le_mul_right _ (by omega)
 rw [hw, hm]
 rw [hm] at hlt hle
 refine ⟨or_eq n _ k hn hlt hn2, ?_, ?_⟩
 ·rw [Nat.pow_add]; omega
 ·have := pow_room (p % 2 ^ (64 - k)) k hk hlt
  rw [Nat.add_mul] at this
  omega
theorem conv_own {w : World} {base : Nat} {v : Value} {l : List UInt8} (h : w.ownsRow base 5 1 v l.length (l.map bV)) :
  ∃ A c, v = .slice A l.length c ∧ (convert 36 9 (.slice A l.length c)).run Tryz.prog w = .ok (.string ⟨l.toArray⟩) w := by
 have hb : Bs w [] v l := Rd.of_own h (by simp)
 obtain ⟨A, c, rfl, _⟩ := hb.len
 exact ⟨A, c, rfl, conv_bytes hb⟩
theorem Bs.headG {w : World} {M : List Nat} {A : Option Addr} {c : Nat} {l : List UInt8} (h : Bs w M (.slice A l.length c) l) (k : Nat) (hk : k ≤ l.length) : Bs w M (.slice A k c) (l.take k) := by
 obtain ⟨A', c', e, hcc, hl, hr⟩ := h
 injection e with e1 _ e3
 subst e1 e3
 show Rd _ _ _ _ (l.take k).length _
 rw [List.length_take, Nat.min_eq_left hk]
 refine ⟨_, c, rfl, by omega, by simp; omega, fun hn => ?_⟩
 obtain ⟨g, off, rfl, hg, hm, hx⟩ := hr (by omega)
 refine ⟨g, off, rfl, hg, hm, fun j u hu => hx j u ?_⟩
 rw [List.getElem?_map] at hu ⊢
 rw [List.getElem?_take] at hu
 split at hu
 ·exact hu
 ·cases hu
set_option maxRecDepth 100000 in
set_option maxHeartbeats 4000000 in
theorem rget_any (v : Value) (l : List UInt8) (w : World) (h : Bs w [] v l) (hl : l.length ≤ 4611686018427387904) :
  Calls Tryz.prog 96 #[v] w fun e w' => RGetP l w e w' := by
 have H := Lib.hid h
 obtain ⟨A, c, rfl, hc⟩ := h.len
 clear h
 go_enter Tryz.func96, Tryz.ntmps96
 go_wp2_with fail
 go_loopw [4, 5] (fun nn i wr => ∃ (x n : Nat), nn = .int .u64 n ∧ i = .int .i64 x ∧ x ≤ l.length ∧ x ≤ 10 ∧ Hid (n < 2 ^ (7 * x)) ∧ Hid (n < 18446744073709551616) ∧ Hid (getL l = rgetF l x n (l.drop x)) ∧ wr = w) (fun _ i _ => 10 - (intOf i).toNat)
 case atStart => exact ⟨0, 0, rfl, rfl, by omega, by omega, (show (0 : Nat) < 2 ^ (7 * 0) by omega), (show (0 : Nat) < _ by omega), (rgetF_all l).symm, rfl⟩
 case round =>
  obtain ⟨x, n, rfl, rfl, hx, hx10, Hn, Hn64, Hg, rfl⟩ := hrel
  by_cases hlt : x < l.length
  ·by_cases hl10 : x < 10
   ·obtain ⟨g, off, _, e1, _, hg, _, h1⟩ := Rd.at_ (fun b => [bV b]) 1 (fun _ => rfl) (xs := l) (show Rd wr [] 1 (.slice A l.length c) l.length (l.flatMap fun b => [bV b]) by rw [← List.map_eq_flatMap]; exact H.out) hlt
    obtain rfl : A = some ⟨g, off, none⟩ := by injection e1
    clear e1
    have c0 := h1 0 _ rfl
    clear h1
    rw [Nat.mul_one, Nat.add_zero] at c0
    simp only [bV] at c0
    have hb := UInt8.toNat_lt (l[x])
    have hdrop : l.drop x = l[x] :: l.drop (x + 1) := List.drop_eq_getElem_cons hlt
    have Hst := Lib.hid (show getL l = (if 10 ≤ x then (0, 0)
     else if l[x].toNat < 128 then (if Lib.uvarint (n + l[x].toNat % 128 * 2 ^ (7 * x) % 18446744073709551616) = l.take (x + 1) then (n + l[x].toNat % 128 * 2 ^ (7 * x) % 18446744073709551616, x + 1) else (0, 0))
     else rgetF l (x + 1) (n + l[x].toNat % 128 * 2 ^ (7 * x) % 18446744073709551616) (l.drop (x + 1))) by rw [Hg.out, hdrop]; rfl)
    generalize l[x].toNat = cb at *
    have hx1 : (x : Int) < (l.length : Int) := by omega
    have hx2 : (x : Int) < 10 := by omega
    have hand := u8_and127 cb (by omega)
    have hpl : cb % 128 < 128 := Nat.mod_lt _ (by omega)
    generalize cb % 128 = p at *
    clear hdrop
    have hcv : IntKind.u64.wrap (p : Int) = (p : Int) := by rw [IntKind.wrap_u64]; omega
    have hk63 : 7 * x ≤ 63 := by omega
    obtain ⟨hor, hm1, hm2⟩ := or_more n p (7 * x) hk63 Hn.out Hn64.out hpl
    generalize n + p * 2 ^ (7 * x) % 18446744073709551616 = m at *
    have Hm1 : Hid (m < 2 ^ (7 * (x + 1))) := by show _ < _; rw [show 7 * (x + 1) = 7 * x + 7 by omega]; exact hm1
    have Hm2 := Lib.hid hm2
    clear hm1 hm2
    by_cases hcb : cb < 128
    ·have hd : (cb : Int) < 128 := by omega
     have HR : Hid (getL l = if Lib.uvarint m = l.take (x + 1) then (m, x + 1) else (0, 0)) := by show _ = _; rw [Hst.out, if_neg (by omega), if_pos hcb]
     obtain ⟨tA, htA⟩ : ∃ tA : ByteArray, tA = ⟨(Lib.uvarint m).toArray⟩ := ⟨_, rfl⟩
     obtain ⟨tB, htB⟩ : ∃ tB : ByteArray, tB = ⟨(l.take (x + 1)).toArray⟩ := ⟨_, rfl⟩
     have hcmp : Hid ((tA.toList == tB.toList) = decide (Lib.uvarint m = l.take (x + 1))) := by
      show _ = _
      rw [htA, htB, Lib.toList_data, Lib.toList_data, Bool.eq_iff_iff, beq_iff_eq, decide_eq_true_eq]
     have hput : Hid (∀ W, Calls Tryz.prog 67 #[.slice none 0 0, .int .u64 m] W fun e w' => OwnB (Lib.uvarint m) W e w') := fun W => by
      have := rput_any (.slice none 0 0) [] m W (Bs.nil _ _) Hm2.out (by simp)
      rwa [List.nil_append] at this
     have hcv2 : Hid (∀ (W : World) (v7 : Value) {base : Nat}, W.ownsRow base 5 1 v7 (Lib.uvarint m).length ((Lib.uvarint m).map bV) → ∃ A7 c7, v7 = .slice A7 (Lib.uvarint m).length c7 ∧ (convert 36 9 (.slice A7 (Lib.uvarint m).length c7)).run Tryz.prog W = .ok (.string tA) W) := fun W v7 base h => by rw [htA]; exact conv_own h
     have HS7 : Hid (∀ W, Below wr.heap.size wr W → (convert 36 9 (.slice (some ⟨g, off, none⟩) (x + 1) c)).run Tryz.prog W = .ok (.string tB) W) := fun W hb => by
      have h1 := (H.out.keep (Keeps.of_below (M := []) hb) (by simp)).headG (x + 1) (by omega)
      have h2 : (l.take (x + 1)).length = x + 1 := by rw [List.length_take]; omega
      have h3 := conv_bytes (l := l.take (x + 1)) (A := some ⟨g, off, none⟩) (c := c) (w := W) (M := []) (by rw [h2]; exact h1)
      rw [h2] at h3
      rw [htB]
      exact h3
     have hxc : (x : Int) + 1 ≤ (c : Int) := by omega
     have hwx : IntKind.i64.wrap ((x : Int) + 1) = (x : Int) + 1 := by rw [IntKind.wrap_i64]; omega
     have hx0 : (0 : Int) ≤ (x : Int) + 1 := by omega
     have hxt : ((x : Int) + 1).toNat = x + 1 := by omega
     clear htA htB Hst Hm1 Hg Hn Hn64
     go_upto_region 7 with (fail)
     clear hor hand hcv
     by_cases hq : Lib.uvarint m = l.take (x + 1)
     ·have hR : Hid (getL l = (m, x + 1)) := by show _ = _; rw [HR.out, if_pos hq]
      have hcm : (tA.toList == tB.toList) = true := by rw [hcmp.out]; exact decide_eq_true hq
      clear hq HR hcmp
      refine wp_region_held_drew (S := (fun W => (convert 36 9 (.slice (some ⟨g, off, none⟩) (x + 1) c)).run Tryz.prog W = .ok (.string tB) W)) (by kernel_rfl) (HS7.out _ (bdrewG (Below.refl _ wr))) (fun hHeld => ?_)
      refine wpAnyH_take (i := 0) (oi := _) (v := ?v0) rfl (by kernel_rfl) (by kernel_rfl) (by kernel_rfl) (fun _ _ _ h => h) (Or.inl ⟨by rfl, ?y0⟩) (by assumption) ?r0
      case y0 => (intro w hSw; (try dsimp only at hSw); go_simp <;> with_reducible rfl)
      try simp only [List.getElem_toArray, List.getElem_cons_succ, List.getElem_cons_zero, Act.put, List.setIfInBounds_toArray, List.set_cons_zero, List.set_cons_succ]
      refine wpAnyH_take (i := 3) (oi := _) (v := ?v3) rfl (by kernel_rfl) (by kernel_rfl) (by kernel_rfl) (fun _ _ _ h => h) (Or.inl ⟨by rfl, ?y3⟩) (by assumption) ?r3
      case y3 => (intro w hSw; (try dsimp only at hSw); go_simp <;> with_reducible rfl)
      try simp only [List.getElem_toArray, List.getElem_cons_succ, List.getElem_cons_zero, Act.put, List.setIfInBounds_toArray, List.set_cons_zero, List.set_cons_succ]
      refine wpAnyH_take (i := 4) (oi := _) (v := ?v4) rfl (by kernel_rfl) (by kernel_rfl) (by kernel_rfl) (fun _ _ _ h => h) (Or.inl ⟨by rfl, ?y4⟩) (by assumption) ?r4
      case y4 => (intro w hSw; (try dsimp only at hSw); go_simp <;> with_reducible rfl)
      try simp only [List.getElem_toArray, List.getElem_cons_succ, List.getElem_cons_zero, Act.put, List.setIfInBounds_toArray, List.set_cons_zero, List.set_cons_succ]
      refine wpAnyH_take (i := 5) (oi := _) (v := ?v5) rfl (by kernel_rfl) (by kernel_rfl) (by kernel_rfl) (fun _ _ _ h => h) (Or.inl ⟨by rfl, ?y5⟩) (by assumption) ?r5
      case y5 => (intro w hSw; (try dsimp only at hSw); go_simp <;> with_reducible rfl)
      try simp only [List.getElem_toArray, List.getElem_cons_succ, List.getElem_cons_zero, Act.put, List.setIfInBounds_toArray, List.set_cons_zero, List.set_cons_succ]
      refine wpAnyH_take (i := 6) (oi := _) (v := ?v6) rfl (by kernel_rfl) (by kernel_rfl) (by kernel_rfl) (fun _ _ _ h => h) (Or.inl ⟨by rfl, ?y6⟩) (by assumption) ?r6
      case y6 => (intro w hSw; (try dsimp only at hSw); go_simp <;> with_reducible rfl)
      try simp only [List.getElem_toArray, List.getElem_cons_succ, List.getElem_cons_zero, Act.put, List.setIfInBounds_toArray, List.set_cons_zero, List.set_cons_succ]
      refine wpAnyH_take (i := 7) (oi := _) (v := ?v7) rfl (by kernel_rfl) (by kernel_rfl) (by kernel_rfl) (fun _ _ _ h => h) (Or.inl ⟨by rfl, ?y7⟩) (by assumption) ?r7
      case y7 => (intro w hSw; (try dsimp only at hSw); go_simp <;> with_reducible rfl)
      try simp only [List.getElem_toArray, List.getElem_cons_succ, List.getElem_cons_zero, Act.put, List.setIfInBounds_toArray, List.set_cons_zero, List.set_cons_succ]
      refine wpAnyH_ready (rs := [1]) (by kernel_rfl) (by simp) ?_
      refine AllReadyH.cons (o := _) rfl (fun K hK => ?_) AllReadyH.nil
      go_simp
      refine (hput.out _).mono ?_
      rintro e w7 ⟨v7, rfl, hown7, hb⟩
      have hb7 := Lib.hid (bthenG (bdrewG (Below.refl _ wr)) hb)
      have hcv7 := hcv2.out w7 v7 hown7
      obtain ⟨A7, c7, rfl, hcv8⟩ := hcv7
      clear hb hown7
      refine hK.out _ _ (HS7.out _ hb7.out) (fun hHeld2 => ?_)
      clear hK K hHeld
      have hHeld := hHeld2
      clear hHeld2
      try simp only [List.getElem_toArray, List.getElem_cons_succ, List.getElem_cons_zero, Act.put, List.setIfInBounds_toArray, List.set_cons_zero, List.set_cons_succ]
      refine wpAnyH_ready (rs := [2]) (by kernel_rfl) (by simp) ?_
      refine AllReadyH.cons (o := _) rfl (fun K hK => ?_) AllReadyH.nil
      go_simp
      refine hK.out _ _ (HS7.out _ hb7.out) (fun hHeld2 => ?_)
      clear hK K hHeld
      have hHeld := hHeld2
      clear hHeld2
      try simp only [List.getElem_toArray, List.getElem_cons_succ, List.getElem_cons_zero, Act.put, List.setIfInBounds_toArray, List.set_cons_zero, List.set_cons_succ]
      refine wpAnyH_take (i := 8) (oi := _) (v := ?v8) rfl (by kernel_rfl) (by kernel_rfl) (by kernel_rfl) (fun _ _ _ h => h) (Or.inl ⟨by rfl, ?y8⟩) (by assumption) ?r8
      case y8 => (intro w hSw; (try dsimp only at hSw); go_simp <;> with_reducible rfl)
      try simp only [List.getElem_toArray, List.getElem_cons_succ, List.getElem_cons_zero, Act.put, List.setIfInBounds_toArray, List.set_cons_zero, List.set_cons_succ]
      refine wpAnyH_done (by kernel_rfl) ?_ _
      go_wp2
      go_ret2
      show RGetP l wr _ _
      unfold RGetP
      rw [hR.out]
      exact ⟨rfl, hb7.out⟩
     ·have hR : Hid (getL l = (0, 0)) := by show _ = _; rw [HR.out, if_neg hq]
      have hcm : (tA.toList == tB.toList) = false := by rw [hcmp.out]; exact decide_eq_false hq
      clear hq HR hcmp
      refine wp_region_held_drew (S := (fun W => (convert 36 9 (.slice (some ⟨g, off, none⟩) (x + 1) c)).run Tryz.prog W = .ok (.string tB) W)) (by kernel_rfl) (HS7.out _ (bdrewG (Below.refl _ wr))) (fun hHeld => ?_)
      refine wpAnyH_take (i := 0) (oi := _) (v := ?v0f) rfl (by kernel_rfl) (by kernel_rfl) (by kernel_rfl) (fun _ _ _ h => h) (Or.inl ⟨by rfl, ?y0f⟩) (by assumption) ?r0f
      case y0f => (intro w hSw; (try dsimp only at hSw); go_simp <;> with_reducible rfl)
      try simp only [List.getElem_toArray, List.getElem_cons_succ, List.getElem_cons_zero, Act.put, List.setIfInBounds_toArray, List.set_cons_zero, List.set_cons_succ]
      refine wpAnyH_take (i := 3) (oi := _) (v := ?v3f) rfl (by kernel_rfl) (by kernel_rfl) (by kernel_rfl) (fun _ _ _ h => h) (Or.inl ⟨by rfl, ?y3f⟩) (by assumption) ?r3f
      case y3f => (intro w hSw; (try dsimp only at hSw); go_simp <;> with_reducible rfl)
      try simp only [List.getElem_toArray, List.getElem_cons_succ, List.getElem_cons_zero, Act.put, List.setIfInBounds_toArray, List.set_cons_zero, List.set_cons_succ]
      refine wpAnyH_take (i := 4) (oi := _) (v := ?v4f) rfl (by kernel_rfl) (by kernel_rfl) (by kernel_rfl) (fun _ _ _ h => h) (Or.inl ⟨by rfl, ?y4f⟩) (by assumption) ?r4f
      case y4f => (intro w hSw; (try dsimp only at hSw); go_simp <;> with_reducible rfl)
      try simp only [List.getElem_toArray, List.getElem_cons_succ, List.getElem_cons_zero, Act.put, List.setIfInBounds_toArray, List.set_cons_zero, List.set_cons_succ]
      refine wpAnyH_take (i := 5) (oi := _) (v := ?v5f) rfl (by kernel_rfl) (by kernel_rfl) (by kernel_rfl) (fun _ _ _ h => h) (Or.inl ⟨by rfl, ?y5f⟩) (by assumption) ?r5f
      case y5f => (intro w hSw; (try dsimp only at hSw); go_simp <;> with_reducible rfl)
      try simp only [List.getElem_toArray, List.getElem_cons_succ, List.getElem_cons_zero, Act.put, List.setIfInBounds_toArray, List.set_cons_zero, List.set_cons_succ]
      refine wpAnyH_take (i := 6) (oi := _) (v := ?v6f) rfl (by kernel_rfl) (by kernel_rfl) (by kernel_rfl) (fun _ _ _ h => h) (Or.inl ⟨by rfl, ?y6f⟩) (by assumption) ?r6f
      case y6f => (intro w hSw; (try dsimp only at hSw); go_simp <;> with_reducible rfl)
      try simp only [List.getElem_toArray, List.getElem_cons_succ, List.getElem_cons_zero, Act.put, List.setIfInBounds_toArray, List.set_cons_zero, List.set_cons_succ]
      refine wpAnyH_take (i := 7) (oi := _) (v := ?v7f) rfl (by kernel_rfl) (by kernel_rfl) (by kernel_rfl) (fun _ _ _ h => h) (Or.inl ⟨by rfl, ?y7f⟩) (by assumption) ?r7f
      case y7f => (intro w hSw; (try dsimp only at hSw); go_simp <;> with_reducible rfl)
      try simp only [List.getElem_toArray, List.getElem_cons_succ, List.getElem_cons_zero, Act.put, List.setIfInBounds_toArray, List.set_cons_zero, List.set_cons_succ]
      refine wpAnyH_ready (rs := [1]) (by kernel_rfl) (by simp) ?_
      refine AllReadyH.cons (o := _) rfl (fun K hK => ?_) AllReadyH.nil
      go_simp
      refine (hput.out _).mono ?_
      rintro e w7 ⟨v7, rfl, hown7, hb⟩
      have hb7 := Lib.hid (bthenG (bdrewG (Below.refl _ wr)) hb)
      have hcv7 := hcv2.out w7 v7 hown7
      obtain ⟨A7, c7, rfl, hcv8⟩ := hcv7
      clear hb hown7
      refine hK.out _ _ (HS7.out _ hb7.out) (fun hHeld2 => ?_)
      clear hK K hHeld
      have hHeld := hHeld2
      clear hHeld2
      try simp only [List.getElem_toArray, List.getElem_cons_succ, List.getElem_cons_zero, Act.put, List.setIfInBounds_toArray, List.set_cons_zero, List.set_cons_succ]
      refine wpAnyH_ready (rs := [2]) (by kernel_rfl) (by simp) ?_
      refine AllReadyH.cons (o := _) rfl (fun K hK => ?_) AllReadyH.nil
      go_simp
      refine hK.out _ _ (HS7.out _ hb7.out) (fun hHeld2 => ?_)
      clear hK K hHeld
      have hHeld := hHeld2
      clear hHeld2
      try simp only [List.getElem_toArray, List.getElem_cons_succ, List.getElem_cons_zero, Act.put, List.setIfInBounds_toArray, List.set_cons_zero, List.set_cons_succ]
      refine wpAnyH_take (i := 8) (oi := _) (v := ?v8f) rfl (by kernel_rfl) (by kernel_rfl) (by kernel_rfl) (fun _ _ _ h => h) (Or.inl ⟨by rfl, ?y8f⟩) (by assumption) ?r8f
      case y8f => (intro w hSw; (try dsimp only at hSw); go_simp <;> with_reducible rfl)
      try simp only [List.getElem_toArray, List.getElem_cons_succ, List.getElem_cons_zero, Act.put, List.setIfInBounds_toArray, List.set_cons_zero, List.set_cons_succ]
      refine wpAnyH_done (by kernel_rfl) ?_ _
      go_wp2
      go_ret2
      show RGetP l wr _ _
      unfold RGetP
      rw [hR.out]
      exact ⟨rfl, hb7.out⟩
    ·have hd : (128 : Int) ≤ (cb : Int) := by omega
     have HG : Hid (getL l = rgetF l (x + 1) m (l.drop (x + 1))) := by show _ = _; rw [Hst.out, if_neg (by omega), if_neg hcb]
     clear Hst Hg Hn Hn64
     go_wp2
     go_roundw
     case rel => exact ⟨x + 1, m, rfl, by go_num, by omega, by omega, Hm1, Hm2, HG, by first | trivial | rfl⟩
     case measure => simp [intOf] <;> omega
   ·obtain rfl : x = 10 := by omega
    have hx1 : (10 : Int) < (l.length : Int) := by omega
    have hR : Hid (getL l = (0, 0)) := by
     show _ = _
     rw [Hg.out, List.drop_eq_getElem_cons hlt]
     rfl
    clear Hg Hn Hn64
    go_wp2
    go_ret2
    show RGetP l wr _ _
    unfold RGetP
    rw [hR.out]
    exact ⟨rfl, Below.refl _ _⟩
  ·obtain rfl : x = l.length := by omega
   have hR : Hid (getL l = (0, 0)) := by
    show _ = _
    rw [Hg.out, List.drop_length]
    rfl
   clear Hg Hn Hn64
   go_wp2
   go_ret2
   show RGetP l wr _ _
   unfold RGetP
   rw [hR.out]
   exact ⟨rfl, Below.refl _ _⟩
end Go.Proofs.YtinnifhnabncfaaGreatDoor.Vi
end
section
namespace Go.Proofs.YtinnifhnabncfaaGreatDoor.Vi
open Go.RowKit Base Mem
def charOk (c : UInt8) : Bool := (97 ≤ c.toNat && c.toNat ≤ 122) || (48 ≤ c.toNat && c.toNat ≤ 57) || c.toNat == 95
def nameOk (s : ByteArray) : Bool := decide (1 ≤ s.size) && decide (s.size ≤ 32) && (sB s).all charOk
theorem sB_len (s : ByteArray) : (sB s).length = s.size := rfl
set_option maxRecDepth 100000 in
set_option maxHeartbeats 1000000 in
theorem name_any (s : ByteArray) (w : World) : Calls Tryz.prog 228 #[.string s] w fun e w' => e = .returned (.bool (nameOk s)) ∧ w = w' := by
  have Hn : Hid (nameOk s = (decide (1 ≤ s.size) && decide (s.size ≤ 32) && (sB s).all charOk)) := rfl
  have hs0 : s.toList.length = s.size := by rw [ByteArray.toList_eq]; rfl
  by_cases h0 : s.size = 0
  · have hz : s.toList = [] := List.length_eq_zero_iff.1 (by rw [hs0, h0])
    have hz2 : s.toList.isEmpty = true := by rw [hz]; rfl
    have hR : Hid (nameOk s = false) := by show _ = _; rw [Hn.out]; simp [h0]
    rw [hR.out]
    go_enter Tryz.func228, Tryz.ntmps228
    go_wp2
    go_ret
    exact ⟨rfl, rfl⟩
  · have hz : s.toList ≠ [] := fun h => h0 (by rw [← hs0, h]; rfl)
    have hz2 : s.toList.isEmpty = false := by simpa using hz
    by_cases h32 : 32 < s.size
    · have hi : (32 : Int) < (s.size : Int) := by omega
      have hR : Hid (nameOk s = false) := by show _ = _; rw [Hn.out]; simp; omega
      rw [hR.out]
      go_enter Tryz.func228, Tryz.ntmps228
      go_wp2
      go_ret
      exact ⟨rfl, rfl⟩
    · have hi : decide ((32 : Int) < (s.size : Int)) = false := decide_eq_false (by omega)
      go_enter Tryz.func228, Tryz.ntmps228
      go_wp2_with fail
      go_loopw [14] (fun i wr => ∃ x : Nat, i = .int .i64 x ∧ x ≤ s.size ∧ Hid (((sB s).take x).all charOk = true) ∧ w = wr) (fun i _ => s.size - (intOf i).toNat)
      case atStart => exact ⟨0, rfl, by omega, rfl, rfl⟩
      case round =>
        obtain ⟨x, rfl, hx, Ht, rfl⟩ := hrel
        by_cases hlt : x < s.size
        · have hx1 : (x : Int) < (s.size : Int) := by omega
          have hxb : x < (sB s).length := hlt
          have hget : (sB s)[x] = s[x] := rfl
          have Hnx : Hid (((sB s).take (x + 1)).all charOk = charOk s[x]) := by
            show _ = _
            rw [List.take_succ_eq_append_getElem hxb, List.all_append, Ht.out, hget]; simp
          have Hall : Hid (charOk s[x] = false → nameOk s = false) := fun h => by
            rw [Hn.out]
            have : (sB s).all charOk = false := by
              rw [List.all_eq_false]
              exact ⟨(sB s)[x], List.getElem_mem _, by rw [hget, h]; simp⟩
            rw [this]; simp
          have Hch : Hid (charOk s[x] = ((decide (97 ≤ s[x].toNat) && decide (s[x].toNat ≤ 122)) || (decide (48 ≤ s[x].toNat) && decide (s[x].toNat ≤ 57)) || s[x].toNat == 95)) := rfl
          clear hget
          have Hny : Hid (charOk s[x] = true → ((sB s).take (x + 1)).all charOk = true) := fun h => Hnx.out.trans h
          clear Hnx
          go_wp2
          all_goals first
            | (go_roundw
               case rel =>
                 refine ⟨x + 1, by go_num, by omega, Hny.out ?_, trivial⟩
                 rw [Hch.out]
                 simp only [bne_eq_false_iff_eq, bne_iff_ne, ne_eq] at *
                 simp
                 omega
               case measure => simp [intOf] <;> omega)
            | (go_ret
               rw [Hall.out (by
                 rw [Hch.out]
                 simp only [bne_eq_false_iff_eq, bne_iff_ne, ne_eq] at *
                 simp
                 omega)]
               exact ⟨rfl, rfl⟩)
        · obtain rfl : x = s.size := by omega
          have hR : Hid (nameOk s = true) := by
            show _ = _
            rw [Hn.out]
            have := Ht.out
            rw [List.take_of_length_le (by rw [sB_len]; exact Nat.le_refl _)] at this
            rw [this]; simp; omega
          go_wp2
          go_ret
          rw [hR.out]
          exact ⟨rfl, rfl⟩
end Go.Proofs.YtinnifhnabncfaaGreatDoor.Vi
end
