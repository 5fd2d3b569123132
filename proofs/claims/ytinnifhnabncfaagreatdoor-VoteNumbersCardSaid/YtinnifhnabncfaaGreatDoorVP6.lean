/- Texts put together: Tape2, Tape3, EntE, MPut, EqF, Msg1, Msg2, Msg3, Msg4, Msg5, StB, Tape4, Msg6, MGet, Msg7, Msg8, Msg9, MsgA, RfM, PlV, RvP, Ref4. -/
import Derived.Deep.MidRow
import Derived.Deep.RegionHeld3
import Derived.Laws.IdiomStrings
import Derived.Test.YtinnifhnabncfaaGreatDoorVP1
import Derived.Test.YtinnifhnabncfaaGreatDoorVP2
import Derived.Test.YtinnifhnabncfaaGreatDoorVP5
set_option linter.unusedVariables false
set_option linter.unusedSimpArgs false
section
namespace Go.Proofs.YtinnifhnabncfaaGreatDoor.Tape
open Go.RowKit Base Mem
def nameL : List (List UInt8) := [[97, 61, 49], [97, 61, 50], [97, 61, 49, 44, 98, 61, 120], [106, 111, 98, 61, 97, 112, 105, 44, 122, 111, 110, 101, 61, 101, 117], [106, 111, 98, 61, 119, 101, 98], [107, 61, 118], [110, 61, 48], [97, 61, 51, 44, 99, 61, 57]]
/-- A series that there is. -/
def NameOk (s : ByteArray) : Prop := ∃ l ∈ nameL, s = ⟨l.toArray⟩
def DeltaOk (d : DeltaD) : Prop := NameOk d.ser ∧ 1 ≤ d.n ∧ d.n ≤ 18446744073709551615
theorem names_any (w : World) : Calls Tryz.prog 107 #[] w fun e w' => e = .returned (.slice (some ⟨w.heap.size, 0, none⟩) 8 8) ∧ Blk w' w.heap.size 9 (nameL.map fun l => Value.string ⟨l.toArray⟩).toArray ∧ Below w.heap.size w w' := by
 go_enter Tryz.func107, Tryz.ntmps107
 go_wp2
 go_ret
 exact ⟨rfl, Blk.new w _ _, below_new' _ _⟩
theorem name_at {w : World} {g j : Nat} (h : Blk w g 9 (nameL.map fun l => Value.string ⟨l.toArray⟩).toArray) (hj : j < 8) : ∃ s, w.cell? ⟨g, j, none⟩ = some (.string s) ∧ NameOk s := by
 have hl : j < nameL.length := hj
 refine ⟨⟨nameL[j].toArray⟩, ?_, nameL[j], List.getElem_mem hl, rfl⟩
 rw [h.cell, List.getElem?_toArray, List.getElem?_map, List.getElem?_eq_getElem hl]
 rfl
theorem series_any (b : Nat) (L : TapeL) (k : Nat) (w : World) (h : TapeAt w b L k) :
  Calls Tryz.prog 55 #[.pointer (some ⟨b, 0, none⟩)] w fun e w' => ∃ (s : ByteArray) (k' : Nat), e = .returned (.string s) ∧ NameOk s ∧ TapeAt w' b L k' ∧ Keeps [b] w w' := by
 have H := Lib.hid h
 obtain ⟨_, _, _, _, _, _, hlt, _⟩ := h.cells
 clear h
 go_enter Tryz.func55, Tryz.ntmps55
 go_wp2_with fail
 refine (names_any w).mono ?_
 rintro e w1 ⟨rfl, hb1, hbel⟩
 have hT := H.out.keep (Keeps.of_below (M := []) hbel) (by simp)
 have Hb1 := Lib.hid hb1; have Hbel := Lib.hid hbel; have HT := Lib.hid hT
 clear hb1 hbel hT
 go_wp2_with fail
 refine (next_any b L k 8 w1 HT.out).mono ?_
 rintro e w2 ⟨v, k', rfl, hv0, hv8, hT2, hK2⟩
 obtain ⟨j, rfl⟩ := Int.eq_ofNat_of_zero_le hv0
 have hj8 : (j : Int) < 8 := hv8 (by omega)
 obtain ⟨s, hs, hok⟩ := name_at (hK2.blk Hb1.out (by simp; omega)) (show j < 8 by omega)
 have HT2 := Lib.hid hT2; have HK := Lib.hid ((Keeps.of_below (M := [b]) Hbel.out).trans hK2 (by simp))
 have Hok := Lib.hid hok
 clear hv8 hT2 hK2 hok
 go_wp2
 go_ret
 exact ⟨s, k', rfl, Hok.out, HT2.out, HK.out⟩
theorem n_any (b : Nat) (L : TapeL) (k : Nat) (w : World) (h : TapeAt w b L k) :
  Calls Tryz.prog 117 #[.pointer (some ⟨b, 0, none⟩)] w fun e w' => ∃ (n : Int) (k' : Nat), e = .returned (.int .u64 n) ∧ (1 ≤ n ∧ n ≤ 18446744073709551615) ∧ TapeAt w' b L k' ∧ Keeps [b] w w' := by
 have H := Lib.hid h
 clear h
 go_enter Tryz.func117, Tryz.ntmps117
 go_wp2_with fail
 refine (next_any b L k 12 w H.out).mono ?_
 rintro e w1 ⟨v, k', rfl, hv0, hv8, hT, hK⟩
 have hv12 := hv8 (by omega)
 have HT := Lib.hid hT; have HK := Lib.hid hK
 clear hv8 hT hK
 by_cases c0 : v = 0
 ·subst c0
  go_wp2
  go_ret
  exact ⟨_, _, rfl, ⟨by omega, by omega⟩, HT.out, HK.out⟩
 ·by_cases c1 : v = 1
  ·subst c1
   go_wp2
   go_ret
   exact ⟨_, _, rfl, ⟨by omega, by omega⟩, HT.out, HK.out⟩
  ·by_cases c2 : v = 2
   ·subst c2
    go_wp2_with fail
    refine (next_any b L k' 1073741824 w1 HT.out).mono ?_
    rintro e w2 ⟨x, k2, rfl, hx0, hx1, hT2, hK2⟩
    have hx2 := hx1 (by omega)
    have HT2 := Lib.hid hT2; have HK2 := Lib.hid (HK.out.trans hK2 (by simp))
    clear hx1 hT2 hK2
    go_wp2
    go_ret
    exact ⟨_, _, rfl, ⟨by omega, by omega⟩, HT2.out, HK2.out⟩
   ·have d0 : (v == 0) = false := by simpa using c0
    have d1 : (v == 1) = false := by simpa using c1
    have d2 : (v == 2) = false := by simpa using c2
    clear c0 c1 c2
    go_wp2_with fail
    refine (next_any b L k' 50 w1 HT.out).mono ?_
    rintro e w2 ⟨x, k2, rfl, hx0, hx1, hT2, hK2⟩
    have hx2 := hx1 (by omega)
    have HT2 := Lib.hid hT2; have HK2 := Lib.hid (HK.out.trans hK2 (by simp))
    clear hx1 hT2 hK2
    go_wp2
    go_ret
    exact ⟨_, _, rfl, ⟨by omega, by omega⟩, HT2.out, HK2.out⟩
theorem infoDelta' : (Tryz.prog.info? 86).map (fun i => (i.zero, i.size, i.bytes)) = some (some (.agg #[.string ByteArray.empty, .int .u64 0]), 2, 24) := by kernel_rfl
def DeltasPost (b : Nat) (L : TapeL) (most : Int) (w : World) (e : Ending) (w' : World) : Prop := ∃ (v : Value) (ds : List DeltaD) (k' : Nat), e = .returned v ∧ (∀ d ∈ ds, DeltaOk d) ∧ 1 ≤ ds.length ∧ (ds.length : Int) ≤ most ∧
   w'.ownsRow w.heap.size 86 2 v ds.length (dCells ds) ∧ TapeAt w' b L k' ∧ Keeps [b] w w'
set_option maxRecDepth 100000 in
theorem deltas_any (b : Nat) (L : TapeL) (k : Nat) (most : Int) (w : World) (h : TapeAt w b L k) (h1 : 1 ≤ most) (h2 : most ≤ 1000) :
  Calls Tryz.prog 63 #[.pointer (some ⟨b, 0, none⟩), .int .i64 most] w fun e w' => DeltasPost b L most w e w' := by
 obtain ⟨_, _, _, _, _, _, hbw, _⟩ := h.cells
 have H := Lib.hid h
 obtain ⟨i0, hi0, hz0, hz1, hz2⟩ := info_parts infoDelta'
 have Hi0 := Lib.hid hi0; have Hz0 := Lib.hid hz0; have Hz1 := Lib.hid hz1; have Hz2 := Lib.hid hz2
 clear h hi0 hz0 hz1 hz2
 go_enter Tryz.func63, Tryz.ntmps63
 go_wp2_with fail
 refine (next_any b L k most w H.out).mono ?_
 rintro e w1 ⟨v, k1, rfl, hv0, hv8, hT, hK⟩
 have hv9 := hv8 h1
 have HT := Lib.hid hT; have HK := Lib.hid hK
 clear hv8 hT hK
 go_wp2
 go_loopw [5, 6] (fun out nn wr => ∃ (ds : List DeltaD) (r : Int) (k' : Nat), nn = .int .i64 r ∧ 0 ≤ r ∧ r + ds.length = 1 + v ∧ Hid (∀ d ∈ ds, DeltaOk d) ∧ Hid (wr.ownsRow w.heap.size 86 2 out ds.length (dCells ds)) ∧ Hid (TapeAt wr b L k') ∧ Hid (Keeps [b] w wr))
  (fun _ nn _ => (intOf nn).toNat)
 case atStart => exact ⟨[], 1 + v, k1, rfl, by omega, by simp, (show ∀ _, _ from by simp), World.ownsRow_nil _ _ _ _, HT.out, HK.out⟩
 case round =>
  obtain ⟨ds, r, k', rfl, hr0, hrl, Hok, Hown, HTr, HKr⟩ := hrel
  have Hrl := Lib.hid hrl
  have hr1 : r ≤ 1 + v := by omega
  clear hrl
  by_cases hr : 0 < r
  ·go_wp2_with fail
   refine (series_any b L k' wr HTr.out).mono ?_
   rintro e w2 ⟨s, k2, rfl, hs, hT2, hK2⟩
   have Hs := Lib.hid hs; have HT2 := Lib.hid hT2; have HK2 := Lib.hid hK2
   clear hs hT2 hK2
   go_wp2_with fail
   refine (n_any b L k2 w2 HT2.out).mono ?_
   rintro e w3 ⟨n, k3, rfl, hn, hT3, hK3⟩
   have Hn := Lib.hid hn; have HT3 := Lib.hid hT3
   have hK4 := HK2.out.trans hK3 (by simp)
   have HK4 := Lib.hid hK4
   have hown3 : w3.ownsRow w.heap.size 86 2 u5 ds.length (dCells ds) := own_keep Hown.out hK4 (by simp; omega)
   have Hown3 := Lib.hid (hown3.alloc (.cells #[.string s, .int .u64 n] 86))
   have hds : ds.length ≤ 1000 := by have := Hrl.out; omega
   clear hn hT3 hK3 hK4 hown3
   go_wp2_with (at_builtin; refine wpList_append_any _ rfl (.tmp 15) (.tmp 21) _ rfl w.heap.size 86 i0 _ 2 24 Tryz.underlying24 Hi0.out Hz0.out Hz1.out Hz2.out rfl (by omega) u5 ds.length (dCells ds) rfl Hown3.out (w3.heap.size + 1) (some ⟨w3.heap.size, 0, none⟩) 1 1 (dCell ⟨s, n⟩) rfl (reads_new _ _ _ _ _ rfl) (by intro u hu; simp [dCell] at hu; rcases hu with rfl | rfl <;> rfl) (by unfold maxLen; omega) (by omega) (by have := HKr.out.size; have := HK4.out.size; simp; omega) ?_)
   intro v' w4 hown4 hg4 hat4
   have hlt0 := Hown.out.lt
   have hK5 : Keeps [b] w w4 := ((HKr.out.trans HK4.out (by simp)).alloc _).grown hg4 (fun g hg => .inr (hlt0 g hg).1)
   have hT5 : TapeAt w4 b L k3 := HT3.out.keep (M' := u5.ownBlock.toList) (((Keeps.refl _ _).alloc _).grown hg4 (fun g hg => .inl (by simpa using hg))) (by intro g hg; have := hlt0 g (by simpa using hg); omega)
   have hok4 : ∀ d ∈ ds ++ [(⟨s, n⟩ : DeltaD)], DeltaOk d := fun d hd => by
    rcases List.mem_append.1 hd with hd | hd
    ·exact Hok.out d hd
    ·simp at hd; subst hd; exact ⟨Hs.out, Hn.out⟩
   have Hok4 := Lib.hid hok4
   clear hok4
   have Hown4 : Hid (w4.ownsRow w.heap.size 86 2 v' (ds ++ [(⟨s, n⟩ : DeltaD)]).length (dCells (ds ++ [(⟨s, n⟩ : DeltaD)]))) := by
    show World.ownsRow _ _ _ _ _ _ _
    rw [List.length_append]
    unfold dCells at hown4 ⊢
    rw [List.flatMap_append]
    simpa using hown4
   have HT5 := Lib.hid hT5; have HK5 := Lib.hid hK5
   clear hown4 hg4 hat4 hlt0 hK5 hT5
   go_wp2
   go_roundw
   case rel => exact ⟨ds ++ [(⟨s, n⟩ : DeltaD)], r - 1, k3, rfl, by omega, by have := Hrl.out; simp; omega, Hok4, Hown4, HT5, HK5⟩
   case measure => simp [intOf]; omega
  ·have hr0 : r = 0 := by omega
   subst hr0
   have hpost : DeltasPost b L most w (.returned u5) wr := ⟨u5, ds, k', rfl, Hok.out, by have := Hrl.out; omega, by have := Hrl.out; omega, Hown.out, HTr.out, HKr.out⟩
   go_wp2
   go_ret
   exact hpost
def EntryOk (e : EntryD) : Prop := 0 ≤ e.fr ∧ e.fr < 8 ∧ 0 ≤ e.tag ∧ e.tag < 40 ∧
  ((e.kind = 2 ∧ NameOk e.ser ∧ e.ag = 0 ∧ e.sh = 0 ∧ e.seq = 0 ∧ e.ep = 0 ∧ e.ds = []) ∨
   (e.kind = 1 ∧ e.ser = ByteArray.empty ∧ 0 ≤ e.ag ∧ e.ag < 3 ∧ 0 ≤ e.sh ∧ e.sh < 2 ∧ 1 ≤ e.seq ∧ e.seq ≤ 90 ∧ 1 ≤ e.ep ∧ e.ep ≤ 4 ∧ 1 ≤ e.ds.length ∧ e.ds.length ≤ 4 ∧ ∀ d ∈ e.ds, DeltaOk d))
def EntryPost (b : Nat) (L : TapeL) (w : World) (e : Ending) (w' : World) : Prop := ∃ (en : EntryD) (dv : Value) (k' : Nat), e = .returned (.agg (eCell (en, dv)).toArray) ∧ EntryOk en ∧ (∀ M, (∀ g ∈ M, g < w.heap.size) → Ds w' M dv en.ds) ∧ TapeAt w' b L k' ∧ Keeps [b] w w'
def zeroE : Array Value := #[.int .i64 0, .int .i64 0, .int .i64 0, .int .i64 0, .int .i64 0, .slice none 0 0, .string ⟨#[]⟩, .int .i64 0, .int .i64 0]
/-- The cells of a block that is known whole. -/
theorem blk_cells {w : World} {g : Nat} {t : TypeId} {c0 c1 c2 c3 c4 c5 c6 c7 c8 : Value} (h : Blk w g t #[c0, c1, c2, c3, c4, c5, c6, c7, c8]) :
  w.cell? ⟨g, 0, none⟩ = some c0 ∧ w.cell? ⟨g, 1, none⟩ = some c1 ∧ w.cell? ⟨g, 2, none⟩ = some c2 ∧ w.cell? ⟨g, 3, none⟩ = some c3 ∧ w.cell? ⟨g, 4, none⟩ = some c4 ∧ w.cell? ⟨g, 5, none⟩ = some c5 ∧ w.cell? ⟨g, 6, none⟩ = some c6 ∧ w.cell? ⟨g, 7, none⟩ = some c7 ∧ w.cell? ⟨g, 8, none⟩ = some c8 ∧ (∀ i, w.frozen? ⟨g, i, none⟩ = false) :=
 ⟨h.cell 0, h.cell 1, h.cell 2, h.cell 3, h.cell 4, h.cell 5, h.cell 6, h.cell 7, h.cell 8, h.frozen⟩
theorem step_next (b : Nat) (L : TapeL) (k : Nat) (n : Int) (w0 w : World) (h : TapeAt w b L k) (hK : Keeps [b] w0 w) (hn : 1 ≤ n) :
  Calls Tryz.prog 62 #[.pointer (some ⟨b, 0, none⟩), .int .i64 n] w fun e w' => ∃ (v : Int) (k' : Nat), e = .returned (.int .i64 v) ∧ (0 ≤ v ∧ v < n) ∧ Hid (TapeAt w' b L k') ∧ Hid (Keeps [b] w w') ∧ Hid (Keeps [b] w0 w') :=
 (next_any b L k n w h).mono fun _ _ ⟨v, k', he, h0, h1, hT, hk⟩ => ⟨v, k', he, ⟨h0, h1 hn⟩, hT, hk, hK.trans hk (by simp)⟩
/-- What is known between two calls: the tape, the result's block g0, the entry's block g1. -/
structure St (w0 w : World) (b : Nat) (L : TapeL) (k g0 g1 : Nat) (c1 : Array Value) : Prop where
 tape : TapeAt w b L k
 keeps : Keeps [b] w0 w
 b0 : Blk w g0 26 zeroE
 b1 : Blk w g1 26 c1
 lt0 : b < g0
 lt1 : g0 < g1
 old : w0.heap.size ≤ g0
theorem St.set {w0 w : World} {b : Nat} {L : TapeL} {k g0 g1 : Nat} {c1 : Array Value} (h : St w0 w b L k g0 g1 c1) (i : Nat) (v : Value) : St w0 (w.setCell ⟨g1, i, none⟩ v) b L k g0 g1 (c1.setIfInBounds i v) := by
 have hk : Keeps [g1] w (w.setCell ⟨g1, i, none⟩ v) := (Keeps.refl _ _).setCell (by simp) v
 have := h.lt0; have := h.lt1; have := h.old
 exact ⟨h.tape.keep hk (by intro g hg; simp at hg; omega), h.keeps.trans hk (by intro g hg; simp at hg; right; omega), hk.blk h.b0 (by simp; omega), h.b1.set_ i v, h.lt0, h.lt1, h.old⟩
theorem St.keep {w0 w w' : World} {b : Nat} {L : TapeL} {k k' g0 g1 : Nat} {c1 : Array Value} (h : St w0 w b L k g0 g1 c1) (hT : TapeAt w' b L k') (hk : Keeps [b] w w') : St w0 w' b L k' g0 g1 c1 := by
 have := h.lt0; have := h.lt1; have := h.old
 exact ⟨hT, h.keeps.trans hk (by simp), hk.blk h.b0 (by simp; omega), hk.blk h.b1 (by simp; omega), h.lt0, h.lt1, h.old⟩
theorem st_next {w0 w : World} {b : Nat} {L : TapeL} {k g0 g1 : Nat} {c1 : Array Value} (h : St w0 w b L k g0 g1 c1) (n : Int) (hn : 1 ≤ n) :
  Calls Tryz.prog 62 #[.pointer (some ⟨b, 0, none⟩), .int .i64 n] w fun e w' => ∃ (v : Int) (k' : Nat), e = .returned (.int .i64 v) ∧ (0 ≤ v ∧ v < n) ∧ Hid (St w0 w' b L k' g0 g1 c1) :=
 (next_any b L k n w h.tape).mono fun _ _ ⟨v, k', he, h0, h1, hT, hk⟩ => ⟨v, k', he, ⟨h0, h1 hn⟩, h.keep hT hk⟩
theorem st_series {w0 w : World} {b : Nat} {L : TapeL} {k g0 g1 : Nat} {c1 : Array Value} (h : St w0 w b L k g0 g1 c1) :
  Calls Tryz.prog 55 #[.pointer (some ⟨b, 0, none⟩)] w fun e w' => ∃ (s : ByteArray) (k' : Nat), e = .returned (.string s) ∧ Hid (NameOk s) ∧ Hid (St w0 w' b L k' g0 g1 c1) :=
 (series_any b L k w h.tape).mono fun _ _ ⟨s, k', he, h0, hT, hk⟩ => ⟨s, k', he, h0, h.keep hT hk⟩
def DelOk (w0 w' : World) (v : Value) (ds : List DeltaD) : Prop := (∀ d ∈ ds, DeltaOk d) ∧ 1 ≤ ds.length ∧ ds.length ≤ 4 ∧ (∀ M, (∀ g ∈ M, g < w0.heap.size) → Ds w' M v ds)
theorem st_deltas {w0 w : World} {b : Nat} {L : TapeL} {k g0 g1 : Nat} {c1 : Array Value} (h : St w0 w b L k g0 g1 c1) :
  Calls Tryz.prog 63 #[.pointer (some ⟨b, 0, none⟩), .int .i64 4] w fun e w' => ∃ (v : Value) (ds : List DeltaD) (k' : Nat), e = .returned v ∧ Hid (DelOk w w' v ds) ∧ Hid (St w0 w' b L k' g0 g1 c1) :=
 (deltas_any b L k 4 w h.tape (by omega) (by omega)).mono fun _ _ ⟨v, ds, k', he, h1, h2, h3, h4, hT, hk⟩ => ⟨v, ds, k', he, ⟨h1, h2, by omega, fun M hM => Rd.of_own h4 hM⟩, h.keep hT hk⟩
set_option maxRecDepth 100000 in
set_option maxHeartbeats 1000000 in
theorem entry_any (b : Nat) (L : TapeL) (k : Nat) (w : World) (h : TapeAt w b L k) :
  Calls Tryz.prog 16 #[.pointer (some ⟨b, 0, none⟩)] w fun e w' => EntryPost b L w e w' := by
 have hbw := h.lt
 have H := Lib.hid h
 clear h
 go_enter Tryz.func16, Tryz.ntmps16
 go_wp2_with fail
 have hT0 : TapeAt (w.alloc (.cells zeroE 26)) b L k := H.out.keep (M' := []) ((Keeps.refl _ _).alloc _) (by simp)
 have hB0 : Blk (w.alloc (.cells zeroE 26)) w.heap.size 26 zeroE := Blk.new w _ _
 have hK0 : Keeps [b] w (w.alloc (.cells zeroE 26)) := (Keeps.refl _ _).alloc _
 have hsz : w.heap.size < (w.alloc (.cells zeroE 26)).heap.size := by simp
 refine (step_next b L k 8 w _ hT0 hK0 (by omega)).mono ?_
 rintro e w1 ⟨fr, k1, rfl, ⟨hf0, hf1⟩, HT1, HK1, HKw1⟩
 have hB1 := HK1.out.blk hB0 (by simp; omega)
 have hs1 := HK1.out.size
 clear hT0 hB0 hK0
 obtain ⟨g0, hg0⟩ : ∃ g, g = w.heap.size := ⟨_, rfl⟩
 rw [← hg0] at hB1 ⊢
 have hbg0 : b < g0 := by omega
 have hg1 : g0 < w1.heap.size := by omega
 have HB1 := Lib.hid hB1; have Hg0 := Lib.hid hg0
 clear hB1 hg0 hsz hs1
 go_wp2_with fail
 refine (step_next b L k1 40 w w1 HT1.out HKw1.out (by omega)).mono ?_
 rintro e w2 ⟨tag, k2, rfl, ⟨ht0, ht1⟩, HT2, HK2, HKw2⟩
 have HB2 := Lib.hid (HK2.out.blk HB1.out (by simp; omega))
 have hg2 : g0 < w2.heap.size := Nat.lt_of_lt_of_le hg1 HK2.out.size
 go_wp2_with fail
 have hst : St w (w2.alloc (.cells #[.int .i64 1, .int .i64 0, .int .i64 0, .int .i64 0, .int .i64 0, .slice none 0 0, .string ⟨#[]⟩, .int .i64 fr, .int .i64 tag] 26)) b L k2 g0 w2.heap.size #[.int .i64 1, .int .i64 0, .int .i64 0, .int .i64 0, .int .i64 0, .slice none 0 0, .string ⟨#[]⟩, .int .i64 fr, .int .i64 tag] :=
  ⟨HT2.out.keep (M' := []) ((Keeps.refl _ _).alloc _) (by simp), HKw2.out.alloc _, (HB2.out.below (below_new' w2 _) hg2), Blk.new w2 _ _, hbg0, hg2, by have := Hg0.out; omega⟩
 have Hst := Lib.hid hst
 clear hst
 generalize (w2.alloc (.cells #[.int .i64 1, .int .i64 0, .int .i64 0, .int .i64 0, .int .i64 0, .slice none 0 0, .string ⟨#[]⟩, .int .i64 fr, .int .i64 tag] 26)) = w3 at *
 generalize w2.heap.size = g1 at *
 clear HT2 HK2 HKw2 HB2 HT1 HK1 HKw1 HB1 hg1
 go_wp2_with fail
 refine (st_next Hst.out 5 (by omega)).mono ?_
 rintro e w4 ⟨v, k4, rfl, ⟨hv0, hv1⟩, H4⟩
 clear Hst
 by_cases c0 : v = 0
 ·subst c0
  go_wp2_with fail
  refine (st_series H4.out).mono ?_
  rintro e w5 ⟨sr, k5, rfl, Hok, H5⟩
  obtain ⟨q0, q1, q2, q3, q4, q5, q6, q7, q8, qf⟩ := blk_cells H5.out.b1
  obtain ⟨r0, r1, r2, r3, r4, r5, r6, r7, r8, rf⟩ := blk_cells H5.out.b0
  have H6 := Lib.hid ((H5.out.set 0 (.int .i64 2)).set 6 (.string sr))
  have hl0 := H5.out.lt0; have hl1 := H5.out.lt1; have hl2 := H5.out.old
  clear H4 H5
  go_wp2
  refine bodyPost_ret (v := .agg #[.int .i64 2, .int .i64 0, .int .i64 0, .int .i64 0, .int .i64 0, .slice none 0 0, .string sr, .int .i64 fr, .int .i64 tag]) (by simp [results, Tryz.results16, go_sem, r0, r1, r2, r3, r4, r5, r6, r7, r8]) rfl ?_
  refine ⟨⟨2, 0, 0, 0, 0, [], sr, fr, tag⟩, .slice none 0 0, k5, rfl, ⟨hf0, hf1, ht0, ht1, .inl ⟨rfl, Hok.out, rfl, rfl, rfl, rfl, rfl⟩⟩, fun M _ => Ds.nil _ _, ?_, ?_⟩
  ·refine H6.out.tape.keep (M' := [g0]) ?_ (by intro g hg; simp at hg; omega)
   repeat (first | (with_reducible exact Keeps.refl _ _) | (with_reducible refine Keeps.setCell ?_ (by simp) _))
  ·repeat (first | (with_reducible exact H6.out.keeps) | (with_reducible refine Keeps.setCell ?_ (by right; simp; omega) _))
 ·have d0 : (v == 0) = false := by simpa using c0
  clear c0
  go_wp2_with fail
  refine (st_next H4.out 3 (by omega)).mono ?_
  rintro e w5 ⟨ag, k5, rfl, ⟨ha0, ha1⟩, H5⟩
  clear H4
  go_wp2_with fail
  refine (st_next H5.out 2 (by omega)).mono ?_
  rintro e w6 ⟨sh, k6, rfl, ⟨hs0, hs1⟩, H6⟩
  clear H5
  go_wp2_with fail
  refine (st_next H6.out 12 (by omega)).mono ?_
  rintro e w7 ⟨sq, k7, rfl, ⟨hq0, hq1⟩, H7⟩
  clear H6
  obtain ⟨q0, q1, q2, q3, q4, q5, q6, q7, q8, qf⟩ := blk_cells H7.out.b1
  have hst := ((H7.out.set 1 (.int .i64 ag)).set 2 (.int .i64 sh)).set 3 (.int .i64 (1 + sq))
  have H8 := Lib.hid hst
  clear hst H7
  go_wp2_with fail
  refine (st_next H8.out 9 (by omega)).mono ?_
  rintro e w9 ⟨v9, k9, rfl, ⟨hn0, hn1⟩, H9⟩
  clear H8 q0 q1 q2 q3 q4 q5 q6 q7 q8 qf
  by_cases c9 : v9 = 0
  ·subst c9
   go_wp2_with fail
   refine (st_next H9.out 90 (by omega)).mono ?_
   rintro e wa ⟨sq2, ka, rfl, ⟨hz0, hz1⟩, Ha⟩
   clear H9 hq0 hq1
   have hsq : 1 ≤ 1 + sq2 ∧ 1 + sq2 ≤ 90 := by omega
   obtain ⟨q0, q1, q2, q3, q4, q5, q6, q7, q8, qf⟩ := blk_cells Ha.out.b1
   have hst := Ha.out.set 3 (.int .i64 (1 + sq2))
   have Hb := Lib.hid hst
   clear hst Ha
   go_wp2_with fail
   refine (st_next Hb.out 4 (by omega)).mono ?_
   rintro e wb ⟨ep, kb, rfl, ⟨he0, he1⟩, Hc⟩
   clear Hb
   try clear q0 q1 q2 q3 q4 q5 q6 q7 q8 qf
   obtain ⟨q0, q1, q2, q3, q4, q5, q6, q7, q8, qf⟩ := blk_cells Hc.out.b1
   have Hd := Lib.hid (Hc.out.set 4 (.int .i64 (1 + ep)))
   clear Hc
   go_wp2_with fail
   refine (st_deltas Hd.out).mono ?_
   rintro e wd ⟨dv, ds, kd, rfl, Hdel, He⟩
   clear q0 q1 q2 q3 q4 q5 q6 q7 q8 qf
   obtain ⟨Av, cv, hve, _⟩ := (Hdel.out.2.2.2 [] (by simp)).len
   subst hve
   have hdold : w.heap.size ≤ (wb.setCell ⟨g1, 4, none⟩ (.int .i64 (1 + ep))).heap.size := Hd.out.keeps.size
   have hgs : g1 < (wb.setCell ⟨g1, 4, none⟩ (.int .i64 (1 + ep))).heap.size := Hd.out.b1.lt
   have Hdold := Lib.hid hdold
   have Hgs := Lib.hid hgs
   clear hdold hgs
   obtain ⟨q0, q1, q2, q3, q4, q5, q6, q7, q8, qf⟩ := blk_cells He.out.b1
   obtain ⟨r0, r1, r2, r3, r4, r5, r6, r7, r8, rf⟩ := blk_cells He.out.b0
   have hl2 := He.out.old
   have Hf := Lib.hid (He.out.set 5 (.slice Av ds.length cv))
   clear He Hd
   go_wp2
   refine bodyPost_ret (v := .agg #[.int .i64 1, .int .i64 ag, .int .i64 sh, .int .i64 (1 + sq2), .int .i64 (1 + ep), .slice Av ds.length cv, .string ⟨#[]⟩, .int .i64 fr, .int .i64 tag]) (by simp [results, Tryz.results16, go_sem, r0, r1, r2, r3, r4, r5, r6, r7, r8]) rfl ?_
   refine ⟨⟨1, ag, sh, 1 + sq2, 1 + ep, ds, ⟨#[]⟩, fr, tag⟩, .slice Av ds.length cv, kd, rfl, ⟨hf0, hf1, ht0, ht1, .inr ⟨rfl, rfl, ha0, ha1, hs0, hs1, hsq.1, hsq.2, by simp only []; omega, by simp only []; omega, Hdel.out.2.1, Hdel.out.2.2.1, Hdel.out.1⟩⟩, ?_, ?_, ?_⟩
   ·intro M hM
    have h0 := Hdel.out.2.2.2 (g0 :: g1 :: M) (by intro g hg; simp at hg; have := Hgs.out; have := Hdold.out; rcases hg with rfl | rfl | hg; omega; omega; have := hM g hg; omega)
    refine ((h0.keep (M' := [g0, g1]) ?_ (by intro g hg; simp at hg; rcases hg with rfl | rfl <;> simp)).avoid (fun g hg => .inl (List.mem_cons_of_mem _ (List.mem_cons_of_mem _ hg))))
    repeat (first | (with_reducible exact Keeps.refl _ _) | (with_reducible refine Keeps.setCell ?_ (by simp) _))
   ·refine Hf.out.tape.keep (M' := [g0]) ?_ (by intro g hg; simp at hg; omega)
    repeat (first | (with_reducible exact Keeps.refl _ _) | (with_reducible refine Keeps.setCell ?_ (by simp) _))
   ·repeat (first | (with_reducible exact Hf.out.keeps) | (with_reducible refine Keeps.setCell ?_ (by right; simp; omega) _))
  ·have d9 : (v9 == 0) = false := by simpa using c9
   clear c9
   have hsq : 1 ≤ 1 + sq ∧ 1 + sq ≤ 90 := by omega
   have Hb := H9
   clear H9
   go_wp2_with fail
   refine (st_next Hb.out 4 (by omega)).mono ?_
   rintro e wb ⟨ep, kb, rfl, ⟨he0, he1⟩, Hc⟩
   clear Hb
   try clear q0 q1 q2 q3 q4 q5 q6 q7 q8 qf
   obtain ⟨q0, q1, q2, q3, q4, q5, q6, q7, q8, qf⟩ := blk_cells Hc.out.b1
   have Hd := Lib.hid (Hc.out.set 4 (.int .i64 (1 + ep)))
   clear Hc
   go_wp2_with fail
   refine (st_deltas Hd.out).mono ?_
   rintro e wd ⟨dv, ds, kd, rfl, Hdel, He⟩
   clear q0 q1 q2 q3 q4 q5 q6 q7 q8 qf
   obtain ⟨Av, cv, hve, _⟩ := (Hdel.out.2.2.2 [] (by simp)).len
   subst hve
   have hdold : w.heap.size ≤ (wb.setCell ⟨g1, 4, none⟩ (.int .i64 (1 + ep))).heap.size := Hd.out.keeps.size
   have hgs : g1 < (wb.setCell ⟨g1, 4, none⟩ (.int .i64 (1 + ep))).heap.size := Hd.out.b1.lt
   have Hdold := Lib.hid hdold
   have Hgs := Lib.hid hgs
   clear hdold hgs
   obtain ⟨q0, q1, q2, q3, q4, q5, q6, q7, q8, qf⟩ := blk_cells He.out.b1
   obtain ⟨r0, r1, r2, r3, r4, r5, r6, r7, r8, rf⟩ := blk_cells He.out.b0
   have hl2 := He.out.old
   have Hf := Lib.hid (He.out.set 5 (.slice Av ds.length cv))
   clear He Hd
   go_wp2
   refine bodyPost_ret (v := .agg #[.int .i64 1, .int .i64 ag, .int .i64 sh, .int .i64 (1 + sq), .int .i64 (1 + ep), .slice Av ds.length cv, .string ⟨#[]⟩, .int .i64 fr, .int .i64 tag]) (by simp [results, Tryz.results16, go_sem, r0, r1, r2, r3, r4, r5, r6, r7, r8]) rfl ?_
   refine ⟨⟨1, ag, sh, 1 + sq, 1 + ep, ds, ⟨#[]⟩, fr, tag⟩, .slice Av ds.length cv, kd, rfl, ⟨hf0, hf1, ht0, ht1, .inr ⟨rfl, rfl, ha0, ha1, hs0, hs1, hsq.1, hsq.2, by simp only []; omega, by simp only []; omega, Hdel.out.2.1, Hdel.out.2.2.1, Hdel.out.1⟩⟩, ?_, ?_, ?_⟩
   ·intro M hM
    have h0 := Hdel.out.2.2.2 (g0 :: g1 :: M) (by intro g hg; simp at hg; have := Hgs.out; have := Hdold.out; rcases hg with rfl | rfl | hg; omega; omega; have := hM g hg; omega)
    refine ((h0.keep (M' := [g0, g1]) ?_ (by intro g hg; simp at hg; rcases hg with rfl | rfl <;> simp)).avoid (fun g hg => .inl (List.mem_cons_of_mem _ (List.mem_cons_of_mem _ hg))))
    repeat (first | (with_reducible exact Keeps.refl _ _) | (with_reducible refine Keeps.setCell ?_ (by simp) _))
   ·refine Hf.out.tape.keep (M' := [g0]) ?_ (by intro g hg; simp at hg; omega)
    repeat (first | (with_reducible exact Keeps.refl _ _) | (with_reducible refine Keeps.setCell ?_ (by simp) _))
   ·repeat (first | (with_reducible exact Hf.out.keeps) | (with_reducible refine Keeps.setCell ?_ (by right; simp; omega) _))

end Go.Proofs.YtinnifhnabncfaaGreatDoor.Tape
end
section
namespace Go.Proofs.YtinnifhnabncfaaGreatDoor.Vi
open Go.RowKit Base Mem Tape
set_option maxRecDepth 100000 in
theorem names_ok : (nameL.all fun l => serOk ⟨l.toArray⟩) = true := by decide +kernel
theorem names_len : (nameL.all fun l => decide (l.length ≤ 100)) = true := by decide
theorem name_ser {s : ByteArray} (h : NameOk s) : serOk s = true ∧ s.size ≤ 100 := by
 obtain ⟨l, hl, rfl⟩ := h
 refine ⟨List.all_eq_true.1 names_ok l hl, ?_⟩
 have := List.all_eq_true.1 names_len l hl
 show l.toArray.size ≤ 100
 simpa using this
theorem entry_right {e : EntryD} (h : EntryOk e) : rightE e = 0 ∧ Short e ∧ Wf e := by
 obtain ⟨h1, h2, h3, h4, h5⟩ := h
 have hw : withinB e.fr 8 = true := by simp [withinB]; omega
 have ht : decide (e.tag < 0) = false := decide_eq_false (by omega)
 rcases h5 with ⟨hk, hn, ha, hs, hq, hp, hd⟩ | ⟨hk, hse, a0, a1, s0, s1, q0, q1, p0, p1, d0, d1, hd⟩
 ·obtain ⟨hser, hsz⟩ := (name_ser hn)
  refine ⟨?_, ⟨by omega, by simp [hd], by simp [hd]⟩, by omega, by omega, by omega, by simp [hd]⟩
  unfold rightE kindS
  rw [hw, ht, hk, ha, hs, hq, hp, hd, hser]
  rfl
 ·refine ⟨?_, ⟨by rw [hse]; decide, fun d hx => by have := (name_ser (hd d hx).1).2; omega, by omega⟩, by omega, by omega, by omega, fun d hx => ⟨by have := (hd d hx).2; omega, by have := (hd d hx).2; omega⟩⟩
  have hb : badId e = false := by
   unfold badId withinB
   simp; omega
  have h0 : (e.ds.length == 0 || e.ds.any fun d => d.n == 0) = false := by
   rw [Bool.or_eq_false_iff]
   refine ⟨by simp; intro h; rw [h] at d0; simp at d0, ?_⟩
   rw [List.any_eq_false]
   intro d hx
   have := (hd d hx).2
   simp; omega
  have hall : (e.ds.all fun d => serOk d.ser) = true := by
   rw [List.all_eq_true]
   exact fun d hx => (name_ser (hd d hx).1).1
  have hse2 : e.ser.toList.isEmpty = true := by rw [hse]; decide +kernel
  unfold rightE kindS writtenS
  rw [hw, ht, hb, h0, hall, hk, hse2, if_neg (by simp), if_neg (by simp), if_pos rfl, if_neg (by simp), if_neg (by omega), if_neg (by simp), if_pos rfl]
theorem dBytes_len2 (ds : List DeltaD) (h : ∀ d ∈ ds, d.ser.size ≤ 100) (hn : ∀ d ∈ ds, NOk d) : (ds.flatMap dBytes).length ≤ ds.length * 120 := by
 induction ds with
 | nil => simp
 | cons d ds ih =>
  have h1 := ih (fun x hx => h x (by simp [hx])) (fun x hx => hn x (by simp [hx]))
  have h2 := h d (by simp)
  obtain ⟨h3, h4⟩ := hn d (by simp)
  have h5 := Lib.uvarint_length64 (x := d.ser.size) (by omega)
  have h6 := Lib.uvarint_length64 (x := d.n.toNat) (by omega)
  have h7 : (dBytes d).length = (Lib.uvarint d.ser.size).length + d.ser.size + (Lib.uvarint d.n.toNat).length := by
   unfold dBytes; rw [List.length_append, List.length_append]; rfl
  rw [List.flatMap_cons, List.length_append, List.length_cons]
  omega
theorem bytesE_len {e : EntryD} (h : EntryOk e) : (bytesE e).length ≤ 1200 := by
 obtain ⟨hr, _, hw1, hw2, hw3, hw4⟩ := entry_right h
 obtain ⟨h1, h2, h3, h4, h5⟩ := h
 have u1 := Lib.uvarint_length64 (x := e.fr.toNat) (by omega)
 have u2 := Lib.uvarint_length64 (x := e.tag.toNat) (by omega)
 unfold bytesE headB
 rcases h5 with ⟨hk, hn, _⟩ | ⟨hk, _, a0, a1, s0, s1, q0, q1, p0, p1, d0, d1, hd⟩
 ·have h6 := (name_ser hn).2
  have u3 := Lib.uvarint_length64 (x := e.ser.size) (by omega)
  have h7 : (sB e.ser).length = e.ser.size := rfl
  rw [if_pos hk]
  simp only [List.length_append, List.length_singleton]
  omega
 ·have u3 := Lib.uvarint_length64 (x := e.ag.toNat) (by omega)
  have u4 := Lib.uvarint_length64 (x := e.sh.toNat) (by omega)
  have u5 := Lib.uvarint_length64 (x := e.seq.toNat) (by omega)
  have u6 := Lib.uvarint_length64 (x := e.ep.toNat) (by omega)
  have u7 := Lib.uvarint_length64 (x := e.ds.length) (by omega)
  have h8 := dBytes_len2 e.ds (fun d hx => (name_ser (hd d hx).1).2) hw4
  rw [if_neg (by omega)]
  simp only [List.length_append, List.length_singleton]
  omega
theorem ebytes_ok (e : EntryD) (dv : Value) (m : Int) (w : World) (hr0 : rightE e = 0) (h : Ds w [] dv e.ds) (hs : Short e) (hw : Wf e) (hm : w.cell? ⟨0, 0, none⟩ = some (.int .i64 m)) :
  Calls Tryz.prog 64 #[.agg (eCell (e, dv)).toArray] w fun r w' => EB0 (bytesE e) w r w' := by
 rcases (right_facts hr0).2 with hk | ⟨hk, _⟩
 ·exact ebytes_2 e dv m w hk hr0 h hs hw hm
 ·exact ebytes_1 e dv m w hk hr0 h hs hw hm
end Go.Proofs.YtinnifhnabncfaaGreatDoor.Vi
end
section
namespace Go.Proofs.YtinnifhnabncfaaGreatDoor.Vi
open Go.RowKit Base Mem Go.Shelf
def eBlob (e : EntryD) : List UInt8 := Lib.uvarint (bytesE e).length ++ bytesE e
def putLog (es : List EntryD) : List UInt8 := Lib.uvarint es.length ++ es.flatMap eBlob
/-- An entry that may be, of texts that are short. -/
def EOk (e : EntryD) : Prop := rightE e = 0 ∧ Short e ∧ Wf e
theorem ens_at {w : World} {M : List Nat} {v : Value} {l : List EntryD} (h : Ens w M v l) {k : Nat} (hk : k < l.length) :
  ∃ g off cap dv, v = .slice (some ⟨g, off, none⟩) l.length cap ∧ g < w.heap.size ∧ g ∉ M ∧ Ds w M dv l[k].ds ∧ ∀ j u, (eCell (l[k], dv))[j]? = some u → w.cell? ⟨g, off + k * 9 + j, none⟩ = some u := by
 obtain ⟨ps, rfl, hr, hd⟩ := h
 have hk' : k < ps.length := by simpa using hk
 obtain ⟨g, off, cap, e, _, hg, hm, hx⟩ := Rd.at_ eCell 9 (fun _ => rfl) hr hk'
 refine ⟨g, off, cap, ps[k].2, by simpa using e, hg, hm, ?_, ?_⟩
 ·simpa using hd ps[k] (List.getElem_mem _)
 ·simpa using hx
theorem bytesE_big {e : EntryD} (h : EOk e) : (bytesE e).length ≤ 40000000000 := by
 obtain ⟨hr, ⟨hs1, hs2, _⟩, hw1, hw2, hw3, hw4⟩ := h
 obtain ⟨⟨hf0, hf8, ht0⟩, hrest⟩ := right_facts hr
 have u1 := Lib.uvarint_length64 (x := e.fr.toNat) (by omega)
 have u2 := Lib.uvarint_length64 (x := e.tag.toNat) (by omega)
 unfold bytesE headB
 by_cases hk : e.kind = 2
 ·have u3 := Lib.uvarint_length64 (x := e.ser.size) (by omega)
  have h7 : (sB e.ser).length = e.ser.size := rfl
  rw [if_pos hk]
  simp only [List.length_append, List.length_singleton]
  omega
 ·obtain ⟨_, a0, a1, s0, s1, q0, p0, d8⟩ := hrest.resolve_left hk
  have u3 := Lib.uvarint_length64 (x := e.ag.toNat) (by omega)
  have u4 := Lib.uvarint_length64 (x := e.sh.toNat) (by omega)
  have u5 := Lib.uvarint_length64 (x := e.seq.toNat) (by omega)
  have u6 := Lib.uvarint_length64 (x := e.ep.toNat) (by omega)
  have u7 := Lib.uvarint_length64 (x := e.ds.length) (by omega)
  have h8 := dBytes_len e.ds hs2 hw4
  rw [if_neg hk]
  simp only [List.length_append, List.length_singleton]
  omega
theorem eBlob_big {e : EntryD} (h : EOk e) : (eBlob e).length ≤ 40000000010 := by
 have h1 := bytesE_big h
 have h2 := Lib.uvarint_length64 (x := (bytesE e).length) (by omega)
 unfold eBlob
 rw [List.length_append]; omega
theorem blobs_big (es : List EntryD) (h : ∀ e ∈ es, EOk e) : (es.flatMap eBlob).length ≤ es.length * 40000000010 := by
 induction es with
 | nil => simp
 | cons e es ih =>
  have h1 := ih (fun x hx => h x (by simp [hx]))
  have h2 := eBlob_big (h e (by simp))
  rw [List.flatMap_cons, List.length_append, List.length_cons]
  omega
set_option maxRecDepth 100000 in
set_option maxHeartbeats 1000000 in
theorem mput_any (v : Value) (lb : List UInt8) (ev : Value) (es : List EntryD) (m : Int) (w : World) (hb : Bs w [] v lb) (he : Ens w [] ev es) (hok : ∀ e ∈ es, EOk e) (hl : es.length ≤ 128) (hlb : lb.length ≤ 1000000000) (hm : w.cell? ⟨0, 0, none⟩ = some (.int .i64 m)) :
  Calls Tryz.prog 140 #[v, ev] w fun e w' => BsPost (lb ++ putLog es) w e w' := by
 have hw0 : 0 < w.heap.size := by
  have := World.block_lt_of_cell? w _ hm
  simpa using this
 have hkeepm : Hid (∀ W, Below w.heap.size w W → W.cell? ⟨0, 0, none⟩ = some (.int .i64 m)) := fun W hb => (hb.cell (p := ⟨0, 0, none⟩) hw0).trans hm
 have hput := Lib.hid (put_any v lb es.length w hb (by omega) (by omega))
 obtain ⟨A, c, rfl, _⟩ := hb.len
 obtain ⟨Ae, ce, rfl, hce⟩ := he.len
 have He := Lib.hid he; have Hok := Lib.hid hok
 have hwl : IntKind.u64.wrap (es.length : Int) = (es.length : Int) := by rw [IntKind.wrap_u64]; omega
 have hun := Lib.uvarint_length64 (x := es.length) (by omega)
 obtain ⟨l0, hl0⟩ : ∃ l0, l0 = lb ++ Lib.uvarint es.length := ⟨_, rfl⟩
 have Hl0 := Lib.hid hl0
 have hl0l : l0.length ≤ 1000000010 := by rw [hl0, List.length_append]; omega
 rw [← hl0] at hput
 clear hb he hok hm hl0 hun
 go_enter Tryz.func140, Tryz.ntmps140
 go_wp2_with fail
 refine hput.out.mono ?_
 rintro e w1 ⟨A1, rfl, hB1, hb1⟩
 have HB1 := Lib.hid hB1; have Hb1 := Lib.hid hb1
 clear hB1 hb1 hput
 go_wp2_with fail
 go_loopw [0, 16] (fun b i wr => ∃ (x : Nat) (A' : Option Addr) (L : List UInt8), i = .int .i64 x ∧ x ≤ es.length ∧ b = .slice A' L.length L.length ∧ Hid (L = l0 ++ (es.take x).flatMap eBlob) ∧ Hid (∀ M, (∀ g ∈ M, g < w.heap.size) → Bs wr M (.slice A' L.length L.length) L) ∧ Hid (Below w.heap.size w wr)) (fun _ i _ => es.length - (intOf i).toNat)
 case atStart => exact ⟨0, A1, l0, rfl, by omega, rfl, (show l0 = l0 ++ (es.take 0).flatMap eBlob by simp), HB1.out, Hb1.out⟩
 case round =>
  obtain ⟨x, A', L, rfl, hx, rfl, HL, HB, Hbr⟩ := hrel
  by_cases hlt : x < es.length
  ·have hx1 : (x : Int) < (es.length : Int) := by omega
   obtain ⟨g, off, _, dv, e1, hg, _, hD, hcell⟩ := ens_at (He.out.keep (Keeps.of_below (M := []) Hbr.out) (by simp)) hlt
   injection e1 with e1 _ e9
   subst e1
   clear e9
   have hek := Hok.out es[x] (List.getElem_mem _)
   have HL2 : Hid (L ++ Lib.uvarint (bytesE es[x]).length ++ bytesE es[x] = l0 ++ (es.take (x + 1)).flatMap eBlob) := by
    show _ = _
    rw [List.take_succ_eq_append_getElem hlt, List.flatMap_append, HL.out]
    simp [eBlob]
   have hLl : L.length ≤ 1000000010 + 128 * 40000000010 := by
    have h1 := congrArg List.length HL.out
    have h2 := blobs_big (es.take x) (fun e he => Hok.out e (List.mem_of_mem_take he))
    have h3 : (es.take x).length ≤ 128 := by rw [List.length_take]; omega
    have h4 : (es.take x).length * 40000000010 ≤ 128 * 40000000010 := Nat.mul_le_mul_right _ h3
    rw [List.length_append] at h1
    omega
   have hbig := bytesE_big hek
   obtain ⟨Ad, cd, rfl, _⟩ := hD.len
   have a0 := hcell 0 _ rfl; have a1 := hcell 1 _ rfl; have a2 := hcell 2 _ rfl; have a3 := hcell 3 _ rfl; have a4 := hcell 4 _ rfl; have a5 := hcell 5 _ rfl; have a6 := hcell 6 _ rfl; have a7 := hcell 7 _ rfl; have a8 := hcell 8 _ rfl
   clear hcell
   generalize es[x] = en at *
   obtain ⟨kind, ag, sh, seq, ep, ds, ser, fr, tag⟩ := en
   simp only [] at a0 a1 a2 a3 a4 a5 a6 a7 a8 hD
   rw [Nat.add_zero] at a0
   obtain ⟨w2, hw2⟩ : ∃ w2, w2 = wr.alloc (.cells #[.int .i64 kind, .int .i64 ag, .int .i64 sh, .int .i64 seq, .int .i64 ep, .slice Ad ds.length cd, .string ser, .int .i64 fr, .int .i64 tag] 26) := ⟨_, rfl⟩
   have hk2 : Keeps [] wr w2 := by rw [hw2]; exact (Keeps.refl _ _).alloc _
   have hb2 : Below w.heap.size w w2 := ((Keeps.of_below (M := []) Hbr.out).trans hk2 (by simp)).below
   have hby := ebytes_ok ⟨kind, ag, sh, seq, ep, ds, ser, fr, tag⟩ (.slice Ad ds.length cd) m w2 hek.1 (hD.keep hk2 (by simp)) hek.2.1 hek.2.2 (hkeepm.out _ hb2)
   simp only [eCell] at hby
   have Hby := Lib.hid hby
   have Hw2 := Lib.hid hw2; have Hb2 := Lib.hid hb2
   have Hbw := Lib.hid (HB.out)
   have hk2' := Lib.hid hk2
   generalize bytesE ⟨kind, ag, sh, seq, ep, ds, ser, fr, tag⟩ = bx at *
   clear hby hw2 hb2 hek hD hk2
   go_wp2_with fail
   rw [← Hw2.out]
   refine Hby.out.mono ?_
   rintro e w3 ⟨A3, rfl, hS3, hb3⟩
   have HS3 := Lib.hid (hS3 [] (by simp)); have Hb3 := Lib.hid (below_then Hb2.out hb3)
   have cv := conv_bytes HS3.out
   have HB3 := Lib.hid (fun M hM => (Hbw.out M hM).keep ((Keeps.of_below (M := []) (a := wr) hk2'.out.below).trans (Keeps.of_below (M := []) hb3) (by simp)) (by simp) : ∀ M, (∀ g ∈ M, g < w.heap.size) → Bs w3 M (.slice A' L.length L.length) L)
   have Htx := text_any _ L ⟨bx.toArray⟩ w3 (HB3.out [] (by simp)) (by show L.length + bx.toArray.size ≤ _; rw [List.size_toArray]; omega)
   rw [show (⟨bx.toArray⟩ : ByteArray).size = bx.length from List.size_toArray .., show sB ⟨bx.toArray⟩ = bx from rfl] at Htx
   have HTx := Lib.hid Htx
   generalize hL3 : L ++ Lib.uvarint bx.length ++ bx = L3 at *
   clear hS3 hb3 Hby Htx hL3 HS3
   go_wp2_with fail
   refine HTx.out.mono ?_
   rintro e w4 ⟨A4, rfl, hS4, hb4⟩
   have HB4 : Hid (∀ M, (∀ g ∈ M, g < w.heap.size) → Bs w4 M (.slice A4 L3.length L3.length) L3) := fun M hM => hS4 M (fun g hg => by have := hM g hg; have := Hb3.out.size; omega)
   have Hb4 := Lib.hid (below_then Hb3.out hb4)
   clear hS4 hb4 HTx cv
   go_wp2
   go_roundw
   case rel => exact ⟨x + 1, A4, L3, by go_num, by omega, rfl, HL2, HB4, Hb4⟩
   case measure => simp [intOf] <;> omega
  ·obtain rfl : x = es.length := by omega
   have hfin : Hid (L = lb ++ putLog es) := by
    show _ = _
    rw [HL.out, List.take_length, Hl0.out]
    unfold putLog
    rw [List.append_assoc]
   have hp : Hid (BsPost (lb ++ putLog es) w (.returned (.slice A' L.length L.length)) wr) := by
    show BsPost _ _ _ _
    rw [← hfin.out]
    exact ⟨A', rfl, HB.out, Hbr.out⟩
   go_wp2
   go_ret
   exact hp.out
def rowsEq (a b : List EntryD) : Bool := Lib.allEq sameE a b
instance : Inhabited EntryD := ⟨⟨0, 0, 0, 0, 0, [], ⟨#[]⟩, 0, 0⟩⟩
structure MsgD where
 kd : Int
 en : EntryD
 tag : Int
 code : Int
 nn : Int
 term : Int
 had : Int
 log : List EntryD
 commit : Int
 len : Int
/-- A message's slices read as its deltas and its row. -/
def MsgAt (w : World) (M : List Nat) (m : MsgD) (dv lv : Value) : Prop := Ds w M dv m.en.ds ∧ Ens w M lv m.log
theorem MsgAt.keep {w w' : World} {M M' : List Nat} {m : MsgD} {dv lv : Value} (h : MsgAt w M m dv lv) (k : Keeps M' w w') (hM : ∀ g ∈ M', g ∈ M ∨ w.heap.size ≤ g) : MsgAt w' M m dv lv := ⟨h.1.keep k hM, h.2.keep k hM⟩
theorem MsgAt.avoid {w : World} {M M' : List Nat} {m : MsgD} {dv lv : Value} (h : MsgAt w M m dv lv) (hM : ∀ g ∈ M', g ∈ M ∨ w.heap.size ≤ g) : MsgAt w M' m dv lv := ⟨h.1.avoid hM, h.2.avoid hM⟩
/-- Are messages the same? -/
def sameM (a b : MsgD) : Bool := sameE a.en b.en && rowsEq a.log b.log && (a.kd == b.kd && a.tag == b.tag && a.code == b.code && a.nn == b.nn && a.term == b.term && a.had == b.had && a.commit == b.commit && a.len == b.len)
def zeroM : MsgD := ⟨0, zeroD, 0, 0, 0, 0, 0, [], 0, 0⟩
/-- A message without what its kind has. -/
def clearM (m : MsgD) : MsgD :=
 if m.kd = 1 then { m with kd := 0, en := zeroD }
 else if m.kd = 2 then { m with kd := 0, tag := 0, code := 0, nn := 0 }
 else if m.kd = 3 then { m with kd := 0, term := 0 }
 else if m.kd = 4 then { m with kd := 0, term := 0, had := 0, log := [] }
 else if m.kd = 5 then { m with kd := 0, term := 0, log := [], commit := 0 }
 else if m.kd = 6 then { m with kd := 0, term := 0, len := 0 }
 else { m with kd := 0 }
def zeroS (m : MsgD) : Bool := sameM (clearM m) zeroM
theorem blk_range {w : World} {g : Nat} {T : TypeId} {cs : Array Value} (h : Blk w g T cs) : w.rangeAt g 0 cs.toList := fun j v hj => by
 rw [Nat.zero_add, h.cell j]; simpa using hj
def bad2 (m : MsgD) : Bool := decide (m.tag < 0) || decide (m.term < 0) || decide (m.had < 0) || decide (m.commit < 0) || decide (m.len < 0) || decide (m.code < 0) || decide (255 < m.code) || decide (128 < m.commit) || decide (128 < m.len)
structure MOk (m : MsgD) : Prop where
 k1 : 1 ≤ m.kd
 k6 : m.kd ≤ 6
 zero : zeroS m = true
 tag0 : 0 ≤ m.tag
 term0 : 0 ≤ m.term
 had0 : 0 ≤ m.had
 com0 : 0 ≤ m.commit
 len0 : 0 ≤ m.len
 code0 : 0 ≤ m.code
 code1 : m.code ≤ 255
 com1 : m.commit ≤ 128
 len1 : m.len ≤ 128
 logl : m.log.length ≤ 128
 ask : m.kd = 1 → rightE m.en = 0
 logs : m.kd ≠ 1 → ∀ e ∈ m.log, rightE e = 0

end Go.Proofs.YtinnifhnabncfaaGreatDoor.Vi
end
section
namespace Go.Proofs.YtinnifhnabncfaaGreatDoor.Vi
open Go.RowKit Base Mem
theorem results_cell2 {P : Program} {fn : Func} {t u : Tmp} {ty : TypeId} (h : fn.results = #[.cell t ty, .tmp u]) (tmps : Array Value) (w : World) (g : Nat) (T : TypeId) (cs : Array Value) (d : TypeDesc)
  (ht : tmps.getD t undef = .pointer (some ⟨g, 0, none⟩)) (hB : Blk w g T cs) (hu : P.underlying ty = some d) (hd : d.isRow = true) (hi : (P.info? ty).map (·.size) = some cs.size) :
  (results fn tmps).run P w = .ok (.tuple #[.agg cs, tmps.getD u undef]) w := by
 have hl := run_loadVar_mid (P := P) w g 0 ty cs.toList d (blk_range hB) hu hd (by simpa using hi)
 have ht' : tmps[t]?.getD undef = .pointer (some ⟨g, 0, none⟩) := by simpa using ht
 simp [results, h, ht', asAddr, hl]
end Go.Proofs.YtinnifhnabncfaaGreatDoor.Vi
end
section
namespace Go.Proofs.YtinnifhnabncfaaGreatDoor.Tape
open Go.RowKit Base Mem
theorem infoEnt4 : (Tryz.prog.info? 26).map (fun i => (i.zero, i.size, i.bytes)) = some (some (.agg #[.int .i64 0, .int .i64 0, .int .i64 0, .int .i64 0, .int .i64 0, .slice none 0 0, .string ByteArray.empty, .int .i64 0, .int .i64 0]), 9, 96) := by kernel_rfl
def LogPost (b : Nat) (L : TapeL) (most : Int) (w : World) (e : Ending) (w' : World) : Prop := ∃ (v : Value) (l : List EntryD) (k' : Nat), e = .returned v ∧ (∀ en ∈ l, EntryOk en) ∧ (l.length : Int) ≤ most ∧
 (∀ M, (∀ g ∈ M, g < w.heap.size) → Ens w' M v l) ∧ TapeAt w' b L k' ∧ Keeps [b] w w'
set_option maxRecDepth 100000 in
theorem log_any (b : Nat) (L : TapeL) (k : Nat) (most : Int) (w : World) (h : TapeAt w b L k) (h1 : 0 ≤ most) (h2 : most ≤ 1000) :
  Calls Tryz.prog 80 #[.pointer (some ⟨b, 0, none⟩), .int .i64 most] w fun e w' => LogPost b L most w e w' := by
 have hbw := h.lt
 have H := Lib.hid h
 obtain ⟨i0, hi0, hz0, hz1, hz2⟩ := info_parts infoEnt4
 have Hi0 := Lib.hid hi0; have Hz0 := Lib.hid hz0; have Hz1 := Lib.hid hz1; have Hz2 := Lib.hid hz2
 clear h hi0 hz0 hz1 hz2
 go_enter Tryz.func80, Tryz.ntmps80
 go_wp2_with fail
 refine (next_any b L k (most + 1) w H.out).mono ?_
 rintro e w1 ⟨v, k1, rfl, hv0, hv8, hT, hK⟩
 have hv9 := hv8 (by omega)
 have HT := Lib.hid hT; have HK := Lib.hid hK
 clear hv8 hT hK
 go_wp2
 go_loopw [5, 6] (fun out nn wr => ∃ (qs : List (EntryD × Value)) (r : Int) (k' : Nat), nn = .int .i64 r ∧ 0 ≤ r ∧ Hid (r + qs.length = v) ∧ qs.length ≤ 1000 ∧ r ≤ v ∧ Hid (∀ q ∈ qs, EntryOk q.1) ∧ Hid (wr.ownsRow w.heap.size 26 9 out qs.length (qs.flatMap eCell)) ∧ Hid (DsOwn w wr out qs) ∧ Hid (TapeAt wr b L k') ∧ Hid (Keeps [b] w wr))
  (fun _ nn _ => (intOf nn).toNat)
 case atStart => exact ⟨[], v, k1, rfl, by omega, (by show _ = _; simp), by simp, by omega, (show ∀ _, _ from by simp), World.ownsRow_nil _ _ _ _, (show DsOwn _ _ _ _ from by intro q hq; cases hq), HT.out, HK.out⟩
 case round =>
  obtain ⟨qs, r, k', rfl, hr0, Hrl, hq8, hrv, Hok, Hown, Hds, HTr, HKr⟩ := hrel
  by_cases hr : 0 < r
  ·go_wp2_with fail
   refine (entry_any b L k' wr HTr.out).mono ?_
   rintro e w2 ⟨en, dv, k2, rfl, hok, hds, hT2, hK2⟩
   obtain ⟨Ad, cd, hdv, _⟩ := (hds [] (by simp)).len
   subst hdv
   have Hok2 := Lib.hid hok; have Hds2 := Lib.hid hds; have HT2 := Lib.hid hT2; have HK2 := Lib.hid hK2
   have Hown2 := Lib.hid ((own_keep Hown.out hK2 (by simp; omega)).alloc (.cells (eCell (en, .slice Ad en.ds.length cd)).toArray 26))
   clear hok hds hT2 hK2
   simp only [eCell]
   go_wp2_with (at_builtin; refine wpList_append_any _ rfl (.tmp 15) (.tmp 18) _ rfl w.heap.size 26 i0 _ 9 96 Tryz.underlying52 Hi0.out Hz0.out Hz1.out Hz2.out rfl (by omega) u5 qs.length (qs.flatMap eCell) rfl Hown2.out (w2.heap.size + 1) (some ⟨w2.heap.size, 0, none⟩) 1 1 (eCell (en, .slice Ad en.ds.length cd)) rfl (reads_new _ _ _ _ _ rfl) (by intro u hu; simp [eCell] at hu; rcases hu with rfl | rfl | rfl | rfl | rfl | rfl | rfl | rfl | rfl <;> rfl) (by unfold maxLen; omega) (by omega) (by have := HKr.out.size; have := HK2.out.size; simp; omega) ?_)
   intro v' w4 hown4 hg4 hat4
   have hlt0 := Hown.out.lt
   have hK5 : Keeps [b] w w4 := ((HKr.out.trans HK2.out (by simp)).alloc _).grown hg4 (fun g hg => .inr (hlt0 g hg).1)
   have hT5 : TapeAt w4 b L k2 := HT2.out.keep (M' := u5.ownBlock.toList) (((Keeps.refl _ _).alloc _).grown hg4 (fun g hg => .inl (by simpa using hg))) (by intro g hg; have := hlt0 g (by simpa using hg); omega)
   have hds5 : DsOwn w w4 v' (qs ++ [(en, .slice Ad en.ds.length cd)]) := by
    exact dsOwn_stepK Hds.out HK2.out (by simp; omega) (fun g hg => (hlt0 g hg).2) HKr.out.size Hds2.out hg4 hat4
   have hok4 : ∀ q ∈ qs ++ [(en, Value.slice Ad en.ds.length cd)], EntryOk q.1 := fun q hq => by
    rcases List.mem_append.1 hq with hq | hq
    ·exact Hok.out q hq
    ·simp at hq; subst hq; exact Hok2.out
   have Hok4 := Lib.hid hok4
   have hown5 : w4.ownsRow w.heap.size 26 9 v' (qs ++ [(en, Value.slice Ad en.ds.length cd)]).length ((qs ++ [(en, Value.slice Ad en.ds.length cd)]).flatMap eCell) := by
    rw [List.length_append, List.flatMap_append]
    simpa using hown4
   have Hown5 := Lib.hid hown5; have Hds5 := Lib.hid hds5; have HT5 := Lib.hid hT5; have HK5 := Lib.hid hK5
   have hr3 := Hrl.out
   have Hr3 : Hid (r - 1 + ((qs ++ [(en, Value.slice Ad en.ds.length cd)]).length : Int) = v) := by show _ = _; simp; omega
   have hq9 : (qs ++ [(en, Value.slice Ad en.ds.length cd)]).length ≤ 1000 := by simp; omega
   clear hown4 hg4 hat4 hlt0 hK5 hT5 hds5 hok4 hown5 hr3
   go_wp2
   go_roundw
   case rel => exact ⟨qs ++ [(en, .slice Ad en.ds.length cd)], r - 1, k2, rfl, by omega, Hr3, hq9, by omega, Hok4, Hown5, Hds5, HT5, HK5⟩
   case measure => simp [intOf]; omega
  ·have hr0 : r = 0 := by omega
   subst hr0
   have hrl := Hrl.out
   have hpost : LogPost b L most w (.returned u5) wr :=
    ⟨u5, qs.map (·.1), k', rfl, by intro en hen; obtain ⟨q, hq, rfl⟩ := List.mem_map.1 hen; exact Hok.out q hq, by rw [List.length_map]; omega, fun M hM => ⟨qs, rfl, Rd.of_own Hown.out hM, fun p hp => Hds.out p hp M (fun g hg => .inl (hM g hg))⟩, HTr.out, HKr.out⟩
   clear hrl
   go_wp2
   go_ret
   exact hpost
end Go.Proofs.YtinnifhnabncfaaGreatDoor.Tape
end
section
namespace Go.Proofs.YtinnifhnabncfaaGreatDoor.Vi
open Go.RowKit Base Mem Tape Go.Shelf
def zero18 : Array Value := #[.int .i64 0, .int .i64 0, .int .i64 0, .int .i64 0, .int .i64 0, .int .i64 0, .slice none 0 0, .string ⟨#[]⟩, .int .i64 0, .int .i64 0, .int .i64 0, .int .i64 0, .int .u64 0, .int .i64 0, .int .i64 0, .slice none 0 0, .int .i64 0, .int .i64 0]
structure StM (w0 w : World) (b : Nat) (L : TapeL) (k g0 g1 : Nat) (c1 : Array Value) : Prop where
 tape : TapeAt w b L k
 keeps : Keeps [b] w0 w
 b0 : Blk w g0 68 zero18
 b1 : Blk w g1 68 c1
 lt0 : b < g0
 lt1 : g0 < g1
 old : w0.heap.size ≤ g0
theorem StM.keep {w0 w w' : World} {b : Nat} {L : TapeL} {k k' g0 g1 : Nat} {c1 : Array Value} (h : StM w0 w b L k g0 g1 c1) (hT : TapeAt w' b L k') (hk : Keeps [b] w w') : StM w0 w' b L k' g0 g1 c1 := by
 have := h.lt0; have := h.lt1; have := h.old
 exact ⟨hT, h.keeps.trans hk (by simp), hk.blk h.b0 (by simp; omega), hk.blk h.b1 (by simp; omega), h.lt0, h.lt1, h.old⟩
theorem StM.in1 {w0 w w' : World} {b : Nat} {L : TapeL} {k g0 g1 : Nat} {c1 c2 : Array Value} (h : StM w0 w b L k g0 g1 c1) (hk : Keeps [g1] w w') (hB : Blk w' g1 68 c2) : StM w0 w' b L k g0 g1 c2 := by
 have := h.lt0; have := h.lt1; have := h.old
 exact ⟨h.tape.keep hk (by intro g hg; simp at hg; omega), h.keeps.trans hk (by intro g hg; simp at hg; right; omega), hk.blk h.b0 (by simp; omega), hB, h.lt0, h.lt1, h.old⟩
theorem StM.set {w0 w : World} {b : Nat} {L : TapeL} {k g0 g1 : Nat} {c1 : Array Value} (h : StM w0 w b L k g0 g1 c1) (i : Nat) (v : Value) : StM w0 (w.setCell ⟨g1, i, none⟩ v) b L k g0 g1 (c1.setIfInBounds i v) :=
 h.in1 ((Keeps.refl _ _).setCell (by simp) v) (h.b1.set_ i v)
/-- Behind stores into the message's own block. -/
theorem MsgAt.in1 {w w' : World} {g1 : Nat} {m : MsgD} {dv lv : Value} (h : ∀ M, (∀ g ∈ M, g ≤ g1) → MsgAt w M m dv lv) (hk : Keeps [g1] w w') : ∀ M, (∀ g ∈ M, g ≤ g1) → MsgAt w' M m dv lv := fun M hM =>
 ((h (g1 :: M) (by intro g hg; rcases List.mem_cons.1 hg with rfl | hg; omega; exact hM g hg)).keep hk (by simp)).avoid (fun g hg => .inl (List.mem_cons_of_mem _ hg))
end Go.Proofs.YtinnifhnabncfaaGreatDoor.Vi
end
section
namespace Go.Proofs.YtinnifhnabncfaaGreatDoor.Vi
open Go.RowKit Base Mem Go.Shelf
def preE (acc : List EntryD) : Option (List EntryD) × List UInt8 × Bool → Option (List EntryD) × List UInt8 × Bool
 | (none, s) => (none, s)
 | (some es, s) => (some (acc ++ es), s)
/-- So many entries from the front; none: one of them is none. -/
def getEs : Nat → List UInt8 → Bool → Option (List EntryD) × List UInt8 × Bool
 | 0, l, b => (some [], l, b)
 | k + 1, l, b => if (textS l b).2.2 = true ∨ (readE (textS l b).1).2 ≠ 0 then (none, (textS l b).2) else preE [(readE (textS l b).1).1] (getEs k (textS l b).2.1 (textS l b).2.2)
def mgetS (l : List UInt8) (b : Bool) : Option (List EntryD) × List UInt8 × Bool := getEs (countS l b 128).1 (countS l b 128).2.1 (countS l b 128).2.2
def MGetPost (M : List Nat) (p : Nat) (R : Option (List EntryD) × List UInt8 × Bool) (w : World) (e : Ending) (w' : World) : Prop := match R with
 | (none, _) => e = .returned (.tuple #[.slice none 0 0, .bool false]) ∧ Keeps [p] w w'
 | (some es, l', b') => ∃ v, e = .returned (.tuple #[v, .bool (!b')]) ∧ (∀ M', (∀ g ∈ M', g < w.heap.size) → Ens w' M' v es) ∧ RdAt w' M p l' b' ∧ Keeps [p] w w'
theorem preE_nil (R : Option (List EntryD) × List UInt8 × Bool) : preE [] R = R := by
 obtain ⟨_ | es, s⟩ := R <;> rfl
theorem preE_pre (a b : List EntryD) (R : Option (List EntryD) × List UInt8 × Bool) : preE a (preE b R) = preE (a ++ b) R := by
 obtain ⟨_ | es, s⟩ := R
 ·rfl
 ·simp [preE]
theorem infoEntry2 : (Tryz.prog.info? 26).map (fun i => (i.zero, i.size, i.bytes)) = some (some (.agg #[.int .i64 0, .int .i64 0, .int .i64 0, .int .i64 0, .int .i64 0, .slice none 0 0, .string ByteArray.empty, .int .i64 0, .int .i64 0]), 9, 96) := by kernel_rfl
/-- A text turned to bytes. -/
theorem bytes_of (w : World) (s : List UInt8) : ∃ c W, (convert 9 36 (.string ⟨s.toArray⟩)).run Tryz.prog w = .ok (.slice (some ⟨w.heap.size, 0, none⟩) s.length c) W ∧ Keeps [] w W ∧ w.heap.size < W.heap.size ∧ ∀ M, (∀ g ∈ M, g < w.heap.size) → Bs W M (.slice (some ⟨w.heap.size, 0, none⟩) s.length c) s := by
 have hge := grownCap_ge w s.length 0 5
 have hw2 : Keeps [] w (w.drew.alloc (.cells (bytesRow ⟨s.toArray⟩ (grownCap w s.length 0 5)) 5 ((bytesRow ⟨s.toArray⟩ (grownCap w s.length 0 5)).size, (bytesRow ⟨s.toArray⟩ (grownCap w s.length 0 5)).size + 1))) := (Keeps.refl [] w).drew.alloc _
 refine ⟨_, _, run_bytes_of_string w _ _ 5 ⟨s.toArray⟩ Tryz.underlying9 Tryz.underlying36 Tryz.underlying5, hw2, by show w.heap.size < (w.drew.alloc _).heap.size; simp, fun M hM => ⟨_, _, rfl, hge, by simp, fun h0 => ⟨w.heap.size, 0, rfl, by show w.heap.size < (w.drew.alloc _).heap.size; simp, fun hm => by have := hM _ hm; omega, fun j u hu => ?_⟩⟩⟩
 rw [cell_of_row _ w.heap.size (0 + j) _ _ _ (heap_alloc_new w.drew _), Nat.zero_add]
 unfold bytesRow
 have hj : j < s.length := by have := (List.getElem?_eq_some_iff.1 hu).1; simpa using this
 rw [List.getElem?_map] at hu
 rw [Array.getElem?_append_left (by simpa using hj), Array.getElem?_map, List.getElem?_toArray]
 exact hu
set_option maxRecDepth 100000 in
set_option maxHeartbeats 1000000 in
theorem mget_any (M : List Nat) (p : Nat) (l : List UInt8) (b : Bool) (m : Int) (w : World) (h : RdAt w M p l b) (hl : l.length < 4294967281) (hm : w.cell? ⟨0, 0, none⟩ = some (.int .i64 m)) (hp0 : p ≠ 0) :
  Calls Tryz.prog 137 #[.pointer (some ⟨p, 0, none⟩)] w fun e w' => MGetPost M p (mgetS l b) w e w' := by
 have hw0 : 0 < w.heap.size := by
  have := World.block_lt_of_cell? w _ hm
  simpa using this
 have hkeepm : Hid (∀ W, Keeps [p] w W → W.cell? ⟨0, 0, none⟩ = some (.int .i64 m)) := fun W hb => (hb.cell (p := ⟨0, 0, none⟩) hw0 (by simp; omega)).trans hm
 have hpw := h.lt
 have hct := Lib.hid (count_any M p l b 128 (by omega) w h)
 have HS : Hid (mgetS l b = getEs (countS l b 128).1 (countS l b 128).2.1 (countS l b 128).2.2) := rfl
 have hcl := countS_len l b 128
 have hcm := countS_most l b 128
 obtain ⟨i0, hi0, hz0, hz1, hz2⟩ := info_parts infoEntry2
 have Hi0 := Lib.hid hi0; have Hz0 := Lib.hid hz0; have Hz1 := Lib.hid hz1; have Hz2 := Lib.hid hz2
 clear h hm hi0 hz0 hz1 hz2
 generalize mgetS l b = R at *
 generalize countS l b 128 = c at *
 obtain ⟨n, c2, c3⟩ := c
 simp only [] at hct HS hcl hcm
 go_enter Tryz.func137, Tryz.ntmps137
 go_wp2_with fail
 refine hct.out.mono ?_
 rintro e w1 ⟨rfl, hA1, hk1⟩
 have HA1 := Lib.hid hA1; have Hk1 := Lib.hid hk1
 clear hA1 hk1 hct
 go_wp2_with fail
 go_loopw [4, 9] (fun out i wr => ∃ (x : Nat) (qs : List (EntryD × Value)) (lx : List UInt8) (bx : Bool), i = .int .i64 x ∧ x ≤ n ∧ qs.length = x ∧ lx.length ≤ l.length ∧ Hid (R = preE (qs.map (·.1)) (getEs (n - x) lx bx)) ∧ Hid (wr.ownsRow w.heap.size 26 9 out qs.length (qs.flatMap eCell)) ∧ Hid (DsOwn w wr out qs) ∧ Hid (RdAt wr (out.ownBlock.toList ++ M) p lx bx) ∧ Hid (Keeps [p] w wr)) (fun _ i _ => n - (intOf i).toNat)
 case atStart => exact ⟨0, [], c2, c3, rfl, by omega, rfl, hcl, (show R = preE [] _ by rw [preE_nil]; exact HS.out), World.ownsRow_nil _ _ _ _, (show DsOwn _ _ _ _ from by intro q hq; cases hq), HA1.out, Hk1.out⟩
 case round =>
  obtain ⟨x, qs, lx, bx, rfl, hx, hql, hlx, HR, Hown, Hds, HA, Hk⟩ := hrel
  by_cases hlt : x < n
  ·have hx1 : (x : Int) < (n : Int) := by omega
   have HST : Hid (R = preE (qs.map (·.1)) (if (textS lx bx).2.2 = true ∨ (readE (textS lx bx).1).2 ≠ 0 then (none, (textS lx bx).2) else preE [(readE (textS lx bx).1).1] (getEs (n - (x + 1)) (textS lx bx).2.1 (textS lx bx).2.2))) := by
    show _ = _
    rw [HR.out, show n - x = (n - (x + 1)) + 1 by omega]; rfl
   have htl := textS_len lx bx
   have htx := Lib.hid (rtext_any (u4.ownBlock.toList ++ M) p lx bx wr HA.out)
   generalize textS lx bx = t at *
   obtain ⟨t1, t2, t3⟩ := t
   simp only [] at HST htl htx
   go_wp2_with fail
   refine htx.out.mono ?_
   rintro e w3 ⟨rfl, hA3, hk3⟩
   obtain ⟨cc, w4, cv, hk4, hsz4, hB4⟩ := bytes_of w3 t1
   have hK4 : Keeps [p] w w4 := (Hk.out.trans hk3 (by simp)).trans hk4 (by simp)
   have HA4 := Lib.hid (hA3.keep hk4 (by simp) (by simp))
   have Hk34 := Lib.hid (hk3.trans hk4 (by simp))
   have hrd := Lib.hid (eread_any _ t1 m w4 (hB4 [] (by simp)) (by omega) (hkeepm.out _ hK4))
   have HK4 := Lib.hid hK4
   have hsh := readH_short t1 (by omega)
   clear hA3 hk3 hk4 hB4 htx hK4 hsz4
   generalize readE t1 = r at *
   obtain ⟨re, rn⟩ := r
   simp only [] at HST hrd
   go_wp2_with fail
   refine hrd.out.mono ?_
   rintro e w5 ⟨dv, rfl, hD5, hb5⟩
   obtain ⟨Ad, cd, rfl, _⟩ := (hD5 [] (by simp)).len
   have HA5 := Lib.hid (HA4.out.keep (Keeps.of_below (M := []) hb5) (by simp) (by simp))
   have HK5 := Lib.hid (HK4.out.trans (Keeps.of_below (M := []) hb5) (by simp))
   have Hk35 := Lib.hid (Hk34.out.trans (Keeps.of_below (M := []) hb5) (by simp))
   have HD5 := Lib.hid (fun M hM => hD5 M (fun g hg => Nat.lt_of_lt_of_le (hM g hg) Hk34.out.size) : ∀ M, (∀ g ∈ M, g < wr.heap.size) → Ds w5 M (.slice Ad re.ds.length cd) re.ds)
   clear hD5 hb5 hrd cv hsh
   have Hsh := Lib.hid (⟨hql, hlx⟩ : _ ∧ _)
   obtain ⟨w6, hw6⟩ : ∃ w6, w6 = w5.alloc (.cells (eCell (re, .slice Ad re.ds.length cd)).toArray 26) := ⟨_, rfl⟩
   have hk6 : Keeps [] w5 w6 := by rw [hw6]; exact (Keeps.refl _ _).alloc _
   have hB6 : Blk w6 w5.heap.size 26 (eCell (re, .slice Ad re.ds.length cd)).toArray := by rw [hw6]; exact Blk.new w5 _ _
   have HA6 := Lib.hid (HA5.out.keep hk6 (by simp) (by simp)); have HK6 := Lib.hid (HK5.out.trans hk6 (by simp)); have Hk36 := Lib.hid (Hk35.out.trans hk6 (by simp))
   have HD6 : Hid (∀ M, (∀ g ∈ M, g < wr.heap.size) → Ds w6 M (.slice Ad re.ds.length cd) re.ds) := fun M hM => (HD5.out M hM).keep hk6 (by simp)
   have hbad := Lib.hid (bad_any (u4.ownBlock.toList ++ M) p t2 t3 w6 HA6.out)
   have Hw6 := Lib.hid hw6; have HB6 := Lib.hid hB6
   clear hk6 hw6 hB6 HA5 HK5 Hk35 HD5 HA4 HK4 Hk34
   obtain ⟨kind, ag, sh, seq, ep, ds, ser, fr, tag⟩ := re
   simp only [eCell] at Hw6 HB6 HD6 ⊢
   go_wp2_with fail
   rw [← Hw6.out]
   obtain ⟨q0, q1, q2, q3, q4, q5, q6, q7, q8, qf⟩ := blk9 HB6.out
   refine hbad.out.mono ?_
   rintro e w' ⟨rfl, rfl⟩
   clear hbad Hw6
   cases t3 with
   | true =>
    have hp : Hid (MGetPost M p R w (.returned (.tuple #[.slice none 0 0, .bool false])) w6) := by
     show MGetPost _ _ _ _ _ _
     rw [HST.out, if_pos (.inl rfl)]
     exact ⟨rfl, HK6.out⟩
    go_wp2
    go_ret2
    exact hp.out
   | false =>
    by_cases hrn : rn = 0
    ·have HST2 : Hid (R = preE (qs.map (·.1) ++ [⟨kind, ag, sh, seq, ep, ds, ser, fr, tag⟩]) (getEs (n - (x + 1)) t2 false)) := by
      show _ = _
      rw [HST.out, if_neg (by simp [hrn]), preE_pre]
     have hnn : ((rn : Int) != 0) = false := by simp [hrn]
     have hlt0 := Lib.hid Hown.out.lt
     have Hown6 := Lib.hid ((own_keep (Hown.out) Hk36.out (by simp; exact hpw)).alloc (.cells #[.int .i64 kind, .int .i64 ag, .int .i64 sh, .int .i64 seq, .int .i64 ep, .slice Ad ds.length cd, .string ser, .int .i64 fr, .int .i64 tag] 26))
     have hz6 : w.heap.size ≤ w6.heap.size := HK6.out.size
     have hm1 : qs.length + 1 ≤ maxLen := by unfold maxLen; omega
     have hm2 : (qs.length + 1) * 96 ≤ 140737488355328 := by omega
     have hb0 : w.heap.size ≤ (w6.alloc (.cells #[.int .i64 kind, .int .i64 ag, .int .i64 sh, .int .i64 seq, .int .i64 ep, .slice Ad ds.length cd, .string ser, .int .i64 fr, .int .i64 tag] 26)).heap.size := by simp; omega
     have Hm1 := Lib.hid hm1; have Hm2 := Lib.hid hm2; have Hb0 := Lib.hid hb0
     clear hm1 hm2 hb0 HST hrn
     go_wp2_with (at_builtin; go_must (refine wpList_append_any _ rfl (.tmp 24) (.tmp 26) _ rfl w.heap.size 26 i0 _ 9 96 Tryz.underlying52 Hi0.out Hz0.out Hz1.out Hz2.out rfl (by omega) u4 qs.length (qs.flatMap eCell) rfl Hown6.out (w6.heap.size + 1) (some ⟨w6.heap.size, 0, none⟩) 1 1 [.int .i64 kind, .int .i64 ag, .int .i64 sh, .int .i64 seq, .int .i64 ep, .slice Ad ds.length cd, .string ser, .int .i64 fr, .int .i64 tag] rfl (reads_new _ _ _ _ _ rfl) (by intro u hu; simp at hu; rcases hu with rfl | rfl | rfl | rfl | rfl | rfl | rfl | rfl | rfl <;> rfl) Hm1.out Hm2.out Hb0.out ?_))
     intro v8 w8 hown8 hg8 hat8
     have hpo : p ∉ u4.ownBlock.toList := fun hm => by have := (hlt0.out p (by simpa using hm)).1; omega
     have kg : Keeps u4.ownBlock.toList (w6.alloc (.cells #[.int .i64 kind, .int .i64 ag, .int .i64 sh, .int .i64 seq, .int .i64 ep, .slice Ad ds.length cd, .string ser, .int .i64 fr, .int .i64 tag] 26)) w8 := (Keeps.refl _ _).grown hg8 (fun g hg => .inl (by simpa using hg))
     have h1 := HA6.out.keep (M' := []) ((Keeps.refl _ _).alloc (.cells #[.int .i64 kind, .int .i64 ag, .int .i64 sh, .int .i64 seq, .int .i64 ep, .slice Ad ds.length cd, .string ser, .int .i64 fr, .int .i64 tag] 26)) (by simp) (by simp)
     have h2 := h1.avoid (M' := v8.ownBlock.toList ++ (u4.ownBlock.toList ++ M)) (fun g hg => by
      rcases List.mem_append.1 hg with h | h
      ·rcases hat8 with h5 | h5
       ·exact .inl (List.mem_append_left _ (by rw [h5] at h; exact h))
       ·rw [h5] at h; simp at h; exact .inr (by simp; omega)
      ·exact .inl h)
     have H8 := Lib.hid ((h2.keep kg (fun g hg => .inl (List.mem_append_right _ (List.mem_append_left _ hg))) hpo).avoid (M' := v8.ownBlock.toList ++ M) (fun g hg => by
      rcases List.mem_append.1 hg with h | h
      ·exact .inl (List.mem_append_left _ h)
      ·exact .inl (List.mem_append_right _ (List.mem_append_right _ h))))
     have Hk8 : Hid (Keeps [p] w w8) := (HK6.out.alloc _).grown hg8 (fun g hg => .inr (hlt0.out g hg).1)
     have Hds8 : Hid (DsOwn w w8 v8 (qs ++ [(⟨kind, ag, sh, seq, ep, ds, ser, fr, tag⟩, .slice Ad ds.length cd)])) :=
      dsOwn_stepK Hds.out Hk36.out (by simp; exact hpw) (fun g hg => (hlt0.out g hg).2) Hk.out.size HD6.out hg8 (by simpa using hat8)
     have Hown8 : Hid (w8.ownsRow w.heap.size 26 9 v8 (qs ++ [((⟨kind, ag, sh, seq, ep, ds, ser, fr, tag⟩ : EntryD), Value.slice Ad ds.length cd)]).length ((qs ++ [((⟨kind, ag, sh, seq, ep, ds, ser, fr, tag⟩ : EntryD), Value.slice Ad ds.length cd)]).flatMap eCell)) := by
      show World.ownsRow _ _ _ _ _ _ _
      rw [List.length_append, List.flatMap_append]
      simpa [eCell, hql] using hown8
     have HR8 : Hid (R = preE ((qs ++ [((⟨kind, ag, sh, seq, ep, ds, ser, fr, tag⟩ : EntryD), Value.slice Ad ds.length cd)]).map (·.1)) (getEs (n - (x + 1)) t2 false)) := by
      show _ = _
      rw [List.map_append]
      exact HST2.out
     clear hown8 hg8 hat8 kg h1 h2 hpo
     go_wp2
     go_roundw
     case rel => exact ⟨x + 1, _, t2, false, by go_num, by omega, by simp; omega, by omega, HR8, Hown8, Hds8, H8, Hk8⟩
     case measure => simp [intOf] <;> omega
    ·have hp : Hid (MGetPost M p R w (.returned (.tuple #[.slice none 0 0, .bool false])) w6) := by
      show MGetPost _ _ _ _ _ _
      rw [HST.out, if_pos (.inr hrn)]
      exact ⟨rfl, HK6.out⟩
     have hnn : ((rn : Int) != 0) = true := by simpa using hrn
     clear HST hrn
     go_wp2
     go_ret2
     exact hp.out
  ·obtain rfl : x = n := by omega
   have HRx : Hid (R = (some (qs.map (·.1)), lx, bx)) := by
    show _ = _
    rw [HR.out, Nat.sub_self]
    simp [getEs, preE]
   have hbad := Lib.hid (bad_any (u4.ownBlock.toList ++ M) p lx bx wr HA.out)
   have hp : Hid (MGetPost M p R w (.returned (.tuple #[u4, .bool (!bx)])) wr) := by
    show MGetPost _ _ _ _ _ _
    rw [HRx.out]
    exact ⟨u4, rfl, fun M' hM => ⟨qs, rfl, Rd.of_own Hown.out hM, fun q hq => Hds.out q hq M' (fun g hg => .inl (hM g hg))⟩, HA.out.avoid (fun g hg => .inl (List.mem_append_right _ hg)), Hk.out⟩
   go_wp2_with fail
   refine hbad.out.mono ?_
   rintro e w' ⟨rfl, rfl⟩
   go_wp2
   go_ret2
   exact hp.out
def zeroR : Array Value := #[.int .i64 0, .int .i64 0, .int .i64 0, .int .i64 0, .int .i64 0, .int .i64 0, .slice none 0 0, .string ⟨#[]⟩, .int .i64 0, .int .i64 0, .int .i64 0, .int .i64 0, .int .u64 0, .int .i64 0, .int .i64 0, .slice none 0 0, .int .i64 0, .int .i64 0]
structure RmAt (w0 w : World) (p g0 g6 : Nat) (c : Array Value) : Prop where
 keeps : Keeps [p] w0 w
 b0 : Blk w g0 68 zeroR
 b6 : Blk w g6 68 c
 o0 : w0.heap.size ≤ g0
 o1 : g0 < g6
 op : p < g0
theorem RmAt.step {w0 w w' : World} {p g0 g6 : Nat} {c : Array Value} (h : RmAt w0 w p g0 g6 c) (hk : Keeps [p] w w') : RmAt w0 w' p g0 g6 c := by
 have := h.o0; have := h.o1; have := h.op
 exact ⟨h.keeps.trans hk (by simp), hk.blk h.b0 (by simp; omega), hk.blk h.b6 (by simp; omega), h.o0, h.o1, h.op⟩
theorem RmAt.in6 {w0 w w' : World} {p g0 g6 : Nat} {c c' : Array Value} (h : RmAt w0 w p g0 g6 c) (hk : Keeps [g6] w w') (hB : Blk w' g6 68 c') : RmAt w0 w' p g0 g6 c' := by
 have := h.o0; have := h.o1; have := h.op
 exact ⟨h.keeps.trans hk (by intro g hg; simp at hg; right; omega), hk.blk h.b0 (by simp; omega), hB, h.o0, h.o1, h.op⟩
theorem RmAt.set {w0 w : World} {p g0 g6 : Nat} {c : Array Value} (h : RmAt w0 w p g0 g6 c) (i : Nat) (v : Value) : RmAt w0 (w.setCell ⟨g6, i, none⟩ v) p g0 g6 (c.setIfInBounds i v) :=
 h.in6 ((Keeps.refl _ _).setCell (by simp) v) (h.b6.set_ i v)

end Go.Proofs.YtinnifhnabncfaaGreatDoor.Vi
end
section
namespace Go.Proofs.YtinnifhnabncfaaGreatDoor.Vi
open Go.RowKit Base Mem Tape Go.Shelf
theorem textS_blob {e : EntryD} (h : EOk e) (r : List UInt8) : textS (eBlob e ++ r) false = (bytesE e, r, false) := by
 have hb := bytesE_big h
 exact textS_put (bytesE e) r (by omega)
theorem getEs_put (r : List UInt8) : ∀ (es : List EntryD), (∀ e ∈ es, EOk e) → getEs es.length (es.flatMap eBlob ++ r) false = (some es, r, false)
 | [], _ => rfl
 | e :: es, h => by
  have he := h e (by simp)
  rw [List.length_cons, List.flatMap_cons, List.append_assoc, getEs, textS_blob he]
  rw [read_bytes e he.1 he.2.2 he.2.1]
  rw [if_neg (by simp)]
  rw [getEs_put r es (fun x hx => h x (List.mem_cons_of_mem _ hx))]
  rfl
theorem mgetS_put (r : List UInt8) (es : List EntryD) (h : ∀ e ∈ es, EOk e) (hl : es.length ≤ 128) : mgetS (putLog es ++ r) false = (some es, r, false) := by
 have hc : countS (putLog es ++ r) false 128 = (es.length, es.flatMap eBlob ++ r, false) := by
  unfold putLog
  rw [List.append_assoc]
  exact countS_put es.length _ 128 hl (by omega)
 unfold mgetS
 rw [hc]
 exact getEs_put r es h
theorem blob_len {e : EntryD} (h : EntryOk e) : (eBlob e).length ≤ 1210 := by
 have h1 := bytesE_len h
 have h2 := Lib.uvarint_length64 (x := (bytesE e).length) (by omega)
 unfold eBlob
 rw [List.length_append]
 omega
theorem blobs_len : ∀ (l : List EntryD), (∀ e ∈ l, EntryOk e) → (l.flatMap eBlob).length ≤ l.length * 1210
 | [], _ => by simp
 | e :: l, h => by
  have ih := blobs_len l (fun x hx => h x (List.mem_cons_of_mem _ hx))
  have h1 := blob_len (h e (by simp))
  rw [List.flatMap_cons, List.length_append, List.length_cons]
  omega
theorem readE_nil : (readE []).2 = 12 := by decide +kernel
theorem text_badnil {l : List UInt8} {b : Bool} (h : (textS l b).2.2 = true) : (textS l b).1 = [] := by
 unfold textS at h ⊢
 split at h
 ·rename_i hc; rw [if_pos hc]
 ·cases h
/-- So many entries, till a text is not there. -/
def rgetEs : Nat → List UInt8 → Bool → Option (List EntryD) × List UInt8 × Bool
 | 0, l, b => (some [], l, b)
 | k + 1, l, b => if b = true then (some [], l, b) else if (rreadE (textS l b).1).2 ≠ 0 then (none, (textS l b).2) else preE [(rreadE (textS l b).1).1] (rgetEs k (textS l b).2.1 (textS l b).2.2)
theorem preE_some (a : List EntryD) (R : Option (List EntryD) × List UInt8 × Bool) : (preE a R).1.isSome = R.1.isSome ∧ (preE a R).2 = R.2 := by
 obtain ⟨_ | es, s⟩ := R <;> exact ⟨rfl, rfl⟩
def SucE (R : Option (List EntryD) × List UInt8 × Bool) : Prop := R.1.isSome = true ∧ R.2.2 = false
theorem SucE.pre {a : List EntryD} {R : Option (List EntryD) × List UInt8 × Bool} (h : SucE (preE a R)) : SucE R := by
 obtain ⟨h1, h2⟩ := h
 rw [(preE_some a R).1] at h1
 rw [(preE_some a R).2] at h2
 exact ⟨h1, h2⟩
theorem rgetEs_eq : ∀ (n : Nat) (l : List UInt8) (b : Bool), SucE (getEs n l b) ∨ SucE (rgetEs n l b) → rgetEs n l b = getEs n l b
 | 0, _, _, _ => rfl
 | n + 1, l, b, h => by
  have hb : b = false := by
   cases b with
   | false => rfl
   | true =>
    rcases h with h | h
    ·have := h.1
     rw [getEs, if_pos (.inl (by rw [text_bad]))] at this
     cases this
    ·have := h.2
     rw [rgetEs, if_pos rfl] at this
     cases this
  subst hb
  rw [rgetEs, if_neg (by simp), rreadE_eq] at h ⊢
  rw [getEs] at h ⊢
  by_cases he : (readE (textS l false).1).2 ≠ 0
  ·rw [if_pos he, if_pos (.inr he)]
  ·have ht : ¬ ((textS l false).2.2 = true) := fun hc => by
    rw [text_badnil hc, readE_nil] at he
    exact he (by omega)
   rw [if_neg he, if_neg (by rintro (h | h); exact ht h; exact he h)] at h ⊢
   rw [rgetEs_eq n _ _ (h.imp SucE.pre SucE.pre)]
theorem getEs_len : ∀ (n : Nat) (l : List UInt8) (b : Bool) (es : List EntryD), (getEs n l b).1 = some es → es.length = n
 | 0, _, _, es, h => by simp [getEs] at h; subst h; rfl
 | n + 1, l, b, es, h => by
  rw [getEs] at h
  split at h
  ·cases h
  ·cases hg : getEs n (textS l b).2.1 (textS l b).2.2 with
   | mk o s =>
    rw [hg] at h
    cases o with
    | none => simp [preE] at h
    | some es' =>
     simp only [preE] at h
     injection h with h
     subst h
     have := getEs_len n _ _ es' (by rw [hg])
     simp; omega
def rmgetS (l : List UInt8) (b : Bool) : Option (List EntryD) × List UInt8 × Bool := rgetEs (numS l b).1 (numS l b).2.1 (numS l b).2.2
theorem getEs_bad {n : Nat} {l : List UInt8} (h : SucE (getEs n l true)) : False := by
 cases n with
 | zero => have := h.2; simp [getEs] at this
 | succ n =>
  have := h.1
  rw [getEs, if_pos (.inl (by rw [text_bad]))] at this
  cases this
theorem mgetS_ok {l : List UInt8} {b : Bool} (h : SucE (mgetS l b)) : b = false ∧ mgetS l b = rmgetS l b := by
 have hc : (countS l b 128).2.2 = false := by
  cases hh : (countS l b 128).2.2 with
  | false => rfl
  | true => unfold mgetS at h; rw [hh] at h; exact (getEs_bad h).elim
 have h1 : countS l b 128 = numS l b := by
  have h2 := count_int' hc
  rw [h2] at hc
  rw [h2, int_num' hc]
 refine ⟨count_ok hc, ?_⟩
 unfold mgetS rmgetS
 unfold mgetS at h
 rw [h1] at h ⊢
 exact (rgetEs_eq _ _ _ (.inl h)).symm
theorem rmgetS_ok {l : List UInt8} {b : Bool} (h : SucE (rmgetS l b)) (hl : ((rmgetS l b).1.getD []).length ≤ 128) : mgetS l b = rmgetS l b := by
 unfold rmgetS at h hl ⊢
 have he := rgetEs_eq _ _ _ (.inr h)
 rw [he] at h hl ⊢
 obtain ⟨es, hes⟩ := Option.isSome_iff_exists.1 h.1
 have hn := getEs_len _ _ _ _ hes
 rw [hes] at hl
 simp only [Option.getD] at hl
 have hc : countS l b 128 = numS l b := by
  have h1 : intS l b = numS l b := int_num (by omega)
  rw [count_int (by rw [h1]; omega), h1]
 unfold mgetS
 rw [hc]
theorem readF_bd {l x : List UInt8} {n : Nat} (h : readF l = some (x, n)) : 5 ≤ n ∧ n ≤ l.length ∧ x.length ≤ 65536 ∧ x.length ≤ n := by
 unfold readF at h
 have h0 := (getL_le l).1
 split at h
 ·cases h
 ·rename_i hc
  split at h
  ·injection h with h
   injection h with h1 h2
   subst h1 h2
   rw [List.length_take, List.length_drop]
   omega
  ·cases h
theorem scanF_step {f : Nat} {l : List UInt8} (h : l.length ≤ f) : scanF f l = match readF l with
  | none => ([], 0)
  | some (x, n) => (x :: (scanF (f - 1) (l.drop n)).1, n + (scanF (f - 1) (l.drop n)).2) := by
 cases f with
 | zero =>
  cases hr : readF l with
  | none => rfl
  | some p =>
   obtain ⟨x, n⟩ := p
   have := readF_bd hr
   omega
 | succ f => rfl
/-- All frames from the front on, and their bytes. -/
def scanS (l : List UInt8) : List (List UInt8) × Nat := scanF l.length l
theorem scanF_bd : ∀ (f : Nat) (l : List UInt8), (scanF f l).2 ≤ l.length ∧ (∀ x ∈ (scanF f l).1, x.length ≤ 65536) ∧ (scanF f l).1.length * 5 ≤ l.length
 | 0, l => by simp [scanF]
 | f + 1, l => by
  rw [scanF]
  cases hr : readF l with
  | none => simp
  | some p =>
   obtain ⟨x, n⟩ := p
   obtain ⟨h1, h2, h3, h4⟩ := readF_bd hr
   obtain ⟨a, b, c⟩ := scanF_bd f (l.drop n)
   rw [List.length_drop] at a c
   refine ⟨by simp only []; omega, fun y hy => ?_, by simp only [List.length_cons]; omega⟩
   rcases List.mem_cons.1 hy with rfl | hy
   ·exact h3
   ·exact b y hy
theorem scanS_bd (l : List UInt8) : (scanS l).2 ≤ l.length ∧ (∀ x ∈ (scanS l).1, x.length ≤ 65536) ∧ (scanS l).1.length * 5 ≤ l.length := scanF_bd _ _
theorem readF_nil : readF [] = none := by decide
theorem frames_len (rs : List (List UInt8)) : rs.length ≤ (rs.flatMap frameL).length := by
 induction rs with
 | nil => simp
 | cons x rs ih => rw [List.flatMap_cons, List.length_append, List.length_cons, frameL_len]; omega
theorem scanS_put (rs : List (List UInt8)) (h : ∀ l ∈ rs, l.length ≤ 65536) : scanS (rs.flatMap frameL) = (rs, (rs.flatMap frameL).length) := by
 have := scanF_put [] readF_nil rs (rs.flatMap frameL).length h (frames_len rs)
 rw [List.append_nil] at this
 exact this
/-- A replica's word. -/
structure WordD where
 t : Nat
 h : Nat
 log : List EntryD
/-- It may be written. -/
def WOk (x : WordD) : Prop := x.t ≤ 9223372036854775807 ∧ x.h ≤ 9223372036854775807 ∧ x.log.length ≤ 128 ∧ ∀ e ∈ x.log, EOk e
def recL (x : WordD) : List UInt8 := ([] ++ Lib.uvarint x.t) ++ Lib.uvarint x.h ++ putLog x.log
/-- The word that a record is, if it is one. -/
def readV (b : List UInt8) : Option WordD :=
 match mgetS (intS (intS b false).2.1 (intS b false).2.2).2.1 (intS (intS b false).2.1 (intS b false).2.2).2.2 with
 | (none, _) => none
 | (some es, l, bad) => if bad = false ∧ l.isEmpty = true then some ⟨(intS b false).1, (intS (intS b false).2.1 (intS b false).2.2).1, es⟩ else none
theorem getEs_ok : ∀ (n : Nat) (l : List UInt8) (b : Bool) (es : List EntryD) (r : List UInt8 × Bool), l.length < 4294967281 → getEs n l b = (some es, r) → es.length = n ∧ ∀ e ∈ es, EOk e
 | 0, l, b, es, r, _, h => by
  simp only [getEs] at h
  injection h with h _
  injection h with h
  subst h
  simp
 | n + 1, l, b, es, r, hl, h => by
  rw [getEs] at h
  split at h
  ·injection h with h _; cases h
  ·rename_i hc
   have ht := textS_len l b
   have ih := getEs_ok n (textS l b).2.1 (textS l b).2.2
   have hs := readH_short (textS l b).1 (by omega)
   generalize textS l b = t at *
   obtain ⟨t1, t2, t3⟩ := t
   simp only [] at *
   rcases hg : getEs n t2 t3 with ⟨_ | es', r'⟩
   ·rw [hg] at h; simp [preE] at h
   ·rw [hg] at h
    simp only [preE] at h
    injection h with h1 h2
    injection h1 with h1
    obtain ⟨i1, i2⟩ := ih es' r' (by omega) hg
    subst h1
    refine ⟨by simp; omega, fun e he => ?_⟩
    rcases List.mem_append.1 he with he | he
    ·simp at he
     subst he
     have h0 : (readE t1).2 = 0 := by
      rcases Nat.eq_zero_or_pos (readE t1).2 with h | h
      ·exact h
      ·exact absurd (.inr (by omega)) hc
     unfold readE at h0 ⊢
     split at h0
     ·rename_i hcc
      rw [if_pos hcc]
      exact ⟨hcc.2, hs.1, hs.2.2⟩
     ·cases h0
    ·exact i2 e he
theorem readV_ok {b : List UInt8} {x : WordD} (hl : b.length < 4294967281) (h : readV b = some x) : WOk x := by
 unfold readV at h
 have h1 := intS_lt b false
 have l1 := intS_len b false
 generalize intS b false = p at *
 obtain ⟨p1, p2, p3⟩ := p
 simp only [] at *
 have h2 := intS_lt p2 p3
 have l2 := intS_len p2 p3
 generalize intS p2 p3 = q at *
 obtain ⟨q1, q2, q3⟩ := q
 simp only [] at *
 rcases hg : mgetS q2 q3 with ⟨_ | es, l, bad⟩
 ·rw [hg] at h; cases h
 ·rw [hg] at h
  simp only [] at h
  split at h
  ·injection h with h
   subst h
   unfold mgetS at hg
   have hm := countS_most q2 q3 128
   have lc := countS_len q2 q3 128
   obtain ⟨a, b⟩ := getEs_ok _ _ _ _ _ (by omega) hg
   exact ⟨h1, h2, by simp only []; omega, b⟩
  ·cases h
theorem readV_put {x : WordD} (h : WOk x) : readV (recL x) = some x := by
 obtain ⟨h1, h2, h3, h4⟩ := h
 have e1 : intS (recL x) false = (x.t, Lib.uvarint x.h ++ putLog x.log, false) := by
  unfold recL
  rw [List.nil_append, List.append_assoc]
  exact intS_put _ _ h1
 unfold readV
 rw [e1]
 simp only []
 rw [intS_put _ _ h2]
 simp only []
 have := mgetS_put [] x.log h4 h3
 rw [List.append_nil] at this
 rw [this]
 simp
/-- The last word of some records. -/
def lastV (x : WordD) (rs : List (List UInt8)) : WordD := rs.foldl (fun x b => (readV b).getD x) x
theorem lastV_ok : ∀ (rs : List (List UInt8)) (x : WordD), WOk x → (∀ b ∈ rs, b.length ≤ 65536) → WOk (lastV x rs)
 | [], x, h, _ => h
 | b :: rs, x, h, hb => by
  show WOk (lastV ((readV b).getD x) rs)
  refine lastV_ok rs _ ?_ (fun c hc => hb c (by simp [hc]))
  cases hr : readV b with
  | none => exact h
  | some y => exact readV_ok (by have := hb b (by simp); omega) hr
def word0 : WordD := ⟨0, 0, []⟩
theorem word0_ok : WOk word0 := ⟨by simp [word0], by simp [word0], by simp [word0], by simp [word0]⟩
theorem lastV_snoc (x y : WordD) (rs : List (List UInt8)) (h : WOk y) : lastV x (rs ++ [recL y]) = y := by
 unfold lastV
 rw [List.foldl_append]
 simp [readV_put h]
/-- The word that a record is, as the document reads it. -/
def rreadV (b : List UInt8) : Option WordD :=
 match rmgetS (intS (intS b false).2.1 (intS b false).2.2).2.1 (intS (intS b false).2.1 (intS b false).2.2).2.2 with
 | (none, _) => none
 | (some es, l, bad) => if bad = false ∧ l.isEmpty = true ∧ es.length ≤ 128 then some ⟨(intS b false).1, (intS (intS b false).2.1 (intS b false).2.2).1, es⟩ else none
theorem rreadV_eq {b : List UInt8} (hb : b.length < 4294967281) : rreadV b = readV b := by
 have hok := fun x (h : readV b = some x) => readV_ok hb h
 unfold readV at hok
 unfold rreadV readV
 generalize (intS (intS b false).2.1 (intS b false).2.2).2.1 = c1 at *
 generalize (intS (intS b false).2.1 (intS b false).2.2).2.2 = c2 at *
 by_cases h : SucE (mgetS c1 c2)
 ·have he := (mgetS_ok h).2
  rw [← he]
  obtain ⟨h1, h2⟩ := h
  cases hm : mgetS c1 c2 with
  | mk o p =>
   obtain ⟨l, bad⟩ := p
   rw [hm] at h1 h2 hok
   cases o with
   | none => cases h1
   | some es =>
    simp only [] at h2 hok ⊢
    subst h2
    by_cases hl : l.isEmpty = true
    ·have := (hok _ (if_pos ⟨rfl, hl⟩)).2.2.1
     rw [if_pos ⟨rfl, hl, this⟩, if_pos ⟨rfl, hl⟩]
    ·rw [if_neg (fun h => hl h.2.1), if_neg (fun h => hl h.2)]
 ·rcases hm : mgetS c1 c2 with ⟨_ | es, l, bad⟩
  ·rcases hm2 : rmgetS c1 c2 with ⟨_ | es2, l2, bad2⟩
   ·rfl
   ·refine if_neg (fun hc => h ?_)
    have hs : SucE (rmgetS c1 c2) := by rw [hm2]; exact ⟨rfl, hc.1⟩
    rw [rmgetS_ok hs (by rw [hm2]; exact hc.2.2)]
    exact hs
  ·have hn : ¬ (bad = false ∧ l.isEmpty = true) := fun hc => h (by rw [hm]; exact ⟨rfl, hc.1⟩)
   rcases hm2 : rmgetS c1 c2 with ⟨_ | es2, l2, bad2⟩
   ·exact (if_neg hn).symm
   ·refine (if_neg (fun hc => h ?_)).trans (if_neg hn).symm
    have hs : SucE (rmgetS c1 c2) := by rw [hm2]; exact ⟨rfl, hc.1⟩
    rw [rmgetS_ok hs (by rw [hm2]; exact hc.2.2)]
    exact hs
end Go.Proofs.YtinnifhnabncfaaGreatDoor.Vi
end
section
namespace Go.Proofs.YtinnifhnabncfaaGreatDoor.Vi
open Go.RowKit Base Mem
set_option maxRecDepth 100000 in
theorem rcut_any (v : Value) (l : List UInt8) (w : World) (h : Bs w [] v l) (hl : l.length ≤ 4611686018427387904) :
  Calls Tryz.prog 178 #[v] w fun e w' => e = .returned (.tuple #[.string ⟨(cutL l).1.toArray⟩, .int .i64 (cutL l).2]) ∧ Below w.heap.size w w' := by
 have hg : Hid (Calls Tryz.prog 96 #[v] w fun e w' => e = .returned (.tuple #[.int .u64 (getL l).1, .int .i64 (getL l).2]) ∧ Below w.heap.size w w') := rget_any v l w h hl
 obtain ⟨A, c, rfl, hc⟩ := h.len
 have H := Lib.hid h
 obtain ⟨hk, hn⟩ := getL_le l
 have HC := Lib.hid (show cutL l = (if (getL l).2 = 0 ∨ l.length - (getL l).2 < (getL l).1 then ([], 0) else ((l.drop (getL l).2).take (getL l).1, (getL l).2 + (getL l).1)) from rfl)
 clear h
 generalize (getL l).1 = n at *
 generalize (getL l).2 = k at *
 go_enter Tryz.func178, Tryz.ntmps178
 go_wp2_with fail
 refine hg.out.mono ?_
 rintro e w1 ⟨rfl, hb1⟩
 have Hb1 := Lib.hid hb1
 clear hb1
 by_cases hk0 : k = 0
 ·have hR : Hid (cutL l = ([], 0)) := by show _ = _; rw [HC.out, if_pos (.inl hk0)]
  subst hk0
  clear hg HC
  go_wp2
  go_ret2
  rw [hR.out]
  exact ⟨rfl, Hb1.out⟩
 ·have hkz : ((k : Int) == 0) = false := by simpa using hk0
  by_cases hgt : l.length - k < n
  ·have hR : Hid (cutL l = ([], 0)) := by show _ = _; rw [HC.out, if_pos (.inr hgt)]
   have hgi : (l.length : Int) - (k : Int) < (n : Int) := by omega
   have hgj : (0 : Int) ≤ (l.length : Int) - (k : Int) := by omega
   clear hg HC
   go_wp2
   go_ret2
   rw [hR.out]
   exact ⟨rfl, Hb1.out⟩
  ·have hR : Hid (cutL l = ((l.drop k).take n, k + n)) := by show _ = _; rw [HC.out, if_neg (by omega)]
   have hgi : decide ((l.length : Int) - (k : Int) < (n : Int)) = false := decide_eq_false (by omega)
   have hgj : (0 : Int) ≤ (l.length : Int) - (k : Int) := by omega
   have hkn : (k : Int) + (n : Int) ≤ (l.length : Int) := by omega
   clear hg HC
   have hl0 : 0 < l.length := by omega
   obtain ⟨g, off, rfl⟩ : ∃ g off, A = some ⟨g, off, none⟩ := by
    obtain ⟨A', c', he, _, _, hr⟩ := H.out
    injection he with h1 h2 h3
    subst h1
    obtain ⟨g, off, e, _⟩ := hr hl0
    exact ⟨g, off, e⟩
   by_cases hck : c = k
   ·obtain rfl : n = 0 := by omega
    have hp : Bs w1 [] (.slice (some ⟨g, off, none⟩) ([] : List UInt8).length 0) [] := ⟨_, 0, rfl, Nat.le_refl _, rfl, fun h => absurd h (by simp)⟩
    have hcv := conv_bytes hp
    rw [List.length_nil] at hcv
    rw [List.take_zero] at hR
    clear hp
    go_wp2
    go_ret2
    rw [hR.out]
    exact ⟨by simp, Hb1.out⟩
   ·have hp := (H.out.keep (M' := []) (Keeps.of_below Hb1.out) (by simp)).part k n (by omega) (c - k) (by omega) (some ⟨g, off + k, none⟩) (fun _ => rfl)
    have hlen : ((l.drop k).take n).length = n := by rw [List.length_take, List.length_drop]; omega
    have hcv := conv_bytes hp
    rw [hlen] at hcv
    clear hp hlen
    go_wp2
    go_ret2
    rw [hR.out]
    exact ⟨by simp, Hb1.out⟩
end Go.Proofs.YtinnifhnabncfaaGreatDoor.Vi
end
