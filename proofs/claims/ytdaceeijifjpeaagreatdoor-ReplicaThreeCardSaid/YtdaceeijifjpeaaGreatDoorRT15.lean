/- Texts put together: Tpm, RqE, RqF, RqH, RqJ, RqM. -/
import Derived.Test.YtdaceeijifjpeaaGreatDoorRT4
import Derived.Test.YtdaceeijifjpeaaGreatDoorRT14
set_option linter.unusedVariables false
set_option linter.unusedSimpArgs false
section
namespace Go.Proofs.YtdaceeijifjpeaaGreatDoor.Tape
open Go.RowKit Base Mem
set_option maxRecDepth 100000
theorem next_more (b : Nat) (L : TapeL) (k : Nat) (n : Int) (w : World) (h : TapeAt w b L k) :
  Calls Tryz.prog 16 #[.pointer (some ⟨b, 0, none⟩), .int .i64 n] w fun e w' => ∃ (v : Int) (k' : Nat), e = .returned (.int .i64 v) ∧ 0 ≤ v ∧ (1 ≤ n → v < n) ∧ TapeAt w' b L k' ∧ Keeps [b] w w' ∧ k ≤ k' ∧ (1 ≤ n → k < L.l.length → k < k') := by
 obtain ⟨A, c, c0, hc, c1, f1, hlt, hx⟩ := h.cells
 have hle := h.le
 have hmx := h.max
 have H := Lib.hid h
 by_cases hk : k < L.l.length
 ·by_cases hn : 1 ≤ n
  ·obtain ⟨g, off, x, rfl, hg, hne, hcell⟩ := hx hk
   have hwi := Lib.hid (fun W => within_any x 0 1073741824 W (by omega) (by omega) (by omega))
   have hwb := within_bd x 0 1073741824 (by omega)
   have hcell2 : (w.setCell ⟨b, 1, none⟩ (.int .i64 ((k : Int) + 1))).cell? ⟨g, off + k, none⟩ = some (.int .i64 x) := by
    rw [World.cell?_setCell_other _ _ _ _ (by intro e; injection e with e1; exact hne e1.symm)]; exact hcell
   have hj : ((k : Int) + 1 - 1) = k := by omega
   clear h hx hcell
   generalize withinS x 0 1073741824 = y at *
   have hr1 := Int.emod_nonneg y (show n ≠ 0 by omega)
   have hr2 := Int.emod_lt_of_pos y (show 0 < n by omega)
   have d0 : decide (L.l.length ≤ k) = false := by simp; omega
   have d1 : decide (n < 1) = false := by simp; omega
   go_enter Tryz.func16, Tryz.ntmps16
   go_wp2
   go_quiet (fail)
   go_wp2
   have hT : TapeAt ((w.drewN nq).setCell ⟨b, 1, none⟩ (.int .i64 ((k : Int) + 1))) b L (k + 1) := by
    have := (H.out.drewN nq).set_at (j := k + 1) (by omega)
    rwa [show (((k + 1 : Nat)) : Int) = (k : Int) + 1 by omega] at this
   have hK : Keeps [b] w ((w.drewN nq).setCell ⟨b, 1, none⟩ (.int .i64 ((k : Int) + 1))) := ((Keeps.refl _ _).drewN nq).setCell (by simp) _
   have e0 : ((w.drewN nq).setCell ⟨b, 1, none⟩ (.int .i64 ((k : Int) + 1))).cell? ⟨b, 0, none⟩ = some (.slice (some ⟨g, off, none⟩) L.l.length c) := by
    rw [World.cell?_setCell_other _ _ _ _ (by intro e; injection e with e1 e2; omega)]; exact c0
   have e1 : ((w.drewN nq).setCell ⟨b, 1, none⟩ (.int .i64 ((k : Int) + 1))).cell? ⟨b, 1, none⟩ = some (.int .i64 ((k : Int) + 1)) := by
    obtain ⟨_, _, _, _, _, hv, _⟩ := hT
    have := hv.cell 1
    simpa using this
   have e2 : ((w.drewN nq).setCell ⟨b, 1, none⟩ (.int .i64 ((k : Int) + 1))).cell? ⟨g, off + k, none⟩ = some (.int .i64 x) := hcell2
   clear hcell2 c0 c1 f1
   generalize ((w.drewN nq).setCell ⟨b, 1, none⟩ (.int .i64 ((k : Int) + 1))) = W at *
   have hk0 : (0 : Int) ≤ (k : Int) := by omega
   have hk1 : (k : Int) < (L.l.length : Int) := by omega
   go_quiet ((go_at_call 11; exact quiet_left (hwi.out _)))
   go_wp2
   go_ret
   exact ⟨_, _, rfl, hr1, fun _ => hr2, hT.drewN _, hK.drewN _, by omega, fun _ _ => by omega⟩
  ·have d0 : decide (L.l.length ≤ k) = false := by simp; omega
   have d1 : decide (n < 1) = true := by simp; omega
   clear h hx
   go_enter Tryz.func16, Tryz.ntmps16
   go_wp2
   go_quiet (fail)
   go_wp2
   go_ret
   exact ⟨0, k, rfl, by omega, fun h => by omega, H.out.drewN _, (Keeps.refl _ _).drewN _, Nat.le_refl _, fun h1 h2 => by omega⟩
 ·have d0 : decide (L.l.length ≤ k) = true := by simp; omega
  clear h hx
  go_enter Tryz.func16, Tryz.ntmps16
  go_wp2
  go_quiet (fail)
  go_wp2
  go_ret
  exact ⟨0, k, rfl, by omega, fun h => by omega, H.out.drewN _, (Keeps.refl _ _).drewN _, Nat.le_refl _, fun h1 h2 => by omega⟩
end Go.Proofs.YtdaceeijifjpeaaGreatDoor.Tape
namespace Go.Proofs.YtdaceeijifjpeaaGreatDoor.Tpm
open Go.RowKit Base Mem
open Tape (within_any within_bd withinS NameOk DeltaOk nameL name_at names_any infoDelta' EntryOk DelOk zeroE blk_cells next_more)
structure TapeM where
 l : List Int
 B : Nat
 k0 : Nat
def TapeGe (w : World) (b : Nat) (L : TapeM) (k : Nat) : Prop := Tape.TapeAt w b ⟨L.l, L.B⟩ k ∧ L.k0 ≤ k
section
variable {w w' : World} {M' : List Nat} {b k : Nat} {L : TapeM}
theorem TapeGe.lt (h : TapeGe w b L k) : b < w.heap.size := h.1.lt
theorem TapeGe.le (h : TapeGe w b L k) : k ≤ L.l.length := h.1.le
theorem TapeGe.cells (h : TapeGe w b L k) : ∃ A c, w.cell? ⟨b, 0, none⟩ = some (.slice A L.l.length c) ∧ L.l.length ≤ c ∧ w.cell? ⟨b, 1, none⟩ = some (.int .i64 k) ∧ w.frozen? ⟨b, 1, none⟩ = false ∧ b < w.heap.size ∧
  (k < L.l.length → ∃ g off x, A = some ⟨g, off, none⟩ ∧ g < w.heap.size ∧ g ≠ b ∧ w.cell? ⟨g, off + k, none⟩ = some (.int .i64 x)) := h.1.cells
theorem TapeGe.low (h : TapeGe w b L k) : L.B ≤ b := h.1.low
theorem TapeGe.keep2 (h : TapeGe w b L k) (hk : Keeps M' w w') (hM : ∀ g ∈ M', L.B ≤ g ∧ g ≠ b) : TapeGe w' b L k := ⟨h.1.keep2 hk hM, h.2⟩
theorem TapeGe.keep (h : TapeGe w b L k) (hk : Keeps M' w w') (hM : ∀ g ∈ M', b < g) : TapeGe w' b L k := ⟨h.1.keep hk hM, h.2⟩
theorem TapeGe.drewN (h : TapeGe w b L k) (n : Nat) : TapeGe (w.drewN n) b L k := ⟨h.1.drewN n, h.2⟩
end
theorem next_any (b : Nat) (L : TapeM) (k : Nat) (n : Int) (w : World) (h : TapeGe w b L k) :
  Calls Tryz.prog 16 #[.pointer (some ⟨b, 0, none⟩), .int .i64 n] w fun e w' => ∃ (v : Int) (k' : Nat), e = .returned (.int .i64 v) ∧ 0 ≤ v ∧ (1 ≤ n → v < n) ∧ TapeGe w' b L k' ∧ Keeps [b] w w' :=
 (next_more b _ k n w h.1).mono fun _ _ ⟨v, k', h1, h2, h3, h4, h5, h6, _⟩ => ⟨v, k', h1, h2, h3, ⟨h4, Nat.le_trans h.2 h6⟩, h5⟩
theorem series_any (b : Nat) (L : TapeM) (k : Nat) (w : World) (h : TapeGe w b L k) :
  Calls Tryz.prog 45 #[.pointer (some ⟨b, 0, none⟩)] w fun e w' => ∃ (s : ByteArray) (k' : Nat), e = .returned (.string s) ∧ NameOk s ∧ TapeGe w' b L k' ∧ Keeps [b] w w' := by
 have H := Lib.hid h
 obtain ⟨_, _, _, _, _, _, hlt, _⟩ := h.cells
 clear h
 go_enter Tryz.func45, Tryz.ntmps45
 go_wp2_with fail
 refine (names_any w).mono ?_
 rintro e w1 ⟨rfl, hb1, hbel⟩
 have hT := H.out.keep (Keeps.of_below (M := []) hbel) (by simp)
 have Hb1 := Lib.hid hb1; have Hbel := Lib.hid hbel; have HT := Lib.hid hT
 clear hb1 hbel hT
 go_wp2_with fail
 refine (next_any b L k 8 w1 HT.out).mono ?_
 rintro e w2 ⟨v, k', rfl, hv0, hv8, hT2, hK2⟩
 obtain ⟨j, rfl⟩ := Int.eq_ofNat_of_zero_le hv0
 have hj8 : (j : Int) < 8 := hv8 (by omega)
 obtain ⟨s, hs, hok⟩ := name_at (hK2.blk Hb1.out (by simp; omega)) (show j < 8 by omega)
 have HT2 := Lib.hid hT2; have HK := Lib.hid ((Keeps.of_below (M := [b]) Hbel.out).trans hK2 (by simp))
 have Hok := Lib.hid hok
 clear hv8 hT2 hK2 hok
 go_wp2
 go_ret
 exact ⟨s, k', rfl, Hok.out, HT2.out, HK.out⟩
theorem n_any (b : Nat) (L : TapeM) (k : Nat) (w : World) (h : TapeGe w b L k) :
  Calls Tryz.prog 80 #[.pointer (some ⟨b, 0, none⟩)] w fun e w' => ∃ (n : Int) (k' : Nat), e = .returned (.int .u64 n) ∧ (1 ≤ n ∧ n ≤ 18446744073709551615) ∧ TapeGe w' b L k' ∧ Keeps [b] w w' := by
 have H := Lib.hid h
 clear h
 go_enter Tryz.func80, Tryz.ntmps80
 go_wp2_with fail
 refine (next_any b L k 12 w H.out).mono ?_
 rintro e w1 ⟨v, k', rfl, hv0, hv8, hT, hK⟩
 have hv12 := hv8 (by omega)
 have HT := Lib.hid hT; have HK := Lib.hid hK
 clear hv8 hT hK
 by_cases c0 : v = 0
 ·subst c0
  go_wp2
  go_ret
  exact ⟨_, _, rfl, ⟨by omega, by omega⟩, HT.out, HK.out⟩
 ·by_cases c1 : v = 1
  ·subst c1
   go_wp2
   go_ret
   exact ⟨_, _, rfl, ⟨by omega, by omega⟩, HT.out, HK.out⟩
  ·by_cases c2 : v = 2
   ·subst c2
    go_wp2_with fail
    refine (next_any b L k' 1073741824 w1 HT.out).mono ?_
    rintro e w2 ⟨x, k2, rfl, hx0, hx1, hT2, hK2⟩
    have hx2 := hx1 (by omega)
    have HT2 := Lib.hid hT2; have HK2 := Lib.hid (HK.out.trans hK2 (by simp))
    clear hx1 hT2 hK2
    go_wp2
    go_ret
    exact ⟨_, _, rfl, ⟨by omega, by omega⟩, HT2.out, HK2.out⟩
   ·have d0 : (v == 0) = false := by simpa using c0
    have d1 : (v == 1) = false := by simpa using c1
    have d2 : (v == 2) = false := by simpa using c2
    clear c0 c1 c2
    go_wp2_with fail
    refine (next_any b L k' 50 w1 HT.out).mono ?_
    rintro e w2 ⟨x, k2, rfl, hx0, hx1, hT2, hK2⟩
    have hx2 := hx1 (by omega)
    have HT2 := Lib.hid hT2; have HK2 := Lib.hid (HK.out.trans hK2 (by simp))
    clear hx1 hT2 hK2
    go_wp2
    go_ret
    exact ⟨_, _, rfl, ⟨by omega, by omega⟩, HT2.out, HK2.out⟩
def DeltasPost (b : Nat) (L : TapeM) (most : Int) (w : World) (e : Ending) (w' : World) : Prop := ∃ (v : Value) (ds : List DeltaD) (k' : Nat), e = .returned v ∧ (∀ d ∈ ds, DeltaOk d) ∧ 1 ≤ ds.length ∧ (ds.length : Int) ≤ most ∧
   w'.ownsRow w.heap.size 91 2 v ds.length (dCells ds) ∧ TapeGe w' b L k' ∧ Keeps [b] w w'
set_option maxRecDepth 100000 in
theorem deltas_any (b : Nat) (L : TapeM) (k : Nat) (most : Int) (w : World) (h : TapeGe w b L k) (h1 : 1 ≤ most) (h2 : most ≤ 1000) :
  Calls Tryz.prog 46 #[.pointer (some ⟨b, 0, none⟩), .int .i64 most] w fun e w' => DeltasPost b L most w e w' := by
 obtain ⟨_, _, _, _, _, _, hbw, _⟩ := h.cells
 have H := Lib.hid h
 obtain ⟨i0, hi0, hz0, hz1, hz2⟩ := info_parts infoDelta'
 have Hi0 := Lib.hid hi0; have Hz0 := Lib.hid hz0; have Hz1 := Lib.hid hz1; have Hz2 := Lib.hid hz2
 clear h hi0 hz0 hz1 hz2
 go_enter Tryz.func46, Tryz.ntmps46
 go_wp2_with fail
 refine (next_any b L k most w H.out).mono ?_
 rintro e w1 ⟨v, k1, rfl, hv0, hv8, hT, hK⟩
 have hv9 := hv8 h1
 have HT := Lib.hid hT; have HK := Lib.hid hK
 clear hv8 hT hK
 go_wp2
 go_loopw [5, 6] (fun out nn wr => ∃ (ds : List DeltaD) (r : Int) (k' : Nat), nn = .int .i64 r ∧ 0 ≤ r ∧ r + ds.length = 1 + v ∧ Hid (∀ d ∈ ds, DeltaOk d) ∧ Hid (wr.ownsRow w.heap.size 91 2 out ds.length (dCells ds)) ∧ Hid (TapeGe wr b L k') ∧ Hid (Keeps [b] w wr))
  (fun _ nn _ => (intOf nn).toNat)
 case atStart => exact ⟨[], 1 + v, k1, rfl, by omega, by simp, (show ∀ _, _ from by simp), World.ownsRow_nil _ _ _ _, HT.out, HK.out⟩
 case round =>
  obtain ⟨ds, r, k', rfl, hr0, hrl, Hok, Hown, HTr, HKr⟩ := hrel
  have Hrl := Lib.hid hrl
  have hr1 : r ≤ 1 + v := by omega
  clear hrl
  by_cases hr : 0 < r
  ·go_wp2_with fail
   refine (series_any b L k' wr HTr.out).mono ?_
   rintro e w2 ⟨s, k2, rfl, hs, hT2, hK2⟩
   have Hs := Lib.hid hs; have HT2 := Lib.hid hT2; have HK2 := Lib.hid hK2
   clear hs hT2 hK2
   go_wp2_with fail
   refine (n_any b L k2 w2 HT2.out).mono ?_
   rintro e w3 ⟨n, k3, rfl, hn, hT3, hK3⟩
   have Hn := Lib.hid hn; have HT3 := Lib.hid hT3
   have hK4 := HK2.out.trans hK3 (by simp)
   have HK4 := Lib.hid hK4
   have hown3 : w3.ownsRow w.heap.size 91 2 u5 ds.length (dCells ds) := own_keep Hown.out hK4 (by simp; omega)
   have Hown3 := Lib.hid (hown3.alloc (.cells #[.string s, .int .u64 n] 91))
   have hds : ds.length ≤ 1000 := by have := Hrl.out; omega
   clear hn hT3 hK3 hK4 hown3
   go_wp2_with (at_builtin; refine wpList_append_any _ rfl (.tmp 15) (.tmp 21) _ rfl w.heap.size 91 i0 _ 2 24 Tryz.underlying31 Hi0.out Hz0.out Hz1.out Hz2.out rfl (by omega) u5 ds.length (dCells ds) rfl Hown3.out (w3.heap.size + 1) (some ⟨w3.heap.size, 0, none⟩) 1 1 (dCell ⟨s, n⟩) rfl (reads_new _ _ _ _ _ rfl) (by intro u hu; simp [dCell] at hu; rcases hu with rfl | rfl <;> rfl) (by unfold maxLen; omega) (by omega) (by have := HKr.out.size; have := HK4.out.size; simp; omega) ?_)
   intro v' w4 hown4 hg4 hat4
   have hlt0 := Hown.out.lt
   have hK5 : Keeps [b] w w4 := ((HKr.out.trans HK4.out (by simp)).alloc _).grown hg4 (fun g hg => .inr (hlt0 g hg).1)
   have hT5 : TapeGe w4 b L k3 := HT3.out.keep (M' := u5.ownBlock.toList) (((Keeps.refl _ _).alloc _).grown hg4 (fun g hg => .inl (by simpa using hg))) (by intro g hg; have := hlt0 g (by simpa using hg); omega)
   have hok4 : ∀ d ∈ ds ++ [(⟨s, n⟩ : DeltaD)], DeltaOk d := fun d hd => by
    rcases List.mem_append.1 hd with hd | hd
    ·exact Hok.out d hd
    ·simp at hd; subst hd; exact ⟨Hs.out, Hn.out⟩
   have Hok4 := Lib.hid hok4
   clear hok4
   have Hown4 : Hid (w4.ownsRow w.heap.size 91 2 v' (ds ++ [(⟨s, n⟩ : DeltaD)]).length (dCells (ds ++ [(⟨s, n⟩ : DeltaD)]))) := by
    show World.ownsRow _ _ _ _ _ _ _
    rw [List.length_append]
    unfold dCells at hown4 ⊢
    rw [List.flatMap_append]
    simpa using hown4
   have HT5 := Lib.hid hT5; have HK5 := Lib.hid hK5
   clear hown4 hg4 hat4 hlt0 hK5 hT5
   go_wp2
   go_roundw
   case rel => exact ⟨ds ++ [(⟨s, n⟩ : DeltaD)], r - 1, k3, rfl, by omega, by have := Hrl.out; simp; omega, Hok4, Hown4, HT5, HK5⟩
   case measure => simp [intOf]; omega
  ·have hr0 : r = 0 := by omega
   subst hr0
   have hpost : DeltasPost b L most w (.returned u5) wr := ⟨u5, ds, k', rfl, Hok.out, by have := Hrl.out; omega, by have := Hrl.out; omega, Hown.out, HTr.out, HKr.out⟩
   go_wp2
   go_ret
   exact hpost
def EntryPost (b : Nat) (L : TapeM) (w : World) (e : Ending) (w' : World) : Prop := ∃ (en : EntryD) (dv : Value) (k' : Nat), e = .returned (.agg (eCell (en, dv)).toArray) ∧ EntryOk en ∧ (∀ M, (∀ g ∈ M, g < w.heap.size) → Ds w' M dv en.ds) ∧ TapeGe w' b L k' ∧ Keeps [b] w w'
theorem step_next (b : Nat) (L : TapeM) (k : Nat) (n : Int) (w0 w : World) (h : TapeGe w b L k) (hK : Keeps [b] w0 w) (hn : 1 ≤ n) :
  Calls Tryz.prog 16 #[.pointer (some ⟨b, 0, none⟩), .int .i64 n] w fun e w' => ∃ (v : Int) (k' : Nat), e = .returned (.int .i64 v) ∧ (0 ≤ v ∧ v < n) ∧ Hid (TapeGe w' b L k') ∧ Hid (Keeps [b] w w') ∧ Hid (Keeps [b] w0 w') :=
 (next_any b L k n w h).mono fun _ _ ⟨v, k', he, h0, h1, hT, hk⟩ => ⟨v, k', he, ⟨h0, h1 hn⟩, hT, hk, hK.trans hk (by simp)⟩
/-- What is known between two calls: the tape, the result's block g0, the entry's block g1. -/
structure St (w0 w : World) (b : Nat) (L : TapeM) (k g0 g1 : Nat) (c1 : Array Value) : Prop where
 tape : TapeGe w b L k
 keeps : Keeps [b] w0 w
 b0 : Blk w g0 33 zeroE
 b1 : Blk w g1 33 c1
 lt0 : b < g0
 lt1 : g0 < g1
 old : w0.heap.size ≤ g0
theorem St.set {w0 w : World} {b : Nat} {L : TapeM} {k g0 g1 : Nat} {c1 : Array Value} (h : St w0 w b L k g0 g1 c1) (i : Nat) (v : Value) : St w0 (w.setCell ⟨g1, i, none⟩ v) b L k g0 g1 (c1.setIfInBounds i v) := by
 have hk : Keeps [g1] w (w.setCell ⟨g1, i, none⟩ v) := (Keeps.refl _ _).setCell (by simp) v
 have := h.lt0; have := h.lt1; have := h.old
 exact ⟨h.tape.keep hk (by intro g hg; simp at hg; omega), h.keeps.trans hk (by intro g hg; simp at hg; right; omega), hk.blk h.b0 (by simp; omega), h.b1.set_ i v, h.lt0, h.lt1, h.old⟩
theorem St.keep {w0 w w' : World} {b : Nat} {L : TapeM} {k k' g0 g1 : Nat} {c1 : Array Value} (h : St w0 w b L k g0 g1 c1) (hT : TapeGe w' b L k') (hk : Keeps [b] w w') : St w0 w' b L k' g0 g1 c1 := by
 have := h.lt0; have := h.lt1; have := h.old
 exact ⟨hT, h.keeps.trans hk (by simp), hk.blk h.b0 (by simp; omega), hk.blk h.b1 (by simp; omega), h.lt0, h.lt1, h.old⟩
theorem st_next {w0 w : World} {b : Nat} {L : TapeM} {k g0 g1 : Nat} {c1 : Array Value} (h : St w0 w b L k g0 g1 c1) (n : Int) (hn : 1 ≤ n) :
  Calls Tryz.prog 16 #[.pointer (some ⟨b, 0, none⟩), .int .i64 n] w fun e w' => ∃ (v : Int) (k' : Nat), e = .returned (.int .i64 v) ∧ (0 ≤ v ∧ v < n) ∧ Hid (St w0 w' b L k' g0 g1 c1) :=
 (next_any b L k n w h.tape).mono fun _ _ ⟨v, k', he, h0, h1, hT, hk⟩ => ⟨v, k', he, ⟨h0, h1 hn⟩, h.keep hT hk⟩
theorem st_series {w0 w : World} {b : Nat} {L : TapeM} {k g0 g1 : Nat} {c1 : Array Value} (h : St w0 w b L k g0 g1 c1) :
  Calls Tryz.prog 45 #[.pointer (some ⟨b, 0, none⟩)] w fun e w' => ∃ (s : ByteArray) (k' : Nat), e = .returned (.string s) ∧ Hid (NameOk s) ∧ Hid (St w0 w' b L k' g0 g1 c1) :=
 (series_any b L k w h.tape).mono fun _ _ ⟨s, k', he, h0, hT, hk⟩ => ⟨s, k', he, h0, h.keep hT hk⟩
theorem st_deltas {w0 w : World} {b : Nat} {L : TapeM} {k g0 g1 : Nat} {c1 : Array Value} (h : St w0 w b L k g0 g1 c1) :
  Calls Tryz.prog 46 #[.pointer (some ⟨b, 0, none⟩), .int .i64 4] w fun e w' => ∃ (v : Value) (ds : List DeltaD) (k' : Nat), e = .returned v ∧ Hid (DelOk w w' v ds) ∧ Hid (St w0 w' b L k' g0 g1 c1) :=
 (deltas_any b L k 4 w h.tape (by omega) (by omega)).mono fun _ _ ⟨v, ds, k', he, h1, h2, h3, h4, hT, hk⟩ => ⟨v, ds, k', he, ⟨h1, h2, by omega, fun M hM => Rd.of_own h4 hM⟩, h.keep hT hk⟩
set_option maxRecDepth 100000 in
set_option maxHeartbeats 1000000 in
theorem entry_any (b : Nat) (L : TapeM) (k : Nat) (w : World) (h : TapeGe w b L k) :
  Calls Tryz.prog 12 #[.pointer (some ⟨b, 0, none⟩)] w fun e w' => EntryPost b L w e w' := by
 have hbw := h.lt
 have H := Lib.hid h
 clear h
 go_enter Tryz.func12, Tryz.ntmps12
 go_wp2_with fail
 have hT0 : TapeGe (w.alloc (.cells zeroE 33)) b L k := H.out.keep (M' := []) ((Keeps.refl _ _).alloc _) (by simp)
 have hB0 : Blk (w.alloc (.cells zeroE 33)) w.heap.size 33 zeroE := Blk.new w _ _
 have hK0 : Keeps [b] w (w.alloc (.cells zeroE 33)) := (Keeps.refl _ _).alloc _
 have hsz : w.heap.size < (w.alloc (.cells zeroE 33)).heap.size := by simp
 refine (step_next b L k 8 w _ hT0 hK0 (by omega)).mono ?_
 rintro e w1 ⟨fr, k1, rfl, ⟨hf0, hf1⟩, HT1, HK1, HKw1⟩
 have hB1 := HK1.out.blk hB0 (by simp; omega)
 have hs1 := HK1.out.size
 clear hT0 hB0 hK0
 obtain ⟨g0, hg0⟩ : ∃ g, g = w.heap.size := ⟨_, rfl⟩
 rw [← hg0] at hB1 ⊢
 have hbg0 : b < g0 := by omega
 have hg1 : g0 < w1.heap.size := by omega
 have HB1 := Lib.hid hB1; have Hg0 := Lib.hid hg0
 clear hB1 hg0 hsz hs1
 go_wp2_with fail
 refine (step_next b L k1 40 w w1 HT1.out HKw1.out (by omega)).mono ?_
 rintro e w2 ⟨tag, k2, rfl, ⟨ht0, ht1⟩, HT2, HK2, HKw2⟩
 have HB2 := Lib.hid (HK2.out.blk HB1.out (by simp; omega))
 have hg2 : g0 < w2.heap.size := Nat.lt_of_lt_of_le hg1 HK2.out.size
 go_wp2_with fail
 have hst : St w (w2.alloc (.cells #[.int .i64 1, .int .i64 0, .int .i64 0, .int .i64 0, .int .i64 0, .slice none 0 0, .string ⟨#[]⟩, .int .i64 fr, .int .i64 tag] 33)) b L k2 g0 w2.heap.size #[.int .i64 1, .int .i64 0, .int .i64 0, .int .i64 0, .int .i64 0, .slice none 0 0, .string ⟨#[]⟩, .int .i64 fr, .int .i64 tag] :=
  ⟨HT2.out.keep (M' := []) ((Keeps.refl _ _).alloc _) (by simp), HKw2.out.alloc _, (HB2.out.below (below_new' w2 _) hg2), Blk.new w2 _ _, hbg0, hg2, by have := Hg0.out; omega⟩
 have Hst := Lib.hid hst
 clear hst
 generalize (w2.alloc (.cells #[.int .i64 1, .int .i64 0, .int .i64 0, .int .i64 0, .int .i64 0, .slice none 0 0, .string ⟨#[]⟩, .int .i64 fr, .int .i64 tag] 33)) = w3 at *
 generalize w2.heap.size = g1 at *
 clear HT2 HK2 HKw2 HB2 HT1 HK1 HKw1 HB1 hg1
 go_wp2_with fail
 refine (st_next Hst.out 5 (by omega)).mono ?_
 rintro e w4 ⟨v, k4, rfl, ⟨hv0, hv1⟩, H4⟩
 clear Hst
 by_cases c0 : v = 0
 ·subst c0
  go_wp2_with fail
  refine (st_series H4.out).mono ?_
  rintro e w5 ⟨sr, k5, rfl, Hok, H5⟩
  obtain ⟨q0, q1, q2, q3, q4, q5, q6, q7, q8, qf⟩ := blk_cells H5.out.b1
  obtain ⟨r0, r1, r2, r3, r4, r5, r6, r7, r8, rf⟩ := blk_cells H5.out.b0
  have H6 := Lib.hid ((H5.out.set 0 (.int .i64 2)).set 6 (.string sr))
  have hl0 := H5.out.lt0; have hl1 := H5.out.lt1; have hl2 := H5.out.old
  clear H4 H5
  go_wp2
  refine bodyPost_ret (v := .agg #[.int .i64 2, .int .i64 0, .int .i64 0, .int .i64 0, .int .i64 0, .slice none 0 0, .string sr, .int .i64 fr, .int .i64 tag]) (by simp [results, Tryz.results12, go_sem, r0, r1, r2, r3, r4, r5, r6, r7, r8]) rfl ?_
  refine ⟨⟨2, 0, 0, 0, 0, [], sr, fr, tag⟩, .slice none 0 0, k5, rfl, ⟨hf0, hf1, ht0, ht1, .inl ⟨rfl, Hok.out, rfl, rfl, rfl, rfl, rfl⟩⟩, fun M _ => Ds.nil _ _, ?_, ?_⟩
  ·refine H6.out.tape.keep (M' := [g0]) ?_ (by intro g hg; simp at hg; omega)
   repeat (first | (with_reducible exact Keeps.refl _ _) | (with_reducible refine Keeps.setCell ?_ (by simp) _))
  ·repeat (first | (with_reducible exact H6.out.keeps) | (with_reducible refine Keeps.setCell ?_ (by right; simp; omega) _))
 ·have d0 : (v == 0) = false := by simpa using c0
  clear c0
  go_wp2_with fail
  refine (st_next H4.out 3 (by omega)).mono ?_
  rintro e w5 ⟨ag, k5, rfl, ⟨ha0, ha1⟩, H5⟩
  clear H4
  go_wp2_with fail
  refine (st_next H5.out 2 (by omega)).mono ?_
  rintro e w6 ⟨sh, k6, rfl, ⟨hs0, hs1⟩, H6⟩
  clear H5
  go_wp2_with fail
  refine (st_next H6.out 12 (by omega)).mono ?_
  rintro e w7 ⟨sq, k7, rfl, ⟨hq0, hq1⟩, H7⟩
  clear H6
  obtain ⟨q0, q1, q2, q3, q4, q5, q6, q7, q8, qf⟩ := blk_cells H7.out.b1
  have hst := ((H7.out.set 1 (.int .i64 ag)).set 2 (.int .i64 sh)).set 3 (.int .i64 (1 + sq))
  have H8 := Lib.hid hst
  clear hst H7
  go_wp2_with fail
  refine (st_next H8.out 9 (by omega)).mono ?_
  rintro e w9 ⟨v9, k9, rfl, ⟨hn0, hn1⟩, H9⟩
  clear H8 q0 q1 q2 q3 q4 q5 q6 q7 q8 qf
  by_cases c9 : v9 = 0
  ·subst c9
   go_wp2_with fail
   refine (st_next H9.out 90 (by omega)).mono ?_
   rintro e wa ⟨sq2, ka, rfl, ⟨hz0, hz1⟩, Ha⟩
   clear H9 hq0 hq1
   have hsq : 1 ≤ 1 + sq2 ∧ 1 + sq2 ≤ 90 := by omega
   obtain ⟨q0, q1, q2, q3, q4, q5, q6, q7, q8, qf⟩ := blk_cells Ha.out.b1
   have hst := Ha.out.set 3 (.int .i64 (1 + sq2))
   have Hb := Lib.hid hst
   clear hst Ha
   go_wp2_with fail
   refine (st_next Hb.out 4 (by omega)).mono ?_
   rintro e wb ⟨ep, kb, rfl, ⟨he0, he1⟩, Hc⟩
   clear Hb
   try clear q0 q1 q2 q3 q4 q5 q6 q7 q8 qf
   obtain ⟨q0, q1, q2, q3, q4, q5, q6, q7, q8, qf⟩ := blk_cells Hc.out.b1
   have Hd := Lib.hid (Hc.out.set 4 (.int .i64 (1 + ep)))
   clear Hc
   go_wp2_with fail
   refine (st_deltas Hd.out).mono ?_
   rintro e wd ⟨dv, ds, kd, rfl, Hdel, He⟩
   clear q0 q1 q2 q3 q4 q5 q6 q7 q8 qf
   obtain ⟨Av, cv, hve, _⟩ := (Hdel.out.2.2.2 [] (by simp)).len
   subst hve
   have hdold : w.heap.size ≤ (wb.setCell ⟨g1, 4, none⟩ (.int .i64 (1 + ep))).heap.size := Hd.out.keeps.size
   have hgs : g1 < (wb.setCell ⟨g1, 4, none⟩ (.int .i64 (1 + ep))).heap.size := Hd.out.b1.lt
   have Hdold := Lib.hid hdold
   have Hgs := Lib.hid hgs
   clear hdold hgs
   obtain ⟨q0, q1, q2, q3, q4, q5, q6, q7, q8, qf⟩ := blk_cells He.out.b1
   obtain ⟨r0, r1, r2, r3, r4, r5, r6, r7, r8, rf⟩ := blk_cells He.out.b0
   have hl2 := He.out.old
   have Hf := Lib.hid (He.out.set 5 (.slice Av ds.length cv))
   clear He Hd
   go_wp2
   refine bodyPost_ret (v := .agg #[.int .i64 1, .int .i64 ag, .int .i64 sh, .int .i64 (1 + sq2), .int .i64 (1 + ep), .slice Av ds.length cv, .string ⟨#[]⟩, .int .i64 fr, .int .i64 tag]) (by simp [results, Tryz.results12, go_sem, r0, r1, r2, r3, r4, r5, r6, r7, r8]) rfl ?_
   refine ⟨⟨1, ag, sh, 1 + sq2, 1 + ep, ds, ⟨#[]⟩, fr, tag⟩, .slice Av ds.length cv, kd, rfl, ⟨hf0, hf1, ht0, ht1, .inr ⟨rfl, rfl, ha0, ha1, hs0, hs1, hsq.1, hsq.2, by simp only []; omega, by simp only []; omega, Hdel.out.2.1, Hdel.out.2.2.1, Hdel.out.1⟩⟩, ?_, ?_, ?_⟩
   ·intro M hM
    have h0 := Hdel.out.2.2.2 (g0 :: g1 :: M) (by intro g hg; simp at hg; have := Hgs.out; have := Hdold.out; rcases hg with rfl | rfl | hg; omega; omega; have := hM g hg; omega)
    refine ((h0.keep (M' := [g0, g1]) ?_ (by intro g hg; simp at hg; rcases hg with rfl | rfl <;> simp)).avoid (fun g hg => .inl (List.mem_cons_of_mem _ (List.mem_cons_of_mem _ hg))))
    repeat (first | (with_reducible exact Keeps.refl _ _) | (with_reducible refine Keeps.setCell ?_ (by simp) _))
   ·refine Hf.out.tape.keep (M' := [g0]) ?_ (by intro g hg; simp at hg; omega)
    repeat (first | (with_reducible exact Keeps.refl _ _) | (with_reducible refine Keeps.setCell ?_ (by simp) _))
   ·repeat (first | (with_reducible exact Hf.out.keeps) | (with_reducible refine Keeps.setCell ?_ (by right; simp; omega) _))
  ·have d9 : (v9 == 0) = false := by simpa using c9
   clear c9
   have hsq : 1 ≤ 1 + sq ∧ 1 + sq ≤ 90 := by omega
   have Hb := H9
   clear H9
   go_wp2_with fail
   refine (st_next Hb.out 4 (by omega)).mono ?_
   rintro e wb ⟨ep, kb, rfl, ⟨he0, he1⟩, Hc⟩
   clear Hb
   try clear q0 q1 q2 q3 q4 q5 q6 q7 q8 qf
   obtain ⟨q0, q1, q2, q3, q4, q5, q6, q7, q8, qf⟩ := blk_cells Hc.out.b1
   have Hd := Lib.hid (Hc.out.set 4 (.int .i64 (1 + ep)))
   clear Hc
   go_wp2_with fail
   refine (st_deltas Hd.out).mono ?_
   rintro e wd ⟨dv, ds, kd, rfl, Hdel, He⟩
   clear q0 q1 q2 q3 q4 q5 q6 q7 q8 qf
   obtain ⟨Av, cv, hve, _⟩ := (Hdel.out.2.2.2 [] (by simp)).len
   subst hve
   have hdold : w.heap.size ≤ (wb.setCell ⟨g1, 4, none⟩ (.int .i64 (1 + ep))).heap.size := Hd.out.keeps.size
   have hgs : g1 < (wb.setCell ⟨g1, 4, none⟩ (.int .i64 (1 + ep))).heap.size := Hd.out.b1.lt
   have Hdold := Lib.hid hdold
   have Hgs := Lib.hid hgs
   clear hdold hgs
   obtain ⟨q0, q1, q2, q3, q4, q5, q6, q7, q8, qf⟩ := blk_cells He.out.b1
   obtain ⟨r0, r1, r2, r3, r4, r5, r6, r7, r8, rf⟩ := blk_cells He.out.b0
   have hl2 := He.out.old
   have Hf := Lib.hid (He.out.set 5 (.slice Av ds.length cv))
   clear He Hd
   go_wp2
   refine bodyPost_ret (v := .agg #[.int .i64 1, .int .i64 ag, .int .i64 sh, .int .i64 (1 + sq), .int .i64 (1 + ep), .slice Av ds.length cv, .string ⟨#[]⟩, .int .i64 fr, .int .i64 tag]) (by simp [results, Tryz.results12, go_sem, r0, r1, r2, r3, r4, r5, r6, r7, r8]) rfl ?_
   refine ⟨⟨1, ag, sh, 1 + sq, 1 + ep, ds, ⟨#[]⟩, fr, tag⟩, .slice Av ds.length cv, kd, rfl, ⟨hf0, hf1, ht0, ht1, .inr ⟨rfl, rfl, ha0, ha1, hs0, hs1, hsq.1, hsq.2, by simp only []; omega, by simp only []; omega, Hdel.out.2.1, Hdel.out.2.2.1, Hdel.out.1⟩⟩, ?_, ?_, ?_⟩
   ·intro M hM
    have h0 := Hdel.out.2.2.2 (g0 :: g1 :: M) (by intro g hg; simp at hg; have := Hgs.out; have := Hdold.out; rcases hg with rfl | rfl | hg; omega; omega; have := hM g hg; omega)
    refine ((h0.keep (M' := [g0, g1]) ?_ (by intro g hg; simp at hg; rcases hg with rfl | rfl <;> simp)).avoid (fun g hg => .inl (List.mem_cons_of_mem _ (List.mem_cons_of_mem _ hg))))
    repeat (first | (with_reducible exact Keeps.refl _ _) | (with_reducible refine Keeps.setCell ?_ (by simp) _))
   ·refine Hf.out.tape.keep (M' := [g0]) ?_ (by intro g hg; simp at hg; omega)
    repeat (first | (with_reducible exact Keeps.refl _ _) | (with_reducible refine Keeps.setCell ?_ (by simp) _))
   ·repeat (first | (with_reducible exact Hf.out.keeps) | (with_reducible refine Keeps.setCell ?_ (by right; simp; omega) _))
end Go.Proofs.YtdaceeijifjpeaaGreatDoor.Tpm
end
section
namespace Go.Proofs.YtdaceeijifjpeaaGreatDoor.Vi
open Go.RowKit Base Mem Go.Shelf Tape
open Lead (VoteD VoteAt promiseS wonS accS medS termS newVote)
open Px (upd upd_same upd_ne Inv)
def p3 (f : Nat → Nat) : Array Value := #[.pointer (some ⟨f 0, 0, none⟩), .pointer (some ⟨f 1, 0, none⟩), .pointer (some ⟨f 2, 0, none⟩)]
theorem p3_cell (f : Nat → Nat) {x : Nat} (hx : x < 3) : (p3 f)[x]? = some (.pointer (some ⟨f x, 0, none⟩)) := by
 match x, hx with
 | 0, _ => rfl
 | 1, _ => rfl
 | 2, _ => rfl
theorem p3_set (f : Nat → Nat) {x : Nat} (hx : x < 3) (g : Nat) : (p3 f).setIfInBounds x (.pointer (some ⟨g, 0, none⟩)) = p3 (upd f x g) := by
 match x, hx with
 | 0, _ => rfl
 | 1, _ => rfl
 | 2, _ => rfl
structure Th (w W : World) (M : List Nat) (tg : Nat → Nat → Nat) (r d : Nat → Nat) (R : Nat → RpD) (s : PSt) (bt : Nat) (lx : List Int) (k0 k gd gr : Nat) (v : Value) (ls : List (LetD × Value × Value)) : Prop where
 sys : RSys (fun j => j < 3) w W M tg r d R
 pr : Pr3 R s
 tp : Tpm.TapeGe W bt ⟨lx, w.heap.size, k0⟩ k
 tb : Bes M tg bt
 ad : Blk W gd 49 (p3 d)
 db : Bes M tg gd
 ar : Blk W gr 50 (p3 r)
 rb : Bes M tg gr
 un : UnS w W M tg v ls
 ok : ∀ q ∈ ls, LtOk s q.1
 ne : bt ≠ gd ∧ bt ≠ gr ∧ gd ≠ gr
 nu : ∀ g, v.ownBlock = some g → g ≠ bt ∧ g ≠ gd ∧ g ≠ gr
 ll : ls.length ≤ 80
/-- What is to be sent, read. -/
structure OuS (W : World) (M : List Nat) (v7 v8 : Value) (qs : List (SentD × Value × Value)) (s : PSt) (k : Nat) : Prop where
 rd : Rd W v7.ownBlock.toList 19 v8 qs.length (qs.flatMap srCell)
 msg : ∀ q ∈ qs, MsgAt W M q.1.m q.2.1 q.2.2
 ok : ∀ q ∈ qs, LetI 3 s k q.1.m ∧ MFit q.1.m
 ml : qs.length ≤ maxLen
section
variable {w W V : World} {M M' : List Nat} {tg tg' : Nat → Nat → Nat} {r d : Nat → Nat} {R : Nat → RpD} {s s' : PSt} {bt : Nat} {lx : List Int} {k0 k gd gr : Nat} {v v8 : Value} {ls : List (LetD × Value × Value)} {R' : RpD} {i : Nat}
theorem Th.keep0 (h : Th w W M tg r d R s bt lx k0 k gd gr v ls) (hk : Keeps [] W V) : Th w V M tg r d R s bt lx k0 k gd gr v ls :=
 ⟨h.sys.keep0 hk, h.pr, h.tp.keep2 hk (by simp), h.tb, hk.blk h.ad (by simp), h.db, hk.blk h.ar (by simp), h.rb, h.un.keep0 hk, h.ok, h.ne, h.nu, h.ll⟩
/-- The tape is turned. -/
theorem Th.tape (h : Th w W M tg r d R s bt lx k0 k gd gr v ls) (hk : Keeps [bt] W V) {k2 : Nat} (ht : Tpm.TapeGe V bt ⟨lx, w.heap.size, k0⟩ k2) : Th w V M tg r d R s bt lx k0 k2 gd gr v ls :=
 ⟨h.sys.beside (by intro g hg; simp at hg; subst hg; exact h.tb) hk, h.pr, ht, h.tb, hk.blk h.ad (by simp; exact fun e => h.ne.1 e.symm), h.db, hk.blk h.ar (by simp; exact fun e => h.ne.2.1 e.symm), h.rb, h.un.beside (by intro g hg; simp at hg; subst hg; exact ⟨h.tb, fun e => (h.nu _ e).1 rfl⟩) hk, h.ok, h.ne, h.nu, h.ll⟩
theorem blk_goes {b : Nat} {T : TypeId} {cs : Array Value} (g : Goes W M tg V M' tg') (hb : Blk W b T cs) (hB : Bes M tg b) : Blk V b T cs := by
 obtain ⟨L, h1, h2⟩ := g.kx
 exact h2.blk hb (fun hm => (h1 b hm).2 hB)
/-- One of them goes a step. -/
theorem Th.turn (h : Th w W M tg r d R s bt lx k0 k gd gr v ls) (hs : RSys (fun j => j < 3) w V M' tg' r d (upd R i R')) (g : Goes W M tg V M' tg') (hst : Stp 3 i s R' s') (hg : GdB R') : Th w V M' tg' r d (upd R i R') s' bt lx k0 k gd gr v ls := by
 obtain ⟨L, h1, h2⟩ := g.kx
 exact ⟨hs, h.pr.step hst hg, h.tp.keep2 h2 (fun x hx => ⟨h.sys.old x (h1 x hx).1, fun e => (h1 x hx).2 (e ▸ h.tb)⟩), g.bes _ h.tp.lt h.tb, blk_goes g h.ad h.db, g.bes _ h.ad.lt h.db, blk_goes g h.ar h.rb, g.bes _ h.ar.lt h.rb, h.un.goes g, fun q hq => (h.ok q hq).says hst.says, h.ne, h.nu, h.ll⟩
theorem Th.next (h : Th w W M tg r d R s bt lx k0 k gd gr v ls) (n : Int) (hn : 1 ≤ n) :
  Calls Tryz.prog 16 #[.pointer (some ⟨bt, 0, none⟩), .int .i64 n] W fun e V => ∃ (x k2 : Nat), e = .returned (.int .i64 x) ∧ (x : Int) < n ∧ Th w V M tg r d R s bt lx k0 k2 gd gr v ls ∧ Keeps [bt] W V := by
 refine (Tpm.next_any bt _ k n W h.tp).mono ?_
 rintro e V ⟨x, k2, rfl, h0, h1, hT, hk⟩
 exact ⟨x.toNat, k2, by rw [Int.toNat_of_nonneg h0], by rw [Int.toNat_of_nonneg h0]; exact h1 hn, h.tape hk hT, hk⟩
/-- The first number of a round. -/
theorem Th.next1 (h : Th w W M tg r d R s bt lx k0 k gd gr v ls) (hlt : k < lx.length) (n : Int) (hn : 1 ≤ n) :
  Calls Tryz.prog 16 #[.pointer (some ⟨bt, 0, none⟩), .int .i64 n] W fun e V => ∃ (x k2 : Nat), e = .returned (.int .i64 x) ∧ (x : Int) < n ∧ Th w V M tg r d R s bt lx (k + 1) k2 gd gr v ls ∧ Keeps [bt] W V := by
 refine (next_more bt _ k n W h.tp.1).mono ?_
 rintro e V ⟨x, k2, rfl, h0, h1, hT, hk, h2, h3⟩
 have hT0 : Tpm.TapeGe V bt ⟨lx, w.heap.size, k0⟩ k2 := ⟨hT, Nat.le_trans h.tp.2 h2⟩
 obtain ⟨a1, a2, a3, a4, a5, a6, a7, a8, a9, a10, a11, a12, a13⟩ := h.tape hk hT0
 exact ⟨x.toNat, k2, by rw [Int.toNat_of_nonneg h0], by rw [Int.toNat_of_nonneg h0]; exact h1 hn, ⟨a1, a2, ⟨hT, h3 hn hlt⟩, a4, a5, a6, a7, a8, a9, a10, a11, a12, a13⟩, hk⟩
theorem Th.entry (h : Th w W M tg r d R s bt lx k0 k gd gr v ls) :
  Calls Tryz.prog 12 #[.pointer (some ⟨bt, 0, none⟩)] W fun e V => ∃ (en : EntryD) (dv : Value) (k2 : Nat), e = .returned (.agg (eCell (en, dv)).toArray) ∧ EntryOk en ∧ (∀ L, (∀ g ∈ L, g < W.heap.size) → Ds V L dv en.ds) ∧ Th w V M tg r d R s bt lx k0 k2 gd gr v ls ∧ Keeps [bt] W V := by
 refine (Tpm.entry_any bt _ k W h.tp).mono ?_
 rintro e V ⟨en, dv, k2, he, hok, hds, hT, hk⟩
 exact ⟨en, dv, k2, he, hok, hds, h.tape hk hT, hk⟩
theorem OuS.of (h : Th w W M tg r d R s bt lx k0 k gd gr v ls) {out : List SentD} (hr : SRow W V M' tg' v8 out) (hl : ∀ q ∈ out, LetI 3 s' i q.m ∧ MFit q.m) : ∃ qs, OuS V M' v v8 qs s' i := by
 obtain ⟨⟨qs, h1, h2, h3⟩, hf⟩ := hr
 have hlen : out.length = qs.length := by rw [← h1, List.length_map]
 rw [hlen] at h2
 refine ⟨qs, Rd.of_own h2 (fun g hg => ?_), fun q hq => by simpa using h3 q hq [] (by simp), fun q hq => hl _ (by rw [← h1]; exact List.mem_map_of_mem hq), ?_⟩
 ·exact (h.un.row.lt g (by simpa using hg)).2
 ·obtain ⟨_, h5 | ⟨_, _, _, _, _, _, h6, h7, _⟩⟩ := h2
  ·omega
  ·exact Nat.le_trans h6 h7
theorem OuS.nil (v : Value) (s : PSt) (k : Nat) : OuS W M v (.slice none 0 0) [] s k := ⟨⟨none, 0, rfl, Nat.le_refl _, rfl, fun h => absurd h (by simp)⟩, fun q hq => (nomatch hq), fun q hq => (nomatch hq), Nat.zero_le _⟩
theorem sys_vb (h : RSys (fun j => j < 3) w W M tg r d R) (hi : i < 3) : ∀ x, (R i).v = some x → x.best.length ≤ 128 ∧ ∀ e ∈ x.best, EOk e := fun x hx => by
 obtain ⟨ho, _⟩ := h.rp i hi
 obtain ⟨_, _, _, h4, h5, _⟩ := ho.2.2.2.2.2.1 x hx
 exact ⟨h4, h5⟩
/-- A replica is let try to lead. -/
theorem Th.lead (h : Th w W M tg r d R s bt lx k0 k gd gr v ls) (hi : i < 3) {m : Int} (hm : w.cell? ⟨0, 0, none⟩ = some (.int .i64 m)) :
  Calls Tryz.prog 9 #[.pointer (some ⟨r i, 0, none⟩)] W fun e V => ∃ v8 M' tg' R' s' qs, e = .returned v8 ∧ Th w V M' tg' r d R' s' bt lx k0 k gd gr v ls ∧ OuS V M' v v8 qs s' i := by
 refine (h.sys.lead hi hm).mono ?_
 rintro e V ⟨v8, M', tg', he, hs, hg, hr⟩
 obtain ⟨s', hst, hl⟩ := lead_st h.pr.inv (h.pr.rel i hi) hi (by omega) (wok_own (sys_wok h.sys hi))
 have hw : WOk (rpLead (R i)).1.x := by have := sys_wok hs hi; rwa [upd_same] at this
 obtain ⟨qs, ho⟩ := OuS.of h hr (s' := s') (i := i) (fun q hq => ⟨hl q hq, (outf_lead 0 (R i)).fit hw (by omega) q hq⟩)
 exact ⟨v8, M', tg', _, s', qs, he, h.turn hs hg hst (gd_lead (h.pr.gd i hi)), ho⟩
theorem Th.recv (h : Th w W M tg r d R s bt lx k0 k gd gr v ls) (hi : i < 3) (fr : Int) (q : MsgD) (dv lv : Value) (hq : MsgAt W M q dv lv) (hf : MFit q) (hl : q.kd = 1 ∨ ∃ k : Nat, fr = k ∧ LetI 3 s k q) {m : Int} (hm : w.cell? ⟨0, 0, none⟩ = some (.int .i64 m)) :
  Calls Tryz.prog 10 #[.pointer (some ⟨r i, 0, none⟩), .int .i64 fr, .agg (mCell q dv lv).toArray] W fun e V => ∃ v8 M' tg' R' s' qs, e = .returned v8 ∧ Th w V M' tg' r d R' s' bt lx k0 k gd gr v ls ∧ OuS V M' v v8 qs s' i ∧ Keeps M W V := by
 refine (h.sys.recv hi fr q dv lv hq hf hm).mono ?_
 rintro e V ⟨v8, M', tg', he, hs, hg, hr⟩
 obtain ⟨s', hst, hlt⟩ := recv_st h.pr.inv (h.pr.rel i hi) hi (by omega) (sys_vb h.sys hi) fr q hf.sh hf.wl hl
 have hw : WOk (rpRecv (R i) fr q).1.x := by have := sys_wok hs hi; rwa [upd_same] at this
 obtain ⟨qs, ho⟩ := OuS.of h hr (s' := s') (i := i) (fun p hp => ⟨hlt p hp, (outf_recv (R i) fr q).fit hw hf.tm p hp⟩)
 exact ⟨v8, M', tg', _, s', qs, he, h.turn hs hg hst (gd_recv (h.pr.gd i hi) fr q), ho, hg.k⟩
theorem Th.tick (h : Th w W M tg r d R s bt lx k0 k gd gr v ls) (hi : i < 3) :
  Calls Tryz.prog 17 #[.pointer (some ⟨r i, 0, none⟩)] W fun e V => ∃ v8 M' tg' R' s' qs, e = .returned v8 ∧ Th w V M' tg' r d R' s' bt lx k0 k gd gr v ls ∧ OuS V M' v v8 qs s' i := by
 refine (rptick_any (h.sys.rp i hi) h.sys.lt).mono ?_
 intro e V hp
 obtain ⟨v8, M', tg', he, hs, hg, hr⟩ := h.sys.ro hi (AllPost.ro (h.sys.rp i hi) h.sys.lt hp) (h.sys.ap i hi)
 obtain ⟨s', hst, hlt⟩ := tick_st h.pr.inv (h.pr.rel i hi)
 obtain ⟨qs, ho⟩ := OuS.of h hr (s' := s') (i := i) (fun p hp => ⟨hlt p hp, (outf_tick 0 (R i)).fit (sys_wok h.sys hi) (by omega) p hp⟩)
 exact ⟨v8, M', tg', _, s', qs, he, h.turn hs hg hst (h.pr.gd i hi), ho⟩
end
/-- One of them has crashed. -/
structure ThC (w W : World) (M : List Nat) (tg : Nat → Nat → Nat) (r d : Nat → Nat) (R : Nat → RpD) (s : PSt) (bt : Nat) (lx : List Int) (k0 k gd gr : Nat) (v : Value) (ls : List (LetD × Value × Value)) (i : Nat) (Y : List Nat) : Prop where
 sys : RSys (fun j => j < 3 ∧ j ≠ i) w W M tg r d R
 wk : WOk (R i).x
 pr : Pr3 R s
 dk : DkAt W Y (d i) (R i).b (R i).b.length
 yM : ∀ y ∈ Y, y ∈ M ∧ ∀ j, (j < 3 ∧ j ≠ i) → tg j y = 99
 yi : ∀ y ∈ Y, ¬ Bes M tg y
 tp : Tpm.TapeGe W bt ⟨lx, w.heap.size, k0⟩ k
 tb : Bes M tg bt
 ad : Blk W gd 49 (p3 d)
 db : Bes M tg gd
 ar : Blk W gr 50 (p3 r)
 rb : Bes M tg gr
 un : UnS w W M tg v ls
 ok : ∀ q ∈ ls, LtOk s q.1
 ne : bt ≠ gd ∧ bt ≠ gr ∧ gd ≠ gr
 nu : ∀ g, v.ownBlock = some g → g ≠ bt ∧ g ≠ gd ∧ g ≠ gr
 ll : ls.length ≤ 80
section
variable {w W V : World} {M M' : List Nat} {tg tg' : Nat → Nat → Nat} {r d : Nat → Nat} {R : Nat → RpD} {s s' : PSt} {bt : Nat} {lx : List Int} {k0 k gd gr : Nat} {v v8 : Value} {ls : List (LetD × Value × Value)} {R' : RpD} {i : Nat} {Y : List Nat}
theorem Th.crash (h : Th w W M tg r d R s bt lx k0 k gd gr v ls) (hi : i < 3) :
  Calls Tryz.prog 18 #[.pointer (some ⟨d i, 0, none⟩), .int .i64 0] W fun e V => ∃ x Y, e = .returned x ∧ ThC w V M tg r d R s bt lx k0 k gd gr v ls i Y := by
 obtain ⟨ho, C, hC, hv⟩ := h.sys.rp i hi
 have hwk := hv.st.ok
 obtain ⟨lv, _, _, hl, _⟩ := hv.st.st
 have hdk : DkAt W C.Y (d i) (R i).b (R i).k := by rw [← hC]; exact hl.2.1
 have hgd := (h.pr.gd i hi).2
 rw [hgd] at hdk
 have hdY : d i ∈ C.Y := by obtain ⟨_, _, _, h3, _⟩ := hdk; exact h3
 have hnb : ∀ y ∈ C.Y, ¬ Bes M tg y := fun y hy hB => by
  have h1 := (hv.yM y hy).2
  have h2 := hB.2 i
  omega
 refine (dkcrash_any W hdk 0).mono ?_
 rintro e V ⟨he, hd, hk⟩
 rw [List.take_of_length_le (by omega)] at hd
 have hlen : (R i).b.length + crashK (R i).b (R i).b.length 0 = (R i).b.length := by
  have := hd.le
  omega
 rw [hlen] at hd
 have hn : ∀ b, Bes M tg b → b ∉ [d i] := fun b hB hm => by simp at hm; subst hm; exact hnb _ hdY hB
 have hsys : RSys (fun j => j < 3 ∧ j ≠ i) w V M tg r d R := ⟨fun j hj => (h.sys.rp j hj.1).other (Ext.refl h.sys.lt hk.size) (hk.to_sel (fun g hg => by
   simp at hg
   subst hg
   exact .inl ⟨(hv.yM _ hdY).1, by rw [h.sys.dj i j hi hj.1 (fun e => hj.2 e.symm) _ (hv.yM _ hdY).1 (by rw [(hv.yM _ hdY).2]; omega)]; simp⟩)), fun j hj => h.sys.ap j hj.1, fun g hg => Nat.lt_of_lt_of_le (h.sys.lt g hg) hk.size, h.sys.old, h.sys.bel.trans (hk.belowB h.sys.bel.size (fun g hg => by simp at hg; subst hg; exact h.sys.old _ (hv.yM _ hdY).1)), fun a b ha hb => h.sys.dj a b ha.1 hb.1⟩
 refine ⟨_, C.Y, he, hsys, hwk, h.pr, hd, fun y hy => ⟨(hv.yM y hy).1, fun j hj => h.sys.dj i j hi hj.1 (fun e => hj.2 e.symm) _ (hv.yM y hy).1 (by rw [(hv.yM y hy).2]; omega)⟩, hnb, h.tp.keep2 hk (fun g hg => by simp at hg; subst hg; exact ⟨h.sys.old _ (hv.yM _ hdY).1, fun e => hnb _ hdY (e ▸ h.tb)⟩), h.tb, hk.blk h.ad (hn _ h.db), h.db, hk.blk h.ar (hn _ h.rb), h.rb, ?_, h.ok, h.ne, h.nu, h.ll⟩
 exact ⟨own_other2 h.un.row hk (fun x hx => hn x (h.un.bes x hx)), h.un.bes, fun q hq => (h.un.msg q hq).keep hk (fun g hg => by simp at hg; subst hg; exact .inl (hv.yM _ hdY).1)⟩
theorem ThC.new (h : ThC w W M tg r d R s bt lx k0 k gd gr v ls i Y) (hi : i < 3) {m : Int} (hm : w.cell? ⟨0, 0, none⟩ = some (.int .i64 m)) :
  Calls Tryz.prog 7 #[.int .i64 i, .int .i64 3, .pointer (some ⟨d i, 0, none⟩)] W fun e V => ∃ r', e = .returned (.pointer (some ⟨r', 0, none⟩)) ∧ Blk V gr 50 (p3 r) ∧ ∃ M' tg' R' s', Th w (V.setCell ⟨gr, i, none⟩ (.pointer (some ⟨r', 0, none⟩))) M' tg' (upd r i r') d R' s' bt lx k0 k gd gr v ls := by
 obtain ⟨hgd, hx⟩ := gd_again (h.pr.gd i hi) h.wk i 3
 refine (h.sys.newz (i := i) (fun hj => hj.2 rfl) h.dk h.yM i 3 (by omega) (by omega) (by omega) (by omega) hm).mono ?_
 rintro e V ⟨r', M', tg', he, hs, hg⟩
 have hk := hg.k
 have hnY : ∀ b, Bes M tg b → b ∉ Y := fun b hB hy => h.yi b hy hB
 have hlt := h.sys.lt
 have hbes : ∀ b, Bes M tg b → Bes M' tg' b := fun b hB => hg.bes b (hlt b hB.1) hB (hnY b hB)
 have har : Blk V gr 50 (p3 r) := hk.blk h.ar (hnY _ h.rb)
 have hk2 : Keeps [gr] V (V.setCell ⟨gr, i, none⟩ (.pointer (some ⟨r', 0, none⟩))) := (Keeps.refl _ _).setCell (by simp) _
 have hst := crash_st h.pr.inv (h.pr.rel i hi) (rpNew i 3 (R i).b) ⟨(h.pr.rel i hi).nd.1.symm, (h.pr.rel i hi).nd.2.symm, hx⟩ ⟨rfl, rfl, rfl⟩
 have hd : upd d i (d i) = d := by
  funext j
  by_cases e : j = i
  ·subst e; rw [upd_same]
  ·rw [upd_ne _ _ e]
 rw [hd] at hs
 have hs3 : RSys (fun j => j < 3) w V M' tg' (upd r i r') d (upd R i (rpNew i 3 (R i).b)) := hs.mono (fun j hj => by
  by_cases e : j = i
  ·exact .inl e
  ·exact .inr ⟨hj, e⟩)
 have hu : UnS w V M' tg' v ls := ⟨own_other2 h.un.row hk (fun x hx => hnY x (h.un.bes x hx)), fun x hx => hbes x (h.un.bes x hx), fun q hq => ((h.un.msg q hq).avoid hg.new).keep hk (fun y hy => .inl (hg.sub y (h.yM y hy).1))⟩
 have htp : Tpm.TapeGe V bt ⟨lx, w.heap.size, k0⟩ k := h.tp.keep2 hk (fun y hy => ⟨h.sys.old y (h.yM y hy).1, fun e => h.yi y hy (e ▸ h.tb)⟩)
 have hadV : Blk V gd 49 (p3 d) := hk.blk h.ad (hnY _ h.db)
 refine ⟨r', he, har, M', tg', _, _, hs3.beside (fun g hgg => by simp at hgg; subst hgg; exact hbes _ h.rb) hk2, h.pr.step hst hgd, htp.keep2 hk2 (fun g hgg => by simp at hgg; subst hgg; exact ⟨h.sys.old _ h.rb.1, h.ne.2.1.symm⟩), hbes _ h.tb, hk2.blk hadV (by simp; exact h.ne.2.2), hbes _ h.db, ?_, hbes _ h.rb, hu.beside (fun g hgg => by simp at hgg; subst hgg; exact ⟨hbes _ h.rb, fun e => (h.nu _ e).2.2 rfl⟩) hk2, fun q hq => (h.ok q hq).says hst.says, h.ne, h.nu, h.ll⟩
 have := har.set_ i (.pointer (some ⟨r', 0, none⟩))
 rw [p3_set r hi r'] at this
 exact this
end
def pn (n : Nat) (f : Nat → Nat) : Array Value := #[.pointer (if 0 < n then some ⟨f 0, 0, none⟩ else none), .pointer (if 1 < n then some ⟨f 1, 0, none⟩ else none), .pointer (if 2 < n then some ⟨f 2, 0, none⟩ else none)]
theorem pn_cell (n : Nat) (f : Nat → Nat) {x : Nat} (hx : x < 3) : (pn n f)[x]? = some (.pointer (if x < n then some ⟨f x, 0, none⟩ else none)) := by
 match x, hx with
 | 0, _ => rfl
 | 1, _ => rfl
 | 2, _ => rfl
theorem pn_set (f : Nat → Nat) {x : Nat} (hx : x < 3) (g : Nat) : (pn x f).setIfInBounds x (.pointer (some ⟨g, 0, none⟩)) = pn (x + 1) (upd f x g) := by
 match x, hx with
 | 0, _ => rfl
 | 1, _ => rfl
 | 2, _ => rfl
structure Ti (w W : World) (M : List Nat) (tg : Nat → Nat → Nat) (r d : Nat → Nat) (bt : Nat) (lx : List Int) (gd gr x y : Nat) : Prop where
 sys : RSys (fun j => j < y) w W M tg r d (fun j => rpNew j 3 [])
 tp : TpS w W M tg bt lx 0
 ad : Blk W gd 49 (pn x d)
 db : Bes M tg gd
 ar : Blk W gr 50 (pn y r)
 rb : Bes M tg gr
 ne : bt ≠ gd ∧ bt ≠ gr ∧ gd ≠ gr
section
variable {w W V : World} {M M' : List Nat} {tg tg' : Nat → Nat → Nat} {r d : Nat → Nat} {bt : Nat} {lx : List Int} {gd gr x y : Nat}
theorem Ti.start (A : Option Addr) (c : Nat) (lx : List Int) (w : World) (hN : Nums w A c lx) : ∃ M tg, Ti w (((w.alloc (.cells #[.slice A lx.length c, .int .i64 0] 43)).alloc (.cells #[.pointer none, .pointer none, .pointer none] 49)).alloc (.cells #[.pointer none, .pointer none, .pointer none] 50)) M tg (fun _ => 0) (fun _ => 0) w.heap.size lx (w.heap.size + 1) (w.heap.size + 1 + 1) 0 0 := by
 obtain ⟨tg1, h1, h2, h3⟩ := (RSys.start (Below.refl w.heap.size w) (fun _ _ => 0) (fun _ => 0) (fun _ => 0) (fun j => rpNew j 3 [])).tape hN
 generalize hw1 : w.alloc (.cells #[.slice A lx.length c, .int .i64 0] 43) = w1 at *
 have hz1 : w1.heap.size = w.heap.size + 1 := by rw [← hw1, World.size_alloc]
 have hk : Keeps [] w1 ((w1.alloc (.cells #[.pointer none, .pointer none, .pointer none] 49)).alloc (.cells #[.pointer none, .pointer none, .pointer none] 50)) := ((Keeps.refl _ _).alloc _).alloc _
 have hB1 : Blk ((w1.alloc (.cells #[.pointer none, .pointer none, .pointer none] 49)).alloc (.cells #[.pointer none, .pointer none, .pointer none] 50)) w1.heap.size 49 #[.pointer none, .pointer none, .pointer none] := ((Keeps.refl [] _).alloc _).blk (Blk.new w1 _ _) (by simp)
 have hB2 := Blk.new (w1.alloc (.cells #[.pointer none, .pointer none, .pointer none] 49)) 50 #[.pointer none, .pointer none, .pointer none]
 rw [World.size_alloc] at hB2
 obtain ⟨tg2, k1, k2, k3⟩ := h1.more hk [w1.heap.size, w1.heap.size + 1] (by
  intro g hg
  simp at hg
  rw [World.size_alloc, World.size_alloc]
  omega)
 rw [hz1] at hB1 hB2 k1 k2 k3
 exact ⟨_, tg2, k1.mono (fun i hi => by omega), h2.goes h1 k2, hB1, k3 _ (by simp), hB2, k3 _ (by simp), by omega, by omega, by omega⟩
/-- A disk is laid. -/
theorem Ti.disk (h : Ti w W M tg r d bt lx gd gr x x) (hx : x < 3) (hd : DkAt V [W.heap.size] W.heap.size [] 0) (hb : Below W.heap.size W V) :
  Blk V gd 49 (pn x d) ∧ ∃ M' tg' d', Ti w (V.setCell ⟨gd, x, none⟩ (.pointer (some ⟨W.heap.size, 0, none⟩))) M' tg' r d' bt lx gd gr (x + 1) x ∧ DkAt (V.setCell ⟨gd, x, none⟩ (.pointer (some ⟨W.heap.size, 0, none⟩))) [W.heap.size] W.heap.size [] 0 ∧ Bes M' tg' W.heap.size ∧ d' x = W.heap.size ∧ bt ≠ W.heap.size ∧ gd ≠ W.heap.size ∧ gr ≠ W.heap.size := by
 obtain ⟨tg', h1, h2, h3⟩ := h.sys.disk hb hd
 have hgl := h.ad.lt
 have hrl := h.ar.lt
 have htl := h.tp.at_.lt
 have hk : Keeps [gd] V (V.setCell ⟨gd, x, none⟩ (.pointer (some ⟨W.heap.size, 0, none⟩))) := (Keeps.refl _ _).setCell (by simp) _
 have hB : Blk V gd 49 (pn x d) := blk_goes h2 h.ad h.db
 have hdb := h2.bes gd hgl h.db
 have htp := h.tp.goes h.sys h2
 refine ⟨hB, _, tg', upd d x W.heap.size, ⟨?_, ⟨htp.at_.keep2 hk (fun g hg => by simp at hg; subst hg; exact ⟨h.sys.old _ h.db.1, h.ne.1.symm⟩), htp.bes⟩, ?_, hdb, hk.blk (blk_goes h2 h.ar h.rb) (by simp; exact h.ne.2.2.symm), h2.bes gr hrl h.rb, h.ne⟩, hd.keep hk (by intro g hg; simp at hg; subst hg; simp; omega), h3, upd_same _ _ _, by omega, by omega, by omega⟩
 ·refine RSys.congr (h1.beside (fun g hg => by simp at hg; subst hg; exact hdb) hk) (fun i hi => ⟨rfl, ?_, rfl⟩)
  rw [upd_ne _ _ (by omega)]
 ·have := hB.set_ x (.pointer (some ⟨W.heap.size, 0, none⟩))
  rw [pn_set d hx] at this
  exact this
/-- A replica is laid on it. -/
theorem Ti.new (h : Ti w W M tg r d bt lx gd gr (x + 1) x) (hx : x < 3) {b : Nat} (hd : DkAt W [b] b [] 0) (hbb : Bes M tg b) (hdx : d x = b) (hn : bt ≠ b ∧ gd ≠ b ∧ gr ≠ b) {m : Int} (hm : w.cell? ⟨0, 0, none⟩ = some (.int .i64 m)) :
  Calls Tryz.prog 7 #[.int .i64 x, .int .i64 3, .pointer (some ⟨b, 0, none⟩)] W fun e V => ∃ r', e = .returned (.pointer (some ⟨r', 0, none⟩)) ∧ Blk V gr 50 (pn x r) ∧ ∃ M' tg' r2, Ti w (V.setCell ⟨gr, x, none⟩ (.pointer (some ⟨r', 0, none⟩))) M' tg' r2 d bt lx gd gr (x + 1) (x + 1) := by
 refine (h.sys.newz (i := x) (fun hj => Nat.lt_irrefl _ hj) hd (fun y hy => by simp at hy; subst hy; exact ⟨hbb.1, fun j _ => hbb.2 j⟩) x 3 (by omega) (by omega) (by omega) (by omega) hm).mono ?_
 rintro e V ⟨r', M', tg', he, hs, hg⟩
 have hk := hg.k
 have hlt := h.sys.lt
 have hbes : ∀ g, Bes M tg g → g ≠ b → Bes M' tg' g := fun g hB hne => hg.bes g (hlt g hB.1) hB (by simp; exact hne)
 have har : Blk V gr 50 (pn x r) := hk.blk h.ar (by simp; exact hn.2.2)
 have hrb := hbes gr h.rb hn.2.2
 have hk2 : Keeps [gr] V (V.setCell ⟨gr, x, none⟩ (.pointer (some ⟨r', 0, none⟩))) := (Keeps.refl _ _).setCell (by simp) _
 refine ⟨r', he, har, M', tg', upd r x r', ⟨?_, ⟨(h.tp.at_.keep2 hk (fun g hg => by simp at hg; subst hg; exact ⟨h.sys.old _ hbb.1, fun e => hn.1 e.symm⟩)).keep2 hk2 (fun g hg => by simp at hg; subst hg; exact ⟨h.sys.old _ h.rb.1, h.ne.2.1.symm⟩), hbes bt h.tp.bes hn.1⟩, hk2.blk (hk.blk h.ad (by simp; exact hn.2.1)) (by simp; exact h.ne.2.2), hbes gd h.db hn.2.1, ?_, hrb, h.ne⟩⟩
 ·refine RSys.congr ((hs.mono (I' := fun j => j < x + 1) (fun j hj => by
   by_cases e : j = x
   ·exact .inl e
   ·exact .inr (by omega))).beside (fun g hg => by simp at hg; subst hg; exact hrb) hk2) (fun i hi => ⟨rfl, ?_, ?_⟩)
  ·by_cases e : i = x
   ·subst e; rw [upd_same, hdx]
   ·rw [upd_ne _ _ e]
  ·by_cases e : i = x
   ·subst e; rw [upd_same]
   ·rw [upd_ne _ _ e]
 ·have := har.set_ x (.pointer (some ⟨r', 0, none⟩))
  rw [pn_set r hx] at this
  exact this
/-- A replica's pointer, a disk's. -/
theorem Th.rcell {R : Nat → RpD} {s : PSt} {k0 k : Nat} {v : Value} {ls : List (LetD × Value × Value)} (h : Th w W M tg r d R s bt lx k0 k gd gr v ls) {kk : Nat} (hk : kk < 3) : W.cell? ⟨gr, kk, none⟩ = some (.pointer (some ⟨r kk, 0, none⟩)) ∧ W.cell? ⟨gd, kk, none⟩ = some (.pointer (some ⟨d kk, 0, none⟩)) := by
 have h1 := h.ar.cell kk
 have h2 := h.ad.cell kk
 rw [p3_cell _ hk] at h1 h2
 exact ⟨h1, h2⟩
theorem pr3_start : Pr3 (fun j => rpNew j 3 []) (Px.st0 (E := EntryD)) := ⟨Px.inv0 3, fun i hi => ⟨⟨rfl, rfl⟩, rfl, rfl, rfl, rfl, rfl, .inl ⟨rfl, rfl⟩, fun h => (nomatch h)⟩, fun i hi => gd_new i 3⟩
theorem Ti.done (h : Ti w W M tg r d bt lx gd gr 3 3) : Th w W M tg r d (fun j => rpNew j 3 []) Px.st0 bt lx 0 0 gd gr (.slice none 0 0) [] :=
 ⟨h.sys, pr3_start, ⟨h.tp.at_, Nat.le_refl _⟩, h.tp.bes, h.ad, h.db, h.ar, h.rb, UnS.nil, fun q hq => (nomatch hq), h.ne, fun g hg => (nomatch hg), by simp⟩
end
theorem infoLetter : (Tryz.prog.info? 55).map (fun i => (i.zero, i.size, i.bytes)) = some (some (.agg #[.int .i64 0, .int .i64 0, .int .i64 0, .int .i64 0, .int .i64 0, .int .i64 0, .int .i64 0, .int .i64 0, .slice none 0 0, .string ByteArray.empty, .int .i64 0, .int .i64 0, .int .i64 0, .int .i64 0, .int .u64 0, .int .i64 0, .int .i64 0, .slice none 0 0, .int .i64 0, .int .i64 0]), 20, 200) := by kernel_rfl
section
variable {I : Nat → Prop} {w W V : World} {M M' : List Nat} {tg tg' : Nat → Nat → Nat} {r d : Nat → Nat} {R : Nat → RpD} {s s' : PSt} {bt : Nat} {lx : List Int} {k0 k gd gr : Nat} {v v' v8 : Value} {ls ls' : List (LetD × Value × Value)} {R' : RpD} {i : Nat}
theorem RSys.more2 (h : RSys I w W M tg r d R) {L0 : List Nat} (h0 : ∀ g ∈ L0, Bes M tg g) (hk : Keeps L0 W V) (L : List Nat) (hL : ∀ g ∈ L, W.heap.size ≤ g ∧ g < V.heap.size) :
  ∃ tg', RSys I w V (L ++ M) tg' r d R ∧ (∀ b, b < W.heap.size → Bes M tg b → Bes (L ++ M) tg' b) ∧ ∀ g ∈ L, Bes (L ++ M) tg' g := by
 have hx : ∀ i, Ext W M (tg i) V (L ++ M) (fun g => if g < W.heap.size then tg i g else 99) := fun i => ⟨fun g hg => List.mem_append_right _ hg, fun g hg => by
  rcases List.mem_append.1 hg with h1 | h1
  ·exact .inr (hL g h1).1
  ·exact .inl h1, fun g hg => if_pos hg, h.lt, fun g hg => by
  rcases List.mem_append.1 hg with h1 | h1
  ·exact (hL g h1).2
  ·exact Nat.lt_of_lt_of_le (h.lt g h1) hk.size⟩
 refine ⟨fun i g => if g < W.heap.size then tg i g else 99, ⟨fun i hi => (h.rp i hi).other (hx i) (hk.to_sel (fun g hg => .inl ⟨(h0 g hg).1, by rw [(h0 g hg).2 i]; simp⟩)), h.ap, (hx 0).lt, fun g hg => ?_, h.bel.trans (hk.belowB h.bel.size (fun g hg => h.old g (h0 g hg).1)), fun i j hi hj hij g hg hlt => ?_⟩, fun b hb h1 => ⟨(hx 0).sub b h1.1, fun j => by show (if b < W.heap.size then tg j b else 99) = 99; rw [if_pos hb]; exact h1.2 j⟩, fun g hg => ⟨List.mem_append_left _ hg, fun j => if_neg (by have := (hL g hg).1; omega)⟩⟩
 ·rcases (hx 0).new g hg with h1 | h1
  ·exact h.old g h1
  ·exact Nat.le_trans h.bel.size h1
 ·show (if g < W.heap.size then tg j g else 99) = 99
  have hlt' : (if g < W.heap.size then tg i g else 99) < 30 := hlt
  split
  ·rename_i h1
   rw [if_pos h1] at hlt'
   rcases (hx 0).new g hg with h2 | h2
   ·exact h.dj i j hi hj hij g h2 hlt'
   ·omega
  ·rfl
/-- The row of letters is another. -/
theorem Th.row (h : Th w W M tg r d R s bt lx k0 k gd gr v ls) (hk : Keeps v.ownBlock.toList W V) (hrow : V.ownsRow w.heap.size 55 20 v' ls'.length (ls'.flatMap ltCell)) (hnew : ∀ g, v'.ownBlock = some g → v.ownBlock = some g ∨ W.heap.size ≤ g)
  (hm : ∀ q ∈ ls', MsgAt W M q.1.m q.2.1 q.2.2) (hok : ∀ q ∈ ls', LtOk s q.1) (hl : ls'.length ≤ 80) :
  ∃ M' tg', Th w V M' tg' r d R s bt lx k0 k gd gr v' ls' ∧ (∀ b, b < W.heap.size → Bes M tg b → Bes M' tg' b) ∧ (∀ g ∈ M', g ∈ M ∨ W.heap.size ≤ g) ∧ ∀ g ∈ M, g ∈ M' := by
 have hub := h.un.bes
 obtain ⟨tg', h1, h2, h3⟩ := h.sys.more2 (fun g hg => hub g (by simpa using hg)) hk (v'.ownBlock.toList.filter fun g => decide (W.heap.size ≤ g)) (fun g hg => by
  obtain ⟨q1, q2⟩ := List.mem_filter.1 hg
  exact ⟨of_decide_eq_true q2, (hrow.lt g (by simpa using q1)).2⟩)
 have hsub : ∀ g ∈ M, g ∈ (v'.ownBlock.toList.filter fun g => decide (W.heap.size ≤ g)) ++ M := fun g hg => List.mem_append_right _ hg
 have hnw : ∀ g ∈ (v'.ownBlock.toList.filter fun g => decide (W.heap.size ≤ g)) ++ M, g ∈ M ∨ W.heap.size ≤ g := fun g hg => by
  rcases List.mem_append.1 hg with q | q
  ·exact .inr (of_decide_eq_true (List.mem_filter.1 q).2)
  ·exact .inl q
 have hn : ∀ g ∈ v.ownBlock.toList, g ≠ bt ∧ g ≠ gd ∧ g ≠ gr := fun g hg => h.nu g (by simpa using hg)
 have t1 := h.tp.lt
 have t2 := h.ad.lt
 have t3 := h.ar.lt
 refine ⟨_, tg', ⟨h1, h.pr, h.tp.keep2 hk (fun g hg => ⟨h.sys.old g (hub g (by simpa using hg)).1, (hn g hg).1⟩), h2 _ t1 h.tb, hk.blk h.ad (fun hm => (hn _ hm).2.1 rfl), h2 _ t2 h.db, hk.blk h.ar (fun hm => (hn _ hm).2.2 rfl), h2 _ t3 h.rb, ⟨hrow, fun g hg => ?_, fun q hq => ((hm q hq).avoid hnw).keep hk (fun g hg => .inl (hsub g (hub g (by simpa using hg)).1))⟩, hok, h.ne, fun g hg => ?_, hl⟩, h2, hnw, hsub⟩
 ·by_cases hge : W.heap.size ≤ g
  ·exact h3 g (List.mem_filter.2 ⟨by simpa using hg, decide_eq_true hge⟩)
  ·rcases hnew g hg with q | q
   ·exact h2 g (by omega) (hub g q)
   ·omega
 ·rcases hnew g hg with q | q
  ·exact h.nu g q
  ·exact ⟨by omega, by omega, by omega⟩
/-- One more letter. -/
theorem Th.put (h : Th w W M tg r d R s bt lx k0 k gd gr v ls) {o : Obj} (hg : (W.alloc o).grownBy V v.ownBlock) (hat : v'.ownBlock = v.ownBlock ∨ v'.ownBlock = some (W.alloc o).heap.size) {q : LetD × Value × Value} (hrow : V.ownsRow w.heap.size 55 20 v' (ls.length + 1) (ls.flatMap ltCell ++ ltCell q))
  (hm : MsgAt W M q.1.m q.2.1 q.2.2) (hok : LtOk s q.1) (hl : ls.length < 80) {qs : List (SentD × Value × Value)} (ho : OuS W M v v8 qs s i) :
  ∃ M' tg', Th w V M' tg' r d R s bt lx k0 k gd gr v' (ls ++ [q]) ∧ OuS V M' v' v8 qs s i := by
 have hk : Keeps v.ownBlock.toList W V := (((Keeps.refl [] W).alloc o).mono (by simp)).grown hg (fun g hg => .inl (by simpa using hg))
 have hnew : ∀ g, v'.ownBlock = some g → v.ownBlock = some g ∨ W.heap.size ≤ g := fun g hg' => by
  rcases hat with h1 | h1
  ·exact .inl (by rw [← h1]; exact hg')
  ·rw [h1] at hg'
   injection hg' with hg'
   subst hg'
   right
   rw [World.size_alloc]; omega
 obtain ⟨M', tg', h1, h2, h3, h4⟩ := h.row (v' := v') (ls' := ls ++ [q]) hk (by rw [List.length_append, List.flatMap_append]; simpa using hrow) hnew (fun p hp => by
  rcases List.mem_append.1 hp with hp | hp
  ·exact h.un.msg p hp
  ·simp at hp; subst hp; exact hm) (fun p hp => by
  rcases List.mem_append.1 hp with hp | hp
  ·exact h.ok p hp
  ·simp at hp; subst hp; exact hok) (by rw [List.length_append]; simp; omega)
 refine ⟨M', tg', h1, ⟨((ho.rd.avoid (M' := v'.ownBlock.toList ++ v.ownBlock.toList) (fun g hg => ?_)).keep hk (fun g hg => .inl (List.mem_append_right _ hg))).avoid (fun g hg => .inl (List.mem_append_left _ hg)), fun p hp => ((ho.msg p hp).avoid h3).keep hk (fun g hg => .inl (h4 g (h.un.bes g (by simpa using hg)).1)), ho.ok, ho.ml⟩⟩
 rcases List.mem_append.1 hg with hg | hg
 ·rcases hnew g (by simpa using hg) with q | q
  ·exact .inl (by simpa using q)
  ·exact .inr q
 ·exact .inl hg
theorem OuS.keep0 {qs : List (SentD × Value × Value)} (h : OuS W M v v8 qs s i) (hk : Keeps [] W V) : OuS V M v v8 qs s i := ⟨h.rd.keep hk (by simp), fun q hq => (h.msg q hq).keep hk (by simp), h.ok, h.ml⟩
theorem Th.weak (h : Th w W M tg r d R s bt lx k0 k gd gr v ls) : Th w W M tg r d R s bt lx 0 k gd gr v ls := by
 obtain ⟨a1, a2, a3, a4, a5, a6, a7, a8, a9, a10, a11, a12, a13⟩ := h
 exact ⟨a1, a2, ⟨a3.1, Nat.zero_le _⟩, a4, a5, a6, a7, a8, a9, a10, a11, a12, a13⟩
/-- Each of its cells is one cell. -/
theorem lt_one (hm : ∀ q ∈ ls, MsgAt W M q.1.m q.2.1 q.2.2) : ∀ u ∈ ls.flatMap ltCell, u.oneCell' = true := fun u hu => by
 obtain ⟨q, hq, hu⟩ := List.mem_flatMap.1 hu
 obtain ⟨⟨fr, dst, m⟩, dv, lv⟩ := q
 have hmq : MsgAt W M m dv lv := hm _ hq
 obtain ⟨Ad, nd, rfl, _⟩ := hmq.1.len
 obtain ⟨Al, nl, rfl, _⟩ := hmq.2.len
 simp only [ltCell, mCell, eCell, List.cons_append, List.nil_append, List.mem_cons, List.not_mem_nil, or_false] at hu
 rcases hu with rfl | rfl | rfl | rfl | rfl | rfl | rfl | rfl | rfl | rfl | rfl | rfl | rfl | rfl | rfl | rfl | rfl | rfl | rfl | rfl <;> rfl
theorem Th.parts (h : Th w W M tg r d R s bt lx k0 k gd gr v ls) {g c : Nat} (hv : v = .slice (some ⟨g, 0, none⟩) ls.length c) {j : Nat} (hj : j < ls.length) :
  Reads W W.heap.size 20 (some ⟨g, 0, none⟩) j ((ls.take j).flatMap ltCell) ∧ Reads W W.heap.size 20 (some ⟨g, (j + 1) * 20, none⟩) (ls.length - (j + 1)) ((ls.drop (j + 1)).flatMap ltCell) := by
 obtain ⟨g', c', hv', _, hlt, _, hcell⟩ := row_n h.un.row (by omega)
 rw [hv] at hv'
 injection hv' with h1 _ _
 injection h1 with h1
 injection h1 with h1 _
 subst h1
 have e1 : (ls.take j).flatMap ltCell ++ (ls.drop j).flatMap ltCell = ls.flatMap ltCell := by rw [← List.flatMap_append, List.take_append_drop]
 have e2 : (ls.take (j + 1)).flatMap ltCell ++ (ls.drop (j + 1)).flatMap ltCell = ls.flatMap ltCell := by rw [← List.flatMap_append, List.take_append_drop]
 have l1 : ((ls.take j).flatMap ltCell).length = j * 20 := by rw [ltCells_len, List.length_take]; congr 1; omega
 have l2 : ((ls.take (j + 1)).flatMap ltCell).length = (j + 1) * 20 := by rw [ltCells_len, List.length_take]; congr 1; omega
 refine ⟨⟨l1, fun _ => ⟨_, rfl, hlt, fun n u hu => ?_⟩⟩, ⟨by rw [ltCells_len, List.length_drop], fun _ => ⟨_, rfl, hlt, fun n u hu => ?_⟩⟩⟩
 ·rw [addr_add, Nat.zero_add]
  refine hcell n u ?_
  rw [← e1, List.getElem?_append_left (List.getElem?_eq_some_iff.1 hu).1]
  exact hu
 ·rw [addr_add]
  refine hcell _ u ?_
  rw [← e2, List.getElem?_append_right (by rw [l2]; omega), l2, show (j + 1) * 20 + n - (j + 1) * 20 = n by omega]
  exact hu
/-- A letter's cells. -/
theorem Th.letter (h : Th w W M tg r d R s bt lx k0 k gd gr v ls) {j : Nat} (hj : j < ls.length) : ∃ g c, v = .slice (some ⟨g, 0, none⟩) ls.length c ∧ ls.length ≤ c ∧ c ≤ maxLen ∧ g < W.heap.size ∧ W.rangeAt g (j * 20) (ltCell ls[j]) ∧ ∀ n u, (ls.flatMap ltCell)[n]? = some u → W.cell? ⟨g, n, none⟩ = some u := by
 obtain ⟨g, c, hv, hc, hlt, _, hcell⟩ := row_n h.un.row (by omega)
 refine ⟨g, c, hv, hc, ?_, hlt, fun n u hu => hcell _ _ ?_, hcell⟩
 ·have := h.un.row.2
  rcases this with ⟨h1, h2⟩ | ⟨g', cap, cur, h1, _, _, _, h3, _⟩
  ·omega
  ·rw [hv] at h1
   injection h1 with _ _ h1
   omega
 ·have hn : n < 20 := (List.getElem?_eq_some_iff.1 hu).1
  rw [flat_at ltCell 20 (fun _ => rfl) ls j n hj hn]
  exact hu
end
end Go.Proofs.YtdaceeijifjpeaaGreatDoor.Vi
end
section
namespace Go.Proofs.YtdaceeijifjpeaaGreatDoor.Vi
open Go.RowKit Base Mem Go.Shelf Tape
open Lead (VoteD VoteAt promiseS wonS accS medS termS newVote)
open Px (upd upd_same upd_ne)
theorem fit_ask {e : EntryD} (h : EntryOk e) : MFit (askM e) := ⟨⟨(entry_right h).2.1, by simp [askM], by simp [askM]⟩, (entry_right h).2.2, by simp [askM], by have := eok_ds8 (entry_eokW h); show e.ds.length ≤ _; omega, by show (0 : Int) ≤ _; decide⟩
end Go.Proofs.YtdaceeijifjpeaaGreatDoor.Vi
end
