/- Contracts of the tape's Series, N, Deltas. -/
import Derived.Test.YtinnifhnabncfaaDoorTape
namespace Go.Proofs.YtinnifhnabncfaaDoor.Tape
open Go.RowKit Base Mem
def nameL : List (List UInt8) := [[97, 61, 49], [97, 61, 50], [97, 61, 49, 44, 98, 61, 120], [106, 111, 98, 61, 97, 112, 105, 44, 122, 111, 110, 101, 61, 101, 117], [106, 111, 98, 61, 119, 101, 98], [107, 61, 118], [110, 61, 48], [97, 61, 51, 44, 99, 61, 57]]
/-- A series that there is. -/
def NameOk (s : ByteArray) : Prop := ∃ l ∈ nameL, s = ⟨l.toArray⟩
def DeltaOk (d : DeltaD) : Prop := NameOk d.ser ∧ 1 ≤ d.n ∧ d.n ≤ 18446744073709551615
theorem names_any (w : World) : Calls Tryd.prog 50 #[] w fun e w' => e = .returned (.slice (some ⟨w.heap.size, 0, none⟩) 8 8) ∧ Blk w' w.heap.size 9 (nameL.map fun l => Value.string ⟨l.toArray⟩).toArray ∧ Below w.heap.size w w' := by
  go_enter Tryd.func50, Tryd.ntmps50
  go_wp2
  go_ret
  exact ⟨rfl, Blk.new w _ _, below_new' _ _⟩
theorem name_at {w : World} {g j : Nat} (h : Blk w g 9 (nameL.map fun l => Value.string ⟨l.toArray⟩).toArray) (hj : j < 8) : ∃ s, w.cell? ⟨g, j, none⟩ = some (.string s) ∧ NameOk s := by
  have hl : j < nameL.length := hj
  refine ⟨⟨nameL[j].toArray⟩, ?_, nameL[j], List.getElem_mem hl, rfl⟩
  rw [h.cell, List.getElem?_toArray, List.getElem?_map, List.getElem?_eq_getElem hl]
  rfl
theorem series_any (b : Nat) (L : TapeL) (k : Nat) (w : World) (h : TapeAt w b L k) :
    Calls Tryd.prog 23 #[.pointer (some ⟨b, 0, none⟩)] w fun e w' => ∃ (s : ByteArray) (k' : Nat), e = .returned (.string s) ∧ NameOk s ∧ TapeAt w' b L k' ∧ Keeps [b] w w' := by
  have H := Lib.hid h
  obtain ⟨_, _, _, _, _, _, hlt, _⟩ := h.cells
  clear h
  go_enter Tryd.func23, Tryd.ntmps23
  go_wp2_with fail
  refine (names_any w).mono ?_
  rintro e w1 ⟨rfl, hb1, hbel⟩
  have hT := H.out.keep (Keeps.of_below (M := []) hbel) (by simp)
  have Hb1 := Lib.hid hb1; have Hbel := Lib.hid hbel; have HT := Lib.hid hT
  clear hb1 hbel hT
  go_wp2_with fail
  refine (next_any b L k 8 w1 HT.out).mono ?_
  rintro e w2 ⟨v, k', rfl, hv0, hv8, hT2, hK2⟩
  obtain ⟨j, rfl⟩ := Int.eq_ofNat_of_zero_le hv0
  have hj8 : (j : Int) < 8 := hv8 (by omega)
  obtain ⟨s, hs, hok⟩ := name_at (hK2.blk Hb1.out (by simp; omega)) (show j < 8 by omega)
  have HT2 := Lib.hid hT2; have HK := Lib.hid ((Keeps.of_below (M := [b]) Hbel.out).trans hK2 (by simp))
  have Hok := Lib.hid hok
  clear hv8 hT2 hK2 hok
  go_wp2
  go_ret
  exact ⟨s, k', rfl, Hok.out, HT2.out, HK.out⟩
theorem n_any (b : Nat) (L : TapeL) (k : Nat) (w : World) (h : TapeAt w b L k) :
    Calls Tryd.prog 35 #[.pointer (some ⟨b, 0, none⟩)] w fun e w' => ∃ (n : Int) (k' : Nat), e = .returned (.int .u64 n) ∧ (1 ≤ n ∧ n ≤ 18446744073709551615) ∧ TapeAt w' b L k' ∧ Keeps [b] w w' := by
  have H := Lib.hid h
  clear h
  go_enter Tryd.func35, Tryd.ntmps35
  go_wp2_with fail
  refine (next_any b L k 12 w H.out).mono ?_
  rintro e w1 ⟨v, k', rfl, hv0, hv8, hT, hK⟩
  have hv12 := hv8 (by omega)
  have HT := Lib.hid hT; have HK := Lib.hid hK
  clear hv8 hT hK
  by_cases c0 : v = 0
  · subst c0
    go_wp2
    go_ret
    exact ⟨_, _, rfl, ⟨by omega, by omega⟩, HT.out, HK.out⟩
  · by_cases c1 : v = 1
    · subst c1
      go_wp2
      go_ret
      exact ⟨_, _, rfl, ⟨by omega, by omega⟩, HT.out, HK.out⟩
    · by_cases c2 : v = 2
      · subst c2
        go_wp2_with fail
        refine (next_any b L k' 1073741824 w1 HT.out).mono ?_
        rintro e w2 ⟨x, k2, rfl, hx0, hx1, hT2, hK2⟩
        have hx2 := hx1 (by omega)
        have HT2 := Lib.hid hT2; have HK2 := Lib.hid (HK.out.trans hK2 (by simp))
        clear hx1 hT2 hK2
        go_wp2
        go_ret
        exact ⟨_, _, rfl, ⟨by omega, by omega⟩, HT2.out, HK2.out⟩
      · have d0 : (v == 0) = false := by simpa using c0
        have d1 : (v == 1) = false := by simpa using c1
        have d2 : (v == 2) = false := by simpa using c2
        clear c0 c1 c2
        go_wp2_with fail
        refine (next_any b L k' 50 w1 HT.out).mono ?_
        rintro e w2 ⟨x, k2, rfl, hx0, hx1, hT2, hK2⟩
        have hx2 := hx1 (by omega)
        have HT2 := Lib.hid hT2; have HK2 := Lib.hid (HK.out.trans hK2 (by simp))
        clear hx1 hT2 hK2
        go_wp2
        go_ret
        exact ⟨_, _, rfl, ⟨by omega, by omega⟩, HT2.out, HK2.out⟩
theorem infoDelta' : (Tryd.prog.info? 44).map (fun i => (i.zero, i.size, i.bytes)) = some (some (.agg #[.string ByteArray.empty, .int .u64 0]), 2, 24) := by kernel_rfl
def DeltasPost (b : Nat) (L : TapeL) (most : Int) (w : World) (e : Ending) (w' : World) : Prop := ∃ (v : Value) (ds : List DeltaD) (k' : Nat), e = .returned v ∧ (∀ d ∈ ds, DeltaOk d) ∧ 1 ≤ ds.length ∧ (ds.length : Int) ≤ most ∧
      w'.ownsRow w.heap.size 44 2 v ds.length (dCells ds) ∧ TapeAt w' b L k' ∧ Keeps [b] w w'
set_option maxRecDepth 100000 in
theorem deltas_any (b : Nat) (L : TapeL) (k : Nat) (most : Int) (w : World) (h : TapeAt w b L k) (h1 : 1 ≤ most) (h2 : most ≤ 1000) :
    Calls Tryd.prog 13 #[.pointer (some ⟨b, 0, none⟩), .int .i64 most] w fun e w' => DeltasPost b L most w e w' := by
  obtain ⟨_, _, _, _, _, _, hbw, _⟩ := h.cells
  have H := Lib.hid h
  obtain ⟨i0, hi0, hz0, hz1, hz2⟩ := info_parts infoDelta'
  have Hi0 := Lib.hid hi0; have Hz0 := Lib.hid hz0; have Hz1 := Lib.hid hz1; have Hz2 := Lib.hid hz2
  clear h hi0 hz0 hz1 hz2
  go_enter Tryd.func13, Tryd.ntmps13
  go_wp2_with fail
  refine (next_any b L k most w H.out).mono ?_
  rintro e w1 ⟨v, k1, rfl, hv0, hv8, hT, hK⟩
  have hv9 := hv8 h1
  have HT := Lib.hid hT; have HK := Lib.hid hK
  clear hv8 hT hK
  go_wp2
  go_loopw [5, 6] (fun out nn wr => ∃ (ds : List DeltaD) (r : Int) (k' : Nat), nn = .int .i64 r ∧ 0 ≤ r ∧ r + ds.length = 1 + v ∧ Hid (∀ d ∈ ds, DeltaOk d) ∧ Hid (wr.ownsRow w.heap.size 44 2 out ds.length (dCells ds)) ∧ Hid (TapeAt wr b L k') ∧ Hid (Keeps [b] w wr))
    (fun _ nn _ => (intOf nn).toNat)
  case atStart => exact ⟨[], 1 + v, k1, rfl, by omega, by simp, (show ∀ _, _ from by simp), World.ownsRow_nil _ _ _ _, HT.out, HK.out⟩
  case round =>
    obtain ⟨ds, r, k', rfl, hr0, hrl, Hok, Hown, HTr, HKr⟩ := hrel
    have Hrl := Lib.hid hrl
    have hr1 : r ≤ 1 + v := by omega
    clear hrl
    by_cases hr : 0 < r
    · go_wp2_with fail
      refine (series_any b L k' wr HTr.out).mono ?_
      rintro e w2 ⟨s, k2, rfl, hs, hT2, hK2⟩
      have Hs := Lib.hid hs; have HT2 := Lib.hid hT2; have HK2 := Lib.hid hK2
      clear hs hT2 hK2
      go_wp2_with fail
      refine (n_any b L k2 w2 HT2.out).mono ?_
      rintro e w3 ⟨n, k3, rfl, hn, hT3, hK3⟩
      have Hn := Lib.hid hn; have HT3 := Lib.hid hT3
      have hK4 := HK2.out.trans hK3 (by simp)
      have HK4 := Lib.hid hK4
      have hown3 : w3.ownsRow w.heap.size 44 2 u5 ds.length (dCells ds) := own_keep Hown.out hK4 (by simp; omega)
      have Hown3 := Lib.hid (hown3.alloc (.cells #[.string s, .int .u64 n] 44))
      have hds : ds.length ≤ 1000 := by have := Hrl.out; omega
      clear hn hT3 hK3 hK4 hown3
      go_wp2_with (at_builtin; refine wpList_append_any _ rfl (.tmp 15) (.tmp 21) _ rfl w.heap.size 44 i0 _ 2 24 Tryd.underlying25 Hi0.out Hz0.out Hz1.out Hz2.out rfl (by omega) u5 ds.length (dCells ds) rfl Hown3.out (w3.heap.size + 1) (some ⟨w3.heap.size, 0, none⟩) 1 1 (dCell ⟨s, n⟩) rfl (reads_new _ _ _ _ _ rfl) (by intro u hu; simp [dCell] at hu; rcases hu with rfl | rfl <;> rfl) (by unfold maxLen; omega) (by omega) (by have := HKr.out.size; have := HK4.out.size; simp; omega) ?_)
      intro v' w4 hown4 hg4 hat4
      have hlt0 := Hown.out.lt
      have hK5 : Keeps [b] w w4 := ((HKr.out.trans HK4.out (by simp)).alloc _).grown hg4 (fun g hg => .inr (hlt0 g hg).1)
      have hT5 : TapeAt w4 b L k3 := HT3.out.keep (M' := u5.ownBlock.toList) (((Keeps.refl _ _).alloc _).grown hg4 (fun g hg => .inl (by simpa using hg))) (by intro g hg; have := hlt0 g (by simpa using hg); omega)
      have hok4 : ∀ d ∈ ds ++ [(⟨s, n⟩ : DeltaD)], DeltaOk d := fun d hd => by
        rcases List.mem_append.1 hd with hd | hd
        · exact Hok.out d hd
        · simp at hd; subst hd; exact ⟨Hs.out, Hn.out⟩
      have Hok4 := Lib.hid hok4
      clear hok4
      have Hown4 : Hid (w4.ownsRow w.heap.size 44 2 v' (ds ++ [(⟨s, n⟩ : DeltaD)]).length (dCells (ds ++ [(⟨s, n⟩ : DeltaD)]))) := by
        show World.ownsRow _ _ _ _ _ _ _
        rw [List.length_append]
        unfold dCells at hown4 ⊢
        rw [List.flatMap_append]
        simpa using hown4
      have HT5 := Lib.hid hT5; have HK5 := Lib.hid hK5
      clear hown4 hg4 hat4 hlt0 hK5 hT5
      go_wp2
      go_roundw
      case rel => exact ⟨ds ++ [(⟨s, n⟩ : DeltaD)], r - 1, k3, rfl, by omega, by have := Hrl.out; simp; omega, Hok4, Hown4, HT5, HK5⟩
      case measure => simp [intOf]; omega
    · have hr0 : r = 0 := by omega
      subst hr0
      have hpost : DeltasPost b L most w (.returned u5) wr := ⟨u5, ds, k', rfl, Hok.out, by have := Hrl.out; omega, by have := Hrl.out; omega, Hown.out, HTr.out, HKr.out⟩
      go_wp2
      go_ret
      exact hpost
end Go.Proofs.YtinnifhnabncfaaDoor.Tape
