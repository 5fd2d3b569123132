/- Contract of the tape's Log. -/
import Derived.Test.YtinnifhnabncfaaTape3
namespace Go.Proofs.Ytinnifhnabncfaa.Tape
open Go.RowKit Base Mem
def LogPost (b : Nat) (L : TapeL) (most : Int) (w : World) (e : Ending) (w' : World) : Prop := ∃ (v : Value) (l : List EntryD) (k' : Nat), e = .returned v ∧ (∀ en ∈ l, EntryOk en) ∧ (l.length : Int) ≤ most ∧
  (∀ M, (∀ g ∈ M, g < w.heap.size) → Ens w' M v l) ∧ TapeAt w' b L k' ∧ Keeps [b] w w'
theorem dsOwn_keep {w wr w' : World} {M : List Nat} {out : Value} {qs : List (EntryD × Value)} (h : DsOwn w wr out qs) (hk : Keeps M wr w') (hM : ∀ g ∈ M, g < w.heap.size) : DsOwn w w' out qs := fun q hq M' hM' =>
  ((h q hq (M ++ M') (by intro g hg; rcases List.mem_append.1 hg with h1 | h1; exact .inl (hM g h1); exact hM' g h1)).keep hk (fun _ hg => .inl (List.mem_append_left _ hg))).avoid (fun _ hg => .inl (List.mem_append_right _ hg))
set_option maxRecDepth 100000 in
theorem log_any (b : Nat) (L : TapeL) (k : Nat) (most : Int) (w : World) (h : TapeAt w b L k) (h1 : 0 ≤ most) (h2 : most ≤ 1000) :
    Calls Try.prog 28 #[.pointer (some ⟨b, 0, none⟩), .int .i64 most] w fun e w' => LogPost b L most w e w' := by
  have hbw := h.lt
  have H := Lib.hid h
  obtain ⟨i0, hi0, hz0, hz1, hz2⟩ := info_parts infoEntry
  have Hi0 := Lib.hid hi0; have Hz0 := Lib.hid hz0; have Hz1 := Lib.hid hz1; have Hz2 := Lib.hid hz2
  clear h hi0 hz0 hz1 hz2
  go_enter Try.func28, Try.ntmps28
  go_wp2_with fail
  refine (next_any b L k (most + 1) w H.out).mono ?_
  rintro e w1 ⟨v, k1, rfl, hv0, hv8, hT, hK⟩
  have hv9 := hv8 (by omega)
  have HT := Lib.hid hT; have HK := Lib.hid hK
  clear hv8 hT hK
  go_wp2
  go_loopw [5, 6] (fun out nn wr => ∃ (qs : List (EntryD × Value)) (r : Int) (k' : Nat), nn = .int .i64 r ∧ 0 ≤ r ∧ Hid (r + qs.length = v) ∧ qs.length ≤ 1000 ∧ r ≤ v ∧ Hid (∀ q ∈ qs, EntryOk q.1) ∧ Hid (wr.ownsRow w.heap.size 74 9 out qs.length (qs.flatMap eCell)) ∧ Hid (DsOwn w wr out qs) ∧ Hid (TapeAt wr b L k') ∧ Hid (Keeps [b] w wr))
    (fun _ nn _ => (intOf nn).toNat)
  case atStart => exact ⟨[], v, k1, rfl, by omega, (by show _ = _; simp), by simp, by omega, (show ∀ _, _ from by simp), World.ownsRow_nil _ _ _ _, (show DsOwn _ _ _ _ from by intro q hq; cases hq), HT.out, HK.out⟩
  case round =>
    obtain ⟨qs, r, k', rfl, hr0, Hrl, hq8, hrv, Hok, Hown, Hds, HTr, HKr⟩ := hrel
    by_cases hr : 0 < r
    · go_wp2_with fail
      refine (entry_any b L k' wr HTr.out).mono ?_
      rintro e w2 ⟨en, dv, k2, rfl, hok, hds, hT2, hK2⟩
      obtain ⟨Ad, cd, hdv, _⟩ := (hds [] (by simp)).len
      subst hdv
      have Hok2 := Lib.hid hok; have Hds2 := Lib.hid hds; have HT2 := Lib.hid hT2; have HK2 := Lib.hid hK2
      have Hown2 := Lib.hid ((own_keep Hown.out hK2 (by simp; omega)).alloc (.cells (eCell (en, .slice Ad en.ds.length cd)).toArray 74))
      clear hok hds hT2 hK2
      simp only [eCell]
      go_wp2_with (at_builtin; refine wpList_append_any _ rfl (.tmp 15) (.tmp 18) _ rfl w.heap.size 74 i0 _ 9 96 Try.underlying46 Hi0.out Hz0.out Hz1.out Hz2.out rfl (by omega) u5 qs.length (qs.flatMap eCell) rfl Hown2.out (w2.heap.size + 1) (some ⟨w2.heap.size, 0, none⟩) 1 1 (eCell (en, .slice Ad en.ds.length cd)) rfl (reads_new _ _ _ _ _ rfl) (by intro u hu; simp [eCell] at hu; rcases hu with rfl | rfl | rfl | rfl | rfl | rfl | rfl | rfl | rfl <;> rfl) (by unfold maxLen; omega) (by omega) (by have := HKr.out.size; have := HK2.out.size; simp; omega) ?_)
      intro v' w4 hown4 hg4 hat4
      have hlt0 := Hown.out.lt
      have hK5 : Keeps [b] w w4 := ((HKr.out.trans HK2.out (by simp)).alloc _).grown hg4 (fun g hg => .inr (hlt0 g hg).1)
      have hT5 : TapeAt w4 b L k2 := HT2.out.keep (M' := u5.ownBlock.toList) (((Keeps.refl _ _).alloc _).grown hg4 (fun g hg => .inl (by simpa using hg))) (by intro g hg; have := hlt0 g (by simpa using hg); omega)
      have hds5 : DsOwn w w4 v' (qs ++ [(en, .slice Ad en.ds.length cd)]) := by
        exact dsOwn_stepK Hds.out HK2.out (by simp; omega) (fun g hg => (hlt0 g hg).2) HKr.out.size Hds2.out hg4 hat4
      have hok4 : ∀ q ∈ qs ++ [(en, Value.slice Ad en.ds.length cd)], EntryOk q.1 := fun q hq => by
        rcases List.mem_append.1 hq with hq | hq
        · exact Hok.out q hq
        · simp at hq; subst hq; exact Hok2.out
      have Hok4 := Lib.hid hok4
      have hown5 : w4.ownsRow w.heap.size 74 9 v' (qs ++ [(en, Value.slice Ad en.ds.length cd)]).length ((qs ++ [(en, Value.slice Ad en.ds.length cd)]).flatMap eCell) := by
        rw [List.length_append, List.flatMap_append]
        simpa using hown4
      have Hown5 := Lib.hid hown5; have Hds5 := Lib.hid hds5; have HT5 := Lib.hid hT5; have HK5 := Lib.hid hK5
      have hr3 := Hrl.out
      have Hr3 : Hid (r - 1 + ((qs ++ [(en, Value.slice Ad en.ds.length cd)]).length : Int) = v) := by show _ = _; simp; omega
      have hq9 : (qs ++ [(en, Value.slice Ad en.ds.length cd)]).length ≤ 1000 := by simp; omega
      clear hown4 hg4 hat4 hlt0 hK5 hT5 hds5 hok4 hown5 hr3
      go_wp2
      go_roundw
      case rel => exact ⟨qs ++ [(en, .slice Ad en.ds.length cd)], r - 1, k2, rfl, by omega, Hr3, hq9, by omega, Hok4, Hown5, Hds5, HT5, HK5⟩
      case measure => simp [intOf]; omega
    · have hr0 : r = 0 := by omega
      subst hr0
      have hrl := Hrl.out
      have hpost : LogPost b L most w (.returned u5) wr :=
        ⟨u5, qs.map (·.1), k', rfl, by intro en hen; obtain ⟨q, hq, rfl⟩ := List.mem_map.1 hen; exact Hok.out q hq, by rw [List.length_map]; omega, fun M hM => ⟨qs, rfl, Rd.of_own Hown.out hM, fun p hp => Hds.out p hp M (fun g hg => .inl (hM g hg))⟩, HTr.out, HKr.out⟩
      clear hrl
      go_wp2
      go_ret
      exact hpost
end Go.Proofs.Ytinnifhnabncfaa.Tape
