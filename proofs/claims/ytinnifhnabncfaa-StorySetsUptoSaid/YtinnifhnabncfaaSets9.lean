/- story.Union at idents. -/
import Derived.Test.YtinnifhnabncfaaSets8
namespace Go.Proofs.Ytinnifhnabncfaa.Sets
open Go.RowKit Base Mem Go.Shelf Go.Lib Go.Sort
/-- What a union answers: a row of its own, of each once, in order. -/
def UniPost (l : List IdentD) (w : World) (e : Ending) (w' : World) : Prop := ∃ v, e = .returned v ∧ (∀ M, (∀ g ∈ M, g < w.heap.size) → Ids w' M v (uni l)) ∧ Below w.heap.size w w'
theorem ids_of_blk {w : World} {g : Nat} {l : List IdentD} {rest : List Value} {M : List Nat} (h : Blk w g 58 (l.flatMap iEnc ++ rest).toArray) (hg : g ∉ M) : Ids w M (.slice (some ⟨g, 0, none⟩) l.length l.length) l :=
  ⟨_, _, rfl, Nat.le_refl _, iCells_len l, fun _ => ⟨g, 0, rfl, h.lt, hg, fun j u hu => by
    rw [Nat.zero_add, h.cell, List.getElem?_toArray, List.getElem?_append_left (List.getElem?_eq_some_iff.1 hu).1]; exact hu⟩⟩
theorem compact_short (A : Option Addr) (n cap : Nat) (w : World) (h : n < 2) :
    Calls Try.prog 58 #[.slice A n cap] w fun e w' => e = .returned (.slice A n cap) ∧ w = w' := by
  go_enter Try.func58, Try.ntmps58
  go_wp2
  go_ret
  exact ⟨rfl, rfl⟩
/-- A row of the call's own that has something: a block. -/
theorem own_blk {w : World} {base : Nat} {v : Value} {l : List IdentD} (h : w.ownsRow base 58 3 v l.length (l.flatMap iEnc)) (h0 : 0 < l.length) :
    ∃ g cap rest, v = .slice (some ⟨g, 0, none⟩) l.length cap ∧ base ≤ g ∧ l.length ≤ cap ∧ cap ≤ maxLen ∧ Blk w g 58 (l.flatMap iEnc ++ rest).toArray := by
  obtain ⟨_, h⟩ := h
  rcases h with ⟨_, hn⟩ | ⟨g, cap, cur, rfl, hb, hg, hnc, hcm, _, htk⟩
  · omega
  · refine ⟨g, cap, cur.toList.drop (l.length * 3), rfl, hb, hnc, hcm, ?_⟩
    rw [← htk, List.take_append_drop]
    exact hg
theorem own_none {w : World} {base : Nat} {v : Value} {xs : List Value} (h : w.ownsRow base 58 3 v 0 xs) : ∃ A cap, v = .slice A 0 cap := by
  obtain ⟨_, h⟩ := h
  rcases h with ⟨rfl, _⟩ | ⟨g, cap, cur, rfl, _⟩
  · exact ⟨_, _, rfl⟩
  · exact ⟨_, _, rfl⟩
def SortPost (g cap : Nat) (d : List IdentD) (rest : List Value) (w : World) (e : Ending) (w' : World) : Prop :=
  e = .returned (.tuple #[]) ∧ Blk w' g 58 ((d.mergeSort le).flatMap iEnc ++ rest).toArray ∧ Keeps [g] w w'
theorem sort_blk (g cap : Nat) (d : List IdentD) (rest : List Value) (w : World) (h : Blk w g 58 (d.flatMap iEnc ++ rest).toArray) (hd : d.length < 4611686018427387904) :
    Calls Try.prog 55 #[.slice (some ⟨g, 0, none⟩) d.length cap, .func (.func 56) #[] #[]] w (SortPost g cap d rest w) := by
  have hs := sort_any g 0 cap d.toArray w (blk_holds h) h.lt (by simpa using hd)
  rw [List.size_toArray] at hs
  refine hs.mono ?_
  rintro e w' ⟨rfl, n, os, rfl⟩
  refine ⟨rfl, blk_sorted h (List.length_mergeSort _) n os, keeps_sorted w g n _ os⟩
set_option maxRecDepth 100000 in
theorem union_any (va vb : Value) (la lb : List IdentD) (w : World) (ha : Ids w [] va la) (hb : Ids w [] vb lb) (hla : la.length ≤ 1048576) (hlb : lb.length ≤ 1048576) :
    Calls Try.prog 33 #[va, vb] w fun e w' => UniPost (la ++ lb) w e w' := by
  have hk : Keeps [] w (w.alloc (.cells #[va, vb] 54)) := (Keeps.refl _ _).alloc _
  have hcon := concat_any w.heap.size va vb la lb (w.alloc (.cells #[va, vb] 54)) (ha.keep hk (by simp)) (hb.keep hk (by simp)) hla hlb (by simp) ((Blk.new w _ _).cell 0) ((Blk.new w _ _).cell 1)
  have Hcon := Lib.hid hcon
  obtain ⟨Aa, ca, rfl, hca⟩ := ha.len
  obtain ⟨Ab, cb, rfl, hcb⟩ := hb.len
  clear ha hb hk hcon
  have hnone := fun A cap W => AnyF.slices_SortFunc_none Try.sortIdent A cap (.func (.func 56) #[] #[]) W
  have Hnone := Lib.hid hnone
  clear hnone
  go_enter Try.func33, Try.ntmps33
  go_wp2_with fail
  refine Hcon.out.mono ?_
  rintro e w1 ⟨v, rfl, hown, hb1⟩
  have hd : la.length + lb.length = (la ++ lb).length := by simp
  rw [hd] at hown
  generalize hl : la ++ lb = l at *
  have hlen : l.length ≤ 2097152 := by omega
  have Hb1 := Lib.hid (below_then ((Below.refl _ _).alloc (Nat.le_refl _) _) hb1)
  have Hown := Lib.hid hown
  have Hl := Lib.hid hl
  clear hown hb1 hl hd Hcon
  rcases Nat.eq_zero_or_pos l.length with h0 | h0
  · obtain rfl : l = [] := List.length_eq_zero_iff.1 h0
    obtain ⟨A, cap, rfl⟩ := own_none Hown.out
    go_wp2_with fail
    refine (Hnone.out A cap _).mono ?_
    rintro e w' ⟨rfl, rfl⟩
    go_wp2_with fail
    refine (compact_short A 0 cap _ (by omega)).mono ?_
    rintro e w' ⟨rfl, rfl⟩
    go_wp2_with fail
    refine (clipIdent A 0 cap _ (by omega)).mono ?_
    rintro e w' ⟨rfl, rfl⟩
    have hp : Hid (UniPost (la ++ lb) w (.returned (.slice A 0 0)) w') := by
      show UniPost _ _ _ _
      rw [Hl.out]
      have hu : uni [] = [] := by simp [uni, ded]
      refine ⟨_, rfl, fun M _ => ?_, Hb1.out⟩
      rw [hu]
      exact ⟨A, 0, rfl, Nat.le_refl _, rfl, fun h => absurd h (by simp)⟩
    go_wp2
    go_ret
    exact hp.out
  · obtain ⟨g, cap, rest, rfl, hg, hcap, hcm, hB⟩ := own_blk Hown.out h0
    have HB := Lib.hid hB
    have Hg := Lib.hid (show w.heap.size < g by simp at hg; omega)
    clear hB hg
    have hcm' : cap ≤ 9223372036854775807 := by unfold maxLen at hcm; omega
    go_wp2_with fail
    refine (sort_blk g cap l rest _ HB.out (by omega)).mono ?_
    rintro e w2 ⟨rfl, hB2, hk2⟩
    have HB2 := Lib.hid hB2; have Hk2 := Lib.hid hk2
    clear hB2 hk2
    generalize hs : l.mergeSort le = s at HB2
    have Hsl := Lib.hid (show s.length = l.length by rw [← hs]; exact List.length_mergeSort _)
    have Hs := Lib.hid hs
    clear hs
    have hc : Calls Try.prog 58 #[.slice (some ⟨g, 0, none⟩) l.length cap] w2 fun e w' => CompPost g cap s w2 e w' := by
      have := compact_any g cap s rest w2 HB2.out (by rw [Hsl.out]; exact hlen) (by rw [Hsl.out]; exact hcap) hcm'
      rwa [Hsl.out] at this
    have Hc := Lib.hid hc
    clear hc
    go_wp2_with fail
    refine Hc.out.mono ?_
    rintro e w3 ⟨rfl, ⟨rest3, hB3⟩, hk3⟩
    have HB3 := Lib.hid hB3; have Hk3 := Lib.hid hk3
    clear hB3 hk3
    have hle : (ded s).length ≤ cap := by have := ded_le s; rw [Hsl.out] at this; omega
    generalize hds : ded s = ds at *
    have Hds := Lib.hid hds
    clear hds
    go_wp2_with fail
    refine (clipIdent _ _ cap _ hle).mono ?_
    rintro e w' ⟨rfl, rfl⟩
    have hp : Hid (UniPost (la ++ lb) w (.returned (.slice (some ⟨g, 0, none⟩) ds.length ds.length)) w3) := by
      show UniPost _ _ _ _
      have hu : uni (la ++ lb) = ds := by rw [Hl.out, ← Hds.out, ← Hs.out]; rfl
      refine ⟨_, rfl, fun M hM => ?_, ?_⟩
      · rw [hu]
        exact ids_of_blk HB3.out (fun hm => by have := hM _ hm; have := Hg.out; omega)
      · have hk13 : Keeps [g] w1 w3 := Hk2.out.trans Hk3.out (by simp)
        exact Hb1.out.trans (hk13.belowB Hb1.out.size (by intro g' hg'; simp at hg'; subst hg'; have := Hg.out; omega))
    go_wp2
    go_ret
    exact hp.out
end Go.Proofs.Ytinnifhnabncfaa.Sets
