/- slices.SortStableFunc at labels (fewer than twenty); label.sorted. -/
import Derived.Test.YtinnifhnabncfaaDoorLab2
import Derived.Test.YtinnifhnabncfaaDoorRowK
namespace Go.Proofs.YtinnifhnabncfaaDoor.Vi
open Go.RowKit Base Mem Go.Sort Go.Shelf
/-- v reads as these labels. -/
def Labs (w : World) (M : List Nat) (v : Value) (l : List LabD) : Prop := Rd w M 2 v l.length (l.flatMap labEnc)
theorem Labs.keep {w w' : World} {M M' : List Nat} {v : Value} {l : List LabD} (h : Labs w M v l) (k : Keeps M' w w') (hM : ∀ g ∈ M', g ∈ M ∨ w.heap.size ≤ g) : Labs w' M v l := Rd.keep h k hM
theorem Labs.len {w : World} {M : List Nat} {v : Value} {l : List LabD} (h : Labs w M v l) : ∃ A c, v = .slice A l.length c ∧ l.length ≤ c := by
  obtain ⟨A, c, rfl, hc, _⟩ := h
  exact ⟨A, c, rfl, hc⟩
theorem size_insInner (lt : LabD → LabD → Bool) (a : Nat) : ∀ (j : Nat) (d : Array LabD), (insInner lt a j d).size = d.size
  | 0, _ => rfl
  | j + 1, d => by
    unfold insInner
    split
    · rw [size_insInner lt a j]; simp [swp]
    · rfl
theorem size_insOuter (lt : LabD → LabD → Bool) (a b : Nat) : ∀ (n i : Nat) (d : Array LabD), b - i = n → (insOuter lt a b i d).size = d.size
  | 0, i, d, h => by unfold insOuter; rw [if_neg (by omega)]
  | n + 1, i, d, h => by
    unfold insOuter
    rw [if_pos (by omega), size_insOuter lt a b n (i + 1) _ (by omega), size_insInner]
theorem sortL_len (l : List LabD) : (sortL l).length = l.length := by
  unfold sortL insertionSort
  rw [Array.length_toList, size_insOuter _ _ _ _ _ _ rfl]
  simp
/-- What a sort of a row leaves. -/
def SoPost (g : Nat) (l : List LabD) (rest : List Value) (w : World) (e : Ending) (w' : World) : Prop :=
  e = .returned (.tuple #[]) ∧ Blk w' g 97 ((sortL l).flatMap labEnc ++ rest).toArray ∧ Keeps [g] w w'
theorem ins_blk (g cap : Nat) (l : List LabD) (rest : List Value) (w : World) (h : Blk w g 97 (l.flatMap labEnc ++ rest).toArray) (hsz : l.length < 4611686018427387904) :
    Calls Tryd.prog 105 #[.slice (some ⟨g, 0, none⟩) l.length cap, .int .i64 0, .int .i64 l.length, .func (.func 84) #[] #[]] w fun e w' => SoPost g l rest w e w' := by
  refine (ins_any g 0 cap l w (RowsK.blk_holds labEnc 2 (fun _ => rfl) (by omega) h) h.lt hsz).mono ?_
  rintro e w' ⟨rfl, n, os, rfl⟩
  exact ⟨rfl, RowsK.blk_sorted labEnc 2 (fun _ => rfl) (by omega) h (sortL_len l) n os, RowsK.keeps_sorted labEnc 2 w g n _ os⟩
set_option maxRecDepth 100000 in
theorem stable_any (g cap : Nat) (l : List LabD) (rest : List Value) (w : World) (h : Blk w g 97 (l.flatMap labEnc ++ rest).toArray) (hsz : l.length < 20) :
    Calls Tryd.prog 83 #[.slice (some ⟨g, 0, none⟩) l.length cap, .func (.func 84) #[] #[]] w fun e w' => SoPost g l rest w e w' := by
  have hi := Lib.hid (ins_blk g cap l rest w h (by omega))
  have hst : Hid (Calls Tryd.prog 98 #[.slice (some ⟨g, 0, none⟩) l.length cap, .int .i64 l.length, .func (.func 84) #[] #[]] w fun e w' => SoPost g l rest w e w') := by
    show Calls _ _ _ _ _
    have h1 : decide ((20 : Int) ≤ (l.length : Int)) = false := decide_eq_false (by omega)
    have h2 : decide ((20 : Int) < (l.length : Int)) = false := decide_eq_false (by omega)
    have h1' : ¬ (20 : Int) ≤ (l.length : Int) := by omega
    have h2' : ¬ (20 : Int) < (l.length : Int) := by omega
    clear h
    go_enter Tryd.func98, Tryd.ntmps98
    go_wp2_with fail
    go_loopw [7, 8] (fun a i wr => a = .int .i64 0 ∧ i = .int .i64 20 ∧ Hid (wr = w)) (fun _ i _ => 0)
    case atStart => exact ⟨rfl, rfl, rfl⟩
    case round =>
      obtain ⟨rfl, rfl, hww⟩ := hrel
      obtain rfl := hww.out
      go_wp2_with fail
      refine hi.out.mono ?_
      rintro e w' hp
      obtain ⟨rfl, hb, hk⟩ := id hp
      have Hp := Lib.hid hp
      clear hp hb hk
      go_wp2_with fail
      go_loopw [6] (fun i wr => i = .int .i64 20 ∧ Hid (wr = w')) (fun i _ => 0)
      case atStart => exact ⟨rfl, rfl⟩
      case round =>
        obtain ⟨rfl, hww⟩ := hrel
        obtain rfl := hww.out
        go_wp2
        go_end0
        exact Hp.out
  clear hi h
  go_enter Tryd.func83, Tryd.ntmps83
  go_wp2_with fail
  refine hst.out.mono ?_
  rintro e w' hp
  obtain ⟨rfl, hb, hk⟩ := id hp
  have Hp := Lib.hid hp
  clear hp hb hk
  go_wp2
  go_end0
  exact Hp.out
theorem ins_none (A : Option Addr) (cap : Nat) (w : World) :
    Calls Tryd.prog 83 #[.slice A 0 cap, .func (.func 84) #[] #[]] w fun e w' => e = .returned (.tuple #[]) ∧ w = w' := by
  have hi : Hid (∀ W, Calls Tryd.prog 105 #[.slice A 0 cap, .int .i64 0, .int .i64 0, .func (.func 84) #[] #[]] W fun e w' => e = .returned (.tuple #[]) ∧ W = w') := by
    show ∀ _, _
    intro W
    go_enter Tryd.func105, Tryd.ntmps105
    go_wp2_with fail
    go_loopw [8] (fun i wr => i = .int .i64 1 ∧ Hid (W = wr)) (fun i _ => 0)
    case atStart => exact ⟨rfl, rfl⟩
    case round =>
      obtain ⟨rfl, hww⟩ := hrel
      have Hw := hww
      go_wp2
      go_end0
      exact ⟨rfl, Hw.out⟩
  have hst : Hid (Calls Tryd.prog 98 #[.slice A 0 cap, .int .i64 0, .func (.func 84) #[] #[]] w fun e w' => e = .returned (.tuple #[]) ∧ w = w') := by
    show Calls _ _ _ _ _
    go_enter Tryd.func98, Tryd.ntmps98
    go_wp2_with fail
    go_loopw [7, 8] (fun a i wr => a = .int .i64 0 ∧ i = .int .i64 20 ∧ Hid (w = wr)) (fun _ i _ => 0)
    case atStart => exact ⟨rfl, rfl, rfl⟩
    case round =>
      obtain ⟨rfl, rfl, hww⟩ := hrel
      go_wp2_with fail
      refine (hi.out _).mono ?_
      rintro e w' ⟨rfl, rfl⟩
      go_wp2_with fail
      go_loopw [6] (fun i w2 => i = .int .i64 20 ∧ Hid (w = w2)) (fun i _ => 0)
      case atStart => exact ⟨rfl, hww.out⟩
      case round =>
        obtain ⟨rfl, hw2⟩ := hrel
        go_wp2
        go_end0
        exact ⟨rfl, hw2.out⟩
  clear hi
  go_enter Tryd.func83, Tryd.ntmps83
  go_wp2_with fail
  refine hst.out.mono ?_
  rintro e w' ⟨rfl, rfl⟩
  go_wp2
  go_end0
  exact ⟨rfl, rfl⟩
/-- What a call answers that makes labels. -/
def LabPost (l : List LabD) (w : World) (e : Ending) (w' : World) : Prop := ∃ A, e = .returned (.slice A l.length l.length) ∧ (∀ M, (∀ g ∈ M, g < w.heap.size) → Labs w' M (.slice A l.length l.length) l) ∧ Below w.heap.size w w'
theorem labEnc_one (l : List LabD) : ∀ u ∈ l.flatMap labEnc, u.oneCell' = true := by
  intro u hu
  obtain ⟨d, _, hd⟩ := List.mem_flatMap.1 hu
  simp [labEnc] at hd
  rcases hd with rfl | rfl <;> rfl
theorem sorted_any (v : Value) (l : List LabD) (w : World) (h : Labs w [] v l) (hl : l.length < 20) :
    Calls Tryd.prog 72 #[v] w fun e w' => LabPost (sortL l) w e w' := by
  have hc := Lib.hid (cloneLabel [] v l.length (l.flatMap labEnc) w h (labEnc_one l) (by omega))
  obtain ⟨A, c, rfl, hc2⟩ := h.len
  have Hnone := Lib.hid (fun A cap W => ins_none A cap W)
  clear h
  go_enter Tryd.func72, Tryd.ntmps72
  go_wp2_with fail
  refine hc.out.mono ?_
  rintro e w1 ⟨v1, rfl, hown, hb⟩
  have Hown := Lib.hid hown; have Hb := Lib.hid hb
  clear hown hb hc
  rcases Nat.eq_zero_or_pos l.length with h0 | h0
  · obtain rfl : l = [] := List.length_eq_zero_iff.1 h0
    obtain ⟨A1, c1, rfl⟩ : ∃ A c, v1 = .slice A 0 c := by
      obtain ⟨_, h⟩ := Hown.out
      rcases h with ⟨rfl, _⟩ | ⟨g, cap, cur, rfl, _⟩
      · exact ⟨_, _, rfl⟩
      · exact ⟨_, _, rfl⟩
    go_wp2_with fail
    refine (Hnone.out A1 c1 _).mono ?_
    rintro e w' ⟨rfl, rfl⟩
    go_wp2_with fail
    refine (clipLabel A1 0 c1 _ (by omega)).mono ?_
    rintro e w' ⟨rfl, rfl⟩
    have hs0 : sortL [] = [] := List.length_eq_zero_iff.1 (sortL_len [])
    have hp : Hid (LabPost (sortL []) w (.returned (.slice A1 0 0)) w1) := by
      show LabPost _ _ _ _
      rw [hs0]
      exact ⟨A1, rfl, fun M _ => ⟨A1, 0, rfl, Nat.le_refl _, rfl, fun h => absurd h (by simp)⟩, Hb.out⟩
    clear hs0
    go_wp2
    go_ret
    exact hp.out
  · obtain ⟨g, cap, rest, rfl, hg, hcap, hcm, hB⟩ := RowsK.own_blk labEnc 2 (fun _ => rfl) Hown.out h0
    have Hg := Lib.hid hg
    have hso := Lib.hid (stable_any g cap l rest w1 hB hl)
    clear hB hg
    go_wp2_with fail
    refine hso.out.mono ?_
    rintro e w2 ⟨rfl, hB2, hk2⟩
    have hp : Hid (LabPost (sortL l) w (.returned (.slice (some ⟨g, 0, none⟩) l.length l.length)) w2) := by
      refine ⟨some ⟨g, 0, none⟩, by rw [sortL_len], fun M hM => ?_, Hb.out.trans (hk2.belowB Hb.out.size (by intro x hx; simp at hx; subst hx; exact Hg.out))⟩
      exact RowsK.rd_of_blk labEnc 2 (fun _ => rfl) hB2 (fun hm => by have := hM _ hm; have := Hg.out; omega)
    clear hB2 hk2 hso
    go_wp2_with fail
    refine (clipLabel _ l.length cap _ hcap).mono ?_
    rintro e w' ⟨rfl, rfl⟩
    go_wp2
    go_ret
    exact hp.out
end Go.Proofs.YtinnifhnabncfaaDoor.Vi
