/- Contract of entry.Deltas. -/
import Derived.Test.YtinnifhnabncfaaDoorEnt9
import Derived.Test.YtinnifhnabncfaaDoorEntA
namespace Go.Proofs.YtinnifhnabncfaaDoor.Vi
open Go.RowKit Base Mem Go.Shelf
def ixD (acc : List DeltaD) (s : ByteArray) : Int := Lib.idxBy (fun _ (y : DeltaD) => y.ser.toList == s.toList) acc default
def addD (acc : List DeltaD) (d : DeltaD) : List DeltaD :=
  if ixD acc d.ser < 0 then acc ++ [d] else acc.set (ixD acc d.ser).toNat ⟨acc[(ixD acc d.ser).toNat]!.ser, (addS acc[(ixD acc d.ser).toNat]!.n.toNat d.n.toNat : Nat)⟩
def joinD (l : List DeltaD) : List DeltaD := l.foldl addD []
theorem idx_cases {α : Type} [Inhabited α] (eq : α → α → Bool) (x : α) : ∀ (zs : List α) (i : Nat), (Lib.idxByFrom eq x zs i = -1 ∧ ∀ y ∈ zs, eq x y = false) ∨ ∃ k, k < zs.length ∧ Lib.idxByFrom eq x zs i = ((i + k : Nat) : Int) ∧ eq x zs[k]! = true
  | [], _ => .inl ⟨rfl, by simp⟩
  | y :: r, i => by
    unfold Lib.idxByFrom
    cases hy : eq x y with
    | true => exact .inr ⟨0, by simp, by simp, by simpa using hy⟩
    | false =>
      rw [if_neg (by simp)]
      rcases idx_cases eq x r (i + 1) with ⟨h1, h2⟩ | ⟨k, h1, h2, h3⟩
      · exact .inl ⟨h1, fun z hz => by rcases List.mem_cons.1 hz with rfl | hz; exact hy; exact h2 z hz⟩
      · exact .inr ⟨k + 1, by simpa using h1, by rw [h2]; congr 1; omega, by simpa using h3⟩
theorem ixD_cases (acc : List DeltaD) (s : ByteArray) : (ixD acc s = -1 ∧ ∀ y ∈ acc, (y.ser.toList == s.toList) = false) ∨ ∃ k, ∃ h : k < acc.length, ixD acc s = k ∧ (acc[k].ser.toList == s.toList) = true := by
  rcases idx_cases (fun _ (y : DeltaD) => y.ser.toList == s.toList) default acc 0 with h | ⟨k, h1, h2, h3⟩
  · exact .inl h
  · exact .inr ⟨k, h1, by unfold ixD Lib.idxBy; rw [h2]; simp, by rwa [getElem!_pos acc k h1] at h3⟩
theorem ix_any (v : Value) (l : List DeltaD) (B : Nat) (s : ByteArray) (w : World) (h : Ds w [] v l) (hl : l.length ≤ 4611686018427387904) (hB : B < w.heap.size) (hc : w.cell? ⟨B, 0, none⟩ = some (.string s)) :
    Calls Tryd.prog 36 #[v, .func (.func 37) #[] #[.pointer (some ⟨B, 0, none⟩)]] w fun r w' => r = .returned (.int .i64 (ixD l s)) ∧ Below w.heap.size w w' := by
  by_cases h0 : 0 < l.length
  · exact index_any v l B s w h h0 hl hB hc
  · obtain rfl : l = [] := List.length_eq_zero_iff.1 (by omega)
    obtain ⟨A, c, rfl, hc2⟩ := h.len
    exact indexf_nil A c _ _ w
theorem own_set {w : World} {base : Nat} {e : TypeId} {size n : Nat} {g cap : Nat} {xs : List Value} (h : w.ownsRow base e size (.slice (some ⟨g, 0, none⟩) n cap) n xs) (i : Nat) (u : Value) (hi : i < n * size) :
    (w.setCell ⟨g, i, none⟩ u).ownsRow base e size (.slice (some ⟨g, 0, none⟩) n cap) n (xs.set i u) := by
  obtain ⟨hl, h⟩ := h
  have _ := hi
  rcases h with ⟨h, _⟩ | ⟨g', cap', cur, hv, hb, hg, hnc, hcm, hs, ht⟩
  · cases h
  · injection hv with h1 h2 h3
    injection h1 with h1
    injection h1 with h1 _ _
    subst h1 h3
    refine ⟨by rw [List.length_set, hl], .inr ⟨g, cap, cur.setIfInBounds i u, rfl, hb, Base.Blk.set_ hg i u, hnc, hcm, by simpa using hs, ?_⟩⟩
    rw [Array.toList_setIfInBounds, List.take_set, ht]
theorem dCells_set (acc : List DeltaD) (k : Nat) (hk : k < acc.length) (m : Int) : (dCells acc).set (k * 2 + 1) (.int .u64 m) = dCells (acc.set k ⟨acc[k].ser, m⟩) := by
  induction acc generalizing k with
  | nil => simp at hk
  | cons d acc ih =>
    cases k with
    | zero => rfl
    | succ k =>
      have h := ih k (by simpa using hk)
      unfold dCells at h ⊢
      rw [List.flatMap_cons, List.set_cons_succ, List.flatMap_cons, List.set_append_right _ _ (by simp [dCell]; omega)]
      rw [show (k + 1) * 2 + 1 - (dCell d).length = k * 2 + 1 by simp [dCell]; omega, h]
      rfl
theorem addS_lt (a b : Nat) : addS a b < 18446744073709551616 := by
  unfold addS
  split <;> omega
def JoinPost (l : List DeltaD) (w : World) (e : Ending) (w' : World) : Prop := ∃ A, e = .returned (.slice A (joinD l).length (joinD l).length) ∧ (∀ M, (∀ g ∈ M, g < w.heap.size) → Ds w' M (.slice A (joinD l).length (joinD l).length) (joinD l)) ∧ Below w.heap.size w w'
theorem addD_len (acc : List DeltaD) (d : DeltaD) : (addD acc d).length ≤ acc.length + 1 := by
  unfold addD
  split <;> simp
theorem take_fold_len (l : List DeltaD) : ∀ (acc : List DeltaD), (l.foldl addD acc).length ≤ acc.length + l.length := by
  induction l with
  | nil => intro acc; simp
  | cons d l ih =>
    intro acc
    have h1 := ih (addD acc d)
    have h2 := addD_len acc d
    rw [List.foldl_cons, List.length_cons]
    omega
set_option maxRecDepth 100000 in
set_option maxHeartbeats 1000000 in
theorem deltas_join (v : Value) (l : List DeltaD) (w : World) (h : Ds w [] v l) (hn : ∀ d ∈ l, NOk d) (hl : l.length ≤ 1099511627776) :
    Calls Tryd.prog 14 #[v] w fun e w' => JoinPost l w e w' := by
  obtain ⟨i0, hi0, hz0, hz1, hz2⟩ := info_parts infoDelta2
  have Hi0 := Lib.hid hi0; have Hz0 := Lib.hid hz0; have Hz1 := Lib.hid hz1; have Hz2 := Lib.hid hz2
  obtain ⟨A, c, rfl, hc⟩ := h.len
  have Hh := Lib.hid h; have Hn := Lib.hid hn
  clear h hn hi0 hz0 hz1 hz2
  go_enter Tryd.func14, Tryd.ntmps14
  go_wp2_with fail
  go_loopw [3, 9] (fun out i wr => ∃ (x : Nat) (acc : List DeltaD), i = .int .i64 x ∧ x ≤ l.length ∧ Hid (∀ d ∈ acc, NOk d) ∧ Hid (acc = (l.take x).foldl addD []) ∧ Hid (wr.ownsRow w.heap.size 44 2 out acc.length (dCells acc)) ∧ Hid (Below w.heap.size w wr)) (fun _ i _ => l.length - (intOf i).toNat)
  case atStart => exact ⟨0, [], rfl, by omega, (show ∀ d ∈ ([] : List DeltaD), NOk d by simp), rfl, World.ownsRow_nil _ _ _ _, Below.refl _ _⟩
  case round =>
    obtain ⟨x, acc, rfl, hx, Hok, Hacc, Hown, Hbr⟩ := hrel
    have hal : acc.length ≤ x := by
      have := take_fold_len (l.take x) []
      rw [← Hacc.out, List.length_take] at this
      simp at this
      omega
    by_cases hlt : x < l.length
    · have hx1 : (x : Int) < (l.length : Int) := by omega
      obtain ⟨g, off, _, e1, _, hg, _, hcell⟩ := Rd.at_ dCell 2 (fun _ => rfl) (Hh.out.keep (Keeps.of_below (M := []) Hbr.out) (by simp)) hlt
      obtain rfl : A = some ⟨g, off, none⟩ := by injection e1
      clear e1
      have p0 := hcell 0 _ rfl
      have p1 := hcell 1 _ rfl
      rw [Nat.add_zero] at p0
      obtain ⟨hn0, hn1⟩ := Hn.out l[x] (List.getElem_mem _)
      have htk : Hid (addD acc l[x] = (l.take (x + 1)).foldl addD []) := by
        show _ = _
        rw [List.take_succ_eq_append_getElem hlt, List.foldl_append, ← Hacc.out]; rfl
      clear hcell
      generalize l[x] = d at *
      obtain ⟨ser, nn⟩ := d
      simp only [] at p0 p1 hn0 hn1
      obtain ⟨n, rfl⟩ := Int.eq_ofNat_of_zero_le hn0
      obtain ⟨Ao, co, rfl, hco⟩ := (show Ds wr [] u3 acc from Rd.of_own Hown.out (by simp)).len
      go_wp2_with fail
      have hka : Below wr.heap.size wr (wr.alloc (.cells #[.string ser, .int .u64 n] 44)) := below_new' _ _
      have hBl := Blk.new wr 44 #[.string ser, .int .u64 n]
      have Hix := Lib.hid (ix_any (.slice Ao acc.length co) acc wr.heap.size ser _ ((show Ds wr [] (.slice Ao acc.length co) acc from Rd.of_own Hown.out (by simp)).keep (Keeps.of_below (M := []) hka) (by simp)) (by omega) hBl.lt (hBl.cell 0))
      have HBl := Lib.hid hBl; have Hka := Lib.hid hka
      clear hBl hka
      refine Hix.out.mono ?_
      rintro e w3 ⟨rfl, hb3⟩
      have hbs := HBl.out.lt
      have HB3 := Lib.hid (HBl.out.below hb3 hbs)
      have Hb3 := Lib.hid (below_then Hka.out hb3)
      have Hb3w := Lib.hid (Hbr.out.trans (Hb3.out.mono Hbr.out.size))
      have HA : Hid (addD acc ⟨ser, (n : Int)⟩ = if ixD acc ser < 0 then acc ++ [⟨ser, (n : Int)⟩] else acc.set (ixD acc ser).toNat ⟨acc[(ixD acc ser).toNat]!.ser, (addS acc[(ixD acc ser).toNat]!.n.toNat n : Nat)⟩) := rfl
      have d0 := HB3.out.cell 0; have d1 := HB3.out.cell 1
      simp only [List.getElem?_toArray, List.getElem?_cons_succ, List.getElem?_cons_zero] at d0 d1
      have hbg : w.heap.size ≤ wr.heap.size := Hbr.out.size
      have hw3 : wr.heap.size < w3.heap.size := HB3.out.lt
      clear hb3 Hix p0 p1
      rcases ixD_cases acc ser with ⟨hix, _⟩ | ⟨k, hk, hix, _⟩
      · have HR : Hid (addD acc ⟨ser, (n : Int)⟩ = acc ++ [⟨ser, (n : Int)⟩]) := by show _ = _; rw [HA.out, hix]; rfl
        rw [hix]
        clear hix HA
        have Hown3 := Lib.hid ((own_below Hown.out Hb3.out).alloc (.cells #[.string ser, .int .u64 n] 44))
        go_wp2_with (at_builtin; refine wpList_append_any _ rfl (.tmp 18) (.tmp 20) _ rfl w.heap.size 44 i0 _ 2 24 Tryd.underlying25 Hi0.out Hz0.out Hz1.out Hz2.out rfl (by omega) (.slice Ao acc.length co) acc.length (dCells acc) rfl Hown3.out (w3.heap.size + 1) (some ⟨w3.heap.size, 0, none⟩) 1 1 (dCell ⟨ser, (n : Int)⟩) rfl (reads_new _ _ _ _ _ rfl) (by intro u hu; simp [dCell] at hu; rcases hu with rfl | rfl <;> rfl) (by unfold maxLen; omega) (by omega) (by simp; omega) ?_)
        intro v6 w6 hown6 hg6 hat6
        have Hown6 : Hid (w6.ownsRow w.heap.size 44 2 v6 (addD acc ⟨ser, (n : Int)⟩).length (dCells (addD acc ⟨ser, (n : Int)⟩))) := by
          show World.ownsRow _ _ _ _ _ _ _
          rw [HR.out]
          unfold dCells at hown6 ⊢
          rw [List.flatMap_append]
          simpa using hown6
        have Hb6 : Hid (Below w.heap.size w w6) := (Hb3w.out.alloc Hb3w.out.size _).grown hg6 (by have := Hb3w.out.size; simp; omega) (fun g hg => (Hown.out.lt g hg).1)
        have Hok6 : Hid (∀ d ∈ addD acc ⟨ser, (n : Int)⟩, NOk d) := by
          show ∀ _, _
          rw [HR.out]
          intro d hd
          rcases List.mem_append.1 hd with hd | hd
          · exact Hok.out d hd
          · simp at hd; subst hd; exact ⟨hn0, hn1⟩
        clear hown6 hg6 hat6
        go_wp2
        go_roundw
        case rel => exact ⟨x + 1, addD acc ⟨ser, (n : Int)⟩, by go_num, by omega, Hok6, htk, Hown6, Hb6⟩
        case measure => simp [intOf] <;> omega
      · have hak : Hid (acc[(ixD acc ser).toNat]! = acc[k]) := by show _ = _; rw [hix, Int.toNat_natCast, getElem!_pos acc k hk]
        obtain ⟨hq0, hq1⟩ := Hok.out acc[k] (List.getElem_mem _)
        have HR : Hid (addD acc ⟨ser, (n : Int)⟩ = acc.set k ⟨acc[k].ser, (addS acc[k].n.toNat n : Nat)⟩) := by show _ = _; rw [HA.out, hak.out, hix, if_neg (by omega), Int.toNat_natCast]
        have hset := Lib.hid (dCells_set acc k hk (addS acc[k].n.toNat n : Nat))
        rw [hix]
        obtain ⟨g2, cap, hv, hge, hgl⟩ := Hown.out.form (by omega)
        injection hv with hv1 _ hv3
        subst hv1 hv3
        have hown3 := own_below Hown.out Hb3.out
        obtain ⟨g', off', _, e1, _, _, _, hcell⟩ := Rd.at_ dCell 2 (fun _ => rfl) (show Ds w3 [] _ acc from Rd.of_own hown3 (by simp)) hk
        injection e1 with e1 _ e9
        injection e1 with e1
        injection e1 with e1 e2 _
        subst e1 e2
        clear e9
        have c1 : w3.cell? ⟨g2, k * 2 + 1, none⟩ = some (.int .u64 acc[k].n) := by have := hcell 1 _ rfl; rwa [Nat.zero_add] at this
        have Hown3 := Lib.hid (own_set hown3 (k * 2 + 1) (.int .u64 (addS acc[k].n.toNat n : Nat)) (by omega))
        have Hok6 : Hid (∀ d ∈ addD acc ⟨ser, (n : Int)⟩, NOk d) := by
          show ∀ _, _
          rw [HR.out]
          intro d hd
          have := addS_lt acc[k].n.toNat n
          rcases List.mem_or_eq_of_mem_set hd with hd | rfl
          · exact Hok.out d hd
          · exact ⟨by simp only []; omega, by simp only []; omega⟩
        have Hown6 : Hid ((w3.setCell ⟨g2, k * 2 + 1, none⟩ (.int .u64 (addS acc[k].n.toNat n : Nat))).ownsRow w.heap.size 44 2 (.slice (some ⟨g2, 0, none⟩) acc.length co) (addD acc ⟨ser, (n : Int)⟩).length (dCells (addD acc ⟨ser, (n : Int)⟩))) := by
          show World.ownsRow _ _ _ _ _ _ _
          rw [HR.out, List.length_set, ← hset.out]
          exact Hown3.out
        have Hb6 : Hid (Below w.heap.size w (w3.setCell ⟨g2, k * 2 + 1, none⟩ (.int .u64 (addS acc[k].n.toNat n : Nat)))) := Hb3w.out.setCell hge _
        clear hown3 hcell Hown3 hak hset HR HA hix
        obtain ⟨nk, hnk⟩ := Int.eq_ofNat_of_zero_le hq0
        rw [show acc[k].n.toNat = nk by rw [hnk]; rfl] at Hown6 Hb6
        rw [hnk] at c1 hq0 hq1
        clear hnk
        have hki : (0 : Int) ≤ (k : Int) := by omega
        have hki2 : (k : Int) < (acc.length : Int) := by omega
        have hfz : w3.frozen? ⟨g2, k * 2 + 1, none⟩ = false := by
          have := (own_below Hown.out Hb3.out).2
          rcases this with ⟨h, _⟩ | ⟨g', cap', cur, hv, _, hg, _⟩
          · cases h
          · injection hv with h1 _ _
            injection h1 with h1
            injection h1 with h1 _ _
            subst h1
            exact Base.Blk.frozen hg _
        have hadd := Lib.hid (fun W => add_any nk n W (by omega) (by omega))
        generalize addS nk n = sm at *
        generalize addD acc ⟨ser, (n : Int)⟩ = acc2 at *
        clear hq0 hq1 hn0 hn1 hge hgl
        go_wp2_with fail
        go_region_with ((go_at_call 38; refine (hadd.out _).mono ?_; rintro e w' ⟨rfl, rfl⟩))
        all_goals
          go_wp2
          go_roundw
          case rel => exact ⟨x + 1, acc2, by go_num, by omega, Hok6, htk, Hown6.out, (show Below _ _ _ from ⟨Hb6.out.os, Hb6.out.tape, Hb6.out.output, Hb6.out.size, Hb6.out.block⟩)⟩
          case measure => simp [intOf] <;> omega
    · obtain rfl : x = l.length := by omega
      have hfin : Hid (joinD l = acc) := by show _ = _; rw [Hacc.out, List.take_length]; rfl
      obtain ⟨Ao, co, rfl, hco⟩ := (show Ds wr [] u3 acc from Rd.of_own Hown.out (by simp)).len
      have hp : Hid (JoinPost l w (.returned (.slice Ao acc.length acc.length)) wr) := by
        show JoinPost _ _ _ _
        unfold JoinPost
        rw [hfin.out]
        exact ⟨Ao, rfl, fun M hM => Rd.clip (Rd.of_own Hown.out hM), Hbr.out⟩
      go_wp2_with fail
      refine (clipDelta Ao acc.length co _ hco).mono ?_
      rintro e w' ⟨rfl, rfl⟩
      go_wp2
      go_ret
      exact hp.out
end Go.Proofs.YtinnifhnabncfaaDoor.Vi
