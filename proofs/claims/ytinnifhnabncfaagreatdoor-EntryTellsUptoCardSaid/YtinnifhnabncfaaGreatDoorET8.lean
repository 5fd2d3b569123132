/- Texts put together: EntD, EntK, Tape, Tape2, Tape3, EntE, RefK, RefN, RefF. -/
import Derived.Test.YtinnifhnabncfaaGreatDoorET1
import Derived.Test.YtinnifhnabncfaaGreatDoorET5
import Derived.Test.YtinnifhnabncfaaGreatDoorET6
import Derived.Test.YtinnifhnabncfaaGreatDoorET7
set_option linter.unusedVariables false
set_option linter.unusedSimpArgs false
/- Contract of entry.Deltas. -/
section
namespace Go.Proofs.YtinnifhnabncfaaGreatDoor.Vi
open Go.RowKit Base Mem Go.Shelf
def ixD (acc : List DeltaD) (s : ByteArray) : Int := Lib.idxBy (fun _ (y : DeltaD) => y.ser.toList == s.toList) acc default
def addD (acc : List DeltaD) (d : DeltaD) : List DeltaD :=
  if ixD acc d.ser < 0 then acc ++ [d] else acc.set (ixD acc d.ser).toNat ⟨acc[(ixD acc d.ser).toNat]!.ser, (addS acc[(ixD acc d.ser).toNat]!.n.toNat d.n.toNat : Nat)⟩
def joinD (l : List DeltaD) : List DeltaD := l.foldl addD []
theorem idx_cases {α : Type} [Inhabited α] (eq : α → α → Bool) (x : α) : ∀ (zs : List α) (i : Nat), (Lib.idxByFrom eq x zs i = -1 ∧ ∀ y ∈ zs, eq x y = false) ∨ ∃ k, k < zs.length ∧ Lib.idxByFrom eq x zs i = ((i + k : Nat) : Int) ∧ eq x zs[k]! = true
  | [], _ => .inl ⟨rfl, by simp⟩
  | y :: r, i => by
    unfold Lib.idxByFrom
    cases hy : eq x y with
    | true => exact .inr ⟨0, by simp, by simp, by simpa using hy⟩
    | false =>
      rw [if_neg (by simp)]
      rcases idx_cases eq x r (i + 1) with ⟨h1, h2⟩ | ⟨k, h1, h2, h3⟩
      · exact .inl ⟨h1, fun z hz => by rcases List.mem_cons.1 hz with rfl | hz; exact hy; exact h2 z hz⟩
      · exact .inr ⟨k + 1, by simpa using h1, by rw [h2]; congr 1; omega, by simpa using h3⟩
theorem ixD_cases (acc : List DeltaD) (s : ByteArray) : (ixD acc s = -1 ∧ ∀ y ∈ acc, (y.ser.toList == s.toList) = false) ∨ ∃ k, ∃ h : k < acc.length, ixD acc s = k ∧ (acc[k].ser.toList == s.toList) = true := by
  rcases idx_cases (fun _ (y : DeltaD) => y.ser.toList == s.toList) default acc 0 with h | ⟨k, h1, h2, h3⟩
  · exact .inl h
  · exact .inr ⟨k, h1, by unfold ixD Lib.idxBy; rw [h2]; simp, by rwa [getElem!_pos acc k h1] at h3⟩
theorem ix_any (v : Value) (l : List DeltaD) (B : Nat) (s : ByteArray) (w : World) (h : Ds w [] v l) (hl : l.length ≤ 4611686018427387904) (hB : B < w.heap.size) (hc : w.cell? ⟨B, 0, none⟩ = some (.string s)) :
    Calls Tryz.prog 73 #[v, .func (.func 74) #[] #[.pointer (some ⟨B, 0, none⟩)]] w fun r w' => r = .returned (.int .i64 (ixD l s)) ∧ Below w.heap.size w w' := by
  by_cases h0 : 0 < l.length
  · exact index_any v l B s w h h0 hl hB hc
  · obtain rfl : l = [] := List.length_eq_zero_iff.1 (by omega)
    obtain ⟨A, c, rfl, hc2⟩ := h.len
    exact indexf_nil A c _ _ w
theorem own_set {w : World} {base : Nat} {e : TypeId} {size n : Nat} {g cap : Nat} {xs : List Value} (h : w.ownsRow base e size (.slice (some ⟨g, 0, none⟩) n cap) n xs) (i : Nat) (u : Value) (hi : i < n * size) :
    (w.setCell ⟨g, i, none⟩ u).ownsRow base e size (.slice (some ⟨g, 0, none⟩) n cap) n (xs.set i u) := by
  obtain ⟨hl, h⟩ := h
  have _ := hi
  rcases h with ⟨h, _⟩ | ⟨g', cap', cur, hv, hb, hg, hnc, hcm, hs, ht⟩
  · cases h
  · injection hv with h1 h2 h3
    injection h1 with h1
    injection h1 with h1 _ _
    subst h1 h3
    refine ⟨by rw [List.length_set, hl], .inr ⟨g, cap, cur.setIfInBounds i u, rfl, hb, Base.Blk.set_ hg i u, hnc, hcm, by simpa using hs, ?_⟩⟩
    rw [Array.toList_setIfInBounds, List.take_set, ht]
theorem dCells_set (acc : List DeltaD) (k : Nat) (hk : k < acc.length) (m : Int) : (dCells acc).set (k * 2 + 1) (.int .u64 m) = dCells (acc.set k ⟨acc[k].ser, m⟩) := by
  induction acc generalizing k with
  | nil => simp at hk
  | cons d acc ih =>
    cases k with
    | zero => rfl
    | succ k =>
      have h := ih k (by simpa using hk)
      unfold dCells at h ⊢
      rw [List.flatMap_cons, List.set_cons_succ, List.flatMap_cons, List.set_append_right _ _ (by simp [dCell]; omega)]
      rw [show (k + 1) * 2 + 1 - (dCell d).length = k * 2 + 1 by simp [dCell]; omega, h]
      rfl
theorem addS_lt (a b : Nat) : addS a b < 18446744073709551616 := by
  unfold addS
  split <;> omega
def JoinPost (l : List DeltaD) (w : World) (e : Ending) (w' : World) : Prop := ∃ A, e = .returned (.slice A (joinD l).length (joinD l).length) ∧ (∀ M, (∀ g ∈ M, g < w.heap.size) → Ds w' M (.slice A (joinD l).length (joinD l).length) (joinD l)) ∧ Below w.heap.size w w'
theorem addD_len (acc : List DeltaD) (d : DeltaD) : (addD acc d).length ≤ acc.length + 1 := by
  unfold addD
  split <;> simp
theorem take_fold_len (l : List DeltaD) : ∀ (acc : List DeltaD), (l.foldl addD acc).length ≤ acc.length + l.length := by
  induction l with
  | nil => intro acc; simp
  | cons d l ih =>
    intro acc
    have h1 := ih (addD acc d)
    have h2 := addD_len acc d
    rw [List.foldl_cons, List.length_cons]
    omega
set_option maxRecDepth 100000 in
set_option maxHeartbeats 1000000 in
theorem deltas_join (v : Value) (l : List DeltaD) (w : World) (h : Ds w [] v l) (hn : ∀ d ∈ l, NOk d) (hl : l.length ≤ 1099511627776) :
    Calls Tryz.prog 26 #[v] w fun e w' => JoinPost l w e w' := by
  obtain ⟨i0, hi0, hz0, hz1, hz2⟩ := info_parts infoDelta2
  have Hi0 := Lib.hid hi0; have Hz0 := Lib.hid hz0; have Hz1 := Lib.hid hz1; have Hz2 := Lib.hid hz2
  obtain ⟨A, c, rfl, hc⟩ := h.len
  have Hh := Lib.hid h; have Hn := Lib.hid hn
  clear h hn hi0 hz0 hz1 hz2
  go_enter Tryz.func26, Tryz.ntmps26
  go_wp2_with fail
  go_loopw [3, 9] (fun out i wr => ∃ (x : Nat) (acc : List DeltaD), i = .int .i64 x ∧ x ≤ l.length ∧ Hid (∀ d ∈ acc, NOk d) ∧ Hid (acc = (l.take x).foldl addD []) ∧ Hid (wr.ownsRow w.heap.size 86 2 out acc.length (dCells acc)) ∧ Hid (Below w.heap.size w wr)) (fun _ i _ => l.length - (intOf i).toNat)
  case atStart => exact ⟨0, [], rfl, by omega, (show ∀ d ∈ ([] : List DeltaD), NOk d by simp), rfl, World.ownsRow_nil _ _ _ _, Below.refl _ _⟩
  case round =>
    obtain ⟨x, acc, rfl, hx, Hok, Hacc, Hown, Hbr⟩ := hrel
    have hal : acc.length ≤ x := by
      have := take_fold_len (l.take x) []
      rw [← Hacc.out, List.length_take] at this
      simp at this
      omega
    by_cases hlt : x < l.length
    · have hx1 : (x : Int) < (l.length : Int) := by omega
      obtain ⟨g, off, _, e1, _, hg, _, hcell⟩ := Rd.at_ dCell 2 (fun _ => rfl) (Hh.out.keep (Keeps.of_below (M := []) Hbr.out) (by simp)) hlt
      obtain rfl : A = some ⟨g, off, none⟩ := by injection e1
      clear e1
      have p0 := hcell 0 _ rfl
      have p1 := hcell 1 _ rfl
      rw [Nat.add_zero] at p0
      obtain ⟨hn0, hn1⟩ := Hn.out l[x] (List.getElem_mem _)
      have htk : Hid (addD acc l[x] = (l.take (x + 1)).foldl addD []) := by
        show _ = _
        rw [List.take_succ_eq_append_getElem hlt, List.foldl_append, ← Hacc.out]; rfl
      clear hcell
      generalize l[x] = d at *
      obtain ⟨ser, nn⟩ := d
      simp only [] at p0 p1 hn0 hn1
      obtain ⟨n, rfl⟩ := Int.eq_ofNat_of_zero_le hn0
      obtain ⟨Ao, co, rfl, hco⟩ := (show Ds wr [] u3 acc from Rd.of_own Hown.out (by simp)).len
      go_wp2_with fail
      have hka : Below wr.heap.size wr (wr.alloc (.cells #[.string ser, .int .u64 n] 86)) := below_new' _ _
      have hBl := Blk.new wr 86 #[.string ser, .int .u64 n]
      have Hix := Lib.hid (ix_any (.slice Ao acc.length co) acc wr.heap.size ser _ ((show Ds wr [] (.slice Ao acc.length co) acc from Rd.of_own Hown.out (by simp)).keep (Keeps.of_below (M := []) hka) (by simp)) (by omega) hBl.lt (hBl.cell 0))
      have HBl := Lib.hid hBl; have Hka := Lib.hid hka
      clear hBl hka
      refine Hix.out.mono ?_
      rintro e w3 ⟨rfl, hb3⟩
      have hbs := HBl.out.lt
      have HB3 := Lib.hid (HBl.out.below hb3 hbs)
      have Hb3 := Lib.hid (below_then Hka.out hb3)
      have Hb3w := Lib.hid (Hbr.out.trans (Hb3.out.mono Hbr.out.size))
      have HA : Hid (addD acc ⟨ser, (n : Int)⟩ = if ixD acc ser < 0 then acc ++ [⟨ser, (n : Int)⟩] else acc.set (ixD acc ser).toNat ⟨acc[(ixD acc ser).toNat]!.ser, (addS acc[(ixD acc ser).toNat]!.n.toNat n : Nat)⟩) := rfl
      have d0 := HB3.out.cell 0; have d1 := HB3.out.cell 1
      simp only [List.getElem?_toArray, List.getElem?_cons_succ, List.getElem?_cons_zero] at d0 d1
      have hbg : w.heap.size ≤ wr.heap.size := Hbr.out.size
      have hw3 : wr.heap.size < w3.heap.size := HB3.out.lt
      clear hb3 Hix p0 p1
      rcases ixD_cases acc ser with ⟨hix, _⟩ | ⟨k, hk, hix, _⟩
      · have HR : Hid (addD acc ⟨ser, (n : Int)⟩ = acc ++ [⟨ser, (n : Int)⟩]) := by show _ = _; rw [HA.out, hix]; rfl
        rw [hix]
        clear hix HA
        have Hown3 := Lib.hid ((own_below Hown.out Hb3.out).alloc (.cells #[.string ser, .int .u64 n] 86))
        go_wp2_with (at_builtin; refine wpList_append_any _ rfl (.tmp 18) (.tmp 20) _ rfl w.heap.size 86 i0 _ 2 24 Tryz.underlying24 Hi0.out Hz0.out Hz1.out Hz2.out rfl (by omega) (.slice Ao acc.length co) acc.length (dCells acc) rfl Hown3.out (w3.heap.size + 1) (some ⟨w3.heap.size, 0, none⟩) 1 1 (dCell ⟨ser, (n : Int)⟩) rfl (reads_new _ _ _ _ _ rfl) (by intro u hu; simp [dCell] at hu; rcases hu with rfl | rfl <;> rfl) (by unfold maxLen; omega) (by omega) (by simp; omega) ?_)
        intro v6 w6 hown6 hg6 hat6
        have Hown6 : Hid (w6.ownsRow w.heap.size 86 2 v6 (addD acc ⟨ser, (n : Int)⟩).length (dCells (addD acc ⟨ser, (n : Int)⟩))) := by
          show World.ownsRow _ _ _ _ _ _ _
          rw [HR.out]
          unfold dCells at hown6 ⊢
          rw [List.flatMap_append]
          simpa using hown6
        have Hb6 : Hid (Below w.heap.size w w6) := (Hb3w.out.alloc Hb3w.out.size _).grown hg6 (by have := Hb3w.out.size; simp; omega) (fun g hg => (Hown.out.lt g hg).1)
        have Hok6 : Hid (∀ d ∈ addD acc ⟨ser, (n : Int)⟩, NOk d) := by
          show ∀ _, _
          rw [HR.out]
          intro d hd
          rcases List.mem_append.1 hd with hd | hd
          · exact Hok.out d hd
          · simp at hd; subst hd; exact ⟨hn0, hn1⟩
        clear hown6 hg6 hat6
        go_wp2
        go_roundw
        case rel => exact ⟨x + 1, addD acc ⟨ser, (n : Int)⟩, by go_num, by omega, Hok6, htk, Hown6, Hb6⟩
        case measure => simp [intOf] <;> omega
      · have hak : Hid (acc[(ixD acc ser).toNat]! = acc[k]) := by show _ = _; rw [hix, Int.toNat_natCast, getElem!_pos acc k hk]
        obtain ⟨hq0, hq1⟩ := Hok.out acc[k] (List.getElem_mem _)
        have HR : Hid (addD acc ⟨ser, (n : Int)⟩ = acc.set k ⟨acc[k].ser, (addS acc[k].n.toNat n : Nat)⟩) := by show _ = _; rw [HA.out, hak.out, hix, if_neg (by omega), Int.toNat_natCast]
        have hset := Lib.hid (dCells_set acc k hk (addS acc[k].n.toNat n : Nat))
        rw [hix]
        obtain ⟨g2, cap, hv, hge, hgl⟩ := Hown.out.form (by omega)
        injection hv with hv1 _ hv3
        subst hv1 hv3
        have hown3 := own_below Hown.out Hb3.out
        obtain ⟨g', off', _, e1, _, _, _, hcell⟩ := Rd.at_ dCell 2 (fun _ => rfl) (show Ds w3 [] _ acc from Rd.of_own hown3 (by simp)) hk
        injection e1 with e1 _ e9
        injection e1 with e1
        injection e1 with e1 e2 _
        subst e1 e2
        clear e9
        have c1 : w3.cell? ⟨g2, k * 2 + 1, none⟩ = some (.int .u64 acc[k].n) := by have := hcell 1 _ rfl; rwa [Nat.zero_add] at this
        have Hown3 := Lib.hid (own_set hown3 (k * 2 + 1) (.int .u64 (addS acc[k].n.toNat n : Nat)) (by omega))
        have Hok6 : Hid (∀ d ∈ addD acc ⟨ser, (n : Int)⟩, NOk d) := by
          show ∀ _, _
          rw [HR.out]
          intro d hd
          have := addS_lt acc[k].n.toNat n
          rcases List.mem_or_eq_of_mem_set hd with hd | rfl
          · exact Hok.out d hd
          · exact ⟨by simp only []; omega, by simp only []; omega⟩
        have Hown6 : Hid ((w3.setCell ⟨g2, k * 2 + 1, none⟩ (.int .u64 (addS acc[k].n.toNat n : Nat))).ownsRow w.heap.size 86 2 (.slice (some ⟨g2, 0, none⟩) acc.length co) (addD acc ⟨ser, (n : Int)⟩).length (dCells (addD acc ⟨ser, (n : Int)⟩))) := by
          show World.ownsRow _ _ _ _ _ _ _
          rw [HR.out, List.length_set, ← hset.out]
          exact Hown3.out
        have Hb6 : Hid (Below w.heap.size w (w3.setCell ⟨g2, k * 2 + 1, none⟩ (.int .u64 (addS acc[k].n.toNat n : Nat)))) := Hb3w.out.setCell hge _
        clear hown3 hcell Hown3 hak hset HR HA hix
        obtain ⟨nk, hnk⟩ := Int.eq_ofNat_of_zero_le hq0
        rw [show acc[k].n.toNat = nk by rw [hnk]; rfl] at Hown6 Hb6
        rw [hnk] at c1 hq0 hq1
        clear hnk
        have hki : (0 : Int) ≤ (k : Int) := by omega
        have hki2 : (k : Int) < (acc.length : Int) := by omega
        have hfz : w3.frozen? ⟨g2, k * 2 + 1, none⟩ = false := by
          have := (own_below Hown.out Hb3.out).2
          rcases this with ⟨h, _⟩ | ⟨g', cap', cur, hv, _, hg, _⟩
          · cases h
          · injection hv with h1 _ _
            injection h1 with h1
            injection h1 with h1 _ _
            subst h1
            exact Base.Blk.frozen hg _
        have hadd := Lib.hid (fun W => add_any nk n W (by omega) (by omega))
        generalize addS nk n = sm at *
        generalize addD acc ⟨ser, (n : Int)⟩ = acc2 at *
        clear hq0 hq1 hn0 hn1 hge hgl
        go_wp2_with fail
        go_region_with ((go_at_call 75; refine (hadd.out _).mono ?_; rintro e w' ⟨rfl, rfl⟩))
        all_goals
          go_wp2
          go_roundw
          case rel => exact ⟨x + 1, acc2, by go_num, by omega, Hok6, htk, Hown6.out, (show Below _ _ _ from ⟨Hb6.out.os, Hb6.out.tape, Hb6.out.output, Hb6.out.size, Hb6.out.block⟩)⟩
          case measure => simp [intOf] <;> omega
    · obtain rfl : x = l.length := by omega
      have hfin : Hid (joinD l = acc) := by show _ = _; rw [Hacc.out, List.take_length]; rfl
      obtain ⟨Ao, co, rfl, hco⟩ := (show Ds wr [] u3 acc from Rd.of_own Hown.out (by simp)).len
      have hp : Hid (JoinPost l w (.returned (.slice Ao acc.length acc.length)) wr) := by
        show JoinPost _ _ _ _
        unfold JoinPost
        rw [hfin.out]
        exact ⟨Ao, rfl, fun M hM => Rd.clip (Rd.of_own Hown.out hM), Hbr.out⟩
      go_wp2_with fail
      refine (clipDelta Ao acc.length co _ hco).mono ?_
      rintro e w' ⟨rfl, rfl⟩
      go_wp2
      go_ret
      exact hp.out
end Go.Proofs.YtinnifhnabncfaaGreatDoor.Vi
end
/- Contract of hopperlaw4.known: true. -/
section
namespace Go.Proofs.YtinnifhnabncfaaGreatDoor.Vi
open Go.RowKit Base Mem Go.Shelf
def kx : EntryD := ⟨2, 0, 0, 0, 0, [], ⟨#[97, 61, 49]⟩, 2, 3⟩
theorem k_nil : readE [] = (zeroD, 12) := by
  unfold readE
  rw [show (readH []).2.2 = true by decide +kernel]
  rfl
theorem k_right : rightE kx = 0 := by decide +kernel
theorem k_zero : rightE zeroD = 12 := by decide +kernel
theorem k_same : sameE kx kx = true := by decide +kernel
def kl : List DeltaD := [⟨⟨#[97]⟩, 1⟩, ⟨⟨#[98]⟩, 2⟩, ⟨⟨#[97]⟩, 3⟩]
theorem k_join : joinD kl = [⟨⟨#[97]⟩, 4⟩, ⟨⟨#[98]⟩, 2⟩] := by kernel_rfl
theorem kx_short : Short kx := ⟨by decide, by simp [kx], by simp [kx]⟩
theorem kx_wf : Wf kx := ⟨by decide, by decide, by decide, by simp [kx]⟩
theorem k_back : readE (bytesE kx) = (kx, 0) := read_bytes kx k_right kx_wf kx_short
theorem k_len : (bytesE kx).length ≤ 1000 := by
  have h : (bytesE kx).length = ([UInt8.ofNat 2] ++ Lib.uvarint 2 ++ Lib.uvarint 3 ++ (Lib.uvarint 3 ++ [97, 61, 49])).length := rfl
  rw [h, Lib.uvarint_small (by omega), Lib.uvarint_small (by omega)]
  simp
set_option maxRecDepth 100000 in
set_option maxHeartbeats 1000000 in
theorem known_any (m : Int) (w : World) (hm : w.cell? ⟨0, 0, none⟩ = some (.int .i64 m)) :
    Calls Tryz.prog 21 #[] w fun e w' => SamePost true w e w' := by
  have hw0 : 0 < w.heap.size := by
    have := World.block_lt_of_cell? w _ hm
    simpa using this
  have Hm := Lib.hid hm
  clear hm
  have hkeepm : Hid (∀ W, Below w.heap.size w W → W.cell? ⟨0, 0, none⟩ = some (.int .i64 m)) := fun W hb => (hb.cell (p := ⟨0, 0, none⟩) hw0).trans Hm.out
  go_enter Tryz.func21, Tryz.ntmps21
  go_wp2_with fail
  have h1 := eread_any (.slice none 0 0) [] m w (Bs.nil _ _) (by decide) Hm.out
  rw [k_nil] at h1
  refine h1.mono ?_
  rintro e w1 ⟨dv, rfl, hD, hb1⟩
  obtain ⟨Ad, cd, rfl, _⟩ := (hD [] (by simp)).len
  have Hb1 := Lib.hid hb1
  clear hb1 hD h1
  simp only [eCell, zeroD]
  have hb2 : Below w.heap.size w ((w1.alloc (.cells #[.int .i64 0, .int .i64 0, .int .i64 0, .int .i64 0, .int .i64 0, .slice Ad 0 cd, .string ⟨#[]⟩, .int .i64 0, .int .i64 0] 26)).alloc (.cells #[.int .i64 2, .int .i64 0, .int .i64 0, .int .i64 0, .int .i64 0, .slice none 0 0, .string ⟨#[97, 61, 49]⟩, .int .i64 2, .int .i64 3] 26)) := (Hb1.out.alloc Hb1.out.size _).alloc (by have := Hb1.out.size; simp; omega) _
  have hB3 := Blk.new (w1.alloc (.cells #[.int .i64 0, .int .i64 0, .int .i64 0, .int .i64 0, .int .i64 0, .slice Ad 0 cd, .string ⟨#[]⟩, .int .i64 0, .int .i64 0] 26)) 26 #[.int .i64 2, .int .i64 0, .int .i64 0, .int .i64 0, .int .i64 0, .slice none 0 0, .string ⟨#[97, 61, 49]⟩, .int .i64 2, .int .i64 3]
  have hs1 : (w1.alloc (.cells #[.int .i64 0, .int .i64 0, .int .i64 0, .int .i64 0, .int .i64 0, .slice Ad 0 cd, .string ⟨#[]⟩, .int .i64 0, .int .i64 0] 26)).heap.size = w1.heap.size + 1 := by simp
  rw [hs1] at hB3
  have Hb2 := Lib.hid hb2; have HB3 := Lib.hid hB3
  clear hb2 hB3 hs1
  go_wp2_with fail
  generalize (w1.alloc _).alloc _ = w2 at *
  have hg3 : w1.heap.size + 1 < w2.heap.size := HB3.out.lt
  generalize w1.heap.size + 1 = g3 at *
  have h2 := Lib.hid (ebytes_2 kx (.slice none 0 0) m w2 rfl k_right (Ds.nil _ _) kx_short kx_wf (hkeepm.out _ Hb2.out))
  refine h2.out.mono ?_
  rintro e w3 ⟨A3, rfl, hS3, hb3⟩
  have HS3 := Lib.hid (hS3 [] (by simp)); have Hb3 := Lib.hid (below_then Hb2.out hb3); have HB3b := Lib.hid (HB3.out.below hb3 hg3)
  have hg3b : g3 < w3.heap.size := HB3b.out.lt
  have hkl := k_len
  clear hS3 hb3 h2 hg3 HB3 Hb2 Hb1
  have h3 := eread_any (.slice A3 (bytesE kx).length (bytesE kx).length) (bytesE kx) m w3 HS3.out (by omega) (hkeepm.out _ Hb3.out)
  rw [k_back] at h3
  have H3 := Lib.hid h3
  clear h3 hkl
  generalize (bytesE kx).length = bl at *
  go_wp2_with fail
  refine H3.out.mono ?_
  rintro e w4 ⟨dv4, rfl, hD4, hb4⟩
  obtain ⟨A4, c4, rfl, hc4⟩ := (hD4 [] (by simp)).len
  have Hb4 := Lib.hid (below_then Hb3.out hb4); have HB4 := Lib.hid (HB3b.out.below hb4 hg3b)
  have hg4 : g3 < w4.heap.size := HB4.out.lt
  clear hD4 hb4 H3 HS3 HB3b hg3b Hb3 hc4
  simp only [eCell, kx]
  have hB6 : Blk ((w4.alloc (.cells #[.int .i64 2, .int .i64 0, .int .i64 0, .int .i64 0, .int .i64 0, .slice A4 0 c4, .string ⟨#[97, 61, 49]⟩, .int .i64 2, .int .i64 3] 26)).alloc (.cells #[.string ⟨#[97]⟩, .int .u64 1, .string ⟨#[98]⟩, .int .u64 2, .string ⟨#[97]⟩, .int .u64 3] 86)) w4.heap.size 26 #[.int .i64 2, .int .i64 0, .int .i64 0, .int .i64 0, .int .i64 0, .slice A4 0 c4, .string ⟨#[97, 61, 49]⟩, .int .i64 2, .int .i64 3] := (Blk.new w4 _ _).below (below_new' _ _) (by simp)
  have hB3 : Blk ((w4.alloc (.cells #[.int .i64 2, .int .i64 0, .int .i64 0, .int .i64 0, .int .i64 0, .slice A4 0 c4, .string ⟨#[97, 61, 49]⟩, .int .i64 2, .int .i64 3] 26)).alloc (.cells #[.string ⟨#[97]⟩, .int .u64 1, .string ⟨#[98]⟩, .int .u64 2, .string ⟨#[97]⟩, .int .u64 3] 86)) g3 26 _ := (HB4.out.below (below_new' _ _) hg4).below (below_new' _ _) (by simp; omega)
  have hb5 : Below w.heap.size w ((w4.alloc (.cells #[.int .i64 2, .int .i64 0, .int .i64 0, .int .i64 0, .int .i64 0, .slice A4 0 c4, .string ⟨#[97, 61, 49]⟩, .int .i64 2, .int .i64 3] 26)).alloc (.cells #[.string ⟨#[97]⟩, .int .u64 1, .string ⟨#[98]⟩, .int .u64 2, .string ⟨#[97]⟩, .int .u64 3] 86)) := (Hb4.out.alloc Hb4.out.size _).alloc (by have := Hb4.out.size; simp; omega) _
  have hBd := Blk.new (w4.alloc (.cells #[.int .i64 2, .int .i64 0, .int .i64 0, .int .i64 0, .int .i64 0, .slice A4 0 c4, .string ⟨#[97, 61, 49]⟩, .int .i64 2, .int .i64 3] 26)) 86 #[.string ⟨#[97]⟩, .int .u64 1, .string ⟨#[98]⟩, .int .u64 2, .string ⟨#[97]⟩, .int .u64 3]
  have hs4 : (w4.alloc (.cells #[.int .i64 2, .int .i64 0, .int .i64 0, .int .i64 0, .int .i64 0, .slice A4 0 c4, .string ⟨#[97, 61, 49]⟩, .int .i64 2, .int .i64 3] 26)).heap.size = w4.heap.size + 1 := by simp
  rw [hs4] at hBd
  have HB6 := Lib.hid hB6; have HB3 := Lib.hid hB3; have Hb5 := Lib.hid hb5; have HBd := Lib.hid hBd
  clear hB6 hB3 hb5 hBd hs4 HB4 Hb4
  go_wp2_with fail
  generalize (w4.alloc _).alloc _ = w5 at *
  have hds : Ds w5 [] (.slice (some ⟨w4.heap.size + 1, 0, none⟩) 3 3) kl := RowsK.rd_of_blk dCell 2 (fun _ => rfl) (l := kl) (rest := []) (by simpa [kl, dCell] using HBd.out) (by simp)
  have h5 := Lib.hid (deltas_join _ kl w5 hds (by intro d hd; simp [kl] at hd; rcases hd with rfl | rfl | rfl <;> exact ⟨by simp only []; omega, by simp only []; omega⟩) (by decide))
  refine h5.out.mono ?_
  rintro e w6 ⟨A6, rfl, hD6, hb6⟩
  rw [k_join] at hD6 ⊢
  have hg3 : g3 < w5.heap.size := HB3.out.lt
  have hg6 : w4.heap.size < w5.heap.size := HB6.out.lt
  have HB3c := Lib.hid (HB3.out.below hb6 hg3); have HB6c := Lib.hid (HB6.out.below hb6 hg6); have Hb6 := Lib.hid (below_then Hb5.out hb6)
  obtain ⟨g, off, _, e1, _, _, _, hc0⟩ := Rd.at_ dCell 2 (fun _ => rfl) (hD6 [] (by simp)) (k := 0) (by simp)
  obtain ⟨g', off', _, e2, _, _, _, hc1⟩ := Rd.at_ dCell 2 (fun _ => rfl) (hD6 [] (by simp)) (k := 1) (by simp)
  injection e1 with e1 _ e9
  subst e1
  injection e2 with e2 _ e8
  injection e2 with e2
  injection e2 with e2 e3 _
  subst e2 e3
  have c0 : w6.cell? ⟨g, off + 1, none⟩ = some (.int .u64 4) := by have := hc0 1 _ rfl; simpa using this
  have c1 : w6.cell? ⟨g, off + 3, none⟩ = some (.int .u64 2) := by have := hc1 1 _ rfl; simpa [Nat.add_assoc] using this
  clear e9 e8 hc0 hc1 hD6 hb6 h5 hds HB3 HB6 HBd Hb5
  generalize w4.heap.size = g6 at *
  obtain ⟨q0, q1, q2, q3, q4, q5, q6, q7, q8, qf⟩ := blk9 HB3c.out
  obtain ⟨r0, r1, r2, r3, r4, r5, r6, r7, r8, rf⟩ := blk9 HB6c.out
  have hsm := Lib.hid (same_any kx kx (.slice none 0 0) (.slice A4 0 c4) w6 (Ds.nil _ _) ⟨A4, c4, rfl, Nat.zero_le _, rfl, fun h => absurd h (by simp [kx])⟩ (by simp [kx]) (by simp [kx]))
  rw [k_same] at hsm
  have hri := Lib.hid (fun W (hb : Below w.heap.size w W) => eright_any zeroD (.slice none 0 0) m W (Ds.nil _ _) ⟨by decide, by simp [zeroD], by simp [zeroD]⟩ (hkeepm.out _ hb))
  rw [k_zero] at hri
  simp only [eCell, kx] at hsm
  simp only [eCell, zeroD] at hri
  go_wp2_with fail
  refine hsm.out.mono ?_
  rintro e w7 ⟨rfl, hb7⟩
  have Hb7 := Lib.hid (below_then Hb6.out hb7)
  have hgl : g < w6.heap.size := World.block_lt_of_cell? w6 _ c0
  have d0 : w7.cell? ⟨g, off + 1, none⟩ = some (.int .u64 4) := (hb7.cell (p := ⟨g, off + 1, none⟩) hgl).trans c0
  have d1 : w7.cell? ⟨g, off + 3, none⟩ = some (.int .u64 2) := (hb7.cell (p := ⟨g, off + 3, none⟩) hgl).trans c1
  have hri7 := Lib.hid (hri.out w7 Hb7.out)
  clear c0 c1 hb7 hsm hri q0 q1 q2 q3 q4 q5 q6 q7 q8 qf r0 r1 r2 r3 r4 r5 r6 r7 r8 rf
  go_wp2_with fail
  refine hri7.out.mono ?_
  rintro e w8 ⟨rfl, hb8⟩
  have Hb8 := Lib.hid (below_then Hb7.out hb8)
  have hgl7 : g < w7.heap.size := World.block_lt_of_cell? w7 _ d0
  have f0 : w8.cell? ⟨g, off + 1, none⟩ = some (.int .u64 4) := (hb8.cell (p := ⟨g, off + 1, none⟩) hgl7).trans d0
  have f1 : w8.cell? ⟨g, off + 3, none⟩ = some (.int .u64 2) := (hb8.cell (p := ⟨g, off + 3, none⟩) hgl7).trans d1
  clear d0 d1 hb8 hri7
  go_wp2
  go_ret
  exact ⟨rfl, Hb8.out⟩
end Go.Proofs.YtinnifhnabncfaaGreatDoor.Vi
end
/- Contracts of hopperbook.Within and (*hopperkeep.Tape).Next. -/
section
namespace Go.Proofs.YtinnifhnabncfaaGreatDoor.Tape
open Go.RowKit Base Mem
def withinS (n lo hi : Int) : Int := if lo ≤ n ∧ n ≤ hi then n else lo + n % (hi - lo + 1)
theorem tmod_fix (n m : Int) (hm : 0 < m) : (n.tmod m < 0 → n.tmod m + m = n % m) ∧ (¬ n.tmod m < 0 → n.tmod m = n % m) := by
  have h := Int.tmod_eq_emod (a := n) (b := m)
  have h1 := Int.emod_nonneg n (show m ≠ 0 by omega)
  have h2 := Int.emod_lt_of_pos n hm
  split at h
  · omega
  · rename_i hc
    have h3 : n % m ≠ 0 := fun h0 => hc (.inr (Int.dvd_of_emod_eq_zero h0))
    omega
theorem within_bd (n lo hi : Int) (h : lo ≤ hi) : lo ≤ withinS n lo hi ∧ withinS n lo hi ≤ hi := by
  unfold withinS
  have h1 := Int.emod_nonneg n (show hi - lo + 1 ≠ 0 by omega)
  have h2 := Int.emod_lt_of_pos n (show 0 < hi - lo + 1 by omega)
  split <;> omega
theorem within_any (n lo hi : Int) (w : World) (h0 : 0 ≤ lo) (h1 : lo ≤ hi) (h2 : hi ≤ 1073741824) :
    Calls Tryz.prog 22 #[.int .i64 n, .int .i64 lo, .int .i64 hi] w fun e w' => e = .returned (.int .i64 (withinS n lo hi)) ∧ w = w' := by
  by_cases hin : lo ≤ n ∧ n ≤ hi
  · have Hw : Hid (withinS n lo hi = n) := if_pos hin
    obtain ⟨hi1, hi2⟩ := hin
    go_enter Tryz.func22, Tryz.ntmps22
    go_wp2
    go_ret
    exact ⟨ret_int Hw.out.symm, rfl⟩
  · have Hw : Hid (withinS n lo hi = lo + n % (hi - lo + 1)) := if_neg hin
    obtain ⟨t1, t2⟩ := tmod_fix n (hi - lo + 1) (by omega)
    have h3 := Int.emod_nonneg n (show hi - lo + 1 ≠ 0 by omega)
    have h4 := Int.emod_lt_of_pos n (show 0 < hi - lo + 1 by omega)
    have hc : n < lo ∨ (lo ≤ n ∧ hi < n) := by omega
    have T1 := Lib.hid t1; have T2 := Lib.hid t2
    clear hin t1 t2
    have hb : n.tmod (hi - lo + 1) < hi - lo + 1 ∧ -(hi - lo + 1) ≤ n.tmod (hi - lo + 1) := by
      have a := T1.out; have b := T2.out
      by_cases hh : n.tmod (hi - lo + 1) < 0
      · have := a hh; omega
      · have := b hh; omega
    obtain ⟨hb1, hb2⟩ := hb
    generalize hg : n.tmod (hi - lo + 1) = t at *
    generalize n % (hi - lo + 1) = r at *
    by_cases ht : t < 0
    · have Hr : Hid (t + hi - lo + 1 = r) := by have := T1.out ht; show _ = _; omega
      rcases hc with hc | ⟨hc, hc2⟩
      all_goals
        go_enter Tryz.func22, Tryz.ntmps22
        go_wp2
        go_ret
        exact ⟨ret_int (by rw [Hw.out, ← Hr.out]), rfl⟩
    · have Hr : Hid (t = r) := T2.out ht
      rcases hc with hc | ⟨hc, hc2⟩
      all_goals
        go_enter Tryz.func22, Tryz.ntmps22
        go_wp2
        go_ret
        exact ⟨ret_int (by rw [Hw.out, ← Hr.out]), rfl⟩
/-- A tape's numbers, and below which block they lie. -/
structure TapeL where
  l : List Int
  B : Nat
/-- A tape lies in block b: its numbers, how many are read. -/
structure TapeAt (w : World) (b : Nat) (L : TapeL) (k : Nat) : Prop where
  le : k ≤ L.l.length
  max : L.l.length ≤ 9223372036854775807
  low : L.B ≤ b
  mem : ∃ A c, Blk w b 31 #[.slice A L.l.length c, .int .i64 k] ∧ L.l.length ≤ c ∧ (0 < L.l.length → ∃ g off, A = some ⟨g, off, none⟩ ∧ g < L.B ∧ ∀ (j : Nat) (x : Int), L.l[j]? = some x → w.cell? ⟨g, off + j, none⟩ = some (.int .i64 x))
section
variable {w w' : World} {M' : List Nat} {b k : Nat} {L : TapeL}
theorem TapeAt.lt (h : TapeAt w b L k) : b < w.heap.size := by obtain ⟨_, _, _, _, _, hv, _⟩ := h; exact hv.lt
theorem TapeAt.keep2 (h : TapeAt w b L k) (hk : Keeps M' w w') (hM : ∀ g ∈ M', L.B ≤ g ∧ g ≠ b) : TapeAt w' b L k := by
  obtain ⟨h1, h2, h3, A, c, hv, hc, hr⟩ := h
  refine ⟨h1, h2, h3, A, c, hk.blk hv (fun hm => (hM b hm).2 rfl), hc, fun hn => ?_⟩
  obtain ⟨g, off, e, hg, hx⟩ := hr hn
  exact ⟨g, off, e, hg, fun j x hj => (hk.cell (p := ⟨g, off + j, none⟩) (by have := hv.lt; simp; omega) (fun hm => by have := hM g hm; omega)).trans (hx j x hj)⟩
theorem TapeAt.keep (h : TapeAt w b L k) (hk : Keeps M' w w') (hM : ∀ g ∈ M', b < g) : TapeAt w' b L k :=
  h.keep2 hk (fun g hg => by have := hM g hg; have := h.low; omega)
theorem TapeAt.set_at (h : TapeAt w b L k) {j : Nat} (hj : j ≤ L.l.length) : TapeAt (w.setCell ⟨b, 1, none⟩ (.int .i64 j)) b L j := by
  obtain ⟨h1, h2, h3, A, c, hv, hc, hr⟩ := h
  refine ⟨hj, h2, h3, A, c, hv.set_ 1 (.int .i64 j), hc, fun hn => ?_⟩
  obtain ⟨g, off, e, hg, hx⟩ := hr hn
  exact ⟨g, off, e, hg, fun j' x hj' => (World.cell?_setCell_other _ _ _ _ (by intro e; injection e with e1; omega)).trans (hx j' x hj')⟩
theorem TapeAt.drewN (h : TapeAt w b L k) (n : Nat) : TapeAt (w.drewN n) b L k := h.keep (M' := []) ((Keeps.refl _ _).drewN n) (by simp)
theorem TapeAt.cells (h : TapeAt w b L k) : ∃ A c, w.cell? ⟨b, 0, none⟩ = some (.slice A L.l.length c) ∧ L.l.length ≤ c ∧ w.cell? ⟨b, 1, none⟩ = some (.int .i64 k) ∧ w.frozen? ⟨b, 1, none⟩ = false ∧ b < w.heap.size ∧
    (k < L.l.length → ∃ g off x, A = some ⟨g, off, none⟩ ∧ g < w.heap.size ∧ g ≠ b ∧ w.cell? ⟨g, off + k, none⟩ = some (.int .i64 x)) := by
  obtain ⟨h1, h2, h3, A, c, hv, hc, hr⟩ := h
  refine ⟨A, c, hv.cell 0, hc, hv.cell 1, hv.frozen 1, hv.lt, fun hk => ?_⟩
  obtain ⟨g, off, e, hg, hx⟩ := hr (by omega)
  exact ⟨g, off, L.l[k], e, by have := hv.lt; omega, by omega, hx k _ (List.getElem?_eq_getElem hk)⟩
end
theorem next_any (b : Nat) (L : TapeL) (k : Nat) (n : Int) (w : World) (h : TapeAt w b L k) :
    Calls Tryz.prog 62 #[.pointer (some ⟨b, 0, none⟩), .int .i64 n] w fun e w' => ∃ (v : Int) (k' : Nat), e = .returned (.int .i64 v) ∧ 0 ≤ v ∧ (1 ≤ n → v < n) ∧ TapeAt w' b L k' ∧ Keeps [b] w w' := by
  obtain ⟨A, c, c0, hc, c1, f1, hlt, hx⟩ := h.cells
  have hle := h.le
  have hmx := h.max
  have H := Lib.hid h
  by_cases hk : k < L.l.length
  · by_cases hn : 1 ≤ n
    · obtain ⟨g, off, x, rfl, hg, hne, hcell⟩ := hx hk
      have hwi := Lib.hid (fun W => within_any x 0 1073741824 W (by omega) (by omega) (by omega))
      have hwb := within_bd x 0 1073741824 (by omega)
      have hcell2 : (w.setCell ⟨b, 1, none⟩ (.int .i64 ((k : Int) + 1))).cell? ⟨g, off + k, none⟩ = some (.int .i64 x) := by
        rw [World.cell?_setCell_other _ _ _ _ (by intro e; injection e with e1; exact hne e1.symm)]; exact hcell
      have hj : ((k : Int) + 1 - 1) = k := by omega
      clear h hx hcell
      generalize withinS x 0 1073741824 = y at *
      have hr1 := Int.emod_nonneg y (show n ≠ 0 by omega)
      have hr2 := Int.emod_lt_of_pos y (show 0 < n by omega)
      have d0 : decide (L.l.length ≤ k) = false := by simp; omega
      have d1 : decide (n < 1) = false := by simp; omega
      go_enter Tryz.func62, Tryz.ntmps62
      go_wp2
      go_quiet (fail)
      go_wp2
      have hT : TapeAt ((w.drewN nq).setCell ⟨b, 1, none⟩ (.int .i64 ((k : Int) + 1))) b L (k + 1) := by
        have := (H.out.drewN nq).set_at (j := k + 1) (by omega)
        rwa [show (((k + 1 : Nat)) : Int) = (k : Int) + 1 by omega] at this
      have hK : Keeps [b] w ((w.drewN nq).setCell ⟨b, 1, none⟩ (.int .i64 ((k : Int) + 1))) := ((Keeps.refl _ _).drewN nq).setCell (by simp) _
      have e0 : ((w.drewN nq).setCell ⟨b, 1, none⟩ (.int .i64 ((k : Int) + 1))).cell? ⟨b, 0, none⟩ = some (.slice (some ⟨g, off, none⟩) L.l.length c) := by
        rw [World.cell?_setCell_other _ _ _ _ (by intro e; injection e with e1 e2; omega)]; exact c0
      have e1 : ((w.drewN nq).setCell ⟨b, 1, none⟩ (.int .i64 ((k : Int) + 1))).cell? ⟨b, 1, none⟩ = some (.int .i64 ((k : Int) + 1)) := by
        obtain ⟨_, _, _, _, _, hv, _⟩ := hT
        have := hv.cell 1
        simpa using this
      have e2 : ((w.drewN nq).setCell ⟨b, 1, none⟩ (.int .i64 ((k : Int) + 1))).cell? ⟨g, off + k, none⟩ = some (.int .i64 x) := hcell2
      clear hcell2 c0 c1 f1
      generalize ((w.drewN nq).setCell ⟨b, 1, none⟩ (.int .i64 ((k : Int) + 1))) = W at *
      have hk0 : (0 : Int) ≤ (k : Int) := by omega
      have hk1 : (k : Int) < (L.l.length : Int) := by omega
      go_quiet ((go_at_call 22; exact quiet_left (hwi.out _)))
      go_wp2
      go_ret
      exact ⟨_, _, rfl, hr1, fun _ => hr2, hT.drewN _, hK.drewN _⟩
    · have d0 : decide (L.l.length ≤ k) = false := by simp; omega
      have d1 : decide (n < 1) = true := by simp; omega
      clear h hx
      go_enter Tryz.func62, Tryz.ntmps62
      go_wp2
      go_quiet (fail)
      go_wp2
      go_ret
      exact ⟨0, k, rfl, by omega, fun h => by omega, H.out.drewN _, (Keeps.refl _ _).drewN _⟩
  · have d0 : decide (L.l.length ≤ k) = true := by simp; omega
    clear h hx
    go_enter Tryz.func62, Tryz.ntmps62
    go_wp2
    go_quiet (fail)
    go_wp2
    go_ret
    exact ⟨0, k, rfl, by omega, fun h => by omega, H.out.drewN _, (Keeps.refl _ _).drewN _⟩
end Go.Proofs.YtinnifhnabncfaaGreatDoor.Tape
end
/- Contracts of the tape's Series, N, Deltas. -/
section
namespace Go.Proofs.YtinnifhnabncfaaGreatDoor.Tape
open Go.RowKit Base Mem
def nameL : List (List UInt8) := [[97, 61, 49], [97, 61, 50], [97, 61, 49, 44, 98, 61, 120], [106, 111, 98, 61, 97, 112, 105, 44, 122, 111, 110, 101, 61, 101, 117], [106, 111, 98, 61, 119, 101, 98], [107, 61, 118], [110, 61, 48], [97, 61, 51, 44, 99, 61, 57]]
/-- A series that there is. -/
def NameOk (s : ByteArray) : Prop := ∃ l ∈ nameL, s = ⟨l.toArray⟩
def DeltaOk (d : DeltaD) : Prop := NameOk d.ser ∧ 1 ≤ d.n ∧ d.n ≤ 18446744073709551615
theorem names_any (w : World) : Calls Tryz.prog 107 #[] w fun e w' => e = .returned (.slice (some ⟨w.heap.size, 0, none⟩) 8 8) ∧ Blk w' w.heap.size 9 (nameL.map fun l => Value.string ⟨l.toArray⟩).toArray ∧ Below w.heap.size w w' := by
  go_enter Tryz.func107, Tryz.ntmps107
  go_wp2
  go_ret
  exact ⟨rfl, Blk.new w _ _, below_new' _ _⟩
theorem name_at {w : World} {g j : Nat} (h : Blk w g 9 (nameL.map fun l => Value.string ⟨l.toArray⟩).toArray) (hj : j < 8) : ∃ s, w.cell? ⟨g, j, none⟩ = some (.string s) ∧ NameOk s := by
  have hl : j < nameL.length := hj
  refine ⟨⟨nameL[j].toArray⟩, ?_, nameL[j], List.getElem_mem hl, rfl⟩
  rw [h.cell, List.getElem?_toArray, List.getElem?_map, List.getElem?_eq_getElem hl]
  rfl
theorem series_any (b : Nat) (L : TapeL) (k : Nat) (w : World) (h : TapeAt w b L k) :
    Calls Tryz.prog 55 #[.pointer (some ⟨b, 0, none⟩)] w fun e w' => ∃ (s : ByteArray) (k' : Nat), e = .returned (.string s) ∧ NameOk s ∧ TapeAt w' b L k' ∧ Keeps [b] w w' := by
  have H := Lib.hid h
  obtain ⟨_, _, _, _, _, _, hlt, _⟩ := h.cells
  clear h
  go_enter Tryz.func55, Tryz.ntmps55
  go_wp2_with fail
  refine (names_any w).mono ?_
  rintro e w1 ⟨rfl, hb1, hbel⟩
  have hT := H.out.keep (Keeps.of_below (M := []) hbel) (by simp)
  have Hb1 := Lib.hid hb1; have Hbel := Lib.hid hbel; have HT := Lib.hid hT
  clear hb1 hbel hT
  go_wp2_with fail
  refine (next_any b L k 8 w1 HT.out).mono ?_
  rintro e w2 ⟨v, k', rfl, hv0, hv8, hT2, hK2⟩
  obtain ⟨j, rfl⟩ := Int.eq_ofNat_of_zero_le hv0
  have hj8 : (j : Int) < 8 := hv8 (by omega)
  obtain ⟨s, hs, hok⟩ := name_at (hK2.blk Hb1.out (by simp; omega)) (show j < 8 by omega)
  have HT2 := Lib.hid hT2; have HK := Lib.hid ((Keeps.of_below (M := [b]) Hbel.out).trans hK2 (by simp))
  have Hok := Lib.hid hok
  clear hv8 hT2 hK2 hok
  go_wp2
  go_ret
  exact ⟨s, k', rfl, Hok.out, HT2.out, HK.out⟩
theorem n_any (b : Nat) (L : TapeL) (k : Nat) (w : World) (h : TapeAt w b L k) :
    Calls Tryz.prog 117 #[.pointer (some ⟨b, 0, none⟩)] w fun e w' => ∃ (n : Int) (k' : Nat), e = .returned (.int .u64 n) ∧ (1 ≤ n ∧ n ≤ 18446744073709551615) ∧ TapeAt w' b L k' ∧ Keeps [b] w w' := by
  have H := Lib.hid h
  clear h
  go_enter Tryz.func117, Tryz.ntmps117
  go_wp2_with fail
  refine (next_any b L k 12 w H.out).mono ?_
  rintro e w1 ⟨v, k', rfl, hv0, hv8, hT, hK⟩
  have hv12 := hv8 (by omega)
  have HT := Lib.hid hT; have HK := Lib.hid hK
  clear hv8 hT hK
  by_cases c0 : v = 0
  · subst c0
    go_wp2
    go_ret
    exact ⟨_, _, rfl, ⟨by omega, by omega⟩, HT.out, HK.out⟩
  · by_cases c1 : v = 1
    · subst c1
      go_wp2
      go_ret
      exact ⟨_, _, rfl, ⟨by omega, by omega⟩, HT.out, HK.out⟩
    · by_cases c2 : v = 2
      · subst c2
        go_wp2_with fail
        refine (next_any b L k' 1073741824 w1 HT.out).mono ?_
        rintro e w2 ⟨x, k2, rfl, hx0, hx1, hT2, hK2⟩
        have hx2 := hx1 (by omega)
        have HT2 := Lib.hid hT2; have HK2 := Lib.hid (HK.out.trans hK2 (by simp))
        clear hx1 hT2 hK2
        go_wp2
        go_ret
        exact ⟨_, _, rfl, ⟨by omega, by omega⟩, HT2.out, HK2.out⟩
      · have d0 : (v == 0) = false := by simpa using c0
        have d1 : (v == 1) = false := by simpa using c1
        have d2 : (v == 2) = false := by simpa using c2
        clear c0 c1 c2
        go_wp2_with fail
        refine (next_any b L k' 50 w1 HT.out).mono ?_
        rintro e w2 ⟨x, k2, rfl, hx0, hx1, hT2, hK2⟩
        have hx2 := hx1 (by omega)
        have HT2 := Lib.hid hT2; have HK2 := Lib.hid (HK.out.trans hK2 (by simp))
        clear hx1 hT2 hK2
        go_wp2
        go_ret
        exact ⟨_, _, rfl, ⟨by omega, by omega⟩, HT2.out, HK2.out⟩
theorem infoDelta' : (Tryz.prog.info? 86).map (fun i => (i.zero, i.size, i.bytes)) = some (some (.agg #[.string ByteArray.empty, .int .u64 0]), 2, 24) := by kernel_rfl
def DeltasPost (b : Nat) (L : TapeL) (most : Int) (w : World) (e : Ending) (w' : World) : Prop := ∃ (v : Value) (ds : List DeltaD) (k' : Nat), e = .returned v ∧ (∀ d ∈ ds, DeltaOk d) ∧ 1 ≤ ds.length ∧ (ds.length : Int) ≤ most ∧
      w'.ownsRow w.heap.size 86 2 v ds.length (dCells ds) ∧ TapeAt w' b L k' ∧ Keeps [b] w w'
set_option maxRecDepth 100000 in
theorem deltas_any (b : Nat) (L : TapeL) (k : Nat) (most : Int) (w : World) (h : TapeAt w b L k) (h1 : 1 ≤ most) (h2 : most ≤ 1000) :
    Calls Tryz.prog 63 #[.pointer (some ⟨b, 0, none⟩), .int .i64 most] w fun e w' => DeltasPost b L most w e w' := by
  obtain ⟨_, _, _, _, _, _, hbw, _⟩ := h.cells
  have H := Lib.hid h
  obtain ⟨i0, hi0, hz0, hz1, hz2⟩ := info_parts infoDelta'
  have Hi0 := Lib.hid hi0; have Hz0 := Lib.hid hz0; have Hz1 := Lib.hid hz1; have Hz2 := Lib.hid hz2
  clear h hi0 hz0 hz1 hz2
  go_enter Tryz.func63, Tryz.ntmps63
  go_wp2_with fail
  refine (next_any b L k most w H.out).mono ?_
  rintro e w1 ⟨v, k1, rfl, hv0, hv8, hT, hK⟩
  have hv9 := hv8 h1
  have HT := Lib.hid hT; have HK := Lib.hid hK
  clear hv8 hT hK
  go_wp2
  go_loopw [5, 6] (fun out nn wr => ∃ (ds : List DeltaD) (r : Int) (k' : Nat), nn = .int .i64 r ∧ 0 ≤ r ∧ r + ds.length = 1 + v ∧ Hid (∀ d ∈ ds, DeltaOk d) ∧ Hid (wr.ownsRow w.heap.size 86 2 out ds.length (dCells ds)) ∧ Hid (TapeAt wr b L k') ∧ Hid (Keeps [b] w wr))
    (fun _ nn _ => (intOf nn).toNat)
  case atStart => exact ⟨[], 1 + v, k1, rfl, by omega, by simp, (show ∀ _, _ from by simp), World.ownsRow_nil _ _ _ _, HT.out, HK.out⟩
  case round =>
    obtain ⟨ds, r, k', rfl, hr0, hrl, Hok, Hown, HTr, HKr⟩ := hrel
    have Hrl := Lib.hid hrl
    have hr1 : r ≤ 1 + v := by omega
    clear hrl
    by_cases hr : 0 < r
    · go_wp2_with fail
      refine (series_any b L k' wr HTr.out).mono ?_
      rintro e w2 ⟨s, k2, rfl, hs, hT2, hK2⟩
      have Hs := Lib.hid hs; have HT2 := Lib.hid hT2; have HK2 := Lib.hid hK2
      clear hs hT2 hK2
      go_wp2_with fail
      refine (n_any b L k2 w2 HT2.out).mono ?_
      rintro e w3 ⟨n, k3, rfl, hn, hT3, hK3⟩
      have Hn := Lib.hid hn; have HT3 := Lib.hid hT3
      have hK4 := HK2.out.trans hK3 (by simp)
      have HK4 := Lib.hid hK4
      have hown3 : w3.ownsRow w.heap.size 86 2 u5 ds.length (dCells ds) := own_keep Hown.out hK4 (by simp; omega)
      have Hown3 := Lib.hid (hown3.alloc (.cells #[.string s, .int .u64 n] 86))
      have hds : ds.length ≤ 1000 := by have := Hrl.out; omega
      clear hn hT3 hK3 hK4 hown3
      go_wp2_with (at_builtin; refine wpList_append_any _ rfl (.tmp 15) (.tmp 21) _ rfl w.heap.size 86 i0 _ 2 24 Tryz.underlying24 Hi0.out Hz0.out Hz1.out Hz2.out rfl (by omega) u5 ds.length (dCells ds) rfl Hown3.out (w3.heap.size + 1) (some ⟨w3.heap.size, 0, none⟩) 1 1 (dCell ⟨s, n⟩) rfl (reads_new _ _ _ _ _ rfl) (by intro u hu; simp [dCell] at hu; rcases hu with rfl | rfl <;> rfl) (by unfold maxLen; omega) (by omega) (by have := HKr.out.size; have := HK4.out.size; simp; omega) ?_)
      intro v' w4 hown4 hg4 hat4
      have hlt0 := Hown.out.lt
      have hK5 : Keeps [b] w w4 := ((HKr.out.trans HK4.out (by simp)).alloc _).grown hg4 (fun g hg => .inr (hlt0 g hg).1)
      have hT5 : TapeAt w4 b L k3 := HT3.out.keep (M' := u5.ownBlock.toList) (((Keeps.refl _ _).alloc _).grown hg4 (fun g hg => .inl (by simpa using hg))) (by intro g hg; have := hlt0 g (by simpa using hg); omega)
      have hok4 : ∀ d ∈ ds ++ [(⟨s, n⟩ : DeltaD)], DeltaOk d := fun d hd => by
        rcases List.mem_append.1 hd with hd | hd
        · exact Hok.out d hd
        · simp at hd; subst hd; exact ⟨Hs.out, Hn.out⟩
      have Hok4 := Lib.hid hok4
      clear hok4
      have Hown4 : Hid (w4.ownsRow w.heap.size 86 2 v' (ds ++ [(⟨s, n⟩ : DeltaD)]).length (dCells (ds ++ [(⟨s, n⟩ : DeltaD)]))) := by
        show World.ownsRow _ _ _ _ _ _ _
        rw [List.length_append]
        unfold dCells at hown4 ⊢
        rw [List.flatMap_append]
        simpa using hown4
      have HT5 := Lib.hid hT5; have HK5 := Lib.hid hK5
      clear hown4 hg4 hat4 hlt0 hK5 hT5
      go_wp2
      go_roundw
      case rel => exact ⟨ds ++ [(⟨s, n⟩ : DeltaD)], r - 1, k3, rfl, by omega, by have := Hrl.out; simp; omega, Hok4, Hown4, HT5, HK5⟩
      case measure => simp [intOf]; omega
    · have hr0 : r = 0 := by omega
      subst hr0
      have hpost : DeltasPost b L most w (.returned u5) wr := ⟨u5, ds, k', rfl, Hok.out, by have := Hrl.out; omega, by have := Hrl.out; omega, Hown.out, HTr.out, HKr.out⟩
      go_wp2
      go_ret
      exact hpost
end Go.Proofs.YtinnifhnabncfaaGreatDoor.Tape
end
/- Contract of the tape's Entry. -/
section
namespace Go.Proofs.YtinnifhnabncfaaGreatDoor.Tape
open Go.RowKit Base Mem
def EntryOk (e : EntryD) : Prop := 0 ≤ e.fr ∧ e.fr < 8 ∧ 0 ≤ e.tag ∧ e.tag < 40 ∧
  ((e.kind = 2 ∧ NameOk e.ser ∧ e.ag = 0 ∧ e.sh = 0 ∧ e.seq = 0 ∧ e.ep = 0 ∧ e.ds = []) ∨
   (e.kind = 1 ∧ e.ser = ByteArray.empty ∧ 0 ≤ e.ag ∧ e.ag < 3 ∧ 0 ≤ e.sh ∧ e.sh < 2 ∧ 1 ≤ e.seq ∧ e.seq ≤ 90 ∧ 1 ≤ e.ep ∧ e.ep ≤ 4 ∧ 1 ≤ e.ds.length ∧ e.ds.length ≤ 4 ∧ ∀ d ∈ e.ds, DeltaOk d))
def EntryPost (b : Nat) (L : TapeL) (w : World) (e : Ending) (w' : World) : Prop := ∃ (en : EntryD) (dv : Value) (k' : Nat), e = .returned (.agg (eCell (en, dv)).toArray) ∧ EntryOk en ∧ (∀ M, (∀ g ∈ M, g < w.heap.size) → Ds w' M dv en.ds) ∧ TapeAt w' b L k' ∧ Keeps [b] w w'
def zeroE : Array Value := #[.int .i64 0, .int .i64 0, .int .i64 0, .int .i64 0, .int .i64 0, .slice none 0 0, .string ⟨#[]⟩, .int .i64 0, .int .i64 0]
/-- The cells of a block that is known whole. -/
theorem blk_cells {w : World} {g : Nat} {t : TypeId} {c0 c1 c2 c3 c4 c5 c6 c7 c8 : Value} (h : Blk w g t #[c0, c1, c2, c3, c4, c5, c6, c7, c8]) :
    w.cell? ⟨g, 0, none⟩ = some c0 ∧ w.cell? ⟨g, 1, none⟩ = some c1 ∧ w.cell? ⟨g, 2, none⟩ = some c2 ∧ w.cell? ⟨g, 3, none⟩ = some c3 ∧ w.cell? ⟨g, 4, none⟩ = some c4 ∧ w.cell? ⟨g, 5, none⟩ = some c5 ∧ w.cell? ⟨g, 6, none⟩ = some c6 ∧ w.cell? ⟨g, 7, none⟩ = some c7 ∧ w.cell? ⟨g, 8, none⟩ = some c8 ∧ (∀ i, w.frozen? ⟨g, i, none⟩ = false) :=
  ⟨h.cell 0, h.cell 1, h.cell 2, h.cell 3, h.cell 4, h.cell 5, h.cell 6, h.cell 7, h.cell 8, h.frozen⟩
theorem step_next (b : Nat) (L : TapeL) (k : Nat) (n : Int) (w0 w : World) (h : TapeAt w b L k) (hK : Keeps [b] w0 w) (hn : 1 ≤ n) :
    Calls Tryz.prog 62 #[.pointer (some ⟨b, 0, none⟩), .int .i64 n] w fun e w' => ∃ (v : Int) (k' : Nat), e = .returned (.int .i64 v) ∧ (0 ≤ v ∧ v < n) ∧ Hid (TapeAt w' b L k') ∧ Hid (Keeps [b] w w') ∧ Hid (Keeps [b] w0 w') :=
  (next_any b L k n w h).mono fun _ _ ⟨v, k', he, h0, h1, hT, hk⟩ => ⟨v, k', he, ⟨h0, h1 hn⟩, hT, hk, hK.trans hk (by simp)⟩
/-- What is known between two calls: the tape, the result's block g0, the entry's block g1. -/
structure St (w0 w : World) (b : Nat) (L : TapeL) (k g0 g1 : Nat) (c1 : Array Value) : Prop where
  tape : TapeAt w b L k
  keeps : Keeps [b] w0 w
  b0 : Blk w g0 26 zeroE
  b1 : Blk w g1 26 c1
  lt0 : b < g0
  lt1 : g0 < g1
  old : w0.heap.size ≤ g0
theorem St.set {w0 w : World} {b : Nat} {L : TapeL} {k g0 g1 : Nat} {c1 : Array Value} (h : St w0 w b L k g0 g1 c1) (i : Nat) (v : Value) : St w0 (w.setCell ⟨g1, i, none⟩ v) b L k g0 g1 (c1.setIfInBounds i v) := by
  have hk : Keeps [g1] w (w.setCell ⟨g1, i, none⟩ v) := (Keeps.refl _ _).setCell (by simp) v
  have := h.lt0; have := h.lt1; have := h.old
  exact ⟨h.tape.keep hk (by intro g hg; simp at hg; omega), h.keeps.trans hk (by intro g hg; simp at hg; right; omega), hk.blk h.b0 (by simp; omega), h.b1.set_ i v, h.lt0, h.lt1, h.old⟩
theorem St.keep {w0 w w' : World} {b : Nat} {L : TapeL} {k k' g0 g1 : Nat} {c1 : Array Value} (h : St w0 w b L k g0 g1 c1) (hT : TapeAt w' b L k') (hk : Keeps [b] w w') : St w0 w' b L k' g0 g1 c1 := by
  have := h.lt0; have := h.lt1; have := h.old
  exact ⟨hT, h.keeps.trans hk (by simp), hk.blk h.b0 (by simp; omega), hk.blk h.b1 (by simp; omega), h.lt0, h.lt1, h.old⟩
theorem st_next {w0 w : World} {b : Nat} {L : TapeL} {k g0 g1 : Nat} {c1 : Array Value} (h : St w0 w b L k g0 g1 c1) (n : Int) (hn : 1 ≤ n) :
    Calls Tryz.prog 62 #[.pointer (some ⟨b, 0, none⟩), .int .i64 n] w fun e w' => ∃ (v : Int) (k' : Nat), e = .returned (.int .i64 v) ∧ (0 ≤ v ∧ v < n) ∧ Hid (St w0 w' b L k' g0 g1 c1) :=
  (next_any b L k n w h.tape).mono fun _ _ ⟨v, k', he, h0, h1, hT, hk⟩ => ⟨v, k', he, ⟨h0, h1 hn⟩, h.keep hT hk⟩
theorem st_series {w0 w : World} {b : Nat} {L : TapeL} {k g0 g1 : Nat} {c1 : Array Value} (h : St w0 w b L k g0 g1 c1) :
    Calls Tryz.prog 55 #[.pointer (some ⟨b, 0, none⟩)] w fun e w' => ∃ (s : ByteArray) (k' : Nat), e = .returned (.string s) ∧ Hid (NameOk s) ∧ Hid (St w0 w' b L k' g0 g1 c1) :=
  (series_any b L k w h.tape).mono fun _ _ ⟨s, k', he, h0, hT, hk⟩ => ⟨s, k', he, h0, h.keep hT hk⟩
def DelOk (w0 w' : World) (v : Value) (ds : List DeltaD) : Prop := (∀ d ∈ ds, DeltaOk d) ∧ 1 ≤ ds.length ∧ ds.length ≤ 4 ∧ (∀ M, (∀ g ∈ M, g < w0.heap.size) → Ds w' M v ds)
theorem st_deltas {w0 w : World} {b : Nat} {L : TapeL} {k g0 g1 : Nat} {c1 : Array Value} (h : St w0 w b L k g0 g1 c1) :
    Calls Tryz.prog 63 #[.pointer (some ⟨b, 0, none⟩), .int .i64 4] w fun e w' => ∃ (v : Value) (ds : List DeltaD) (k' : Nat), e = .returned v ∧ Hid (DelOk w w' v ds) ∧ Hid (St w0 w' b L k' g0 g1 c1) :=
  (deltas_any b L k 4 w h.tape (by omega) (by omega)).mono fun _ _ ⟨v, ds, k', he, h1, h2, h3, h4, hT, hk⟩ => ⟨v, ds, k', he, ⟨h1, h2, by omega, fun M hM => Rd.of_own h4 hM⟩, h.keep hT hk⟩
set_option maxRecDepth 100000 in
set_option maxHeartbeats 1000000 in
theorem entry_any (b : Nat) (L : TapeL) (k : Nat) (w : World) (h : TapeAt w b L k) :
    Calls Tryz.prog 16 #[.pointer (some ⟨b, 0, none⟩)] w fun e w' => EntryPost b L w e w' := by
  have hbw := h.lt
  have H := Lib.hid h
  clear h
  go_enter Tryz.func16, Tryz.ntmps16
  go_wp2_with fail
  have hT0 : TapeAt (w.alloc (.cells zeroE 26)) b L k := H.out.keep (M' := []) ((Keeps.refl _ _).alloc _) (by simp)
  have hB0 : Blk (w.alloc (.cells zeroE 26)) w.heap.size 26 zeroE := Blk.new w _ _
  have hK0 : Keeps [b] w (w.alloc (.cells zeroE 26)) := (Keeps.refl _ _).alloc _
  have hsz : w.heap.size < (w.alloc (.cells zeroE 26)).heap.size := by simp
  refine (step_next b L k 8 w _ hT0 hK0 (by omega)).mono ?_
  rintro e w1 ⟨fr, k1, rfl, ⟨hf0, hf1⟩, HT1, HK1, HKw1⟩
  have hB1 := HK1.out.blk hB0 (by simp; omega)
  have hs1 := HK1.out.size
  clear hT0 hB0 hK0
  obtain ⟨g0, hg0⟩ : ∃ g, g = w.heap.size := ⟨_, rfl⟩
  rw [← hg0] at hB1 ⊢
  have hbg0 : b < g0 := by omega
  have hg1 : g0 < w1.heap.size := by omega
  have HB1 := Lib.hid hB1; have Hg0 := Lib.hid hg0
  clear hB1 hg0 hsz hs1
  go_wp2_with fail
  refine (step_next b L k1 40 w w1 HT1.out HKw1.out (by omega)).mono ?_
  rintro e w2 ⟨tag, k2, rfl, ⟨ht0, ht1⟩, HT2, HK2, HKw2⟩
  have HB2 := Lib.hid (HK2.out.blk HB1.out (by simp; omega))
  have hg2 : g0 < w2.heap.size := Nat.lt_of_lt_of_le hg1 HK2.out.size
  go_wp2_with fail
  have hst : St w (w2.alloc (.cells #[.int .i64 1, .int .i64 0, .int .i64 0, .int .i64 0, .int .i64 0, .slice none 0 0, .string ⟨#[]⟩, .int .i64 fr, .int .i64 tag] 26)) b L k2 g0 w2.heap.size #[.int .i64 1, .int .i64 0, .int .i64 0, .int .i64 0, .int .i64 0, .slice none 0 0, .string ⟨#[]⟩, .int .i64 fr, .int .i64 tag] :=
    ⟨HT2.out.keep (M' := []) ((Keeps.refl _ _).alloc _) (by simp), HKw2.out.alloc _, (HB2.out.below (below_new' w2 _) hg2), Blk.new w2 _ _, hbg0, hg2, by have := Hg0.out; omega⟩
  have Hst := Lib.hid hst
  clear hst
  generalize (w2.alloc (.cells #[.int .i64 1, .int .i64 0, .int .i64 0, .int .i64 0, .int .i64 0, .slice none 0 0, .string ⟨#[]⟩, .int .i64 fr, .int .i64 tag] 26)) = w3 at *
  generalize w2.heap.size = g1 at *
  clear HT2 HK2 HKw2 HB2 HT1 HK1 HKw1 HB1 hg1
  go_wp2_with fail
  refine (st_next Hst.out 5 (by omega)).mono ?_
  rintro e w4 ⟨v, k4, rfl, ⟨hv0, hv1⟩, H4⟩
  clear Hst
  by_cases c0 : v = 0
  · subst c0
    go_wp2_with fail
    refine (st_series H4.out).mono ?_
    rintro e w5 ⟨sr, k5, rfl, Hok, H5⟩
    obtain ⟨q0, q1, q2, q3, q4, q5, q6, q7, q8, qf⟩ := blk_cells H5.out.b1
    obtain ⟨r0, r1, r2, r3, r4, r5, r6, r7, r8, rf⟩ := blk_cells H5.out.b0
    have H6 := Lib.hid ((H5.out.set 0 (.int .i64 2)).set 6 (.string sr))
    have hl0 := H5.out.lt0; have hl1 := H5.out.lt1; have hl2 := H5.out.old
    clear H4 H5
    go_wp2
    refine bodyPost_ret (v := .agg #[.int .i64 2, .int .i64 0, .int .i64 0, .int .i64 0, .int .i64 0, .slice none 0 0, .string sr, .int .i64 fr, .int .i64 tag]) (by simp [results, Tryz.results16, go_sem, r0, r1, r2, r3, r4, r5, r6, r7, r8]) rfl ?_
    refine ⟨⟨2, 0, 0, 0, 0, [], sr, fr, tag⟩, .slice none 0 0, k5, rfl, ⟨hf0, hf1, ht0, ht1, .inl ⟨rfl, Hok.out, rfl, rfl, rfl, rfl, rfl⟩⟩, fun M _ => Ds.nil _ _, ?_, ?_⟩
    · refine H6.out.tape.keep (M' := [g0]) ?_ (by intro g hg; simp at hg; omega)
      repeat (first | (with_reducible exact Keeps.refl _ _) | (with_reducible refine Keeps.setCell ?_ (by simp) _))
    · repeat (first | (with_reducible exact H6.out.keeps) | (with_reducible refine Keeps.setCell ?_ (by right; simp; omega) _))
  · have d0 : (v == 0) = false := by simpa using c0
    clear c0
    go_wp2_with fail
    refine (st_next H4.out 3 (by omega)).mono ?_
    rintro e w5 ⟨ag, k5, rfl, ⟨ha0, ha1⟩, H5⟩
    clear H4
    go_wp2_with fail
    refine (st_next H5.out 2 (by omega)).mono ?_
    rintro e w6 ⟨sh, k6, rfl, ⟨hs0, hs1⟩, H6⟩
    clear H5
    go_wp2_with fail
    refine (st_next H6.out 12 (by omega)).mono ?_
    rintro e w7 ⟨sq, k7, rfl, ⟨hq0, hq1⟩, H7⟩
    clear H6
    obtain ⟨q0, q1, q2, q3, q4, q5, q6, q7, q8, qf⟩ := blk_cells H7.out.b1
    have hst := ((H7.out.set 1 (.int .i64 ag)).set 2 (.int .i64 sh)).set 3 (.int .i64 (1 + sq))
    have H8 := Lib.hid hst
    clear hst H7
    go_wp2_with fail
    refine (st_next H8.out 9 (by omega)).mono ?_
    rintro e w9 ⟨v9, k9, rfl, ⟨hn0, hn1⟩, H9⟩
    clear H8 q0 q1 q2 q3 q4 q5 q6 q7 q8 qf
    by_cases c9 : v9 = 0
    · subst c9
      go_wp2_with fail
      refine (st_next H9.out 90 (by omega)).mono ?_
      rintro e wa ⟨sq2, ka, rfl, ⟨hz0, hz1⟩, Ha⟩
      clear H9 hq0 hq1
      have hsq : 1 ≤ 1 + sq2 ∧ 1 + sq2 ≤ 90 := by omega
      obtain ⟨q0, q1, q2, q3, q4, q5, q6, q7, q8, qf⟩ := blk_cells Ha.out.b1
      have hst := Ha.out.set 3 (.int .i64 (1 + sq2))
      have Hb := Lib.hid hst
      clear hst Ha
      go_wp2_with fail
      refine (st_next Hb.out 4 (by omega)).mono ?_
      rintro e wb ⟨ep, kb, rfl, ⟨he0, he1⟩, Hc⟩
      clear Hb
      try clear q0 q1 q2 q3 q4 q5 q6 q7 q8 qf
      obtain ⟨q0, q1, q2, q3, q4, q5, q6, q7, q8, qf⟩ := blk_cells Hc.out.b1
      have Hd := Lib.hid (Hc.out.set 4 (.int .i64 (1 + ep)))
      clear Hc
      go_wp2_with fail
      refine (st_deltas Hd.out).mono ?_
      rintro e wd ⟨dv, ds, kd, rfl, Hdel, He⟩
      clear q0 q1 q2 q3 q4 q5 q6 q7 q8 qf
      obtain ⟨Av, cv, hve, _⟩ := (Hdel.out.2.2.2 [] (by simp)).len
      subst hve
      have hdold : w.heap.size ≤ (wb.setCell ⟨g1, 4, none⟩ (.int .i64 (1 + ep))).heap.size := Hd.out.keeps.size
      have hgs : g1 < (wb.setCell ⟨g1, 4, none⟩ (.int .i64 (1 + ep))).heap.size := Hd.out.b1.lt
      have Hdold := Lib.hid hdold
      have Hgs := Lib.hid hgs
      clear hdold hgs
      obtain ⟨q0, q1, q2, q3, q4, q5, q6, q7, q8, qf⟩ := blk_cells He.out.b1
      obtain ⟨r0, r1, r2, r3, r4, r5, r6, r7, r8, rf⟩ := blk_cells He.out.b0
      have hl2 := He.out.old
      have Hf := Lib.hid (He.out.set 5 (.slice Av ds.length cv))
      clear He Hd
      go_wp2
      refine bodyPost_ret (v := .agg #[.int .i64 1, .int .i64 ag, .int .i64 sh, .int .i64 (1 + sq2), .int .i64 (1 + ep), .slice Av ds.length cv, .string ⟨#[]⟩, .int .i64 fr, .int .i64 tag]) (by simp [results, Tryz.results16, go_sem, r0, r1, r2, r3, r4, r5, r6, r7, r8]) rfl ?_
      refine ⟨⟨1, ag, sh, 1 + sq2, 1 + ep, ds, ⟨#[]⟩, fr, tag⟩, .slice Av ds.length cv, kd, rfl, ⟨hf0, hf1, ht0, ht1, .inr ⟨rfl, rfl, ha0, ha1, hs0, hs1, hsq.1, hsq.2, by simp only []; omega, by simp only []; omega, Hdel.out.2.1, Hdel.out.2.2.1, Hdel.out.1⟩⟩, ?_, ?_, ?_⟩
      · intro M hM
        have h0 := Hdel.out.2.2.2 (g0 :: g1 :: M) (by intro g hg; simp at hg; have := Hgs.out; have := Hdold.out; rcases hg with rfl | rfl | hg; omega; omega; have := hM g hg; omega)
        refine ((h0.keep (M' := [g0, g1]) ?_ (by intro g hg; simp at hg; rcases hg with rfl | rfl <;> simp)).avoid (fun g hg => .inl (List.mem_cons_of_mem _ (List.mem_cons_of_mem _ hg))))
        repeat (first | (with_reducible exact Keeps.refl _ _) | (with_reducible refine Keeps.setCell ?_ (by simp) _))
      · refine Hf.out.tape.keep (M' := [g0]) ?_ (by intro g hg; simp at hg; omega)
        repeat (first | (with_reducible exact Keeps.refl _ _) | (with_reducible refine Keeps.setCell ?_ (by simp) _))
      · repeat (first | (with_reducible exact Hf.out.keeps) | (with_reducible refine Keeps.setCell ?_ (by right; simp; omega) _))

    · have d9 : (v9 == 0) = false := by simpa using c9
      clear c9
      have hsq : 1 ≤ 1 + sq ∧ 1 + sq ≤ 90 := by omega
      have Hb := H9
      clear H9
      go_wp2_with fail
      refine (st_next Hb.out 4 (by omega)).mono ?_
      rintro e wb ⟨ep, kb, rfl, ⟨he0, he1⟩, Hc⟩
      clear Hb
      try clear q0 q1 q2 q3 q4 q5 q6 q7 q8 qf
      obtain ⟨q0, q1, q2, q3, q4, q5, q6, q7, q8, qf⟩ := blk_cells Hc.out.b1
      have Hd := Lib.hid (Hc.out.set 4 (.int .i64 (1 + ep)))
      clear Hc
      go_wp2_with fail
      refine (st_deltas Hd.out).mono ?_
      rintro e wd ⟨dv, ds, kd, rfl, Hdel, He⟩
      clear q0 q1 q2 q3 q4 q5 q6 q7 q8 qf
      obtain ⟨Av, cv, hve, _⟩ := (Hdel.out.2.2.2 [] (by simp)).len
      subst hve
      have hdold : w.heap.size ≤ (wb.setCell ⟨g1, 4, none⟩ (.int .i64 (1 + ep))).heap.size := Hd.out.keeps.size
      have hgs : g1 < (wb.setCell ⟨g1, 4, none⟩ (.int .i64 (1 + ep))).heap.size := Hd.out.b1.lt
      have Hdold := Lib.hid hdold
      have Hgs := Lib.hid hgs
      clear hdold hgs
      obtain ⟨q0, q1, q2, q3, q4, q5, q6, q7, q8, qf⟩ := blk_cells He.out.b1
      obtain ⟨r0, r1, r2, r3, r4, r5, r6, r7, r8, rf⟩ := blk_cells He.out.b0
      have hl2 := He.out.old
      have Hf := Lib.hid (He.out.set 5 (.slice Av ds.length cv))
      clear He Hd
      go_wp2
      refine bodyPost_ret (v := .agg #[.int .i64 1, .int .i64 ag, .int .i64 sh, .int .i64 (1 + sq), .int .i64 (1 + ep), .slice Av ds.length cv, .string ⟨#[]⟩, .int .i64 fr, .int .i64 tag]) (by simp [results, Tryz.results16, go_sem, r0, r1, r2, r3, r4, r5, r6, r7, r8]) rfl ?_
      refine ⟨⟨1, ag, sh, 1 + sq, 1 + ep, ds, ⟨#[]⟩, fr, tag⟩, .slice Av ds.length cv, kd, rfl, ⟨hf0, hf1, ht0, ht1, .inr ⟨rfl, rfl, ha0, ha1, hs0, hs1, hsq.1, hsq.2, by simp only []; omega, by simp only []; omega, Hdel.out.2.1, Hdel.out.2.2.1, Hdel.out.1⟩⟩, ?_, ?_, ?_⟩
      · intro M hM
        have h0 := Hdel.out.2.2.2 (g0 :: g1 :: M) (by intro g hg; simp at hg; have := Hgs.out; have := Hdold.out; rcases hg with rfl | rfl | hg; omega; omega; have := hM g hg; omega)
        refine ((h0.keep (M' := [g0, g1]) ?_ (by intro g hg; simp at hg; rcases hg with rfl | rfl <;> simp)).avoid (fun g hg => .inl (List.mem_cons_of_mem _ (List.mem_cons_of_mem _ hg))))
        repeat (first | (with_reducible exact Keeps.refl _ _) | (with_reducible refine Keeps.setCell ?_ (by simp) _))
      · refine Hf.out.tape.keep (M' := [g0]) ?_ (by intro g hg; simp at hg; omega)
        repeat (first | (with_reducible exact Keeps.refl _ _) | (with_reducible refine Keeps.setCell ?_ (by simp) _))
      · repeat (first | (with_reducible exact Hf.out.keeps) | (with_reducible refine Keeps.setCell ?_ (by right; simp; omega) _))

end Go.Proofs.YtinnifhnabncfaaGreatDoor.Tape
end
/- Plain words: an entry of a tape is right; two entries are the same just where their bytes are. -/
section
namespace Go.Proofs.YtinnifhnabncfaaGreatDoor.Vi
open Go.RowKit Base Mem Tape
theorem toList_inj {a b : ByteArray} (h : a.toList = b.toList) : a = b := by
  rw [Lib.toList_data, Lib.toList_data] at h
  obtain ⟨⟨a⟩⟩ := a
  obtain ⟨⟨b⟩⟩ := b
  simp only [] at h
  rw [h]
set_option maxRecDepth 100000 in
theorem names_ok : (nameL.all fun l => serOk ⟨l.toArray⟩) = true := by decide +kernel
theorem names_len : (nameL.all fun l => decide (l.length ≤ 100)) = true := by decide
theorem name_ser {s : ByteArray} (h : NameOk s) : serOk s = true ∧ s.size ≤ 100 := by
  obtain ⟨l, hl, rfl⟩ := h
  refine ⟨List.all_eq_true.1 names_ok l hl, ?_⟩
  have := List.all_eq_true.1 names_len l hl
  show l.toArray.size ≤ 100
  simpa using this
theorem entry_right {e : EntryD} (h : EntryOk e) : rightE e = 0 ∧ Short e ∧ Wf e := by
  obtain ⟨h1, h2, h3, h4, h5⟩ := h
  have hw : withinB e.fr 8 = true := by simp [withinB]; omega
  have ht : decide (e.tag < 0) = false := decide_eq_false (by omega)
  rcases h5 with ⟨hk, hn, ha, hs, hq, hp, hd⟩ | ⟨hk, hse, a0, a1, s0, s1, q0, q1, p0, p1, d0, d1, hd⟩
  · obtain ⟨hser, hsz⟩ := (name_ser hn)
    refine ⟨?_, ⟨by omega, by simp [hd], by simp [hd]⟩, by omega, by omega, by omega, by simp [hd]⟩
    unfold rightE kindS
    rw [hw, ht, hk, ha, hs, hq, hp, hd, hser]
    rfl
  · refine ⟨?_, ⟨by rw [hse]; decide, fun d hx => by have := (name_ser (hd d hx).1).2; omega, by omega⟩, by omega, by omega, by omega, fun d hx => ⟨by have := (hd d hx).2; omega, by have := (hd d hx).2; omega⟩⟩
    have hb : badId e = false := by
      unfold badId withinB
      simp; omega
    have h0 : (e.ds.length == 0 || e.ds.any fun d => d.n == 0) = false := by
      rw [Bool.or_eq_false_iff]
      refine ⟨by simp; intro h; rw [h] at d0; simp at d0, ?_⟩
      rw [List.any_eq_false]
      intro d hx
      have := (hd d hx).2
      simp; omega
    have hall : (e.ds.all fun d => serOk d.ser) = true := by
      rw [List.all_eq_true]
      exact fun d hx => (name_ser (hd d hx).1).1
    have hse2 : e.ser.toList.isEmpty = true := by rw [hse]; decide +kernel
    unfold rightE kindS writtenS
    rw [hw, ht, hb, h0, hall, hk, hse2, if_neg (by simp), if_neg (by simp), if_pos rfl, if_neg (by simp), if_neg (by omega), if_neg (by simp), if_pos rfl]
theorem dsEq_iff (a b : List DeltaD) : dsEq a b = true ↔ a = b := by
  unfold dsEq
  induction a generalizing b with
  | nil => cases b <;> simp [Lib.allEq]
  | cons x a ih =>
    cases b with
    | nil => simp [Lib.allEq]
    | cons y b =>
      obtain ⟨xs, xn⟩ := x
      obtain ⟨ys, yn⟩ := y
      simp only [Lib.allEq, Bool.and_eq_true, ih, dEq, beq_iff_eq, List.cons.injEq, DeltaD.mk.injEq]
      constructor
      · rintro ⟨⟨h1, h2⟩, h3⟩; exact ⟨⟨toList_inj h1, h2⟩, h3⟩
      · rintro ⟨⟨rfl, rfl⟩, rfl⟩; exact ⟨⟨rfl, rfl⟩, rfl⟩
theorem sameE_iff (a b : EntryD) : sameE a b = true ↔ a = b := by
  obtain ⟨k, ag, sh, sq, ep, ds, se, fr, tg⟩ := a
  obtain ⟨k', ag', sh', sq', ep', ds', se', fr', tg'⟩ := b
  simp only [sameE, eqI, Bool.and_eq_true, dsEq_iff, beq_iff_eq, EntryD.mk.injEq]
  constructor
  · rintro ⟨⟨⟨⟨⟨⟨h1, h2, h3, h4⟩, h5⟩, h6⟩, h7⟩, h8⟩, h9⟩
    exact ⟨h1, h2, h3, h4, h5, h6, toList_inj h7, h8, h9⟩
  · rintro ⟨h1, h2, h3, h4, h5, h6, h7, h8, h9⟩
    exact ⟨⟨⟨⟨⟨⟨h1, h2, h3, h4⟩, h5⟩, h6⟩, by rw [h7]⟩, h8⟩, h9⟩
theorem bytes_same {a b : EntryD} (ha : rightE a = 0) (hb : rightE b = 0) (wa : Wf a) (wb : Wf b) (sa : Short a) (sb : Short b) : (bytesE a = bytesE b) ↔ sameE a b = true := by
  rw [sameE_iff]
  constructor
  · intro h
    have h1 := read_bytes a ha wa sa
    have h2 := read_bytes b hb wb sb
    rw [h, h2] at h1
    exact (Prod.mk.inj h1).1.symm
  · rintro rfl; rfl
theorem dBytes_len2 (ds : List DeltaD) (h : ∀ d ∈ ds, d.ser.size ≤ 100) (hn : ∀ d ∈ ds, NOk d) : (ds.flatMap dBytes).length ≤ ds.length * 120 := by
  induction ds with
  | nil => simp
  | cons d ds ih =>
    have h1 := ih (fun x hx => h x (by simp [hx])) (fun x hx => hn x (by simp [hx]))
    have h2 := h d (by simp)
    obtain ⟨h3, h4⟩ := hn d (by simp)
    have h5 := Lib.uvarint_length64 (x := d.ser.size) (by omega)
    have h6 := Lib.uvarint_length64 (x := d.n.toNat) (by omega)
    have h7 : (dBytes d).length = (Lib.uvarint d.ser.size).length + d.ser.size + (Lib.uvarint d.n.toNat).length := by
      unfold dBytes; rw [List.length_append, List.length_append]; rfl
    rw [List.flatMap_cons, List.length_append, List.length_cons]
    omega
theorem bytesE_len {e : EntryD} (h : EntryOk e) : (bytesE e).length ≤ 1200 := by
  obtain ⟨hr, _, hw1, hw2, hw3, hw4⟩ := entry_right h
  obtain ⟨h1, h2, h3, h4, h5⟩ := h
  have u1 := Lib.uvarint_length64 (x := e.fr.toNat) (by omega)
  have u2 := Lib.uvarint_length64 (x := e.tag.toNat) (by omega)
  unfold bytesE headB
  rcases h5 with ⟨hk, hn, _⟩ | ⟨hk, _, a0, a1, s0, s1, q0, q1, p0, p1, d0, d1, hd⟩
  · have h6 := (name_ser hn).2
    have u3 := Lib.uvarint_length64 (x := e.ser.size) (by omega)
    have h7 : (sB e.ser).length = e.ser.size := rfl
    rw [if_pos hk]
    simp only [List.length_append, List.length_singleton]
    omega
  · have u3 := Lib.uvarint_length64 (x := e.ag.toNat) (by omega)
    have u4 := Lib.uvarint_length64 (x := e.sh.toNat) (by omega)
    have u5 := Lib.uvarint_length64 (x := e.seq.toNat) (by omega)
    have u6 := Lib.uvarint_length64 (x := e.ep.toNat) (by omega)
    have u7 := Lib.uvarint_length64 (x := e.ds.length) (by omega)
    have h8 := dBytes_len2 e.ds (fun d hx => (name_ser (hd d hx).1).2) hw4
    rw [if_neg (by omega)]
    simp only [List.length_append, List.length_singleton]
    omega
theorem ebytes_ok (e : EntryD) (dv : Value) (m : Int) (w : World) (hr0 : rightE e = 0) (h : Ds w [] dv e.ds) (hs : Short e) (hw : Wf e) (hm : w.cell? ⟨0, 0, none⟩ = some (.int .i64 m)) :
    Calls Tryz.prog 64 #[.agg (eCell (e, dv)).toArray] w fun r w' => EB0 (bytesE e) w r w' := by
  rcases (right_facts hr0).2 with hk | ⟨hk, _⟩
  · exact ebytes_2 e dv m w hk hr0 h hs hw hm
  · exact ebytes_1 e dv m w hk hr0 h hs hw hm
end Go.Proofs.YtinnifhnabncfaaGreatDoor.Vi
end
/- Contracts of hopperref4.SameDeltas, Same at any arguments. -/
section
namespace Go.Proofs.YtinnifhnabncfaaGreatDoor.Vi
open Go.RowKit Base Mem Go.Shelf
theorem dEq_iff (x y : DeltaD) : dEq x y = true ↔ x = y := by
  have := dsEq_iff [x] [y]
  unfold dsEq at this
  simpa [Lib.allEq] using this
theorem ds_len {a b : List DeltaD} (h : a.length ≠ b.length) : dsEq a b = false := by
  rw [Bool.eq_false_iff]
  intro e
  exact h (by rw [(dsEq_iff a b).1 e])
theorem ds_diff {a b : List DeltaD} {x : Nat} (ha : x < a.length) (hb : x < b.length) (h : dEq a[x] b[x] = false) : dsEq a b = false := by
  rw [Bool.eq_false_iff]
  intro e
  have := (dsEq_iff a b).1 e
  subst this
  rw [(dEq_iff _ _).2 rfl] at h
  cases h
theorem ds_next {a b : List DeltaD} {x : Nat} (ha : x < a.length) (hb : x < b.length) (h : dEq a[x] b[x] = true) (ht : a.take x = b.take x) : a.take (x + 1) = b.take (x + 1) := by
  rw [List.take_succ_eq_append_getElem ha, List.take_succ_eq_append_getElem hb, ht, (dEq_iff _ _).1 h]
set_option maxRecDepth 100000 in
theorem rsameDs_any (va vb : Value) (a b : List DeltaD) (w : World) (ha : Ds w [] va a) (hb : Ds w [] vb b) (hl : a.length ≤ 4611686018427387904) (hl2 : b.length ≤ 4611686018427387904) :
    Calls Tryz.prog 25 #[va, vb] w fun e w' => e = .returned (.bool (dsEq a b)) ∧ Below w.heap.size w w' := by
  have Ha := Lib.hid ha; have Hb := Lib.hid hb
  obtain ⟨Aa, ca, rfl, hca⟩ := ha.len
  obtain ⟨Ab, cb, rfl, hcb⟩ := hb.len
  clear ha hb
  by_cases hn : a.length = b.length
  · have hni : ((a.length : Int) != (b.length : Int)) = false := by simp [hn]
    have Hn := Lib.hid hn
    have Hfin : Hid (∀ x, x = a.length → a.take x = b.take x → dsEq a b = true) := fun x hx ht => by
      subst hx
      rw [List.take_length, List.take_of_length_le (by omega)] at ht
      exact (dsEq_iff a b).2 ht
    clear hn
    go_enter Tryz.func25, Tryz.ntmps25
    go_wp2_with fail
    go_loopw [13] (fun i wr => ∃ (x q : Nat), i = .int .i64 x ∧ x ≤ a.length ∧ Hid (a.take x = b.take x) ∧ wr = w.drewN q) (fun i _ => a.length - (intOf i).toNat)
    case atStart => exact ⟨0, 0, rfl, by omega, (show a.take 0 = b.take 0 by simp), rfl⟩
    case round =>
      obtain ⟨x, q, rfl, hx, Ht, rfl⟩ := hrel
      by_cases hlt : x < a.length
      · have hltb : x < b.length := by have := Hn.out; omega
        obtain ⟨ga, oa, _, e1, _, hga, _, h1⟩ := Rd.at_ dCell 2 (fun _ => rfl) Ha.out hlt
        obtain ⟨gb, ob, _, e2, _, hgb, _, h2⟩ := Rd.at_ dCell 2 (fun _ => rfl) Hb.out hltb
        obtain rfl : Aa = some ⟨ga, oa, none⟩ := by injection e1
        obtain rfl : Ab = some ⟨gb, ob, none⟩ := by injection e2
        clear e1 e2
        have c1 : w.cell? ⟨ga, oa + x * 2 + 0, none⟩ = some (.string a[x].ser) := h1 0 _ rfl
        have c2 : w.cell? ⟨ga, oa + x * 2 + 1, none⟩ = some (.int .u64 a[x].n) := h1 1 _ rfl
        have c3 : w.cell? ⟨gb, ob + x * 2 + 0, none⟩ = some (.string b[x].ser) := h2 0 _ rfl
        have c4 : w.cell? ⟨gb, ob + x * 2 + 1, none⟩ = some (.int .u64 b[x].n) := h2 1 _ rfl
        rw [Nat.add_zero] at c1 c3
        have hx1 : (x : Int) < (a.length : Int) := by omega
        have hx2 : (x : Int) < (b.length : Int) := by omega
        have Hd := Lib.hid (ds_diff hlt hltb)
        have Hx := Lib.hid (fun h => ds_next hlt hltb h Ht.out)
        have he := fun W => dEq_at.1 a[x] b[x] W
        simp only [dCell] at he
        clear h1 h2
        generalize a[x] = da at *
        generalize b[x] = db at *
        obtain ⟨sa, na⟩ := da
        obtain ⟨sb, nb⟩ := db
        simp only [] at c1 c2 c3 c4 he
        cases hd : dEq ⟨sa, na⟩ ⟨sb, nb⟩ with
        | true =>
          rw [hd] at he
          have hnx := Lib.hid (Hx.out hd)
          clear Hd Hx hd
          go_wp2_with fail
          go_quiet (fail)
          go_wp2
          go_roundw
          case rel => exact ⟨x + 1, _, by go_num, by omega, hnx, rfl⟩
          case measure => simp [intOf] <;> omega
        | false =>
          rw [hd] at he
          have hf := Lib.hid (Hd.out hd)
          clear Hd Hx hd
          go_wp2_with fail
          go_quiet (fail)
          go_wp2
          go_ret
          rw [hf.out]
          exact ⟨rfl, (((Keeps.refl [] w).drewN _).drewN _).below⟩
      · obtain rfl : x = a.length := by omega
        have hf := Lib.hid (Hfin.out _ rfl Ht.out)
        go_wp2
        go_ret
        rw [hf.out]
        exact ⟨rfl, ((Keeps.refl [] w).drewN _).below⟩
  · have hni : ((a.length : Int) != (b.length : Int)) = true := by rw [bne_iff_ne]; omega
    have hf := Lib.hid (ds_len hn)
    clear hn Ha Hb
    go_enter Tryz.func25, Tryz.ntmps25
    go_wp2
    go_ret
    rw [hf.out]
    exact ⟨rfl, Below.refl _ _⟩
theorem and7 (a b c d e f g : Bool) : (a && b && c && d && e && f && g) = (a && (b && (c && (e && (f && (g && d)))))) := by
  cases a <;> cases b <;> cases c <;> cases d <;> cases e <;> cases f <;> cases g <;> rfl
theorem sameE_parts (a b : EntryD) : sameE a b = (a.kind == b.kind && (eqI a.ag a.sh a.seq b.ag b.sh b.seq && (a.ep == b.ep && (a.ser.toList == b.ser.toList && (a.fr == b.fr && (a.tag == b.tag && dsEq a.ds b.ds)))))) := and7 _ _ _ _ _ _ _
set_option maxRecDepth 100000 in
set_option maxHeartbeats 2000000 in
theorem rsame_any (va vb : Value) (a b : EntryD) (w : World) (ha : Ds w [] va a.ds) (hb : Ds w [] vb b.ds) (hl : a.ds.length ≤ 4611686018427387904) (hl2 : b.ds.length ≤ 4611686018427387904) :
    Calls Tryz.prog 24 #[.agg (eCell (a, va)).toArray, .agg (eCell (b, vb)).toArray] w fun r w' => SamePost (sameE a b) w r w' := by
  have Ha := Lib.hid ha; have Hb := Lib.hid hb
  obtain ⟨Aa, ca, rfl, hca⟩ := ha.len
  obtain ⟨Ab, cb, rfl, hcb⟩ := hb.len
  have HS := Lib.hid (sameE_parts a b)
  generalize sameE a b = sm at *
  obtain ⟨kind, ag, sh, seq, ep, ds, ser, fr, tag⟩ := a
  obtain ⟨kind', ag', sh', seq', ep', ds', ser', fr', tag'⟩ := b
  simp only [] at HS Ha Hb hl hl2 hca hcb
  simp only [eCell]
  clear ha hb
  have hb2 : Hid (∀ o o', Below w.heap.size w ((w.alloc o).alloc o')) := fun o o' => ((Below.refl _ _).alloc (Nat.le_refl _) o).alloc (by simp) o'
  show Calls Tryz.prog 24 #[.agg #[.int .i64 kind, .int .i64 ag, .int .i64 sh, .int .i64 seq, .int .i64 ep, .slice Aa ds.length ca, .string ser, .int .i64 fr, .int .i64 tag], .agg #[.int .i64 kind', .int .i64 ag', .int .i64 sh', .int .i64 seq', .int .i64 ep', .slice Ab ds'.length cb, .string ser', .int .i64 fr', .int .i64 tag']] w fun r w' => SamePost sm w r w'
  go_enter Tryz.func24, Tryz.ntmps24
  go_upto_region 1 with (fail)
  cases h1 : (kind == kind') with
  | false =>
    have hR : Hid (sm = false) := by show _ = _; rw [HS.out, h1]; rfl
    clear HS
    go_wp2
    go_ret
    exact ⟨by rw [hR.out]; rfl, hb2.out _ _⟩
  | true =>
    rw [h1, Bool.true_and] at HS
    cases h2 : (eqI ag sh seq ag' sh' seq') with
    | false =>
      have he := fun W => eqI_run ag sh seq ag' sh' seq' false h2 W
      have hR : Hid (sm = false) := by show _ = _; rw [HS.out, h2]; rfl
      clear HS
      go_wp2
      go_ret
      exact ⟨by rw [hR.out]; rfl, hb2.out _ _⟩
    | true =>
      have he := fun W => eqI_run ag sh seq ag' sh' seq' true h2 W
      rw [h2, Bool.true_and] at HS
      cases h3 : (ep == ep') with
      | false =>
        have hR : Hid (sm = false) := by show _ = _; rw [HS.out, h3]; rfl
        clear HS
        go_wp2
        go_ret
        exact ⟨by rw [hR.out]; rfl, hb2.out _ _⟩
      | true =>
        rw [h3, Bool.true_and] at HS
        cases h4 : (ser.toList == ser'.toList) with
        | false =>
          have hR : Hid (sm = false) := by show _ = _; rw [HS.out, h4]; rfl
          clear HS
          go_wp2
          go_ret
          exact ⟨by rw [hR.out]; rfl, hb2.out _ _⟩
        | true =>
          rw [h4, Bool.true_and] at HS
          cases h5 : (fr == fr') with
          | false =>
            have hR : Hid (sm = false) := by show _ = _; rw [HS.out, h5]; rfl
            clear HS
            go_wp2
            go_ret
            exact ⟨by rw [hR.out]; rfl, hb2.out _ _⟩
          | true =>
            rw [h5, Bool.true_and] at HS
            cases h6 : (tag == tag') with
            | false =>
              have hR : Hid (sm = false) := by show _ = _; rw [HS.out, h6]; rfl
              clear HS
              go_wp2
              go_ret
              exact ⟨by rw [hR.out]; rfl, hb2.out _ _⟩
            | true =>
              rw [h6, Bool.true_and] at HS
              have hR : Hid (sm = dsEq ds ds') := HS.out
              have hk : Keeps [] w ((w.alloc (.cells #[.int .i64 kind, .int .i64 ag, .int .i64 sh, .int .i64 seq, .int .i64 ep, .slice Aa ds.length ca, .string ser, .int .i64 fr, .int .i64 tag] 26)).alloc (.cells #[.int .i64 kind', .int .i64 ag', .int .i64 sh', .int .i64 seq', .int .i64 ep', .slice Ab ds'.length cb, .string ser', .int .i64 fr', .int .i64 tag'] 26)) := ((Keeps.refl _ _).alloc _).alloc _
              have hsd := Lib.hid (rsameDs_any _ _ ds ds' _ (Ha.out.keep hk (by simp)) (Hb.out.keep hk (by simp)) hl hl2)
              have Hk := Lib.hid hk
              clear hk HS
              rw [← hR.out] at hsd
              go_wp2_with fail
              refine hsd.out.mono ?_
              rintro e w1 ⟨rfl, hb⟩
              have Hk2 := Lib.hid (below_then Hk.out.below hb)
              clear hb
              go_wp2
              go_ret
              exact ⟨rfl, Hk2.out⟩
end Go.Proofs.YtinnifhnabncfaaGreatDoor.Vi
end
/- Contract of hopperlaw4.reads: the document's reading is ours. -/
section
namespace Go.Proofs.YtinnifhnabncfaaGreatDoor.Vi
open Go.RowKit Base Mem Go.Shelf
set_option maxRecDepth 100000 in
set_option maxHeartbeats 2000000 in
theorem reads_any (v : Value) (l : List UInt8) (m : Int) (w : World) (h : Bs w [] v l) (hl : l.length < 4294967281) (hm : w.cell? ⟨0, 0, none⟩ = some (.int .i64 m)) :
    Calls Tryz.prog 20 #[v] w fun e w' => SamePost true w e w' := by
  have h1 := Lib.hid (eread_any v l m w h hl hm)
  have h2 : Hid (∀ W, Keeps [] w W → Calls Tryz.prog 71 #[v] W fun e w' => ReadPost (readE l) W e w') := fun W hk => by
    have := rreadE_any v l W (h.keep hk (by simp)) hl
    rwa [rreadE_eq] at this
  have hds : Hid ((readE l).1.ds.length ≤ 4611686018427387904) := by
    show List.length _ ≤ _
    unfold readE
    split
    · have := (readH_short l hl).2.1
      show (readH l).1.ds.length ≤ _
      omega
    · show (0 : Nat) ≤ _; omega
  clear h hm
  unfold ReadPost at h1 h2
  generalize readE l = R at *
  obtain ⟨e, code⟩ := R
  simp only [] at h1 h2 hds
  go_enter Tryz.func20, Tryz.ntmps20
  go_wp2_with fail
  refine h1.out.mono ?_
  rintro r w1 ⟨dv1, rfl, hD1, hb1⟩
  obtain ⟨Av, cv, rfl, _⟩ := (hD1 [] (by simp)).len
  have HD1 := Lib.hid (hD1 [] (by simp)); have Hb1 := Lib.hid hb1
  clear hD1 hb1 h1
  obtain ⟨kind, ag, sh, seq, ep, ds, ser, fr, tag⟩ := e
  simp only [eCell] at *
  go_wp2_with fail
  have hk2 : Keeps [] w (w1.alloc (.cells #[.int .i64 kind, .int .i64 ag, .int .i64 sh, .int .i64 seq, .int .i64 ep, .slice Av ds.length cv, .string ser, .int .i64 fr, .int .i64 tag] 26)) := (Keeps.of_below Hb1.out).alloc _
  refine (h2.out _ hk2).mono ?_
  rintro r w3 ⟨dv2, rfl, hD2, hb3⟩
  obtain ⟨Aw, cw, rfl, _⟩ := (hD2 [] (by simp)).len
  have hB3 : Blk w3 w1.heap.size 26 #[.int .i64 kind, .int .i64 ag, .int .i64 sh, .int .i64 seq, .int .i64 ep, .slice Av ds.length cv, .string ser, .int .i64 fr, .int .i64 tag] := (Blk.new w1 26 #[.int .i64 kind, .int .i64 ag, .int .i64 sh, .int .i64 seq, .int .i64 ep, .slice Av ds.length cv, .string ser, .int .i64 fr, .int .i64 tag]).below hb3 (by simp)
  have HD2 := Lib.hid (hD2 [] (by simp))
  have HD3 := Lib.hid (HD1.out.keep (((Keeps.refl [] w1).alloc (.cells #[.int .i64 kind, .int .i64 ag, .int .i64 sh, .int .i64 seq, .int .i64 ep, .slice Av ds.length cv, .string ser, .int .i64 fr, .int .i64 tag] 26)).trans (Keeps.of_below (M := []) hb3) (by simp)) (by simp))
  have Hb3 := Lib.hid (hk2.trans (Keeps.of_below (M := []) hb3) (by simp)).below
  have hlt3 : w1.heap.size < w3.heap.size := hB3.lt
  have HB3 := Lib.hid hB3
  clear hD2 hb3 hk2 h2 hB3 HD1
  go_upto_region 3 with (fail)
  have hB4 : Blk (w3.alloc (.cells #[.int .i64 kind, .int .i64 ag, .int .i64 sh, .int .i64 seq, .int .i64 ep, .slice Aw ds.length cw, .string ser, .int .i64 fr, .int .i64 tag] 26)) w1.heap.size 26 #[.int .i64 kind, .int .i64 ag, .int .i64 sh, .int .i64 seq, .int .i64 ep, .slice Av ds.length cv, .string ser, .int .i64 fr, .int .i64 tag] := HB3.out.below (below_new' w3 _) hlt3
  have hB5 : Blk (w3.alloc (.cells #[.int .i64 kind, .int .i64 ag, .int .i64 sh, .int .i64 seq, .int .i64 ep, .slice Aw ds.length cw, .string ser, .int .i64 fr, .int .i64 tag] 26)) w3.heap.size 26 #[.int .i64 kind, .int .i64 ag, .int .i64 sh, .int .i64 seq, .int .i64 ep, .slice Aw ds.length cw, .string ser, .int .i64 fr, .int .i64 tag] := Blk.new w3 _ _
  have ha4 : Ds (w3.alloc (.cells #[.int .i64 kind, .int .i64 ag, .int .i64 sh, .int .i64 seq, .int .i64 ep, .slice Aw ds.length cw, .string ser, .int .i64 fr, .int .i64 tag] 26)) [] (.slice Av ds.length cv) ds := HD3.out.keep (M' := []) ((Keeps.refl _ _).alloc _) (by simp)
  have hb4 : Ds (w3.alloc (.cells #[.int .i64 kind, .int .i64 ag, .int .i64 sh, .int .i64 seq, .int .i64 ep, .slice Aw ds.length cw, .string ser, .int .i64 fr, .int .i64 tag] 26)) [] (.slice Aw ds.length cw) ds := HD2.out.keep (M' := []) ((Keeps.refl _ _).alloc _) (by simp)
  have Hb4 := Lib.hid (Hb3.out.alloc Hb3.out.size (.cells #[.int .i64 kind, .int .i64 ag, .int .i64 sh, .int .i64 seq, .int .i64 ep, .slice Aw ds.length cw, .string ser, .int .i64 fr, .int .i64 tag] 26))
  generalize w3.alloc (.cells #[.int .i64 kind, .int .i64 ag, .int .i64 sh, .int .i64 seq, .int .i64 ep, .slice Aw ds.length cw, .string ser, .int .i64 fr, .int .i64 tag] 26) = w4 at *
  have hs0 := rsame_any (.slice Av ds.length cv) (.slice Aw ds.length cw) ⟨kind, ag, sh, seq, ep, ds, ser, fr, tag⟩ ⟨kind, ag, sh, seq, ep, ds, ser, fr, tag⟩ w4 ha4 hb4 hds.out hds.out
  rw [(sameE_iff _ _).2 rfl] at hs0
  have Hs := Lib.hid (show Calls Tryz.prog 24 #[.agg #[.int .i64 kind, .int .i64 ag, .int .i64 sh, .int .i64 seq, .int .i64 ep, .slice Av ds.length cv, .string ser, .int .i64 fr, .int .i64 tag], .agg #[.int .i64 kind, .int .i64 ag, .int .i64 sh, .int .i64 seq, .int .i64 ep, .slice Aw ds.length cw, .string ser, .int .i64 fr, .int .i64 tag]] w4 fun r w' => SamePost true w4 r w' from hs0)
  obtain ⟨c0, c1, c2, c3, c4, c5, c6, c7, c8, _⟩ := rblk9 hB4
  obtain ⟨d0, d1, d2, d3, d4, d5, d6, d7, d8, _⟩ := rblk9 hB5
  clear hs0 ha4 hb4 hB4 hB5
  go_wp2_with fail
  refine Hs.out.mono ?_
  rintro r w5 ⟨rfl, hb5⟩
  have Hb5 := Lib.hid (below_then Hb4.out hb5)
  clear hb5 Hs c0 c1 c2 c3 c4 c5 c6 c7 c8 d0 d1 d2 d3 d4 d5 d6 d7 d8
  go_wp2
  go_ret
  exact ⟨rfl, Hb5.out⟩
end Go.Proofs.YtinnifhnabncfaaGreatDoor.Vi
end
/- Contract of hopperref4.Deltas. -/
section
namespace Go.Proofs.YtinnifhnabncfaaGreatDoor.Vi
open Go.RowKit Base Mem Go.Shelf
theorem own_bs {w : World} {base : Nat} {v : Value} {l : List UInt8} (h : w.ownsRow base 5 1 v l.length (l.map bV)) : Bs w [] v l := Rd.of_own h (by simp)
set_option maxRecDepth 100000 in
set_option maxHeartbeats 2000000 in
theorem rdeltas_any (v : Value) (l : List UInt8) (dv : Value) (ds : List DeltaD) (w : World) (h : Bs w [] v l) (hd : Ds w [] dv ds) (hn : ∀ d ∈ ds, NOk d) (hdl : ds.length ≤ 1048576) (hl : (l ++ Lib.uvarint ds.length ++ ds.flatMap dBytes).length ≤ 140737488300000) :
    Calls Tryz.prog 69 #[v, dv] w fun e w' => OwnB (l ++ Lib.uvarint ds.length ++ ds.flatMap dBytes) w e w' := by
  have hp := Lib.hid (rput_any v l ds.length w h (by omega) (by simp only [List.length_append] at hl; omega))
  have Hlim : Hid (∀ x, (l ++ Lib.uvarint ds.length ++ (ds.take x).flatMap dBytes).length ≤ 140737488300000) := fun x => by
    have h1 : ((ds.take x).flatMap dBytes).length ≤ (ds.flatMap dBytes).length := by
      conv => rhs; rw [← List.take_append_drop x ds, List.flatMap_append, List.length_append]
      omega
    simp only [List.length_append] at hl ⊢
    omega
  have HD := Lib.hid hd; have Hn := Lib.hid hn
  obtain ⟨A, c, rfl, hc⟩ := hd.len
  have hwu : IntKind.u64.wrap (ds.length : Int) = (ds.length : Int) := by rw [IntKind.wrap_u64]; omega
  have hdi : (ds.length : Int) < 18446744073709551616 := by omega
  clear h hd hn hl
  obtain ⟨L0, hL0⟩ : ∃ L0, L0 = l ++ Lib.uvarint ds.length := ⟨_, rfl⟩
  rw [← hL0] at hp Hlim ⊢
  clear hL0
  go_enter Tryz.func69, Tryz.ntmps69
  go_wp2_with fail
  refine hp.out.mono ?_
  rintro e w1 ⟨v1, rfl, hR, hb⟩
  have HR1 := Lib.hid hR; have Hb1 := Lib.hid hb
  clear hR hb hp
  go_wp2_with fail
  go_loopw [0, 14] (fun b i wr => ∃ (x : Nat) (L : List UInt8), i = .int .i64 x ∧ x ≤ ds.length ∧ Hid (L = L0 ++ (ds.take x).flatMap dBytes) ∧ Hid (wr.ownsRow w.heap.size 5 1 b L.length (L.map bV)) ∧ Hid (Below w.heap.size w wr)) (fun _ i _ => ds.length - (intOf i).toNat)
  case atStart => exact ⟨0, L0, rfl, by omega, (show L0 = _ by simp), HR1.out, Hb1.out⟩
  case round =>
    obtain ⟨x, L, rfl, hx, HL, Hown, Hbr⟩ := hrel
    by_cases hlt : x < ds.length
    · have hx1 : (x : Int) < (ds.length : Int) := by omega
      obtain ⟨g, off, _, e1, _, hg, _, hcell⟩ := Rd.at_ dCell 2 (fun _ => rfl) (HD.out.keep (Keeps.of_below (M := []) Hbr.out) (by simp)) hlt
      obtain rfl : A = some ⟨g, off, none⟩ := by injection e1
      clear e1
      have p0 := hcell 0 _ rfl
      have p1 := hcell 1 _ rfl
      rw [Nat.add_zero] at p0
      clear hcell
      have HN : Hid (L0 ++ (ds.take (x + 1)).flatMap dBytes = L ++ dBytes ds[x]) := by
        show _ = _
        rw [List.take_succ_eq_append_getElem hlt, List.flatMap_append, HL.out]; simp
      have hlm := Hlim.out (x + 1)
      rw [HN.out, List.length_append] at hlm
      obtain ⟨hn0, hn1⟩ := Hn.out ds[x] (List.getElem_mem _)
      generalize ds[x] = d at *
      obtain ⟨ser, nn⟩ := d
      simp only [] at p0 p1 hn0 hn1
      obtain ⟨n, rfl⟩ := Int.eq_ofNat_of_zero_le hn0
      have hn2 : n < 18446744073709551616 := by omega
      have HdB : Hid (L ++ dBytes ⟨ser, (n : Int)⟩ = (L ++ Lib.uvarint ser.size ++ sB ser) ++ Lib.uvarint n) := by
        show _ = _
        unfold dBytes
        simp only [Int.toNat_natCast, List.append_assoc]
      have hlm2 : (L ++ Lib.uvarint ser.size ++ sB ser).length + (Lib.uvarint n).length ≤ 140737488300000 := by
        rw [← List.length_append, ← HdB.out, List.length_append]; exact hlm
      have hlm3 : L.length + ser.size ≤ 140737488300000 := by
        have : (sB ser).length = ser.size := rfl
        simp only [List.length_append] at hlm2
        omega
      have Hlm2 := Lib.hid hlm2; have Hlm3 := Lib.hid hlm3
      have hBx := Blk.new wr 86 #[.string ser, .int .u64 n]
      have HbA := Lib.hid (Hbr.out.alloc Hbr.out.size (.cells #[.string ser, .int .u64 n] 86))
      have HownA := Lib.hid (Hown.out.alloc (.cells #[.string ser, .int .u64 n] 86))
      have hg6 : wr.heap.size < (wr.alloc (.cells #[.string ser, .int .u64 n] 86)).heap.size := by simp
      have d0 := hBx.cell 0; have d1 := hBx.cell 1
      simp only [List.getElem?_toArray, List.getElem?_cons_succ, List.getElem?_cons_zero] at d0 d1
      clear hBx hlm hlm2 hlm3 hn0 hn1
      go_upto_region 5 with (fail)
      clear p0 p1
      generalize wr.alloc (.cells #[.string ser, .int .u64 n] 86) = wa at *
      generalize wr.heap.size = g6 at *
      have HSB : Hid (∀ W, Below wa.heap.size wa W → W.cell? ⟨g6, 0, none⟩ = some (.string ser) ∧ W.cell? ⟨g6, 1, none⟩ = some (.int .u64 n)) := fun W hb => ⟨(hb.cell (p := ⟨g6, 0, none⟩) hg6).trans d0, (hb.cell (p := ⟨g6, 1, none⟩) hg6).trans d1⟩
      have HT : Hid (∀ W, Below wa.heap.size wa W → Calls Tryz.prog 68 #[u0, .string ser] W fun e w' => OwnB (L ++ Lib.uvarint ser.size ++ sB ser) W e w') := fun W hb => rtxt_any u0 L ser W (own_bs (own_below HownA.out hb)) (by have := Hlm3.out; omega)
      refine wp_region_held_drew (S := (fun W => W.cell? ⟨g6, 0, none⟩ = some (.string ser) ∧ W.cell? ⟨g6, 1, none⟩ = some (.int .u64 n))) (by kernel_rfl) (HSB.out _ (bdrewG (Below.refl _ wa))) (fun hHeld => ?_)
      refine wpAnyH_take (i := 0) (oi := _) (v := ?v0) rfl (by kernel_rfl) (by kernel_rfl) (by kernel_rfl) (fun _ _ _ h => h) (Or.inl ⟨by rfl, ?y0⟩) (by assumption) ?r0
      case y0 => (intro w hSw; (obtain ⟨hS0, hS1⟩ := hSw); go_simp <;> with_reducible rfl)
      try simp only [List.getElem_toArray, List.getElem_cons_succ, List.getElem_cons_zero, Act.put, List.setIfInBounds_toArray, List.set_cons_zero, List.set_cons_succ]
      refine wpAnyH_take (i := 1) (oi := _) (v := ?v1) rfl (by kernel_rfl) (by kernel_rfl) (by kernel_rfl) (fun _ _ _ h => h) (Or.inl ⟨by rfl, ?y1⟩) (by assumption) ?r1
      case y1 => (intro w hSw; (obtain ⟨hS0, hS1⟩ := hSw); go_simp <;> with_reducible rfl)
      try simp only [List.getElem_toArray, List.getElem_cons_succ, List.getElem_cons_zero, Act.put, List.setIfInBounds_toArray, List.set_cons_zero, List.set_cons_succ]
      refine wpAnyH_take (i := 2) (oi := _) (v := ?v2) rfl (by kernel_rfl) (by kernel_rfl) (by kernel_rfl) (fun _ _ _ h => h) (Or.inl ⟨by rfl, ?y2⟩) (by assumption) ?r2
      case y2 => (intro w hSw; (obtain ⟨hS0, hS1⟩ := hSw); go_simp <;> with_reducible rfl)
      try simp only [List.getElem_toArray, List.getElem_cons_succ, List.getElem_cons_zero, Act.put, List.setIfInBounds_toArray, List.set_cons_zero, List.set_cons_succ]
      refine wpAnyH_take (i := 4) (oi := _) (v := ?v4) rfl (by kernel_rfl) (by kernel_rfl) (by kernel_rfl) (fun _ _ _ h => h) (Or.inl ⟨by rfl, ?y4⟩) (by assumption) ?r4
      case y4 => (intro w hSw; (obtain ⟨hS0, hS1⟩ := hSw); go_simp <;> with_reducible rfl)
      try simp only [List.getElem_toArray, List.getElem_cons_succ, List.getElem_cons_zero, Act.put, List.setIfInBounds_toArray, List.set_cons_zero, List.set_cons_succ]
      refine wpAnyH_take (i := 5) (oi := _) (v := ?v5) rfl (by kernel_rfl) (by kernel_rfl) (by kernel_rfl) (fun _ _ _ h => h) (Or.inl ⟨by rfl, ?y5⟩) (by assumption) ?r5
      case y5 => (intro w hSw; (obtain ⟨hS0, hS1⟩ := hSw); go_simp <;> with_reducible rfl)
      try simp only [List.getElem_toArray, List.getElem_cons_succ, List.getElem_cons_zero, Act.put, List.setIfInBounds_toArray, List.set_cons_zero, List.set_cons_succ]
      refine wpAnyH_ready (rs := [3]) (by kernel_rfl) (by simp) ?_
      refine AllReadyH.cons (o := _) rfl (fun K hK => ?_) AllReadyH.nil
      go_simp
      refine (HT.out _ (bdrewG (Below.refl _ wa))).mono ?_
      rintro e w7 ⟨v7, rfl, hown7, hb7⟩
      have Hb7 := Lib.hid (bthenG (bdrewG (Below.refl _ wa)) hb7)
      have Hown7 := Lib.hid hown7
      clear hb7 hown7
      refine hK.out _ _ (HSB.out _ Hb7.out) (fun hHeld2 => ?_)
      clear hK K hHeld
      have hHeld := hHeld2
      clear hHeld2
      try simp only [List.getElem_toArray, List.getElem_cons_succ, List.getElem_cons_zero, Act.put, List.setIfInBounds_toArray, List.set_cons_zero, List.set_cons_succ]
      refine wpAnyH_ready (rs := [6]) (by kernel_rfl) (by simp) ?_
      refine AllReadyH.cons (o := _) rfl (fun K hK => ?_) AllReadyH.nil
      go_simp
      refine (rput_any v7 (L ++ Lib.uvarint ser.size ++ sB ser) n w7 (own_bs Hown7.out) hn2 (by have := Hlm2.out; omega)).mono ?_
      rintro e w8 ⟨v8, rfl, hown8, hb8⟩
      have Hb8 := Lib.hid (below_then Hb7.out hb8)
      have Hown8 := Lib.hid hown8
      clear hb8 hown8
      refine hK.out _ _ (HSB.out _ Hb8.out) (fun hHeld2 => ?_)
      clear hK K hHeld
      have hHeld := hHeld2
      clear hHeld2
      try simp only [List.getElem_toArray, List.getElem_cons_succ, List.getElem_cons_zero, Act.put, List.setIfInBounds_toArray, List.set_cons_zero, List.set_cons_succ]
      refine wpAnyH_take (i := 7) (oi := _) (v := ?v7) rfl (by kernel_rfl) (by kernel_rfl) (by kernel_rfl) (fun _ _ _ h => h) (Or.inl ⟨by rfl, ?y7⟩) (by assumption) ?r7
      case y7 => (intro w hSw; (try dsimp only at hSw); go_simp <;> with_reducible rfl)
      try simp only [List.getElem_toArray, List.getElem_cons_succ, List.getElem_cons_zero, Act.put, List.setIfInBounds_toArray, List.set_cons_zero, List.set_cons_succ]
      refine wpAnyH_done (by kernel_rfl) ?_ _
      have HF : Hid (w8.ownsRow w.heap.size 5 1 v8 (L ++ dBytes ⟨ser, (n : Int)⟩).length ((L ++ dBytes ⟨ser, (n : Int)⟩).map bV)) := by
        show World.ownsRow _ _ _ _ _ _ _
        rw [HdB.out]
        exact own_more Hown8.out (Nat.le_trans HbA.out.size Hb7.out.size)
      have HbF := Lib.hid (below_then HbA.out Hb8.out)
      have HN2 := Lib.hid HN.out.symm
      go_wp2
      go_roundw
      case rel => exact ⟨x + 1, L ++ dBytes ⟨ser, (n : Int)⟩, by go_num, by omega, HN2, HF, HbF⟩
      case measure => simp [intOf] <;> omega
    · obtain rfl : x = ds.length := by omega
      have hC : Hid (OwnB (L0 ++ ds.flatMap dBytes) w (.returned u0) wr) := by
        have := HL.out
        rw [List.take_length] at this
        rw [← this]
        exact ⟨_, rfl, Hown.out, Hbr.out⟩
      go_wp2
      go_ret
      exact hC.out
end Go.Proofs.YtinnifhnabncfaaGreatDoor.Vi
end
