/- Contracts of entry.Copy and entry.Copies. -/
import Derived.Test.YtinnifhnabncfaaClone
import Derived.Test.YtinnifhnabncfaaData
namespace Go.Proofs.Ytinnifhnabncfaa.Mem
open Go.RowKit
theorem copy_any (M : List Nat) (e : EntryD) (dv : Value) (w : World) (h : Ds w M dv e.ds) (hb : e.ds.length * 24 ≤ 140737488355328) :
    Calls Try.prog 70 #[.agg (eCell (e, dv)).toArray] w fun r w' => ∃ dv', r = .returned (.agg (eCell (e, dv')).toArray) ∧ (∀ M', (∀ g ∈ M', g < w.heap.size) → Ds w' M' dv' e.ds) ∧ Below w.heap.size w w' := by
  unfold eCell
  go_enter Try.func70, Try.ntmps70
  go_wp2_with fail
  refine (cloneDelta M dv _ _ _ ((h.keep (Keeps.refl [] _) (by simp)).keep (((Keeps.refl [] w).alloc _).alloc _) (by simp)) (dCells_one _) hb).mono ?_
  rintro r w1 ⟨v', rfl, hown, hbel⟩
  obtain ⟨hc, hf⟩ := bcell hbel
  have hc5 : w1.cell? ⟨w.heap.size, 5, none⟩ = some dv := by rw [hc _ _ (by simp; omega)]; go_simp
  have hz : w.heap.size + 1 < w1.heap.size := by have := hbel.size; simp at this; omega
  have hrd : ∀ M', (∀ g ∈ M', g < w.heap.size + 2) → Rd w1 M' 2 v' e.ds.length (dCells e.ds) := fun M' hM => Rd.of_own hown (by intro g hg; have := hM g hg; simp; omega)
  have hb2 : Below w.heap.size w w1 := ((Below.refl _ _).alloc (Nat.le_refl _) _).alloc (by simp) _ |>.trans (hbel.mono (by simp; omega))
  clear hown hbel
  obtain ⟨A, c, rfl, hc2, _⟩ := hrd [] (by simp)
  have Hrd := Lib.hid hrd; have Hb2 := Lib.hid hb2; have Hh := Lib.hid h; have Hb := Lib.hid hb
  clear hrd hb2 h hb
  go_wp2_with (go_at_call 86; refine (clipDelta A _ c _ hc2).mono ?_; rintro e w' ⟨rfl, rfl⟩)
  have hd : ∀ o, o < 9 → ∃ u, w1.cell? ⟨w.heap.size + 1, o, none⟩ = some u := by
    intro o ho
    rw [hc _ _ (by simp)]
    rcases (show o = 0 ∨ o = 1 ∨ o = 2 ∨ o = 3 ∨ o = 4 ∨ o = 5 ∨ o = 6 ∨ o = 7 ∨ o = 8 by omega) with rfl | rfl | rfl | rfl | rfl | rfl | rfl | rfl | rfl <;> exact ⟨_, by go_simp; rfl⟩
  obtain ⟨u0, d0⟩ := hd 0 (by omega); obtain ⟨u1, d1⟩ := hd 1 (by omega); obtain ⟨u2, d2⟩ := hd 2 (by omega); obtain ⟨u3, d3⟩ := hd 3 (by omega)
  obtain ⟨u4, d4⟩ := hd 4 (by omega); obtain ⟨u5, d5⟩ := hd 5 (by omega); obtain ⟨u6, d6⟩ := hd 6 (by omega); obtain ⟨u7, d7⟩ := hd 7 (by omega); obtain ⟨u8, d8⟩ := hd 8 (by omega)
  refine bodyPost_ret (v := .agg #[.int .i64 e.kind, .int .i64 e.ag, .int .i64 e.sh, .int .i64 e.seq, .int .i64 e.ep, .slice A e.ds.length e.ds.length, .string e.ser, .int .i64 e.fr, .int .i64 e.tag]) (by simp [results, Try.results70, go_sem, d0, d1, d2, d3, d4, d5, d6, d7, d8]) rfl ⟨_, rfl, ?_, ?_⟩
  · intro M' hM
    have h0 := (Hrd.out (w.heap.size :: (w.heap.size + 1) :: M') (by intro g hg; simp at hg; rcases hg with rfl | rfl | hg; omega; omega; have := hM g hg; omega)).clip
    refine (h0.keep (M' := [w.heap.size, w.heap.size + 1]) ?_ ?_).more.more
    · repeat (first | (with_reducible refine Keeps.setCell ?_ (by simp) _) | (with_reducible exact Keeps.refl _ _))
    · intro g hg; simp at hg; rcases hg with rfl | rfl <;> simp
  · repeat (first | (with_reducible refine Below.setCell ?_ (by simp) _) | (with_reducible exact Hb2.out))
theorem infoEntry : (Try.prog.info? 74).map (fun i => (i.zero, i.size, i.bytes)) = some (some (.agg #[.int .i64 0, .int .i64 0, .int .i64 0, .int .i64 0, .int .i64 0, .slice none 0 0, .string ByteArray.empty, .int .i64 0, .int .i64 0]), 9, 96) := by kernel_rfl
set_option maxRecDepth 100000 in
set_option maxHeartbeats 400000 in
theorem copies_any (M : List Nat) (v : Value) (l : List EntryD) (w : World) (h : Ens w M v l) (hn : l.length ≤ 1048576) (hb : ∀ e ∈ l, e.ds.length ≤ 1048576) :
    Calls Try.prog 51 #[v] w fun r w' => ∃ A, r = .returned (.slice A l.length l.length) ∧ (∀ M', (∀ g ∈ M', g < w.heap.size) → Ens w' M' (.slice A l.length l.length) l) ∧ Below w.heap.size w w' := by
  obtain ⟨A, c, rfl, hc⟩ := h.len
  obtain ⟨i0, hi0, hz0, hz1, hz2⟩ := info_parts infoEntry
  have Hh := Lib.hid h; have Hb := Lib.hid hb
  have Hi0 := Lib.hid hi0; have Hz0 := Lib.hid hz0; have Hz1 := Lib.hid hz1; have Hz2 := Lib.hid hz2
  clear h hb hi0 hz0 hz1 hz2
  go_enter Try.func51, Try.ntmps51
  go_wp2
  go_loopw [3, 8] (fun out i wr => ∃ (k : Nat) (qs : List (EntryD × Value)), k ≤ l.length ∧ i = .int .i64 k ∧ Hid (qs.map (·.1) = l.take k) ∧ Hid (wr.ownsRow w.heap.size 74 9 out k (qs.flatMap eCell)) ∧ Hid (DsOwn w wr out qs) ∧ Below w.heap.size w wr)
    (fun _ i _ => l.length - (intOf i).toNat)
  case atStart => exact ⟨0, [], by omega, rfl, rfl, World.ownsRow_nil _ _ _ _, (show DsOwn _ _ _ _ from by intro q hq; cases hq), Below.refl _ _⟩
  case round =>
    obtain ⟨k, qs, hk, rfl, hq, hown, hds, hbel⟩ := hrel
    have Hbel := Lib.hid hbel; clear hbel
    by_cases hlt : k < l.length
    · obtain ⟨ps, hps, hr, hd⟩ := Hh.out.keep (Keeps.of_below (M := []) Hbel.out) (by simp)
      have hpk : k < ps.length := by rw [← List.length_map (f := (·.1)), hps]; exact hlt
      obtain ⟨g, off, cap, he, hcap, hg, hgM, hcell⟩ := Rd.at_ eCell 9 (fun _ => rfl) hr hpk
      injection he with he1 he2 he3
      subst he1
      have Hhyp := Lib.hid hcell
      have hc0 : wr.cell? ⟨g, off + k * 9, none⟩ = _ := hcell 0 _ rfl; have hc1 := hcell 1 _ rfl; have hc2 := hcell 2 _ rfl; have hc3 := hcell 3 _ rfl; have hc4 := hcell 4 _ rfl; have hc5 := hcell 5 _ rfl; have hc6 := hcell 6 _ rfl; have hc7 := hcell 7 _ rfl; have hc8 := hcell 8 _ rfl
      clear hcell
      have hdk := hd ps[k] (List.getElem_mem hpk)
      have hek : ps[k].1 = l[k] := by subst hps; simp
      have hmk := List.getElem_mem hlt
      have Hps := Lib.hid hps; have Hr := Lib.hid hr; have Hd := Lib.hid hd
      clear hps hr hd he3 hcap he2
      generalize ps[k] = pk at *
      obtain ⟨ek, dvk⟩ := pk
      obtain ⟨Ad, cd, hdv, hcd⟩ := hdk.len
      simp only at hdv hek hcd
      subst hdv
      have Hdk := Lib.hid hdk; have Hek := Lib.hid hek; have Hmk := Lib.hid hmk
      clear hdk hek hmk
      go_wp2_with fail
      refine (copy_any [] ek (.slice Ad ek.ds.length cd) _ ?_ ?_).mono ?_
      · exact (Hdk.out.avoid (M' := []) (by simp)).keep (M' := []) ((Keeps.refl _ _).alloc _) (by simp)
      · have := Hb.out _ Hmk.out; rw [← Hek.out] at this; omega
      rintro r w1 ⟨dv', rfl, hds', hbel'⟩
      obtain ⟨Ad', cd', hdv', hcd'⟩ := (hds' [] (by simp)).len
      subst hdv'
      simp only [eCell]
      have hb1 : Below wr.heap.size wr w1 := (below_new' wr _).trans (hbel'.mono (by simp))
      have hown1 := Lib.hid ((own_below hown.out hb1).alloc (.cells (eCell (ek, .slice Ad' ek.ds.length cd')).toArray 74))
      have Hds' := Lib.hid hds'; have Hbel' := Lib.hid hb1
      clear hds' hbel' hb1
      go_wp2_with (at_builtin; refine wpList_append_any _ rfl (.tmp 12) (.tmp 15) _ rfl w.heap.size 74 i0 _ 9 96 Try.underlying46 Hi0.out Hz0.out Hz1.out Hz2.out rfl (by omega) u3 k (qs.flatMap eCell) rfl hown1.out (w1.heap.size + 1) (some ⟨w1.heap.size, 0, none⟩) 1 1 (eCell (ek, .slice Ad' ek.ds.length cd')) rfl (reads_new _ _ _ _ _ rfl) ?_ ?_ ?_ ?_ ?_)
      · intro u hu; simp [eCell] at hu; rcases hu with rfl | rfl | rfl | rfl | rfl | rfl | rfl | rfl | rfl <;> rfl
      · unfold maxLen; omega
      · omega
      · have := Hbel.out.size; have := Hbel'.out.size; simp; omega
      · intro v2 w2 hown2 hg2 hat2
        have hlt0 : ∀ g, u3.ownBlock = some g → w.heap.size ≤ g ∧ g < wr.heap.size := hown.out.lt
        have R1 := Lib.hid (dsOwn_step (e := ek) hds.out Hbel'.out (fun g hg => (hlt0 g hg).2) Hbel.out.size (fun M' hM => Hds'.out M' (fun g hg => by have := hM g hg; simp; omega)) hg2 hat2)
        have R2 := Lib.hid (below_step Hbel.out Hbel'.out hg2 (fun g hg => (hlt0 g hg).1))
        have R3 := Lib.hid hown2
        clear hown2 hg2 hat2 hlt0
        go_wp2
        go_roundw
        case rel => exact ⟨k + 1, qs ++ [(ek, .slice Ad' ek.ds.length cd')], by omega, by go_num, (by show _ = _; rw [List.map_append, hq.out, List.take_succ_eq_append_getElem hlt, ← Hek.out]; rfl), (by show World.ownsRow _ _ _ _ _ _ _; rw [List.flatMap_append]; simpa using R3.out), R1, R2.out⟩
        case measure => simp [intOf]; omega
    · have hk' : k = l.length := by omega
      subst hk'
      have hqs : qs.map (·.1) = l := by rw [hq.out, List.take_length]
      have hlen : qs.length = l.length := by rw [← hqs, List.length_map]
      have hens : ∀ M', (∀ g ∈ M', g < w.heap.size) → Ens wr M' u3 l := fun M' hM => ⟨qs, hqs, by rw [hlen]; exact Rd.of_own hown.out hM, fun p hp => hds.out p hp M' (fun g hg => .inl (hM g hg))⟩
      obtain ⟨Ao, co, rfl, hco⟩ := (hens [] (by simp)).len
      have Hens := Lib.hid hens
      clear hens hqs hlen
      go_wp2_with (go_at_call 71; refine (clipEntry Ao _ co _ hco).mono ?_; rintro e w' ⟨rfl, rfl⟩)
      go_ret
      refine ⟨Ao, rfl, fun M' hM => ?_, Hbel.out⟩
      obtain ⟨ps, h1, h2, h3⟩ := Hens.out M' hM
      have hl : ps.length = l.length := by rw [← h1, List.length_map]
      exact ⟨ps, h1, by rw [hl] at h2 ⊢; exact h2.clip, h3⟩
end Go.Proofs.Ytinnifhnabncfaa.Mem
