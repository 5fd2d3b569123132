/- Texts put together: RvG, Vote6, Vote7, VoteK, VpT. -/
import Derived.Test.YtinnifhnabncfaaGreatDoorVP2
import Derived.Test.YtinnifhnabncfaaGreatDoorVP10
import Derived.Test.YtinnifhnabncfaaGreatDoorVP11
set_option linter.unusedVariables false
set_option linter.unusedSimpArgs false
section
namespace Go.Proofs.YtinnifhnabncfaaGreatDoor.Vi
open Go.RowKit Base Mem Tape Go.Shelf
theorem crashK_all (b : List UInt8) (keep : Int) : crashK b b.length keep = 0 := by unfold crashK; omega
theorem open_our {B d d' k' : Nat} {Y : List Nat} {b : List UInt8} {w w1 : World} {e : Ending} (hV : VoPost Y d b w e w1) (hR : RDk w Y d' b k') (hlow : ∀ g ∈ Y, B ≤ g) (hB : B ≤ w.heap.size) :
  ∃ s p, e = .returned (.pointer (some ⟨s, 0, none⟩)) ∧ StAt w1 s p Y (lastV word0 (scanS b).1) d (b.take (scanS b).2) (scanS b).2 (scanS b).1.length ∧ RDk w1 (s :: p :: Y) d' b k' ∧ (∀ g ∈ s :: p :: Y, B ≤ g) ∧ Keeps Y w w1 := by
 obtain ⟨s, p, rfl, hst, hk, hs, hp⟩ := hV
 have hmem : ∀ g ∈ s :: p :: Y, g ∈ Y ∨ w.heap.size ≤ g := fun g hg => by
  simp only [List.mem_cons] at hg
  rcases hg with rfl | rfl | hg
  ·exact .inr hs
  ·exact .inr hp
  ·exact .inl hg
 exact ⟨s, p, rfl, hst, hR.more hk (fun g hg => .inl hg) hmem (fun g hg => hst.old g hg), fun g hg => by rcases hmem g hg with h | h; exact hlow g h; omega, hk⟩
theorem open_ref {B s p d d' k' : Nat} {Y : List Nat} {b : List UInt8} {w w1 : World} {e : Ending} (hst : StAt w s p Y (lastV word0 (scanS b).1) d (b.take (scanS b).2) (scanS b).2 (scanS b).1.length) (hR : RDk w (s :: p :: Y) d' b k') (hlow : ∀ g ∈ s :: p :: Y, B ≤ g) (hd : B ≤ d') (hB : B ≤ w.heap.size) (hO : RoPost (s :: p :: Y) d' b w e w1) :
  ∃ s' x n b', e = .returned (.pointer (some ⟨s', 0, none⟩)) ∧ Both B w1 s p Y x d n b' s' d' ∧ Keeps [d'] w w1 := by
 obtain ⟨s', rfl, hs, hr, hk⟩ := hO
 obtain ⟨h1, _, _⟩ := scanS_bd b
 have hl : (b.take (scanS b).2).length = (scanS b).2 := List.length_take_of_le h1
 exact ⟨s', _, _, _, rfl, ⟨by rw [hl]; exact hst.keepD hR hk, by rw [hl]; exact hr, hlow, by omega, hd⟩, hk⟩
set_option maxRecDepth 100000 in
set_option maxHeartbeats 16000000 in
theorem play_any (Ab : Option Addr) (cb : Nat) (b0 : List UInt8) (Al : Option Addr) (cl : Nat) (l : List AskD) (mx : Int) (w : World) (hb : Bs w [] (.slice Ab b0.length cb) b0) (hbl : b0.length ≤ 1048576) (hl : AskAt w [] (.slice Al l.length cl) l)
  (hok : ∀ a ∈ l, a.t ≤ 9223372036854775807 ∧ ∀ e ∈ a.log, Short e ∧ Wf e) (hm : w.cell? ⟨0, 0, none⟩ = some (.int .i64 mx)) :
  Calls Tryz.prog 39 #[.slice Ab b0.length cb, .slice Al l.length cl] w fun e w' => SamePost true w e w' := by
 have hw0 : 0 < w.heap.size := by
  have := World.block_lt_of_cell? w _ hm
  simpa using this
 have Hm : Hid (∀ W, Below w.heap.size w W → W.cell? ⟨0, 0, none⟩ = some (.int .i64 mx)) := fun W hb => (hb.cell (p := ⟨0, 0, none⟩) hw0).trans hm
 obtain ⟨i0, hi0, hz0, hz1, hz2⟩ := info_parts infoU8
 have Hi0 := Lib.hid hi0; have Hz0 := Lib.hid hz0; have Hz1 := Lib.hid hz1; have Hz2 := Lib.hid hz2
 have Hl := Lib.hid hl; have Hok := Lib.hid hok; have HBb := Lib.hid hb
 have HO1 := Lib.hid (dkof_any _ b0 w hb hbl)
 clear hm hi0 hz0 hz1 hz2 hl hok hb
 go_enter Tryz.func39, Tryz.ntmps39
 go_wp2_with fail
 refine HO1.out.mono ?_
 rintro e w1 ⟨d, Y, rfl, hD1, hY, hb1⟩
 have HRb : Hid (Reads w1 w1.heap.size 1 Ab b0.length (b0.map bV)) := bs_reads (HBb.out.keep (M' := []) (Keeps.of_below hb1) (by simp))
 have HD1 := Lib.hid hD1; have HY := Lib.hid hY; have Hb1 := Lib.hid hb1
 have hz1 : w.heap.size ≤ w1.heap.size := hb1.size
 clear hD1 hY hb1 HO1 HBb
 go_wp2_with (at_builtin; go_must (refine wpList_append_any _ rfl (.tmp 13) (.tmp 14) _ rfl w1.heap.size 5 i0 _ 1 1 Tryz.underlying36 Hi0.out Hz0.out Hz1.out Hz2.out rfl (by omega) (.slice (some ⟨w1.heap.size, 0, none⟩) 0 0) 0 [] rfl (World.ownsRow_made w1 #[] 0 (Nat.le_refl _) (by unfold maxLen; omega) rfl) w1.heap.size Ab b0.length cb (b0.map bV) rfl (HRb.out.alloc (Nat.le_refl _) _) (bV_one _) (by unfold maxLen; omega) (by omega) (by simp) ?_))
 intro v2 w2 ho hg hat
 have hown2 : w2.ownsRow w1.heap.size 5 1 v2 b0.length (b0.map bV) := by simpa using ho
 have hb2 : Below w1.heap.size w1 w2 := grown_empty hg
 clear ho hg hat HRb
 obtain ⟨w3, hw3⟩ : ∃ w3, w3 = w2.alloc (.cells #[v2, .int .i64 b0.length] 131) := ⟨_, rfl⟩
 have hk3 : Keeps [] w2 w3 := by rw [hw3]; exact (Keeps.refl _ _).alloc _
 have hk13 : Keeps [] w1 w3 := (Keeps.of_below (M := []) hb2).trans hk3 (by simp)
 have hR3 : RDk w3 Y w2.heap.size b0 b0.length := by
  have hYo := HD1.out.old
  have h2 : Bs w2 Y v2 b0 := Rd.of_own hown2 (fun g hg => hYo g hg)
  refine ⟨v2, by rw [hw3]; exact Blk.new w2 _ _, (h2.avoid (M' := w2.heap.size :: Y) (fun g hg => by rcases List.mem_cons.1 hg with rfl | hg; exact .inr (Nat.le_refl _); exact .inl hg)).keep hk3 (by simp), fun hm => by have := hYo _ hm; have := hb2.size; omega, Nat.le_refl _, hbl, fun g hg => Nat.lt_of_lt_of_le (hYo g hg) hk13.size⟩
 have Hb3 := Lib.hid (below_then Hb1.out hk13.below)
 have HD3 := Lib.hid (HD1.out.keep0 hk13)
 have h0Y : 0 ∉ Y := fun h => by have := HY.out 0 h; omega
 have HVo := Lib.hid (vopen_any Y d b0.length b0 w3 HD3.out mx (Hm.out w3 Hb3.out) h0Y)
 have hdl : w.heap.size ≤ w2.heap.size := Nat.le_trans hz1 hb2.size
 have HR3 := Lib.hid hR3; have Hw3 := Lib.hid hw3; have H0Y := Lib.hid h0Y
 have hz3 : w.heap.size ≤ w3.heap.size := Hb3.out.size
 obtain ⟨A2, c2, rfl, _⟩ := (own_bs hown2).len
 clear hown2 hb2 hk3 hk13 hR3 hw3 h0Y HD1
 go_upto_region 2 with (fail)
 rw [← Hw3.out]
 clear Hw3
 generalize w2.heap.size = d' at *
 go_wp2_with fail
 refine HVo.out.mono ?_
 intro e w4 hp4
 obtain ⟨s, p, rfl, hst4, hR4, hlow4, hk4⟩ := open_our hp4 HR3.out HY.out hz3
 have hb4 : Below w.heap.size w3 w4 := hk4.belowB hz3 HY.out
 have HRo := Lib.hid (ropen_any (s :: p :: Y) d' _ b0 w4 hR4)
 have Hst4 := Lib.hid hst4; have HR4 := Lib.hid hR4; have Hlow4 := Lib.hid hlow4
 have Hb4 : Hid (Below w.heap.size w w4) := Hb3.out.trans hb4
 have hz4 : w.heap.size ≤ w4.heap.size := Hb4.out.size
 clear hp4 hst4 hR4 hlow4 hk4 hb4 HVo HR3 HD3 Hb3
 go_wp2_with fail
 refine HRo.out.mono ?_
 intro e w5 hp5
 obtain ⟨s', x, n, b, rfl, hBo, hk5⟩ := open_ref Hst4.out HR4.out Hlow4.out hdl hz4 hp5
 have HB5 := Lib.hid hBo
 have Hb5 : Hid (Below w.heap.size w w5) := Hb4.out.trans (hk5.belowB hz4 (fun g hg => by simp at hg; omega))
 clear hp5 hBo hk5 HRo Hst4 HR4 Hlow4 Hb4
 go_wp2_with fail
 go_loopw [9, 7, 8] (fun i sv rv wr => ∃ (j s p n s' : Nat) (Y : List Nat) (x : WordD) (b : List UInt8), i = .int .i64 j ∧ sv = .pointer (some ⟨s, 0, none⟩) ∧ rv = .pointer (some ⟨s', 0, none⟩) ∧ j ≤ l.length ∧ Hid (Both w.heap.size wr s p Y x d n b s' d') ∧ Hid (Below w.heap.size w wr)) (fun i _ _ _ => l.length - (intOf i).toNat)
 case atStart => exact ⟨0, s, p, n, s', Y, x, b, rfl, rfl, rfl, by omega, HB5.out, Hb5.out⟩
 case round =>
  clear HB5 Hb5 HY H0Y
  obtain ⟨j, s, p, n, s', Y, x, b, rfl, rfl, rfl, hj, HB, Hbr⟩ := hrel
  by_cases hlt : j < l.length
  ·have hji : (j : Int) < (l.length : Int) := by omega
   by_cases h50 : j < 50
   ·have h50i : (j : Int) < 50 := by omega
    obtain ⟨ga, oa, cap, lv, e1, hga, _, hEl, hcell⟩ := (Hl.out.keep (M' := []) (Keeps.of_below Hbr.out) (by simp)).at_ hlt
    injection e1 with e1 _ e3
    subst e1 e3
    obtain ⟨Ak, ck, rfl, _⟩ := hEl.len
    have q0 := hcell 0 _ rfl; have q1 := hcell 1 _ rfl; have q2 := hcell 2 _ rfl
    rw [Nat.add_zero] at q0
    have Hao := Lib.hid (Hok.out _ (List.getElem_mem hlt))
    have HEw : Hid (∀ W M, Below w.heap.size w W → (∀ g ∈ M, w.heap.size ≤ g) → Ens W M (.slice Ak (l[j]).log.length ck) (l[j]).log) := by
     obtain ⟨ga', oa', cap', lv', e1', _, _, hEl', hcell'⟩ := Hl.out.at_ hlt
     injection e1' with e1' _ _
     injection e1' with e1'
     injection e1' with h1 h2 _
     subst h1 h2
     have q2' := hcell' 2 _ rfl
     have : lv' = .slice Ak (l[j]).log.length ck := by
      have h := (Hbr.out.cell (p := ⟨ga, oa + j * 3 + 2, none⟩) (by have := World.block_lt_of_cell? _ _ q2'; simpa using this)).trans q2'
      rw [q2] at h
      injection h with h
      exact h.symm
     subst this
     exact fun W M hW hM => (hEl'.avoid (fun g hg => .inr (hM g hg))).keep (M' := []) (Keeps.of_below hW) (by simp)
    clear hcell hEl
    generalize l[j] = a at *
    obtain ⟨ak, at_, al⟩ := a
    simp only [] at q0 q1 q2 Hao HEw
    obtain ⟨w6, hw6⟩ : ∃ w6, w6 = wr.alloc (.cells #[.int .i64 ak, .int .i64 at_, .slice Ak al.length ck] 54) := ⟨_, rfl⟩
    have hk6 : Keeps [] wr w6 := by rw [hw6]; exact (Keeps.refl _ _).alloc _
    have HK6 := Lib.hid (show Blk w6 wr.heap.size 54 #[.int .i64 ak, .int .i64 at_, .slice Ak al.length ck] by rw [hw6]; exact Blk.new wr _ _)
    have HB6 := Lib.hid (HB.out.keep0 hk6); have Hb6 := Lib.hid (below_then Hbr.out hk6.below); have Hw6 := Lib.hid hw6
    have Hsm := Lib.hid (same14_any _ s p Y x d n b s' d' w6 HB6.out)
    have Hold : Hid (∀ g ∈ s :: p :: Y, g < wr.heap.size) := HB.out.our.old
    have HoldR : Hid (s' < wr.heap.size ∧ d' < wr.heap.size) := ⟨HB.out.ref.old s' (by simp), HB.out.ref.old d' (by simp)⟩
    have hzr : w.heap.size ≤ wr.heap.size := Hbr.out.size
    clear hk6 hw6 HB Hbr
    go_upto_region 9 with (fail)
    rw [← Hw6.out]
    clear Hw6 q0 q1 q2
    generalize wr.heap.size = g6 at *
    go_wp2_with fail
    refine Hsm.out.mono ?_
    rintro r w7 ⟨rfl, hb7⟩
    have HB7 := Lib.hid (HB6.out.keep0 (Keeps.of_below (M := []) hb7)); have Hb7 := Lib.hid (below_then Hb6.out hb7)
    have hK7 := HK6.out.below hb7 HK6.out.lt
    have HK7 := Lib.hid hK7
    have z0 := hK7.cell 0; have z1 := hK7.cell 1; have z2 := hK7.cell 2
    simp only [List.getElem?_toArray, List.getElem?_cons_succ, List.getElem?_cons_zero] at z0 z1 z2
    have hz7 : w.heap.size ≤ w7.heap.size := Hb7.out.size
    have HNo : Hid (g6 ∉ s :: p :: Y ∧ g6 ≠ s' ∧ g6 ≠ d') := ⟨fun h => by have := Hold.out _ h; omega, by have := HoldR.out.1; omega, by have := HoldR.out.2; omega⟩
    clear hb7 hK7 HB6 Hb6 HK6 Hsm Hold HoldR
    by_cases k2 : ak = 2
    ·subst k2
     have HSA : Hid (∀ W N, Keeps N w7 W → g6 ∉ N → W.cell? ⟨g6, 1, none⟩ = some (.int .i64 at_) ∧ W.cell? ⟨g6, 2, none⟩ = some (.slice Ak al.length ck)) := fun W N hk hn => by
      have h := hk.blk HK7.out hn
      exact ⟨by simpa using h.cell 1, by simpa using h.cell 2⟩
     go_upto_region 16 with (fail)
     refine wp_region_held_drew (S := (fun W => W.cell? ⟨g6, 1, none⟩ = some (.int .i64 at_) ∧ W.cell? ⟨g6, 2, none⟩ = some (.slice Ak al.length ck))) (by kernel_rfl) (HSA.out _ [] (Keeps.refl _ _).drew (by simp)) (fun hHeld => ?_)
     have hkd : Keeps [] w7 w7.drew := (Keeps.refl _ _).drew
     have Hkd := Lib.hid hkd
     clear hkd
     obtain ⟨q, Hq⟩ : ∃ q, Hid (accQ x b at_ al = q) := ⟨_, rfl⟩
     have Hbd : Hid (Below w.heap.size w w7.drew) := below_then Hb7.out Hkd.out.below
     refine wpAnyH_take (i := 0) (oi := _) (v := ?v0w1) rfl (by kernel_rfl) (by kernel_rfl) (by kernel_rfl) (fun _ _ _ h => h) (Or.inl ⟨by rfl, ?y0w1⟩) (by assumption) ?r0w1
     case y0w1 => (intro w hSw; (obtain ⟨hS0, hS1⟩ := hSw); go_simp <;> with_reducible rfl)
     try simp only [List.getElem_toArray, List.getElem_cons_succ, List.getElem_cons_zero, Act.put, List.setIfInBounds_toArray, List.set_cons_zero, List.set_cons_succ]
     refine wpAnyH_take (i := 1) (oi := _) (v := ?v1w1) rfl (by kernel_rfl) (by kernel_rfl) (by kernel_rfl) (fun _ _ _ h => h) (Or.inl ⟨by rfl, ?y1w1⟩) (by assumption) ?r1w1
     case y1w1 => (intro w hSw; (obtain ⟨hS0, hS1⟩ := hSw); go_simp <;> with_reducible rfl)
     try simp only [List.getElem_toArray, List.getElem_cons_succ, List.getElem_cons_zero, Act.put, List.setIfInBounds_toArray, List.set_cons_zero, List.set_cons_succ]
     refine wpAnyH_take (i := 2) (oi := _) (v := ?v2w1) rfl (by kernel_rfl) (by kernel_rfl) (by kernel_rfl) (fun _ _ _ h => h) (Or.inl ⟨by rfl, ?y2w1⟩) (by assumption) ?r2w1
     case y2w1 => (intro w hSw; (obtain ⟨hS0, hS1⟩ := hSw); go_simp <;> with_reducible rfl)
     try simp only [List.getElem_toArray, List.getElem_cons_succ, List.getElem_cons_zero, Act.put, List.setIfInBounds_toArray, List.set_cons_zero, List.set_cons_succ]
     refine wpAnyH_take (i := 3) (oi := _) (v := ?v3w1) rfl (by kernel_rfl) (by kernel_rfl) (by kernel_rfl) (fun _ _ _ h => h) (Or.inl ⟨by rfl, ?y3w1⟩) (by assumption) ?r3w1
     case y3w1 => (intro w hSw; (obtain ⟨hS0, hS1⟩ := hSw); go_simp <;> with_reducible rfl)
     try simp only [List.getElem_toArray, List.getElem_cons_succ, List.getElem_cons_zero, Act.put, List.setIfInBounds_toArray, List.set_cons_zero, List.set_cons_succ]
     refine wpAnyH_take (i := 4) (oi := _) (v := ?v4w1) rfl (by kernel_rfl) (by kernel_rfl) (by kernel_rfl) (fun _ _ _ h => h) (Or.inl ⟨by rfl, ?y4w1⟩) (by assumption) ?r4w1
     case y4w1 => (intro w hSw; (obtain ⟨hS0, hS1⟩ := hSw); go_simp <;> with_reducible rfl)
     try simp only [List.getElem_toArray, List.getElem_cons_succ, List.getElem_cons_zero, Act.put, List.setIfInBounds_toArray, List.set_cons_zero, List.set_cons_succ]
     refine wpAnyH_take (i := 6) (oi := _) (v := ?v6w1) rfl (by kernel_rfl) (by kernel_rfl) (by kernel_rfl) (fun _ _ _ h => h) (Or.inl ⟨by rfl, ?y6w1⟩) (by assumption) ?r6w1
     case y6w1 => (intro w hSw; (obtain ⟨hS0, hS1⟩ := hSw); go_simp <;> with_reducible rfl)
     try simp only [List.getElem_toArray, List.getElem_cons_succ, List.getElem_cons_zero, Act.put, List.setIfInBounds_toArray, List.set_cons_zero, List.set_cons_succ]
     refine wpAnyH_take (i := 7) (oi := _) (v := ?v7w1) rfl (by kernel_rfl) (by kernel_rfl) (by kernel_rfl) (fun _ _ _ h => h) (Or.inl ⟨by rfl, ?y7w1⟩) (by assumption) ?r7w1
     case y7w1 => (intro w hSw; (obtain ⟨hS0, hS1⟩ := hSw); go_simp <;> with_reducible rfl)
     try simp only [List.getElem_toArray, List.getElem_cons_succ, List.getElem_cons_zero, Act.put, List.setIfInBounds_toArray, List.set_cons_zero, List.set_cons_succ]
     refine wpAnyH_take (i := 8) (oi := _) (v := ?v8w1) rfl (by kernel_rfl) (by kernel_rfl) (by kernel_rfl) (fun _ _ _ h => h) (Or.inl ⟨by rfl, ?y8w1⟩) (by assumption) ?r8w1
     case y8w1 => (intro w hSw; (obtain ⟨hS0, hS1⟩ := hSw); go_simp <;> with_reducible rfl)
     try simp only [List.getElem_toArray, List.getElem_cons_succ, List.getElem_cons_zero, Act.put, List.setIfInBounds_toArray, List.set_cons_zero, List.set_cons_succ]
     refine wpAnyH_take (i := 9) (oi := _) (v := ?v9w1) rfl (by kernel_rfl) (by kernel_rfl) (by kernel_rfl) (fun _ _ _ h => h) (Or.inl ⟨by rfl, ?y9w1⟩) (by assumption) ?r9w1
     case y9w1 => (intro w hSw; (obtain ⟨hS0, hS1⟩ := hSw); go_simp <;> with_reducible rfl)
     try simp only [List.getElem_toArray, List.getElem_cons_succ, List.getElem_cons_zero, Act.put, List.setIfInBounds_toArray, List.set_cons_zero, List.set_cons_succ]
     refine wpAnyH_take (i := 10) (oi := _) (v := ?v10w1) rfl (by kernel_rfl) (by kernel_rfl) (by kernel_rfl) (fun _ _ _ h => h) (Or.inl ⟨by rfl, ?y10w1⟩) (by assumption) ?r10w1
     case y10w1 => (intro w hSw; (obtain ⟨hS0, hS1⟩ := hSw); go_simp <;> with_reducible rfl)
     try simp only [List.getElem_toArray, List.getElem_cons_succ, List.getElem_cons_zero, Act.put, List.setIfInBounds_toArray, List.set_cons_zero, List.set_cons_succ]
     refine wpAnyH_ready (rs := [5]) (by kernel_rfl) (by simp) ?_
     refine AllReadyH.cons (o := _) rfl (fun K hK => ?_) AllReadyH.nil
     go_simp
     refine (vaccept_any s p Y x d b.length n b _ (HB7.out.keep0 Hkd.out).our at_ Hao.out.1 _ al (HEw.out _ [] Hbd.out (by simp)) Hao.out.2 mx (Hm.out _ Hbd.out)).mono ?_
     intro e w8 hp8
     have hq8 := our_acc (HB7.out.keep0 Hkd.out).our hp8
     rw [Hq.out] at hq8
     obtain ⟨rfl, Y8, n8, hst8, hr8, hlow8, hk8⟩ := our_ref (HB7.out.keep0 Hkd.out).ref HB7.out.low (Nat.le_trans hz7 Hkd.out.size) hq8
     have Hst8 := Lib.hid hst8; have Hr8 := Lib.hid hr8; have Hlow8 := Lib.hid hlow8
     have Hk8 : Hid (Keeps (s :: p :: Y) w7 w8) := (Hkd.out.mono (M' := s :: p :: Y) (by simp)).trans hk8 (fun g hg => .inl hg)
     have Hb8 : Hid (Below w.heap.size w w8) := Hb7.out.trans (Hk8.out.belowB hz7 HB7.out.low)
     clear hp8 hq8 hst8 hr8 hlow8 hk8
     refine hK.out _ _ (HSA.out _ _ Hk8.out HNo.out.1) (fun hHeld2 => ?_)
     clear hK K hHeld
     have hHeld := hHeld2
     clear hHeld2
     try simp only [List.getElem_toArray, List.getElem_cons_succ, List.getElem_cons_zero, Act.put, List.setIfInBounds_toArray, List.set_cons_zero, List.set_cons_succ]
     refine wpAnyH_ready (rs := [11]) (by kernel_rfl) (by simp) ?_
     refine AllReadyH.cons (o := _) rfl (fun K hK => ?_) AllReadyH.nil
     go_simp
     refine (raccept_any (s :: p :: Y8) s' d' b.length x b _ Hr8.out at_ Hao.out.1 _ al (HEw.out _ _ Hb8.out (fun g hg => by have h1 := HB7.out.lowR; simp only [List.mem_cons] at hg; rcases hg with rfl | rfl | hg; omega; omega; exact Hlow8.out g (by simpa using hg))) Hao.out.2).mono ?_
     intro e w9 hp9
     have hq9 := ref_acc hp9
     rw [Hq.out] at hq9
     obtain ⟨rfl, hB9, hk9⟩ := ref_both Hst8.out Hr8.out Hlow8.out HB7.out.lowR hq9
     have HB9 := Lib.hid hB9
     have Hk9 : Hid (Keeps (s' :: d' :: s :: p :: Y) w7 w9) := (Hk8.out.mono (M' := s' :: d' :: s :: p :: Y) (fun g hg => .inl (by simp at hg ⊢; exact .inr (.inr hg)))).trans hk9 (fun g hg => .inl (by simp at hg; rcases hg with rfl | rfl <;> simp))
     have Hb9 : Hid (Below w.heap.size w w9) := Hb8.out.trans (hk9.belowB Hb8.out.size (fun g hg => by have := HB7.out.lowR; simp at hg; omega))
     clear hp9 hq9 hB9 hk9
     refine hK.out _ _ (HSA.out _ _ Hk9.out (fun h => by have := HNo.out; simp only [List.mem_cons, not_or] at this h; rcases h with h | h | h | h | h; exact this.2.1 h; exact this.2.2 h; exact this.1.1 h; exact this.1.2.1 h; exact this.1.2.2 h)) (fun hHeld2 => ?_)
     clear hK K hHeld
     have hHeld := hHeld2
     clear hHeld2
     try simp only [List.getElem_toArray, List.getElem_cons_succ, List.getElem_cons_zero, Act.put, List.setIfInBounds_toArray, List.set_cons_zero, List.set_cons_succ]
     refine wpAnyH_take (i := 12) (oi := _) (v := ?v12w1) rfl (by kernel_rfl) (by kernel_rfl) (by kernel_rfl) (fun _ _ _ h => h) (Or.inl ⟨by rfl, ?y12w1⟩) (by assumption) ?r12w1
     case y12w1 => (intro w hSw; (obtain ⟨hS0, hS1⟩ := hSw); go_simp <;> with_reducible rfl)
     try simp only [List.getElem_toArray, List.getElem_cons_succ, List.getElem_cons_zero, Act.put, List.setIfInBounds_toArray, List.set_cons_zero, List.set_cons_succ]
     refine wpAnyH_done (by kernel_rfl) ?_ _
     clear hHeld HSA Hk8 Hk9 Hst8 Hr8 Hlow8 Hb8 Hbd Hkd HB7 Hb7 HK7 HNo z0 z1 z2 HEw Hq
     obtain ⟨v, x9, b9⟩ := q
     simp only [] at HB9
     obtain ⟨wk, hwk⟩ : ∃ wk, wk = w9 := ⟨_, rfl⟩
     rw [← hwk] at HB9 Hb9 ⊢
     clear hwk
     have HBk := HB9; have Hbk := Hb9
     clear HB9 Hb9
     clear x b Y n
     obtain ⟨x, hx⟩ : ∃ x, x = x9 := ⟨_, rfl⟩
     obtain ⟨b, hb⟩ : ∃ b, b = b9 := ⟨_, rfl⟩
     obtain ⟨Y, hY⟩ : ∃ Y, Y = Y8 := ⟨_, rfl⟩
     obtain ⟨n, hn⟩ : ∃ n, n = n8 := ⟨_, rfl⟩
     rw [← hx, ← hb, ← hY, ← hn] at HBk
     clear hx hb hY hn
     obtain ⟨A7, c7, tA, HA7⟩ : ∃ A7 c7 tA, Hid (tA = ⟨b.toArray⟩ ∧ ∀ W, Below wk.heap.size wk W → W.cell? ⟨d', 0, none⟩ = some (.slice A7 b.length c7) ∧ (convert 36 9 (.slice A7 b.length c7)).run Tryz.prog W = .ok (.string tA) W) := by
      obtain ⟨_, _, _, hr, _⟩ := HBk.out.ref
      obtain ⟨v, hb, hv, _⟩ := hr
      obtain ⟨A7, c7, rfl, _⟩ := hv.len
      refine ⟨A7, c7, _, rfl, fun W hW => ⟨(hW.cell (p := ⟨d', 0, none⟩) hb.lt).trans (by simpa using hb.cell 0), conv_bytes ((hv.avoid (M' := []) (by simp)).keep (M' := []) (Keeps.of_below hW) (by simp))⟩⟩
     have HSC := Lib.hid HA7.out.2
     have HDk : Hid (∀ W, Below wk.heap.size wk W → DkAt W Y d b b.length) := fun W hW => by obtain ⟨_, _, _, hl, _⟩ := HBk.out.our.keep0 (Keeps.of_below (M := []) hW); exact hl.2.1
     have HCV : Hid (∀ W base v, W.ownsRow base 5 1 v b.length (b.map bV) → ∃ A8 c8, v = .slice A8 b.length c8 ∧ (convert 36 9 (.slice A8 b.length c8)).run Tryz.prog W = .ok (.string tA) W) := fun W base v h => by
      rw [HA7.out.1]; exact conv_own h
     have HEnd : Hid (∀ W, Below wk.heap.size wk W → Both w.heap.size W s p Y x d n b s' d' ∧ Below w.heap.size w W) := fun W hW => ⟨HBk.out.keep0 (Keeps.of_below (M := []) hW), below_then Hbk.out hW⟩
     clear HBk Hbk HA7
     have Hq0 : Hid (Below wk.heap.size wk wk.drew) := bdrewG (Below.refl _ wk)
     go_upto_region 22 with (fail)
     refine wp_region_held_drew (S := (fun W => W.cell? ⟨d', 0, none⟩ = some (.slice A7 b.length c7) ∧ (convert 36 9 (.slice A7 b.length c7)).run Tryz.prog W = .ok (.string tA) W)) (by kernel_rfl) (HSC.out _ Hq0.out) (fun hHeld => ?_)
     refine wpAnyH_take (i := 0) (oi := _) (v := ?v0u2) rfl (by kernel_rfl) (by kernel_rfl) (by kernel_rfl) (fun _ _ _ h => h) (Or.inl ⟨by rfl, ?y0u2⟩) (by assumption) ?r0u2
     case y0u2 => (intro w hSw; (obtain ⟨hS0, hS1⟩ := hSw); go_simp <;> with_reducible rfl)
     try simp only [List.getElem_toArray, List.getElem_cons_succ, List.getElem_cons_zero, Act.put, List.setIfInBounds_toArray, List.set_cons_zero, List.set_cons_succ]
     refine wpAnyH_take (i := 3) (oi := _) (v := ?v3u2) rfl (by kernel_rfl) (by kernel_rfl) (by kernel_rfl) (fun _ _ _ h => h) (Or.inl ⟨by rfl, ?y3u2⟩) (by assumption) ?r3u2
     case y3u2 => (intro w hSw; (obtain ⟨hS0, hS1⟩ := hSw); go_simp <;> with_reducible rfl)
     try simp only [List.getElem_toArray, List.getElem_cons_succ, List.getElem_cons_zero, Act.put, List.setIfInBounds_toArray, List.set_cons_zero, List.set_cons_succ]
     refine wpAnyH_take (i := 4) (oi := _) (v := ?v4u2) rfl (by kernel_rfl) (by kernel_rfl) (by kernel_rfl) (fun _ _ _ h => h) (Or.inl ⟨by rfl, ?y4u2⟩) (by assumption) ?r4u2
     case y4u2 => (intro w hSw; (obtain ⟨hS0, hS1⟩ := hSw); go_simp <;> with_reducible rfl)
     try simp only [List.getElem_toArray, List.getElem_cons_succ, List.getElem_cons_zero, Act.put, List.setIfInBounds_toArray, List.set_cons_zero, List.set_cons_succ]
     refine wpAnyH_take (i := 5) (oi := _) (v := ?v5u2) rfl (by kernel_rfl) (by kernel_rfl) (by kernel_rfl) (fun _ _ _ h => h) (Or.inl ⟨by rfl, ?y5u2⟩) (by assumption) ?r5u2
     case y5u2 => (intro w hSw; (obtain ⟨hS0, hS1⟩ := hSw); go_simp <;> with_reducible rfl)
     try simp only [List.getElem_toArray, List.getElem_cons_succ, List.getElem_cons_zero, Act.put, List.setIfInBounds_toArray, List.set_cons_zero, List.set_cons_succ]
     refine wpAnyH_take (i := 6) (oi := _) (v := ?v6u2) rfl (by kernel_rfl) (by kernel_rfl) (by kernel_rfl) (fun _ _ _ h => h) (Or.inl ⟨by rfl, ?y6u2⟩) (by assumption) ?r6u2
     case y6u2 => (intro w hSw; (obtain ⟨hS0, hS1⟩ := hSw); go_simp <;> with_reducible rfl)
     try simp only [List.getElem_toArray, List.getElem_cons_succ, List.getElem_cons_zero, Act.put, List.setIfInBounds_toArray, List.set_cons_zero, List.set_cons_succ]
     refine wpAnyH_take (i := 7) (oi := _) (v := ?v7u2) rfl (by kernel_rfl) (by kernel_rfl) (by kernel_rfl) (fun _ _ _ h => h) (Or.inl ⟨by rfl, ?y7u2⟩) (by assumption) ?r7u2
     case y7u2 => (intro w hSw; (obtain ⟨hS0, hS1⟩ := hSw); go_simp <;> with_reducible rfl)
     try simp only [List.getElem_toArray, List.getElem_cons_succ, List.getElem_cons_zero, Act.put, List.setIfInBounds_toArray, List.set_cons_zero, List.set_cons_succ]
     refine wpAnyH_ready (rs := [1]) (by kernel_rfl) (by simp) ?_
     refine AllReadyH.cons (o := _) rfl (fun K hK => ?_) AllReadyH.nil
     go_simp
     refine (dkall_any _ (HDk.out _ Hq0.out)).mono ?_
     rintro e wl ⟨v8, rfl, hown8, hb8⟩
     have Hq8 := Lib.hid (bthenG Hq0.out hb8)
     have Hcv8 := Lib.hid (HCV.out wl _ v8 hown8)
     clear hb8 hown8
     obtain ⟨A8, c8, rfl, hcv8⟩ := Hcv8.out
     refine hK.out _ _ (HSC.out _ Hq8.out) (fun hHeld2 => ?_)
     clear hK K hHeld
     have hHeld := hHeld2
     clear hHeld2
     try simp only [List.getElem_toArray, List.getElem_cons_succ, List.getElem_cons_zero, Act.put, List.setIfInBounds_toArray, List.set_cons_zero, List.set_cons_succ]
     refine wpAnyH_ready (rs := [2]) (by kernel_rfl) (by simp) ?_
     refine AllReadyH.cons (o := _) rfl (fun K hK => ?_) AllReadyH.nil
     go_simp
     refine hK.out _ _ (HSC.out _ Hq8.out) (fun hHeld2 => ?_)
     clear hK K hHeld
     have hHeld := hHeld2
     clear hHeld2
     try simp only [List.getElem_toArray, List.getElem_cons_succ, List.getElem_cons_zero, Act.put, List.setIfInBounds_toArray, List.set_cons_zero, List.set_cons_succ]
     refine wpAnyH_take (i := 8) (oi := _) (v := ?v8u2) rfl (by kernel_rfl) (by kernel_rfl) (by kernel_rfl) (fun _ _ _ h => h) (Or.inl ⟨by rfl, ?y8u2⟩) (by assumption) ?r8u2
     case y8u2 => (intro w hSw; (obtain ⟨hS0, hS1⟩ := hSw); go_simp <;> with_reducible rfl)
     try simp only [List.getElem_toArray, List.getElem_cons_succ, List.getElem_cons_zero, Act.put, List.setIfInBounds_toArray, List.set_cons_zero, List.set_cons_succ]
     refine wpAnyH_take (i := 9) (oi := _) (v := ?v9u2) rfl (by kernel_rfl) (by kernel_rfl) (by kernel_rfl) (fun _ _ _ h => h) (Or.inl ⟨by rfl, ?y9u2⟩) (by assumption) ?r9u2
     case y9u2 => (intro w hSw; (obtain ⟨hS0, hS1⟩ := hSw); go_simp <;> with_reducible rfl)
     try simp only [List.getElem_toArray, List.getElem_cons_succ, List.getElem_cons_zero, Act.put, List.setIfInBounds_toArray, List.set_cons_zero, List.set_cons_succ]
     refine wpAnyH_take (i := 10) (oi := _) (v := ?v10u2) rfl (by kernel_rfl) (by kernel_rfl) (by kernel_rfl) (fun _ _ _ h => h) (Or.inl ⟨by rfl, ?y10u2⟩) (by assumption) ?r10u2
     case y10u2 => (intro w hSw; (obtain ⟨hS0, hS1⟩ := hSw); go_simp <;> with_reducible rfl)
     try simp only [List.getElem_toArray, List.getElem_cons_succ, List.getElem_cons_zero, Act.put, List.setIfInBounds_toArray, List.set_cons_zero, List.set_cons_succ]
     refine wpAnyH_ready (rs := [11]) (by kernel_rfl) (by simp) ?_
     refine AllReadyH.cons (o := _) rfl (fun K hK => ?_) AllReadyH.nil
     go_simp
     refine (dkwaits_any _ (HDk.out _ Hq8.out)).mono ?_
     rintro e wm ⟨rfl, q9, rfl⟩
     have Hq9 : Hid (Below wk.heap.size wk (wl.drewN q9)) := below_then Hq8.out ((Keeps.refl [] wl).drewN q9).below
     refine hK.out _ _ (HSC.out _ Hq9.out) (fun hHeld2 => ?_)
     clear hK K hHeld
     have hHeld := hHeld2
     clear hHeld2
     try simp only [List.getElem_toArray, List.getElem_cons_succ, List.getElem_cons_zero, Act.put, List.setIfInBounds_toArray, List.set_cons_zero, List.set_cons_succ]
     refine wpAnyH_take (i := 12) (oi := _) (v := ?v12u2) rfl (by kernel_rfl) (by kernel_rfl) (by kernel_rfl) (fun _ _ _ h => h) (Or.inl ⟨by rfl, ?y12u2⟩) (by assumption) ?r12u2
     case y12u2 => (intro w hSw; (obtain ⟨hS0, hS1⟩ := hSw); go_simp <;> with_reducible rfl)
     try simp only [List.getElem_toArray, List.getElem_cons_succ, List.getElem_cons_zero, Act.put, List.setIfInBounds_toArray, List.set_cons_zero, List.set_cons_succ]
     refine wpAnyH_take (i := 13) (oi := _) (v := ?v13u2) rfl (by kernel_rfl) (by kernel_rfl) (by kernel_rfl) (fun _ _ _ h => h) (Or.inl ⟨by rfl, ?y13u2⟩) (by assumption) ?r13u2
     case y13u2 => (intro w hSw; (obtain ⟨hS0, hS1⟩ := hSw); go_simp <;> with_reducible rfl)
     try simp only [List.getElem_toArray, List.getElem_cons_succ, List.getElem_cons_zero, Act.put, List.setIfInBounds_toArray, List.set_cons_zero, List.set_cons_succ]
     refine wpAnyH_done (by kernel_rfl) ?_ _
     have HE9 := Lib.hid (HEnd.out _ Hq9.out)
     clear hHeld
     go_wp2
     go_roundw
     case rel => exact ⟨j + 1, s, p, n, s', Y, x, b, by go_num, rfl, rfl, by omega, HE9.out.1, HE9.out.2⟩
     case measure => simp [intOf] <;> omega
    by_cases k3 : ak = 3
    ·subst k3
     have HSA : Hid (∀ W N, Keeps N w7 W → g6 ∉ N → W.cell? ⟨g6, 1, none⟩ = some (.int .i64 at_) ∧ W.cell? ⟨g6, 2, none⟩ = some (.slice Ak al.length ck)) := fun W N hk hn => by
      have h := hk.blk HK7.out hn
      exact ⟨by simpa using h.cell 1, by simpa using h.cell 2⟩
     go_upto_region 16 with (fail)
     refine wp_region_held_drew (S := (fun W => W.cell? ⟨g6, 1, none⟩ = some (.int .i64 at_) ∧ W.cell? ⟨g6, 2, none⟩ = some (.slice Ak al.length ck))) (by kernel_rfl) (HSA.out _ [] (Keeps.refl _ _).drew (by simp)) (fun hHeld => ?_)
     have hkd : Keeps [] w7 w7.drew := (Keeps.refl _ _).drew
     have Hkd := Lib.hid hkd
     clear hkd
     obtain ⟨q, Hq⟩ : ∃ q, Hid (accQ x b at_ al = q) := ⟨_, rfl⟩
     have Hbd : Hid (Below w.heap.size w w7.drew) := below_then Hb7.out Hkd.out.below
     refine wpAnyH_take (i := 0) (oi := _) (v := ?v0w3) rfl (by kernel_rfl) (by kernel_rfl) (by kernel_rfl) (fun _ _ _ h => h) (Or.inl ⟨by rfl, ?y0w3⟩) (by assumption) ?r0w3
     case y0w3 => (intro w hSw; (obtain ⟨hS0, hS1⟩ := hSw); go_simp <;> with_reducible rfl)
     try simp only [List.getElem_toArray, List.getElem_cons_succ, List.getElem_cons_zero, Act.put, List.setIfInBounds_toArray, List.set_cons_zero, List.set_cons_succ]
     refine wpAnyH_take (i := 1) (oi := _) (v := ?v1w3) rfl (by kernel_rfl) (by kernel_rfl) (by kernel_rfl) (fun _ _ _ h => h) (Or.inl ⟨by rfl, ?y1w3⟩) (by assumption) ?r1w3
     case y1w3 => (intro w hSw; (obtain ⟨hS0, hS1⟩ := hSw); go_simp <;> with_reducible rfl)
     try simp only [List.getElem_toArray, List.getElem_cons_succ, List.getElem_cons_zero, Act.put, List.setIfInBounds_toArray, List.set_cons_zero, List.set_cons_succ]
     refine wpAnyH_take (i := 2) (oi := _) (v := ?v2w3) rfl (by kernel_rfl) (by kernel_rfl) (by kernel_rfl) (fun _ _ _ h => h) (Or.inl ⟨by rfl, ?y2w3⟩) (by assumption) ?r2w3
     case y2w3 => (intro w hSw; (obtain ⟨hS0, hS1⟩ := hSw); go_simp <;> with_reducible rfl)
     try simp only [List.getElem_toArray, List.getElem_cons_succ, List.getElem_cons_zero, Act.put, List.setIfInBounds_toArray, List.set_cons_zero, List.set_cons_succ]
     refine wpAnyH_take (i := 3) (oi := _) (v := ?v3w3) rfl (by kernel_rfl) (by kernel_rfl) (by kernel_rfl) (fun _ _ _ h => h) (Or.inl ⟨by rfl, ?y3w3⟩) (by assumption) ?r3w3
     case y3w3 => (intro w hSw; (obtain ⟨hS0, hS1⟩ := hSw); go_simp <;> with_reducible rfl)
     try simp only [List.getElem_toArray, List.getElem_cons_succ, List.getElem_cons_zero, Act.put, List.setIfInBounds_toArray, List.set_cons_zero, List.set_cons_succ]
     refine wpAnyH_take (i := 4) (oi := _) (v := ?v4w3) rfl (by kernel_rfl) (by kernel_rfl) (by kernel_rfl) (fun _ _ _ h => h) (Or.inl ⟨by rfl, ?y4w3⟩) (by assumption) ?r4w3
     case y4w3 => (intro w hSw; (obtain ⟨hS0, hS1⟩ := hSw); go_simp <;> with_reducible rfl)
     try simp only [List.getElem_toArray, List.getElem_cons_succ, List.getElem_cons_zero, Act.put, List.setIfInBounds_toArray, List.set_cons_zero, List.set_cons_succ]
     refine wpAnyH_take (i := 6) (oi := _) (v := ?v6w3) rfl (by kernel_rfl) (by kernel_rfl) (by kernel_rfl) (fun _ _ _ h => h) (Or.inl ⟨by rfl, ?y6w3⟩) (by assumption) ?r6w3
     case y6w3 => (intro w hSw; (obtain ⟨hS0, hS1⟩ := hSw); go_simp <;> with_reducible rfl)
     try simp only [List.getElem_toArray, List.getElem_cons_succ, List.getElem_cons_zero, Act.put, List.setIfInBounds_toArray, List.set_cons_zero, List.set_cons_succ]
     refine wpAnyH_take (i := 7) (oi := _) (v := ?v7w3) rfl (by kernel_rfl) (by kernel_rfl) (by kernel_rfl) (fun _ _ _ h => h) (Or.inl ⟨by rfl, ?y7w3⟩) (by assumption) ?r7w3
     case y7w3 => (intro w hSw; (obtain ⟨hS0, hS1⟩ := hSw); go_simp <;> with_reducible rfl)
     try simp only [List.getElem_toArray, List.getElem_cons_succ, List.getElem_cons_zero, Act.put, List.setIfInBounds_toArray, List.set_cons_zero, List.set_cons_succ]
     refine wpAnyH_take (i := 8) (oi := _) (v := ?v8w3) rfl (by kernel_rfl) (by kernel_rfl) (by kernel_rfl) (fun _ _ _ h => h) (Or.inl ⟨by rfl, ?y8w3⟩) (by assumption) ?r8w3
     case y8w3 => (intro w hSw; (obtain ⟨hS0, hS1⟩ := hSw); go_simp <;> with_reducible rfl)
     try simp only [List.getElem_toArray, List.getElem_cons_succ, List.getElem_cons_zero, Act.put, List.setIfInBounds_toArray, List.set_cons_zero, List.set_cons_succ]
     refine wpAnyH_take (i := 9) (oi := _) (v := ?v9w3) rfl (by kernel_rfl) (by kernel_rfl) (by kernel_rfl) (fun _ _ _ h => h) (Or.inl ⟨by rfl, ?y9w3⟩) (by assumption) ?r9w3
     case y9w3 => (intro w hSw; (obtain ⟨hS0, hS1⟩ := hSw); go_simp <;> with_reducible rfl)
     try simp only [List.getElem_toArray, List.getElem_cons_succ, List.getElem_cons_zero, Act.put, List.setIfInBounds_toArray, List.set_cons_zero, List.set_cons_succ]
     refine wpAnyH_take (i := 10) (oi := _) (v := ?v10w3) rfl (by kernel_rfl) (by kernel_rfl) (by kernel_rfl) (fun _ _ _ h => h) (Or.inl ⟨by rfl, ?y10w3⟩) (by assumption) ?r10w3
     case y10w3 => (intro w hSw; (obtain ⟨hS0, hS1⟩ := hSw); go_simp <;> with_reducible rfl)
     try simp only [List.getElem_toArray, List.getElem_cons_succ, List.getElem_cons_zero, Act.put, List.setIfInBounds_toArray, List.set_cons_zero, List.set_cons_succ]
     refine wpAnyH_ready (rs := [5]) (by kernel_rfl) (by simp) ?_
     refine AllReadyH.cons (o := _) rfl (fun K hK => ?_) AllReadyH.nil
     go_simp
     refine (vaccept_any s p Y x d b.length n b _ (HB7.out.keep0 Hkd.out).our at_ Hao.out.1 _ al (HEw.out _ [] Hbd.out (by simp)) Hao.out.2 mx (Hm.out _ Hbd.out)).mono ?_
     intro e w8 hp8
     have hq8 := our_acc (HB7.out.keep0 Hkd.out).our hp8
     rw [Hq.out] at hq8
     obtain ⟨rfl, Y8, n8, hst8, hr8, hlow8, hk8⟩ := our_ref (HB7.out.keep0 Hkd.out).ref HB7.out.low (Nat.le_trans hz7 Hkd.out.size) hq8
     have Hst8 := Lib.hid hst8; have Hr8 := Lib.hid hr8; have Hlow8 := Lib.hid hlow8
     have Hk8 : Hid (Keeps (s :: p :: Y) w7 w8) := (Hkd.out.mono (M' := s :: p :: Y) (by simp)).trans hk8 (fun g hg => .inl hg)
     have Hb8 : Hid (Below w.heap.size w w8) := Hb7.out.trans (Hk8.out.belowB hz7 HB7.out.low)
     clear hp8 hq8 hst8 hr8 hlow8 hk8
     refine hK.out _ _ (HSA.out _ _ Hk8.out HNo.out.1) (fun hHeld2 => ?_)
     clear hK K hHeld
     have hHeld := hHeld2
     clear hHeld2
     try simp only [List.getElem_toArray, List.getElem_cons_succ, List.getElem_cons_zero, Act.put, List.setIfInBounds_toArray, List.set_cons_zero, List.set_cons_succ]
     refine wpAnyH_ready (rs := [11]) (by kernel_rfl) (by simp) ?_
     refine AllReadyH.cons (o := _) rfl (fun K hK => ?_) AllReadyH.nil
     go_simp
     refine (raccept_any (s :: p :: Y8) s' d' b.length x b _ Hr8.out at_ Hao.out.1 _ al (HEw.out _ _ Hb8.out (fun g hg => by have h1 := HB7.out.lowR; simp only [List.mem_cons] at hg; rcases hg with rfl | rfl | hg; omega; omega; exact Hlow8.out g (by simpa using hg))) Hao.out.2).mono ?_
     intro e w9 hp9
     have hq9 := ref_acc hp9
     rw [Hq.out] at hq9
     obtain ⟨rfl, hB9, hk9⟩ := ref_both Hst8.out Hr8.out Hlow8.out HB7.out.lowR hq9
     have HB9 := Lib.hid hB9
     have Hk9 : Hid (Keeps (s' :: d' :: s :: p :: Y) w7 w9) := (Hk8.out.mono (M' := s' :: d' :: s :: p :: Y) (fun g hg => .inl (by simp at hg ⊢; exact .inr (.inr hg)))).trans hk9 (fun g hg => .inl (by simp at hg; rcases hg with rfl | rfl <;> simp))
     have Hb9 : Hid (Below w.heap.size w w9) := Hb8.out.trans (hk9.belowB Hb8.out.size (fun g hg => by have := HB7.out.lowR; simp at hg; omega))
     clear hp9 hq9 hB9 hk9
     refine hK.out _ _ (HSA.out _ _ Hk9.out (fun h => by have := HNo.out; simp only [List.mem_cons, not_or] at this h; rcases h with h | h | h | h | h; exact this.2.1 h; exact this.2.2 h; exact this.1.1 h; exact this.1.2.1 h; exact this.1.2.2 h)) (fun hHeld2 => ?_)
     clear hK K hHeld
     have hHeld := hHeld2
     clear hHeld2
     try simp only [List.getElem_toArray, List.getElem_cons_succ, List.getElem_cons_zero, Act.put, List.setIfInBounds_toArray, List.set_cons_zero, List.set_cons_succ]
     refine wpAnyH_take (i := 12) (oi := _) (v := ?v12w3) rfl (by kernel_rfl) (by kernel_rfl) (by kernel_rfl) (fun _ _ _ h => h) (Or.inl ⟨by rfl, ?y12w3⟩) (by assumption) ?r12w3
     case y12w3 => (intro w hSw; (obtain ⟨hS0, hS1⟩ := hSw); go_simp <;> with_reducible rfl)
     try simp only [List.getElem_toArray, List.getElem_cons_succ, List.getElem_cons_zero, Act.put, List.setIfInBounds_toArray, List.set_cons_zero, List.set_cons_succ]
     refine wpAnyH_done (by kernel_rfl) ?_ _
     clear hHeld HSA Hk8 Hk9 Hst8 Hr8 Hlow8 Hb8 Hbd Hkd HB7 Hb7 HK7 HNo z0 z1 z2 HEw Hq
     obtain ⟨v, x9, b9⟩ := q
     simp only [] at HB9
     obtain ⟨wk, hwk⟩ : ∃ wk, wk = w9 := ⟨_, rfl⟩
     rw [← hwk] at HB9 Hb9 ⊢
     clear hwk
     have HBk := HB9; have Hbk := Hb9
     clear HB9 Hb9
     clear x b Y n
     obtain ⟨x, hx⟩ : ∃ x, x = x9 := ⟨_, rfl⟩
     obtain ⟨b, hb⟩ : ∃ b, b = b9 := ⟨_, rfl⟩
     obtain ⟨Y, hY⟩ : ∃ Y, Y = Y8 := ⟨_, rfl⟩
     obtain ⟨n, hn⟩ : ∃ n, n = n8 := ⟨_, rfl⟩
     rw [← hx, ← hb, ← hY, ← hn] at HBk
     clear hx hb hY hn
     obtain ⟨A7, c7, tA, HA7⟩ : ∃ A7 c7 tA, Hid (tA = ⟨b.toArray⟩ ∧ ∀ W, Below wk.heap.size wk W → W.cell? ⟨d', 0, none⟩ = some (.slice A7 b.length c7) ∧ (convert 36 9 (.slice A7 b.length c7)).run Tryz.prog W = .ok (.string tA) W) := by
      obtain ⟨_, _, _, hr, _⟩ := HBk.out.ref
      obtain ⟨v, hb, hv, _⟩ := hr
      obtain ⟨A7, c7, rfl, _⟩ := hv.len
      refine ⟨A7, c7, _, rfl, fun W hW => ⟨(hW.cell (p := ⟨d', 0, none⟩) hb.lt).trans (by simpa using hb.cell 0), conv_bytes ((hv.avoid (M' := []) (by simp)).keep (M' := []) (Keeps.of_below hW) (by simp))⟩⟩
     have HSC := Lib.hid HA7.out.2
     have HDk : Hid (∀ W, Below wk.heap.size wk W → DkAt W Y d b b.length) := fun W hW => by obtain ⟨_, _, _, hl, _⟩ := HBk.out.our.keep0 (Keeps.of_below (M := []) hW); exact hl.2.1
     have HCV : Hid (∀ W base v, W.ownsRow base 5 1 v b.length (b.map bV) → ∃ A8 c8, v = .slice A8 b.length c8 ∧ (convert 36 9 (.slice A8 b.length c8)).run Tryz.prog W = .ok (.string tA) W) := fun W base v h => by
      rw [HA7.out.1]; exact conv_own h
     have HEnd : Hid (∀ W, Below wk.heap.size wk W → Both w.heap.size W s p Y x d n b s' d' ∧ Below w.heap.size w W) := fun W hW => ⟨HBk.out.keep0 (Keeps.of_below (M := []) hW), below_then Hbk.out hW⟩
     clear HBk Hbk HA7
     have Hq0 : Hid (Below wk.heap.size wk wk.drew) := bdrewG (Below.refl _ wk)
     go_upto_region 22 with (fail)
     refine wp_region_held_drew (S := (fun W => W.cell? ⟨d', 0, none⟩ = some (.slice A7 b.length c7) ∧ (convert 36 9 (.slice A7 b.length c7)).run Tryz.prog W = .ok (.string tA) W)) (by kernel_rfl) (HSC.out _ Hq0.out) (fun hHeld => ?_)
     refine wpAnyH_take (i := 0) (oi := _) (v := ?v0u4) rfl (by kernel_rfl) (by kernel_rfl) (by kernel_rfl) (fun _ _ _ h => h) (Or.inl ⟨by rfl, ?y0u4⟩) (by assumption) ?r0u4
     case y0u4 => (intro w hSw; (obtain ⟨hS0, hS1⟩ := hSw); go_simp <;> with_reducible rfl)
     try simp only [List.getElem_toArray, List.getElem_cons_succ, List.getElem_cons_zero, Act.put, List.setIfInBounds_toArray, List.set_cons_zero, List.set_cons_succ]
     refine wpAnyH_take (i := 3) (oi := _) (v := ?v3u4) rfl (by kernel_rfl) (by kernel_rfl) (by kernel_rfl) (fun _ _ _ h => h) (Or.inl ⟨by rfl, ?y3u4⟩) (by assumption) ?r3u4
     case y3u4 => (intro w hSw; (obtain ⟨hS0, hS1⟩ := hSw); go_simp <;> with_reducible rfl)
     try simp only [List.getElem_toArray, List.getElem_cons_succ, List.getElem_cons_zero, Act.put, List.setIfInBounds_toArray, List.set_cons_zero, List.set_cons_succ]
     refine wpAnyH_take (i := 4) (oi := _) (v := ?v4u4) rfl (by kernel_rfl) (by kernel_rfl) (by kernel_rfl) (fun _ _ _ h => h) (Or.inl ⟨by rfl, ?y4u4⟩) (by assumption) ?r4u4
     case y4u4 => (intro w hSw; (obtain ⟨hS0, hS1⟩ := hSw); go_simp <;> with_reducible rfl)
     try simp only [List.getElem_toArray, List.getElem_cons_succ, List.getElem_cons_zero, Act.put, List.setIfInBounds_toArray, List.set_cons_zero, List.set_cons_succ]
     refine wpAnyH_take (i := 5) (oi := _) (v := ?v5u4) rfl (by kernel_rfl) (by kernel_rfl) (by kernel_rfl) (fun _ _ _ h => h) (Or.inl ⟨by rfl, ?y5u4⟩) (by assumption) ?r5u4
     case y5u4 => (intro w hSw; (obtain ⟨hS0, hS1⟩ := hSw); go_simp <;> with_reducible rfl)
     try simp only [List.getElem_toArray, List.getElem_cons_succ, List.getElem_cons_zero, Act.put, List.setIfInBounds_toArray, List.set_cons_zero, List.set_cons_succ]
     refine wpAnyH_take (i := 6) (oi := _) (v := ?v6u4) rfl (by kernel_rfl) (by kernel_rfl) (by kernel_rfl) (fun _ _ _ h => h) (Or.inl ⟨by rfl, ?y6u4⟩) (by assumption) ?r6u4
     case y6u4 => (intro w hSw; (obtain ⟨hS0, hS1⟩ := hSw); go_simp <;> with_reducible rfl)
     try simp only [List.getElem_toArray, List.getElem_cons_succ, List.getElem_cons_zero, Act.put, List.setIfInBounds_toArray, List.set_cons_zero, List.set_cons_succ]
     refine wpAnyH_take (i := 7) (oi := _) (v := ?v7u4) rfl (by kernel_rfl) (by kernel_rfl) (by kernel_rfl) (fun _ _ _ h => h) (Or.inl ⟨by rfl, ?y7u4⟩) (by assumption) ?r7u4
     case y7u4 => (intro w hSw; (obtain ⟨hS0, hS1⟩ := hSw); go_simp <;> with_reducible rfl)
     try simp only [List.getElem_toArray, List.getElem_cons_succ, List.getElem_cons_zero, Act.put, List.setIfInBounds_toArray, List.set_cons_zero, List.set_cons_succ]
     refine wpAnyH_ready (rs := [1]) (by kernel_rfl) (by simp) ?_
     refine AllReadyH.cons (o := _) rfl (fun K hK => ?_) AllReadyH.nil
     go_simp
     refine (dkall_any _ (HDk.out _ Hq0.out)).mono ?_
     rintro e wl ⟨v8, rfl, hown8, hb8⟩
     have Hq8 := Lib.hid (bthenG Hq0.out hb8)
     have Hcv8 := Lib.hid (HCV.out wl _ v8 hown8)
     clear hb8 hown8
     obtain ⟨A8, c8, rfl, hcv8⟩ := Hcv8.out
     refine hK.out _ _ (HSC.out _ Hq8.out) (fun hHeld2 => ?_)
     clear hK K hHeld
     have hHeld := hHeld2
     clear hHeld2
     try simp only [List.getElem_toArray, List.getElem_cons_succ, List.getElem_cons_zero, Act.put, List.setIfInBounds_toArray, List.set_cons_zero, List.set_cons_succ]
     refine wpAnyH_ready (rs := [2]) (by kernel_rfl) (by simp) ?_
     refine AllReadyH.cons (o := _) rfl (fun K hK => ?_) AllReadyH.nil
     go_simp
     refine hK.out _ _ (HSC.out _ Hq8.out) (fun hHeld2 => ?_)
     clear hK K hHeld
     have hHeld := hHeld2
     clear hHeld2
     try simp only [List.getElem_toArray, List.getElem_cons_succ, List.getElem_cons_zero, Act.put, List.setIfInBounds_toArray, List.set_cons_zero, List.set_cons_succ]
     refine wpAnyH_take (i := 8) (oi := _) (v := ?v8u4) rfl (by kernel_rfl) (by kernel_rfl) (by kernel_rfl) (fun _ _ _ h => h) (Or.inl ⟨by rfl, ?y8u4⟩) (by assumption) ?r8u4
     case y8u4 => (intro w hSw; (obtain ⟨hS0, hS1⟩ := hSw); go_simp <;> with_reducible rfl)
     try simp only [List.getElem_toArray, List.getElem_cons_succ, List.getElem_cons_zero, Act.put, List.setIfInBounds_toArray, List.set_cons_zero, List.set_cons_succ]
     refine wpAnyH_take (i := 9) (oi := _) (v := ?v9u4) rfl (by kernel_rfl) (by kernel_rfl) (by kernel_rfl) (fun _ _ _ h => h) (Or.inl ⟨by rfl, ?y9u4⟩) (by assumption) ?r9u4
     case y9u4 => (intro w hSw; (obtain ⟨hS0, hS1⟩ := hSw); go_simp <;> with_reducible rfl)
     try simp only [List.getElem_toArray, List.getElem_cons_succ, List.getElem_cons_zero, Act.put, List.setIfInBounds_toArray, List.set_cons_zero, List.set_cons_succ]
     refine wpAnyH_take (i := 10) (oi := _) (v := ?v10u4) rfl (by kernel_rfl) (by kernel_rfl) (by kernel_rfl) (fun _ _ _ h => h) (Or.inl ⟨by rfl, ?y10u4⟩) (by assumption) ?r10u4
     case y10u4 => (intro w hSw; (obtain ⟨hS0, hS1⟩ := hSw); go_simp <;> with_reducible rfl)
     try simp only [List.getElem_toArray, List.getElem_cons_succ, List.getElem_cons_zero, Act.put, List.setIfInBounds_toArray, List.set_cons_zero, List.set_cons_succ]
     refine wpAnyH_ready (rs := [11]) (by kernel_rfl) (by simp) ?_
     refine AllReadyH.cons (o := _) rfl (fun K hK => ?_) AllReadyH.nil
     go_simp
     refine (dkwaits_any _ (HDk.out _ Hq8.out)).mono ?_
     rintro e wm ⟨rfl, q9, rfl⟩
     have Hq9 : Hid (Below wk.heap.size wk (wl.drewN q9)) := below_then Hq8.out ((Keeps.refl [] wl).drewN q9).below
     refine hK.out _ _ (HSC.out _ Hq9.out) (fun hHeld2 => ?_)
     clear hK K hHeld
     have hHeld := hHeld2
     clear hHeld2
     try simp only [List.getElem_toArray, List.getElem_cons_succ, List.getElem_cons_zero, Act.put, List.setIfInBounds_toArray, List.set_cons_zero, List.set_cons_succ]
     refine wpAnyH_take (i := 12) (oi := _) (v := ?v12u4) rfl (by kernel_rfl) (by kernel_rfl) (by kernel_rfl) (fun _ _ _ h => h) (Or.inl ⟨by rfl, ?y12u4⟩) (by assumption) ?r12u4
     case y12u4 => (intro w hSw; (obtain ⟨hS0, hS1⟩ := hSw); go_simp <;> with_reducible rfl)
     try simp only [List.getElem_toArray, List.getElem_cons_succ, List.getElem_cons_zero, Act.put, List.setIfInBounds_toArray, List.set_cons_zero, List.set_cons_succ]
     refine wpAnyH_take (i := 13) (oi := _) (v := ?v13u4) rfl (by kernel_rfl) (by kernel_rfl) (by kernel_rfl) (fun _ _ _ h => h) (Or.inl ⟨by rfl, ?y13u4⟩) (by assumption) ?r13u4
     case y13u4 => (intro w hSw; (obtain ⟨hS0, hS1⟩ := hSw); go_simp <;> with_reducible rfl)
     try simp only [List.getElem_toArray, List.getElem_cons_succ, List.getElem_cons_zero, Act.put, List.setIfInBounds_toArray, List.set_cons_zero, List.set_cons_succ]
     refine wpAnyH_done (by kernel_rfl) ?_ _
     have HE9 := Lib.hid (HEnd.out _ Hq9.out)
     clear hHeld
     go_wp2
     go_roundw
     case rel => exact ⟨j + 1, s, p, n, s', Y, x, b, by go_num, rfl, rfl, by omega, HE9.out.1, HE9.out.2⟩
     case measure => simp [intOf] <;> omega
    have e2 : (ak == (2 : Int)) = false := by simp [k2]
    have e3 : (ak == (3 : Int)) = false := by simp [k3]
    by_cases k4 : ak = 4
    ·subst k4
     have HD7 : Hid (DkAt w7 Y d b b.length) := by obtain ⟨_, _, _, hl, _⟩ := HB7.out.our; exact hl.2.1
     have HR7 : Hid (RDk w7 Y d' b b.length) := by
      obtain ⟨_, _, _, hr, _⟩ := HB7.out.ref
      exact hr.more (Keeps.refl [] w7) (by simp) (fun g hg => .inl (by simp [hg])) (fun g hg => hr.old g (by simp [hg]))
     have hlowY : Hid (∀ g ∈ Y, w.heap.size ≤ g) := fun g hg => HB7.out.low g (by simp [hg])
     have hdd : w.heap.size ≤ d' := HB7.out.lowR.2
     have hc0 := crashK_all b 0
     have Hc1 := Lib.hid (dkcrash_any w7 HD7.out 0)
     rw [hc0, Nat.add_zero, List.take_length] at Hc1
     go_wp2_with fail
     refine Hc1.out.mono ?_
     rintro e w8 ⟨rfl, hD8, hk8⟩
     have HD8 := Lib.hid hD8
     have HR8 := Lib.hid (HR7.out.more hk8 (fun g hg => .inl (by simp at hg; subst hg; exact HD7.out.inX)) (fun g hg => .inl hg) (fun g hg => hD8.old g hg))
     have Hb8 : Hid (Below w.heap.size w w8) := Hb7.out.trans (hk8.belowB hz7 (fun g hg => by simp at hg; subst hg; exact hlowY.out _ HD7.out.inX))
     have Hc2 := Lib.hid (rdkcrash_any w8 HR8.out 0)
     rw [hc0, Nat.add_zero, List.take_length] at Hc2
     clear hD8 hk8 Hc1 HD7 HR7 HB7 Hb7 HK7 HNo HEw z0 z1 z2
     go_wp2_with fail
     refine Hc2.out.mono ?_
     rintro e w9 ⟨rfl, hR9, hk9⟩
     have HR9 := Lib.hid hR9
     have HD9 := Lib.hid (HD8.out.keep hk9 (fun g hg hm => by simp at hm; subst hm; exact HR8.out.nin hg))
     have Hb9 : Hid (Below w.heap.size w w9) := Hb8.out.trans (hk9.belowB Hb8.out.size (fun g hg => by simp at hg; omega))
     have h0Y : 0 ∉ Y := fun h => by have := hlowY.out 0 h; omega
     have HVo := Lib.hid (vopen_any Y d b.length b w9 HD9.out mx (Hm.out w9 Hb9.out) h0Y)
     have hz9 : w.heap.size ≤ w9.heap.size := Hb9.out.size
     clear hR9 hk9 Hc2 HD8 HR8 Hb8 h0Y
     go_wp2_with fail
     refine HVo.out.mono ?_
     intro e wa hpa
     obtain ⟨s2, p2, rfl, hsta, hRa, hlowa, hka⟩ := open_our hpa HR9.out hlowY.out hz9
     have Hba : Hid (Below w.heap.size w wa) := Hb9.out.trans (hka.belowB hz9 hlowY.out)
     have HRo := Lib.hid (ropen_any (s2 :: p2 :: Y) d' _ b wa hRa)
     have Hsta := Lib.hid hsta; have HRa := Lib.hid hRa; have Hlowa := Lib.hid hlowa
     have hza : w.heap.size ≤ wa.heap.size := Hba.out.size
     clear hpa hsta hRa hlowa hka HVo HR9 HD9 Hb9
     go_wp2_with fail
     refine HRo.out.mono ?_
     intro e wk hpk
     obtain ⟨s3, x3, n3, b3, rfl, hBo, hkk⟩ := open_ref Hsta.out HRa.out Hlowa.out hdd hza hpk
     have HB3 := Lib.hid hBo
     have Hbk : Hid (Below w.heap.size w wk) := Hba.out.trans (hkk.belowB hza (fun g hg => by simp at hg; omega))
     clear hpk hBo hkk HRo Hsta HRa Hlowa Hba hc0
     clear x b n
     obtain ⟨x, hx⟩ : ∃ x, x = x3 := ⟨_, rfl⟩
     obtain ⟨b, hb⟩ : ∃ b, b = b3 := ⟨_, rfl⟩
     obtain ⟨n, hn⟩ : ∃ n, n = n3 := ⟨_, rfl⟩
     have HBk := HB3
     rw [← hx, ← hb, ← hn] at HBk
     clear hx hb hn HB3
     obtain ⟨A7, c7, tA, HA7⟩ : ∃ A7 c7 tA, Hid (tA = ⟨b.toArray⟩ ∧ ∀ W, Below wk.heap.size wk W → W.cell? ⟨d', 0, none⟩ = some (.slice A7 b.length c7) ∧ (convert 36 9 (.slice A7 b.length c7)).run Tryz.prog W = .ok (.string tA) W) := by
      obtain ⟨_, _, _, hr, _⟩ := HBk.out.ref
      obtain ⟨v, hb, hv, _⟩ := hr
      obtain ⟨A7, c7, rfl, _⟩ := hv.len
      refine ⟨A7, c7, _, rfl, fun W hW => ⟨(hW.cell (p := ⟨d', 0, none⟩) hb.lt).trans (by simpa using hb.cell 0), conv_bytes ((hv.avoid (M' := []) (by simp)).keep (M' := []) (Keeps.of_below hW) (by simp))⟩⟩
     have HSC := Lib.hid HA7.out.2
     have HDk : Hid (∀ W, Below wk.heap.size wk W → DkAt W Y d b b.length) := fun W hW => by obtain ⟨_, _, _, hl, _⟩ := HBk.out.our.keep0 (Keeps.of_below (M := []) hW); exact hl.2.1
     have HCV : Hid (∀ W base v, W.ownsRow base 5 1 v b.length (b.map bV) → ∃ A8 c8, v = .slice A8 b.length c8 ∧ (convert 36 9 (.slice A8 b.length c8)).run Tryz.prog W = .ok (.string tA) W) := fun W base v h => by
      rw [HA7.out.1]; exact conv_own h
     have HEnd : Hid (∀ W, Below wk.heap.size wk W → Both w.heap.size W s2 p2 Y x d n b s3 d' ∧ Below w.heap.size w W) := fun W hW => ⟨HBk.out.keep0 (Keeps.of_below (M := []) hW), below_then Hbk.out hW⟩
     clear HBk Hbk HA7
     have Hq0 : Hid (Below wk.heap.size wk wk.drew) := bdrewG (Below.refl _ wk)
     go_upto_region 22 with (fail)
     refine wp_region_held_drew (S := (fun W => W.cell? ⟨d', 0, none⟩ = some (.slice A7 b.length c7) ∧ (convert 36 9 (.slice A7 b.length c7)).run Tryz.prog W = .ok (.string tA) W)) (by kernel_rfl) (HSC.out _ Hq0.out) (fun hHeld => ?_)
     refine wpAnyH_take (i := 0) (oi := _) (v := ?v0u5) rfl (by kernel_rfl) (by kernel_rfl) (by kernel_rfl) (fun _ _ _ h => h) (Or.inl ⟨by rfl, ?y0u5⟩) (by assumption) ?r0u5
     case y0u5 => (intro w hSw; (obtain ⟨hS0, hS1⟩ := hSw); go_simp <;> with_reducible rfl)
     try simp only [List.getElem_toArray, List.getElem_cons_succ, List.getElem_cons_zero, Act.put, List.setIfInBounds_toArray, List.set_cons_zero, List.set_cons_succ]
     refine wpAnyH_take (i := 3) (oi := _) (v := ?v3u5) rfl (by kernel_rfl) (by kernel_rfl) (by kernel_rfl) (fun _ _ _ h => h) (Or.inl ⟨by rfl, ?y3u5⟩) (by assumption) ?r3u5
     case y3u5 => (intro w hSw; (obtain ⟨hS0, hS1⟩ := hSw); go_simp <;> with_reducible rfl)
     try simp only [List.getElem_toArray, List.getElem_cons_succ, List.getElem_cons_zero, Act.put, List.setIfInBounds_toArray, List.set_cons_zero, List.set_cons_succ]
     refine wpAnyH_take (i := 4) (oi := _) (v := ?v4u5) rfl (by kernel_rfl) (by kernel_rfl) (by kernel_rfl) (fun _ _ _ h => h) (Or.inl ⟨by rfl, ?y4u5⟩) (by assumption) ?r4u5
     case y4u5 => (intro w hSw; (obtain ⟨hS0, hS1⟩ := hSw); go_simp <;> with_reducible rfl)
     try simp only [List.getElem_toArray, List.getElem_cons_succ, List.getElem_cons_zero, Act.put, List.setIfInBounds_toArray, List.set_cons_zero, List.set_cons_succ]
     refine wpAnyH_take (i := 5) (oi := _) (v := ?v5u5) rfl (by kernel_rfl) (by kernel_rfl) (by kernel_rfl) (fun _ _ _ h => h) (Or.inl ⟨by rfl, ?y5u5⟩) (by assumption) ?r5u5
     case y5u5 => (intro w hSw; (obtain ⟨hS0, hS1⟩ := hSw); go_simp <;> with_reducible rfl)
     try simp only [List.getElem_toArray, List.getElem_cons_succ, List.getElem_cons_zero, Act.put, List.setIfInBounds_toArray, List.set_cons_zero, List.set_cons_succ]
     refine wpAnyH_take (i := 6) (oi := _) (v := ?v6u5) rfl (by kernel_rfl) (by kernel_rfl) (by kernel_rfl) (fun _ _ _ h => h) (Or.inl ⟨by rfl, ?y6u5⟩) (by assumption) ?r6u5
     case y6u5 => (intro w hSw; (obtain ⟨hS0, hS1⟩ := hSw); go_simp <;> with_reducible rfl)
     try simp only [List.getElem_toArray, List.getElem_cons_succ, List.getElem_cons_zero, Act.put, List.setIfInBounds_toArray, List.set_cons_zero, List.set_cons_succ]
     refine wpAnyH_take (i := 7) (oi := _) (v := ?v7u5) rfl (by kernel_rfl) (by kernel_rfl) (by kernel_rfl) (fun _ _ _ h => h) (Or.inl ⟨by rfl, ?y7u5⟩) (by assumption) ?r7u5
     case y7u5 => (intro w hSw; (obtain ⟨hS0, hS1⟩ := hSw); go_simp <;> with_reducible rfl)
     try simp only [List.getElem_toArray, List.getElem_cons_succ, List.getElem_cons_zero, Act.put, List.setIfInBounds_toArray, List.set_cons_zero, List.set_cons_succ]
     refine wpAnyH_ready (rs := [1]) (by kernel_rfl) (by simp) ?_
     refine AllReadyH.cons (o := _) rfl (fun K hK => ?_) AllReadyH.nil
     go_simp
     refine (dkall_any _ (HDk.out _ Hq0.out)).mono ?_
     rintro e wl ⟨v8, rfl, hown8, hb8⟩
     have Hq8 := Lib.hid (bthenG Hq0.out hb8)
     have Hcv8 := Lib.hid (HCV.out wl _ v8 hown8)
     clear hb8 hown8
     obtain ⟨A8, c8, rfl, hcv8⟩ := Hcv8.out
     refine hK.out _ _ (HSC.out _ Hq8.out) (fun hHeld2 => ?_)
     clear hK K hHeld
     have hHeld := hHeld2
     clear hHeld2
     try simp only [List.getElem_toArray, List.getElem_cons_succ, List.getElem_cons_zero, Act.put, List.setIfInBounds_toArray, List.set_cons_zero, List.set_cons_succ]
     refine wpAnyH_ready (rs := [2]) (by kernel_rfl) (by simp) ?_
     refine AllReadyH.cons (o := _) rfl (fun K hK => ?_) AllReadyH.nil
     go_simp
     refine hK.out _ _ (HSC.out _ Hq8.out) (fun hHeld2 => ?_)
     clear hK K hHeld
     have hHeld := hHeld2
     clear hHeld2
     try simp only [List.getElem_toArray, List.getElem_cons_succ, List.getElem_cons_zero, Act.put, List.setIfInBounds_toArray, List.set_cons_zero, List.set_cons_succ]
     refine wpAnyH_take (i := 8) (oi := _) (v := ?v8u5) rfl (by kernel_rfl) (by kernel_rfl) (by kernel_rfl) (fun _ _ _ h => h) (Or.inl ⟨by rfl, ?y8u5⟩) (by assumption) ?r8u5
     case y8u5 => (intro w hSw; (obtain ⟨hS0, hS1⟩ := hSw); go_simp <;> with_reducible rfl)
     try simp only [List.getElem_toArray, List.getElem_cons_succ, List.getElem_cons_zero, Act.put, List.setIfInBounds_toArray, List.set_cons_zero, List.set_cons_succ]
     refine wpAnyH_take (i := 9) (oi := _) (v := ?v9u5) rfl (by kernel_rfl) (by kernel_rfl) (by kernel_rfl) (fun _ _ _ h => h) (Or.inl ⟨by rfl, ?y9u5⟩) (by assumption) ?r9u5
     case y9u5 => (intro w hSw; (obtain ⟨hS0, hS1⟩ := hSw); go_simp <;> with_reducible rfl)
     try simp only [List.getElem_toArray, List.getElem_cons_succ, List.getElem_cons_zero, Act.put, List.setIfInBounds_toArray, List.set_cons_zero, List.set_cons_succ]
     refine wpAnyH_take (i := 10) (oi := _) (v := ?v10u5) rfl (by kernel_rfl) (by kernel_rfl) (by kernel_rfl) (fun _ _ _ h => h) (Or.inl ⟨by rfl, ?y10u5⟩) (by assumption) ?r10u5
     case y10u5 => (intro w hSw; (obtain ⟨hS0, hS1⟩ := hSw); go_simp <;> with_reducible rfl)
     try simp only [List.getElem_toArray, List.getElem_cons_succ, List.getElem_cons_zero, Act.put, List.setIfInBounds_toArray, List.set_cons_zero, List.set_cons_succ]
     refine wpAnyH_ready (rs := [11]) (by kernel_rfl) (by simp) ?_
     refine AllReadyH.cons (o := _) rfl (fun K hK => ?_) AllReadyH.nil
     go_simp
     refine (dkwaits_any _ (HDk.out _ Hq8.out)).mono ?_
     rintro e wm ⟨rfl, q9, rfl⟩
     have Hq9 : Hid (Below wk.heap.size wk (wl.drewN q9)) := below_then Hq8.out ((Keeps.refl [] wl).drewN q9).below
     refine hK.out _ _ (HSC.out _ Hq9.out) (fun hHeld2 => ?_)
     clear hK K hHeld
     have hHeld := hHeld2
     clear hHeld2
     try simp only [List.getElem_toArray, List.getElem_cons_succ, List.getElem_cons_zero, Act.put, List.setIfInBounds_toArray, List.set_cons_zero, List.set_cons_succ]
     refine wpAnyH_take (i := 12) (oi := _) (v := ?v12u5) rfl (by kernel_rfl) (by kernel_rfl) (by kernel_rfl) (fun _ _ _ h => h) (Or.inl ⟨by rfl, ?y12u5⟩) (by assumption) ?r12u5
     case y12u5 => (intro w hSw; (obtain ⟨hS0, hS1⟩ := hSw); go_simp <;> with_reducible rfl)
     try simp only [List.getElem_toArray, List.getElem_cons_succ, List.getElem_cons_zero, Act.put, List.setIfInBounds_toArray, List.set_cons_zero, List.set_cons_succ]
     refine wpAnyH_take (i := 13) (oi := _) (v := ?v13u5) rfl (by kernel_rfl) (by kernel_rfl) (by kernel_rfl) (fun _ _ _ h => h) (Or.inl ⟨by rfl, ?y13u5⟩) (by assumption) ?r13u5
     case y13u5 => (intro w hSw; (obtain ⟨hS0, hS1⟩ := hSw); go_simp <;> with_reducible rfl)
     try simp only [List.getElem_toArray, List.getElem_cons_succ, List.getElem_cons_zero, Act.put, List.setIfInBounds_toArray, List.set_cons_zero, List.set_cons_succ]
     refine wpAnyH_done (by kernel_rfl) ?_ _
     have HE9 := Lib.hid (HEnd.out _ Hq9.out)
     clear hHeld
     go_wp2
     go_roundw
     case rel => exact ⟨j + 1, s2, p2, n, s3, Y, x, b, by go_num, rfl, rfl, by omega, HE9.out.1, HE9.out.2⟩
     case measure => simp [intOf] <;> omega
    have e4 : (ak == (4 : Int)) = false := by simp [k4]
    have HSA : Hid (∀ W N, Keeps N w7 W → g6 ∉ N → W.cell? ⟨g6, 1, none⟩ = some (.int .i64 at_) ∧ W.cell? ⟨g6, 2, none⟩ = some (.slice Ak al.length ck)) := fun W N hk hn => by
     have h := hk.blk HK7.out hn
     exact ⟨by simpa using h.cell 1, by simpa using h.cell 2⟩
    go_upto_region 12 with (fail)
    refine wp_region_held_drew (S := (fun W => W.cell? ⟨g6, 1, none⟩ = some (.int .i64 at_) ∧ W.cell? ⟨g6, 2, none⟩ = some (.slice Ak al.length ck))) (by kernel_rfl) (HSA.out _ [] (Keeps.refl _ _).drew (by simp)) (fun hHeld => ?_)
    have hkd : Keeps [] w7 w7.drew := (Keeps.refl _ _).drew
    have Hkd := Lib.hid hkd
    clear hkd
    obtain ⟨q, Hq⟩ : ∃ q, Hid (promQ x b at_ = q) := ⟨_, rfl⟩
    have Hbd : Hid (Below w.heap.size w w7.drew) := below_then Hb7.out Hkd.out.below
    refine wpAnyH_take (i := 0) (oi := _) (v := ?v0w6) rfl (by kernel_rfl) (by kernel_rfl) (by kernel_rfl) (fun _ _ _ h => h) (Or.inl ⟨by rfl, ?y0w6⟩) (by assumption) ?r0w6
    case y0w6 => (intro w hSw; (obtain ⟨hS0, hS1⟩ := hSw); go_simp <;> with_reducible rfl)
    try simp only [List.getElem_toArray, List.getElem_cons_succ, List.getElem_cons_zero, Act.put, List.setIfInBounds_toArray, List.set_cons_zero, List.set_cons_succ]
    refine wpAnyH_take (i := 1) (oi := _) (v := ?v1w6) rfl (by kernel_rfl) (by kernel_rfl) (by kernel_rfl) (fun _ _ _ h => h) (Or.inl ⟨by rfl, ?y1w6⟩) (by assumption) ?r1w6
    case y1w6 => (intro w hSw; (obtain ⟨hS0, hS1⟩ := hSw); go_simp <;> with_reducible rfl)
    try simp only [List.getElem_toArray, List.getElem_cons_succ, List.getElem_cons_zero, Act.put, List.setIfInBounds_toArray, List.set_cons_zero, List.set_cons_succ]
    refine wpAnyH_take (i := 2) (oi := _) (v := ?v2w6) rfl (by kernel_rfl) (by kernel_rfl) (by kernel_rfl) (fun _ _ _ h => h) (Or.inl ⟨by rfl, ?y2w6⟩) (by assumption) ?r2w6
    case y2w6 => (intro w hSw; (obtain ⟨hS0, hS1⟩ := hSw); go_simp <;> with_reducible rfl)
    try simp only [List.getElem_toArray, List.getElem_cons_succ, List.getElem_cons_zero, Act.put, List.setIfInBounds_toArray, List.set_cons_zero, List.set_cons_succ]
    refine wpAnyH_take (i := 4) (oi := _) (v := ?v4w6) rfl (by kernel_rfl) (by kernel_rfl) (by kernel_rfl) (fun _ _ _ h => h) (Or.inl ⟨by rfl, ?y4w6⟩) (by assumption) ?r4w6
    case y4w6 => (intro w hSw; (obtain ⟨hS0, hS1⟩ := hSw); go_simp <;> with_reducible rfl)
    try simp only [List.getElem_toArray, List.getElem_cons_succ, List.getElem_cons_zero, Act.put, List.setIfInBounds_toArray, List.set_cons_zero, List.set_cons_succ]
    refine wpAnyH_take (i := 5) (oi := _) (v := ?v5w6) rfl (by kernel_rfl) (by kernel_rfl) (by kernel_rfl) (fun _ _ _ h => h) (Or.inl ⟨by rfl, ?y5w6⟩) (by assumption) ?r5w6
    case y5w6 => (intro w hSw; (obtain ⟨hS0, hS1⟩ := hSw); go_simp <;> with_reducible rfl)
    try simp only [List.getElem_toArray, List.getElem_cons_succ, List.getElem_cons_zero, Act.put, List.setIfInBounds_toArray, List.set_cons_zero, List.set_cons_succ]
    refine wpAnyH_take (i := 6) (oi := _) (v := ?v6w6) rfl (by kernel_rfl) (by kernel_rfl) (by kernel_rfl) (fun _ _ _ h => h) (Or.inl ⟨by rfl, ?y6w6⟩) (by assumption) ?r6w6
    case y6w6 => (intro w hSw; (obtain ⟨hS0, hS1⟩ := hSw); go_simp <;> with_reducible rfl)
    try simp only [List.getElem_toArray, List.getElem_cons_succ, List.getElem_cons_zero, Act.put, List.setIfInBounds_toArray, List.set_cons_zero, List.set_cons_succ]
    refine wpAnyH_ready (rs := [3]) (by kernel_rfl) (by simp) ?_
    refine AllReadyH.cons (o := _) rfl (fun K hK => ?_) AllReadyH.nil
    go_simp
    refine (vpromise_any s p Y x d b.length n b _ (HB7.out.keep0 Hkd.out).our at_ Hao.out.1 mx (Hm.out _ Hbd.out)).mono ?_
    intro e w8 hp8
    have hq8 := our_prom (HB7.out.keep0 Hkd.out).our hp8
    rw [Hq.out] at hq8
    obtain ⟨rfl, Y8, n8, hst8, hr8, hlow8, hk8⟩ := our_ref (HB7.out.keep0 Hkd.out).ref HB7.out.low (Nat.le_trans hz7 Hkd.out.size) hq8
    have Hst8 := Lib.hid hst8; have Hr8 := Lib.hid hr8; have Hlow8 := Lib.hid hlow8
    have Hk8 : Hid (Keeps (s :: p :: Y) w7 w8) := (Hkd.out.mono (M' := s :: p :: Y) (by simp)).trans hk8 (fun g hg => .inl hg)
    have Hb8 : Hid (Below w.heap.size w w8) := Hb7.out.trans (Hk8.out.belowB hz7 HB7.out.low)
    clear hp8 hq8 hst8 hr8 hlow8 hk8
    refine hK.out _ _ (HSA.out _ _ Hk8.out HNo.out.1) (fun hHeld2 => ?_)
    clear hK K hHeld
    have hHeld := hHeld2
    clear hHeld2
    try simp only [List.getElem_toArray, List.getElem_cons_succ, List.getElem_cons_zero, Act.put, List.setIfInBounds_toArray, List.set_cons_zero, List.set_cons_succ]
    refine wpAnyH_ready (rs := [7]) (by kernel_rfl) (by simp) ?_
    refine AllReadyH.cons (o := _) rfl (fun K hK => ?_) AllReadyH.nil
    go_simp
    refine (rpromise_any (s :: p :: Y8) s' d' b.length x b _ Hr8.out at_ Hao.out.1).mono ?_
    intro e w9 hp9
    have hq9 := ref_prom hp9
    rw [Hq.out] at hq9
    obtain ⟨rfl, hB9, hk9⟩ := ref_both Hst8.out Hr8.out Hlow8.out HB7.out.lowR hq9
    have HB9 := Lib.hid hB9
    have Hk9 : Hid (Keeps (s' :: d' :: s :: p :: Y) w7 w9) := (Hk8.out.mono (M' := s' :: d' :: s :: p :: Y) (fun g hg => .inl (by simp at hg ⊢; exact .inr (.inr hg)))).trans hk9 (fun g hg => .inl (by simp at hg; rcases hg with rfl | rfl <;> simp))
    have Hb9 : Hid (Below w.heap.size w w9) := Hb8.out.trans (hk9.belowB Hb8.out.size (fun g hg => by have := HB7.out.lowR; simp at hg; omega))
    clear hp9 hq9 hB9 hk9
    refine hK.out _ _ (HSA.out _ _ Hk9.out (fun h => by have := HNo.out; simp only [List.mem_cons, not_or] at this h; rcases h with h | h | h | h | h; exact this.2.1 h; exact this.2.2 h; exact this.1.1 h; exact this.1.2.1 h; exact this.1.2.2 h)) (fun hHeld2 => ?_)
    clear hK K hHeld
    have hHeld := hHeld2
    clear hHeld2
    try simp only [List.getElem_toArray, List.getElem_cons_succ, List.getElem_cons_zero, Act.put, List.setIfInBounds_toArray, List.set_cons_zero, List.set_cons_succ]
    refine wpAnyH_take (i := 8) (oi := _) (v := ?v8w6) rfl (by kernel_rfl) (by kernel_rfl) (by kernel_rfl) (fun _ _ _ h => h) (Or.inl ⟨by rfl, ?y8w6⟩) (by assumption) ?r8w6
    case y8w6 => (intro w hSw; (obtain ⟨hS0, hS1⟩ := hSw); go_simp <;> with_reducible rfl)
    try simp only [List.getElem_toArray, List.getElem_cons_succ, List.getElem_cons_zero, Act.put, List.setIfInBounds_toArray, List.set_cons_zero, List.set_cons_succ]
    refine wpAnyH_done (by kernel_rfl) ?_ _
    clear hHeld HSA Hk8 Hk9 Hst8 Hr8 Hlow8 Hb8 Hbd Hkd HB7 Hb7 HK7 HNo z0 z1 z2 HEw Hq
    obtain ⟨v, x9, b9⟩ := q
    simp only [] at HB9
    obtain ⟨wk, hwk⟩ : ∃ wk, wk = w9 := ⟨_, rfl⟩
    rw [← hwk] at HB9 Hb9 ⊢
    clear hwk
    have HBk := HB9; have Hbk := Hb9
    clear HB9 Hb9
    clear x b Y n
    obtain ⟨x, hx⟩ : ∃ x, x = x9 := ⟨_, rfl⟩
    obtain ⟨b, hb⟩ : ∃ b, b = b9 := ⟨_, rfl⟩
    obtain ⟨Y, hY⟩ : ∃ Y, Y = Y8 := ⟨_, rfl⟩
    obtain ⟨n, hn⟩ : ∃ n, n = n8 := ⟨_, rfl⟩
    rw [← hx, ← hb, ← hY, ← hn] at HBk
    clear hx hb hY hn
    obtain ⟨A7, c7, tA, HA7⟩ : ∃ A7 c7 tA, Hid (tA = ⟨b.toArray⟩ ∧ ∀ W, Below wk.heap.size wk W → W.cell? ⟨d', 0, none⟩ = some (.slice A7 b.length c7) ∧ (convert 36 9 (.slice A7 b.length c7)).run Tryz.prog W = .ok (.string tA) W) := by
     obtain ⟨_, _, _, hr, _⟩ := HBk.out.ref
     obtain ⟨v, hb, hv, _⟩ := hr
     obtain ⟨A7, c7, rfl, _⟩ := hv.len
     refine ⟨A7, c7, _, rfl, fun W hW => ⟨(hW.cell (p := ⟨d', 0, none⟩) hb.lt).trans (by simpa using hb.cell 0), conv_bytes ((hv.avoid (M' := []) (by simp)).keep (M' := []) (Keeps.of_below hW) (by simp))⟩⟩
    have HSC := Lib.hid HA7.out.2
    have HDk : Hid (∀ W, Below wk.heap.size wk W → DkAt W Y d b b.length) := fun W hW => by obtain ⟨_, _, _, hl, _⟩ := HBk.out.our.keep0 (Keeps.of_below (M := []) hW); exact hl.2.1
    have HCV : Hid (∀ W base v, W.ownsRow base 5 1 v b.length (b.map bV) → ∃ A8 c8, v = .slice A8 b.length c8 ∧ (convert 36 9 (.slice A8 b.length c8)).run Tryz.prog W = .ok (.string tA) W) := fun W base v h => by
     rw [HA7.out.1]; exact conv_own h
    have HEnd : Hid (∀ W, Below wk.heap.size wk W → Both w.heap.size W s p Y x d n b s' d' ∧ Below w.heap.size w W) := fun W hW => ⟨HBk.out.keep0 (Keeps.of_below (M := []) hW), below_then Hbk.out hW⟩
    clear HBk Hbk HA7
    have Hq0 : Hid (Below wk.heap.size wk wk.drew) := bdrewG (Below.refl _ wk)
    go_upto_region 22 with (fail)
    refine wp_region_held_drew (S := (fun W => W.cell? ⟨d', 0, none⟩ = some (.slice A7 b.length c7) ∧ (convert 36 9 (.slice A7 b.length c7)).run Tryz.prog W = .ok (.string tA) W)) (by kernel_rfl) (HSC.out _ Hq0.out) (fun hHeld => ?_)
    refine wpAnyH_take (i := 0) (oi := _) (v := ?v0u7) rfl (by kernel_rfl) (by kernel_rfl) (by kernel_rfl) (fun _ _ _ h => h) (Or.inl ⟨by rfl, ?y0u7⟩) (by assumption) ?r0u7
    case y0u7 => (intro w hSw; (obtain ⟨hS0, hS1⟩ := hSw); go_simp <;> with_reducible rfl)
    try simp only [List.getElem_toArray, List.getElem_cons_succ, List.getElem_cons_zero, Act.put, List.setIfInBounds_toArray, List.set_cons_zero, List.set_cons_succ]
    refine wpAnyH_take (i := 3) (oi := _) (v := ?v3u7) rfl (by kernel_rfl) (by kernel_rfl) (by kernel_rfl) (fun _ _ _ h => h) (Or.inl ⟨by rfl, ?y3u7⟩) (by assumption) ?r3u7
    case y3u7 => (intro w hSw; (obtain ⟨hS0, hS1⟩ := hSw); go_simp <;> with_reducible rfl)
    try simp only [List.getElem_toArray, List.getElem_cons_succ, List.getElem_cons_zero, Act.put, List.setIfInBounds_toArray, List.set_cons_zero, List.set_cons_succ]
    refine wpAnyH_take (i := 4) (oi := _) (v := ?v4u7) rfl (by kernel_rfl) (by kernel_rfl) (by kernel_rfl) (fun _ _ _ h => h) (Or.inl ⟨by rfl, ?y4u7⟩) (by assumption) ?r4u7
    case y4u7 => (intro w hSw; (obtain ⟨hS0, hS1⟩ := hSw); go_simp <;> with_reducible rfl)
    try simp only [List.getElem_toArray, List.getElem_cons_succ, List.getElem_cons_zero, Act.put, List.setIfInBounds_toArray, List.set_cons_zero, List.set_cons_succ]
    refine wpAnyH_take (i := 5) (oi := _) (v := ?v5u7) rfl (by kernel_rfl) (by kernel_rfl) (by kernel_rfl) (fun _ _ _ h => h) (Or.inl ⟨by rfl, ?y5u7⟩) (by assumption) ?r5u7
    case y5u7 => (intro w hSw; (obtain ⟨hS0, hS1⟩ := hSw); go_simp <;> with_reducible rfl)
    try simp only [List.getElem_toArray, List.getElem_cons_succ, List.getElem_cons_zero, Act.put, List.setIfInBounds_toArray, List.set_cons_zero, List.set_cons_succ]
    refine wpAnyH_take (i := 6) (oi := _) (v := ?v6u7) rfl (by kernel_rfl) (by kernel_rfl) (by kernel_rfl) (fun _ _ _ h => h) (Or.inl ⟨by rfl, ?y6u7⟩) (by assumption) ?r6u7
    case y6u7 => (intro w hSw; (obtain ⟨hS0, hS1⟩ := hSw); go_simp <;> with_reducible rfl)
    try simp only [List.getElem_toArray, List.getElem_cons_succ, List.getElem_cons_zero, Act.put, List.setIfInBounds_toArray, List.set_cons_zero, List.set_cons_succ]
    refine wpAnyH_take (i := 7) (oi := _) (v := ?v7u7) rfl (by kernel_rfl) (by kernel_rfl) (by kernel_rfl) (fun _ _ _ h => h) (Or.inl ⟨by rfl, ?y7u7⟩) (by assumption) ?r7u7
    case y7u7 => (intro w hSw; (obtain ⟨hS0, hS1⟩ := hSw); go_simp <;> with_reducible rfl)
    try simp only [List.getElem_toArray, List.getElem_cons_succ, List.getElem_cons_zero, Act.put, List.setIfInBounds_toArray, List.set_cons_zero, List.set_cons_succ]
    refine wpAnyH_ready (rs := [1]) (by kernel_rfl) (by simp) ?_
    refine AllReadyH.cons (o := _) rfl (fun K hK => ?_) AllReadyH.nil
    go_simp
    refine (dkall_any _ (HDk.out _ Hq0.out)).mono ?_
    rintro e wl ⟨v8, rfl, hown8, hb8⟩
    have Hq8 := Lib.hid (bthenG Hq0.out hb8)
    have Hcv8 := Lib.hid (HCV.out wl _ v8 hown8)
    clear hb8 hown8
    obtain ⟨A8, c8, rfl, hcv8⟩ := Hcv8.out
    refine hK.out _ _ (HSC.out _ Hq8.out) (fun hHeld2 => ?_)
    clear hK K hHeld
    have hHeld := hHeld2
    clear hHeld2
    try simp only [List.getElem_toArray, List.getElem_cons_succ, List.getElem_cons_zero, Act.put, List.setIfInBounds_toArray, List.set_cons_zero, List.set_cons_succ]
    refine wpAnyH_ready (rs := [2]) (by kernel_rfl) (by simp) ?_
    refine AllReadyH.cons (o := _) rfl (fun K hK => ?_) AllReadyH.nil
    go_simp
    refine hK.out _ _ (HSC.out _ Hq8.out) (fun hHeld2 => ?_)
    clear hK K hHeld
    have hHeld := hHeld2
    clear hHeld2
    try simp only [List.getElem_toArray, List.getElem_cons_succ, List.getElem_cons_zero, Act.put, List.setIfInBounds_toArray, List.set_cons_zero, List.set_cons_succ]
    refine wpAnyH_take (i := 8) (oi := _) (v := ?v8u7) rfl (by kernel_rfl) (by kernel_rfl) (by kernel_rfl) (fun _ _ _ h => h) (Or.inl ⟨by rfl, ?y8u7⟩) (by assumption) ?r8u7
    case y8u7 => (intro w hSw; (obtain ⟨hS0, hS1⟩ := hSw); go_simp <;> with_reducible rfl)
    try simp only [List.getElem_toArray, List.getElem_cons_succ, List.getElem_cons_zero, Act.put, List.setIfInBounds_toArray, List.set_cons_zero, List.set_cons_succ]
    refine wpAnyH_take (i := 9) (oi := _) (v := ?v9u7) rfl (by kernel_rfl) (by kernel_rfl) (by kernel_rfl) (fun _ _ _ h => h) (Or.inl ⟨by rfl, ?y9u7⟩) (by assumption) ?r9u7
    case y9u7 => (intro w hSw; (obtain ⟨hS0, hS1⟩ := hSw); go_simp <;> with_reducible rfl)
    try simp only [List.getElem_toArray, List.getElem_cons_succ, List.getElem_cons_zero, Act.put, List.setIfInBounds_toArray, List.set_cons_zero, List.set_cons_succ]
    refine wpAnyH_take (i := 10) (oi := _) (v := ?v10u7) rfl (by kernel_rfl) (by kernel_rfl) (by kernel_rfl) (fun _ _ _ h => h) (Or.inl ⟨by rfl, ?y10u7⟩) (by assumption) ?r10u7
    case y10u7 => (intro w hSw; (obtain ⟨hS0, hS1⟩ := hSw); go_simp <;> with_reducible rfl)
    try simp only [List.getElem_toArray, List.getElem_cons_succ, List.getElem_cons_zero, Act.put, List.setIfInBounds_toArray, List.set_cons_zero, List.set_cons_succ]
    refine wpAnyH_ready (rs := [11]) (by kernel_rfl) (by simp) ?_
    refine AllReadyH.cons (o := _) rfl (fun K hK => ?_) AllReadyH.nil
    go_simp
    refine (dkwaits_any _ (HDk.out _ Hq8.out)).mono ?_
    rintro e wm ⟨rfl, q9, rfl⟩
    have Hq9 : Hid (Below wk.heap.size wk (wl.drewN q9)) := below_then Hq8.out ((Keeps.refl [] wl).drewN q9).below
    refine hK.out _ _ (HSC.out _ Hq9.out) (fun hHeld2 => ?_)
    clear hK K hHeld
    have hHeld := hHeld2
    clear hHeld2
    try simp only [List.getElem_toArray, List.getElem_cons_succ, List.getElem_cons_zero, Act.put, List.setIfInBounds_toArray, List.set_cons_zero, List.set_cons_succ]
    refine wpAnyH_take (i := 12) (oi := _) (v := ?v12u7) rfl (by kernel_rfl) (by kernel_rfl) (by kernel_rfl) (fun _ _ _ h => h) (Or.inl ⟨by rfl, ?y12u7⟩) (by assumption) ?r12u7
    case y12u7 => (intro w hSw; (obtain ⟨hS0, hS1⟩ := hSw); go_simp <;> with_reducible rfl)
    try simp only [List.getElem_toArray, List.getElem_cons_succ, List.getElem_cons_zero, Act.put, List.setIfInBounds_toArray, List.set_cons_zero, List.set_cons_succ]
    refine wpAnyH_take (i := 13) (oi := _) (v := ?v13u7) rfl (by kernel_rfl) (by kernel_rfl) (by kernel_rfl) (fun _ _ _ h => h) (Or.inl ⟨by rfl, ?y13u7⟩) (by assumption) ?r13u7
    case y13u7 => (intro w hSw; (obtain ⟨hS0, hS1⟩ := hSw); go_simp <;> with_reducible rfl)
    try simp only [List.getElem_toArray, List.getElem_cons_succ, List.getElem_cons_zero, Act.put, List.setIfInBounds_toArray, List.set_cons_zero, List.set_cons_succ]
    refine wpAnyH_done (by kernel_rfl) ?_ _
    have HE9 := Lib.hid (HEnd.out _ Hq9.out)
    clear hHeld
    go_wp2
    go_roundw
    case rel => exact ⟨j + 1, s, p, n, s', Y, x, b, by go_num, rfl, rfl, by omega, HE9.out.1, HE9.out.2⟩
    case measure => simp [intOf] <;> omega
   ·have h50i : decide ((j : Int) < 50) = false := decide_eq_false (by omega)
    have Hsm := Lib.hid (same14_any _ s p Y x d n b s' d' wr HB.out)
    go_wp2_with fail
    refine Hsm.out.mono ?_
    rintro r w6 ⟨rfl, hb6⟩
    have Hb6 := Lib.hid (below_then Hbr.out hb6)
    clear hb6 Hsm
    go_wp2
    go_ret
    exact ⟨rfl, Hb6.out⟩
  ·have hji : decide ((j : Int) < (l.length : Int)) = false := decide_eq_false (by omega)
   have Hsm := Lib.hid (same14_any _ s p Y x d n b s' d' wr HB.out)
   go_wp2_with fail
   refine Hsm.out.mono ?_
   rintro r w6 ⟨rfl, hb6⟩
   have Hb6 := Lib.hid (below_then Hbr.out hb6)
   clear hb6 Hsm
   go_wp2
   go_ret
   exact ⟨rfl, Hb6.out⟩
/-- The disk is all records, and the last of them is the word. -/
def Good (x : WordD) (b : List UInt8) : Prop := ∃ rs : List (List UInt8), (∀ r ∈ rs, r.length ≤ 65536) ∧ b = rs.flatMap frameL ∧ lastV word0 rs = x
/-- A word that a tape makes. -/
def TWord (y : WordD) : Prop := y.t ≤ 13 ∧ y.h ≤ y.t ∧ y.log.length ≤ 5 ∧ ∀ e ∈ y.log, EntryOk e
def VI (x : WordD) (b : List UInt8) (j : Nat) : Prop := Good x b ∧ b.length ≤ j * 6200 ∧ TWord x
theorem entry_eok {e : EntryD} (h : EntryOk e) : EOk e := entry_right h
theorem rec_len {y : WordD} (h : TWord y) : (recL y).length ≤ 6100 ∧ (frameL (recL y)).length ≤ 6200 := by
 have h1 := Lib.uvarint_length64 (x := y.t) (by have := h.1; omega)
 have h2 := Lib.uvarint_length64 (x := y.h) (by have := h.1; have := h.2.1; omega)
 have h3 := Lib.uvarint_length64 (x := y.log.length) (by have := h.2.2.1; omega)
 have h4 := blobs_len y.log h.2.2.2
 have h5 := h.2.2.1
 have h6 : (recL y).length ≤ 6100 := by
  unfold recL putLog
  simp only [List.length_append, List.length_nil]
  omega
 have h7 := Lib.uvarint_length64 (x := (recL y).length) (by omega)
 exact ⟨h6, by rw [frameL_len]; omega⟩
theorem TWord.ok {y : WordD} (h : TWord y) : WOk y := by
 obtain ⟨h1, h2, h3, h4⟩ := h
 exact ⟨by omega, by omega, by omega, fun e he => entry_eok (h4 e he)⟩
set_option maxRecDepth 100000 in
theorem kp_ok {y : WordD} {b : List UInt8} {j : Nat} (h : TWord y) (hb : b.length ≤ j * 6200) (hj : j ≤ 100) : KpOk y b := by
 have := rec_len h
 exact ⟨by omega, by omega⟩
set_option maxRecDepth 100000 in
theorem VI.next {x y : WordD} {b : List UInt8} {j : Nat} (h : VI x b j) (hy : TWord y) : VI y (b ++ frameL (recL y)) (j + 1) := by
 obtain ⟨⟨rs, hr, rfl, _⟩, hb, _⟩ := h
 have hl := rec_len hy
 refine ⟨⟨rs ++ [recL y], fun r hm => ?_, by simp, lastV_snoc _ _ _ hy.ok⟩, by rw [List.length_append]; omega, hy⟩
 rcases List.mem_append.1 hm with h | h
 ·exact hr r h
 ·simp at h; subst h; omega
set_option maxRecDepth 100000 in
theorem VI.more {x : WordD} {b : List UInt8} {j : Nat} (h : VI x b j) : VI x b (j + 1) := ⟨h.1, by have := h.2.1; omega, h.2.2⟩
theorem Good.scan {x : WordD} {b : List UInt8} (h : Good x b) : ∃ rs, scanS b = (rs, b.length) ∧ lastV word0 rs = x := by
 obtain ⟨rs, hr, rfl, hx⟩ := h
 exact ⟨rs, scanS_put rs hr, hx⟩
def Later (x y : WordD) : Prop := x.t ≤ y.t ∧ x.h ≤ y.h ∧ (y.h = x.h → x.log.length ≤ y.log.length)
theorem Later.refl (x : WordD) : Later x x := ⟨Nat.le_refl _, Nat.le_refl _, fun _ => Nat.le_refl _⟩
def StepTo (s p : Nat) (Y : List Nat) (y : WordD) (d : Nat) (j : Nat) (w w' : World) : Prop :=
 ∃ b' Y' n', StAt w' s p Y' y d b' b'.length n' ∧ VI y b' (j + 1) ∧ Grows Y w Y' ∧ Keeps (s :: p :: Y) w w'
def nextP (x : WordD) (term : Int) : WordD := if (x.t : Int) < term then ⟨term.toNat, x.h, x.log⟩ else x
def nextA (x : WordD) (a : AskD) : WordD := if (x.t : Int) ≤ a.t ∧ 1 ≤ a.t then accW x a.t.toNat a.log else x
section
variable {s p : Nat} {Y : List Nat} {x : WordD} {d n : Nat} {b : List UInt8} {j : Nat}
theorem step_keep {y : WordD} {w w' : World} {e : Ending} (hv : VI x b j) (hj : j ≤ 100) (hy : TWord y) (h : KpPost s p Y y d b n w e w') : e = .returned (.bool true) ∧ StepTo s p Y y d j w w' := by
 unfold KpPost at h
 rw [if_pos (kp_ok hy hv.2.1 hj)] at h
 obtain ⟨he, Y', h1, h2, h3⟩ := h
 rw [← List.length_append] at h1
 exact ⟨he, _, Y', _, h1, hv.next hy, h2, h3⟩
theorem step_same {w w' : World} (hv : VI x b j) (h : StAt w s p Y x d b b.length n) (hk : Keeps [] w w') : StepTo s p Y x d j w w' :=
 ⟨b, Y, n, h.keep0 hk, hv.more, Grows.refl _ _, hk.mono (by simp)⟩
theorem promise_step (hv : VI x b j) (hj : j ≤ 100) (w : World) (h : StAt w s p Y x d b b.length n) (term : Int) (ht0 : 0 ≤ term) (ht : term < 14) (m : Int) (hm : w.cell? ⟨0, 0, none⟩ = some (.int .i64 m)) :
  Calls Tryz.prog 36 #[.pointer (some ⟨s, 0, none⟩), .int .i64 term] w fun e w' => e = .returned (.bool (decide ((x.t : Int) < term))) ∧ StepTo s p Y (nextP x term) d j w w' := by
 refine (vpromise_any s p Y x d b.length n b w h term (by omega) m hm).mono ?_
 intro e w' hp
 unfold PmPost at hp
 unfold nextP
 split at hp
 ·rename_i hc
  rw [decide_eq_true hc, if_pos hc]
  obtain ⟨h1, h2, h3, h4⟩ := hv.2.2
  exact step_keep hv hj ⟨by simp only []; omega, by simp only []; omega, h3, h4⟩ hp
 ·rename_i hc
  rw [decide_eq_false hc, if_neg hc]
  exact ⟨hp.1, step_same hv h hp.2⟩
theorem accept_step (hv : VI x b j) (hj : j ≤ 100) (w : World) (h : StAt w s p Y x d b b.length n) (a : AskD) (ha : AskOk a) (lv : Value) (hl : Ens w [] lv a.log) (m : Int) (hm : w.cell? ⟨0, 0, none⟩ = some (.int .i64 m)) :
  Calls Tryz.prog 34 #[.pointer (some ⟨s, 0, none⟩), .int .i64 a.t, lv] w fun e w' => e = .returned (.bool (decide ((x.t : Int) ≤ a.t ∧ 1 ≤ a.t))) ∧ StepTo s p Y (nextA x a) d j w w' := by
 obtain ⟨k0, k5, t0, t14, l5, lok⟩ := ha
 refine (vaccept_any s p Y x d b.length n b w h a.t (by omega) lv a.log hl (fun e he => ⟨(entry_eok (lok e he)).2.1, (entry_eok (lok e he)).2.2⟩) m hm).mono ?_
 intro e w' hp
 unfold AcPost at hp
 unfold nextA
 split at hp
 ·rename_i hc
  obtain ⟨h1, h2, h3, h4⟩ := hv.2.2
  rw [decide_eq_true (⟨hc.1, hc.2.1⟩ : (x.t : Int) ≤ a.t ∧ 1 ≤ a.t), if_pos ⟨hc.1, hc.2.1⟩]
  split at hp
  ·rename_i hn
   have he : accW x a.t.toNat a.log = x := by
    unfold accW
    rw [if_neg hn.1, show a.t.toNat = x.t by omega]
   rw [he]
   exact ⟨hp.1, step_same hv h hp.2⟩
  ·refine step_keep hv hj ?_ hp
   unfold accW
   have := hc.1; have := hc.2.1
   split
   ·exact ⟨by simp only []; omega, by simp only []; omega, l5, lok⟩
   ·exact ⟨by simp only []; omega, by simp only []; omega, h3, h4⟩
 ·rename_i hc
  have hn : ¬ ((x.t : Int) ≤ a.t ∧ 1 ≤ a.t) := fun q => hc ⟨q.1, q.2, by omega, fun e he => (entry_eok (lok e he)).1⟩
  rw [decide_eq_false hn, if_neg hn]
  exact ⟨hp.1, step_same hv h hp.2⟩
end
theorem crashK_full (b : List UInt8) (keep : Int) : crashK b b.length keep = 0 := by unfold crashK; omega
theorem open_step {x : WordD} {d k j : Nat} {Y : List Nat} {b : List UInt8} (hv : VI x b j) (w : World) (h : DkAt w Y d b k) (m : Int) (hm : w.cell? ⟨0, 0, none⟩ = some (.int .i64 m)) (h0 : 0 ∉ Y) :
  Calls Tryz.prog 29 #[.pointer (some ⟨d, 0, none⟩)] w fun e w' => ∃ s p n, e = .returned (.pointer (some ⟨s, 0, none⟩)) ∧ StAt w' s p Y x d b b.length n ∧ Keeps Y w w' ∧ w.heap.size ≤ s ∧ w.heap.size ≤ p := by
 refine (vopen_any Y d k b w h m hm h0).mono ?_
 rintro e w' ⟨s, p, he, h1, h2, h3, h4⟩
 obtain ⟨rs, hs, hx⟩ := hv.1.scan
 rw [hs] at h1
 simp only [] at h1
 rw [hx, List.take_length] at h1
 exact ⟨s, p, _, he, h1, h2, h3, h4⟩
/-- The blocks of X are not old, and not block g; what was old stands. -/
structure Within (w : World) (g : Nat) (X : List Nat) (w' : World) : Prop where
 new : ∀ k ∈ X, w.heap.size ≤ k ∧ k ≠ g
 kp : Keeps [] w w'
theorem Within.step {w w' w'' : World} {g s p : Nat} {Y Y' : List Nat} (h : Within w g (s :: p :: Y) w') (hg : g < w'.heap.size) (hG : Grows Y w' Y') (hk : Keeps (s :: p :: Y) w' w'') : Within w g (s :: p :: Y') w'' := by
 refine ⟨fun k hm => ?_, ((h.kp.mono (M' := s :: p :: Y) (by simp)).trans hk (fun k hk => .inl hk)).mono (fun k hk => .inr (h.new k hk).1)⟩
 simp only [List.mem_cons] at hm
 rcases hm with h1 | h1 | h1
 ·exact h.new k (by simp [h1])
 ·exact h.new k (by simp [h1])
 ·rcases hG k h1 with h2 | h2
  ·exact h.new k (by simp [h2])
  ·have := h.kp.size; omega
theorem Within.first {w w3 w4 : World} {g s p : Nat} {Y Y' : List Nat} (ho : ∀ k ∈ s :: p :: Y, k < g) (hn : ∀ k ∈ s :: p :: Y, w.heap.size ≤ k) (hg : g < w3.heap.size) (hk3 : Keeps [] w w3) (hG : Grows Y w3 Y') (hk : Keeps (s :: p :: Y) w3 w4) : Within w g (s :: p :: Y') w4 :=
 Within.step ⟨fun k hm => ⟨hn k hm, by have := ho k hm; omega⟩, hk3⟩ hg hG hk
theorem Within.keep {w w' w'' : World} {g : Nat} {X : List Nat} (h : Within w g X w') (hk : Keeps [] w' w'') : Within w g X w'' := ⟨h.new, h.kp.trans hk (by simp)⟩
def eD : EntryD := ⟨2, 0, 0, 0, 0, [], ⟨#[97, 61, 49]⟩, 0, 0⟩
theorem eD_ok : EntryOk eD := ⟨by decide, by decide, by decide, by decide, .inl ⟨rfl, ⟨[97, 61, 49], by decide, rfl⟩, rfl, rfl, rfl, rfl, rfl⟩⟩
def e9 : Array Value := #[.int .i64 2, .int .i64 0, .int .i64 0, .int .i64 0, .int .i64 0, .slice none 0 0, .string ⟨#[97, 61, 49]⟩, .int .i64 0, .int .i64 0]
theorem blk_new1 (w : World) (o : Obj) (t : TypeId) (cs : Array Value) : Blk ((w.alloc o).alloc (.cells cs t)) (w.heap.size + 1) t cs := by
 have := Blk.new (w.alloc o) t cs
 simpa using this
theorem ens_e1 {W : World} {g : Nat} (h : Blk W g 26 #[.int .i64 2, .int .i64 0, .int .i64 0, .int .i64 0, .int .i64 0, .slice none 0 0, .string ⟨#[97, 61, 49]⟩, .int .i64 0, .int .i64 0]) : Ens W [] (.slice (some ⟨g, 0, none⟩) 1 1) [eD] :=
 ⟨[(eD, .slice none 0 0)], rfl, ⟨_, 1, rfl, Nat.le_refl _, rfl, fun _ => ⟨g, 0, rfl, h.lt, by simp, fun j u hu => by rw [h.cell, Nat.zero_add]; simpa [eCell, eD] using hu⟩⟩, fun p hp => by simp at hp; subst hp; exact Ds.nil _ _⟩
theorem ens_e2 {W : World} {g : Nat} (h : Blk W g 26 #[.int .i64 2, .int .i64 0, .int .i64 0, .int .i64 0, .int .i64 0, .slice none 0 0, .string ⟨#[97, 61, 49]⟩, .int .i64 0, .int .i64 0, .int .i64 2, .int .i64 0, .int .i64 0, .int .i64 0, .int .i64 0, .slice none 0 0, .string ⟨#[97, 61, 49]⟩, .int .i64 0, .int .i64 0]) : Ens W [] (.slice (some ⟨g, 0, none⟩) 2 2) [eD, eD] :=
 ⟨[(eD, .slice none 0 0), (eD, .slice none 0 0)], rfl, ⟨_, 2, rfl, Nat.le_refl _, rfl, fun _ => ⟨g, 0, rfl, h.lt, by simp, fun j u hu => by rw [h.cell, Nat.zero_add]; simpa [eCell, eD] using hu⟩⟩, fun p hp => by simp at hp; subst hp; exact Ds.nil _ _⟩
set_option maxRecDepth 100000 in
set_option maxHeartbeats 8000000 in
theorem vknown_any (m : Int) (w : World) (hm : w.cell? ⟨0, 0, none⟩ = some (.int .i64 m)) :
    Calls Tryz.prog 37 #[] w fun e w' => SamePost true w e w' := by
  have hw0 : 0 < w.heap.size := by
    have := World.block_lt_of_cell? w _ hm
    simpa using this
  have hkeepm : Hid (∀ W, Keeps [] w W → W.cell? ⟨0, 0, none⟩ = some (.int .i64 m)) := fun W hb => (hb.cell (p := ⟨0, 0, none⟩) hw0 (by simp)).trans hm
  clear hm
  go_enter Tryz.func37, Tryz.ntmps37
  go_wp2_with fail
  refine (dknew_any w).mono ?_
  rintro e w1 ⟨rfl, hD, hb1⟩
  have HD := Lib.hid hD; have Hk1 : Hid (Keeps [] w w1) := Keeps.of_below (M := []) hb1
  clear hD hb1
  go_wp2_with fail
  refine (open_step (x := word0) (j := 0) ⟨⟨[], by simp, rfl, rfl⟩, by simp, ⟨by simp [word0], by simp [word0], by simp [word0], by simp [word0]⟩⟩ w1 HD.out m (hkeepm.out w1 Hk1.out) (by simp; omega)).mono ?_
  rintro e w2 ⟨s, p, n, rfl, hS, hk2, hs2, hp2⟩
  have HS2 := Lib.hid hS
  have Hk2 : Hid (Keeps [] w w2) := (Hk1.out.mono (M' := [w.heap.size]) (by simp)).trans hk2 (fun g hg => .inl hg) |>.mono (fun g hg => .inr (by simp at hg; omega))
  have hs1 := Hk1.out.size
  have hgr2 : Hid (∀ g ∈ s :: p :: [w.heap.size], w.heap.size ≤ g) := fun g hg => by
    simp only [List.mem_cons, List.not_mem_nil, or_false] at hg
    rcases hg with h | h | h <;> omega
  clear hS hk2 HD Hk1
  obtain ⟨d, hd⟩ : ∃ d, Hid (w.heap.size = d) := ⟨_, rfl⟩
  obtain ⟨Y0, hY0⟩ : ∃ Y0, Hid ([w.heap.size] = Y0) := ⟨_, rfl⟩
  rw [hY0.out] at HS2 hgr2
  rw [hd.out] at HS2 ⊢
  obtain ⟨w3, hw3⟩ : ∃ w3, w3 = w2.alloc (.cells #[.int .i64 2, .int .i64 0, .int .i64 0, .int .i64 0, .int .i64 0, .slice none 0 0, .string ⟨#[97, 61, 49]⟩, .int .i64 0, .int .i64 0] 26) := ⟨_, rfl⟩
  have hk3 : Keeps [] w2 w3 := by rw [hw3]; exact (Keeps.refl _ _).alloc _
  have HB3 : Hid (Blk w3 w2.heap.size 26 #[.int .i64 2, .int .i64 0, .int .i64 0, .int .i64 0, .int .i64 0, .slice none 0 0, .string ⟨#[97, 61, 49]⟩, .int .i64 0, .int .i64 0]) := by show Blk _ _ _ _; rw [hw3]; exact Blk.new w2 _ _
  have HS3 := Lib.hid (HS2.out.keep0 hk3); have Hk3 := Lib.hid (Hk2.out.trans hk3 (by simp))
  have ho2 := HS2.out.old
  obtain ⟨g3, hg3⟩ : ∃ g3, Hid (w2.heap.size = g3) := ⟨_, rfl⟩
  have HO2 : Hid (∀ g ∈ s :: p :: Y0, g < g3) := fun g hg => by have := ho2 g hg; have := hg3.out; omega
  clear hk3 HS2 Hk2 ho2
  have HV0 : Hid (VI word0 [] 0) := ⟨⟨[], by simp, rfl, rfl⟩, by simp, ⟨by simp [word0], by simp [word0], by simp [word0], by simp [word0]⟩⟩
  go_wp2_with fail
  rw [← hw3]
  clear hw3
  rw [hg3.out] at HB3 ⊢
  refine (promise_step HV0.out (by omega) w3 HS3.out 3 (by omega) (by omega) m (hkeepm.out w3 Hk3.out)).mono ?_
  rintro e w4 ⟨rfl, b4, Y4, n4, hS4, hV4, hG4, hK4⟩
  have HS4 := Lib.hid hS4; have HV4 := Lib.hid hV4
  have HA4 := Lib.hid (Within.first HO2.out hgr2.out HB3.out.lt Hk3.out hG4 hK4)
  have HB4 := Lib.hid (hK4.blk HB3.out (fun hm => by have := HO2.out _ hm; omega))
  clear hS4 hV4 hG4 hK4 HS3 HB3
  have hx1 : nextP word0 3 = ⟨3, 0, []⟩ := rfl
  rw [hx1] at HS4 HV4
  clear hx1
  rw [show decide ((word0.t : Int) < 3) = true from rfl]
  go_wp2_with fail
  refine (accept_step HV4.out (by omega) w4 HS4.out ⟨0, 2, []⟩ ⟨by simp, by simp, by simp, by simp, by simp, by simp⟩ (.slice none 0 0) (Ens.nil _ _) m (hkeepm.out w4 HA4.out.kp)).mono ?_
  rintro e w5 ⟨rfl, b5, Y5, n5, hS5, hV5, hG5, hK5⟩
  have HS5 := Lib.hid hS5; have HV5 := Lib.hid hV5
  have HA5 := Lib.hid (HA4.out.step HB4.out.lt hG5 hK5)
  have HB5 := Lib.hid (hK5.blk HB4.out (fun hm => (HA4.out.new _ hm).2 rfl))
  clear hS5 hV5 hG5 hK5 HS4 HB4 HA4 HV4
  have hx1 : nextA ⟨3, 0, []⟩ ⟨0, 2, []⟩ = ⟨3, 0, []⟩ := rfl
  rw [hx1] at HS5 HV5
  clear hx1
  rw [show decide (((3 : Nat) : Int) ≤ 2 ∧ (1 : Int) ≤ 2) = false from rfl]
  have hO5 := HS5.out.old
  have HO5 := Lib.hid hO5
  have hacc1 : Hid (∀ W lv, Keeps [] w5 W → Ens W [] lv [eD, eD] → Calls Tryz.prog 34 #[.pointer (some ⟨s, 0, none⟩), .int .i64 3, lv] W fun e w' => e = .returned (.bool true) ∧ StepTo s p Y5 ⟨3, 3, [eD, eD]⟩ d 2 W w') := fun W lv hk hE => by
    have := accept_step HV5.out (by omega) W (HS5.out.keep0 hk) ⟨0, 3, [eD, eD]⟩ ⟨by simp, by simp, by simp, by simp, by simp, fun e he => by simp at he; subst he; exact eD_ok⟩ lv hE m (hkeepm.out W (HA5.out.kp.trans hk (by simp)))
    exact this
  have hacc2 : Hid (∀ W b Y n lv, StAt W s p Y ⟨3, 3, [eD, eD]⟩ d b b.length n → VI ⟨3, 3, [eD, eD]⟩ b 3 → Keeps [] w W → Ens W [] lv [eD] → Calls Tryz.prog 34 #[.pointer (some ⟨s, 0, none⟩), .int .i64 3, lv] W fun e w' => e = .returned (.bool true) ∧ StepTo s p Y ⟨3, 3, [eD, eD]⟩ d 3 W w') := fun W b Y n lv hS hV hk hE => by
    have := accept_step hV (by omega) W hS ⟨0, 3, [eD]⟩ ⟨by simp, by simp, by simp, by simp, by simp, fun e he => by simp at he; subst he; exact eD_ok⟩ lv hE m (hkeepm.out W hk)
    exact this
  have HC : Hid (∀ W X, Within w g3 X W → Blk W g3 26 #[.int .i64 2, .int .i64 0, .int .i64 0, .int .i64 0, .int .i64 0, .slice none 0 0, .string ⟨#[97, 61, 49]⟩, .int .i64 0, .int .i64 0] → (fun W => W.cell? ⟨g3, 0, none⟩ = some (.int .i64 2) ∧ W.cell? ⟨g3, 1, none⟩ = some (.int .i64 0) ∧ W.cell? ⟨g3, 2, none⟩ = some (.int .i64 0) ∧ W.cell? ⟨g3, 3, none⟩ = some (.int .i64 0) ∧ W.cell? ⟨g3, 4, none⟩ = some (.int .i64 0) ∧ W.cell? ⟨g3, 5, none⟩ = some (.slice none 0 0) ∧ W.cell? ⟨g3, 6, none⟩ = some (.string ⟨#[97, 61, 49]⟩) ∧ W.cell? ⟨g3, 7, none⟩ = some (.int .i64 0) ∧ W.cell? ⟨g3, 8, none⟩ = some (.int .i64 0)) W) := fun W X h hb =>
    ⟨hb.cell 0, hb.cell 1, hb.cell 2, hb.cell 3, hb.cell 4, hb.cell 5, hb.cell 6, hb.cell 7, hb.cell 8⟩
  clear hO5
  go_wp2_with fail
  go_region_held3 (fun W => W.cell? ⟨g3, 0, none⟩ = some (.int .i64 2) ∧ W.cell? ⟨g3, 1, none⟩ = some (.int .i64 0) ∧ W.cell? ⟨g3, 2, none⟩ = some (.int .i64 0) ∧ W.cell? ⟨g3, 3, none⟩ = some (.int .i64 0) ∧ W.cell? ⟨g3, 4, none⟩ = some (.int .i64 0) ∧ W.cell? ⟨g3, 5, none⟩ = some (.slice none 0 0) ∧ W.cell? ⟨g3, 6, none⟩ = some (.string ⟨#[97, 61, 49]⟩) ∧ W.cell? ⟨g3, 7, none⟩ = some (.int .i64 0) ∧ W.cell? ⟨g3, 8, none⟩ = some (.int .i64 0)) (first | exact HC.out _ _ HA7.out HB7.out | exact HC.out _ _ HA6.out HB6.out | exact HC.out _ _ (HA6.out.keep ((Keeps.refl _ _).alloc _)) (((Keeps.refl [] _).alloc _).blk HB6.out (by simp)) | exact HC.out _ _ (HA5.out.keep ((Keeps.refl _ _).drew)) HB5.out | exact HC.out _ _ (HA5.out.keep (((Keeps.refl _ _).alloc _).drew)) ((((Keeps.refl [] _).alloc _).drew).blk HB5.out (by simp)) | exact HC.out _ _ (HA5.out.keep ((((Keeps.refl _ _).alloc _).alloc _).drew)) (((((Keeps.refl [] _).alloc _).alloc _).drew).blk HB5.out (by simp))) (first
    | (go_at_call 34
       with_reducible refine (hacc1.out _ _ ?hk ?he).mono ?_
       case hk => first | exact ((Keeps.refl _ _).alloc _).drew | exact (((Keeps.refl _ _).alloc _).alloc _).drew
       case he => first | exact ens_e2 (Blk.new _ _ _) | exact ens_e2 (blk_new1 _ _ _ _) | exact ens_e2 (((Keeps.refl [] _).alloc _).blk (Blk.new _ _ _) (by simp))
       rintro e w6 ⟨rfl, b6, Y6, n6, hS6, hV6, hG6, hK6⟩
       have HS6 := Lib.hid hS6; have HV6 := Lib.hid hV6; have HG6 := Lib.hid hG6; have HK6 := Lib.hid hK6
       have HA6 : Hid (Within w g3 (s :: p :: Y6) w6) := by first | exact (HA5.out.keep (((Keeps.refl _ _).alloc _).drew)).step (Nat.lt_of_lt_of_le HB5.out.lt (by simp)) hG6 hK6 | exact (HA5.out.keep ((((Keeps.refl _ _).alloc _).alloc _).drew)).step (Nat.lt_of_lt_of_le HB5.out.lt (by simp; omega)) hG6 hK6
       have HB6 : Hid (Blk w6 g3 26 #[.int .i64 2, .int .i64 0, .int .i64 0, .int .i64 0, .int .i64 0, .slice none 0 0, .string ⟨#[97, 61, 49]⟩, .int .i64 0, .int .i64 0]) := hK6.blk (by first | exact (((Keeps.refl [] _).alloc _).drew).blk HB5.out (by simp) | exact ((((Keeps.refl [] _).alloc _).alloc _).drew).blk HB5.out (by simp)) (fun hm => (HA5.out.new _ hm).2 rfl)
       clear hS6 hV6 hG6 hK6)
    | (go_at_call 34
       with_reducible refine (hacc2.out _ b6 Y6 n6 _ ?hs HV6.out ?hk ?he).mono ?_
       case hs => first | exact HS6.out | exact HS6.out.keep0 ((Keeps.refl _ _).alloc _)
       case hk => first | exact HA6.out.kp | exact HA6.out.kp.alloc _
       case he => first | exact ens_e1 (Blk.new _ _ _) | exact ens_e1 (HK6.out.blk (blk_new1 _ _ _ _) (fun hm => by have h2 := HO5.out _ hm; omega)) | exact ens_e1 (HK6.out.blk (((Keeps.refl [] _).alloc _).blk (Blk.new w5 _ _) (by simp)) (fun hm => by have h2 := HO5.out _ hm; omega))
       rintro e w7 ⟨rfl, b7, Y7, n7, hS7, hV7, hG7, hK7⟩
       have HS7 := Lib.hid hS7; have HV7 := Lib.hid hV7
       have HA7 : Hid (Within w g3 (s :: p :: Y7) w7) := by first | exact HA6.out.step HB6.out.lt hG7 hK7 | exact (HA6.out.keep ((Keeps.refl _ _).alloc _)).step (Nat.lt_of_lt_of_le HB6.out.lt (by simp)) hG7 hK7
       have HB7 : Hid (Blk w7 g3 26 #[.int .i64 2, .int .i64 0, .int .i64 0, .int .i64 0, .int .i64 0, .slice none 0 0, .string ⟨#[97, 61, 49]⟩, .int .i64 0, .int .i64 0]) := hK7.blk (by first | exact HB6.out | exact ((Keeps.refl [] _).alloc _).blk HB6.out (by simp)) (fun hm => (HA6.out.new _ hm).2 rfl)
       clear hS7 hV7 hG7 hK7))
  all_goals
    have HX7 : Hid ((⟨3, 3, [eD, eD]⟩ : WordD).log.length = 2) := rfl
    go_wp2_with fail
    refine (vlog_any w7 HS7.out).mono ?_
    rintro e w8 ⟨A8, rfl, _, hk8⟩
    have HS8 := Lib.hid (HS7.out.keep0 hk8); have HA8 := Lib.hid (HA7.out.keep hk8)
    have HD8 : Hid (DkAt w8 Y7 d b7 b7.length) := by obtain ⟨_, _, _, hl, _⟩ := HS8.out; exact hl.2.1
    clear hk8 HS7 HA7
    go_wp2_with fail
    refine (dkcrash_any w8 HD8.out 0).mono ?_
    rintro e w9 ⟨rfl, hD9, hk9⟩
    rw [crashK_full, Nat.add_zero, List.take_length] at hD9
    have HD9 := Lib.hid hD9
    have Hk9 : Hid (Keeps Y7 w8 w9) := hk9.mono (fun g hg => by simp at hg; subst hg; exact .inl HD8.out.inX)
    have hm9 := Lib.hid ((hk9.cell (p := ⟨0, 0, none⟩) (World.block_lt_of_cell? _ _ (hkeepm.out w8 HA8.out.kp)) (by
      have h1 := (HA8.out.new d (by simp [HD8.out.inX])).1
      simp
      omega)).trans (hkeepm.out w8 HA8.out.kp))
    clear hD9 hk9
    go_wp2_with fail
    refine (open_step HV7.out w9 HD9.out m hm9.out (fun h => by have := (HA8.out.new 0 (by simp [h])).1; omega)).mono ?_
    rintro e wA ⟨s', p', n', rfl, hSA, hkA, hsA, hpA⟩
    have HSA := Lib.hid hSA
    have hkAll : Keeps Y7 w8 wA := Hk9.out.trans hkA (fun g hg => .inl hg)
    have HSs : Hid (StAt wA s p Y7 ⟨3, 3, [eD, eD]⟩ d b7 b7.length n7) := by
      obtain ⟨lv, hb, he, hl, hs, hok⟩ := HS8.out
      obtain ⟨_, _, _, hl', _⟩ := hSA
      exact ⟨lv, hkAll.blk hb (fun h => hs (by simp [h])), he.keep hkAll (fun g hg => .inl (by simp [hg])), ⟨hkAll.blk hl.1 hl.2.2.1, hl'.2.1, hl.2.2⟩, hs, hok⟩
    have HKA : Hid (Keeps [] w wA) := ((HA8.out.kp.mono (M' := Y7) (by simp)).trans hkAll (fun g hg => .inl hg)).mono (fun g hg => .inr (HA8.out.new g (by simp [hg])).1)
    clear hSA hkA hsA hpA hkAll HS8 HD8 HD9 Hk9 hm9 HA8 HV7 HB7 HA6 HB6 HS6 HV6 HG6 HK6 hacc1 hacc2 HC HO5
    go_wp2_with fail
    refine (vterm_any wA HSA.out).mono ?_
    rintro e wz ⟨rfl, rfl⟩
    go_wp2_with fail
    refine (vhad_any wA HSA.out).mono ?_
    rintro e wz ⟨rfl, rfl⟩
    go_wp2_with fail
    refine (vlog_any wA HSA.out).mono ?_
    rintro e wB ⟨A9, rfl, _, hkB⟩
    have HKB := Lib.hid (HKA.out.trans hkB (by simp))
    have HSB := Lib.hid (HSA.out.keep0 hkB); have HSsB := Lib.hid (HSs.out.keep0 hkB)
    clear hkB HSA HSs HKA
    go_wp2_with fail
    refine (vpromise_any s' p' Y7 _ d b7.length _ b7 wB HSB.out 3 (by omega) m (hkeepm.out wB HKB.out)).mono ?_
    intro e wC hpm
    unfold PmPost at hpm
    rw [if_neg (by simp)] at hpm
    obtain ⟨rfl, hkC⟩ := hpm
    have HKC := Lib.hid (HKB.out.trans hkC (by simp)); have HSsC := Lib.hid (HSsB.out.keep0 hkC)
    clear hkC HSB HSsB HKB
    go_wp2_with fail
    refine (vaccept_any s p Y7 _ d b7.length _ b7 wC HSsC.out 0 (by omega) (.slice none 0 0) [] (Ens.nil _ _) (by simp) m (hkeepm.out wC HKC.out)).mono ?_
    intro e wD hac
    unfold AcPost at hac
    rw [if_neg (fun h => by have := h.2.1; omega)] at hac
    obtain ⟨rfl, hkD⟩ := hac
    have hp : Hid (SamePost true w (.returned (.bool true)) wD) := ⟨rfl, (HKC.out.trans hkD (by simp)).below⟩
    clear hkD
    go_wp2_with fail
    go_ret
    exact hp.out
theorem asks_in {l : List AskD} (h : ∀ a ∈ l, AskOk a) : ∀ a ∈ l, a.t ≤ 9223372036854775807 ∧ ∀ e ∈ a.log, Short e ∧ Wf e := fun a ha => by
 obtain ⟨_, _, h1, h2, _, h3⟩ := h a ha
 exact ⟨by omega, fun e he => (entry_right (h3 e he)).2⟩
set_option maxRecDepth 100000 in
set_option maxHeartbeats 4000000 in
theorem vplays_walk (At : Option Addr) (ct : Nat) (t : List Int) (Ab : Option Addr) (cb : Nat) (b : List UInt8) (Al : Option Addr) (cl : Nat) (l : List AskD) (mx : Int) (w : World)
  (ht : Nums w At ct t) (hb : Bs w [] (.slice Ab b.length cb) b) (hl : AskAt w [] (.slice Al l.length cl) l) (hok : ∀ a ∈ l, a.t ≤ 9223372036854775807 ∧ ∀ e ∈ a.log, Short e ∧ Wf e) (hm : w.cell? ⟨0, 0, none⟩ = some (.int .i64 mx)) :
  Calls Tryz.prog 8 #[.slice At t.length ct, .slice Ab b.length cb, .slice Al l.length cl] w fun e w' => SamePost true w e w' := by
 have hw0 : 0 < w.heap.size := by
  have := World.block_lt_of_cell? w _ hm
  simpa using this
 have Hm : Hid (∀ W, Below w.heap.size w W → W.cell? ⟨0, 0, none⟩ = some (.int .i64 mx)) := fun W hb => (hb.cell (p := ⟨0, 0, none⟩) hw0).trans hm
 have HAs := Lib.hid (asks_any At ct t 40 (by omega) w ht)
 obtain ⟨b', cb', hbb, hq, HBb⟩ : ∃ (b' : List UInt8) (cb' : Nat), b'.length ≤ 200 ∧ ((200 < b.length ∧ b'.length = 200 ∧ cb' = cb) ∨ (b.length ≤ 200 ∧ b' = b ∧ cb' = cb)) ∧ Hid (Bs w [] (.slice Ab b'.length cb') b') := by
  by_cases h : 200 < b.length
  ·have hlen : (b.take 200).length = 200 := List.length_take_of_le (by omega)
   exact ⟨b.take 200, cb, by omega, .inl ⟨h, hlen, rfl⟩, (by show Bs _ _ _ _; rw [hlen]; exact hb.headG 200 (by omega))⟩
  ·exact ⟨b, cb, by omega, .inr ⟨by omega, rfl, rfl⟩, hb⟩
 obtain ⟨Ab', cb2, e, hcb, _⟩ := hb
 obtain rfl : cb = cb2 := by injection e with _ _ h3
 clear e
 have HL : Hid (∀ W, Below w.heap.size w W → AskAt W [] (.slice Al l.length cl) l) := fun W hW => hl.keep (M' := []) (Keeps.of_below hW) (by simp)
 have Hok := Lib.hid hok
 have HP0 : Hid (∀ W Aq cq (q : List AskD), Below w.heap.size w W → AskAt W [] (.slice Aq q.length cq) q → (∀ a ∈ q, a.t ≤ 9223372036854775807 ∧ ∀ e ∈ a.log, Short e ∧ Wf e) → Calls Tryz.prog 39 #[.slice none 0 0, .slice Aq q.length cq] W fun e w' => SamePost true W e w') := fun W Aq cq q hW hq hk =>
  play_any none 0 [] Aq cq q mx W (Bs.nil _ _) (by simp) hq hk (Hm.out W hW)
 have HPb : Hid (∀ W, Below w.heap.size w W → Calls Tryz.prog 39 #[.slice Ab b'.length cb', .slice Al l.length cl] W fun e w' => SamePost true W e w') := fun W hW =>
  play_any Ab cb' b' Al cl l mx W (HBb.out.keep (M' := []) (Keeps.of_below hW) (by simp)) (by omega) (HL.out W hW) Hok.out (Hm.out W hW)
 have HK : Hid (∀ W, Below w.heap.size w W → Calls Tryz.prog 37 #[] W fun e w' => SamePost true W e w') := fun W hW => (vknown_any mx W (Hm.out W hW)).mono (fun _ _ h => by obtain ⟨rfl, hb⟩ := h; exact ⟨rfl, hb⟩)
 clear ht hl hok hm HBb
 go_enter Tryz.func8, Tryz.ntmps8
 rcases hq with ⟨h200, hb2, rfl⟩ | ⟨h200, rfl, rfl⟩
 ·have h200i : (200 : Int) < (b.length : Int) := by omega
  have hcbi : (200 : Int) ≤ (cb' : Int) := by omega
  rw [hb2] at HPb
  go_wp2_with fail
  refine HAs.out.mono ?_
  rintro e w1 ⟨v, q, rfl, _, hok1, hat, hk1⟩
  have HA1 := Lib.hid (hat [] (by simp)); have Hb1 := Lib.hid hk1.below; have Hk1 := Lib.hid (asks_in hok1)
  obtain ⟨Aq, cq, rfl, _⟩ := HA1.out.len
  clear hat hk1 hok1 HAs
  go_wp2_with fail
  refine (HP0.out w1 Aq cq q Hb1.out HA1.out Hk1.out).mono ?_
  rintro r w2 ⟨rfl, hb2⟩
  have Hb2 := Lib.hid (below_then Hb1.out hb2)
  clear hb2 HA1 Hk1 Hb1
  go_wp2_with fail
  refine (HPb.out w2 Hb2.out).mono ?_
  rintro r w3 ⟨rfl, hb3⟩
  have Hb3 := Lib.hid (below_then Hb2.out hb3)
  clear hb3 HPb Hb2
  go_wp2_with fail
  refine (HP0.out w3 Al cl l Hb3.out (HL.out w3 Hb3.out) Hok.out).mono ?_
  rintro r w4 ⟨rfl, hb4⟩
  have Hb4 := Lib.hid (below_then Hb3.out hb4)
  clear hb4 Hb3 HP0
  go_wp2_with fail
  refine (HK.out w4 Hb4.out).mono ?_
  rintro r w5 ⟨rfl, hb5⟩
  have Hb5 := Lib.hid (below_then Hb4.out hb5)
  clear hb5 Hb4
  go_wp2
  go_ret
  exact ⟨rfl, Hb5.out⟩
 ·have h200i : decide ((200 : Int) < (b'.length : Int)) = false := decide_eq_false (by omega)
  go_wp2_with fail
  refine HAs.out.mono ?_
  rintro e w1 ⟨v, q, rfl, _, hok1, hat, hk1⟩
  have HA1 := Lib.hid (hat [] (by simp)); have Hb1 := Lib.hid hk1.below; have Hk1 := Lib.hid (asks_in hok1)
  obtain ⟨Aq, cq, rfl, _⟩ := HA1.out.len
  clear hat hk1 hok1 HAs
  go_wp2_with fail
  refine (HP0.out w1 Aq cq q Hb1.out HA1.out Hk1.out).mono ?_
  rintro r w2 ⟨rfl, hb2⟩
  have Hb2 := Lib.hid (below_then Hb1.out hb2)
  clear hb2 HA1 Hk1 Hb1
  go_wp2_with fail
  refine (HPb.out w2 Hb2.out).mono ?_
  rintro r w3 ⟨rfl, hb3⟩
  have Hb3 := Lib.hid (below_then Hb2.out hb3)
  clear hb3 HPb Hb2
  go_wp2_with fail
  refine (HP0.out w3 Al cl l Hb3.out (HL.out w3 Hb3.out) Hok.out).mono ?_
  rintro r w4 ⟨rfl, hb4⟩
  have Hb4 := Lib.hid (below_then Hb3.out hb4)
  clear hb4 Hb3 HP0
  go_wp2_with fail
  refine (HK.out w4 Hb4.out).mono ?_
  rintro r w5 ⟨rfl, hb5⟩
  have Hb5 := Lib.hid (below_then Hb4.out hb5)
  clear hb5 Hb4
  go_wp2
  go_ret
  exact ⟨rfl, Hb5.out⟩
end Go.Proofs.YtinnifhnabncfaaGreatDoor.Vi
end
