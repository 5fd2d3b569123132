/- Texts put together: Ref9, Scan, RefQ, Ref7, RfL, Ref8, RefA. -/
import Derived.Lib.SplitLaws
import Derived.Sort.LotA
import Derived.Test.YtinnifhnabncfaaGreatDoorVP2
import Derived.Test.YtinnifhnabncfaaGreatDoorVP4
import Derived.Test.YtinnifhnabncfaaGreatDoorVP6
set_option linter.unusedVariables false
set_option linter.unusedSimpArgs false
section
namespace Go.Proofs.YtinnifhnabncfaaGreatDoor.Vi
open Go.RowKit Base Mem Go.Shelf
def RReadP (l : List UInt8) (w : World) (e : Ending) (w' : World) : Prop := match readF l with
 | none => e = .returned (.tuple #[.slice none 0 0, .int .i64 0, .bool false]) ∧ Below w.heap.size w w'
 | some (x, n) => ∃ v, e = .returned (.tuple #[v, .int .i64 n, .bool true]) ∧ w'.ownsRow w.heap.size 5 1 v x.length (x.map bV) ∧ Below w.heap.size w w'
set_option maxRecDepth 100000 in
set_option maxHeartbeats 4000000 in
theorem rread_any (v : Value) (l : List UInt8) (w : World) (h : Bs w [] v l) (hl : l.length ≤ 4611686018427387000) :
  Calls Tryz.prog 47 #[v] w fun e w' => RReadP l w e w' := by
 have hg : Hid (Calls Tryz.prog 96 #[v] w fun e w' => e = .returned (.tuple #[.int .u64 (getL l).1, .int .i64 (getL l).2]) ∧ Below w.heap.size w w') := rget_any v l w h (by omega)
 obtain ⟨A, c, rfl, hc⟩ := h.len
 have H := Lib.hid h
 obtain ⟨hk, hn⟩ := getL_le l
 have HC := Lib.hid (show readF l = (if (getL l).2 = 0 ∨ 65536 < (getL l).1 ∨ l.length < (getL l).2 + 4 + (getL l).1 then none
  else if crcOf ((l.drop ((getL l).2 + 4)).take (getL l).1) = unL (l.drop (getL l).2) then some ((l.drop ((getL l).2 + 4)).take (getL l).1, (getL l).2 + 4 + (getL l).1) else none) from rfl)
 have hiff0 := Lib.hid (rreadF_iff l)
 obtain ⟨i0, hi0, hz0, hz1, hz2⟩ := info_parts infoU8
 have Hi0 := Lib.hid hi0; have Hz0 := Lib.hid hz0; have Hz1 := Lib.hid hz1; have Hz2 := Lib.hid hz2
 clear h hi0 hz0 hz1 hz2
 generalize (getL l).1 = n at *
 generalize (getL l).2 = k at *
 by_cases hk0 : k = 0
 ·have hR : Hid (readF l = none) := by show _ = _; rw [HC.out, if_pos (.inl hk0)]
  subst hk0
  clear HC hiff0
  go_enter Tryz.func47, Tryz.ntmps47
  go_wp2_with fail
  refine hg.out.mono ?_
  rintro e w1 ⟨rfl, hb1⟩
  have Hb1 := Lib.hid hb1
  clear hb1
  go_wp2
  go_ret3
  show RReadP l w _ _
  unfold RReadP
  rw [hR.out]
  exact ⟨rfl, Hb1.out⟩
 ·have hkz : ((k : Int) == 0) = false := by simpa using hk0
  by_cases hn6 : 65536 < n
  ·have hR : Hid (readF l = none) := by show _ = _; rw [HC.out, if_pos (.inr (.inl hn6))]
   have hni : (65536 : Int) < (n : Int) := by omega
   clear HC hiff0
   go_enter Tryz.func47, Tryz.ntmps47
   go_wp2_with fail
   refine hg.out.mono ?_
   rintro e w1 ⟨rfl, hb1⟩
   have Hb1 := Lib.hid hb1
   clear hb1
   go_wp2
   go_ret3
   show RReadP l w _ _
   unfold RReadP
   rw [hR.out]
   exact ⟨rfl, Hb1.out⟩
  ·have hni : decide ((65536 : Int) < (n : Int)) = false := decide_eq_false (by omega)
   by_cases hsh : l.length < k + 4 + n
   ·have hR : Hid (readF l = none) := by show _ = _; rw [HC.out, if_pos (.inr (.inr hsh))]
    have hli : (l.length : Int) < (k : Int) + 4 + (n : Int) := by omega
    clear HC hiff0
    go_enter Tryz.func47, Tryz.ntmps47
    go_wp2_with fail
    refine hg.out.mono ?_
    rintro e w1 ⟨rfl, hb1⟩
    have Hb1 := Lib.hid hb1
    clear hb1
    go_wp2
    go_ret3
    show RReadP l w _ _
    unfold RReadP
    rw [hR.out]
    exact ⟨rfl, Hb1.out⟩
   ·obtain ⟨en, hen⟩ : ∃ en, en = k + 4 + n := ⟨_, rfl⟩
    obtain ⟨lo, hlo⟩ : ∃ lo, lo = k + 4 := ⟨_, rfl⟩
    have hli : decide ((l.length : Int) < (k : Int) + 4 + (n : Int)) = false := decide_eq_false (by omega)
    have HR : Hid (readF l = if crcOf ((l.drop lo).take n) = unL (l.drop k) then some ((l.drop lo).take n, en) else none) := by show _ = _; rw [HC.out, if_neg (by omega), hlo, hen]
    have hiff := Lib.hid (hiff0.out (by omega))
    rw [← hlo, show lo + n = en by omega] at hiff
    obtain ⟨q, hq0⟩ : ∃ q, q = (l.drop lo).take n := ⟨_, rfl⟩
    rw [← hq0] at HR hiff
    have hql : Hid (q.length = n) := by show _ = _; rw [hq0, List.length_take, List.length_drop]; omega
    obtain ⟨g, off, rfl⟩ := H.out.some_ (by omega)
    obtain ⟨tA, htA⟩ : ∃ tA : ByteArray, tA = ⟨(frameL q).toArray⟩ := ⟨_, rfl⟩
    obtain ⟨tB, htB⟩ : ∃ tB : ByteArray, tB = ⟨(l.take en).toArray⟩ := ⟨_, rfl⟩
    have hcmp : Hid ((tA.toList == tB.toList) = decide (frameL q = l.take en)) := by
     show _ = _
     rw [htA, htB, Lib.toList_data, Lib.toList_data, Bool.eq_iff_iff, beq_iff_eq, decide_eq_true_eq]
    have hcv2 : Hid (∀ (W : World) (v7 : Value) {base : Nat}, W.ownsRow base 5 1 v7 (frameL q).length ((frameL q).map bV) → ∃ A7 c7, v7 = .slice A7 (frameL q).length c7 ∧ (convert 36 9 (.slice A7 (frameL q).length c7)).run Tryz.prog W = .ok (.string tA) W) := fun W v7 base h => by rw [htA]; exact conv_own h
    have HS7 : Hid (∀ W, Below w.heap.size w W → (convert 36 9 (.slice (some ⟨g, off, none⟩) en c)).run Tryz.prog W = .ok (.string tB) W) := fun W hb => by
     have h1 := (H.out.keep (Keeps.of_below (M := []) hb) (by simp)).headG en (by omega)
     have h2 : (l.take en).length = en := by rw [List.length_take]; omega
     have h3 := conv_bytes (l := l.take en) (A := some ⟨g, off, none⟩) (c := c) (w := W) (M := []) (by rw [h2]; exact h1)
     rw [h2] at h3
     rw [htB]
     exact h3
    have hw1 : IntKind.i64.wrap ((k : Int) + 4) = (lo : Int) := by rw [IntKind.wrap_i64]; omega
    have hw2 : (k : Int) + 4 + (n : Int) = (en : Int) := by omega
    have hlec : (lo : Int) ≤ (en : Int) := by omega
    have hle2 : (en : Int) ≤ (c : Int) := by omega
    have hsub : en - lo = n := by omega
    have hE : (lo : Int) + (n : Int) = (en : Int) := by omega
    have hD : lo ≤ en := by omega
    clear HC hiff0 htA htB
    by_cases hck : c = lo
    ·have hn0 : n = 0 := by omega
     obtain rfl : lo = c := hck.symm
     have hpart0 : Hid (∀ W, Below w.heap.size w W → Bs W [] (.slice (some ⟨g, off, none⟩) n 0) q) := fun W hb => by
      have := (H.out.keep (M' := []) (Keeps.of_below hb) (by simp)).part lo n (by omega) 0 (by omega) (some ⟨g, off, none⟩) (fun h => by omega)
      rw [← hq0, hql.out] at this
      exact this
     have hpart := hpart0
     have hfr : Hid (∀ W, Below w.heap.size w W → Calls Tryz.prog 41 #[.slice (some ⟨g, off, none⟩) n 0] W fun e w' => OwnB (frameL q) W e w') := fun W hb => rframe_any _ q W (hpart.out W hb) (by rw [hql.out]; omega)
     have hrd : Hid (∀ W, Below w.heap.size w W → Reads W W.heap.size 1 (some ⟨g, off, none⟩) n (q.map bV)) := fun W hb => by
      have h := bs_reads (A := some ⟨g, off, none⟩) (c := 0) (l := q) (by rw [hql.out]; exact hpart0.out W hb)
      rwa [hql.out] at h
     clear hpart hpart0 hen hlo hq0
     try clear hn0
     go_enter Tryz.func47, Tryz.ntmps47
     go_wp2_with fail
     refine hg.out.mono ?_
     rintro e w1 ⟨rfl, hb1⟩
     have Hb1 := Lib.hid hb1
     clear hb1 hg
     go_upto_region 5 with (fail)
     by_cases hq : frameL q = l.take en
     ·have hR : Hid (readF l = some (q, en)) := by show _ = _; rw [HR.out, if_pos (hiff.out.1 hq)]
      have hcm : (tA.toList == tB.toList) = true := by rw [hcmp.out]; exact decide_eq_true hq
      clear hq HR hcmp hiff
      refine wp_region_held_drew (S := (fun W => (convert 36 9 (.slice (some ⟨g, off, none⟩) en lo)).run Tryz.prog W = .ok (.string tB) W)) (by kernel_rfl) (HS7.out _ (bdrewG Hb1.out)) (fun hHeld => ?_)
      refine wpAnyH_take (i := 0) (oi := _) (v := ?v0a) rfl (by kernel_rfl) (by kernel_rfl) (by kernel_rfl) (fun _ _ _ h => h) (Or.inl ⟨by rfl, ?y0a⟩) (by assumption) ?r0a
      case y0a => (intro w hSw; (try dsimp only at hSw); go_simp <;> with_reducible rfl)
      try simp only [List.getElem_toArray, List.getElem_cons_succ, List.getElem_cons_zero, Act.put, List.setIfInBounds_toArray, List.set_cons_zero, List.set_cons_succ]
      refine wpAnyH_take (i := 1) (oi := _) (v := ?v1a) rfl (by kernel_rfl) (by kernel_rfl) (by kernel_rfl) (fun _ _ _ h => h) (Or.inl ⟨by rfl, ?y1a⟩) (by assumption) ?r1a
      case y1a => (intro w hSw; (try dsimp only at hSw); go_simp <;> with_reducible rfl)
      try simp only [List.getElem_toArray, List.getElem_cons_succ, List.getElem_cons_zero, Act.put, List.setIfInBounds_toArray, List.set_cons_zero, List.set_cons_succ]
      refine wpAnyH_take (i := 2) (oi := _) (v := ?v2a) rfl (by kernel_rfl) (by kernel_rfl) (by kernel_rfl) (fun _ _ _ h => h) (Or.inl ⟨by rfl, ?y2a⟩) (by assumption) ?r2a
      case y2a => (intro w hSw; (try dsimp only at hSw); go_simp <;> with_reducible rfl)
      try simp only [List.getElem_toArray, List.getElem_cons_succ, List.getElem_cons_zero, Act.put, List.setIfInBounds_toArray, List.set_cons_zero, List.set_cons_succ]
      refine wpAnyH_take (i := 3) (oi := _) (v := ?v3a) rfl (by kernel_rfl) (by kernel_rfl) (by kernel_rfl) (fun _ _ _ h => h) (Or.inl ⟨by rfl, ?y3a⟩) (by assumption) ?r3a
      case y3a => (intro w hSw; (try dsimp only at hSw); go_simp <;> with_reducible rfl)
      try simp only [List.getElem_toArray, List.getElem_cons_succ, List.getElem_cons_zero, Act.put, List.setIfInBounds_toArray, List.set_cons_zero, List.set_cons_succ]
      refine wpAnyH_take (i := 4) (oi := _) (v := ?v4a) rfl (by kernel_rfl) (by kernel_rfl) (by kernel_rfl) (fun _ _ _ h => h) (Or.inl ⟨by rfl, ?y4a⟩) (by assumption) ?r4a
      case y4a => (intro w hSw; (try dsimp only at hSw); go_simp <;> with_reducible rfl)
      try simp only [List.getElem_toArray, List.getElem_cons_succ, List.getElem_cons_zero, Act.put, List.setIfInBounds_toArray, List.set_cons_zero, List.set_cons_succ]
      refine wpAnyH_take (i := 7) (oi := _) (v := ?v7a) rfl (by kernel_rfl) (by kernel_rfl) (by kernel_rfl) (fun _ _ _ h => h) (Or.inl ⟨by rfl, ?y7a⟩) (by assumption) ?r7a
      case y7a => (intro w hSw; (try dsimp only at hSw); go_simp <;> with_reducible rfl)
      try simp only [List.getElem_toArray, List.getElem_cons_succ, List.getElem_cons_zero, Act.put, List.setIfInBounds_toArray, List.set_cons_zero, List.set_cons_succ]
      refine wpAnyH_take (i := 8) (oi := _) (v := ?v8a) rfl (by kernel_rfl) (by kernel_rfl) (by kernel_rfl) (fun _ _ _ h => h) (Or.inl ⟨by rfl, ?y8a⟩) (by assumption) ?r8a
      case y8a => (intro w hSw; (try dsimp only at hSw); go_simp <;> with_reducible rfl)
      try simp only [List.getElem_toArray, List.getElem_cons_succ, List.getElem_cons_zero, Act.put, List.setIfInBounds_toArray, List.set_cons_zero, List.set_cons_succ]
      refine wpAnyH_take (i := 9) (oi := _) (v := ?v9a) rfl (by kernel_rfl) (by kernel_rfl) (by kernel_rfl) (fun _ _ _ h => h) (Or.inl ⟨by rfl, ?y9a⟩) (by assumption) ?r9a
      case y9a => (intro w hSw; (try dsimp only at hSw); go_simp <;> with_reducible rfl)
      try simp only [List.getElem_toArray, List.getElem_cons_succ, List.getElem_cons_zero, Act.put, List.setIfInBounds_toArray, List.set_cons_zero, List.set_cons_succ]
      refine wpAnyH_take (i := 10) (oi := _) (v := ?v10a) rfl (by kernel_rfl) (by kernel_rfl) (by kernel_rfl) (fun _ _ _ h => h) (Or.inl ⟨by rfl, ?y10a⟩) (by assumption) ?r10a
      case y10a => (intro w hSw; (try dsimp only at hSw); go_simp <;> with_reducible rfl)
      try simp only [List.getElem_toArray, List.getElem_cons_succ, List.getElem_cons_zero, Act.put, List.setIfInBounds_toArray, List.set_cons_zero, List.set_cons_succ]
      refine wpAnyH_ready (rs := [5]) (by kernel_rfl) (by simp) ?_
      refine AllReadyH.cons (o := _) rfl (fun K hK => ?_) AllReadyH.nil
      go_simp
      refine (hfr.out _ (bdrewG Hb1.out)).mono ?_
      rintro e w7 ⟨v7, rfl, hown7, hb⟩
      have hb7 := Lib.hid (bthenG (bdrewG Hb1.out) hb)
      obtain ⟨A7, c7, rfl, hcv8⟩ := hcv2.out w7 v7 hown7
      clear hb hown7
      refine hK.out _ _ (HS7.out _ hb7.out) (fun hHeld2 => ?_)
      clear hK K hHeld
      have hHeld := hHeld2
      clear hHeld2
      try simp only [List.getElem_toArray, List.getElem_cons_succ, List.getElem_cons_zero, Act.put, List.setIfInBounds_toArray, List.set_cons_zero, List.set_cons_succ]
      refine wpAnyH_ready (rs := [6]) (by kernel_rfl) (by simp) ?_
      refine AllReadyH.cons (o := _) rfl (fun K hK => ?_) AllReadyH.nil
      go_simp
      refine hK.out _ _ (HS7.out _ hb7.out) (fun hHeld2 => ?_)
      clear hK K hHeld
      have hHeld := hHeld2
      clear hHeld2
      try simp only [List.getElem_toArray, List.getElem_cons_succ, List.getElem_cons_zero, Act.put, List.setIfInBounds_toArray, List.set_cons_zero, List.set_cons_succ]
      refine wpAnyH_take (i := 11) (oi := _) (v := ?v11a) rfl (by kernel_rfl) (by kernel_rfl) (by kernel_rfl) (fun _ _ _ h => h) (Or.inl ⟨by rfl, ?y11a⟩) (by assumption) ?r11a
      case y11a => (intro w hSw; (try dsimp only at hSw); go_simp <;> with_reducible rfl)
      try simp only [List.getElem_toArray, List.getElem_cons_succ, List.getElem_cons_zero, Act.put, List.setIfInBounds_toArray, List.set_cons_zero, List.set_cons_succ]
      refine wpAnyH_done (by kernel_rfl) ?_ _
      go_wp2_with (at_builtin; refine wpList_append_any _ rfl (.tmp 47) (.tmp 52) _ rfl w7.heap.size 5 i0 _ 1 1 Tryz.underlying36 Hi0.out Hz0.out Hz1.out Hz2.out rfl (by omega) (.slice (some ⟨w7.heap.size, 0, none⟩) 0 0) 0 [] rfl (World.ownsRow_made w7 #[] 0 (Nat.le_refl _) (by unfold maxLen; omega) rfl) w7.heap.size (some ⟨g, off, none⟩) n 0 (q.map bV) rfl ((hrd.out w7 hb7.out).alloc (Nat.le_refl _) _) (bV_one q) (by unfold maxLen; omega) (by omega) (by simp) ?_; intro v9 w9 hown9 hg9 hat9; have Hown9 : Hid (w9.ownsRow w7.heap.size 5 1 v9 n (q.map bV)) := (show World.ownsRow _ _ _ _ _ _ _ by simpa using hown9); have Hb9 := Lib.hid (below_then hb7.out (grown_empty hg9)); have hs7 := Lib.hid hb7.out.size; clear hown9 hg9 hat9)
      go_ret3
      show RReadP l w _ _
      unfold RReadP
      rw [hR.out]
      exact ⟨v9, rfl, by rw [hql.out]; exact own_more Hown9.out hs7.out, Hb9.out⟩
     ·have hR : Hid (readF l = none) := by show _ = _; rw [HR.out, if_neg (fun h => hq (hiff.out.2 h))]
      have hcm : (tA.toList == tB.toList) = false := by rw [hcmp.out]; exact decide_eq_false hq
      clear hq HR hcmp hiff hrd
      refine wp_region_held_drew (S := (fun W => (convert 36 9 (.slice (some ⟨g, off, none⟩) en lo)).run Tryz.prog W = .ok (.string tB) W)) (by kernel_rfl) (HS7.out _ (bdrewG Hb1.out)) (fun hHeld => ?_)
      refine wpAnyH_take (i := 0) (oi := _) (v := ?v0af) rfl (by kernel_rfl) (by kernel_rfl) (by kernel_rfl) (fun _ _ _ h => h) (Or.inl ⟨by rfl, ?y0af⟩) (by assumption) ?r0af
      case y0af => (intro w hSw; (try dsimp only at hSw); go_simp <;> with_reducible rfl)
      try simp only [List.getElem_toArray, List.getElem_cons_succ, List.getElem_cons_zero, Act.put, List.setIfInBounds_toArray, List.set_cons_zero, List.set_cons_succ]
      refine wpAnyH_take (i := 1) (oi := _) (v := ?v1af) rfl (by kernel_rfl) (by kernel_rfl) (by kernel_rfl) (fun _ _ _ h => h) (Or.inl ⟨by rfl, ?y1af⟩) (by assumption) ?r1af
      case y1af => (intro w hSw; (try dsimp only at hSw); go_simp <;> with_reducible rfl)
      try simp only [List.getElem_toArray, List.getElem_cons_succ, List.getElem_cons_zero, Act.put, List.setIfInBounds_toArray, List.set_cons_zero, List.set_cons_succ]
      refine wpAnyH_take (i := 2) (oi := _) (v := ?v2af) rfl (by kernel_rfl) (by kernel_rfl) (by kernel_rfl) (fun _ _ _ h => h) (Or.inl ⟨by rfl, ?y2af⟩) (by assumption) ?r2af
      case y2af => (intro w hSw; (try dsimp only at hSw); go_simp <;> with_reducible rfl)
      try simp only [List.getElem_toArray, List.getElem_cons_succ, List.getElem_cons_zero, Act.put, List.setIfInBounds_toArray, List.set_cons_zero, List.set_cons_succ]
      refine wpAnyH_take (i := 3) (oi := _) (v := ?v3af) rfl (by kernel_rfl) (by kernel_rfl) (by kernel_rfl) (fun _ _ _ h => h) (Or.inl ⟨by rfl, ?y3af⟩) (by assumption) ?r3af
      case y3af => (intro w hSw; (try dsimp only at hSw); go_simp <;> with_reducible rfl)
      try simp only [List.getElem_toArray, List.getElem_cons_succ, List.getElem_cons_zero, Act.put, List.setIfInBounds_toArray, List.set_cons_zero, List.set_cons_succ]
      refine wpAnyH_take (i := 4) (oi := _) (v := ?v4af) rfl (by kernel_rfl) (by kernel_rfl) (by kernel_rfl) (fun _ _ _ h => h) (Or.inl ⟨by rfl, ?y4af⟩) (by assumption) ?r4af
      case y4af => (intro w hSw; (try dsimp only at hSw); go_simp <;> with_reducible rfl)
      try simp only [List.getElem_toArray, List.getElem_cons_succ, List.getElem_cons_zero, Act.put, List.setIfInBounds_toArray, List.set_cons_zero, List.set_cons_succ]
      refine wpAnyH_take (i := 7) (oi := _) (v := ?v7af) rfl (by kernel_rfl) (by kernel_rfl) (by kernel_rfl) (fun _ _ _ h => h) (Or.inl ⟨by rfl, ?y7af⟩) (by assumption) ?r7af
      case y7af => (intro w hSw; (try dsimp only at hSw); go_simp <;> with_reducible rfl)
      try simp only [List.getElem_toArray, List.getElem_cons_succ, List.getElem_cons_zero, Act.put, List.setIfInBounds_toArray, List.set_cons_zero, List.set_cons_succ]
      refine wpAnyH_take (i := 8) (oi := _) (v := ?v8af) rfl (by kernel_rfl) (by kernel_rfl) (by kernel_rfl) (fun _ _ _ h => h) (Or.inl ⟨by rfl, ?y8af⟩) (by assumption) ?r8af
      case y8af => (intro w hSw; (try dsimp only at hSw); go_simp <;> with_reducible rfl)
      try simp only [List.getElem_toArray, List.getElem_cons_succ, List.getElem_cons_zero, Act.put, List.setIfInBounds_toArray, List.set_cons_zero, List.set_cons_succ]
      refine wpAnyH_take (i := 9) (oi := _) (v := ?v9af) rfl (by kernel_rfl) (by kernel_rfl) (by kernel_rfl) (fun _ _ _ h => h) (Or.inl ⟨by rfl, ?y9af⟩) (by assumption) ?r9af
      case y9af => (intro w hSw; (try dsimp only at hSw); go_simp <;> with_reducible rfl)
      try simp only [List.getElem_toArray, List.getElem_cons_succ, List.getElem_cons_zero, Act.put, List.setIfInBounds_toArray, List.set_cons_zero, List.set_cons_succ]
      refine wpAnyH_take (i := 10) (oi := _) (v := ?v10af) rfl (by kernel_rfl) (by kernel_rfl) (by kernel_rfl) (fun _ _ _ h => h) (Or.inl ⟨by rfl, ?y10af⟩) (by assumption) ?r10af
      case y10af => (intro w hSw; (try dsimp only at hSw); go_simp <;> with_reducible rfl)
      try simp only [List.getElem_toArray, List.getElem_cons_succ, List.getElem_cons_zero, Act.put, List.setIfInBounds_toArray, List.set_cons_zero, List.set_cons_succ]
      refine wpAnyH_ready (rs := [5]) (by kernel_rfl) (by simp) ?_
      refine AllReadyH.cons (o := _) rfl (fun K hK => ?_) AllReadyH.nil
      go_simp
      refine (hfr.out _ (bdrewG Hb1.out)).mono ?_
      rintro e w7 ⟨v7, rfl, hown7, hb⟩
      have hb7 := Lib.hid (bthenG (bdrewG Hb1.out) hb)
      obtain ⟨A7, c7, rfl, hcv8⟩ := hcv2.out w7 v7 hown7
      clear hb hown7
      refine hK.out _ _ (HS7.out _ hb7.out) (fun hHeld2 => ?_)
      clear hK K hHeld
      have hHeld := hHeld2
      clear hHeld2
      try simp only [List.getElem_toArray, List.getElem_cons_succ, List.getElem_cons_zero, Act.put, List.setIfInBounds_toArray, List.set_cons_zero, List.set_cons_succ]
      refine wpAnyH_ready (rs := [6]) (by kernel_rfl) (by simp) ?_
      refine AllReadyH.cons (o := _) rfl (fun K hK => ?_) AllReadyH.nil
      go_simp
      refine hK.out _ _ (HS7.out _ hb7.out) (fun hHeld2 => ?_)
      clear hK K hHeld
      have hHeld := hHeld2
      clear hHeld2
      try simp only [List.getElem_toArray, List.getElem_cons_succ, List.getElem_cons_zero, Act.put, List.setIfInBounds_toArray, List.set_cons_zero, List.set_cons_succ]
      refine wpAnyH_take (i := 11) (oi := _) (v := ?v11af) rfl (by kernel_rfl) (by kernel_rfl) (by kernel_rfl) (fun _ _ _ h => h) (Or.inl ⟨by rfl, ?y11af⟩) (by assumption) ?r11af
      case y11af => (intro w hSw; (try dsimp only at hSw); go_simp <;> with_reducible rfl)
      try simp only [List.getElem_toArray, List.getElem_cons_succ, List.getElem_cons_zero, Act.put, List.setIfInBounds_toArray, List.set_cons_zero, List.set_cons_succ]
      refine wpAnyH_done (by kernel_rfl) ?_ _
      go_wp2
      go_ret3
      show RReadP l w _ _
      unfold RReadP
      rw [hR.out]
      exact ⟨rfl, hb7.out⟩
    ·have hpart0 : Hid (∀ W, Below w.heap.size w W → Bs W [] (.slice (some ⟨g, off + lo, none⟩) n (c - lo)) q) := fun W hb => by
      have := (H.out.keep (M' := []) (Keeps.of_below hb) (by simp)).part lo n (by omega) (c - lo) (by omega) (some ⟨g, off + lo, none⟩) (fun _ => rfl)
      rw [← hq0, hql.out] at this
      exact this
     have hpart := hpart0
     have hfr : Hid (∀ W, Below w.heap.size w W → Calls Tryz.prog 41 #[.slice (some ⟨g, off + lo, none⟩) n (c - lo)] W fun e w' => OwnB (frameL q) W e w') := fun W hb => rframe_any _ q W (hpart.out W hb) (by rw [hql.out]; omega)
     have hrd : Hid (∀ W, Below w.heap.size w W → Reads W W.heap.size 1 (some ⟨g, off + lo, none⟩) n (q.map bV)) := fun W hb => by
      have h := bs_reads (A := some ⟨g, off + lo, none⟩) (c := (c - lo)) (l := q) (by rw [hql.out]; exact hpart0.out W hb)
      rwa [hql.out] at h
     clear hpart hpart0 hen hlo hq0
     try clear hn0
     go_enter Tryz.func47, Tryz.ntmps47
     go_wp2_with fail
     refine hg.out.mono ?_
     rintro e w1 ⟨rfl, hb1⟩
     have Hb1 := Lib.hid hb1
     clear hb1 hg
     go_upto_region 5 with (fail)
     by_cases hq : frameL q = l.take en
     ·have hR : Hid (readF l = some (q, en)) := by show _ = _; rw [HR.out, if_pos (hiff.out.1 hq)]
      have hcm : (tA.toList == tB.toList) = true := by rw [hcmp.out]; exact decide_eq_true hq
      clear hq HR hcmp hiff
      refine wp_region_held_drew (S := (fun W => (convert 36 9 (.slice (some ⟨g, off, none⟩) en c)).run Tryz.prog W = .ok (.string tB) W)) (by kernel_rfl) (HS7.out _ (bdrewG Hb1.out)) (fun hHeld => ?_)
      refine wpAnyH_take (i := 0) (oi := _) (v := ?v0b) rfl (by kernel_rfl) (by kernel_rfl) (by kernel_rfl) (fun _ _ _ h => h) (Or.inl ⟨by rfl, ?y0b⟩) (by assumption) ?r0b
      case y0b => (intro w hSw; (try dsimp only at hSw); go_simp <;> with_reducible rfl)
      try simp only [List.getElem_toArray, List.getElem_cons_succ, List.getElem_cons_zero, Act.put, List.setIfInBounds_toArray, List.set_cons_zero, List.set_cons_succ]
      refine wpAnyH_take (i := 1) (oi := _) (v := ?v1b) rfl (by kernel_rfl) (by kernel_rfl) (by kernel_rfl) (fun _ _ _ h => h) (Or.inl ⟨by rfl, ?y1b⟩) (by assumption) ?r1b
      case y1b => (intro w hSw; (try dsimp only at hSw); go_simp <;> with_reducible rfl)
      try simp only [List.getElem_toArray, List.getElem_cons_succ, List.getElem_cons_zero, Act.put, List.setIfInBounds_toArray, List.set_cons_zero, List.set_cons_succ]
      refine wpAnyH_take (i := 2) (oi := _) (v := ?v2b) rfl (by kernel_rfl) (by kernel_rfl) (by kernel_rfl) (fun _ _ _ h => h) (Or.inl ⟨by rfl, ?y2b⟩) (by assumption) ?r2b
      case y2b => (intro w hSw; (try dsimp only at hSw); go_simp <;> with_reducible rfl)
      try simp only [List.getElem_toArray, List.getElem_cons_succ, List.getElem_cons_zero, Act.put, List.setIfInBounds_toArray, List.set_cons_zero, List.set_cons_succ]
      refine wpAnyH_take (i := 3) (oi := _) (v := ?v3b) rfl (by kernel_rfl) (by kernel_rfl) (by kernel_rfl) (fun _ _ _ h => h) (Or.inl ⟨by rfl, ?y3b⟩) (by assumption) ?r3b
      case y3b => (intro w hSw; (try dsimp only at hSw); go_simp <;> with_reducible rfl)
      try simp only [List.getElem_toArray, List.getElem_cons_succ, List.getElem_cons_zero, Act.put, List.setIfInBounds_toArray, List.set_cons_zero, List.set_cons_succ]
      refine wpAnyH_take (i := 4) (oi := _) (v := ?v4b) rfl (by kernel_rfl) (by kernel_rfl) (by kernel_rfl) (fun _ _ _ h => h) (Or.inl ⟨by rfl, ?y4b⟩) (by assumption) ?r4b
      case y4b => (intro w hSw; (try dsimp only at hSw); go_simp <;> with_reducible rfl)
      try simp only [List.getElem_toArray, List.getElem_cons_succ, List.getElem_cons_zero, Act.put, List.setIfInBounds_toArray, List.set_cons_zero, List.set_cons_succ]
      refine wpAnyH_take (i := 7) (oi := _) (v := ?v7b) rfl (by kernel_rfl) (by kernel_rfl) (by kernel_rfl) (fun _ _ _ h => h) (Or.inl ⟨by rfl, ?y7b⟩) (by assumption) ?r7b
      case y7b => (intro w hSw; (try dsimp only at hSw); go_simp <;> with_reducible rfl)
      try simp only [List.getElem_toArray, List.getElem_cons_succ, List.getElem_cons_zero, Act.put, List.setIfInBounds_toArray, List.set_cons_zero, List.set_cons_succ]
      refine wpAnyH_take (i := 8) (oi := _) (v := ?v8b) rfl (by kernel_rfl) (by kernel_rfl) (by kernel_rfl) (fun _ _ _ h => h) (Or.inl ⟨by rfl, ?y8b⟩) (by assumption) ?r8b
      case y8b => (intro w hSw; (try dsimp only at hSw); go_simp <;> with_reducible rfl)
      try simp only [List.getElem_toArray, List.getElem_cons_succ, List.getElem_cons_zero, Act.put, List.setIfInBounds_toArray, List.set_cons_zero, List.set_cons_succ]
      refine wpAnyH_take (i := 9) (oi := _) (v := ?v9b) rfl (by kernel_rfl) (by kernel_rfl) (by kernel_rfl) (fun _ _ _ h => h) (Or.inl ⟨by rfl, ?y9b⟩) (by assumption) ?r9b
      case y9b => (intro w hSw; (try dsimp only at hSw); go_simp <;> with_reducible rfl)
      try simp only [List.getElem_toArray, List.getElem_cons_succ, List.getElem_cons_zero, Act.put, List.setIfInBounds_toArray, List.set_cons_zero, List.set_cons_succ]
      refine wpAnyH_take (i := 10) (oi := _) (v := ?v10b) rfl (by kernel_rfl) (by kernel_rfl) (by kernel_rfl) (fun _ _ _ h => h) (Or.inl ⟨by rfl, ?y10b⟩) (by assumption) ?r10b
      case y10b => (intro w hSw; (try dsimp only at hSw); go_simp <;> with_reducible rfl)
      try simp only [List.getElem_toArray, List.getElem_cons_succ, List.getElem_cons_zero, Act.put, List.setIfInBounds_toArray, List.set_cons_zero, List.set_cons_succ]
      refine wpAnyH_ready (rs := [5]) (by kernel_rfl) (by simp) ?_
      refine AllReadyH.cons (o := _) rfl (fun K hK => ?_) AllReadyH.nil
      go_simp
      refine (hfr.out _ (bdrewG Hb1.out)).mono ?_
      rintro e w7 ⟨v7, rfl, hown7, hb⟩
      have hb7 := Lib.hid (bthenG (bdrewG Hb1.out) hb)
      obtain ⟨A7, c7, rfl, hcv8⟩ := hcv2.out w7 v7 hown7
      clear hb hown7
      refine hK.out _ _ (HS7.out _ hb7.out) (fun hHeld2 => ?_)
      clear hK K hHeld
      have hHeld := hHeld2
      clear hHeld2
      try simp only [List.getElem_toArray, List.getElem_cons_succ, List.getElem_cons_zero, Act.put, List.setIfInBounds_toArray, List.set_cons_zero, List.set_cons_succ]
      refine wpAnyH_ready (rs := [6]) (by kernel_rfl) (by simp) ?_
      refine AllReadyH.cons (o := _) rfl (fun K hK => ?_) AllReadyH.nil
      go_simp
      refine hK.out _ _ (HS7.out _ hb7.out) (fun hHeld2 => ?_)
      clear hK K hHeld
      have hHeld := hHeld2
      clear hHeld2
      try simp only [List.getElem_toArray, List.getElem_cons_succ, List.getElem_cons_zero, Act.put, List.setIfInBounds_toArray, List.set_cons_zero, List.set_cons_succ]
      refine wpAnyH_take (i := 11) (oi := _) (v := ?v11b) rfl (by kernel_rfl) (by kernel_rfl) (by kernel_rfl) (fun _ _ _ h => h) (Or.inl ⟨by rfl, ?y11b⟩) (by assumption) ?r11b
      case y11b => (intro w hSw; (try dsimp only at hSw); go_simp <;> with_reducible rfl)
      try simp only [List.getElem_toArray, List.getElem_cons_succ, List.getElem_cons_zero, Act.put, List.setIfInBounds_toArray, List.set_cons_zero, List.set_cons_succ]
      refine wpAnyH_done (by kernel_rfl) ?_ _
      go_wp2_with (at_builtin; refine wpList_append_any _ rfl (.tmp 47) (.tmp 52) _ rfl w7.heap.size 5 i0 _ 1 1 Tryz.underlying36 Hi0.out Hz0.out Hz1.out Hz2.out rfl (by omega) (.slice (some ⟨w7.heap.size, 0, none⟩) 0 0) 0 [] rfl (World.ownsRow_made w7 #[] 0 (Nat.le_refl _) (by unfold maxLen; omega) rfl) w7.heap.size (some ⟨g, off + lo, none⟩) n (c - lo) (q.map bV) rfl ((hrd.out w7 hb7.out).alloc (Nat.le_refl _) _) (bV_one q) (by unfold maxLen; omega) (by omega) (by simp) ?_; intro v9 w9 hown9 hg9 hat9; have Hown9 : Hid (w9.ownsRow w7.heap.size 5 1 v9 n (q.map bV)) := (show World.ownsRow _ _ _ _ _ _ _ by simpa using hown9); have Hb9 := Lib.hid (below_then hb7.out (grown_empty hg9)); have hs7 := Lib.hid hb7.out.size; clear hown9 hg9 hat9)
      go_ret3
      show RReadP l w _ _
      unfold RReadP
      rw [hR.out]
      exact ⟨v9, rfl, by rw [hql.out]; exact own_more Hown9.out hs7.out, Hb9.out⟩
     ·have hR : Hid (readF l = none) := by show _ = _; rw [HR.out, if_neg (fun h => hq (hiff.out.2 h))]
      have hcm : (tA.toList == tB.toList) = false := by rw [hcmp.out]; exact decide_eq_false hq
      clear hq HR hcmp hiff hrd
      refine wp_region_held_drew (S := (fun W => (convert 36 9 (.slice (some ⟨g, off, none⟩) en c)).run Tryz.prog W = .ok (.string tB) W)) (by kernel_rfl) (HS7.out _ (bdrewG Hb1.out)) (fun hHeld => ?_)
      refine wpAnyH_take (i := 0) (oi := _) (v := ?v0bf) rfl (by kernel_rfl) (by kernel_rfl) (by kernel_rfl) (fun _ _ _ h => h) (Or.inl ⟨by rfl, ?y0bf⟩) (by assumption) ?r0bf
      case y0bf => (intro w hSw; (try dsimp only at hSw); go_simp <;> with_reducible rfl)
      try simp only [List.getElem_toArray, List.getElem_cons_succ, List.getElem_cons_zero, Act.put, List.setIfInBounds_toArray, List.set_cons_zero, List.set_cons_succ]
      refine wpAnyH_take (i := 1) (oi := _) (v := ?v1bf) rfl (by kernel_rfl) (by kernel_rfl) (by kernel_rfl) (fun _ _ _ h => h) (Or.inl ⟨by rfl, ?y1bf⟩) (by assumption) ?r1bf
      case y1bf => (intro w hSw; (try dsimp only at hSw); go_simp <;> with_reducible rfl)
      try simp only [List.getElem_toArray, List.getElem_cons_succ, List.getElem_cons_zero, Act.put, List.setIfInBounds_toArray, List.set_cons_zero, List.set_cons_succ]
      refine wpAnyH_take (i := 2) (oi := _) (v := ?v2bf) rfl (by kernel_rfl) (by kernel_rfl) (by kernel_rfl) (fun _ _ _ h => h) (Or.inl ⟨by rfl, ?y2bf⟩) (by assumption) ?r2bf
      case y2bf => (intro w hSw; (try dsimp only at hSw); go_simp <;> with_reducible rfl)
      try simp only [List.getElem_toArray, List.getElem_cons_succ, List.getElem_cons_zero, Act.put, List.setIfInBounds_toArray, List.set_cons_zero, List.set_cons_succ]
      refine wpAnyH_take (i := 3) (oi := _) (v := ?v3bf) rfl (by kernel_rfl) (by kernel_rfl) (by kernel_rfl) (fun _ _ _ h => h) (Or.inl ⟨by rfl, ?y3bf⟩) (by assumption) ?r3bf
      case y3bf => (intro w hSw; (try dsimp only at hSw); go_simp <;> with_reducible rfl)
      try simp only [List.getElem_toArray, List.getElem_cons_succ, List.getElem_cons_zero, Act.put, List.setIfInBounds_toArray, List.set_cons_zero, List.set_cons_succ]
      refine wpAnyH_take (i := 4) (oi := _) (v := ?v4bf) rfl (by kernel_rfl) (by kernel_rfl) (by kernel_rfl) (fun _ _ _ h => h) (Or.inl ⟨by rfl, ?y4bf⟩) (by assumption) ?r4bf
      case y4bf => (intro w hSw; (try dsimp only at hSw); go_simp <;> with_reducible rfl)
      try simp only [List.getElem_toArray, List.getElem_cons_succ, List.getElem_cons_zero, Act.put, List.setIfInBounds_toArray, List.set_cons_zero, List.set_cons_succ]
      refine wpAnyH_take (i := 7) (oi := _) (v := ?v7bf) rfl (by kernel_rfl) (by kernel_rfl) (by kernel_rfl) (fun _ _ _ h => h) (Or.inl ⟨by rfl, ?y7bf⟩) (by assumption) ?r7bf
      case y7bf => (intro w hSw; (try dsimp only at hSw); go_simp <;> with_reducible rfl)
      try simp only [List.getElem_toArray, List.getElem_cons_succ, List.getElem_cons_zero, Act.put, List.setIfInBounds_toArray, List.set_cons_zero, List.set_cons_succ]
      refine wpAnyH_take (i := 8) (oi := _) (v := ?v8bf) rfl (by kernel_rfl) (by kernel_rfl) (by kernel_rfl) (fun _ _ _ h => h) (Or.inl ⟨by rfl, ?y8bf⟩) (by assumption) ?r8bf
      case y8bf => (intro w hSw; (try dsimp only at hSw); go_simp <;> with_reducible rfl)
      try simp only [List.getElem_toArray, List.getElem_cons_succ, List.getElem_cons_zero, Act.put, List.setIfInBounds_toArray, List.set_cons_zero, List.set_cons_succ]
      refine wpAnyH_take (i := 9) (oi := _) (v := ?v9bf) rfl (by kernel_rfl) (by kernel_rfl) (by kernel_rfl) (fun _ _ _ h => h) (Or.inl ⟨by rfl, ?y9bf⟩) (by assumption) ?r9bf
      case y9bf => (intro w hSw; (try dsimp only at hSw); go_simp <;> with_reducible rfl)
      try simp only [List.getElem_toArray, List.getElem_cons_succ, List.getElem_cons_zero, Act.put, List.setIfInBounds_toArray, List.set_cons_zero, List.set_cons_succ]
      refine wpAnyH_take (i := 10) (oi := _) (v := ?v10bf) rfl (by kernel_rfl) (by kernel_rfl) (by kernel_rfl) (fun _ _ _ h => h) (Or.inl ⟨by rfl, ?y10bf⟩) (by assumption) ?r10bf
      case y10bf => (intro w hSw; (try dsimp only at hSw); go_simp <;> with_reducible rfl)
      try simp only [List.getElem_toArray, List.getElem_cons_succ, List.getElem_cons_zero, Act.put, List.setIfInBounds_toArray, List.set_cons_zero, List.set_cons_succ]
      refine wpAnyH_ready (rs := [5]) (by kernel_rfl) (by simp) ?_
      refine AllReadyH.cons (o := _) rfl (fun K hK => ?_) AllReadyH.nil
      go_simp
      refine (hfr.out _ (bdrewG Hb1.out)).mono ?_
      rintro e w7 ⟨v7, rfl, hown7, hb⟩
      have hb7 := Lib.hid (bthenG (bdrewG Hb1.out) hb)
      obtain ⟨A7, c7, rfl, hcv8⟩ := hcv2.out w7 v7 hown7
      clear hb hown7
      refine hK.out _ _ (HS7.out _ hb7.out) (fun hHeld2 => ?_)
      clear hK K hHeld
      have hHeld := hHeld2
      clear hHeld2
      try simp only [List.getElem_toArray, List.getElem_cons_succ, List.getElem_cons_zero, Act.put, List.setIfInBounds_toArray, List.set_cons_zero, List.set_cons_succ]
      refine wpAnyH_ready (rs := [6]) (by kernel_rfl) (by simp) ?_
      refine AllReadyH.cons (o := _) rfl (fun K hK => ?_) AllReadyH.nil
      go_simp
      refine hK.out _ _ (HS7.out _ hb7.out) (fun hHeld2 => ?_)
      clear hK K hHeld
      have hHeld := hHeld2
      clear hHeld2
      try simp only [List.getElem_toArray, List.getElem_cons_succ, List.getElem_cons_zero, Act.put, List.setIfInBounds_toArray, List.set_cons_zero, List.set_cons_succ]
      refine wpAnyH_take (i := 11) (oi := _) (v := ?v11bf) rfl (by kernel_rfl) (by kernel_rfl) (by kernel_rfl) (fun _ _ _ h => h) (Or.inl ⟨by rfl, ?y11bf⟩) (by assumption) ?r11bf
      case y11bf => (intro w hSw; (try dsimp only at hSw); go_simp <;> with_reducible rfl)
      try simp only [List.getElem_toArray, List.getElem_cons_succ, List.getElem_cons_zero, Act.put, List.setIfInBounds_toArray, List.set_cons_zero, List.set_cons_succ]
      refine wpAnyH_done (by kernel_rfl) ?_ _
      go_wp2
      go_ret3
      show RReadP l w _ _
      unfold RReadP
      rw [hR.out]
      exact ⟨rfl, hb7.out⟩
end Go.Proofs.YtinnifhnabncfaaGreatDoor.Vi
end
section
namespace Go.Proofs.YtinnifhnabncfaaGreatDoor.Vi
open Go.RowKit Base Mem
theorem rdOwn_one {w w1 w2 : World} {out v' dv : Value} {o : Obj} {size n : Nat} {xs : List Value}
  (h : ∀ M', (∀ g ∈ M', g < w.heap.size ∨ out.ownBlock = some g) → Rd w1 M' size dv n xs)
  (hg : (w1.alloc o).grownBy w2 out.ownBlock) (hat : v'.ownBlock = out.ownBlock ∨ v'.ownBlock = some (w1.heap.size + 1)) (M' : List Nat) (hM : ∀ g ∈ M', g < w.heap.size ∨ v'.ownBlock = some g) : Rd w2 M' size dv n xs := by
 have h1 := h (out.ownBlock.toList ++ M'.filter (fun g => decide (g < w.heap.size))) (by
  intro g hg
  rcases List.mem_append.1 hg with h1 | h1
  ·right; simpa using h1
  ·left; simpa using (List.mem_filter.1 h1).2)
 have h2 : Rd (w1.alloc o) (out.ownBlock.toList ++ M'.filter (fun g => decide (g < w.heap.size))) size dv n xs := h1.keep (M' := []) ((Keeps.refl _ _).alloc o) (by simp)
 have h3 : Rd (w1.alloc o) (out.ownBlock.toList ++ M') size dv n xs := h2.avoid (by
  intro g hg
  rcases List.mem_append.1 hg with h1 | h1
  ·exact .inl (List.mem_append_left _ h1)
  ·rcases hM g h1 with h4 | h4
   ·exact .inl (List.mem_append_right _ (List.mem_filter.2 ⟨h1, by simpa using h4⟩))
   ·rcases hat with h5 | h5
    ·exact .inl (List.mem_append_left _ (by rw [h5] at h4; simpa using h4))
    ·rw [h5] at h4; injection h4 with h4; right; simp; omega)
 have h4 : Keeps out.ownBlock.toList (w1.alloc o) w2 := (Keeps.refl _ _).grown hg (fun g hg => .inl (by simpa using hg))
 exact (h3.keep h4 (fun g hg => .inl (List.mem_append_left _ hg))).avoid (fun g hg => .inl (List.mem_append_right _ hg))
/-- The rows that a row of the call's own holds lie in blocks that are neither old nor the row's. -/
def BsOwn (w wr : World) (out : Value) (qs : List (List UInt8 × Value)) : Prop := ∀ q ∈ qs, ∀ M', (∀ g ∈ M', g < w.heap.size ∨ out.ownBlock = some g) → Bs wr M' q.2 q.1
theorem bsOwn_step {w wr w1 w2 : World} {out v' dv' : Value} {o : Obj} {qs : List (List UInt8 × Value)} {e : List UInt8} (hds : BsOwn w wr out qs) (hb1 : Below wr.heap.size wr w1) (hlt : ∀ g, out.ownBlock = some g → g < wr.heap.size) (hw : w.heap.size ≤ wr.heap.size)
  (hnew : ∀ M', (∀ g ∈ M', g < wr.heap.size) → Bs w1 M' dv' e)
  (hg : (w1.alloc o).grownBy w2 out.ownBlock) (hat : v'.ownBlock = out.ownBlock ∨ v'.ownBlock = some (w1.heap.size + 1)) : BsOwn w w2 v' (qs ++ [(e, dv')]) := by
 intro q hq M' hM
 rcases List.mem_append.1 hq with h1 | h1
 ·exact rdOwn_one (fun M'' hM'' => Rd.keep (M' := []) (hds q h1 M'' hM'') (Keeps.of_below hb1) (by simp)) hg hat M' hM
 ·simp at h1
  subst h1
  exact rdOwn_one (fun M'' hM'' => hnew M'' (fun g hg => by rcases hM'' g hg with h | h; omega; exact hlt g h)) hg hat M' hM
/-- v reads as these rows of bytes. -/
def Bss (w : World) (M : List Nat) (v : Value) (rs : List (List UInt8)) : Prop :=
 ∃ qs : List (List UInt8 × Value), qs.map (·.1) = rs ∧ Rd w M 1 v qs.length (qs.map (·.2)) ∧ ∀ q ∈ qs, Bs w M q.2 q.1
theorem Bss.keep {w w' : World} {M M' : List Nat} {v : Value} {rs : List (List UInt8)} (h : Bss w M v rs) (k : Keeps M' w w') (hM : ∀ g ∈ M', g ∈ M ∨ w.heap.size ≤ g) : Bss w' M v rs := by
 obtain ⟨ps, hl, hr, hd⟩ := h
 exact ⟨ps, hl, hr.keep k hM, fun p hp => (hd p hp).keep k hM⟩
theorem Bss.len {w : World} {M : List Nat} {v : Value} {rs : List (List UInt8)} (h : Bss w M v rs) : ∃ A c, v = .slice A rs.length c ∧ rs.length ≤ c := by
 obtain ⟨ps, rfl, ⟨A, c, rfl, hc, _⟩, _⟩ := h
 exact ⟨A, c, by simp, by simpa using hc⟩
theorem Bss.at_ {w : World} {M : List Nat} {v : Value} {rs : List (List UInt8)} (h : Bss w M v rs) {k : Nat} (hk : k < rs.length) :
  ∃ g off cap bv, v = .slice (some ⟨g, off, none⟩) rs.length cap ∧ g < w.heap.size ∧ g ∉ M ∧ w.cell? ⟨g, off + k, none⟩ = some bv ∧ Bs w M bv rs[k] := by
 obtain ⟨ps, rfl, ⟨A, c, rfl, hc, _, hr⟩, hd⟩ := h
 have hk' : k < ps.length := by simpa using hk
 obtain ⟨g, off, rfl, hg, hm, hx⟩ := hr (by omega)
 exact ⟨g, off, c, ps[k].2, by simp, hg, hm, hx k _ (by rw [List.getElem?_map, List.getElem?_eq_getElem hk']; rfl), by simpa using hd ps[k] (List.getElem_mem _)⟩
theorem Bs.tail {w : World} {M : List Nat} {A : Option Addr} {c : Nat} {l : List UInt8} (h : Bs w M (.slice A l.length c) l) (a : Nat) (ha : a ≤ l.length) : Bs w M (.slice (if c = a then A else A.map (·.add a)) (l.length - a) (c - a)) (l.drop a) := by
 obtain ⟨A', c', e, hcc, hl, hr⟩ := h
 injection e with e1 _ e3
 subst e1 e3
 show Rd _ _ _ _ (l.drop a).length _
 rw [List.length_drop]
 refine ⟨_, c - a, rfl, by omega, by simp, fun hn => ?_⟩
 obtain ⟨g, off, rfl, hg, hm, hx⟩ := hr (by omega)
 rw [if_neg (by omega)]
 refine ⟨g, off + a, by simp [addr_add], hg, hm, fun j u hu => ?_⟩
 rw [Nat.add_assoc]
 refine hx (a + j) u ?_
 rw [List.getElem?_map] at hu ⊢
 rw [List.getElem?_drop] at hu
 exact hu
def ScPost (R : List (List UInt8) × Nat) (w : World) (e : Ending) (w' : World) : Prop :=
 ∃ v, e = .returned (.tuple #[v, .int .i64 R.2]) ∧ (∀ M, (∀ g ∈ M, g < w.heap.size) → Bss w' M v R.1) ∧ Below w.heap.size w w'
theorem infoB : (Tryz.prog.info? 36).map (fun i => (i.zero, i.size, i.bytes)) = some (some (.slice none 0 0), 1, 24) := by kernel_rfl
set_option maxRecDepth 100000 in
set_option maxHeartbeats 1000000 in
theorem scan_any (v : Value) (l : List UInt8) (w : World) (h : Bs w [] v l) (hl : l.length ≤ 100000000) :
  Calls Tryz.prog 136 #[v] w fun e w' => ScPost (scanS l) w e w' := by
 obtain ⟨i0, hi0, hz0, hz1, hz2⟩ := info_parts infoB
 have Hi0 := Lib.hid hi0; have Hz0 := Lib.hid hz0; have Hz1 := Lib.hid hz1; have Hz2 := Lib.hid hz2
 have H := Lib.hid h
 obtain ⟨A, c, rfl, hc⟩ := h.len
 have HS : Hid (scanS l = scanF l.length l) := rfl
 clear h hi0 hz0 hz1 hz2
 generalize scanS l = R at *
 obtain ⟨rs, rn⟩ := R
 go_enter Tryz.func136, Tryz.ntmps136
 go_wp2_with fail
 go_loopw [4, 5] (fun out ai wr => ∃ (a f : Nat) (qs : List (List UInt8 × Value)), ai = .int .i64 a ∧ a ≤ l.length ∧ l.length - a ≤ f ∧ qs.length * 5 ≤ a ∧ Hid ((rs, rn) = (qs.map (·.1) ++ (scanF f (l.drop a)).1, a + (scanF f (l.drop a)).2)) ∧ Hid (wr.ownsRow w.heap.size 36 1 out qs.length (qs.map (·.2))) ∧ Hid (BsOwn w wr out qs) ∧ Hid (Below w.heap.size w wr)) (fun _ ai _ => l.length - (intOf ai).toNat)
 case atStart => exact ⟨0, l.length, [], rfl, by omega, by omega, by simp, (by show _ = _; rw [HS.out]; simp), World.ownsRow_nil _ _ _ _, (show BsOwn _ _ _ _ from by intro q hq; cases hq), Below.refl _ _⟩
 case round =>
  obtain ⟨a, f, qs, rfl, ha, hf, hq5, HR, Hown, Hds, Hb⟩ := hrel
  have hai : (a : Int) ≤ (l.length : Int) := by omega
  have hstep := scanF_step (f := f) (l := l.drop a) (by rw [List.length_drop]; exact hf)
  have HBr := Lib.hid (H.out.keep (Keeps.of_below (M := []) Hb.out) (by simp))
  have hdl : (l.drop a).length = l.length - a := List.length_drop
  have HBn : Hid (¬ c = a → Bs wr [] (.slice (A.map (·.add a)) (l.length - a) (c - a)) (l.drop a)) := fun hn => by
   have := HBr.out.tail a ha
   rwa [if_neg hn] at this
  have HBe : Hid (c = a → Bs wr [] (.slice A (l.length - a) 0) (l.drop a)) := fun he => by
   have := HBr.out.tail a ha
   rwa [if_pos he, he, Nat.sub_self] at this
  have hf2 : Hid (∀ v, Bs wr [] v (l.drop a) → Calls Tryz.prog 101 #[v] wr fun e w' => FrRead (l.drop a) wr e w') := fun v hv => framer_any v (l.drop a) wr hv (by omega)
  have hac : (a : Int) ≤ (c : Int) := by omega
  have hbd := Lib.hid (fun x n (h : readF (l.drop a) = some (x, n)) => readF_bd h)
  rw [hdl] at hbd
  have HSt := Lib.hid hstep
  clear hstep HBr hdl
  have HF : Hid (∀ e W, FrRead (l.drop a) wr e W → (readF (l.drop a) = none ∧ e = .returned (.tuple #[.slice none 0 0, .int .i64 0, .bool false]) ∧ Below wr.heap.size wr W) ∨ (∃ x n, readF (l.drop a) = some (x, n) ∧ ∃ A c, e = .returned (.tuple #[.slice A x.length c, .int .i64 n, .bool true]) ∧ (∀ M, (∀ g ∈ M, g < wr.heap.size) → Bs W M (.slice A x.length c) x) ∧ Below wr.heap.size wr W)) := fun e W h => by
   unfold FrRead at h
   cases hr : readF (l.drop a) with
   | none => rw [hr] at h; exact .inl ⟨rfl, h⟩
   | some p => obtain ⟨x, n⟩ := p; rw [hr] at h; exact .inr ⟨x, n, rfl, h⟩
  go_wp2_with fail
  ·refine Calls.mono (by first | exact hf2.out _ (HBn.out (by assumption)) | exact hf2.out _ (HBe.out (by assumption)) | exact hf2.out _ (HBe.out rfl)) ?_
   intro e w3 hpost
   rcases HF.out _ _ hpost with ⟨hr, rfl, hb3⟩ | ⟨x, n, hr, A3, c3, rfl, hB3, hb3⟩
   ·have hp : Hid (ScPost (rs, rn) w (.returned (.tuple #[u4, .int .i64 a])) w3) := by
     have h1 := HSt.out
     rw [hr] at h1
     simp only [] at h1
     have h2 := HR.out
     rw [h1] at h2
     simp only [List.append_nil, Nat.add_zero] at h2
     rw [h2]
     refine ⟨u4, rfl, fun M hM => ⟨qs, rfl, ?_, fun q hq => (Hds.out q hq M (fun g hg => .inl (hM g hg))).keep (Keeps.of_below (M := []) hb3) (by simp)⟩, below_then Hb.out hb3⟩
     exact (Rd.of_own Hown.out hM).keep (Keeps.of_below (M := []) hb3) (by simp)
    clear hb3 hpost
    obtain ⟨Ao, co, e0⟩ : ∃ Ao co, u4 = .slice Ao qs.length co := by
     rcases Hown.out.2 with ⟨h, h'⟩ | ⟨g, cap, cur, h, _⟩
     ·exact ⟨none, 0, by rw [h, h']⟩
     ·exact ⟨_, _, h⟩
    subst e0
    go_wp2
    go_ret2
    exact hp.out
   ·obtain ⟨h5, hnl, hx6, hxn⟩ := hbd.out x n hr
    exfalso; omega
  ·refine Calls.mono (by first | exact hf2.out _ (HBn.out (by assumption)) | exact hf2.out _ (HBe.out (by assumption)) | exact hf2.out _ (HBe.out rfl)) ?_
   intro e w3 hpost
   rcases HF.out _ _ hpost with ⟨hr, rfl, hb3⟩ | ⟨x, n, hr, A3, c3, rfl, hB3, hb3⟩
   ·have hp : Hid (ScPost (rs, rn) w (.returned (.tuple #[u4, .int .i64 a])) w3) := by
     have h1 := HSt.out
     rw [hr] at h1
     simp only [] at h1
     have h2 := HR.out
     rw [h1] at h2
     simp only [List.append_nil, Nat.add_zero] at h2
     rw [h2]
     refine ⟨u4, rfl, fun M hM => ⟨qs, rfl, ?_, fun q hq => (Hds.out q hq M (fun g hg => .inl (hM g hg))).keep (Keeps.of_below (M := []) hb3) (by simp)⟩, below_then Hb.out hb3⟩
     exact (Rd.of_own Hown.out hM).keep (Keeps.of_below (M := []) hb3) (by simp)
    clear hb3 hpost
    obtain ⟨Ao, co, e0⟩ : ∃ Ao co, u4 = .slice Ao qs.length co := by
     rcases Hown.out.2 with ⟨h, h'⟩ | ⟨g, cap, cur, h, _⟩
     ·exact ⟨none, 0, by rw [h, h']⟩
     ·exact ⟨_, _, h⟩
    subst e0
    go_wp2
    go_ret2
    exact hp.out
   ·obtain ⟨h5, hnl, hx6, hxn⟩ := hbd.out x n hr
    have hown1 := Lib.hid ((own_below Hown.out hb3).alloc (.cells #[.slice A3 x.length c3] 36))
    have HB3 := Lib.hid hB3; have Hb3 := Lib.hid hb3
    clear hb3 hB3 hpost
    have hq6 : qs.length ≤ 20000000 := by omega
    simp only []
    go_wp2_with (at_builtin; refine wpList_append_any _ rfl (.tmp 21) (.tmp 23) _ rfl w.heap.size 36 i0 _ 1 24 Tryz.underlying114 Hi0.out Hz0.out Hz1.out Hz2.out rfl (by omega) u4 qs.length (qs.map (·.2)) rfl hown1.out (w3.heap.size + 1) (some ⟨w3.heap.size, 0, none⟩) 1 1 [.slice A3 x.length c3] rfl (reads_new _ _ _ _ _ rfl) ?_ ?_ ?_ ?_ ?_)
    ·intro u hu; simp at hu; subst hu; rfl
    ·unfold maxLen; omega
    ·omega
    ·have := Hb.out.size; have := Hb3.out.size; simp; omega
    ·intro v2 w2 hown2 hg2 hat2
     have hlt0 : ∀ g, u4.ownBlock = some g → w.heap.size ≤ g ∧ g < wr.heap.size := Hown.out.lt
     have R1 := Lib.hid (bsOwn_step (e := x) Hds.out Hb3.out (fun g hg => (hlt0 g hg).2) Hb.out.size HB3.out hg2 hat2)
     have R2 := Lib.hid (below_step Hb.out Hb3.out hg2 (fun g hg => (hlt0 g hg).1))
     have R3 : Hid (w2.ownsRow w.heap.size 36 1 v2 (qs ++ [(x, Value.slice A3 x.length c3)]).length ((qs ++ [(x, Value.slice A3 x.length c3)]).map (·.2))) := by
      show World.ownsRow _ _ _ _ _ _ _
      rw [List.map_append, List.length_append]
      simpa using hown2
     have R4 : Hid ((rs, rn) = ((qs ++ [(x, Value.slice A3 x.length c3)]).map (·.1) ++ (scanF (f - 1) (l.drop (a + n))).1, (a + n) + (scanF (f - 1) (l.drop (a + n))).2)) := by
      show _ = _
      have h1 := HSt.out
      rw [hr] at h1
      simp only [List.drop_drop] at h1
      rw [HR.out, h1]
      simp [Nat.add_assoc]
     clear hown2 hg2 hat2 hlt0 hown1 HB3
     go_wp2
     go_roundw
     case rel => exact ⟨a + n, f - 1, qs ++ [(x, .slice A3 x.length c3)], by go_num, by omega, by omega, by simp; omega, R4, R3, R1, R2.out⟩
     case measure => simp [intOf] <;> omega
theorem rread_fr {l : List UInt8} {w : World} {e : Ending} {w' : World} (h : RReadP l w e w') : FrRead l w e w' := by
 unfold RReadP at h
 unfold FrRead
 cases hr : readF l with
 | none => rw [hr] at h; exact h
 | some p =>
  obtain ⟨x, n⟩ := p
  rw [hr] at h
  obtain ⟨v, rfl, ho, hb⟩ := h
  obtain ⟨A, c, rfl, _⟩ := Rd.of_own (M := []) ho (by simp)
  exact ⟨A, c, rfl, fun M hM => Rd.of_own ho hM, hb⟩
set_option maxRecDepth 100000 in
set_option maxHeartbeats 1000000 in
theorem rscan_any (v : Value) (l : List UInt8) (w : World) (h : Bs w [] v l) (hl : l.length ≤ 100000000) :
  Calls Tryz.prog 183 #[v] w fun e w' => ScPost (scanS l) w e w' := by
 obtain ⟨i0, hi0, hz0, hz1, hz2⟩ := info_parts infoB
 have Hi0 := Lib.hid hi0; have Hz0 := Lib.hid hz0; have Hz1 := Lib.hid hz1; have Hz2 := Lib.hid hz2
 have H := Lib.hid h
 obtain ⟨A, c, rfl, hc⟩ := h.len
 have HS : Hid (scanS l = scanF l.length l) := rfl
 clear h hi0 hz0 hz1 hz2
 generalize scanS l = R at *
 obtain ⟨rs, rn⟩ := R
 go_enter Tryz.func183, Tryz.ntmps183
 go_wp2_with fail
 go_loopw [4, 5] (fun out ai wr => ∃ (a f : Nat) (qs : List (List UInt8 × Value)), ai = .int .i64 a ∧ a ≤ l.length ∧ l.length - a ≤ f ∧ qs.length * 5 ≤ a ∧ Hid ((rs, rn) = (qs.map (·.1) ++ (scanF f (l.drop a)).1, a + (scanF f (l.drop a)).2)) ∧ Hid (wr.ownsRow w.heap.size 36 1 out qs.length (qs.map (·.2))) ∧ Hid (BsOwn w wr out qs) ∧ Hid (Below w.heap.size w wr)) (fun _ ai _ => l.length - (intOf ai).toNat)
 case atStart => exact ⟨0, l.length, [], rfl, by omega, by omega, by simp, (by show _ = _; rw [HS.out]; simp), World.ownsRow_nil _ _ _ _, (show BsOwn _ _ _ _ from by intro q hq; cases hq), Below.refl _ _⟩
 case round =>
  obtain ⟨a, f, qs, rfl, ha, hf, hq5, HR, Hown, Hds, Hb⟩ := hrel
  have hai : (a : Int) ≤ (l.length : Int) := by omega
  have hstep := scanF_step (f := f) (l := l.drop a) (by rw [List.length_drop]; exact hf)
  have HBr := Lib.hid (H.out.keep (Keeps.of_below (M := []) Hb.out) (by simp))
  have hdl : (l.drop a).length = l.length - a := List.length_drop
  have HBn : Hid (¬ c = a → Bs wr [] (.slice (A.map (·.add a)) (l.length - a) (c - a)) (l.drop a)) := fun hn => by
   have := HBr.out.tail a ha
   rwa [if_neg hn] at this
  have HBe : Hid (c = a → Bs wr [] (.slice A (l.length - a) 0) (l.drop a)) := fun he => by
   have := HBr.out.tail a ha
   rwa [if_pos he, he, Nat.sub_self] at this
  have hf2 : Hid (∀ v, Bs wr [] v (l.drop a) → Calls Tryz.prog 47 #[v] wr fun e w' => FrRead (l.drop a) wr e w') := fun v hv => (rread_any v (l.drop a) wr hv (by omega)).mono (fun _ _ h => rread_fr h)
  have hac : (a : Int) ≤ (c : Int) := by omega
  have hbd := Lib.hid (fun x n (h : readF (l.drop a) = some (x, n)) => readF_bd h)
  rw [hdl] at hbd
  have HSt := Lib.hid hstep
  clear hstep HBr hdl
  have HF : Hid (∀ e W, FrRead (l.drop a) wr e W → (readF (l.drop a) = none ∧ e = .returned (.tuple #[.slice none 0 0, .int .i64 0, .bool false]) ∧ Below wr.heap.size wr W) ∨ (∃ x n, readF (l.drop a) = some (x, n) ∧ ∃ A c, e = .returned (.tuple #[.slice A x.length c, .int .i64 n, .bool true]) ∧ (∀ M, (∀ g ∈ M, g < wr.heap.size) → Bs W M (.slice A x.length c) x) ∧ Below wr.heap.size wr W)) := fun e W h => by
   unfold FrRead at h
   cases hr : readF (l.drop a) with
   | none => rw [hr] at h; exact .inl ⟨rfl, h⟩
   | some p => obtain ⟨x, n⟩ := p; rw [hr] at h; exact .inr ⟨x, n, rfl, h⟩
  go_wp2_with fail
  ·refine Calls.mono (by first | exact hf2.out _ (HBn.out (by assumption)) | exact hf2.out _ (HBe.out (by assumption)) | exact hf2.out _ (HBe.out rfl)) ?_
   intro e w3 hpost
   rcases HF.out _ _ hpost with ⟨hr, rfl, hb3⟩ | ⟨x, n, hr, A3, c3, rfl, hB3, hb3⟩
   ·have hp : Hid (ScPost (rs, rn) w (.returned (.tuple #[u4, .int .i64 a])) w3) := by
     have h1 := HSt.out
     rw [hr] at h1
     simp only [] at h1
     have h2 := HR.out
     rw [h1] at h2
     simp only [List.append_nil, Nat.add_zero] at h2
     rw [h2]
     refine ⟨u4, rfl, fun M hM => ⟨qs, rfl, ?_, fun q hq => (Hds.out q hq M (fun g hg => .inl (hM g hg))).keep (Keeps.of_below (M := []) hb3) (by simp)⟩, below_then Hb.out hb3⟩
     exact (Rd.of_own Hown.out hM).keep (Keeps.of_below (M := []) hb3) (by simp)
    clear hb3 hpost
    obtain ⟨Ao, co, e0⟩ : ∃ Ao co, u4 = .slice Ao qs.length co := by
     rcases Hown.out.2 with ⟨h, h'⟩ | ⟨g, cap, cur, h, _⟩
     ·exact ⟨none, 0, by rw [h, h']⟩
     ·exact ⟨_, _, h⟩
    subst e0
    go_wp2
    go_ret2
    exact hp.out
   ·obtain ⟨h5, hnl, hx6, hxn⟩ := hbd.out x n hr
    exfalso; omega
  ·refine Calls.mono (by first | exact hf2.out _ (HBn.out (by assumption)) | exact hf2.out _ (HBe.out (by assumption)) | exact hf2.out _ (HBe.out rfl)) ?_
   intro e w3 hpost
   rcases HF.out _ _ hpost with ⟨hr, rfl, hb3⟩ | ⟨x, n, hr, A3, c3, rfl, hB3, hb3⟩
   ·have hp : Hid (ScPost (rs, rn) w (.returned (.tuple #[u4, .int .i64 a])) w3) := by
     have h1 := HSt.out
     rw [hr] at h1
     simp only [] at h1
     have h2 := HR.out
     rw [h1] at h2
     simp only [List.append_nil, Nat.add_zero] at h2
     rw [h2]
     refine ⟨u4, rfl, fun M hM => ⟨qs, rfl, ?_, fun q hq => (Hds.out q hq M (fun g hg => .inl (hM g hg))).keep (Keeps.of_below (M := []) hb3) (by simp)⟩, below_then Hb.out hb3⟩
     exact (Rd.of_own Hown.out hM).keep (Keeps.of_below (M := []) hb3) (by simp)
    clear hb3 hpost
    obtain ⟨Ao, co, e0⟩ : ∃ Ao co, u4 = .slice Ao qs.length co := by
     rcases Hown.out.2 with ⟨h, h'⟩ | ⟨g, cap, cur, h, _⟩
     ·exact ⟨none, 0, by rw [h, h']⟩
     ·exact ⟨_, _, h⟩
    subst e0
    go_wp2
    go_ret2
    exact hp.out
   ·obtain ⟨h5, hnl, hx6, hxn⟩ := hbd.out x n hr
    have hown1 := Lib.hid ((own_below Hown.out hb3).alloc (.cells #[.slice A3 x.length c3] 36))
    have HB3 := Lib.hid hB3; have Hb3 := Lib.hid hb3
    clear hb3 hB3 hpost
    have hq6 : qs.length ≤ 20000000 := by omega
    simp only []
    go_wp2_with (at_builtin; refine wpList_append_any _ rfl (.tmp 21) (.tmp 23) _ rfl w.heap.size 36 i0 _ 1 24 Tryz.underlying114 Hi0.out Hz0.out Hz1.out Hz2.out rfl (by omega) u4 qs.length (qs.map (·.2)) rfl hown1.out (w3.heap.size + 1) (some ⟨w3.heap.size, 0, none⟩) 1 1 [.slice A3 x.length c3] rfl (reads_new _ _ _ _ _ rfl) ?_ ?_ ?_ ?_ ?_)
    ·intro u hu; simp at hu; subst hu; rfl
    ·unfold maxLen; omega
    ·omega
    ·have := Hb.out.size; have := Hb3.out.size; simp; omega
    ·intro v2 w2 hown2 hg2 hat2
     have hlt0 : ∀ g, u4.ownBlock = some g → w.heap.size ≤ g ∧ g < wr.heap.size := Hown.out.lt
     have R1 := Lib.hid (bsOwn_step (e := x) Hds.out Hb3.out (fun g hg => (hlt0 g hg).2) Hb.out.size HB3.out hg2 hat2)
     have R2 := Lib.hid (below_step Hb.out Hb3.out hg2 (fun g hg => (hlt0 g hg).1))
     have R3 : Hid (w2.ownsRow w.heap.size 36 1 v2 (qs ++ [(x, Value.slice A3 x.length c3)]).length ((qs ++ [(x, Value.slice A3 x.length c3)]).map (·.2))) := by
      show World.ownsRow _ _ _ _ _ _ _
      rw [List.map_append, List.length_append]
      simpa using hown2
     have R4 : Hid ((rs, rn) = ((qs ++ [(x, Value.slice A3 x.length c3)]).map (·.1) ++ (scanF (f - 1) (l.drop (a + n))).1, (a + n) + (scanF (f - 1) (l.drop (a + n))).2)) := by
      show _ = _
      have h1 := HSt.out
      rw [hr] at h1
      simp only [List.drop_drop] at h1
      rw [HR.out, h1]
      simp [Nat.add_assoc]
     clear hown2 hg2 hat2 hlt0 hown1 HB3
     go_wp2
     go_roundw
     case rel => exact ⟨a + n, f - 1, qs ++ [(x, .slice A3 x.length c3)], by go_num, by omega, by omega, by simp; omega, R4, R3, R1, R2.out⟩
     case measure => simp [intOf] <;> omega
set_option maxRecDepth 100000 in
set_option maxHeartbeats 1000000 in
theorem rname_any (s : ByteArray) (w : World) (hs : s.size < 9223372036854775807) : Calls Tryz.prog 223 #[.string s] w fun e w' => e = .returned (.bool (nameOk s)) ∧ w = w' := by
  have Hn : Hid (nameOk s = (decide (1 ≤ s.size) && decide (s.size ≤ 32) && (sB s).all charOk)) := rfl
  go_enter Tryz.func223, Tryz.ntmps223
  go_wp2_with fail
  go_loopw [3] (fun i wr => ∃ x : Nat, i = .int .i64 x ∧ x ≤ s.size ∧ Hid (((sB s).take x).all charOk = true) ∧ w = wr) (fun i _ => s.size - (intOf i).toNat)
  case atStart => exact ⟨0, rfl, by omega, rfl, rfl⟩
  case round =>
    obtain ⟨x, rfl, hx, Ht, rfl⟩ := hrel
    by_cases hlt : x < s.size
    · have hx1 : (x : Int) < (s.size : Int) := by omega
      have hxb : x < (sB s).length := hlt
      have hget : (sB s)[x] = s[x] := rfl
      have Hnx : Hid (((sB s).take (x + 1)).all charOk = charOk s[x]) := by
        show _ = _
        rw [List.take_succ_eq_append_getElem hxb, List.all_append, Ht.out, hget]; simp
      have Hall : Hid (charOk s[x] = false → nameOk s = false) := fun h => by
        rw [Hn.out]
        have : (sB s).all charOk = false := by
          rw [List.all_eq_false]
          exact ⟨(sB s)[x], List.getElem_mem _, by rw [hget, h]; simp⟩
        rw [this]; simp
      have Hch : Hid (charOk s[x] = ((decide (97 ≤ s[x].toNat) && decide (s[x].toNat ≤ 122)) || (decide (48 ≤ s[x].toNat) && decide (s[x].toNat ≤ 57)) || s[x].toNat == 95)) := rfl
      clear hget
      have Hny : Hid (charOk s[x] = true → ((sB s).take (x + 1)).all charOk = true) := fun h => Hnx.out.trans h
      clear Hnx
      go_wp2
      all_goals first
        | (go_roundw
           case rel =>
             refine ⟨x + 1, by go_num, by omega, Hny.out ?_, trivial⟩
             rw [Hch.out]
             try simp only [bne_eq_false_iff_eq, bne_iff_ne, ne_eq] at *
             simp
             omega
           case measure => simp [intOf] <;> omega)
        | (go_ret
           rw [Hall.out (by
             rw [Hch.out]
             try simp only [bne_eq_false_iff_eq, bne_iff_ne, ne_eq] at *
             simp
             omega)]
           exact ⟨rfl, rfl⟩)
    · obtain rfl : x = s.size := by omega
      have hta : (sB s).take s.size = sB s := List.take_of_length_le (Nat.le_refl _)
      have hR : Hid (nameOk s = (decide (1 ≤ s.size) && decide (s.size ≤ 32))) := by
        show _ = _
        have := Ht.out
        rw [hta] at this
        rw [Hn.out, this, Bool.and_true]
      clear Hn hta
      by_cases h1 : 1 ≤ s.size
      · have h1i : (1 : Int) ≤ (s.size : Int) := by omega
        have hR2 : Hid (nameOk s = decide ((s.size : Int) ≤ 32)) := by show _ = _; rw [hR.out, Bool.eq_iff_iff]; simp [h1]; omega
        clear hR
        go_wp2
        go_ret
        rw [hR2.out]
        exact ⟨rfl, rfl⟩
      · have h1i : (s.size : Int) < 1 := by omega
        have hR2 : Hid (nameOk s = false) := by show _ = _; rw [hR.out]; simp; omega
        clear hR
        go_wp2
        go_ret
        rw [hR2.out]
        exact ⟨rfl, rfl⟩
end Go.Proofs.YtinnifhnabncfaaGreatDoor.Vi
end
section
namespace Go.Proofs.YtinnifhnabncfaaGreatDoor.Vi
open Go.RowKit Base Mem Go.Sort Go.Shelf
/-- A text parted at each byte c. -/
def splitC (c : UInt8) : List UInt8 → List (List UInt8)
 | [] => [[]]
 | x :: r => if x = c then [] :: splitC c r else match splitC c r with
  | [] => [[x]]
  | h :: t => (x :: h) :: t
theorem splitC_none {c : UInt8} : ∀ {l : List UInt8}, c ∉ l → splitC c l = [l]
 | [], _ => rfl
 | x :: r, h => by
  rw [splitC, if_neg (fun e => h (by simp [e])), splitC_none (fun hm => h (by simp [hm]))]
theorem splitC_hit {c : UInt8} (r : List UInt8) : ∀ {a : List UInt8}, c ∉ a → splitC c (a ++ c :: r) = a :: splitC c r
 | [], _ => by rw [List.nil_append, splitC, if_pos rfl]
 | x :: a, h => by
  rw [List.cons_append, splitC, if_neg (fun e => h (by simp [e])), splitC_hit r (fun hm => h (by simp [hm]))]
theorem index_hit1 (c : UInt8) (r : List UInt8) : ∀ (a : List UInt8), c ∉ a → Lib.index (a ++ c :: r) [c] = a.length
 | [], _ => by rw [List.nil_append, Lib.index]; simp [List.isPrefixOf]
 | x :: a, h => by
  have hne : x ≠ c := fun e => h (by simp [e])
  have hp : ([c] : List UInt8).isPrefixOf (x :: (a ++ c :: r)) = false := by simp [List.isPrefixOf, Ne.symm hne]
  have ih := index_hit1 c r a (fun hm => h (by simp [hm]))
  rw [List.cons_append, Lib.index, hp, ih]
  have : ¬ (((a.length : Int) == -1) = true) := by simp
  rw [if_neg (by simp), if_neg this, List.length_cons]
  rfl
theorem index_none1 (c : UInt8) : ∀ (a : List UInt8), c ∉ a → Lib.index a [c] = -1
 | [], _ => by rw [Lib.index]; simp
 | x :: a, h => by
  have hne : x ≠ c := fun e => h (by simp [e])
  have hp : ([c] : List UInt8).isPrefixOf (x :: a) = false := by simp [List.isPrefixOf, Ne.symm hne]
  rw [Lib.index, hp, index_none1 c a (fun hm => h (by simp [hm]))]
  simp
theorem splitK_C (c : UInt8) : ∀ (n : Nat) (s : List UInt8), s.length ≤ n → Lib.splitK [c] 0 (s.count c) s = splitC c s
 | n, s, hn => by
  by_cases hm : c ∈ s
  ·obtain ⟨a, r, rfl, ha⟩ := List.eq_append_cons_of_mem hm
   have hc : (a ++ c :: r).count c = r.count c + 1 := by rw [List.count_append, List.count_eq_zero.2 ha, List.count_cons_self]; omega
   cases n with
   | zero => simp at hn
   | succ n =>
    have ih := splitK_C c n r (by simp at hn; omega)
    rw [hc, Lib.splitK, index_hit1 c r a ha, if_neg (by simp), splitC_hit r ha]
    simp only [Int.toNat_natCast, Nat.add_zero, List.length_singleton]
    rw [List.take_left, ← ih]
    congr 2
    rw [show a ++ c :: r = (a ++ [c]) ++ r by simp, show a.length + 1 = (a ++ [c]).length by simp, List.drop_left]
  ·rw [List.count_eq_zero.2 hm, Lib.splitK, splitC_none hm]
theorem parts_C (s : ByteArray) : (partsS s).map (·.data.toList) = splitC 44 s.data.toList := by
 unfold partsS
 rw [Lib.splitB_data]
 have : Lib.countB s ⟨#[44]⟩ = s.data.toList.count 44 := Lib.count_one 44 s.data.toList
 rw [this]
 exact splitK_C 44 _ _ (Nat.le_refl _)
def cutL2 (p : List UInt8) : LabD := ⟨⟨(Lib.cut p [61]).1.toArray⟩, ⟨(Lib.cut p [61]).2.1.toArray⟩⟩
theorem labs_C (s : ByteArray) : labsS s = (splitC 44 s.data.toList).map cutL2 := by
 rw [← parts_C, List.map_map]; rfl
theorem cut_hit1 {c : UInt8} (a r : List UInt8) (h : c ∉ a) : Lib.cut (a ++ c :: r) [c] = (a, r, true) := by
 unfold Lib.cut
 rw [index_hit1 c r a h, if_pos (by omega)]
 simp only [Int.toNat_natCast, List.length_singleton]
 rw [List.take_left, show a ++ c :: r = (a ++ [c]) ++ r by simp, show a.length + 1 = (a ++ [c]).length by simp, List.drop_left]
theorem cut_none1 {c : UInt8} (a : List UInt8) (h : c ∉ a) : Lib.cut a [c] = (a, [], false) := by
 unfold Lib.cut
 rw [index_none1 c a h, if_neg (by omega)]
/-- The labels of parts, if each has a name and a value. -/
def rlabs : List (List UInt8) → Option (List LabD)
 | [] => some []
 | p :: ps => match splitC 61 p with
  | [a, b] => (rlabs ps).map (⟨⟨a.toArray⟩, ⟨b.toArray⟩⟩ :: ·)
  | _ => none
theorem splitC_two {c : UInt8} {p a b : List UInt8} (h : splitC c p = [a, b]) : p = a ++ c :: b ∧ c ∉ a := by
 by_cases hm : c ∈ p
 ·obtain ⟨x, r, rfl, hx⟩ := List.eq_append_cons_of_mem hm
  rw [splitC_hit r hx] at h
  injection h with h1 h2
  subst h1
  by_cases hr : c ∈ r
  ·obtain ⟨y, r', rfl, hy⟩ := List.eq_append_cons_of_mem hr
   rw [splitC_hit r' hy] at h2
   injection h2 with _ h3
   have : ∀ l : List UInt8, splitC c l ≠ [] := by
    intro l
    cases l with
    | nil => simp [splitC]
    | cons x r =>
     rw [splitC]
     split
     ·simp
     ·split <;> simp
   exact absurd h3 (this _)
  ·rw [splitC_none hr] at h2
   injection h2 with h2 _
   subst h2
   exact ⟨rfl, hx⟩
 ·rw [splitC_none hm] at h; injection h with _ h; cases h
theorem rlabs_cut : ∀ (ps : List (List UInt8)) (l : List LabD), rlabs ps = some l → ps.map cutL2 = l
 | [], l, h => by simp [rlabs] at h; subst h; rfl
 | p :: ps, l, h => by
  rw [rlabs] at h
  split at h
  ·rename_i a b hab
   obtain ⟨rfl, ha⟩ := splitC_two hab
   obtain ⟨l', hl, rfl⟩ := Option.map_eq_some_iff.1 h
   rw [List.map_cons, rlabs_cut ps l' hl]
   congr 1
   unfold cutL2
   rw [cut_hit1 a b ha]
  ·cases h
theorem name_no {s : ByteArray} (h : nameOk s = true) : 61 ∉ s.data.toList ∧ s.data.toList ≠ [] := by
 unfold nameOk at h
 simp only [Bool.and_eq_true, decide_eq_true_eq, List.all_eq_true] at h
 refine ⟨fun hm => ?_, fun he => ?_⟩
 ·have := h.2 61 hm
  simp [charOk] at this
 ·have h1 := h.1.1
  have : s.size = s.data.toList.length := rfl
  rw [he] at this
  rw [this] at h1
  simp at h1
theorem rlabs_some : ∀ (ps : List (List UInt8)), (∀ x ∈ ps.map cutL2, nameOk x.value = true) → rlabs ps = some (ps.map cutL2)
 | [], _ => rfl
 | p :: ps, h => by
  have ih := rlabs_some ps (fun x hx => h x (by simp at hx ⊢; exact .inr hx))
  have hp := name_no (h (cutL2 p) (by simp))
  have h2 : ∃ a b, splitC 61 p = [a, b] ∧ cutL2 p = ⟨⟨a.toArray⟩, ⟨b.toArray⟩⟩ := by
   by_cases hm : (61 : UInt8) ∈ p
   ·obtain ⟨a, r, rfl, ha⟩ := List.eq_append_cons_of_mem hm
    have hc : cutL2 (a ++ 61 :: r) = ⟨⟨a.toArray⟩, ⟨r.toArray⟩⟩ := by unfold cutL2; rw [cut_hit1 a r ha]
    rw [hc] at hp
    have hr : (61 : UInt8) ∉ r := by simpa using hp.1
    exact ⟨a, r, by rw [splitC_hit r ha, splitC_none hr], hc⟩
   ·exfalso
    have hc : cutL2 p = ⟨⟨p.toArray⟩, ⟨([] : List UInt8).toArray⟩⟩ := by unfold cutL2; rw [cut_none1 p hm]
    rw [hc] at hp
    exact hp.2 (by simp)
  obtain ⟨a, b, hs, hc⟩ := h2
  rw [rlabs, hs, ih]
  simp [hc]
/-- Do labels have names and values that may be, no name twice? -/
def rokRow (l : List LabD) : Bool := (l.all fun x => nameOk x.name && nameOk x.value) && decide ((l.map (·.name.toList)).Nodup)
def rrightS (l : List LabD) : Nat := if 8 < l.length then 3 else if rokRow l = false then 1 else if l.length = 0 then 1 else 0
/-- A label laid into labels from the last one on. -/
def rinsR (x : LabD) : List LabD → List LabD
 | [] => [x]
 | y :: r => if sLt x.name y.name = true then y :: rinsR x r else x :: y :: r
def rins (x : LabD) (out : List LabD) : List LabD := (rinsR x out.reverse).reverse
def rsortL (l : List LabD) : List LabD := l.foldl (fun out x => rins x out) []
theorem sLt_lt (x y : ByteArray) : sLt x y = decide (x.toList < y.toList) := bytesLess_eq _ _
theorem ltOf_name (a b : LabD) : ltOf cmpL a b = sLt a.name b.name := by
 unfold ltOf cmpL cmpS
 cases h : sLt a.name b.name
 ·simp only [Bool.false_eq_true, if_false]
  split <;> simp
 ·simp
theorem swo_lab : SWO (ltOf cmpL) where
 irrefl x := by rw [ltOf_name, sLt_lt]; simp [List.lt_irrefl]
 trans x y z h1 h2 := by simp only [ltOf_name, sLt_lt, decide_eq_true_eq] at *; exact List.lt_trans h1 h2
 ntrans x y z h1 h2 := by
  simp only [ltOf_name, sLt_lt, decide_eq_false_iff_not, List.not_lt] at *
  exact List.le_trans h2 h1
/-- Labels in order: none is before one ahead of it. -/
def Ord (l : List LabD) : Prop := l.Pairwise fun a b => sLt b.name a.name = false
theorem sortL_facts (l : List LabD) : (sortL l).Perm l ∧ Ord (sortL l) := by
 obtain ⟨⟨h1, h2, h3⟩, h4⟩ := insertionSort_holds (lt := ltOf cmpL) swo_lab l.toArray 0 l.length (Nat.zero_le _) (by simp)
 unfold sortL
 generalize insertionSort (ltOf cmpL) l.toArray 0 l.length = d at *
 have hs : d.size = l.length := by simpa using h1
 have e1 : d.extract 0 l.length = d := by rw [← hs]; simp
 have e2 : l.toArray.extract 0 l.length = l.toArray := by simp
 rw [e1, e2] at h3
 refine ⟨by simpa using h3, ?_⟩
 unfold Ord
 rw [List.pairwise_iff_getElem]
 intro i j hi hj hij
 have := h4 i j (Nat.zero_le _) hij (by simpa [hs] using hj)
 rw [ltOf_name] at this
 have a1 : d[j]! = d.toList[j] := by rw [getElem!_pos d j (by simpa using hj)]; simp
 have a2 : d[i]! = d.toList[i] := by rw [getElem!_pos d i (by simpa using hi)]; simp
 rw [a1, a2] at this
 exact this
theorem rinsR_perm (x : LabD) : ∀ r, (rinsR x r).Perm (x :: r)
 | [] => List.Perm.refl _
 | y :: r => by
  rw [rinsR]
  split
  ·exact ((rinsR_perm x r).cons y).trans (List.Perm.swap x y r)
  ·exact List.Perm.refl _
theorem rinsR_ord (x : LabD) : ∀ r : List LabD, (r.Pairwise fun a b => sLt a.name b.name = false) → (rinsR x r).Pairwise fun a b => sLt a.name b.name = false
 | [], _ => by simp [rinsR]
 | y :: r, h => by
  rw [List.pairwise_cons] at h
  rw [rinsR]
  split
  ·rename_i hlt
   rw [List.pairwise_cons]
   refine ⟨fun z hz => ?_, rinsR_ord x r h.2⟩
   rcases List.mem_cons.1 ((rinsR_perm x r).mem_iff.1 hz) with rfl | hz
   ·rw [sLt_lt] at hlt ⊢
    have := of_decide_eq_true hlt
    exact decide_eq_false (fun h2 => List.lt_irrefl _ (List.lt_trans this h2))
   ·exact h.1 z hz
  ·rename_i hn
   rw [List.pairwise_cons, List.pairwise_cons]
   have hn' : sLt x.name y.name = false := by simpa using hn
   refine ⟨fun z hz => ?_, h⟩
   rcases List.mem_cons.1 hz with rfl | hz
   ·exact hn'
   ·have h1 := h.1 z hz
    rw [sLt_lt] at *
    have a := of_decide_eq_false hn'
    have b := of_decide_eq_false h1
    exact decide_eq_false (List.not_lt.2 (List.le_trans (List.not_lt.1 b) (List.not_lt.1 a)))
theorem rins_facts (x : LabD) (out : List LabD) (h : Ord out) : (rins x out).Perm (x :: out) ∧ Ord (rins x out) := by
 unfold rins Ord at *
 refine ⟨(List.reverse_perm _).trans ((rinsR_perm x _).trans ((List.reverse_perm _).cons x)), ?_⟩
 rw [List.pairwise_reverse]
 exact rinsR_ord x _ (by rw [List.pairwise_reverse]; exact h)
theorem rsortL_facts (l : List LabD) : (rsortL l).Perm l ∧ Ord (rsortL l) := by
 have : ∀ (l out : List LabD), Ord out → (l.foldl (fun out x => rins x out) out).Perm (out ++ l) ∧ Ord (l.foldl (fun out x => rins x out) out) := by
  intro l
  induction l with
  | nil => intro out h; exact ⟨by simp, h⟩
  | cons x l ih =>
   intro out h
   obtain ⟨h1, h2⟩ := rins_facts x out h
   obtain ⟨h3, h4⟩ := ih (rins x out) h2
   refine ⟨h3.trans ?_, h4⟩
   have : (out ++ x :: l).Perm (x :: out ++ l) := by simp
   exact (h1.append_right l).trans this.symm
 have := this l [] List.Pairwise.nil
 rw [List.nil_append] at this
 exact this
theorem sort_eq (l : List LabD) (hn : (l.map (·.name.toList)).Nodup) : rsortL l = sortL l := by
 obtain ⟨p1, o1⟩ := rsortL_facts l
 obtain ⟨p2, o2⟩ := sortL_facts l
 refine List.Perm.eq_of_pairwise (fun a b ha hb h1 h2 => ?_) o1 o2 (p1.trans p2.symm)
 rw [sLt_lt] at h1 h2
 have e : a.name.toList = b.name.toList := List.le_antisymm (List.not_lt.1 (of_decide_eq_false h1)) (List.not_lt.1 (of_decide_eq_false h2))
 have ha' := p1.mem_iff.1 ha
 have hb' := p2.mem_iff.1 hb
 have : ∀ l : List LabD, (l.map (·.name.toList)).Nodup → a ∈ l → b ∈ l → a = b := by
  intro l
  induction l with
  | nil => intro _ h; simp at h
  | cons x l ih =>
   intro hn ha hb
   rw [List.map_cons, List.nodup_cons] at hn
   rcases List.mem_cons.1 ha with ea | ha2
   ·rcases List.mem_cons.1 hb with eb | hb2
    ·exact ea.trans eb.symm
    ·exact absurd (List.mem_map.2 ⟨b, hb2, by rw [← ea]; exact e.symm⟩ : x.name.toList ∈ l.map (·.name.toList)) hn.1
   ·rcases List.mem_cons.1 hb with eb | hb2
    ·exact absurd (List.mem_map.2 ⟨a, ha2, by rw [← eb]; exact e⟩ : x.name.toList ∈ l.map (·.name.toList)) hn.1
    ·exact ih hn.2 ha2 hb2
 exact this l hn ha' hb'
theorem okRow_iff (s : List LabD) (ho : Ord s) : okRow s = true ↔ (∀ x ∈ s, nameOk x.name = true ∧ nameOk x.value = true) ∧ (s.map (·.name.toList)).Nodup := by
 have hle : ∀ i j (hi : i < s.length) (hj : j < s.length), i ≤ j → s[i].name.toList ≤ s[j].name.toList := by
  intro i j hi hj hij
  rcases Nat.lt_or_ge i j with h | h
  ·have := List.pairwise_iff_getElem.1 ho i j hi hj h
   rw [sLt_lt] at this
   exact List.not_lt.1 (of_decide_eq_false this)
  ·have : i = j := by omega
   subst this
   exact List.le_refl _
 unfold okRow
 rw [List.all_eq_true]
 simp only [List.mem_range]
 constructor
 ·intro h
  have hi : ∀ i (hi : i < s.length), nameOk s[i].name = true ∧ nameOk s[i].value = true ∧ (i = 0 ∨ s[i - 1]!.name.toList ≠ s[i].name.toList) := by
   intro i hi
   have := h i hi
   unfold itemOk at this
   rw [getElem!_pos s i hi] at this
   simp only [Bool.and_eq_true, Bool.or_eq_true, beq_iff_eq, Bool.not_eq_true', beq_eq_false_iff_ne] at this
   exact ⟨this.1.1, this.1.2, this.2⟩
  refine ⟨fun x hx => ?_, ?_⟩
  ·obtain ⟨i, hi', rfl⟩ := List.getElem_of_mem hx
   exact ⟨(hi i hi').1, (hi i hi').2.1⟩
  ·rw [List.Nodup, List.pairwise_map, List.pairwise_iff_getElem]
   intro i j hi1 hj1 hij he
   rcases (hi j hj1).2.2 with h0 | hne
   ·omega
   ·rw [getElem!_pos s (j - 1) (by omega)] at hne
    have h1 := hle i (j - 1) hi1 (by omega) (by omega)
    rw [he] at h1
    exact hne (List.le_antisymm (hle (j - 1) j (by omega) hj1 (by omega)) h1)
 ·rintro ⟨h1, h2⟩ i hi
  unfold itemOk
  rw [getElem!_pos s i hi]
  have := h1 s[i] (List.getElem_mem hi)
  rw [this.1, this.2]
  rcases Nat.eq_zero_or_pos i with rfl | hp
  ·rfl
  ·rw [getElem!_pos s (i - 1) (by omega)]
   rw [List.Nodup, List.pairwise_map, List.pairwise_iff_getElem] at h2
   have := h2 (i - 1) i (by omega) hi (by omega)
   simp only [Bool.and_self, Bool.true_and, Bool.or_eq_true, Bool.not_eq_true', beq_eq_false_iff_ne]
   exact .inr this
theorem rok_eq (l : List LabD) : okRow (sortL l) = rokRow l := by
 obtain ⟨p, o⟩ := sortL_facts l
 rw [Bool.eq_iff_iff, okRow_iff _ o]
 unfold rokRow
 rw [Bool.and_eq_true, decide_eq_true_eq, List.all_eq_true, (p.map _).nodup_iff]
 refine and_congr_left fun _ => ⟨fun h x hx => ?_, fun h x hx => ?_⟩
 ·have := h x (p.mem_iff.2 hx)
  rw [this.1, this.2]; rfl
 ·have := h x (p.mem_iff.1 hx)
  rw [Bool.and_eq_true] at this
  exact this
theorem rright_eq (l : List LabD) : rrightS l = rightS l := by unfold rrightS rightS; rw [rok_eq]
/-- The document's text of labels; else why not. -/
def rtextS (l : List LabD) : ByteArray × Nat := if rrightS l = 0 then (joinB (rsortL l), 0) else (⟨#[]⟩, rrightS l)
theorem right_ok {l : List LabD} (h : rightS l = 0) : rokRow l = true := by
 unfold rightS at h
 rw [rok_eq] at h
 cases ho : rokRow l with
 | true => rfl
 | false =>
  rw [ho] at h
  split at h
  ·cases h
  ·simp at h
theorem rtext_eq (l : List LabD) : rtextS l = ltextS l := by
 unfold rtextS ltextS
 rw [rright_eq]
 split
 ·rename_i h
  have := right_ok h
  unfold rokRow at this
  rw [Bool.and_eq_true, decide_eq_true_eq] at this
  rw [sort_eq l this.2]
 ·rfl
/-- Is a text a series, as the document says? -/
def rparse (s : ByteArray) : Bool := match rlabs (splitC 44 s.data.toList) with
 | none => false
 | some l => decide ((rtextS l).2 = 0) && (rtextS l).1.toList == s.toList
theorem rparse_eq (s : ByteArray) : rparse s = serOk s := by
 unfold rparse serOk
 rw [labs_C]
 cases h : rlabs (splitC 44 s.data.toList) with
 | some l =>
  rw [rlabs_cut _ _ h]
  show (decide ((rtextS l).2 = 0) && (rtextS l).1.toList == s.toList) = _
  rw [rtext_eq]
 | none =>
  refine Eq.symm ?_
  show _ = false
  rw [Bool.eq_false_iff]
  intro hs
  rw [Bool.and_eq_true, decide_eq_true_eq] at hs
  have h0 : rightS ((splitC 44 s.data.toList).map cutL2) = 0 := by
   have := hs.1
   unfold ltextS at this
   split at this
   ·assumption
   ·exact this
  have hk := right_ok h0
  unfold rokRow at hk
  rw [Bool.and_eq_true, List.all_eq_true] at hk
  rw [rlabs_some _ (fun x hx => by have := hk.1 x hx; rw [Bool.and_eq_true] at this; exact this.2)] at h
  cases h
end Go.Proofs.YtinnifhnabncfaaGreatDoor.Vi
end
section
namespace Go.Proofs.YtinnifhnabncfaaGreatDoor.Vi
open Go.RowKit Base Mem
theorem infoStrR : (Tryz.prog.info? 9).map (fun i => (i.zero, i.size, i.bytes)) = some (some (.string ⟨#[]⟩), 1, 16) := by kernel_rfl
def sV (s : ByteArray) : Value := .string s
def RSplitP (c : UInt8) (s : ByteArray) (w : World) (e : Ending) (w' : World) : Prop := ∃ (v : Value) (ps : List ByteArray), e = .returned v ∧ ps.map (·.data.toList) = splitC c s.data.toList ∧ w'.ownsRow w.heap.size 9 1 v ps.length (ps.map sV) ∧ Below w.heap.size w w'
set_option maxRecDepth 100000 in
set_option maxHeartbeats 2000000 in
theorem rsplit_any (s : ByteArray) (by_ : UInt8) (w : World) (hs : s.size < 4294967281) : Calls Tryz.prog 169 #[.string s, .int .u8 by_.toNat] w fun e w' => RSplitP by_ s w e w' := by
 obtain ⟨i0, hi0, hz0, hz1, hz2⟩ := info_parts infoStrR
 have Hi0 := Lib.hid hi0; have Hz0 := Lib.hid hz0; have Hz1 := Lib.hid hz1; have Hz2 := Lib.hid hz2
 clear hi0 hz0 hz1 hz2
 go_enter Tryz.func169, Tryz.ntmps169
 go_wp2_with fail
 go_loopw [5, 6, 7] (fun out a i wr => ∃ (k j : Nat) (ps : List ByteArray), a = .int .i64 k ∧ i = .int .i64 j ∧ k ≤ j ∧ j ≤ s.size ∧ Hid (ps.length ≤ k) ∧ Hid (splitC by_ s.data.toList = ps.map (·.data.toList) ++ splitC by_ (s.data.toList.drop k)) ∧ Hid (by_ ∉ (s.data.toList.drop k).take (j - k)) ∧ Hid (wr.ownsRow w.heap.size 9 1 out ps.length (ps.map sV)) ∧ Hid (Below w.heap.size w wr)) (fun _ _ i _ => s.size - (intOf i).toNat)
 case atStart => exact ⟨0, 0, [], rfl, rfl, by omega, by omega, (show (0 : Nat) ≤ 0 by omega), rfl, (show ¬ by_ ∈ _ by simp), World.ownsRow_nil _ _ _ _, Below.refl _ _⟩
 case round =>
  obtain ⟨k, j, ps, rfl, rfl, hkj, hj, Hpk, Hsp, Hno, Hor, Hbr⟩ := hrel
  have hL : s.data.toList.length = s.size := rfl
  by_cases hlt : j < s.size
  ·have hj1 : (j : Int) < (s.size : Int) := by omega
   have hkj1 : (k : Int) ≤ (j : Int) := by omega
   have hdr : Hid (s.data.toList.drop k = (s.data.toList.drop k).take (j - k) ++ s[j] :: s.data.toList.drop (j + 1)) := by
    show _ = _
    have h1 : s.data.toList.drop j = s[j] :: s.data.toList.drop (j + 1) := List.drop_eq_getElem_cons (l := s.data.toList) (by omega)
    rw [← h1, show s.data.toList.drop j = (s.data.toList.drop k).drop (j - k) by rw [List.drop_drop]; congr 1; omega, List.take_append_drop]
   clear hL
   by_cases hc : s[j] = by_
   ·have hci : ((s[j].toNat : Int) == (by_.toNat : Int)) = true := by rw [hc]; simp
    have Hsp4 : Hid (splitC by_ s.data.toList = (ps ++ [s.extract k j]).map (·.data.toList) ++ splitC by_ (s.data.toList.drop (j + 1))) := by
     show _ = _
     rw [List.map_append, List.append_assoc, Hsp.out, hdr.out, hc, splitC_hit _ Hno.out, List.map_cons, List.map_nil, Lib.extract_data]
     rfl
    clear Hsp hdr
    go_wp2_with (at_builtin; refine wpList_append_any _ rfl (.tmp 19) (.tmp 24) _ rfl w.heap.size 9 i0 _ 1 16 Tryz.underlying102 Hi0.out Hz0.out Hz1.out Hz2.out rfl (by omega) u5 ps.length (ps.map sV) rfl (Hor.out.alloc _) (wr.heap.size + 1) (some ⟨wr.heap.size, 0, none⟩) 1 1 [.string (s.extract k j)] rfl (reads_new _ _ _ _ _ rfl) (by intro u hu; simp at hu; subst hu; rfl) (by have := Hpk.out; unfold maxLen; omega) (by have := Hpk.out; omega) (by have := Hbr.out.size; simp; omega) ?_)
    intro v4 w4 hown4 hg4 hat4
    have Hown4 : Hid (w4.ownsRow w.heap.size 9 1 v4 (ps ++ [s.extract k j]).length ((ps ++ [s.extract k j]).map sV)) := by
     show World.ownsRow _ _ _ _ _ _ _
     rw [List.map_append, List.length_append]
     exact hown4
    have Hb4 : Hid (Below w.heap.size w w4) := (Hbr.out.alloc Hbr.out.size _).grown hg4 (by have := Hbr.out.size; simp; omega) (fun g hg => (Hor.out.lt g hg).1)
    clear hown4 hg4 hat4
    have Hl4 : Hid ((ps ++ [s.extract k j]).length ≤ j + 1) := by show _ ≤ _; have := Hpk.out; simp; omega
    generalize ps ++ [s.extract k j] = qs at Hown4 Hl4 Hsp4
    go_wp2
    go_roundw
    case rel => exact ⟨j + 1, j + 1, qs, by go_num, by go_num, by omega, by omega, Hl4, Hsp4, (show ¬ by_ ∈ _ by simp), Hown4, Hb4⟩
    case measure => simp [intOf] <;> omega
   ·have hci : ((s[j].toNat : Int) == (by_.toNat : Int)) = false := by
     have : s[j].toNat ≠ by_.toNat := fun h => hc (UInt8.toNat_inj.1 h)
     simp; omega
    have Hno4 : Hid (by_ ∉ (s.data.toList.drop k).take (j + 1 - k)) := by
     show ¬ _
     have h1 := hdr.out
     have h2 : ((s.data.toList.drop k).take (j - k)).length = j - k := by rw [List.length_take, List.length_drop]; have : s.data.toList.length = s.size := rfl; omega
     rw [h1, List.take_append, h2, show j + 1 - k - (j - k) = 1 by omega, List.take_of_length_le (by omega)]
     simp only [List.take_succ_cons, List.take_zero, List.mem_append, List.mem_singleton]
     rintro (h | h)
     ·exact Hno.out h
     ·exact hc h.symm
    clear hdr
    go_wp2
    go_roundw
    case rel => exact ⟨k, j + 1, ps, rfl, by go_num, by omega, by omega, Hpk, Hsp, Hno4, Hor, Hbr⟩
    case measure => simp [intOf] <;> omega
  ·obtain rfl : j = s.size := by omega
   have hki : (k : Int) ≤ (s.size : Int) := by omega
   have Hsp4 : Hid ((ps ++ [s.extract k s.size]).map (·.data.toList) = splitC by_ s.data.toList) := by
    show _ = _
    have h1 : (s.data.toList.drop k).take (s.size - k) = s.data.toList.drop k := List.take_of_length_le (by rw [List.length_drop]; have : s.data.toList.length = s.size := rfl; omega)
    have h2 := Hno.out
    rw [h1] at h2
    rw [Hsp.out, splitC_none h2, List.map_append, List.map_cons, List.map_nil, Lib.extract_data, h1]
   clear Hsp hL
   go_wp2_with (at_builtin; refine wpList_append_any _ rfl (.tmp 28) (.tmp 32) _ rfl w.heap.size 9 i0 _ 1 16 Tryz.underlying102 Hi0.out Hz0.out Hz1.out Hz2.out rfl (by omega) u5 ps.length (ps.map sV) rfl (Hor.out.alloc _) (wr.heap.size + 1) (some ⟨wr.heap.size, 0, none⟩) 1 1 [.string (s.extract k s.size)] rfl (reads_new _ _ _ _ _ rfl) (by intro u hu; simp at hu; subst hu; rfl) (by have := Hpk.out; unfold maxLen; omega) (by have := Hpk.out; omega) (by have := Hbr.out.size; simp; omega) ?_)
   intro v4 w4 hown4 hg4 hat4
   have Hown4 : Hid (w4.ownsRow w.heap.size 9 1 v4 (ps ++ [s.extract k s.size]).length ((ps ++ [s.extract k s.size]).map sV)) := by
    show World.ownsRow _ _ _ _ _ _ _
    rw [List.map_append, List.length_append]
    exact hown4
   have Hb4 : Hid (Below w.heap.size w w4) := (Hbr.out.alloc Hbr.out.size _).grown hg4 (by have := Hbr.out.size; simp; omega) (fun g hg => (Hor.out.lt g hg).1)
   clear hown4 hg4 hat4
   generalize ps ++ [s.extract k s.size] = qs at Hown4 Hsp4
   have hC : Hid (RSplitP by_ s w (.returned v4) w4) := ⟨v4, qs, rfl, Hsp4.out, Hown4.out, Hb4.out⟩
   go_wp2
   go_ret
   exact hC.out
theorem rok_bad1 {l : List LabD} {x : Nat} (hx : x < l.length) (h : (nameOk l[x].name && nameOk l[x].value) = false) : rokRow l = false := by
 unfold rokRow
 rw [show (l.all fun x => nameOk x.name && nameOk x.value) = false from List.all_eq_false.2 ⟨l[x], List.getElem_mem _, by simp only [h]; simp⟩]
 rfl
theorem rok_bad2 {l : List LabD} {x y : Nat} (hx : x < l.length) (hy : y < x) (h : (l[y].name.toList == l[x].name.toList) = true) : rokRow l = false := by
 unfold rokRow
 have : ¬ (l.map (·.name.toList)).Nodup := by
  intro hn
  rw [List.Nodup, List.pairwise_map, List.pairwise_iff_getElem] at hn
  exact hn y x (by omega) hx hy (beq_iff_eq.1 h)
 rw [decide_eq_false this, Bool.and_false]
theorem rok_next {l : List LabD} {x : Nat} (hx : x < l.length) (h : rokRow (l.take x) = true) (h1 : nameOk l[x].name = true) (h2 : nameOk l[x].value = true) (h3 : ∀ y (_ : y < x), (l[y].name.toList == l[x].name.toList) = false) : rokRow (l.take (x + 1)) = true := by
 unfold rokRow at h ⊢
 rw [Bool.and_eq_true, decide_eq_true_eq] at h ⊢
 rw [List.take_succ_eq_append_getElem hx]
 refine ⟨by rw [List.all_append, h.1]; simp [h1, h2], ?_⟩
 rw [List.map_append, List.nodup_append]
 refine ⟨h.2, by simp, ?_⟩
 intro a ha b hb
 obtain ⟨z, hz, rfl⟩ := List.mem_map.1 ha
 obtain rfl := List.mem_singleton.1 hb
 obtain ⟨i, hi, rfl⟩ := List.getElem_of_mem hz
 rw [List.length_take] at hi
 have := h3 i (by omega)
 rw [List.getElem_take]
 exact beq_eq_false_iff_ne.1 this
set_option maxRecDepth 100000 in
set_option maxHeartbeats 2000000 in
theorem rright_any (v : Value) (l : List LabD) (w : World) (h : Labs w [] v l) (hs : ∀ x ∈ l, x.name.size < 9223372036854775807 ∧ x.value.size < 9223372036854775807) (hl : l.length ≤ 4611686018427387904) :
  Calls Tryz.prog 193 #[v] w fun e w' => e = .returned (.int .i64 (rrightS l)) ∧ Below w.heap.size w w' := by
 have HR : Hid (rrightS l = if 8 < l.length then 3 else if rokRow l = false then 1 else if l.length = 0 then 1 else 0) := rfl
 by_cases h8 : 8 < l.length
 ·have hR : Hid (rrightS l = 3) := by show _ = _; rw [HR.out, if_pos h8]
  obtain ⟨A, c, rfl, hc⟩ := h.len
  have h8i : (8 : Int) < (l.length : Int) := by omega
  clear h HR hs
  rw [hR.out]
  go_enter Tryz.func193, Tryz.ntmps193
  go_wp2
  go_ret
  exact ⟨rfl, Below.refl _ _⟩
 ·have HL := Lib.hid h
  obtain ⟨A, c, rfl, hc⟩ := h.len
  have h8i : decide ((8 : Int) < (l.length : Int)) = false := decide_eq_false (by omega)
  have Hs := Lib.hid hs
  have HR2 : Hid (rrightS l = if rokRow l = false then 1 else if l.length = 0 then 1 else 0) := by show _ = _; rw [HR.out, if_neg h8]
  clear h HR hs
  go_enter Tryz.func193, Tryz.ntmps193
  go_wp2_with fail
  go_loopw [10] (fun i wr => ∃ x q : Nat, i = .int .i64 x ∧ x ≤ l.length ∧ Hid (rokRow (l.take x) = true) ∧ wr = w.drewN q) (fun i _ => l.length - (intOf i).toNat)
  case atStart => exact ⟨0, 0, rfl, by omega, rfl, rfl⟩
  case round =>
   obtain ⟨x, q, rfl, hx, Hok, rfl⟩ := hrel
   by_cases hlt : x < l.length
   ·have hx1 : (x : Int) < (l.length : Int) := by omega
    obtain ⟨g, off, _, e1, hg, c0, c1⟩ := HL.out.at_ hlt
    obtain rfl : A = some ⟨g, off, none⟩ := by injection e1
    clear e1
    obtain ⟨hs1, hs2⟩ := Hs.out l[x] (List.getElem_mem _)
    have HNa := Lib.hid (fun W => rname_any l[x].name W hs1)
    have HVa := Lib.hid (fun W => rname_any l[x].value W hs2)
    have Hb1 := Lib.hid (rok_bad1 (l := l) hlt)
    have Hb2 := Lib.hid (fun y => rok_bad2 (l := l) (y := y) hlt)
    have Hnx := Lib.hid (rok_next (l := l) hlt Hok.out)
    clear hs1 hs2
    by_cases h1 : nameOk l[x].name = true
    ·by_cases h2 : nameOk l[x].value = true
     ·have Hnx2 := Lib.hid (Hnx.out h1 h2)
      clear Hnx Hb1
      rw [h1] at HNa
      rw [h2] at HVa
      clear h1 h2
      have Hat := Lib.hid (fun y (hy : y < l.length) => (HL.out.at_ hy))
      generalize hna : l[x].name = na at *
      generalize hva : l[x].value = va at *
      clear hva
      go_wp2_with ((first | (go_at_call_of 223 (Value.string na); refine (HNa.out _).mono ?_) | (go_at_call_of 223 (Value.string va); refine (HVa.out _).mono ?_)); rintro e w' ⟨rfl, rfl⟩)
      go_loopw [4] (fun k wr => ∃ y q2 : Nat, k = .int .i64 y ∧ y ≤ x ∧ Hid (∀ j (_ : j < y) (_ : j < x), (l[j].name.toList == na.toList) = false) ∧ wr = w.drewN q2) (fun k _ => x - (intOf k).toNat)
      case atStart => exact ⟨0, q, rfl, by omega, (show ∀ j, _ from fun j h _ => absurd h (by omega)), rfl⟩
      case round =>
       obtain ⟨y, q2, rfl, hy, Hno, rfl⟩ := hrel
       by_cases hyx : y < x
       ·have hyx1 : (y : Int) < (x : Int) := by omega
        have hyl : (y : Int) < (l.length : Int) := by omega
        obtain ⟨g2, off2, _, e2, _, p0, _⟩ := HL.out.at_ (k := y) (by omega)
        obtain ⟨rfl, rfl⟩ : g = g2 ∧ off = off2 := by injection e2 with e2 _ _; injection e2 with e2; injection e2 with h1 h2; exact ⟨h1, h2⟩
        clear e2
        have hyll : y < l.length := by omega
        have Hb3 := Lib.hid (Hb2.out y hyx)
        have Hno2 : Hid ((l[y].name.toList == na.toList) = false → ∀ j (_ : j < y + 1) (_ : j < x), (l[j].name.toList == na.toList) = false) := fun h j hj hjx => by
         rcases Nat.lt_or_ge j y with h2 | h2
         ·exact Hno.out j h2 hjx
         ·obtain rfl : j = y := by omega
          exact h
        clear Hat Hb2
        generalize l[y].name = pn at *
        by_cases h3 : (pn.toList == na.toList) = true
        ·have hf : Hid (rrightS l = 1) := by show _ = _; rw [HR2.out, if_pos (Hb3.out h3)]
         clear Hno2 Hb3
         go_wp2_with fail
         go_quiet (fail)
         go_wp2
         go_ret
         rw [hf.out]
         exact ⟨rfl, (((Keeps.refl [] w).drewN _).drewN _).below⟩
        ·have h3' : (pn.toList == na.toList) = false := by simpa using h3
         have hno3 := Lib.hid (Hno2.out h3')
         clear Hno2 Hb3 h3
         go_wp2_with fail
         go_quiet (fail)
         go_wp2
         go_roundw
         case rel => exact ⟨y + 1, _, by go_num, by omega, hno3, rfl⟩
         case measure => simp [intOf] <;> omega
       ·obtain rfl : y = x := by omega
        have hok := Lib.hid (Hnx2.out (fun j hj => by have := Hno.out j hj hj; exact this))
        clear Hat Hb2 Hno Hnx2
        go_wp2
        go_roundw
        case rel => exact ⟨y + 1, q2, by go_num, by omega, hok, rfl⟩
        case measure => simp [intOf] <;> omega
     ·have h2' : nameOk l[x].value = false := by simpa using h2
      have hf : Hid (rrightS l = 1) := by show _ = _; rw [HR2.out, if_pos (Hb1.out (by rw [h2', Bool.and_false]))]
      rw [h1] at HNa
      rw [h2'] at HVa
      clear h1 h2 h2' Hb1 Hb2 Hnx
      generalize l[x].name = na at *
      generalize l[x].value = va at *
      go_wp2_with ((first | (go_at_call_of 223 (Value.string na); refine (HNa.out _).mono ?_) | (go_at_call_of 223 (Value.string va); refine (HVa.out _).mono ?_)); rintro e w' ⟨rfl, rfl⟩)
      go_ret
      rw [hf.out]
      exact ⟨rfl, ((Keeps.refl [] w).drewN _).below⟩
    ·have h1' : nameOk l[x].name = false := by simpa using h1
     have hf : Hid (rrightS l = 1) := by show _ = _; rw [HR2.out, if_pos (Hb1.out (by rw [h1', Bool.false_and]))]
     rw [h1'] at HNa
     clear h1 h1' Hb1 Hb2 Hnx
     generalize l[x].name = na at *
     generalize l[x].value = va at *
     go_wp2_with ((go_at_call_of 223 (Value.string na); refine (HNa.out _).mono ?_); rintro e w' ⟨rfl, rfl⟩)
     go_ret
     rw [hf.out]
     exact ⟨rfl, ((Keeps.refl [] w).drewN _).below⟩
   ·obtain rfl : x = l.length := by omega
    have hok := Hok.out
    rw [List.take_length] at hok
    by_cases hz : l.length = 0
    ·have hR : Hid (rrightS l = 1) := by show _ = _; rw [HR2.out, if_neg (by rw [hok]; simp), if_pos hz]
     have hzi : ((l.length : Int) == 0) = true := by rw [beq_iff_eq]; omega
     have hzi2 : (l.length : Int) = 0 := by omega
     clear hok
     go_wp2
     go_ret
     rw [hR.out]
     exact ⟨rfl, ((Keeps.refl [] w).drewN _).below⟩
    ·have hR : Hid (rrightS l = 0) := by show _ = _; rw [HR2.out, if_neg (by rw [hok]; simp), if_neg hz]
     have hzi : ((l.length : Int) == 0) = false := by rw [beq_eq_false_iff_ne]; omega
     clear hok
     go_wp2
     go_ret
     rw [hR.out]
     exact ⟨rfl, ((Keeps.refl [] w).drewN _).below⟩
end Go.Proofs.YtinnifhnabncfaaGreatDoor.Vi
end
