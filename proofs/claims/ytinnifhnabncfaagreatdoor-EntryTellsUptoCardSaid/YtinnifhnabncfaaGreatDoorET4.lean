/- Texts put together: RefB. -/
import Derived.Test.YtinnifhnabncfaaGreatDoorET3
set_option linter.unusedVariables false
set_option linter.unusedSimpArgs false
/- Contract of hopperref3.Sort. -/
section
namespace Go.Proofs.YtinnifhnabncfaaGreatDoor.Vi
open Go.RowKit Base Mem Go.Shelf
theorem reads_blk {w : World} {g : Nat} {t : TypeId} {xs : List Value} (h : Blk w g t xs.toArray) (m size : Nat) (hl : xs.length = m * size) : Reads w w.heap.size size (some ⟨g, 0, none⟩) m xs :=
  ⟨hl, fun _ => ⟨_, rfl, h.lt, fun j u hu => by rw [show (⟨g, 0, none⟩ : Addr).add j = ⟨g, j, none⟩ by unfold Addr.add; split <;> simp_all, h.cell j]; simpa using hu⟩⟩
theorem Reads.headN {w : World} {B size n : Nat} {A : Option Addr} {xs : List Value} (h : Reads w B size A n xs) {y : Nat} (hy : y ≤ n) : Reads w B size A y (xs.take (y * size)) := by
  refine ⟨?_, fun hn => ?_⟩
  · rw [List.length_take, h.1]
    exact Nat.min_eq_left (Nat.mul_le_mul_right _ hy)
  · obtain ⟨ad, e, hb, hc⟩ := h.2 (by omega)
    refine ⟨ad, e, hb, fun j u hu => hc j u ?_⟩
    rw [List.getElem?_take] at hu
    split at hu
    · exact hu
    · cases hu
theorem labEnc_oneC (d : LabD) : ∀ u ∈ labEnc d, u.oneCell' = true := by
  intro u hu
  simp [labEnc] at hu
  rcases hu with rfl | rfl <;> rfl
theorem lab_cells_one (l : List LabD) : ∀ u ∈ l.flatMap labEnc, u.oneCell' = true := labEnc_one l
theorem lab_take (l : List LabD) (y : Nat) : (l.flatMap labEnc).take (y * 2) = (l.take y).flatMap labEnc := by
  induction l generalizing y with
  | nil => simp
  | cons a l ih =>
    cases y with
    | zero => simp
    | succ y =>
      rw [List.flatMap_cons, List.take_succ_cons, List.flatMap_cons, ← ih, show (y + 1) * 2 = y * 2 + 2 by omega, List.take_append, show (labEnc a).length = 2 from rfl, List.take_of_length_le (by simp [labEnc])]
      simp
theorem lab_drop (l : List LabD) (y : Nat) : (l.flatMap labEnc).drop (y * 2) = (l.drop y).flatMap labEnc := by
  induction l generalizing y with
  | nil => simp
  | cons a l ih =>
    cases y with
    | zero => simp
    | succ y =>
      rw [List.flatMap_cons, List.drop_succ_cons, ← ih, show (y + 1) * 2 = 2 + y * 2 by omega, ← List.drop_drop]
      rfl
theorem infoLabS : (Tryz.prog.info? 215).map (fun i => (i.zero, i.size, i.bytes)) = some (some (.agg #[.string ⟨#[]⟩, .string ⟨#[]⟩]), 2, 32) := by kernel_rfl
theorem rins_step {d : LabD} {acc : List LabD} {y : Nat} (hy : y < acc.length) (h : rins d acc = rins d (acc.take (y + 1)) ++ acc.drop (y + 1)) (hl : sLt d.name acc[y].name = true) : rins d acc = rins d (acc.take y) ++ acc.drop y := by
  rw [h, List.take_succ_eq_append_getElem hy, List.drop_eq_getElem_cons hy]
  unfold rins
  rw [List.reverse_append, List.reverse_singleton, List.singleton_append, rinsR, if_pos hl, List.reverse_cons, List.append_assoc]
  rfl
theorem rins_stop {d : LabD} {acc : List LabD} {y : Nat} (h : rins d acc = rins d (acc.take y) ++ acc.drop y) (hy : y ≤ acc.length) (hl : ∀ (h : 0 < y), sLt d.name (acc[y - 1]'(by omega)).name = false) : rins d acc = acc.take y ++ [d] ++ acc.drop y := by
  rw [h]
  congr 1
  cases y with
  | zero => rfl
  | succ y =>
    have := hl (by omega)
    rw [List.take_succ_eq_append_getElem (by omega)]
    unfold rins
    rw [List.reverse_append, List.reverse_singleton, List.singleton_append, rinsR, if_neg (by simpa using this)]
    simp
set_option maxRecDepth 100000 in
set_option maxHeartbeats 8000000 in
theorem rsort_any (v : Value) (l : List LabD) (w : World) (h : Labs w [] v l) (hl : l.length ≤ 1099511627776) :
    Calls Tryz.prog 194 #[v] w fun e w' => ∃ v', e = .returned v' ∧ w'.ownsRow w.heap.size 215 2 v' (rsortL l).length ((rsortL l).flatMap labEnc) ∧ Below w.heap.size w w' := by
  obtain ⟨i0, hi0, hz0, hz1, hz2⟩ := info_parts infoLabS
  have Hi0 := Lib.hid hi0; have Hz0 := Lib.hid hz0; have Hz1 := Lib.hid hz1; have Hz2 := Lib.hid hz2
  clear hi0 hz0 hz1 hz2
  have HL := Lib.hid h
  have HS : Hid (rsortL l = l.foldl (fun out x => rins x out) []) := rfl
  obtain ⟨A, c, rfl, hc⟩ := h.len
  clear h
  go_enter Tryz.func194, Tryz.ntmps194
  go_wp2_with fail
  go_loopw [3, 9] (fun out i wr => ∃ (x : Nat) (acc : List LabD), i = .int .i64 x ∧ x ≤ l.length ∧ Hid (acc.length = x) ∧ Hid ((l.take x).foldl (fun out x => rins x out) [] = acc) ∧ Hid (acc = [] → out = .slice none 0 0) ∧ Hid (wr.ownsRow w.heap.size 215 2 out acc.length (acc.flatMap labEnc)) ∧ Hid (Below w.heap.size w wr)) (fun _ i _ => l.length - (intOf i).toNat)
  case atStart => exact ⟨0, [], rfl, by omega, rfl, rfl, fun _ => rfl, World.ownsRow_nil _ _ _ _, Below.refl _ _⟩
  case round =>
    obtain ⟨x, acc, rfl, hx, Hal, Hacc, Hnil, Hown, Hbr⟩ := hrel
    by_cases hlt : x < l.length
    · have hx1 : (x : Int) < (l.length : Int) := by omega
      obtain ⟨gl, ofl, _, e1, hgl, c0, c1⟩ := (HL.out.keep (Keeps.of_below (M := []) Hbr.out) (by simp)).at_ hlt
      obtain rfl : A = some ⟨gl, ofl, none⟩ := by injection e1
      clear e1
      have htk : Hid ((l.take (x + 1)).foldl (fun out x => rins x out) [] = rins l[x] acc) := by
        show _ = _
        rw [List.take_succ_eq_append_getElem hlt, List.foldl_append, Hacc.out]; rfl
      have hlen2 : Hid ((rins l[x] acc).length = x + 1) := by
        show _ = _
        unfold rins
        rw [List.length_reverse, (rinsR_perm l[x] _).length_eq]
        simp [Hal.out]
      generalize l[x] = d at *
      have hA : Hid (∃ Ao co, u3 = .slice Ao acc.length co ∧ acc.length ≤ co ∧ (acc = [] → Ao = none ∧ co = 0) ∧ (acc ≠ [] → ∃ g, Ao = some ⟨g, 0, none⟩)) := by
        show ∃ _ _, _
        by_cases hz : acc = []
        · rw [Hnil.out hz, hz]
          exact ⟨none, 0, rfl, Nat.le_refl _, fun _ => ⟨rfl, rfl⟩, fun h => absurd rfl h⟩
        · obtain ⟨g, cap, hv, _, _⟩ := Hown.out.form (List.length_pos_iff.2 hz)
          obtain ⟨Ao, co, hv2, hco⟩ := (show Labs wr [] u3 acc from Rd.of_own Hown.out (by simp)).len
          rw [hv] at hv2
          injection hv2 with h1 _ h3
          subst h1 h3
          exact ⟨_, _, hv, hco, fun h => absurd h hz, fun _ => ⟨g, rfl⟩⟩
      obtain ⟨Ao, co, rfl, hco, hAn, hAs⟩ := hA.out
      have HAn := Lib.hid hAn; have HAs := Lib.hid hAs
      clear hA hAn hAs
      -- the item's block
      have hBx := Blk.new wr 215 #[.string d.name, .string d.value]
      have HbA := Lib.hid (Hbr.out.alloc Hbr.out.size (.cells #[.string d.name, .string d.value] 215))
      have HownA := Lib.hid (Hown.out.alloc (.cells #[.string d.name, .string d.value] 215))
      have hg5 : wr.heap.size < (wr.alloc (.cells #[.string d.name, .string d.value] 215)).heap.size := by simp
      have d0 := hBx.cell 0; have d1 := hBx.cell 1
      simp only [List.getElem?_toArray, List.getElem?_cons_succ, List.getElem?_cons_zero] at d0 d1
      clear hBx
      have hlen1 : (acc.length : Int) ≤ (co : Int) := by omega
      go_upto_region 5 with (fail)
      generalize wr.alloc (.cells #[.string d.name, .string d.value] 215) = wa at *
      generalize wr.heap.size = g5 at *
      clear c0 c1
      have HD0 := Lib.hid d0; have HD1 := Lib.hid d1
      go_wp2_with fail
      go_loopw [6] (fun k wi => ∃ y q : Nat, k = .int .i64 y ∧ y ≤ acc.length ∧ Hid (rins d acc = rins d (acc.take y) ++ acc.drop y) ∧ wi = wa.drewN q) (fun k _ => (intOf k).toNat)
      case atStart => exact ⟨acc.length, 0, rfl, by omega, (show rins d acc = _ by rw [List.take_length, List.drop_length, List.append_nil]), rfl⟩
      case round =>
        obtain ⟨y, q, rfl, hy, Hin, rfl⟩ := hrel
        have hxb : acc.length ≤ 1099511627776 := by have := Hal.out; omega
        have hyl : (y : Int) ≤ (acc.length : Int) := by omega
        have hyc : (y : Int) ≤ (co : Int) := by omega
        have hstop : Hid ((∀ (h : 0 < y), sLt d.name (acc[y - 1]'(by omega)).name = false) → rins d acc = acc.take y ++ [d] ++ acc.drop y) := fun h => rins_stop Hin.out hy h
        have HbI : Hid (∀ n, Below wa.heap.size wa ((wa.drewN q).drewN n).drew) := fun n => (((Keeps.refl [] wa).drewN q).drewN n).drew.below
        have HC1 : Hid (∀ u ∈ (acc.take y).flatMap labEnc, u.oneCell' = true) := labEnc_one _
        have HC2 : Hid (∀ u ∈ (acc.drop y).flatMap labEnc, u.oneCell' = true) := labEnc_one _
        have hrd0 := Lib.hid (fun W (hb : Below wa.heap.size wa W) => Reads.of_own (own_below HownA.out hb))
        have HR1 : Hid (∀ W, Below wa.heap.size wa W → Reads W W.heap.size 2 Ao y ((acc.take y).flatMap labEnc)) := fun W hb => by
          have := Reads.headN (hrd0.out W hb) hy
          rwa [lab_take] at this
        have HR2 : Hid (∀ W, Below wa.heap.size wa W → Reads W W.heap.size 2 (if co = y then Ao else Ao.map (·.add (y * 2))) (acc.length - y) ((acc.drop y).flatMap labEnc)) := fun W hb => by
          have := Reads.cut (hrd0.out W hb) hy hco
          rwa [lab_drop] at this
        clear hrd0
        have hfin : Hid (rins d acc = acc.take y ++ [d] ++ acc.drop y → ∀ (v : Value) (W : World), W.ownsRow wa.heap.size 215 2 v (y + 1 + (acc.length - y)) ((acc.take y).flatMap labEnc ++ labEnc d ++ (acc.drop y).flatMap labEnc) → W.ownsRow w.heap.size 215 2 v (rins d acc).length ((rins d acc).flatMap labEnc)) := fun h v W ho => by
          rw [h]
          have e1 : (acc.take y ++ [d] ++ acc.drop y).length = y + 1 + (acc.length - y) := by simp; omega
          rw [e1, List.flatMap_append, List.flatMap_append, List.flatMap_singleton]
          exact own_more ho HbA.out.size
        rcases Nat.eq_zero_or_pos y with hy0 | hy0
        · obtain rfl : y = 0 := hy0
          have Hfin2 := Lib.hid (hfin.out (hstop.out (fun h => absurd h (by omega))))
          clear hfin hstop Hin
          go_wp2_with fail
          go_quiet (fail)
          go_wp2_with fail
          by_cases hz : acc = []
          · obtain ⟨rfl, rfl⟩ := HAn.out hz
            have hal0 : acc.length = 0 := by rw [hz]; rfl
            have HRT : Hid (∀ W, Below wa.heap.size wa W → Reads W W.heap.size 2 none 0 ((acc.drop 0).flatMap labEnc)) := fun W hb => by
              have := HR2.out W hb
              rwa [if_pos rfl, hal0] at this
            rw [hal0] at Hfin2
            clear HR2 hz
            refine wp_region_held_drew (S := (fun W => Below wa.heap.size wa W)) (by kernel_rfl) (HbI.out _) (fun hHeld => ?_)
            refine wpAnyH_take (i := 1) (oi := _) (v := ?v1q377) rfl (by kernel_rfl) (by kernel_rfl) (by kernel_rfl) (fun _ _ _ h => h) (Or.inl ⟨by rfl, ?y1q377⟩) (by assumption) ?r1q377
            case y1q377 => (intro w hSw; (try dsimp only at hSw); go_simp <;> with_reducible rfl)
            try simp only [List.getElem_toArray, List.getElem_cons_succ, List.getElem_cons_zero, Act.put, List.setIfInBounds_toArray, List.set_cons_zero, List.set_cons_succ]
            refine wpAnyH_take (i := 2) (oi := _) (v := ?v2q377) rfl (by kernel_rfl) (by kernel_rfl) (by kernel_rfl) (fun _ _ _ h => h) (Or.inl ⟨by rfl, ?y2q377⟩) (by assumption) ?r2q377
            case y2q377 => (intro w hSw; (try dsimp only at hSw); go_simp <;> with_reducible rfl)
            try simp only [List.getElem_toArray, List.getElem_cons_succ, List.getElem_cons_zero, Act.put, List.setIfInBounds_toArray, List.set_cons_zero, List.set_cons_succ]
            refine wpAnyH_take (i := 3) (oi := _) (v := ?v3q377) rfl (by kernel_rfl) (by kernel_rfl) (by kernel_rfl) (fun _ _ _ h => h) (Or.inl ⟨by rfl, ?y3q377⟩) (by assumption) ?r3q377
            case y3q377 => (intro w hSw; (try dsimp only at hSw); go_simp <;> with_reducible rfl)
            try simp only [List.getElem_toArray, List.getElem_cons_succ, List.getElem_cons_zero, Act.put, List.setIfInBounds_toArray, List.set_cons_zero, List.set_cons_succ]
            refine wpAnyH_take (i := 8) (oi := _) (v := ?v8q377) rfl (by kernel_rfl) (by kernel_rfl) (by kernel_rfl) (fun _ _ _ h => h) (Or.inl ⟨by rfl, ?y8q377⟩) (by assumption) ?r8q377
            case y8q377 => (intro w hSw; (try dsimp only at hSw); go_simp <;> with_reducible rfl)
            try simp only [List.getElem_toArray, List.getElem_cons_succ, List.getElem_cons_zero, Act.put, List.setIfInBounds_toArray, List.set_cons_zero, List.set_cons_succ]
            refine wpAnyH_take (i := 9) (oi := _) (v := ?v9q377) rfl (by kernel_rfl) (by kernel_rfl) (by kernel_rfl) (fun _ _ _ h => h) (Or.inl ⟨by rfl, ?y9q377⟩) (by assumption) ?r9q377
            case y9q377 => (intro w hSw; (try dsimp only at hSw); go_simp <;> with_reducible rfl)
            try simp only [List.getElem_toArray, List.getElem_cons_succ, List.getElem_cons_zero, Act.put, List.setIfInBounds_toArray, List.set_cons_zero, List.set_cons_succ]
            refine wpAnyH_take (i := 10) (oi := _) (v := ?v10q377) rfl (by kernel_rfl) (by kernel_rfl) (by kernel_rfl) (fun _ _ _ h => h) (Or.inl ⟨by rfl, ?y10q377⟩) (by assumption) ?r10q377
            case y10q377 => (intro w hSw; (try dsimp only at hSw); go_simp <;> with_reducible rfl)
            try simp only [List.getElem_toArray, List.getElem_cons_succ, List.getElem_cons_zero, Act.put, List.setIfInBounds_toArray, List.set_cons_zero, List.set_cons_succ]
            have hb00 := Lib.hid hHeld
            generalize ((wa.drewN q).drewN _).drew = Wd at *
            refine wpAnyH_ready (rs := [0, 5]) (by kernel_rfl) (by simp) ?_
            refine AllReadyH.cons (o := _) rfl (fun K hK => ?_) (AllReadyH.cons (o := _) rfl (fun K hK => ?_) (AllReadyH.nil))
            · go_simp
              have HZ380 : Hid ((Wd.alloc (.cells #[] 215)).ownsRow wa.heap.size 215 2 (.slice (some ⟨Wd.heap.size, 0, none⟩) 0 0) 0 []) := World.ownsRow_made Wd #[] 0 hb00.out.size (by unfold maxLen; omega) rfl
              have Hb379 := Lib.hid (hb00.out.alloc hb00.out.size (.cells #[] 215))
              have hz381 : Wd.heap.size < (Wd.alloc (.cells #[] 215)).heap.size := by simp
              generalize Wd.alloc (.cells #[] 215) = W378 at *
              refine hK.out _ _ Hb379.out (fun hHeld2 => ?_)
              clear hK K hHeld
              have hHeld := hHeld2
              clear hHeld2
              try simp only [List.getElem_toArray, List.getElem_cons_succ, List.getElem_cons_zero, Act.put, List.setIfInBounds_toArray, List.set_cons_zero, List.set_cons_succ]
              refine wpAnyH_ready (rs := [4, 5]) (by kernel_rfl) (by simp) ?_
              refine AllReadyH.cons (o := _) rfl (fun K hK => ?_) (AllReadyH.cons (o := _) rfl (fun K hK => ?_) (AllReadyH.nil))
              · refine step_append_any _ rfl (.tmp 30) (.tmp 33) _ rfl wa.heap.size 215 i0 _ 2 32 Tryz.underlying168 Hi0.out Hz0.out Hz1.out Hz2.out rfl (by omega) (.slice (some ⟨Wd.heap.size, 0, none⟩) 0 0) 0 [] rfl HZ380.out W378.heap.size _ 0 _ _ rfl (HR1.out W378 Hb379.out) HC1.out (by unfold maxLen; omega) (by omega) Hb379.out.size ?_
                intro v382 W383 ho384 hg385 ha386
                rw [Nat.zero_add, List.nil_append] at ho384
                have HZ387 := Lib.hid ho384
                have Hb388 : Hid (Below wa.heap.size wa W383) := Hb379.out.grown hg385 Hb379.out.size (fun g hg => ((HZ380.out.lt g hg).1))
                clear ho384 hg385 ha386
                refine hK.out _ _ Hb388.out (fun hHeld2 => ?_)
                clear hK K hHeld
                have hHeld := hHeld2
                clear hHeld2
                try simp only [List.getElem_toArray, List.getElem_cons_succ, List.getElem_cons_zero, Act.put, List.setIfInBounds_toArray, List.set_cons_zero, List.set_cons_succ]
                refine wpAnyH_ready (rs := [5]) (by kernel_rfl) (by simp) ?_
                refine AllReadyH.cons (o := _) rfl (fun K hK => ?_) (AllReadyH.nil)
                · have e389 := (Hb388.out.cell (p := ⟨g5, 0, none⟩) hg5).trans d0
                  have e390 := (Hb388.out.cell (p := ⟨g5, 1, none⟩) hg5).trans d1
                  go_simp
                  clear e389 e390
                  refine hK.out _ _ Hb388.out (fun hHeld2 => ?_)
                  clear hK K hHeld
                  have hHeld := hHeld2
                  clear hHeld2
                  try simp only [List.getElem_toArray, List.getElem_cons_succ, List.getElem_cons_zero, Act.put, List.setIfInBounds_toArray, List.set_cons_zero, List.set_cons_succ]
                  refine wpAnyH_ready (rs := [6]) (by kernel_rfl) (by simp) ?_
                  refine AllReadyH.cons (o := _) rfl (fun K hK => ?_) (AllReadyH.nil)
                  · go_simp
                    have HS393 : Hid (Blk (W383.alloc (.cells #[.string d.name, .string d.value] 215)) W383.heap.size 215 #[.string d.name, .string d.value]) := Blk.new W383 _ _
                    have Hb392 := Lib.hid (Hb388.out.alloc Hb388.out.size (.cells #[.string d.name, .string d.value] 215))
                    have HZ395 := Lib.hid (HZ380.out.alloc (.cells #[.string d.name, .string d.value] 215))
                    have HZ396 := Lib.hid (HZ387.out.alloc (.cells #[.string d.name, .string d.value] 215))
                    have hz394 : W383.heap.size < (W383.alloc (.cells #[.string d.name, .string d.value] 215)).heap.size := by simp
                    generalize W383.alloc (.cells #[.string d.name, .string d.value] 215) = W391 at *
                    refine hK.out _ _ Hb392.out (fun hHeld2 => ?_)
                    clear hK K hHeld
                    have hHeld := hHeld2
                    clear hHeld2
                    try simp only [List.getElem_toArray, List.getElem_cons_succ, List.getElem_cons_zero, Act.put, List.setIfInBounds_toArray, List.set_cons_zero, List.set_cons_succ]
                    refine wpAnyH_ready (rs := [7]) (by kernel_rfl) (by simp) ?_
                    refine AllReadyH.cons (o := _) rfl (fun K hK => ?_) (AllReadyH.nil)
                    · refine step_append_any _ rfl (.tmp 34) (.tmp 36) _ rfl wa.heap.size 215 i0 _ 2 32 Tryz.underlying168 Hi0.out Hz0.out Hz1.out Hz2.out rfl (by omega) v382 0 _ rfl HZ396.out W391.heap.size _ 1 1 (labEnc d) rfl (reads_blk HS393.out 1 2 rfl) (labEnc_oneC d) (by unfold maxLen; omega) (by omega) Hb392.out.size ?_
                      intro v397 W398 ho399 hg400 ha401
                      have HZ402 := Lib.hid ho399
                      have Hb403 : Hid (Below wa.heap.size wa W398) := Hb392.out.grown hg400 Hb392.out.size (fun g hg => ((HZ396.out.lt g hg).1))
                      clear ho399 hg400 ha401
                      refine hK.out _ _ Hb403.out (fun hHeld2 => ?_)
                      clear hK K hHeld
                      have hHeld := hHeld2
                      clear hHeld2
                      try simp only [List.getElem_toArray, List.getElem_cons_succ, List.getElem_cons_zero, Act.put, List.setIfInBounds_toArray, List.set_cons_zero, List.set_cons_succ]
                      refine wpAnyH_ready (rs := [11]) (by kernel_rfl) (by simp) ?_
                      refine AllReadyH.cons (o := _) rfl (fun K hK => ?_) (AllReadyH.nil)
                      · refine step_append_any _ rfl (.tmp 37) (.tmp 40) _ rfl wa.heap.size 215 i0 _ 2 32 Tryz.underlying168 Hi0.out Hz0.out Hz1.out Hz2.out rfl (by omega) v397 (0 + 1) _ rfl HZ402.out W398.heap.size _ 0 _ _ rfl (HRT.out W398 Hb403.out) HC2.out (by unfold maxLen; omega) (by omega) Hb403.out.size ?_
                        intro v404 W405 ho406 hg407 ha408
                        have HZ409 := Lib.hid ho406
                        have Hb410 : Hid (Below wa.heap.size wa W405) := Hb403.out.grown hg407 Hb403.out.size (fun g hg => ((HZ402.out.lt g hg).1))
                        clear ho406 hg407 ha408
                        refine hK.out _ _ Hb410.out (fun hHeld2 => ?_)
                        clear hK K hHeld
                        have hHeld := hHeld2
                        clear hHeld2
                        try simp only [List.getElem_toArray, List.getElem_cons_succ, List.getElem_cons_zero, Act.put, List.setIfInBounds_toArray, List.set_cons_zero, List.set_cons_succ]
                        refine wpAnyH_take (i := 12) (oi := _) (v := ?v12s411) rfl (by kernel_rfl) (by kernel_rfl) (by kernel_rfl) (fun _ _ _ h => h) (Or.inl ⟨by rfl, ?y12s411⟩) (by assumption) ?r12s411
                        case y12s411 => (intro w hSw; (try dsimp only at hSw); go_simp <;> with_reducible rfl)
                        try simp only [List.getElem_toArray, List.getElem_cons_succ, List.getElem_cons_zero, Act.put, List.setIfInBounds_toArray, List.set_cons_zero, List.set_cons_succ]
                        refine wpAnyH_done (by kernel_rfl) ?_ _
                        have HownF := Lib.hid (Hfin2.out _ _ HZ409.out)
                        have HbF := Lib.hid (below_then HbA.out Hb410.out)
                        go_wp2
                        go_roundw
                        case rel => exact ⟨x + 1, rins d acc, by go_num, by omega, hlen2, htk, fun h => absurd (congrArg List.length h) (by rw [hlen2.out]; simp), HownF, HbF⟩
                        case measure => simp [intOf] <;> omega
              · have e412 := (Hb379.out.cell (p := ⟨g5, 0, none⟩) hg5).trans d0
                have e413 := (Hb379.out.cell (p := ⟨g5, 1, none⟩) hg5).trans d1
                go_simp
                clear e412 e413
                refine hK.out _ _ Hb379.out (fun hHeld2 => ?_)
                clear hK K hHeld
                have hHeld := hHeld2
                clear hHeld2
                try simp only [List.getElem_toArray, List.getElem_cons_succ, List.getElem_cons_zero, Act.put, List.setIfInBounds_toArray, List.set_cons_zero, List.set_cons_succ]
                refine wpAnyH_ready (rs := [4, 6]) (by kernel_rfl) (by simp) ?_
                refine AllReadyH.cons (o := _) rfl (fun K hK => ?_) (AllReadyH.cons (o := _) rfl (fun K hK => ?_) (AllReadyH.nil))
                · refine step_append_any _ rfl (.tmp 30) (.tmp 33) _ rfl wa.heap.size 215 i0 _ 2 32 Tryz.underlying168 Hi0.out Hz0.out Hz1.out Hz2.out rfl (by omega) (.slice (some ⟨Wd.heap.size, 0, none⟩) 0 0) 0 [] rfl HZ380.out W378.heap.size _ 0 _ _ rfl (HR1.out W378 Hb379.out) HC1.out (by unfold maxLen; omega) (by omega) Hb379.out.size ?_
                  intro v414 W415 ho416 hg417 ha418
                  rw [Nat.zero_add, List.nil_append] at ho416
                  have HZ419 := Lib.hid ho416
                  have Hb420 : Hid (Below wa.heap.size wa W415) := Hb379.out.grown hg417 Hb379.out.size (fun g hg => ((HZ380.out.lt g hg).1))
                  clear ho416 hg417 ha418
                  refine hK.out _ _ Hb420.out (fun hHeld2 => ?_)
                  clear hK K hHeld
                  have hHeld := hHeld2
                  clear hHeld2
                  try simp only [List.getElem_toArray, List.getElem_cons_succ, List.getElem_cons_zero, Act.put, List.setIfInBounds_toArray, List.set_cons_zero, List.set_cons_succ]
                  refine wpAnyH_ready (rs := [6]) (by kernel_rfl) (by simp) ?_
                  refine AllReadyH.cons (o := _) rfl (fun K hK => ?_) (AllReadyH.nil)
                  · go_simp
                    have HS423 : Hid (Blk (W415.alloc (.cells #[.string d.name, .string d.value] 215)) W415.heap.size 215 #[.string d.name, .string d.value]) := Blk.new W415 _ _
                    have Hb422 := Lib.hid (Hb420.out.alloc Hb420.out.size (.cells #[.string d.name, .string d.value] 215))
                    have HZ425 := Lib.hid (HZ380.out.alloc (.cells #[.string d.name, .string d.value] 215))
                    have HZ426 := Lib.hid (HZ419.out.alloc (.cells #[.string d.name, .string d.value] 215))
                    have hz424 : W415.heap.size < (W415.alloc (.cells #[.string d.name, .string d.value] 215)).heap.size := by simp
                    generalize W415.alloc (.cells #[.string d.name, .string d.value] 215) = W421 at *
                    refine hK.out _ _ Hb422.out (fun hHeld2 => ?_)
                    clear hK K hHeld
                    have hHeld := hHeld2
                    clear hHeld2
                    try simp only [List.getElem_toArray, List.getElem_cons_succ, List.getElem_cons_zero, Act.put, List.setIfInBounds_toArray, List.set_cons_zero, List.set_cons_succ]
                    refine wpAnyH_ready (rs := [7]) (by kernel_rfl) (by simp) ?_
                    refine AllReadyH.cons (o := _) rfl (fun K hK => ?_) (AllReadyH.nil)
                    · refine step_append_any _ rfl (.tmp 34) (.tmp 36) _ rfl wa.heap.size 215 i0 _ 2 32 Tryz.underlying168 Hi0.out Hz0.out Hz1.out Hz2.out rfl (by omega) v414 0 _ rfl HZ426.out W421.heap.size _ 1 1 (labEnc d) rfl (reads_blk HS423.out 1 2 rfl) (labEnc_oneC d) (by unfold maxLen; omega) (by omega) Hb422.out.size ?_
                      intro v427 W428 ho429 hg430 ha431
                      have HZ432 := Lib.hid ho429
                      have Hb433 : Hid (Below wa.heap.size wa W428) := Hb422.out.grown hg430 Hb422.out.size (fun g hg => ((HZ426.out.lt g hg).1))
                      clear ho429 hg430 ha431
                      refine hK.out _ _ Hb433.out (fun hHeld2 => ?_)
                      clear hK K hHeld
                      have hHeld := hHeld2
                      clear hHeld2
                      try simp only [List.getElem_toArray, List.getElem_cons_succ, List.getElem_cons_zero, Act.put, List.setIfInBounds_toArray, List.set_cons_zero, List.set_cons_succ]
                      refine wpAnyH_ready (rs := [11]) (by kernel_rfl) (by simp) ?_
                      refine AllReadyH.cons (o := _) rfl (fun K hK => ?_) (AllReadyH.nil)
                      · refine step_append_any _ rfl (.tmp 37) (.tmp 40) _ rfl wa.heap.size 215 i0 _ 2 32 Tryz.underlying168 Hi0.out Hz0.out Hz1.out Hz2.out rfl (by omega) v427 (0 + 1) _ rfl HZ432.out W428.heap.size _ 0 _ _ rfl (HRT.out W428 Hb433.out) HC2.out (by unfold maxLen; omega) (by omega) Hb433.out.size ?_
                        intro v434 W435 ho436 hg437 ha438
                        have HZ439 := Lib.hid ho436
                        have Hb440 : Hid (Below wa.heap.size wa W435) := Hb433.out.grown hg437 Hb433.out.size (fun g hg => ((HZ432.out.lt g hg).1))
                        clear ho436 hg437 ha438
                        refine hK.out _ _ Hb440.out (fun hHeld2 => ?_)
                        clear hK K hHeld
                        have hHeld := hHeld2
                        clear hHeld2
                        try simp only [List.getElem_toArray, List.getElem_cons_succ, List.getElem_cons_zero, Act.put, List.setIfInBounds_toArray, List.set_cons_zero, List.set_cons_succ]
                        refine wpAnyH_take (i := 12) (oi := _) (v := ?v12s441) rfl (by kernel_rfl) (by kernel_rfl) (by kernel_rfl) (fun _ _ _ h => h) (Or.inl ⟨by rfl, ?y12s441⟩) (by assumption) ?r12s441
                        case y12s441 => (intro w hSw; (try dsimp only at hSw); go_simp <;> with_reducible rfl)
                        try simp only [List.getElem_toArray, List.getElem_cons_succ, List.getElem_cons_zero, Act.put, List.setIfInBounds_toArray, List.set_cons_zero, List.set_cons_succ]
                        refine wpAnyH_done (by kernel_rfl) ?_ _
                        have HownF := Lib.hid (Hfin2.out _ _ HZ439.out)
                        have HbF := Lib.hid (below_then HbA.out Hb440.out)
                        go_wp2
                        go_roundw
                        case rel => exact ⟨x + 1, rins d acc, by go_num, by omega, hlen2, htk, fun h => absurd (congrArg List.length h) (by rw [hlen2.out]; simp), HownF, HbF⟩
                        case measure => simp [intOf] <;> omega
                · go_simp
                  have HS444 : Hid (Blk (W378.alloc (.cells #[.string d.name, .string d.value] 215)) W378.heap.size 215 #[.string d.name, .string d.value]) := Blk.new W378 _ _
                  have Hb443 := Lib.hid (Hb379.out.alloc Hb379.out.size (.cells #[.string d.name, .string d.value] 215))
                  have HZ446 := Lib.hid (HZ380.out.alloc (.cells #[.string d.name, .string d.value] 215))
                  have hz445 : W378.heap.size < (W378.alloc (.cells #[.string d.name, .string d.value] 215)).heap.size := by simp
                  generalize W378.alloc (.cells #[.string d.name, .string d.value] 215) = W442 at *
                  refine hK.out _ _ Hb443.out (fun hHeld2 => ?_)
                  clear hK K hHeld
                  have hHeld := hHeld2
                  clear hHeld2
                  try simp only [List.getElem_toArray, List.getElem_cons_succ, List.getElem_cons_zero, Act.put, List.setIfInBounds_toArray, List.set_cons_zero, List.set_cons_succ]
                  refine wpAnyH_ready (rs := [4]) (by kernel_rfl) (by simp) ?_
                  refine AllReadyH.cons (o := _) rfl (fun K hK => ?_) (AllReadyH.nil)
                  · refine step_append_any _ rfl (.tmp 30) (.tmp 33) _ rfl wa.heap.size 215 i0 _ 2 32 Tryz.underlying168 Hi0.out Hz0.out Hz1.out Hz2.out rfl (by omega) (.slice (some ⟨Wd.heap.size, 0, none⟩) 0 0) 0 [] rfl HZ446.out W442.heap.size _ 0 _ _ rfl (HR1.out W442 Hb443.out) HC1.out (by unfold maxLen; omega) (by omega) Hb443.out.size ?_
                    intro v447 W448 ho449 hg450 ha451
                    rw [Nat.zero_add, List.nil_append] at ho449
                    have HZ452 := Lib.hid ho449
                    have Hb453 : Hid (Below wa.heap.size wa W448) := Hb443.out.grown hg450 Hb443.out.size (fun g hg => ((HZ446.out.lt g hg).1))
                    have HS454 := Lib.hid (Keeps.blk ((Keeps.refl [Wd.heap.size] W442).grown hg450 (fun g hg => .inl (List.mem_singleton.2 (by injection hg with h; exact h.symm)))) HS444.out (by simp; omega))
                    clear ho449 hg450 ha451
                    refine hK.out _ _ Hb453.out (fun hHeld2 => ?_)
                    clear hK K hHeld
                    have hHeld := hHeld2
                    clear hHeld2
                    try simp only [List.getElem_toArray, List.getElem_cons_succ, List.getElem_cons_zero, Act.put, List.setIfInBounds_toArray, List.set_cons_zero, List.set_cons_succ]
                    refine wpAnyH_ready (rs := [7]) (by kernel_rfl) (by simp) ?_
                    refine AllReadyH.cons (o := _) rfl (fun K hK => ?_) (AllReadyH.nil)
                    · refine step_append_any _ rfl (.tmp 34) (.tmp 36) _ rfl wa.heap.size 215 i0 _ 2 32 Tryz.underlying168 Hi0.out Hz0.out Hz1.out Hz2.out rfl (by omega) v447 0 _ rfl HZ452.out W448.heap.size _ 1 1 (labEnc d) rfl (reads_blk HS454.out 1 2 rfl) (labEnc_oneC d) (by unfold maxLen; omega) (by omega) Hb453.out.size ?_
                      intro v455 W456 ho457 hg458 ha459
                      have HZ460 := Lib.hid ho457
                      have Hb461 : Hid (Below wa.heap.size wa W456) := Hb453.out.grown hg458 Hb453.out.size (fun g hg => ((HZ452.out.lt g hg).1))
                      clear ho457 hg458 ha459
                      refine hK.out _ _ Hb461.out (fun hHeld2 => ?_)
                      clear hK K hHeld
                      have hHeld := hHeld2
                      clear hHeld2
                      try simp only [List.getElem_toArray, List.getElem_cons_succ, List.getElem_cons_zero, Act.put, List.setIfInBounds_toArray, List.set_cons_zero, List.set_cons_succ]
                      refine wpAnyH_ready (rs := [11]) (by kernel_rfl) (by simp) ?_
                      refine AllReadyH.cons (o := _) rfl (fun K hK => ?_) (AllReadyH.nil)
                      · refine step_append_any _ rfl (.tmp 37) (.tmp 40) _ rfl wa.heap.size 215 i0 _ 2 32 Tryz.underlying168 Hi0.out Hz0.out Hz1.out Hz2.out rfl (by omega) v455 (0 + 1) _ rfl HZ460.out W456.heap.size _ 0 _ _ rfl (HRT.out W456 Hb461.out) HC2.out (by unfold maxLen; omega) (by omega) Hb461.out.size ?_
                        intro v462 W463 ho464 hg465 ha466
                        have HZ467 := Lib.hid ho464
                        have Hb468 : Hid (Below wa.heap.size wa W463) := Hb461.out.grown hg465 Hb461.out.size (fun g hg => ((HZ460.out.lt g hg).1))
                        clear ho464 hg465 ha466
                        refine hK.out _ _ Hb468.out (fun hHeld2 => ?_)
                        clear hK K hHeld
                        have hHeld := hHeld2
                        clear hHeld2
                        try simp only [List.getElem_toArray, List.getElem_cons_succ, List.getElem_cons_zero, Act.put, List.setIfInBounds_toArray, List.set_cons_zero, List.set_cons_succ]
                        refine wpAnyH_take (i := 12) (oi := _) (v := ?v12s469) rfl (by kernel_rfl) (by kernel_rfl) (by kernel_rfl) (fun _ _ _ h => h) (Or.inl ⟨by rfl, ?y12s469⟩) (by assumption) ?r12s469
                        case y12s469 => (intro w hSw; (try dsimp only at hSw); go_simp <;> with_reducible rfl)
                        try simp only [List.getElem_toArray, List.getElem_cons_succ, List.getElem_cons_zero, Act.put, List.setIfInBounds_toArray, List.set_cons_zero, List.set_cons_succ]
                        refine wpAnyH_done (by kernel_rfl) ?_ _
                        have HownF := Lib.hid (Hfin2.out _ _ HZ467.out)
                        have HbF := Lib.hid (below_then HbA.out Hb468.out)
                        go_wp2
                        go_roundw
                        case rel => exact ⟨x + 1, rins d acc, by go_num, by omega, hlen2, htk, fun h => absurd (congrArg List.length h) (by rw [hlen2.out]; simp), HownF, HbF⟩
                        case measure => simp [intOf] <;> omega
            · have e470 := (hb00.out.cell (p := ⟨g5, 0, none⟩) hg5).trans d0
              have e471 := (hb00.out.cell (p := ⟨g5, 1, none⟩) hg5).trans d1
              go_simp
              clear e470 e471
              refine hK.out _ _ hb00.out (fun hHeld2 => ?_)
              clear hK K hHeld
              have hHeld := hHeld2
              clear hHeld2
              try simp only [List.getElem_toArray, List.getElem_cons_succ, List.getElem_cons_zero, Act.put, List.setIfInBounds_toArray, List.set_cons_zero, List.set_cons_succ]
              refine wpAnyH_ready (rs := [0, 6]) (by kernel_rfl) (by simp) ?_
              refine AllReadyH.cons (o := _) rfl (fun K hK => ?_) (AllReadyH.cons (o := _) rfl (fun K hK => ?_) (AllReadyH.nil))
              · go_simp
                have HZ474 : Hid ((Wd.alloc (.cells #[] 215)).ownsRow wa.heap.size 215 2 (.slice (some ⟨Wd.heap.size, 0, none⟩) 0 0) 0 []) := World.ownsRow_made Wd #[] 0 hb00.out.size (by unfold maxLen; omega) rfl
                have Hb473 := Lib.hid (hb00.out.alloc hb00.out.size (.cells #[] 215))
                have hz475 : Wd.heap.size < (Wd.alloc (.cells #[] 215)).heap.size := by simp
                generalize Wd.alloc (.cells #[] 215) = W472 at *
                refine hK.out _ _ Hb473.out (fun hHeld2 => ?_)
                clear hK K hHeld
                have hHeld := hHeld2
                clear hHeld2
                try simp only [List.getElem_toArray, List.getElem_cons_succ, List.getElem_cons_zero, Act.put, List.setIfInBounds_toArray, List.set_cons_zero, List.set_cons_succ]
                refine wpAnyH_ready (rs := [4, 6]) (by kernel_rfl) (by simp) ?_
                refine AllReadyH.cons (o := _) rfl (fun K hK => ?_) (AllReadyH.cons (o := _) rfl (fun K hK => ?_) (AllReadyH.nil))
                · refine step_append_any _ rfl (.tmp 30) (.tmp 33) _ rfl wa.heap.size 215 i0 _ 2 32 Tryz.underlying168 Hi0.out Hz0.out Hz1.out Hz2.out rfl (by omega) (.slice (some ⟨Wd.heap.size, 0, none⟩) 0 0) 0 [] rfl HZ474.out W472.heap.size _ 0 _ _ rfl (HR1.out W472 Hb473.out) HC1.out (by unfold maxLen; omega) (by omega) Hb473.out.size ?_
                  intro v476 W477 ho478 hg479 ha480
                  rw [Nat.zero_add, List.nil_append] at ho478
                  have HZ481 := Lib.hid ho478
                  have Hb482 : Hid (Below wa.heap.size wa W477) := Hb473.out.grown hg479 Hb473.out.size (fun g hg => ((HZ474.out.lt g hg).1))
                  clear ho478 hg479 ha480
                  refine hK.out _ _ Hb482.out (fun hHeld2 => ?_)
                  clear hK K hHeld
                  have hHeld := hHeld2
                  clear hHeld2
                  try simp only [List.getElem_toArray, List.getElem_cons_succ, List.getElem_cons_zero, Act.put, List.setIfInBounds_toArray, List.set_cons_zero, List.set_cons_succ]
                  refine wpAnyH_ready (rs := [6]) (by kernel_rfl) (by simp) ?_
                  refine AllReadyH.cons (o := _) rfl (fun K hK => ?_) (AllReadyH.nil)
                  · go_simp
                    have HS485 : Hid (Blk (W477.alloc (.cells #[.string d.name, .string d.value] 215)) W477.heap.size 215 #[.string d.name, .string d.value]) := Blk.new W477 _ _
                    have Hb484 := Lib.hid (Hb482.out.alloc Hb482.out.size (.cells #[.string d.name, .string d.value] 215))
                    have HZ487 := Lib.hid (HZ474.out.alloc (.cells #[.string d.name, .string d.value] 215))
                    have HZ488 := Lib.hid (HZ481.out.alloc (.cells #[.string d.name, .string d.value] 215))
                    have hz486 : W477.heap.size < (W477.alloc (.cells #[.string d.name, .string d.value] 215)).heap.size := by simp
                    generalize W477.alloc (.cells #[.string d.name, .string d.value] 215) = W483 at *
                    refine hK.out _ _ Hb484.out (fun hHeld2 => ?_)
                    clear hK K hHeld
                    have hHeld := hHeld2
                    clear hHeld2
                    try simp only [List.getElem_toArray, List.getElem_cons_succ, List.getElem_cons_zero, Act.put, List.setIfInBounds_toArray, List.set_cons_zero, List.set_cons_succ]
                    refine wpAnyH_ready (rs := [7]) (by kernel_rfl) (by simp) ?_
                    refine AllReadyH.cons (o := _) rfl (fun K hK => ?_) (AllReadyH.nil)
                    · refine step_append_any _ rfl (.tmp 34) (.tmp 36) _ rfl wa.heap.size 215 i0 _ 2 32 Tryz.underlying168 Hi0.out Hz0.out Hz1.out Hz2.out rfl (by omega) v476 0 _ rfl HZ488.out W483.heap.size _ 1 1 (labEnc d) rfl (reads_blk HS485.out 1 2 rfl) (labEnc_oneC d) (by unfold maxLen; omega) (by omega) Hb484.out.size ?_
                      intro v489 W490 ho491 hg492 ha493
                      have HZ494 := Lib.hid ho491
                      have Hb495 : Hid (Below wa.heap.size wa W490) := Hb484.out.grown hg492 Hb484.out.size (fun g hg => ((HZ488.out.lt g hg).1))
                      clear ho491 hg492 ha493
                      refine hK.out _ _ Hb495.out (fun hHeld2 => ?_)
                      clear hK K hHeld
                      have hHeld := hHeld2
                      clear hHeld2
                      try simp only [List.getElem_toArray, List.getElem_cons_succ, List.getElem_cons_zero, Act.put, List.setIfInBounds_toArray, List.set_cons_zero, List.set_cons_succ]
                      refine wpAnyH_ready (rs := [11]) (by kernel_rfl) (by simp) ?_
                      refine AllReadyH.cons (o := _) rfl (fun K hK => ?_) (AllReadyH.nil)
                      · refine step_append_any _ rfl (.tmp 37) (.tmp 40) _ rfl wa.heap.size 215 i0 _ 2 32 Tryz.underlying168 Hi0.out Hz0.out Hz1.out Hz2.out rfl (by omega) v489 (0 + 1) _ rfl HZ494.out W490.heap.size _ 0 _ _ rfl (HRT.out W490 Hb495.out) HC2.out (by unfold maxLen; omega) (by omega) Hb495.out.size ?_
                        intro v496 W497 ho498 hg499 ha500
                        have HZ501 := Lib.hid ho498
                        have Hb502 : Hid (Below wa.heap.size wa W497) := Hb495.out.grown hg499 Hb495.out.size (fun g hg => ((HZ494.out.lt g hg).1))
                        clear ho498 hg499 ha500
                        refine hK.out _ _ Hb502.out (fun hHeld2 => ?_)
                        clear hK K hHeld
                        have hHeld := hHeld2
                        clear hHeld2
                        try simp only [List.getElem_toArray, List.getElem_cons_succ, List.getElem_cons_zero, Act.put, List.setIfInBounds_toArray, List.set_cons_zero, List.set_cons_succ]
                        refine wpAnyH_take (i := 12) (oi := _) (v := ?v12s503) rfl (by kernel_rfl) (by kernel_rfl) (by kernel_rfl) (fun _ _ _ h => h) (Or.inl ⟨by rfl, ?y12s503⟩) (by assumption) ?r12s503
                        case y12s503 => (intro w hSw; (try dsimp only at hSw); go_simp <;> with_reducible rfl)
                        try simp only [List.getElem_toArray, List.getElem_cons_succ, List.getElem_cons_zero, Act.put, List.setIfInBounds_toArray, List.set_cons_zero, List.set_cons_succ]
                        refine wpAnyH_done (by kernel_rfl) ?_ _
                        have HownF := Lib.hid (Hfin2.out _ _ HZ501.out)
                        have HbF := Lib.hid (below_then HbA.out Hb502.out)
                        go_wp2
                        go_roundw
                        case rel => exact ⟨x + 1, rins d acc, by go_num, by omega, hlen2, htk, fun h => absurd (congrArg List.length h) (by rw [hlen2.out]; simp), HownF, HbF⟩
                        case measure => simp [intOf] <;> omega
                · go_simp
                  have HS506 : Hid (Blk (W472.alloc (.cells #[.string d.name, .string d.value] 215)) W472.heap.size 215 #[.string d.name, .string d.value]) := Blk.new W472 _ _
                  have Hb505 := Lib.hid (Hb473.out.alloc Hb473.out.size (.cells #[.string d.name, .string d.value] 215))
                  have HZ508 := Lib.hid (HZ474.out.alloc (.cells #[.string d.name, .string d.value] 215))
                  have hz507 : W472.heap.size < (W472.alloc (.cells #[.string d.name, .string d.value] 215)).heap.size := by simp
                  generalize W472.alloc (.cells #[.string d.name, .string d.value] 215) = W504 at *
                  refine hK.out _ _ Hb505.out (fun hHeld2 => ?_)
                  clear hK K hHeld
                  have hHeld := hHeld2
                  clear hHeld2
                  try simp only [List.getElem_toArray, List.getElem_cons_succ, List.getElem_cons_zero, Act.put, List.setIfInBounds_toArray, List.set_cons_zero, List.set_cons_succ]
                  refine wpAnyH_ready (rs := [4]) (by kernel_rfl) (by simp) ?_
                  refine AllReadyH.cons (o := _) rfl (fun K hK => ?_) (AllReadyH.nil)
                  · refine step_append_any _ rfl (.tmp 30) (.tmp 33) _ rfl wa.heap.size 215 i0 _ 2 32 Tryz.underlying168 Hi0.out Hz0.out Hz1.out Hz2.out rfl (by omega) (.slice (some ⟨Wd.heap.size, 0, none⟩) 0 0) 0 [] rfl HZ508.out W504.heap.size _ 0 _ _ rfl (HR1.out W504 Hb505.out) HC1.out (by unfold maxLen; omega) (by omega) Hb505.out.size ?_
                    intro v509 W510 ho511 hg512 ha513
                    rw [Nat.zero_add, List.nil_append] at ho511
                    have HZ514 := Lib.hid ho511
                    have Hb515 : Hid (Below wa.heap.size wa W510) := Hb505.out.grown hg512 Hb505.out.size (fun g hg => ((HZ508.out.lt g hg).1))
                    have HS516 := Lib.hid (Keeps.blk ((Keeps.refl [Wd.heap.size] W504).grown hg512 (fun g hg => .inl (List.mem_singleton.2 (by injection hg with h; exact h.symm)))) HS506.out (by simp; omega))
                    clear ho511 hg512 ha513
                    refine hK.out _ _ Hb515.out (fun hHeld2 => ?_)
                    clear hK K hHeld
                    have hHeld := hHeld2
                    clear hHeld2
                    try simp only [List.getElem_toArray, List.getElem_cons_succ, List.getElem_cons_zero, Act.put, List.setIfInBounds_toArray, List.set_cons_zero, List.set_cons_succ]
                    refine wpAnyH_ready (rs := [7]) (by kernel_rfl) (by simp) ?_
                    refine AllReadyH.cons (o := _) rfl (fun K hK => ?_) (AllReadyH.nil)
                    · refine step_append_any _ rfl (.tmp 34) (.tmp 36) _ rfl wa.heap.size 215 i0 _ 2 32 Tryz.underlying168 Hi0.out Hz0.out Hz1.out Hz2.out rfl (by omega) v509 0 _ rfl HZ514.out W510.heap.size _ 1 1 (labEnc d) rfl (reads_blk HS516.out 1 2 rfl) (labEnc_oneC d) (by unfold maxLen; omega) (by omega) Hb515.out.size ?_
                      intro v517 W518 ho519 hg520 ha521
                      have HZ522 := Lib.hid ho519
                      have Hb523 : Hid (Below wa.heap.size wa W518) := Hb515.out.grown hg520 Hb515.out.size (fun g hg => ((HZ514.out.lt g hg).1))
                      clear ho519 hg520 ha521
                      refine hK.out _ _ Hb523.out (fun hHeld2 => ?_)
                      clear hK K hHeld
                      have hHeld := hHeld2
                      clear hHeld2
                      try simp only [List.getElem_toArray, List.getElem_cons_succ, List.getElem_cons_zero, Act.put, List.setIfInBounds_toArray, List.set_cons_zero, List.set_cons_succ]
                      refine wpAnyH_ready (rs := [11]) (by kernel_rfl) (by simp) ?_
                      refine AllReadyH.cons (o := _) rfl (fun K hK => ?_) (AllReadyH.nil)
                      · refine step_append_any _ rfl (.tmp 37) (.tmp 40) _ rfl wa.heap.size 215 i0 _ 2 32 Tryz.underlying168 Hi0.out Hz0.out Hz1.out Hz2.out rfl (by omega) v517 (0 + 1) _ rfl HZ522.out W518.heap.size _ 0 _ _ rfl (HRT.out W518 Hb523.out) HC2.out (by unfold maxLen; omega) (by omega) Hb523.out.size ?_
                        intro v524 W525 ho526 hg527 ha528
                        have HZ529 := Lib.hid ho526
                        have Hb530 : Hid (Below wa.heap.size wa W525) := Hb523.out.grown hg527 Hb523.out.size (fun g hg => ((HZ522.out.lt g hg).1))
                        clear ho526 hg527 ha528
                        refine hK.out _ _ Hb530.out (fun hHeld2 => ?_)
                        clear hK K hHeld
                        have hHeld := hHeld2
                        clear hHeld2
                        try simp only [List.getElem_toArray, List.getElem_cons_succ, List.getElem_cons_zero, Act.put, List.setIfInBounds_toArray, List.set_cons_zero, List.set_cons_succ]
                        refine wpAnyH_take (i := 12) (oi := _) (v := ?v12s531) rfl (by kernel_rfl) (by kernel_rfl) (by kernel_rfl) (fun _ _ _ h => h) (Or.inl ⟨by rfl, ?y12s531⟩) (by assumption) ?r12s531
                        case y12s531 => (intro w hSw; (try dsimp only at hSw); go_simp <;> with_reducible rfl)
                        try simp only [List.getElem_toArray, List.getElem_cons_succ, List.getElem_cons_zero, Act.put, List.setIfInBounds_toArray, List.set_cons_zero, List.set_cons_succ]
                        refine wpAnyH_done (by kernel_rfl) ?_ _
                        have HownF := Lib.hid (Hfin2.out _ _ HZ529.out)
                        have HbF := Lib.hid (below_then HbA.out Hb530.out)
                        go_wp2
                        go_roundw
                        case rel => exact ⟨x + 1, rins d acc, by go_num, by omega, hlen2, htk, fun h => absurd (congrArg List.length h) (by rw [hlen2.out]; simp), HownF, HbF⟩
                        case measure => simp [intOf] <;> omega
              · go_simp
                have HS534 : Hid (Blk (Wd.alloc (.cells #[.string d.name, .string d.value] 215)) Wd.heap.size 215 #[.string d.name, .string d.value]) := Blk.new Wd _ _
                have Hb533 := Lib.hid (hb00.out.alloc hb00.out.size (.cells #[.string d.name, .string d.value] 215))
                have hz535 : Wd.heap.size < (Wd.alloc (.cells #[.string d.name, .string d.value] 215)).heap.size := by simp
                generalize Wd.alloc (.cells #[.string d.name, .string d.value] 215) = W532 at *
                refine hK.out _ _ Hb533.out (fun hHeld2 => ?_)
                clear hK K hHeld
                have hHeld := hHeld2
                clear hHeld2
                try simp only [List.getElem_toArray, List.getElem_cons_succ, List.getElem_cons_zero, Act.put, List.setIfInBounds_toArray, List.set_cons_zero, List.set_cons_succ]
                refine wpAnyH_ready (rs := [0]) (by kernel_rfl) (by simp) ?_
                refine AllReadyH.cons (o := _) rfl (fun K hK => ?_) (AllReadyH.nil)
                · go_simp
                  have HZ538 : Hid ((W532.alloc (.cells #[] 215)).ownsRow wa.heap.size 215 2 (.slice (some ⟨W532.heap.size, 0, none⟩) 0 0) 0 []) := World.ownsRow_made W532 #[] 0 Hb533.out.size (by unfold maxLen; omega) rfl
                  have Hb537 := Lib.hid (Hb533.out.alloc Hb533.out.size (.cells #[] 215))
                  have HS540 := Lib.hid (Keeps.blk ((Keeps.refl [] W532).alloc (.cells #[] 215)) HS534.out (by simp))
                  have hlt541 : Wd.heap.size < W532.heap.size := HS534.out.lt
                  have hz539 : W532.heap.size < (W532.alloc (.cells #[] 215)).heap.size := by simp
                  generalize W532.alloc (.cells #[] 215) = W536 at *
                  refine hK.out _ _ Hb537.out (fun hHeld2 => ?_)
                  clear hK K hHeld
                  have hHeld := hHeld2
                  clear hHeld2
                  try simp only [List.getElem_toArray, List.getElem_cons_succ, List.getElem_cons_zero, Act.put, List.setIfInBounds_toArray, List.set_cons_zero, List.set_cons_succ]
                  refine wpAnyH_ready (rs := [4]) (by kernel_rfl) (by simp) ?_
                  refine AllReadyH.cons (o := _) rfl (fun K hK => ?_) (AllReadyH.nil)
                  · refine step_append_any _ rfl (.tmp 30) (.tmp 33) _ rfl wa.heap.size 215 i0 _ 2 32 Tryz.underlying168 Hi0.out Hz0.out Hz1.out Hz2.out rfl (by omega) (.slice (some ⟨W532.heap.size, 0, none⟩) 0 0) 0 [] rfl HZ538.out W536.heap.size _ 0 _ _ rfl (HR1.out W536 Hb537.out) HC1.out (by unfold maxLen; omega) (by omega) Hb537.out.size ?_
                    intro v542 W543 ho544 hg545 ha546
                    rw [Nat.zero_add, List.nil_append] at ho544
                    have HZ547 := Lib.hid ho544
                    have Hb548 : Hid (Below wa.heap.size wa W543) := Hb537.out.grown hg545 Hb537.out.size (fun g hg => ((HZ538.out.lt g hg).1))
                    have HS549 := Lib.hid (Keeps.blk ((Keeps.refl [W532.heap.size] W536).grown hg545 (fun g hg => .inl (List.mem_singleton.2 (by injection hg with h; exact h.symm)))) HS540.out (by simp; omega))
                    clear ho544 hg545 ha546
                    refine hK.out _ _ Hb548.out (fun hHeld2 => ?_)
                    clear hK K hHeld
                    have hHeld := hHeld2
                    clear hHeld2
                    try simp only [List.getElem_toArray, List.getElem_cons_succ, List.getElem_cons_zero, Act.put, List.setIfInBounds_toArray, List.set_cons_zero, List.set_cons_succ]
                    refine wpAnyH_ready (rs := [7]) (by kernel_rfl) (by simp) ?_
                    refine AllReadyH.cons (o := _) rfl (fun K hK => ?_) (AllReadyH.nil)
                    · refine step_append_any _ rfl (.tmp 34) (.tmp 36) _ rfl wa.heap.size 215 i0 _ 2 32 Tryz.underlying168 Hi0.out Hz0.out Hz1.out Hz2.out rfl (by omega) v542 0 _ rfl HZ547.out W543.heap.size _ 1 1 (labEnc d) rfl (reads_blk HS549.out 1 2 rfl) (labEnc_oneC d) (by unfold maxLen; omega) (by omega) Hb548.out.size ?_
                      intro v550 W551 ho552 hg553 ha554
                      have HZ555 := Lib.hid ho552
                      have Hb556 : Hid (Below wa.heap.size wa W551) := Hb548.out.grown hg553 Hb548.out.size (fun g hg => ((HZ547.out.lt g hg).1))
                      clear ho552 hg553 ha554
                      refine hK.out _ _ Hb556.out (fun hHeld2 => ?_)
                      clear hK K hHeld
                      have hHeld := hHeld2
                      clear hHeld2
                      try simp only [List.getElem_toArray, List.getElem_cons_succ, List.getElem_cons_zero, Act.put, List.setIfInBounds_toArray, List.set_cons_zero, List.set_cons_succ]
                      refine wpAnyH_ready (rs := [11]) (by kernel_rfl) (by simp) ?_
                      refine AllReadyH.cons (o := _) rfl (fun K hK => ?_) (AllReadyH.nil)
                      · refine step_append_any _ rfl (.tmp 37) (.tmp 40) _ rfl wa.heap.size 215 i0 _ 2 32 Tryz.underlying168 Hi0.out Hz0.out Hz1.out Hz2.out rfl (by omega) v550 (0 + 1) _ rfl HZ555.out W551.heap.size _ 0 _ _ rfl (HRT.out W551 Hb556.out) HC2.out (by unfold maxLen; omega) (by omega) Hb556.out.size ?_
                        intro v557 W558 ho559 hg560 ha561
                        have HZ562 := Lib.hid ho559
                        have Hb563 : Hid (Below wa.heap.size wa W558) := Hb556.out.grown hg560 Hb556.out.size (fun g hg => ((HZ555.out.lt g hg).1))
                        clear ho559 hg560 ha561
                        refine hK.out _ _ Hb563.out (fun hHeld2 => ?_)
                        clear hK K hHeld
                        have hHeld := hHeld2
                        clear hHeld2
                        try simp only [List.getElem_toArray, List.getElem_cons_succ, List.getElem_cons_zero, Act.put, List.setIfInBounds_toArray, List.set_cons_zero, List.set_cons_succ]
                        refine wpAnyH_take (i := 12) (oi := _) (v := ?v12s564) rfl (by kernel_rfl) (by kernel_rfl) (by kernel_rfl) (fun _ _ _ h => h) (Or.inl ⟨by rfl, ?y12s564⟩) (by assumption) ?r12s564
                        case y12s564 => (intro w hSw; (try dsimp only at hSw); go_simp <;> with_reducible rfl)
                        try simp only [List.getElem_toArray, List.getElem_cons_succ, List.getElem_cons_zero, Act.put, List.setIfInBounds_toArray, List.set_cons_zero, List.set_cons_succ]
                        refine wpAnyH_done (by kernel_rfl) ?_ _
                        have HownF := Lib.hid (Hfin2.out _ _ HZ562.out)
                        have HbF := Lib.hid (below_then HbA.out Hb563.out)
                        go_wp2
                        go_roundw
                        case rel => exact ⟨x + 1, rins d acc, by go_num, by omega, hlen2, htk, fun h => absurd (congrArg List.length h) (by rw [hlen2.out]; simp), HownF, HbF⟩
                        case measure => simp [intOf] <;> omega
          · obtain ⟨g, rfl⟩ := HAs.out hz
            have hap : 0 < acc.length := List.length_pos_iff.2 hz
            have hcy : ¬ co = 0 := by omega
            have HRT : Hid (∀ W, Below wa.heap.size wa W → Reads W W.heap.size 2 (some ⟨g, 0, none⟩) acc.length ((acc.drop 0).flatMap labEnc)) := fun W hb => by
              have := HR2.out W hb
              rwa [if_neg hcy, Option.map_some, addr_add] at this
            clear HR2 hz
            refine wp_region_held_drew (S := (fun W => Below wa.heap.size wa W)) (by kernel_rfl) (HbI.out _) (fun hHeld => ?_)
            refine wpAnyH_take (i := 1) (oi := _) (v := ?v1q565) rfl (by kernel_rfl) (by kernel_rfl) (by kernel_rfl) (fun _ _ _ h => h) (Or.inl ⟨by rfl, ?y1q565⟩) (by assumption) ?r1q565
            case y1q565 => (intro w hSw; (try dsimp only at hSw); go_simp <;> with_reducible rfl)
            try simp only [List.getElem_toArray, List.getElem_cons_succ, List.getElem_cons_zero, Act.put, List.setIfInBounds_toArray, List.set_cons_zero, List.set_cons_succ]
            refine wpAnyH_take (i := 2) (oi := _) (v := ?v2q565) rfl (by kernel_rfl) (by kernel_rfl) (by kernel_rfl) (fun _ _ _ h => h) (Or.inl ⟨by rfl, ?y2q565⟩) (by assumption) ?r2q565
            case y2q565 => (intro w hSw; (try dsimp only at hSw); go_simp <;> with_reducible rfl)
            try simp only [List.getElem_toArray, List.getElem_cons_succ, List.getElem_cons_zero, Act.put, List.setIfInBounds_toArray, List.set_cons_zero, List.set_cons_succ]
            refine wpAnyH_take (i := 3) (oi := _) (v := ?v3q565) rfl (by kernel_rfl) (by kernel_rfl) (by kernel_rfl) (fun _ _ _ h => h) (Or.inl ⟨by rfl, ?y3q565⟩) (by assumption) ?r3q565
            case y3q565 => (intro w hSw; (try dsimp only at hSw); go_simp <;> with_reducible rfl)
            try simp only [List.getElem_toArray, List.getElem_cons_succ, List.getElem_cons_zero, Act.put, List.setIfInBounds_toArray, List.set_cons_zero, List.set_cons_succ]
            refine wpAnyH_take (i := 8) (oi := _) (v := ?v8q565) rfl (by kernel_rfl) (by kernel_rfl) (by kernel_rfl) (fun _ _ _ h => h) (Or.inl ⟨by rfl, ?y8q565⟩) (by assumption) ?r8q565
            case y8q565 => (intro w hSw; (try dsimp only at hSw); go_simp <;> with_reducible rfl)
            try simp only [List.getElem_toArray, List.getElem_cons_succ, List.getElem_cons_zero, Act.put, List.setIfInBounds_toArray, List.set_cons_zero, List.set_cons_succ]
            refine wpAnyH_take (i := 9) (oi := _) (v := ?v9q565) rfl (by kernel_rfl) (by kernel_rfl) (by kernel_rfl) (fun _ _ _ h => h) (Or.inl ⟨by rfl, ?y9q565⟩) (by assumption) ?r9q565
            case y9q565 => (intro w hSw; (try dsimp only at hSw); go_simp <;> with_reducible rfl)
            try simp only [List.getElem_toArray, List.getElem_cons_succ, List.getElem_cons_zero, Act.put, List.setIfInBounds_toArray, List.set_cons_zero, List.set_cons_succ]
            refine wpAnyH_take (i := 10) (oi := _) (v := ?v10q565) rfl (by kernel_rfl) (by kernel_rfl) (by kernel_rfl) (fun _ _ _ h => h) (Or.inl ⟨by rfl, ?y10q565⟩) (by assumption) ?r10q565
            case y10q565 => (intro w hSw; (try dsimp only at hSw); go_simp <;> with_reducible rfl)
            try simp only [List.getElem_toArray, List.getElem_cons_succ, List.getElem_cons_zero, Act.put, List.setIfInBounds_toArray, List.set_cons_zero, List.set_cons_succ]
            have hb00 := Lib.hid hHeld
            generalize ((wa.drewN q).drewN _).drew = Wd at *
            refine wpAnyH_ready (rs := [0, 5]) (by kernel_rfl) (by simp) ?_
            refine AllReadyH.cons (o := _) rfl (fun K hK => ?_) (AllReadyH.cons (o := _) rfl (fun K hK => ?_) (AllReadyH.nil))
            · go_simp
              have HZ568 : Hid ((Wd.alloc (.cells #[] 215)).ownsRow wa.heap.size 215 2 (.slice (some ⟨Wd.heap.size, 0, none⟩) 0 0) 0 []) := World.ownsRow_made Wd #[] 0 hb00.out.size (by unfold maxLen; omega) rfl
              have Hb567 := Lib.hid (hb00.out.alloc hb00.out.size (.cells #[] 215))
              have hz569 : Wd.heap.size < (Wd.alloc (.cells #[] 215)).heap.size := by simp
              generalize Wd.alloc (.cells #[] 215) = W566 at *
              refine hK.out _ _ Hb567.out (fun hHeld2 => ?_)
              clear hK K hHeld
              have hHeld := hHeld2
              clear hHeld2
              try simp only [List.getElem_toArray, List.getElem_cons_succ, List.getElem_cons_zero, Act.put, List.setIfInBounds_toArray, List.set_cons_zero, List.set_cons_succ]
              refine wpAnyH_ready (rs := [4, 5]) (by kernel_rfl) (by simp) ?_
              refine AllReadyH.cons (o := _) rfl (fun K hK => ?_) (AllReadyH.cons (o := _) rfl (fun K hK => ?_) (AllReadyH.nil))
              · refine step_append_any _ rfl (.tmp 30) (.tmp 33) _ rfl wa.heap.size 215 i0 _ 2 32 Tryz.underlying168 Hi0.out Hz0.out Hz1.out Hz2.out rfl (by omega) (.slice (some ⟨Wd.heap.size, 0, none⟩) 0 0) 0 [] rfl HZ568.out W566.heap.size _ 0 _ _ rfl (HR1.out W566 Hb567.out) HC1.out (by unfold maxLen; omega) (by omega) Hb567.out.size ?_
                intro v570 W571 ho572 hg573 ha574
                rw [Nat.zero_add, List.nil_append] at ho572
                have HZ575 := Lib.hid ho572
                have Hb576 : Hid (Below wa.heap.size wa W571) := Hb567.out.grown hg573 Hb567.out.size (fun g hg => ((HZ568.out.lt g hg).1))
                clear ho572 hg573 ha574
                refine hK.out _ _ Hb576.out (fun hHeld2 => ?_)
                clear hK K hHeld
                have hHeld := hHeld2
                clear hHeld2
                try simp only [List.getElem_toArray, List.getElem_cons_succ, List.getElem_cons_zero, Act.put, List.setIfInBounds_toArray, List.set_cons_zero, List.set_cons_succ]
                refine wpAnyH_ready (rs := [5]) (by kernel_rfl) (by simp) ?_
                refine AllReadyH.cons (o := _) rfl (fun K hK => ?_) (AllReadyH.nil)
                · have e577 := (Hb576.out.cell (p := ⟨g5, 0, none⟩) hg5).trans d0
                  have e578 := (Hb576.out.cell (p := ⟨g5, 1, none⟩) hg5).trans d1
                  go_simp
                  clear e577 e578
                  refine hK.out _ _ Hb576.out (fun hHeld2 => ?_)
                  clear hK K hHeld
                  have hHeld := hHeld2
                  clear hHeld2
                  try simp only [List.getElem_toArray, List.getElem_cons_succ, List.getElem_cons_zero, Act.put, List.setIfInBounds_toArray, List.set_cons_zero, List.set_cons_succ]
                  refine wpAnyH_ready (rs := [6]) (by kernel_rfl) (by simp) ?_
                  refine AllReadyH.cons (o := _) rfl (fun K hK => ?_) (AllReadyH.nil)
                  · go_simp
                    have HS581 : Hid (Blk (W571.alloc (.cells #[.string d.name, .string d.value] 215)) W571.heap.size 215 #[.string d.name, .string d.value]) := Blk.new W571 _ _
                    have Hb580 := Lib.hid (Hb576.out.alloc Hb576.out.size (.cells #[.string d.name, .string d.value] 215))
                    have HZ583 := Lib.hid (HZ568.out.alloc (.cells #[.string d.name, .string d.value] 215))
                    have HZ584 := Lib.hid (HZ575.out.alloc (.cells #[.string d.name, .string d.value] 215))
                    have hz582 : W571.heap.size < (W571.alloc (.cells #[.string d.name, .string d.value] 215)).heap.size := by simp
                    generalize W571.alloc (.cells #[.string d.name, .string d.value] 215) = W579 at *
                    refine hK.out _ _ Hb580.out (fun hHeld2 => ?_)
                    clear hK K hHeld
                    have hHeld := hHeld2
                    clear hHeld2
                    try simp only [List.getElem_toArray, List.getElem_cons_succ, List.getElem_cons_zero, Act.put, List.setIfInBounds_toArray, List.set_cons_zero, List.set_cons_succ]
                    refine wpAnyH_ready (rs := [7]) (by kernel_rfl) (by simp) ?_
                    refine AllReadyH.cons (o := _) rfl (fun K hK => ?_) (AllReadyH.nil)
                    · refine step_append_any _ rfl (.tmp 34) (.tmp 36) _ rfl wa.heap.size 215 i0 _ 2 32 Tryz.underlying168 Hi0.out Hz0.out Hz1.out Hz2.out rfl (by omega) v570 0 _ rfl HZ584.out W579.heap.size _ 1 1 (labEnc d) rfl (reads_blk HS581.out 1 2 rfl) (labEnc_oneC d) (by unfold maxLen; omega) (by omega) Hb580.out.size ?_
                      intro v585 W586 ho587 hg588 ha589
                      have HZ590 := Lib.hid ho587
                      have Hb591 : Hid (Below wa.heap.size wa W586) := Hb580.out.grown hg588 Hb580.out.size (fun g hg => ((HZ584.out.lt g hg).1))
                      clear ho587 hg588 ha589
                      refine hK.out _ _ Hb591.out (fun hHeld2 => ?_)
                      clear hK K hHeld
                      have hHeld := hHeld2
                      clear hHeld2
                      try simp only [List.getElem_toArray, List.getElem_cons_succ, List.getElem_cons_zero, Act.put, List.setIfInBounds_toArray, List.set_cons_zero, List.set_cons_succ]
                      refine wpAnyH_ready (rs := [11]) (by kernel_rfl) (by simp) ?_
                      refine AllReadyH.cons (o := _) rfl (fun K hK => ?_) (AllReadyH.nil)
                      · refine step_append_any _ rfl (.tmp 37) (.tmp 40) _ rfl wa.heap.size 215 i0 _ 2 32 Tryz.underlying168 Hi0.out Hz0.out Hz1.out Hz2.out rfl (by omega) v585 (0 + 1) _ rfl HZ590.out W586.heap.size _ acc.length _ _ rfl (HRT.out W586 Hb591.out) HC2.out (by unfold maxLen; omega) (by omega) Hb591.out.size ?_
                        intro v592 W593 ho594 hg595 ha596
                        have HZ597 := Lib.hid ho594
                        have Hb598 : Hid (Below wa.heap.size wa W593) := Hb591.out.grown hg595 Hb591.out.size (fun g hg => ((HZ590.out.lt g hg).1))
                        clear ho594 hg595 ha596
                        refine hK.out _ _ Hb598.out (fun hHeld2 => ?_)
                        clear hK K hHeld
                        have hHeld := hHeld2
                        clear hHeld2
                        try simp only [List.getElem_toArray, List.getElem_cons_succ, List.getElem_cons_zero, Act.put, List.setIfInBounds_toArray, List.set_cons_zero, List.set_cons_succ]
                        refine wpAnyH_take (i := 12) (oi := _) (v := ?v12s599) rfl (by kernel_rfl) (by kernel_rfl) (by kernel_rfl) (fun _ _ _ h => h) (Or.inl ⟨by rfl, ?y12s599⟩) (by assumption) ?r12s599
                        case y12s599 => (intro w hSw; (try dsimp only at hSw); go_simp <;> with_reducible rfl)
                        try simp only [List.getElem_toArray, List.getElem_cons_succ, List.getElem_cons_zero, Act.put, List.setIfInBounds_toArray, List.set_cons_zero, List.set_cons_succ]
                        refine wpAnyH_done (by kernel_rfl) ?_ _
                        have HownF := Lib.hid (Hfin2.out _ _ HZ597.out)
                        have HbF := Lib.hid (below_then HbA.out Hb598.out)
                        go_wp2
                        go_roundw
                        case rel => exact ⟨x + 1, rins d acc, by go_num, by omega, hlen2, htk, fun h => absurd (congrArg List.length h) (by rw [hlen2.out]; simp), HownF, HbF⟩
                        case measure => simp [intOf] <;> omega
              · have e600 := (Hb567.out.cell (p := ⟨g5, 0, none⟩) hg5).trans d0
                have e601 := (Hb567.out.cell (p := ⟨g5, 1, none⟩) hg5).trans d1
                go_simp
                clear e600 e601
                refine hK.out _ _ Hb567.out (fun hHeld2 => ?_)
                clear hK K hHeld
                have hHeld := hHeld2
                clear hHeld2
                try simp only [List.getElem_toArray, List.getElem_cons_succ, List.getElem_cons_zero, Act.put, List.setIfInBounds_toArray, List.set_cons_zero, List.set_cons_succ]
                refine wpAnyH_ready (rs := [4, 6]) (by kernel_rfl) (by simp) ?_
                refine AllReadyH.cons (o := _) rfl (fun K hK => ?_) (AllReadyH.cons (o := _) rfl (fun K hK => ?_) (AllReadyH.nil))
                · refine step_append_any _ rfl (.tmp 30) (.tmp 33) _ rfl wa.heap.size 215 i0 _ 2 32 Tryz.underlying168 Hi0.out Hz0.out Hz1.out Hz2.out rfl (by omega) (.slice (some ⟨Wd.heap.size, 0, none⟩) 0 0) 0 [] rfl HZ568.out W566.heap.size _ 0 _ _ rfl (HR1.out W566 Hb567.out) HC1.out (by unfold maxLen; omega) (by omega) Hb567.out.size ?_
                  intro v602 W603 ho604 hg605 ha606
                  rw [Nat.zero_add, List.nil_append] at ho604
                  have HZ607 := Lib.hid ho604
                  have Hb608 : Hid (Below wa.heap.size wa W603) := Hb567.out.grown hg605 Hb567.out.size (fun g hg => ((HZ568.out.lt g hg).1))
                  clear ho604 hg605 ha606
                  refine hK.out _ _ Hb608.out (fun hHeld2 => ?_)
                  clear hK K hHeld
                  have hHeld := hHeld2
                  clear hHeld2
                  try simp only [List.getElem_toArray, List.getElem_cons_succ, List.getElem_cons_zero, Act.put, List.setIfInBounds_toArray, List.set_cons_zero, List.set_cons_succ]
                  refine wpAnyH_ready (rs := [6]) (by kernel_rfl) (by simp) ?_
                  refine AllReadyH.cons (o := _) rfl (fun K hK => ?_) (AllReadyH.nil)
                  · go_simp
                    have HS611 : Hid (Blk (W603.alloc (.cells #[.string d.name, .string d.value] 215)) W603.heap.size 215 #[.string d.name, .string d.value]) := Blk.new W603 _ _
                    have Hb610 := Lib.hid (Hb608.out.alloc Hb608.out.size (.cells #[.string d.name, .string d.value] 215))
                    have HZ613 := Lib.hid (HZ568.out.alloc (.cells #[.string d.name, .string d.value] 215))
                    have HZ614 := Lib.hid (HZ607.out.alloc (.cells #[.string d.name, .string d.value] 215))
                    have hz612 : W603.heap.size < (W603.alloc (.cells #[.string d.name, .string d.value] 215)).heap.size := by simp
                    generalize W603.alloc (.cells #[.string d.name, .string d.value] 215) = W609 at *
                    refine hK.out _ _ Hb610.out (fun hHeld2 => ?_)
                    clear hK K hHeld
                    have hHeld := hHeld2
                    clear hHeld2
                    try simp only [List.getElem_toArray, List.getElem_cons_succ, List.getElem_cons_zero, Act.put, List.setIfInBounds_toArray, List.set_cons_zero, List.set_cons_succ]
                    refine wpAnyH_ready (rs := [7]) (by kernel_rfl) (by simp) ?_
                    refine AllReadyH.cons (o := _) rfl (fun K hK => ?_) (AllReadyH.nil)
                    · refine step_append_any _ rfl (.tmp 34) (.tmp 36) _ rfl wa.heap.size 215 i0 _ 2 32 Tryz.underlying168 Hi0.out Hz0.out Hz1.out Hz2.out rfl (by omega) v602 0 _ rfl HZ614.out W609.heap.size _ 1 1 (labEnc d) rfl (reads_blk HS611.out 1 2 rfl) (labEnc_oneC d) (by unfold maxLen; omega) (by omega) Hb610.out.size ?_
                      intro v615 W616 ho617 hg618 ha619
                      have HZ620 := Lib.hid ho617
                      have Hb621 : Hid (Below wa.heap.size wa W616) := Hb610.out.grown hg618 Hb610.out.size (fun g hg => ((HZ614.out.lt g hg).1))
                      clear ho617 hg618 ha619
                      refine hK.out _ _ Hb621.out (fun hHeld2 => ?_)
                      clear hK K hHeld
                      have hHeld := hHeld2
                      clear hHeld2
                      try simp only [List.getElem_toArray, List.getElem_cons_succ, List.getElem_cons_zero, Act.put, List.setIfInBounds_toArray, List.set_cons_zero, List.set_cons_succ]
                      refine wpAnyH_ready (rs := [11]) (by kernel_rfl) (by simp) ?_
                      refine AllReadyH.cons (o := _) rfl (fun K hK => ?_) (AllReadyH.nil)
                      · refine step_append_any _ rfl (.tmp 37) (.tmp 40) _ rfl wa.heap.size 215 i0 _ 2 32 Tryz.underlying168 Hi0.out Hz0.out Hz1.out Hz2.out rfl (by omega) v615 (0 + 1) _ rfl HZ620.out W616.heap.size _ acc.length _ _ rfl (HRT.out W616 Hb621.out) HC2.out (by unfold maxLen; omega) (by omega) Hb621.out.size ?_
                        intro v622 W623 ho624 hg625 ha626
                        have HZ627 := Lib.hid ho624
                        have Hb628 : Hid (Below wa.heap.size wa W623) := Hb621.out.grown hg625 Hb621.out.size (fun g hg => ((HZ620.out.lt g hg).1))
                        clear ho624 hg625 ha626
                        refine hK.out _ _ Hb628.out (fun hHeld2 => ?_)
                        clear hK K hHeld
                        have hHeld := hHeld2
                        clear hHeld2
                        try simp only [List.getElem_toArray, List.getElem_cons_succ, List.getElem_cons_zero, Act.put, List.setIfInBounds_toArray, List.set_cons_zero, List.set_cons_succ]
                        refine wpAnyH_take (i := 12) (oi := _) (v := ?v12s629) rfl (by kernel_rfl) (by kernel_rfl) (by kernel_rfl) (fun _ _ _ h => h) (Or.inl ⟨by rfl, ?y12s629⟩) (by assumption) ?r12s629
                        case y12s629 => (intro w hSw; (try dsimp only at hSw); go_simp <;> with_reducible rfl)
                        try simp only [List.getElem_toArray, List.getElem_cons_succ, List.getElem_cons_zero, Act.put, List.setIfInBounds_toArray, List.set_cons_zero, List.set_cons_succ]
                        refine wpAnyH_done (by kernel_rfl) ?_ _
                        have HownF := Lib.hid (Hfin2.out _ _ HZ627.out)
                        have HbF := Lib.hid (below_then HbA.out Hb628.out)
                        go_wp2
                        go_roundw
                        case rel => exact ⟨x + 1, rins d acc, by go_num, by omega, hlen2, htk, fun h => absurd (congrArg List.length h) (by rw [hlen2.out]; simp), HownF, HbF⟩
                        case measure => simp [intOf] <;> omega
                · go_simp
                  have HS632 : Hid (Blk (W566.alloc (.cells #[.string d.name, .string d.value] 215)) W566.heap.size 215 #[.string d.name, .string d.value]) := Blk.new W566 _ _
                  have Hb631 := Lib.hid (Hb567.out.alloc Hb567.out.size (.cells #[.string d.name, .string d.value] 215))
                  have HZ634 := Lib.hid (HZ568.out.alloc (.cells #[.string d.name, .string d.value] 215))
                  have hz633 : W566.heap.size < (W566.alloc (.cells #[.string d.name, .string d.value] 215)).heap.size := by simp
                  generalize W566.alloc (.cells #[.string d.name, .string d.value] 215) = W630 at *
                  refine hK.out _ _ Hb631.out (fun hHeld2 => ?_)
                  clear hK K hHeld
                  have hHeld := hHeld2
                  clear hHeld2
                  try simp only [List.getElem_toArray, List.getElem_cons_succ, List.getElem_cons_zero, Act.put, List.setIfInBounds_toArray, List.set_cons_zero, List.set_cons_succ]
                  refine wpAnyH_ready (rs := [4]) (by kernel_rfl) (by simp) ?_
                  refine AllReadyH.cons (o := _) rfl (fun K hK => ?_) (AllReadyH.nil)
                  · refine step_append_any _ rfl (.tmp 30) (.tmp 33) _ rfl wa.heap.size 215 i0 _ 2 32 Tryz.underlying168 Hi0.out Hz0.out Hz1.out Hz2.out rfl (by omega) (.slice (some ⟨Wd.heap.size, 0, none⟩) 0 0) 0 [] rfl HZ634.out W630.heap.size _ 0 _ _ rfl (HR1.out W630 Hb631.out) HC1.out (by unfold maxLen; omega) (by omega) Hb631.out.size ?_
                    intro v635 W636 ho637 hg638 ha639
                    rw [Nat.zero_add, List.nil_append] at ho637
                    have HZ640 := Lib.hid ho637
                    have Hb641 : Hid (Below wa.heap.size wa W636) := Hb631.out.grown hg638 Hb631.out.size (fun g hg => ((HZ634.out.lt g hg).1))
                    have HS642 := Lib.hid (Keeps.blk ((Keeps.refl [Wd.heap.size] W630).grown hg638 (fun g hg => .inl (List.mem_singleton.2 (by injection hg with h; exact h.symm)))) HS632.out (by simp; omega))
                    clear ho637 hg638 ha639
                    refine hK.out _ _ Hb641.out (fun hHeld2 => ?_)
                    clear hK K hHeld
                    have hHeld := hHeld2
                    clear hHeld2
                    try simp only [List.getElem_toArray, List.getElem_cons_succ, List.getElem_cons_zero, Act.put, List.setIfInBounds_toArray, List.set_cons_zero, List.set_cons_succ]
                    refine wpAnyH_ready (rs := [7]) (by kernel_rfl) (by simp) ?_
                    refine AllReadyH.cons (o := _) rfl (fun K hK => ?_) (AllReadyH.nil)
                    · refine step_append_any _ rfl (.tmp 34) (.tmp 36) _ rfl wa.heap.size 215 i0 _ 2 32 Tryz.underlying168 Hi0.out Hz0.out Hz1.out Hz2.out rfl (by omega) v635 0 _ rfl HZ640.out W636.heap.size _ 1 1 (labEnc d) rfl (reads_blk HS642.out 1 2 rfl) (labEnc_oneC d) (by unfold maxLen; omega) (by omega) Hb641.out.size ?_
                      intro v643 W644 ho645 hg646 ha647
                      have HZ648 := Lib.hid ho645
                      have Hb649 : Hid (Below wa.heap.size wa W644) := Hb641.out.grown hg646 Hb641.out.size (fun g hg => ((HZ640.out.lt g hg).1))
                      clear ho645 hg646 ha647
                      refine hK.out _ _ Hb649.out (fun hHeld2 => ?_)
                      clear hK K hHeld
                      have hHeld := hHeld2
                      clear hHeld2
                      try simp only [List.getElem_toArray, List.getElem_cons_succ, List.getElem_cons_zero, Act.put, List.setIfInBounds_toArray, List.set_cons_zero, List.set_cons_succ]
                      refine wpAnyH_ready (rs := [11]) (by kernel_rfl) (by simp) ?_
                      refine AllReadyH.cons (o := _) rfl (fun K hK => ?_) (AllReadyH.nil)
                      · refine step_append_any _ rfl (.tmp 37) (.tmp 40) _ rfl wa.heap.size 215 i0 _ 2 32 Tryz.underlying168 Hi0.out Hz0.out Hz1.out Hz2.out rfl (by omega) v643 (0 + 1) _ rfl HZ648.out W644.heap.size _ acc.length _ _ rfl (HRT.out W644 Hb649.out) HC2.out (by unfold maxLen; omega) (by omega) Hb649.out.size ?_
                        intro v650 W651 ho652 hg653 ha654
                        have HZ655 := Lib.hid ho652
                        have Hb656 : Hid (Below wa.heap.size wa W651) := Hb649.out.grown hg653 Hb649.out.size (fun g hg => ((HZ648.out.lt g hg).1))
                        clear ho652 hg653 ha654
                        refine hK.out _ _ Hb656.out (fun hHeld2 => ?_)
                        clear hK K hHeld
                        have hHeld := hHeld2
                        clear hHeld2
                        try simp only [List.getElem_toArray, List.getElem_cons_succ, List.getElem_cons_zero, Act.put, List.setIfInBounds_toArray, List.set_cons_zero, List.set_cons_succ]
                        refine wpAnyH_take (i := 12) (oi := _) (v := ?v12s657) rfl (by kernel_rfl) (by kernel_rfl) (by kernel_rfl) (fun _ _ _ h => h) (Or.inl ⟨by rfl, ?y12s657⟩) (by assumption) ?r12s657
                        case y12s657 => (intro w hSw; (try dsimp only at hSw); go_simp <;> with_reducible rfl)
                        try simp only [List.getElem_toArray, List.getElem_cons_succ, List.getElem_cons_zero, Act.put, List.setIfInBounds_toArray, List.set_cons_zero, List.set_cons_succ]
                        refine wpAnyH_done (by kernel_rfl) ?_ _
                        have HownF := Lib.hid (Hfin2.out _ _ HZ655.out)
                        have HbF := Lib.hid (below_then HbA.out Hb656.out)
                        go_wp2
                        go_roundw
                        case rel => exact ⟨x + 1, rins d acc, by go_num, by omega, hlen2, htk, fun h => absurd (congrArg List.length h) (by rw [hlen2.out]; simp), HownF, HbF⟩
                        case measure => simp [intOf] <;> omega
            · have e658 := (hb00.out.cell (p := ⟨g5, 0, none⟩) hg5).trans d0
              have e659 := (hb00.out.cell (p := ⟨g5, 1, none⟩) hg5).trans d1
              go_simp
              clear e658 e659
              refine hK.out _ _ hb00.out (fun hHeld2 => ?_)
              clear hK K hHeld
              have hHeld := hHeld2
              clear hHeld2
              try simp only [List.getElem_toArray, List.getElem_cons_succ, List.getElem_cons_zero, Act.put, List.setIfInBounds_toArray, List.set_cons_zero, List.set_cons_succ]
              refine wpAnyH_ready (rs := [0, 6]) (by kernel_rfl) (by simp) ?_
              refine AllReadyH.cons (o := _) rfl (fun K hK => ?_) (AllReadyH.cons (o := _) rfl (fun K hK => ?_) (AllReadyH.nil))
              · go_simp
                have HZ662 : Hid ((Wd.alloc (.cells #[] 215)).ownsRow wa.heap.size 215 2 (.slice (some ⟨Wd.heap.size, 0, none⟩) 0 0) 0 []) := World.ownsRow_made Wd #[] 0 hb00.out.size (by unfold maxLen; omega) rfl
                have Hb661 := Lib.hid (hb00.out.alloc hb00.out.size (.cells #[] 215))
                have hz663 : Wd.heap.size < (Wd.alloc (.cells #[] 215)).heap.size := by simp
                generalize Wd.alloc (.cells #[] 215) = W660 at *
                refine hK.out _ _ Hb661.out (fun hHeld2 => ?_)
                clear hK K hHeld
                have hHeld := hHeld2
                clear hHeld2
                try simp only [List.getElem_toArray, List.getElem_cons_succ, List.getElem_cons_zero, Act.put, List.setIfInBounds_toArray, List.set_cons_zero, List.set_cons_succ]
                refine wpAnyH_ready (rs := [4, 6]) (by kernel_rfl) (by simp) ?_
                refine AllReadyH.cons (o := _) rfl (fun K hK => ?_) (AllReadyH.cons (o := _) rfl (fun K hK => ?_) (AllReadyH.nil))
                · refine step_append_any _ rfl (.tmp 30) (.tmp 33) _ rfl wa.heap.size 215 i0 _ 2 32 Tryz.underlying168 Hi0.out Hz0.out Hz1.out Hz2.out rfl (by omega) (.slice (some ⟨Wd.heap.size, 0, none⟩) 0 0) 0 [] rfl HZ662.out W660.heap.size _ 0 _ _ rfl (HR1.out W660 Hb661.out) HC1.out (by unfold maxLen; omega) (by omega) Hb661.out.size ?_
                  intro v664 W665 ho666 hg667 ha668
                  rw [Nat.zero_add, List.nil_append] at ho666
                  have HZ669 := Lib.hid ho666
                  have Hb670 : Hid (Below wa.heap.size wa W665) := Hb661.out.grown hg667 Hb661.out.size (fun g hg => ((HZ662.out.lt g hg).1))
                  clear ho666 hg667 ha668
                  refine hK.out _ _ Hb670.out (fun hHeld2 => ?_)
                  clear hK K hHeld
                  have hHeld := hHeld2
                  clear hHeld2
                  try simp only [List.getElem_toArray, List.getElem_cons_succ, List.getElem_cons_zero, Act.put, List.setIfInBounds_toArray, List.set_cons_zero, List.set_cons_succ]
                  refine wpAnyH_ready (rs := [6]) (by kernel_rfl) (by simp) ?_
                  refine AllReadyH.cons (o := _) rfl (fun K hK => ?_) (AllReadyH.nil)
                  · go_simp
                    have HS673 : Hid (Blk (W665.alloc (.cells #[.string d.name, .string d.value] 215)) W665.heap.size 215 #[.string d.name, .string d.value]) := Blk.new W665 _ _
                    have Hb672 := Lib.hid (Hb670.out.alloc Hb670.out.size (.cells #[.string d.name, .string d.value] 215))
                    have HZ675 := Lib.hid (HZ662.out.alloc (.cells #[.string d.name, .string d.value] 215))
                    have HZ676 := Lib.hid (HZ669.out.alloc (.cells #[.string d.name, .string d.value] 215))
                    have hz674 : W665.heap.size < (W665.alloc (.cells #[.string d.name, .string d.value] 215)).heap.size := by simp
                    generalize W665.alloc (.cells #[.string d.name, .string d.value] 215) = W671 at *
                    refine hK.out _ _ Hb672.out (fun hHeld2 => ?_)
                    clear hK K hHeld
                    have hHeld := hHeld2
                    clear hHeld2
                    try simp only [List.getElem_toArray, List.getElem_cons_succ, List.getElem_cons_zero, Act.put, List.setIfInBounds_toArray, List.set_cons_zero, List.set_cons_succ]
                    refine wpAnyH_ready (rs := [7]) (by kernel_rfl) (by simp) ?_
                    refine AllReadyH.cons (o := _) rfl (fun K hK => ?_) (AllReadyH.nil)
                    · refine step_append_any _ rfl (.tmp 34) (.tmp 36) _ rfl wa.heap.size 215 i0 _ 2 32 Tryz.underlying168 Hi0.out Hz0.out Hz1.out Hz2.out rfl (by omega) v664 0 _ rfl HZ676.out W671.heap.size _ 1 1 (labEnc d) rfl (reads_blk HS673.out 1 2 rfl) (labEnc_oneC d) (by unfold maxLen; omega) (by omega) Hb672.out.size ?_
                      intro v677 W678 ho679 hg680 ha681
                      have HZ682 := Lib.hid ho679
                      have Hb683 : Hid (Below wa.heap.size wa W678) := Hb672.out.grown hg680 Hb672.out.size (fun g hg => ((HZ676.out.lt g hg).1))
                      clear ho679 hg680 ha681
                      refine hK.out _ _ Hb683.out (fun hHeld2 => ?_)
                      clear hK K hHeld
                      have hHeld := hHeld2
                      clear hHeld2
                      try simp only [List.getElem_toArray, List.getElem_cons_succ, List.getElem_cons_zero, Act.put, List.setIfInBounds_toArray, List.set_cons_zero, List.set_cons_succ]
                      refine wpAnyH_ready (rs := [11]) (by kernel_rfl) (by simp) ?_
                      refine AllReadyH.cons (o := _) rfl (fun K hK => ?_) (AllReadyH.nil)
                      · refine step_append_any _ rfl (.tmp 37) (.tmp 40) _ rfl wa.heap.size 215 i0 _ 2 32 Tryz.underlying168 Hi0.out Hz0.out Hz1.out Hz2.out rfl (by omega) v677 (0 + 1) _ rfl HZ682.out W678.heap.size _ acc.length _ _ rfl (HRT.out W678 Hb683.out) HC2.out (by unfold maxLen; omega) (by omega) Hb683.out.size ?_
                        intro v684 W685 ho686 hg687 ha688
                        have HZ689 := Lib.hid ho686
                        have Hb690 : Hid (Below wa.heap.size wa W685) := Hb683.out.grown hg687 Hb683.out.size (fun g hg => ((HZ682.out.lt g hg).1))
                        clear ho686 hg687 ha688
                        refine hK.out _ _ Hb690.out (fun hHeld2 => ?_)
                        clear hK K hHeld
                        have hHeld := hHeld2
                        clear hHeld2
                        try simp only [List.getElem_toArray, List.getElem_cons_succ, List.getElem_cons_zero, Act.put, List.setIfInBounds_toArray, List.set_cons_zero, List.set_cons_succ]
                        refine wpAnyH_take (i := 12) (oi := _) (v := ?v12s691) rfl (by kernel_rfl) (by kernel_rfl) (by kernel_rfl) (fun _ _ _ h => h) (Or.inl ⟨by rfl, ?y12s691⟩) (by assumption) ?r12s691
                        case y12s691 => (intro w hSw; (try dsimp only at hSw); go_simp <;> with_reducible rfl)
                        try simp only [List.getElem_toArray, List.getElem_cons_succ, List.getElem_cons_zero, Act.put, List.setIfInBounds_toArray, List.set_cons_zero, List.set_cons_succ]
                        refine wpAnyH_done (by kernel_rfl) ?_ _
                        have HownF := Lib.hid (Hfin2.out _ _ HZ689.out)
                        have HbF := Lib.hid (below_then HbA.out Hb690.out)
                        go_wp2
                        go_roundw
                        case rel => exact ⟨x + 1, rins d acc, by go_num, by omega, hlen2, htk, fun h => absurd (congrArg List.length h) (by rw [hlen2.out]; simp), HownF, HbF⟩
                        case measure => simp [intOf] <;> omega
                · go_simp
                  have HS694 : Hid (Blk (W660.alloc (.cells #[.string d.name, .string d.value] 215)) W660.heap.size 215 #[.string d.name, .string d.value]) := Blk.new W660 _ _
                  have Hb693 := Lib.hid (Hb661.out.alloc Hb661.out.size (.cells #[.string d.name, .string d.value] 215))
                  have HZ696 := Lib.hid (HZ662.out.alloc (.cells #[.string d.name, .string d.value] 215))
                  have hz695 : W660.heap.size < (W660.alloc (.cells #[.string d.name, .string d.value] 215)).heap.size := by simp
                  generalize W660.alloc (.cells #[.string d.name, .string d.value] 215) = W692 at *
                  refine hK.out _ _ Hb693.out (fun hHeld2 => ?_)
                  clear hK K hHeld
                  have hHeld := hHeld2
                  clear hHeld2
                  try simp only [List.getElem_toArray, List.getElem_cons_succ, List.getElem_cons_zero, Act.put, List.setIfInBounds_toArray, List.set_cons_zero, List.set_cons_succ]
                  refine wpAnyH_ready (rs := [4]) (by kernel_rfl) (by simp) ?_
                  refine AllReadyH.cons (o := _) rfl (fun K hK => ?_) (AllReadyH.nil)
                  · refine step_append_any _ rfl (.tmp 30) (.tmp 33) _ rfl wa.heap.size 215 i0 _ 2 32 Tryz.underlying168 Hi0.out Hz0.out Hz1.out Hz2.out rfl (by omega) (.slice (some ⟨Wd.heap.size, 0, none⟩) 0 0) 0 [] rfl HZ696.out W692.heap.size _ 0 _ _ rfl (HR1.out W692 Hb693.out) HC1.out (by unfold maxLen; omega) (by omega) Hb693.out.size ?_
                    intro v697 W698 ho699 hg700 ha701
                    rw [Nat.zero_add, List.nil_append] at ho699
                    have HZ702 := Lib.hid ho699
                    have Hb703 : Hid (Below wa.heap.size wa W698) := Hb693.out.grown hg700 Hb693.out.size (fun g hg => ((HZ696.out.lt g hg).1))
                    have HS704 := Lib.hid (Keeps.blk ((Keeps.refl [Wd.heap.size] W692).grown hg700 (fun g hg => .inl (List.mem_singleton.2 (by injection hg with h; exact h.symm)))) HS694.out (by simp; omega))
                    clear ho699 hg700 ha701
                    refine hK.out _ _ Hb703.out (fun hHeld2 => ?_)
                    clear hK K hHeld
                    have hHeld := hHeld2
                    clear hHeld2
                    try simp only [List.getElem_toArray, List.getElem_cons_succ, List.getElem_cons_zero, Act.put, List.setIfInBounds_toArray, List.set_cons_zero, List.set_cons_succ]
                    refine wpAnyH_ready (rs := [7]) (by kernel_rfl) (by simp) ?_
                    refine AllReadyH.cons (o := _) rfl (fun K hK => ?_) (AllReadyH.nil)
                    · refine step_append_any _ rfl (.tmp 34) (.tmp 36) _ rfl wa.heap.size 215 i0 _ 2 32 Tryz.underlying168 Hi0.out Hz0.out Hz1.out Hz2.out rfl (by omega) v697 0 _ rfl HZ702.out W698.heap.size _ 1 1 (labEnc d) rfl (reads_blk HS704.out 1 2 rfl) (labEnc_oneC d) (by unfold maxLen; omega) (by omega) Hb703.out.size ?_
                      intro v705 W706 ho707 hg708 ha709
                      have HZ710 := Lib.hid ho707
                      have Hb711 : Hid (Below wa.heap.size wa W706) := Hb703.out.grown hg708 Hb703.out.size (fun g hg => ((HZ702.out.lt g hg).1))
                      clear ho707 hg708 ha709
                      refine hK.out _ _ Hb711.out (fun hHeld2 => ?_)
                      clear hK K hHeld
                      have hHeld := hHeld2
                      clear hHeld2
                      try simp only [List.getElem_toArray, List.getElem_cons_succ, List.getElem_cons_zero, Act.put, List.setIfInBounds_toArray, List.set_cons_zero, List.set_cons_succ]
                      refine wpAnyH_ready (rs := [11]) (by kernel_rfl) (by simp) ?_
                      refine AllReadyH.cons (o := _) rfl (fun K hK => ?_) (AllReadyH.nil)
                      · refine step_append_any _ rfl (.tmp 37) (.tmp 40) _ rfl wa.heap.size 215 i0 _ 2 32 Tryz.underlying168 Hi0.out Hz0.out Hz1.out Hz2.out rfl (by omega) v705 (0 + 1) _ rfl HZ710.out W706.heap.size _ acc.length _ _ rfl (HRT.out W706 Hb711.out) HC2.out (by unfold maxLen; omega) (by omega) Hb711.out.size ?_
                        intro v712 W713 ho714 hg715 ha716
                        have HZ717 := Lib.hid ho714
                        have Hb718 : Hid (Below wa.heap.size wa W713) := Hb711.out.grown hg715 Hb711.out.size (fun g hg => ((HZ710.out.lt g hg).1))
                        clear ho714 hg715 ha716
                        refine hK.out _ _ Hb718.out (fun hHeld2 => ?_)
                        clear hK K hHeld
                        have hHeld := hHeld2
                        clear hHeld2
                        try simp only [List.getElem_toArray, List.getElem_cons_succ, List.getElem_cons_zero, Act.put, List.setIfInBounds_toArray, List.set_cons_zero, List.set_cons_succ]
                        refine wpAnyH_take (i := 12) (oi := _) (v := ?v12s719) rfl (by kernel_rfl) (by kernel_rfl) (by kernel_rfl) (fun _ _ _ h => h) (Or.inl ⟨by rfl, ?y12s719⟩) (by assumption) ?r12s719
                        case y12s719 => (intro w hSw; (try dsimp only at hSw); go_simp <;> with_reducible rfl)
                        try simp only [List.getElem_toArray, List.getElem_cons_succ, List.getElem_cons_zero, Act.put, List.setIfInBounds_toArray, List.set_cons_zero, List.set_cons_succ]
                        refine wpAnyH_done (by kernel_rfl) ?_ _
                        have HownF := Lib.hid (Hfin2.out _ _ HZ717.out)
                        have HbF := Lib.hid (below_then HbA.out Hb718.out)
                        go_wp2
                        go_roundw
                        case rel => exact ⟨x + 1, rins d acc, by go_num, by omega, hlen2, htk, fun h => absurd (congrArg List.length h) (by rw [hlen2.out]; simp), HownF, HbF⟩
                        case measure => simp [intOf] <;> omega
              · go_simp
                have HS722 : Hid (Blk (Wd.alloc (.cells #[.string d.name, .string d.value] 215)) Wd.heap.size 215 #[.string d.name, .string d.value]) := Blk.new Wd _ _
                have Hb721 := Lib.hid (hb00.out.alloc hb00.out.size (.cells #[.string d.name, .string d.value] 215))
                have hz723 : Wd.heap.size < (Wd.alloc (.cells #[.string d.name, .string d.value] 215)).heap.size := by simp
                generalize Wd.alloc (.cells #[.string d.name, .string d.value] 215) = W720 at *
                refine hK.out _ _ Hb721.out (fun hHeld2 => ?_)
                clear hK K hHeld
                have hHeld := hHeld2
                clear hHeld2
                try simp only [List.getElem_toArray, List.getElem_cons_succ, List.getElem_cons_zero, Act.put, List.setIfInBounds_toArray, List.set_cons_zero, List.set_cons_succ]
                refine wpAnyH_ready (rs := [0]) (by kernel_rfl) (by simp) ?_
                refine AllReadyH.cons (o := _) rfl (fun K hK => ?_) (AllReadyH.nil)
                · go_simp
                  have HZ726 : Hid ((W720.alloc (.cells #[] 215)).ownsRow wa.heap.size 215 2 (.slice (some ⟨W720.heap.size, 0, none⟩) 0 0) 0 []) := World.ownsRow_made W720 #[] 0 Hb721.out.size (by unfold maxLen; omega) rfl
                  have Hb725 := Lib.hid (Hb721.out.alloc Hb721.out.size (.cells #[] 215))
                  have HS728 := Lib.hid (Keeps.blk ((Keeps.refl [] W720).alloc (.cells #[] 215)) HS722.out (by simp))
                  have hlt729 : Wd.heap.size < W720.heap.size := HS722.out.lt
                  have hz727 : W720.heap.size < (W720.alloc (.cells #[] 215)).heap.size := by simp
                  generalize W720.alloc (.cells #[] 215) = W724 at *
                  refine hK.out _ _ Hb725.out (fun hHeld2 => ?_)
                  clear hK K hHeld
                  have hHeld := hHeld2
                  clear hHeld2
                  try simp only [List.getElem_toArray, List.getElem_cons_succ, List.getElem_cons_zero, Act.put, List.setIfInBounds_toArray, List.set_cons_zero, List.set_cons_succ]
                  refine wpAnyH_ready (rs := [4]) (by kernel_rfl) (by simp) ?_
                  refine AllReadyH.cons (o := _) rfl (fun K hK => ?_) (AllReadyH.nil)
                  · refine step_append_any _ rfl (.tmp 30) (.tmp 33) _ rfl wa.heap.size 215 i0 _ 2 32 Tryz.underlying168 Hi0.out Hz0.out Hz1.out Hz2.out rfl (by omega) (.slice (some ⟨W720.heap.size, 0, none⟩) 0 0) 0 [] rfl HZ726.out W724.heap.size _ 0 _ _ rfl (HR1.out W724 Hb725.out) HC1.out (by unfold maxLen; omega) (by omega) Hb725.out.size ?_
                    intro v730 W731 ho732 hg733 ha734
                    rw [Nat.zero_add, List.nil_append] at ho732
                    have HZ735 := Lib.hid ho732
                    have Hb736 : Hid (Below wa.heap.size wa W731) := Hb725.out.grown hg733 Hb725.out.size (fun g hg => ((HZ726.out.lt g hg).1))
                    have HS737 := Lib.hid (Keeps.blk ((Keeps.refl [W720.heap.size] W724).grown hg733 (fun g hg => .inl (List.mem_singleton.2 (by injection hg with h; exact h.symm)))) HS728.out (by simp; omega))
                    clear ho732 hg733 ha734
                    refine hK.out _ _ Hb736.out (fun hHeld2 => ?_)
                    clear hK K hHeld
                    have hHeld := hHeld2
                    clear hHeld2
                    try simp only [List.getElem_toArray, List.getElem_cons_succ, List.getElem_cons_zero, Act.put, List.setIfInBounds_toArray, List.set_cons_zero, List.set_cons_succ]
                    refine wpAnyH_ready (rs := [7]) (by kernel_rfl) (by simp) ?_
                    refine AllReadyH.cons (o := _) rfl (fun K hK => ?_) (AllReadyH.nil)
                    · refine step_append_any _ rfl (.tmp 34) (.tmp 36) _ rfl wa.heap.size 215 i0 _ 2 32 Tryz.underlying168 Hi0.out Hz0.out Hz1.out Hz2.out rfl (by omega) v730 0 _ rfl HZ735.out W731.heap.size _ 1 1 (labEnc d) rfl (reads_blk HS737.out 1 2 rfl) (labEnc_oneC d) (by unfold maxLen; omega) (by omega) Hb736.out.size ?_
                      intro v738 W739 ho740 hg741 ha742
                      have HZ743 := Lib.hid ho740
                      have Hb744 : Hid (Below wa.heap.size wa W739) := Hb736.out.grown hg741 Hb736.out.size (fun g hg => ((HZ735.out.lt g hg).1))
                      clear ho740 hg741 ha742
                      refine hK.out _ _ Hb744.out (fun hHeld2 => ?_)
                      clear hK K hHeld
                      have hHeld := hHeld2
                      clear hHeld2
                      try simp only [List.getElem_toArray, List.getElem_cons_succ, List.getElem_cons_zero, Act.put, List.setIfInBounds_toArray, List.set_cons_zero, List.set_cons_succ]
                      refine wpAnyH_ready (rs := [11]) (by kernel_rfl) (by simp) ?_
                      refine AllReadyH.cons (o := _) rfl (fun K hK => ?_) (AllReadyH.nil)
                      · refine step_append_any _ rfl (.tmp 37) (.tmp 40) _ rfl wa.heap.size 215 i0 _ 2 32 Tryz.underlying168 Hi0.out Hz0.out Hz1.out Hz2.out rfl (by omega) v738 (0 + 1) _ rfl HZ743.out W739.heap.size _ acc.length _ _ rfl (HRT.out W739 Hb744.out) HC2.out (by unfold maxLen; omega) (by omega) Hb744.out.size ?_
                        intro v745 W746 ho747 hg748 ha749
                        have HZ750 := Lib.hid ho747
                        have Hb751 : Hid (Below wa.heap.size wa W746) := Hb744.out.grown hg748 Hb744.out.size (fun g hg => ((HZ743.out.lt g hg).1))
                        clear ho747 hg748 ha749
                        refine hK.out _ _ Hb751.out (fun hHeld2 => ?_)
                        clear hK K hHeld
                        have hHeld := hHeld2
                        clear hHeld2
                        try simp only [List.getElem_toArray, List.getElem_cons_succ, List.getElem_cons_zero, Act.put, List.setIfInBounds_toArray, List.set_cons_zero, List.set_cons_succ]
                        refine wpAnyH_take (i := 12) (oi := _) (v := ?v12s752) rfl (by kernel_rfl) (by kernel_rfl) (by kernel_rfl) (fun _ _ _ h => h) (Or.inl ⟨by rfl, ?y12s752⟩) (by assumption) ?r12s752
                        case y12s752 => (intro w hSw; (try dsimp only at hSw); go_simp <;> with_reducible rfl)
                        try simp only [List.getElem_toArray, List.getElem_cons_succ, List.getElem_cons_zero, Act.put, List.setIfInBounds_toArray, List.set_cons_zero, List.set_cons_succ]
                        refine wpAnyH_done (by kernel_rfl) ?_ _
                        have HownF := Lib.hid (Hfin2.out _ _ HZ750.out)
                        have HbF := Lib.hid (below_then HbA.out Hb751.out)
                        go_wp2
                        go_roundw
                        case rel => exact ⟨x + 1, rins d acc, by go_num, by omega, hlen2, htk, fun h => absurd (congrArg List.length h) (by rw [hlen2.out]; simp), HownF, HbF⟩
                        case measure => simp [intOf] <;> omega
        · obtain ⟨z, rfl⟩ : ∃ z, y = z + 1 := ⟨y - 1, by omega⟩
          have hzl : z < acc.length := by omega
          obtain ⟨g, rfl⟩ := HAs.out (by intro h; rw [h] at hzl; simp at hzl)
          obtain ⟨g2, off2, _, e2, hg2, p0, _⟩ := (show Labs wa [] _ acc from Rd.of_own HownA.out (by simp)).at_ hzl
          obtain ⟨rfl, rfl⟩ : g = g2 ∧ 0 = off2 := by injection e2 with e2 _ _; injection e2 with e2; injection e2 with h1 h2; exact ⟨h1, h2⟩
          clear e2
          rw [Nat.zero_add] at p0
          have hw1 : IntKind.i64.wrap ((z : Int) + 1 - 1) = (z : Int) := by rw [IntKind.wrap_i64]; omega
          have hw2 : IntKind.i64.wrap (z : Int) = (z : Int) := by rw [IntKind.wrap_i64]; omega
          have hz1 : (z : Int) + 1 - 1 = (z : Int) := by omega
          have hz2 : (0 : Int) ≤ (z : Int) := by omega
          have hz3 : ((z : Int)).toNat = z := by omega
          have hz4 : (z : Int) < (acc.length : Int) := by omega
          have hz5 : (0 : Int) < (z : Int) + 1 := by omega
          have Hst := Lib.hid (fun h => rins_step hzl Hin.out h)
          have Hfin := Lib.hid (fun (h : sLt d.name acc[z].name = false) => hfin.out (hstop.out (fun _ => h)))
          clear hfin hstop Hin
          generalize acc[z].name = pn at *
          by_cases hlt2 : sLt d.name pn = true
          · have hlt3 : Op.bytesLess d.name.toList pn.toList = true := hlt2
            have Hst2 := Lib.hid (Hst.out hlt2)
            clear Hst Hfin hlt2 HR1 HR2 HC1 HC2 HbI
            go_wp2_with fail
            go_quiet (fail)
            go_wp2
            go_roundw
            case rel => exact ⟨z, _, rfl, by omega, Hst2, rfl⟩
            case measure => simp [intOf] <;> omega
          · have hlt3 : Op.bytesLess d.name.toList pn.toList = false := by simpa [sLt] using hlt2
            have Hfin2 := Lib.hid (Hfin.out (by simpa using hlt2))
            clear Hst Hfin hlt2
            go_wp2_with fail
            go_quiet (fail)
            clear p0 hw1 hw2 hz1 hz2 hz3 hz4 hz5
            have hq1 : (z : Int) + 1 ≤ (acc.length : Int) := by omega
            have hq2 : (z : Int) + 1 ≤ (co : Int) := by omega
            have hq3 : (0 : Int) ≤ (z : Int) + 1 := by omega
            have hq4 : ((z : Int) + 1).toNat = z + 1 := by omega
            go_wp2_with fail
            by_cases hcy : co = z + 1
            · subst hcy
              have HRT : Hid (∀ W, Below wa.heap.size wa W → Reads W W.heap.size 2 (some ⟨g, 0, none⟩) 0 ((acc.drop (z + 1)).flatMap labEnc)) := fun W hb => by
                have := HR2.out W hb
                rwa [if_pos rfl, show acc.length - (z + 1) = 0 by omega] at this
              rw [show acc.length - (z + 1) = 0 by omega] at Hfin2
              clear HR2
              refine wp_region_held_drew (S := (fun W => Below wa.heap.size wa W)) (by kernel_rfl) (HbI.out _) (fun hHeld => ?_)
              refine wpAnyH_take (i := 1) (oi := _) (v := ?v1q1) rfl (by kernel_rfl) (by kernel_rfl) (by kernel_rfl) (fun _ _ _ h => h) (Or.inl ⟨by rfl, ?y1q1⟩) (by assumption) ?r1q1
              case y1q1 => (intro w hSw; (try dsimp only at hSw); go_simp <;> with_reducible rfl)
              try simp only [List.getElem_toArray, List.getElem_cons_succ, List.getElem_cons_zero, Act.put, List.setIfInBounds_toArray, List.set_cons_zero, List.set_cons_succ]
              refine wpAnyH_take (i := 2) (oi := _) (v := ?v2q1) rfl (by kernel_rfl) (by kernel_rfl) (by kernel_rfl) (fun _ _ _ h => h) (Or.inl ⟨by rfl, ?y2q1⟩) (by assumption) ?r2q1
              case y2q1 => (intro w hSw; (try dsimp only at hSw); go_simp <;> with_reducible rfl)
              try simp only [List.getElem_toArray, List.getElem_cons_succ, List.getElem_cons_zero, Act.put, List.setIfInBounds_toArray, List.set_cons_zero, List.set_cons_succ]
              refine wpAnyH_take (i := 3) (oi := _) (v := ?v3q1) rfl (by kernel_rfl) (by kernel_rfl) (by kernel_rfl) (fun _ _ _ h => h) (Or.inl ⟨by rfl, ?y3q1⟩) (by assumption) ?r3q1
              case y3q1 => (intro w hSw; (try dsimp only at hSw); go_simp <;> with_reducible rfl)
              try simp only [List.getElem_toArray, List.getElem_cons_succ, List.getElem_cons_zero, Act.put, List.setIfInBounds_toArray, List.set_cons_zero, List.set_cons_succ]
              refine wpAnyH_take (i := 8) (oi := _) (v := ?v8q1) rfl (by kernel_rfl) (by kernel_rfl) (by kernel_rfl) (fun _ _ _ h => h) (Or.inl ⟨by rfl, ?y8q1⟩) (by assumption) ?r8q1
              case y8q1 => (intro w hSw; (try dsimp only at hSw); go_simp <;> with_reducible rfl)
              try simp only [List.getElem_toArray, List.getElem_cons_succ, List.getElem_cons_zero, Act.put, List.setIfInBounds_toArray, List.set_cons_zero, List.set_cons_succ]
              refine wpAnyH_take (i := 9) (oi := _) (v := ?v9q1) rfl (by kernel_rfl) (by kernel_rfl) (by kernel_rfl) (fun _ _ _ h => h) (Or.inl ⟨by rfl, ?y9q1⟩) (by assumption) ?r9q1
              case y9q1 => (intro w hSw; (try dsimp only at hSw); go_simp <;> with_reducible rfl)
              try simp only [List.getElem_toArray, List.getElem_cons_succ, List.getElem_cons_zero, Act.put, List.setIfInBounds_toArray, List.set_cons_zero, List.set_cons_succ]
              refine wpAnyH_take (i := 10) (oi := _) (v := ?v10q1) rfl (by kernel_rfl) (by kernel_rfl) (by kernel_rfl) (fun _ _ _ h => h) (Or.inl ⟨by rfl, ?y10q1⟩) (by assumption) ?r10q1
              case y10q1 => (intro w hSw; (try dsimp only at hSw); go_simp <;> with_reducible rfl)
              try simp only [List.getElem_toArray, List.getElem_cons_succ, List.getElem_cons_zero, Act.put, List.setIfInBounds_toArray, List.set_cons_zero, List.set_cons_succ]
              have hb00 := Lib.hid hHeld
              generalize ((wa.drewN q).drewN _).drew = Wd at *
              refine wpAnyH_ready (rs := [0, 5]) (by kernel_rfl) (by simp) ?_
              refine AllReadyH.cons (o := _) rfl (fun K hK => ?_) (AllReadyH.cons (o := _) rfl (fun K hK => ?_) (AllReadyH.nil))
              · go_simp
                have HZ4 : Hid ((Wd.alloc (.cells #[] 215)).ownsRow wa.heap.size 215 2 (.slice (some ⟨Wd.heap.size, 0, none⟩) 0 0) 0 []) := World.ownsRow_made Wd #[] 0 hb00.out.size (by unfold maxLen; omega) rfl
                have Hb3 := Lib.hid (hb00.out.alloc hb00.out.size (.cells #[] 215))
                have hz5 : Wd.heap.size < (Wd.alloc (.cells #[] 215)).heap.size := by simp
                generalize Wd.alloc (.cells #[] 215) = W2 at *
                refine hK.out _ _ Hb3.out (fun hHeld2 => ?_)
                clear hK K hHeld
                have hHeld := hHeld2
                clear hHeld2
                try simp only [List.getElem_toArray, List.getElem_cons_succ, List.getElem_cons_zero, Act.put, List.setIfInBounds_toArray, List.set_cons_zero, List.set_cons_succ]
                refine wpAnyH_ready (rs := [4, 5]) (by kernel_rfl) (by simp) ?_
                refine AllReadyH.cons (o := _) rfl (fun K hK => ?_) (AllReadyH.cons (o := _) rfl (fun K hK => ?_) (AllReadyH.nil))
                · refine step_append_any _ rfl (.tmp 30) (.tmp 33) _ rfl wa.heap.size 215 i0 _ 2 32 Tryz.underlying168 Hi0.out Hz0.out Hz1.out Hz2.out rfl (by omega) (.slice (some ⟨Wd.heap.size, 0, none⟩) 0 0) 0 [] rfl HZ4.out W2.heap.size _ (z + 1) _ _ rfl (HR1.out W2 Hb3.out) HC1.out (by unfold maxLen; omega) (by omega) Hb3.out.size ?_
                  intro v6 W7 ho8 hg9 ha10
                  rw [Nat.zero_add, List.nil_append] at ho8
                  have HZ11 := Lib.hid ho8
                  have Hb12 : Hid (Below wa.heap.size wa W7) := Hb3.out.grown hg9 Hb3.out.size (fun g hg => ((HZ4.out.lt g hg).1))
                  clear ho8 hg9 ha10
                  refine hK.out _ _ Hb12.out (fun hHeld2 => ?_)
                  clear hK K hHeld
                  have hHeld := hHeld2
                  clear hHeld2
                  try simp only [List.getElem_toArray, List.getElem_cons_succ, List.getElem_cons_zero, Act.put, List.setIfInBounds_toArray, List.set_cons_zero, List.set_cons_succ]
                  refine wpAnyH_ready (rs := [5]) (by kernel_rfl) (by simp) ?_
                  refine AllReadyH.cons (o := _) rfl (fun K hK => ?_) (AllReadyH.nil)
                  · have e13 := (Hb12.out.cell (p := ⟨g5, 0, none⟩) hg5).trans d0
                    have e14 := (Hb12.out.cell (p := ⟨g5, 1, none⟩) hg5).trans d1
                    go_simp
                    clear e13 e14
                    refine hK.out _ _ Hb12.out (fun hHeld2 => ?_)
                    clear hK K hHeld
                    have hHeld := hHeld2
                    clear hHeld2
                    try simp only [List.getElem_toArray, List.getElem_cons_succ, List.getElem_cons_zero, Act.put, List.setIfInBounds_toArray, List.set_cons_zero, List.set_cons_succ]
                    refine wpAnyH_ready (rs := [6]) (by kernel_rfl) (by simp) ?_
                    refine AllReadyH.cons (o := _) rfl (fun K hK => ?_) (AllReadyH.nil)
                    · go_simp
                      have HS17 : Hid (Blk (W7.alloc (.cells #[.string d.name, .string d.value] 215)) W7.heap.size 215 #[.string d.name, .string d.value]) := Blk.new W7 _ _
                      have Hb16 := Lib.hid (Hb12.out.alloc Hb12.out.size (.cells #[.string d.name, .string d.value] 215))
                      have HZ19 := Lib.hid (HZ4.out.alloc (.cells #[.string d.name, .string d.value] 215))
                      have HZ20 := Lib.hid (HZ11.out.alloc (.cells #[.string d.name, .string d.value] 215))
                      have hz18 : W7.heap.size < (W7.alloc (.cells #[.string d.name, .string d.value] 215)).heap.size := by simp
                      generalize W7.alloc (.cells #[.string d.name, .string d.value] 215) = W15 at *
                      refine hK.out _ _ Hb16.out (fun hHeld2 => ?_)
                      clear hK K hHeld
                      have hHeld := hHeld2
                      clear hHeld2
                      try simp only [List.getElem_toArray, List.getElem_cons_succ, List.getElem_cons_zero, Act.put, List.setIfInBounds_toArray, List.set_cons_zero, List.set_cons_succ]
                      refine wpAnyH_ready (rs := [7]) (by kernel_rfl) (by simp) ?_
                      refine AllReadyH.cons (o := _) rfl (fun K hK => ?_) (AllReadyH.nil)
                      · refine step_append_any _ rfl (.tmp 34) (.tmp 36) _ rfl wa.heap.size 215 i0 _ 2 32 Tryz.underlying168 Hi0.out Hz0.out Hz1.out Hz2.out rfl (by omega) v6 (z + 1) _ rfl HZ20.out W15.heap.size _ 1 1 (labEnc d) rfl (reads_blk HS17.out 1 2 rfl) (labEnc_oneC d) (by unfold maxLen; omega) (by omega) Hb16.out.size ?_
                        intro v21 W22 ho23 hg24 ha25
                        have HZ26 := Lib.hid ho23
                        have Hb27 : Hid (Below wa.heap.size wa W22) := Hb16.out.grown hg24 Hb16.out.size (fun g hg => ((HZ20.out.lt g hg).1))
                        clear ho23 hg24 ha25
                        refine hK.out _ _ Hb27.out (fun hHeld2 => ?_)
                        clear hK K hHeld
                        have hHeld := hHeld2
                        clear hHeld2
                        try simp only [List.getElem_toArray, List.getElem_cons_succ, List.getElem_cons_zero, Act.put, List.setIfInBounds_toArray, List.set_cons_zero, List.set_cons_succ]
                        refine wpAnyH_ready (rs := [11]) (by kernel_rfl) (by simp) ?_
                        refine AllReadyH.cons (o := _) rfl (fun K hK => ?_) (AllReadyH.nil)
                        · refine step_append_any _ rfl (.tmp 37) (.tmp 40) _ rfl wa.heap.size 215 i0 _ 2 32 Tryz.underlying168 Hi0.out Hz0.out Hz1.out Hz2.out rfl (by omega) v21 ((z + 1) + 1) _ rfl HZ26.out W22.heap.size _ 0 _ _ rfl (HRT.out W22 Hb27.out) HC2.out (by unfold maxLen; omega) (by omega) Hb27.out.size ?_
                          intro v28 W29 ho30 hg31 ha32
                          have HZ33 := Lib.hid ho30
                          have Hb34 : Hid (Below wa.heap.size wa W29) := Hb27.out.grown hg31 Hb27.out.size (fun g hg => ((HZ26.out.lt g hg).1))
                          clear ho30 hg31 ha32
                          refine hK.out _ _ Hb34.out (fun hHeld2 => ?_)
                          clear hK K hHeld
                          have hHeld := hHeld2
                          clear hHeld2
                          try simp only [List.getElem_toArray, List.getElem_cons_succ, List.getElem_cons_zero, Act.put, List.setIfInBounds_toArray, List.set_cons_zero, List.set_cons_succ]
                          refine wpAnyH_take (i := 12) (oi := _) (v := ?v12s35) rfl (by kernel_rfl) (by kernel_rfl) (by kernel_rfl) (fun _ _ _ h => h) (Or.inl ⟨by rfl, ?y12s35⟩) (by assumption) ?r12s35
                          case y12s35 => (intro w hSw; (try dsimp only at hSw); go_simp <;> with_reducible rfl)
                          try simp only [List.getElem_toArray, List.getElem_cons_succ, List.getElem_cons_zero, Act.put, List.setIfInBounds_toArray, List.set_cons_zero, List.set_cons_succ]
                          refine wpAnyH_done (by kernel_rfl) ?_ _
                          have HownF := Lib.hid (Hfin2.out _ _ HZ33.out)
                          have HbF := Lib.hid (below_then HbA.out Hb34.out)
                          go_wp2
                          go_roundw
                          case rel => exact ⟨x + 1, rins d acc, by go_num, by omega, hlen2, htk, fun h => absurd (congrArg List.length h) (by rw [hlen2.out]; simp), HownF, HbF⟩
                          case measure => simp [intOf] <;> omega
                · have e36 := (Hb3.out.cell (p := ⟨g5, 0, none⟩) hg5).trans d0
                  have e37 := (Hb3.out.cell (p := ⟨g5, 1, none⟩) hg5).trans d1
                  go_simp
                  clear e36 e37
                  refine hK.out _ _ Hb3.out (fun hHeld2 => ?_)
                  clear hK K hHeld
                  have hHeld := hHeld2
                  clear hHeld2
                  try simp only [List.getElem_toArray, List.getElem_cons_succ, List.getElem_cons_zero, Act.put, List.setIfInBounds_toArray, List.set_cons_zero, List.set_cons_succ]
                  refine wpAnyH_ready (rs := [4, 6]) (by kernel_rfl) (by simp) ?_
                  refine AllReadyH.cons (o := _) rfl (fun K hK => ?_) (AllReadyH.cons (o := _) rfl (fun K hK => ?_) (AllReadyH.nil))
                  · refine step_append_any _ rfl (.tmp 30) (.tmp 33) _ rfl wa.heap.size 215 i0 _ 2 32 Tryz.underlying168 Hi0.out Hz0.out Hz1.out Hz2.out rfl (by omega) (.slice (some ⟨Wd.heap.size, 0, none⟩) 0 0) 0 [] rfl HZ4.out W2.heap.size _ (z + 1) _ _ rfl (HR1.out W2 Hb3.out) HC1.out (by unfold maxLen; omega) (by omega) Hb3.out.size ?_
                    intro v38 W39 ho40 hg41 ha42
                    rw [Nat.zero_add, List.nil_append] at ho40
                    have HZ43 := Lib.hid ho40
                    have Hb44 : Hid (Below wa.heap.size wa W39) := Hb3.out.grown hg41 Hb3.out.size (fun g hg => ((HZ4.out.lt g hg).1))
                    clear ho40 hg41 ha42
                    refine hK.out _ _ Hb44.out (fun hHeld2 => ?_)
                    clear hK K hHeld
                    have hHeld := hHeld2
                    clear hHeld2
                    try simp only [List.getElem_toArray, List.getElem_cons_succ, List.getElem_cons_zero, Act.put, List.setIfInBounds_toArray, List.set_cons_zero, List.set_cons_succ]
                    refine wpAnyH_ready (rs := [6]) (by kernel_rfl) (by simp) ?_
                    refine AllReadyH.cons (o := _) rfl (fun K hK => ?_) (AllReadyH.nil)
                    · go_simp
                      have HS47 : Hid (Blk (W39.alloc (.cells #[.string d.name, .string d.value] 215)) W39.heap.size 215 #[.string d.name, .string d.value]) := Blk.new W39 _ _
                      have Hb46 := Lib.hid (Hb44.out.alloc Hb44.out.size (.cells #[.string d.name, .string d.value] 215))
                      have HZ49 := Lib.hid (HZ4.out.alloc (.cells #[.string d.name, .string d.value] 215))
                      have HZ50 := Lib.hid (HZ43.out.alloc (.cells #[.string d.name, .string d.value] 215))
                      have hz48 : W39.heap.size < (W39.alloc (.cells #[.string d.name, .string d.value] 215)).heap.size := by simp
                      generalize W39.alloc (.cells #[.string d.name, .string d.value] 215) = W45 at *
                      refine hK.out _ _ Hb46.out (fun hHeld2 => ?_)
                      clear hK K hHeld
                      have hHeld := hHeld2
                      clear hHeld2
                      try simp only [List.getElem_toArray, List.getElem_cons_succ, List.getElem_cons_zero, Act.put, List.setIfInBounds_toArray, List.set_cons_zero, List.set_cons_succ]
                      refine wpAnyH_ready (rs := [7]) (by kernel_rfl) (by simp) ?_
                      refine AllReadyH.cons (o := _) rfl (fun K hK => ?_) (AllReadyH.nil)
                      · refine step_append_any _ rfl (.tmp 34) (.tmp 36) _ rfl wa.heap.size 215 i0 _ 2 32 Tryz.underlying168 Hi0.out Hz0.out Hz1.out Hz2.out rfl (by omega) v38 (z + 1) _ rfl HZ50.out W45.heap.size _ 1 1 (labEnc d) rfl (reads_blk HS47.out 1 2 rfl) (labEnc_oneC d) (by unfold maxLen; omega) (by omega) Hb46.out.size ?_
                        intro v51 W52 ho53 hg54 ha55
                        have HZ56 := Lib.hid ho53
                        have Hb57 : Hid (Below wa.heap.size wa W52) := Hb46.out.grown hg54 Hb46.out.size (fun g hg => ((HZ50.out.lt g hg).1))
                        clear ho53 hg54 ha55
                        refine hK.out _ _ Hb57.out (fun hHeld2 => ?_)
                        clear hK K hHeld
                        have hHeld := hHeld2
                        clear hHeld2
                        try simp only [List.getElem_toArray, List.getElem_cons_succ, List.getElem_cons_zero, Act.put, List.setIfInBounds_toArray, List.set_cons_zero, List.set_cons_succ]
                        refine wpAnyH_ready (rs := [11]) (by kernel_rfl) (by simp) ?_
                        refine AllReadyH.cons (o := _) rfl (fun K hK => ?_) (AllReadyH.nil)
                        · refine step_append_any _ rfl (.tmp 37) (.tmp 40) _ rfl wa.heap.size 215 i0 _ 2 32 Tryz.underlying168 Hi0.out Hz0.out Hz1.out Hz2.out rfl (by omega) v51 ((z + 1) + 1) _ rfl HZ56.out W52.heap.size _ 0 _ _ rfl (HRT.out W52 Hb57.out) HC2.out (by unfold maxLen; omega) (by omega) Hb57.out.size ?_
                          intro v58 W59 ho60 hg61 ha62
                          have HZ63 := Lib.hid ho60
                          have Hb64 : Hid (Below wa.heap.size wa W59) := Hb57.out.grown hg61 Hb57.out.size (fun g hg => ((HZ56.out.lt g hg).1))
                          clear ho60 hg61 ha62
                          refine hK.out _ _ Hb64.out (fun hHeld2 => ?_)
                          clear hK K hHeld
                          have hHeld := hHeld2
                          clear hHeld2
                          try simp only [List.getElem_toArray, List.getElem_cons_succ, List.getElem_cons_zero, Act.put, List.setIfInBounds_toArray, List.set_cons_zero, List.set_cons_succ]
                          refine wpAnyH_take (i := 12) (oi := _) (v := ?v12s65) rfl (by kernel_rfl) (by kernel_rfl) (by kernel_rfl) (fun _ _ _ h => h) (Or.inl ⟨by rfl, ?y12s65⟩) (by assumption) ?r12s65
                          case y12s65 => (intro w hSw; (try dsimp only at hSw); go_simp <;> with_reducible rfl)
                          try simp only [List.getElem_toArray, List.getElem_cons_succ, List.getElem_cons_zero, Act.put, List.setIfInBounds_toArray, List.set_cons_zero, List.set_cons_succ]
                          refine wpAnyH_done (by kernel_rfl) ?_ _
                          have HownF := Lib.hid (Hfin2.out _ _ HZ63.out)
                          have HbF := Lib.hid (below_then HbA.out Hb64.out)
                          go_wp2
                          go_roundw
                          case rel => exact ⟨x + 1, rins d acc, by go_num, by omega, hlen2, htk, fun h => absurd (congrArg List.length h) (by rw [hlen2.out]; simp), HownF, HbF⟩
                          case measure => simp [intOf] <;> omega
                  · go_simp
                    have HS68 : Hid (Blk (W2.alloc (.cells #[.string d.name, .string d.value] 215)) W2.heap.size 215 #[.string d.name, .string d.value]) := Blk.new W2 _ _
                    have Hb67 := Lib.hid (Hb3.out.alloc Hb3.out.size (.cells #[.string d.name, .string d.value] 215))
                    have HZ70 := Lib.hid (HZ4.out.alloc (.cells #[.string d.name, .string d.value] 215))
                    have hz69 : W2.heap.size < (W2.alloc (.cells #[.string d.name, .string d.value] 215)).heap.size := by simp
                    generalize W2.alloc (.cells #[.string d.name, .string d.value] 215) = W66 at *
                    refine hK.out _ _ Hb67.out (fun hHeld2 => ?_)
                    clear hK K hHeld
                    have hHeld := hHeld2
                    clear hHeld2
                    try simp only [List.getElem_toArray, List.getElem_cons_succ, List.getElem_cons_zero, Act.put, List.setIfInBounds_toArray, List.set_cons_zero, List.set_cons_succ]
                    refine wpAnyH_ready (rs := [4]) (by kernel_rfl) (by simp) ?_
                    refine AllReadyH.cons (o := _) rfl (fun K hK => ?_) (AllReadyH.nil)
                    · refine step_append_any _ rfl (.tmp 30) (.tmp 33) _ rfl wa.heap.size 215 i0 _ 2 32 Tryz.underlying168 Hi0.out Hz0.out Hz1.out Hz2.out rfl (by omega) (.slice (some ⟨Wd.heap.size, 0, none⟩) 0 0) 0 [] rfl HZ70.out W66.heap.size _ (z + 1) _ _ rfl (HR1.out W66 Hb67.out) HC1.out (by unfold maxLen; omega) (by omega) Hb67.out.size ?_
                      intro v71 W72 ho73 hg74 ha75
                      rw [Nat.zero_add, List.nil_append] at ho73
                      have HZ76 := Lib.hid ho73
                      have Hb77 : Hid (Below wa.heap.size wa W72) := Hb67.out.grown hg74 Hb67.out.size (fun g hg => ((HZ70.out.lt g hg).1))
                      have HS78 := Lib.hid (Keeps.blk ((Keeps.refl [Wd.heap.size] W66).grown hg74 (fun g hg => .inl (List.mem_singleton.2 (by injection hg with h; exact h.symm)))) HS68.out (by simp; omega))
                      clear ho73 hg74 ha75
                      refine hK.out _ _ Hb77.out (fun hHeld2 => ?_)
                      clear hK K hHeld
                      have hHeld := hHeld2
                      clear hHeld2
                      try simp only [List.getElem_toArray, List.getElem_cons_succ, List.getElem_cons_zero, Act.put, List.setIfInBounds_toArray, List.set_cons_zero, List.set_cons_succ]
                      refine wpAnyH_ready (rs := [7]) (by kernel_rfl) (by simp) ?_
                      refine AllReadyH.cons (o := _) rfl (fun K hK => ?_) (AllReadyH.nil)
                      · refine step_append_any _ rfl (.tmp 34) (.tmp 36) _ rfl wa.heap.size 215 i0 _ 2 32 Tryz.underlying168 Hi0.out Hz0.out Hz1.out Hz2.out rfl (by omega) v71 (z + 1) _ rfl HZ76.out W72.heap.size _ 1 1 (labEnc d) rfl (reads_blk HS78.out 1 2 rfl) (labEnc_oneC d) (by unfold maxLen; omega) (by omega) Hb77.out.size ?_
                        intro v79 W80 ho81 hg82 ha83
                        have HZ84 := Lib.hid ho81
                        have Hb85 : Hid (Below wa.heap.size wa W80) := Hb77.out.grown hg82 Hb77.out.size (fun g hg => ((HZ76.out.lt g hg).1))
                        clear ho81 hg82 ha83
                        refine hK.out _ _ Hb85.out (fun hHeld2 => ?_)
                        clear hK K hHeld
                        have hHeld := hHeld2
                        clear hHeld2
                        try simp only [List.getElem_toArray, List.getElem_cons_succ, List.getElem_cons_zero, Act.put, List.setIfInBounds_toArray, List.set_cons_zero, List.set_cons_succ]
                        refine wpAnyH_ready (rs := [11]) (by kernel_rfl) (by simp) ?_
                        refine AllReadyH.cons (o := _) rfl (fun K hK => ?_) (AllReadyH.nil)
                        · refine step_append_any _ rfl (.tmp 37) (.tmp 40) _ rfl wa.heap.size 215 i0 _ 2 32 Tryz.underlying168 Hi0.out Hz0.out Hz1.out Hz2.out rfl (by omega) v79 ((z + 1) + 1) _ rfl HZ84.out W80.heap.size _ 0 _ _ rfl (HRT.out W80 Hb85.out) HC2.out (by unfold maxLen; omega) (by omega) Hb85.out.size ?_
                          intro v86 W87 ho88 hg89 ha90
                          have HZ91 := Lib.hid ho88
                          have Hb92 : Hid (Below wa.heap.size wa W87) := Hb85.out.grown hg89 Hb85.out.size (fun g hg => ((HZ84.out.lt g hg).1))
                          clear ho88 hg89 ha90
                          refine hK.out _ _ Hb92.out (fun hHeld2 => ?_)
                          clear hK K hHeld
                          have hHeld := hHeld2
                          clear hHeld2
                          try simp only [List.getElem_toArray, List.getElem_cons_succ, List.getElem_cons_zero, Act.put, List.setIfInBounds_toArray, List.set_cons_zero, List.set_cons_succ]
                          refine wpAnyH_take (i := 12) (oi := _) (v := ?v12s93) rfl (by kernel_rfl) (by kernel_rfl) (by kernel_rfl) (fun _ _ _ h => h) (Or.inl ⟨by rfl, ?y12s93⟩) (by assumption) ?r12s93
                          case y12s93 => (intro w hSw; (try dsimp only at hSw); go_simp <;> with_reducible rfl)
                          try simp only [List.getElem_toArray, List.getElem_cons_succ, List.getElem_cons_zero, Act.put, List.setIfInBounds_toArray, List.set_cons_zero, List.set_cons_succ]
                          refine wpAnyH_done (by kernel_rfl) ?_ _
                          have HownF := Lib.hid (Hfin2.out _ _ HZ91.out)
                          have HbF := Lib.hid (below_then HbA.out Hb92.out)
                          go_wp2
                          go_roundw
                          case rel => exact ⟨x + 1, rins d acc, by go_num, by omega, hlen2, htk, fun h => absurd (congrArg List.length h) (by rw [hlen2.out]; simp), HownF, HbF⟩
                          case measure => simp [intOf] <;> omega
              · have e94 := (hb00.out.cell (p := ⟨g5, 0, none⟩) hg5).trans d0
                have e95 := (hb00.out.cell (p := ⟨g5, 1, none⟩) hg5).trans d1
                go_simp
                clear e94 e95
                refine hK.out _ _ hb00.out (fun hHeld2 => ?_)
                clear hK K hHeld
                have hHeld := hHeld2
                clear hHeld2
                try simp only [List.getElem_toArray, List.getElem_cons_succ, List.getElem_cons_zero, Act.put, List.setIfInBounds_toArray, List.set_cons_zero, List.set_cons_succ]
                refine wpAnyH_ready (rs := [0, 6]) (by kernel_rfl) (by simp) ?_
                refine AllReadyH.cons (o := _) rfl (fun K hK => ?_) (AllReadyH.cons (o := _) rfl (fun K hK => ?_) (AllReadyH.nil))
                · go_simp
                  have HZ98 : Hid ((Wd.alloc (.cells #[] 215)).ownsRow wa.heap.size 215 2 (.slice (some ⟨Wd.heap.size, 0, none⟩) 0 0) 0 []) := World.ownsRow_made Wd #[] 0 hb00.out.size (by unfold maxLen; omega) rfl
                  have Hb97 := Lib.hid (hb00.out.alloc hb00.out.size (.cells #[] 215))
                  have hz99 : Wd.heap.size < (Wd.alloc (.cells #[] 215)).heap.size := by simp
                  generalize Wd.alloc (.cells #[] 215) = W96 at *
                  refine hK.out _ _ Hb97.out (fun hHeld2 => ?_)
                  clear hK K hHeld
                  have hHeld := hHeld2
                  clear hHeld2
                  try simp only [List.getElem_toArray, List.getElem_cons_succ, List.getElem_cons_zero, Act.put, List.setIfInBounds_toArray, List.set_cons_zero, List.set_cons_succ]
                  refine wpAnyH_ready (rs := [4, 6]) (by kernel_rfl) (by simp) ?_
                  refine AllReadyH.cons (o := _) rfl (fun K hK => ?_) (AllReadyH.cons (o := _) rfl (fun K hK => ?_) (AllReadyH.nil))
                  · refine step_append_any _ rfl (.tmp 30) (.tmp 33) _ rfl wa.heap.size 215 i0 _ 2 32 Tryz.underlying168 Hi0.out Hz0.out Hz1.out Hz2.out rfl (by omega) (.slice (some ⟨Wd.heap.size, 0, none⟩) 0 0) 0 [] rfl HZ98.out W96.heap.size _ (z + 1) _ _ rfl (HR1.out W96 Hb97.out) HC1.out (by unfold maxLen; omega) (by omega) Hb97.out.size ?_
                    intro v100 W101 ho102 hg103 ha104
                    rw [Nat.zero_add, List.nil_append] at ho102
                    have HZ105 := Lib.hid ho102
                    have Hb106 : Hid (Below wa.heap.size wa W101) := Hb97.out.grown hg103 Hb97.out.size (fun g hg => ((HZ98.out.lt g hg).1))
                    clear ho102 hg103 ha104
                    refine hK.out _ _ Hb106.out (fun hHeld2 => ?_)
                    clear hK K hHeld
                    have hHeld := hHeld2
                    clear hHeld2
                    try simp only [List.getElem_toArray, List.getElem_cons_succ, List.getElem_cons_zero, Act.put, List.setIfInBounds_toArray, List.set_cons_zero, List.set_cons_succ]
                    refine wpAnyH_ready (rs := [6]) (by kernel_rfl) (by simp) ?_
                    refine AllReadyH.cons (o := _) rfl (fun K hK => ?_) (AllReadyH.nil)
                    · go_simp
                      have HS109 : Hid (Blk (W101.alloc (.cells #[.string d.name, .string d.value] 215)) W101.heap.size 215 #[.string d.name, .string d.value]) := Blk.new W101 _ _
                      have Hb108 := Lib.hid (Hb106.out.alloc Hb106.out.size (.cells #[.string d.name, .string d.value] 215))
                      have HZ111 := Lib.hid (HZ98.out.alloc (.cells #[.string d.name, .string d.value] 215))
                      have HZ112 := Lib.hid (HZ105.out.alloc (.cells #[.string d.name, .string d.value] 215))
                      have hz110 : W101.heap.size < (W101.alloc (.cells #[.string d.name, .string d.value] 215)).heap.size := by simp
                      generalize W101.alloc (.cells #[.string d.name, .string d.value] 215) = W107 at *
                      refine hK.out _ _ Hb108.out (fun hHeld2 => ?_)
                      clear hK K hHeld
                      have hHeld := hHeld2
                      clear hHeld2
                      try simp only [List.getElem_toArray, List.getElem_cons_succ, List.getElem_cons_zero, Act.put, List.setIfInBounds_toArray, List.set_cons_zero, List.set_cons_succ]
                      refine wpAnyH_ready (rs := [7]) (by kernel_rfl) (by simp) ?_
                      refine AllReadyH.cons (o := _) rfl (fun K hK => ?_) (AllReadyH.nil)
                      · refine step_append_any _ rfl (.tmp 34) (.tmp 36) _ rfl wa.heap.size 215 i0 _ 2 32 Tryz.underlying168 Hi0.out Hz0.out Hz1.out Hz2.out rfl (by omega) v100 (z + 1) _ rfl HZ112.out W107.heap.size _ 1 1 (labEnc d) rfl (reads_blk HS109.out 1 2 rfl) (labEnc_oneC d) (by unfold maxLen; omega) (by omega) Hb108.out.size ?_
                        intro v113 W114 ho115 hg116 ha117
                        have HZ118 := Lib.hid ho115
                        have Hb119 : Hid (Below wa.heap.size wa W114) := Hb108.out.grown hg116 Hb108.out.size (fun g hg => ((HZ112.out.lt g hg).1))
                        clear ho115 hg116 ha117
                        refine hK.out _ _ Hb119.out (fun hHeld2 => ?_)
                        clear hK K hHeld
                        have hHeld := hHeld2
                        clear hHeld2
                        try simp only [List.getElem_toArray, List.getElem_cons_succ, List.getElem_cons_zero, Act.put, List.setIfInBounds_toArray, List.set_cons_zero, List.set_cons_succ]
                        refine wpAnyH_ready (rs := [11]) (by kernel_rfl) (by simp) ?_
                        refine AllReadyH.cons (o := _) rfl (fun K hK => ?_) (AllReadyH.nil)
                        · refine step_append_any _ rfl (.tmp 37) (.tmp 40) _ rfl wa.heap.size 215 i0 _ 2 32 Tryz.underlying168 Hi0.out Hz0.out Hz1.out Hz2.out rfl (by omega) v113 ((z + 1) + 1) _ rfl HZ118.out W114.heap.size _ 0 _ _ rfl (HRT.out W114 Hb119.out) HC2.out (by unfold maxLen; omega) (by omega) Hb119.out.size ?_
                          intro v120 W121 ho122 hg123 ha124
                          have HZ125 := Lib.hid ho122
                          have Hb126 : Hid (Below wa.heap.size wa W121) := Hb119.out.grown hg123 Hb119.out.size (fun g hg => ((HZ118.out.lt g hg).1))
                          clear ho122 hg123 ha124
                          refine hK.out _ _ Hb126.out (fun hHeld2 => ?_)
                          clear hK K hHeld
                          have hHeld := hHeld2
                          clear hHeld2
                          try simp only [List.getElem_toArray, List.getElem_cons_succ, List.getElem_cons_zero, Act.put, List.setIfInBounds_toArray, List.set_cons_zero, List.set_cons_succ]
                          refine wpAnyH_take (i := 12) (oi := _) (v := ?v12s127) rfl (by kernel_rfl) (by kernel_rfl) (by kernel_rfl) (fun _ _ _ h => h) (Or.inl ⟨by rfl, ?y12s127⟩) (by assumption) ?r12s127
                          case y12s127 => (intro w hSw; (try dsimp only at hSw); go_simp <;> with_reducible rfl)
                          try simp only [List.getElem_toArray, List.getElem_cons_succ, List.getElem_cons_zero, Act.put, List.setIfInBounds_toArray, List.set_cons_zero, List.set_cons_succ]
                          refine wpAnyH_done (by kernel_rfl) ?_ _
                          have HownF := Lib.hid (Hfin2.out _ _ HZ125.out)
                          have HbF := Lib.hid (below_then HbA.out Hb126.out)
                          go_wp2
                          go_roundw
                          case rel => exact ⟨x + 1, rins d acc, by go_num, by omega, hlen2, htk, fun h => absurd (congrArg List.length h) (by rw [hlen2.out]; simp), HownF, HbF⟩
                          case measure => simp [intOf] <;> omega
                  · go_simp
                    have HS130 : Hid (Blk (W96.alloc (.cells #[.string d.name, .string d.value] 215)) W96.heap.size 215 #[.string d.name, .string d.value]) := Blk.new W96 _ _
                    have Hb129 := Lib.hid (Hb97.out.alloc Hb97.out.size (.cells #[.string d.name, .string d.value] 215))
                    have HZ132 := Lib.hid (HZ98.out.alloc (.cells #[.string d.name, .string d.value] 215))
                    have hz131 : W96.heap.size < (W96.alloc (.cells #[.string d.name, .string d.value] 215)).heap.size := by simp
                    generalize W96.alloc (.cells #[.string d.name, .string d.value] 215) = W128 at *
                    refine hK.out _ _ Hb129.out (fun hHeld2 => ?_)
                    clear hK K hHeld
                    have hHeld := hHeld2
                    clear hHeld2
                    try simp only [List.getElem_toArray, List.getElem_cons_succ, List.getElem_cons_zero, Act.put, List.setIfInBounds_toArray, List.set_cons_zero, List.set_cons_succ]
                    refine wpAnyH_ready (rs := [4]) (by kernel_rfl) (by simp) ?_
                    refine AllReadyH.cons (o := _) rfl (fun K hK => ?_) (AllReadyH.nil)
                    · refine step_append_any _ rfl (.tmp 30) (.tmp 33) _ rfl wa.heap.size 215 i0 _ 2 32 Tryz.underlying168 Hi0.out Hz0.out Hz1.out Hz2.out rfl (by omega) (.slice (some ⟨Wd.heap.size, 0, none⟩) 0 0) 0 [] rfl HZ132.out W128.heap.size _ (z + 1) _ _ rfl (HR1.out W128 Hb129.out) HC1.out (by unfold maxLen; omega) (by omega) Hb129.out.size ?_
                      intro v133 W134 ho135 hg136 ha137
                      rw [Nat.zero_add, List.nil_append] at ho135
                      have HZ138 := Lib.hid ho135
                      have Hb139 : Hid (Below wa.heap.size wa W134) := Hb129.out.grown hg136 Hb129.out.size (fun g hg => ((HZ132.out.lt g hg).1))
                      have HS140 := Lib.hid (Keeps.blk ((Keeps.refl [Wd.heap.size] W128).grown hg136 (fun g hg => .inl (List.mem_singleton.2 (by injection hg with h; exact h.symm)))) HS130.out (by simp; omega))
                      clear ho135 hg136 ha137
                      refine hK.out _ _ Hb139.out (fun hHeld2 => ?_)
                      clear hK K hHeld
                      have hHeld := hHeld2
                      clear hHeld2
                      try simp only [List.getElem_toArray, List.getElem_cons_succ, List.getElem_cons_zero, Act.put, List.setIfInBounds_toArray, List.set_cons_zero, List.set_cons_succ]
                      refine wpAnyH_ready (rs := [7]) (by kernel_rfl) (by simp) ?_
                      refine AllReadyH.cons (o := _) rfl (fun K hK => ?_) (AllReadyH.nil)
                      · refine step_append_any _ rfl (.tmp 34) (.tmp 36) _ rfl wa.heap.size 215 i0 _ 2 32 Tryz.underlying168 Hi0.out Hz0.out Hz1.out Hz2.out rfl (by omega) v133 (z + 1) _ rfl HZ138.out W134.heap.size _ 1 1 (labEnc d) rfl (reads_blk HS140.out 1 2 rfl) (labEnc_oneC d) (by unfold maxLen; omega) (by omega) Hb139.out.size ?_
                        intro v141 W142 ho143 hg144 ha145
                        have HZ146 := Lib.hid ho143
                        have Hb147 : Hid (Below wa.heap.size wa W142) := Hb139.out.grown hg144 Hb139.out.size (fun g hg => ((HZ138.out.lt g hg).1))
                        clear ho143 hg144 ha145
                        refine hK.out _ _ Hb147.out (fun hHeld2 => ?_)
                        clear hK K hHeld
                        have hHeld := hHeld2
                        clear hHeld2
                        try simp only [List.getElem_toArray, List.getElem_cons_succ, List.getElem_cons_zero, Act.put, List.setIfInBounds_toArray, List.set_cons_zero, List.set_cons_succ]
                        refine wpAnyH_ready (rs := [11]) (by kernel_rfl) (by simp) ?_
                        refine AllReadyH.cons (o := _) rfl (fun K hK => ?_) (AllReadyH.nil)
                        · refine step_append_any _ rfl (.tmp 37) (.tmp 40) _ rfl wa.heap.size 215 i0 _ 2 32 Tryz.underlying168 Hi0.out Hz0.out Hz1.out Hz2.out rfl (by omega) v141 ((z + 1) + 1) _ rfl HZ146.out W142.heap.size _ 0 _ _ rfl (HRT.out W142 Hb147.out) HC2.out (by unfold maxLen; omega) (by omega) Hb147.out.size ?_
                          intro v148 W149 ho150 hg151 ha152
                          have HZ153 := Lib.hid ho150
                          have Hb154 : Hid (Below wa.heap.size wa W149) := Hb147.out.grown hg151 Hb147.out.size (fun g hg => ((HZ146.out.lt g hg).1))
                          clear ho150 hg151 ha152
                          refine hK.out _ _ Hb154.out (fun hHeld2 => ?_)
                          clear hK K hHeld
                          have hHeld := hHeld2
                          clear hHeld2
                          try simp only [List.getElem_toArray, List.getElem_cons_succ, List.getElem_cons_zero, Act.put, List.setIfInBounds_toArray, List.set_cons_zero, List.set_cons_succ]
                          refine wpAnyH_take (i := 12) (oi := _) (v := ?v12s155) rfl (by kernel_rfl) (by kernel_rfl) (by kernel_rfl) (fun _ _ _ h => h) (Or.inl ⟨by rfl, ?y12s155⟩) (by assumption) ?r12s155
                          case y12s155 => (intro w hSw; (try dsimp only at hSw); go_simp <;> with_reducible rfl)
                          try simp only [List.getElem_toArray, List.getElem_cons_succ, List.getElem_cons_zero, Act.put, List.setIfInBounds_toArray, List.set_cons_zero, List.set_cons_succ]
                          refine wpAnyH_done (by kernel_rfl) ?_ _
                          have HownF := Lib.hid (Hfin2.out _ _ HZ153.out)
                          have HbF := Lib.hid (below_then HbA.out Hb154.out)
                          go_wp2
                          go_roundw
                          case rel => exact ⟨x + 1, rins d acc, by go_num, by omega, hlen2, htk, fun h => absurd (congrArg List.length h) (by rw [hlen2.out]; simp), HownF, HbF⟩
                          case measure => simp [intOf] <;> omega
                · go_simp
                  have HS158 : Hid (Blk (Wd.alloc (.cells #[.string d.name, .string d.value] 215)) Wd.heap.size 215 #[.string d.name, .string d.value]) := Blk.new Wd _ _
                  have Hb157 := Lib.hid (hb00.out.alloc hb00.out.size (.cells #[.string d.name, .string d.value] 215))
                  have hz159 : Wd.heap.size < (Wd.alloc (.cells #[.string d.name, .string d.value] 215)).heap.size := by simp
                  generalize Wd.alloc (.cells #[.string d.name, .string d.value] 215) = W156 at *
                  refine hK.out _ _ Hb157.out (fun hHeld2 => ?_)
                  clear hK K hHeld
                  have hHeld := hHeld2
                  clear hHeld2
                  try simp only [List.getElem_toArray, List.getElem_cons_succ, List.getElem_cons_zero, Act.put, List.setIfInBounds_toArray, List.set_cons_zero, List.set_cons_succ]
                  refine wpAnyH_ready (rs := [0]) (by kernel_rfl) (by simp) ?_
                  refine AllReadyH.cons (o := _) rfl (fun K hK => ?_) (AllReadyH.nil)
                  · go_simp
                    have HZ162 : Hid ((W156.alloc (.cells #[] 215)).ownsRow wa.heap.size 215 2 (.slice (some ⟨W156.heap.size, 0, none⟩) 0 0) 0 []) := World.ownsRow_made W156 #[] 0 Hb157.out.size (by unfold maxLen; omega) rfl
                    have Hb161 := Lib.hid (Hb157.out.alloc Hb157.out.size (.cells #[] 215))
                    have HS164 := Lib.hid (Keeps.blk ((Keeps.refl [] W156).alloc (.cells #[] 215)) HS158.out (by simp))
                    have hlt165 : Wd.heap.size < W156.heap.size := HS158.out.lt
                    have hz163 : W156.heap.size < (W156.alloc (.cells #[] 215)).heap.size := by simp
                    generalize W156.alloc (.cells #[] 215) = W160 at *
                    refine hK.out _ _ Hb161.out (fun hHeld2 => ?_)
                    clear hK K hHeld
                    have hHeld := hHeld2
                    clear hHeld2
                    try simp only [List.getElem_toArray, List.getElem_cons_succ, List.getElem_cons_zero, Act.put, List.setIfInBounds_toArray, List.set_cons_zero, List.set_cons_succ]
                    refine wpAnyH_ready (rs := [4]) (by kernel_rfl) (by simp) ?_
                    refine AllReadyH.cons (o := _) rfl (fun K hK => ?_) (AllReadyH.nil)
                    · refine step_append_any _ rfl (.tmp 30) (.tmp 33) _ rfl wa.heap.size 215 i0 _ 2 32 Tryz.underlying168 Hi0.out Hz0.out Hz1.out Hz2.out rfl (by omega) (.slice (some ⟨W156.heap.size, 0, none⟩) 0 0) 0 [] rfl HZ162.out W160.heap.size _ (z + 1) _ _ rfl (HR1.out W160 Hb161.out) HC1.out (by unfold maxLen; omega) (by omega) Hb161.out.size ?_
                      intro v166 W167 ho168 hg169 ha170
                      rw [Nat.zero_add, List.nil_append] at ho168
                      have HZ171 := Lib.hid ho168
                      have Hb172 : Hid (Below wa.heap.size wa W167) := Hb161.out.grown hg169 Hb161.out.size (fun g hg => ((HZ162.out.lt g hg).1))
                      have HS173 := Lib.hid (Keeps.blk ((Keeps.refl [W156.heap.size] W160).grown hg169 (fun g hg => .inl (List.mem_singleton.2 (by injection hg with h; exact h.symm)))) HS164.out (by simp; omega))
                      clear ho168 hg169 ha170
                      refine hK.out _ _ Hb172.out (fun hHeld2 => ?_)
                      clear hK K hHeld
                      have hHeld := hHeld2
                      clear hHeld2
                      try simp only [List.getElem_toArray, List.getElem_cons_succ, List.getElem_cons_zero, Act.put, List.setIfInBounds_toArray, List.set_cons_zero, List.set_cons_succ]
                      refine wpAnyH_ready (rs := [7]) (by kernel_rfl) (by simp) ?_
                      refine AllReadyH.cons (o := _) rfl (fun K hK => ?_) (AllReadyH.nil)
                      · refine step_append_any _ rfl (.tmp 34) (.tmp 36) _ rfl wa.heap.size 215 i0 _ 2 32 Tryz.underlying168 Hi0.out Hz0.out Hz1.out Hz2.out rfl (by omega) v166 (z + 1) _ rfl HZ171.out W167.heap.size _ 1 1 (labEnc d) rfl (reads_blk HS173.out 1 2 rfl) (labEnc_oneC d) (by unfold maxLen; omega) (by omega) Hb172.out.size ?_
                        intro v174 W175 ho176 hg177 ha178
                        have HZ179 := Lib.hid ho176
                        have Hb180 : Hid (Below wa.heap.size wa W175) := Hb172.out.grown hg177 Hb172.out.size (fun g hg => ((HZ171.out.lt g hg).1))
                        clear ho176 hg177 ha178
                        refine hK.out _ _ Hb180.out (fun hHeld2 => ?_)
                        clear hK K hHeld
                        have hHeld := hHeld2
                        clear hHeld2
                        try simp only [List.getElem_toArray, List.getElem_cons_succ, List.getElem_cons_zero, Act.put, List.setIfInBounds_toArray, List.set_cons_zero, List.set_cons_succ]
                        refine wpAnyH_ready (rs := [11]) (by kernel_rfl) (by simp) ?_
                        refine AllReadyH.cons (o := _) rfl (fun K hK => ?_) (AllReadyH.nil)
                        · refine step_append_any _ rfl (.tmp 37) (.tmp 40) _ rfl wa.heap.size 215 i0 _ 2 32 Tryz.underlying168 Hi0.out Hz0.out Hz1.out Hz2.out rfl (by omega) v174 ((z + 1) + 1) _ rfl HZ179.out W175.heap.size _ 0 _ _ rfl (HRT.out W175 Hb180.out) HC2.out (by unfold maxLen; omega) (by omega) Hb180.out.size ?_
                          intro v181 W182 ho183 hg184 ha185
                          have HZ186 := Lib.hid ho183
                          have Hb187 : Hid (Below wa.heap.size wa W182) := Hb180.out.grown hg184 Hb180.out.size (fun g hg => ((HZ179.out.lt g hg).1))
                          clear ho183 hg184 ha185
                          refine hK.out _ _ Hb187.out (fun hHeld2 => ?_)
                          clear hK K hHeld
                          have hHeld := hHeld2
                          clear hHeld2
                          try simp only [List.getElem_toArray, List.getElem_cons_succ, List.getElem_cons_zero, Act.put, List.setIfInBounds_toArray, List.set_cons_zero, List.set_cons_succ]
                          refine wpAnyH_take (i := 12) (oi := _) (v := ?v12s188) rfl (by kernel_rfl) (by kernel_rfl) (by kernel_rfl) (fun _ _ _ h => h) (Or.inl ⟨by rfl, ?y12s188⟩) (by assumption) ?r12s188
                          case y12s188 => (intro w hSw; (try dsimp only at hSw); go_simp <;> with_reducible rfl)
                          try simp only [List.getElem_toArray, List.getElem_cons_succ, List.getElem_cons_zero, Act.put, List.setIfInBounds_toArray, List.set_cons_zero, List.set_cons_succ]
                          refine wpAnyH_done (by kernel_rfl) ?_ _
                          have HownF := Lib.hid (Hfin2.out _ _ HZ186.out)
                          have HbF := Lib.hid (below_then HbA.out Hb187.out)
                          go_wp2
                          go_roundw
                          case rel => exact ⟨x + 1, rins d acc, by go_num, by omega, hlen2, htk, fun h => absurd (congrArg List.length h) (by rw [hlen2.out]; simp), HownF, HbF⟩
                          case measure => simp [intOf] <;> omega
            · have HRT : Hid (∀ W, Below wa.heap.size wa W → Reads W W.heap.size 2 (some ⟨g, (z + 1) * 2, none⟩) (acc.length - (z + 1)) ((acc.drop (z + 1)).flatMap labEnc)) := fun W hb => by
                have := HR2.out W hb
                rwa [if_neg hcy, Option.map_some, addr_add, Nat.zero_add] at this
              clear HR2
              refine wp_region_held_drew (S := (fun W => Below wa.heap.size wa W)) (by kernel_rfl) (HbI.out _) (fun hHeld => ?_)
              refine wpAnyH_take (i := 1) (oi := _) (v := ?v1q189) rfl (by kernel_rfl) (by kernel_rfl) (by kernel_rfl) (fun _ _ _ h => h) (Or.inl ⟨by rfl, ?y1q189⟩) (by assumption) ?r1q189
              case y1q189 => (intro w hSw; (try dsimp only at hSw); go_simp <;> with_reducible rfl)
              try simp only [List.getElem_toArray, List.getElem_cons_succ, List.getElem_cons_zero, Act.put, List.setIfInBounds_toArray, List.set_cons_zero, List.set_cons_succ]
              refine wpAnyH_take (i := 2) (oi := _) (v := ?v2q189) rfl (by kernel_rfl) (by kernel_rfl) (by kernel_rfl) (fun _ _ _ h => h) (Or.inl ⟨by rfl, ?y2q189⟩) (by assumption) ?r2q189
              case y2q189 => (intro w hSw; (try dsimp only at hSw); go_simp <;> with_reducible rfl)
              try simp only [List.getElem_toArray, List.getElem_cons_succ, List.getElem_cons_zero, Act.put, List.setIfInBounds_toArray, List.set_cons_zero, List.set_cons_succ]
              refine wpAnyH_take (i := 3) (oi := _) (v := ?v3q189) rfl (by kernel_rfl) (by kernel_rfl) (by kernel_rfl) (fun _ _ _ h => h) (Or.inl ⟨by rfl, ?y3q189⟩) (by assumption) ?r3q189
              case y3q189 => (intro w hSw; (try dsimp only at hSw); go_simp <;> with_reducible rfl)
              try simp only [List.getElem_toArray, List.getElem_cons_succ, List.getElem_cons_zero, Act.put, List.setIfInBounds_toArray, List.set_cons_zero, List.set_cons_succ]
              refine wpAnyH_take (i := 8) (oi := _) (v := ?v8q189) rfl (by kernel_rfl) (by kernel_rfl) (by kernel_rfl) (fun _ _ _ h => h) (Or.inl ⟨by rfl, ?y8q189⟩) (by assumption) ?r8q189
              case y8q189 => (intro w hSw; (try dsimp only at hSw); go_simp <;> with_reducible rfl)
              try simp only [List.getElem_toArray, List.getElem_cons_succ, List.getElem_cons_zero, Act.put, List.setIfInBounds_toArray, List.set_cons_zero, List.set_cons_succ]
              refine wpAnyH_take (i := 9) (oi := _) (v := ?v9q189) rfl (by kernel_rfl) (by kernel_rfl) (by kernel_rfl) (fun _ _ _ h => h) (Or.inl ⟨by rfl, ?y9q189⟩) (by assumption) ?r9q189
              case y9q189 => (intro w hSw; (try dsimp only at hSw); go_simp <;> with_reducible rfl)
              try simp only [List.getElem_toArray, List.getElem_cons_succ, List.getElem_cons_zero, Act.put, List.setIfInBounds_toArray, List.set_cons_zero, List.set_cons_succ]
              refine wpAnyH_take (i := 10) (oi := _) (v := ?v10q189) rfl (by kernel_rfl) (by kernel_rfl) (by kernel_rfl) (fun _ _ _ h => h) (Or.inl ⟨by rfl, ?y10q189⟩) (by assumption) ?r10q189
              case y10q189 => (intro w hSw; (try dsimp only at hSw); go_simp <;> with_reducible rfl)
              try simp only [List.getElem_toArray, List.getElem_cons_succ, List.getElem_cons_zero, Act.put, List.setIfInBounds_toArray, List.set_cons_zero, List.set_cons_succ]
              have hb00 := Lib.hid hHeld
              generalize ((wa.drewN q).drewN _).drew = Wd at *
              refine wpAnyH_ready (rs := [0, 5]) (by kernel_rfl) (by simp) ?_
              refine AllReadyH.cons (o := _) rfl (fun K hK => ?_) (AllReadyH.cons (o := _) rfl (fun K hK => ?_) (AllReadyH.nil))
              · go_simp
                have HZ192 : Hid ((Wd.alloc (.cells #[] 215)).ownsRow wa.heap.size 215 2 (.slice (some ⟨Wd.heap.size, 0, none⟩) 0 0) 0 []) := World.ownsRow_made Wd #[] 0 hb00.out.size (by unfold maxLen; omega) rfl
                have Hb191 := Lib.hid (hb00.out.alloc hb00.out.size (.cells #[] 215))
                have hz193 : Wd.heap.size < (Wd.alloc (.cells #[] 215)).heap.size := by simp
                generalize Wd.alloc (.cells #[] 215) = W190 at *
                refine hK.out _ _ Hb191.out (fun hHeld2 => ?_)
                clear hK K hHeld
                have hHeld := hHeld2
                clear hHeld2
                try simp only [List.getElem_toArray, List.getElem_cons_succ, List.getElem_cons_zero, Act.put, List.setIfInBounds_toArray, List.set_cons_zero, List.set_cons_succ]
                refine wpAnyH_ready (rs := [4, 5]) (by kernel_rfl) (by simp) ?_
                refine AllReadyH.cons (o := _) rfl (fun K hK => ?_) (AllReadyH.cons (o := _) rfl (fun K hK => ?_) (AllReadyH.nil))
                · refine step_append_any _ rfl (.tmp 30) (.tmp 33) _ rfl wa.heap.size 215 i0 _ 2 32 Tryz.underlying168 Hi0.out Hz0.out Hz1.out Hz2.out rfl (by omega) (.slice (some ⟨Wd.heap.size, 0, none⟩) 0 0) 0 [] rfl HZ192.out W190.heap.size _ (z + 1) _ _ rfl (HR1.out W190 Hb191.out) HC1.out (by unfold maxLen; omega) (by omega) Hb191.out.size ?_
                  intro v194 W195 ho196 hg197 ha198
                  rw [Nat.zero_add, List.nil_append] at ho196
                  have HZ199 := Lib.hid ho196
                  have Hb200 : Hid (Below wa.heap.size wa W195) := Hb191.out.grown hg197 Hb191.out.size (fun g hg => ((HZ192.out.lt g hg).1))
                  clear ho196 hg197 ha198
                  refine hK.out _ _ Hb200.out (fun hHeld2 => ?_)
                  clear hK K hHeld
                  have hHeld := hHeld2
                  clear hHeld2
                  try simp only [List.getElem_toArray, List.getElem_cons_succ, List.getElem_cons_zero, Act.put, List.setIfInBounds_toArray, List.set_cons_zero, List.set_cons_succ]
                  refine wpAnyH_ready (rs := [5]) (by kernel_rfl) (by simp) ?_
                  refine AllReadyH.cons (o := _) rfl (fun K hK => ?_) (AllReadyH.nil)
                  · have e201 := (Hb200.out.cell (p := ⟨g5, 0, none⟩) hg5).trans d0
                    have e202 := (Hb200.out.cell (p := ⟨g5, 1, none⟩) hg5).trans d1
                    go_simp
                    clear e201 e202
                    refine hK.out _ _ Hb200.out (fun hHeld2 => ?_)
                    clear hK K hHeld
                    have hHeld := hHeld2
                    clear hHeld2
                    try simp only [List.getElem_toArray, List.getElem_cons_succ, List.getElem_cons_zero, Act.put, List.setIfInBounds_toArray, List.set_cons_zero, List.set_cons_succ]
                    refine wpAnyH_ready (rs := [6]) (by kernel_rfl) (by simp) ?_
                    refine AllReadyH.cons (o := _) rfl (fun K hK => ?_) (AllReadyH.nil)
                    · go_simp
                      have HS205 : Hid (Blk (W195.alloc (.cells #[.string d.name, .string d.value] 215)) W195.heap.size 215 #[.string d.name, .string d.value]) := Blk.new W195 _ _
                      have Hb204 := Lib.hid (Hb200.out.alloc Hb200.out.size (.cells #[.string d.name, .string d.value] 215))
                      have HZ207 := Lib.hid (HZ192.out.alloc (.cells #[.string d.name, .string d.value] 215))
                      have HZ208 := Lib.hid (HZ199.out.alloc (.cells #[.string d.name, .string d.value] 215))
                      have hz206 : W195.heap.size < (W195.alloc (.cells #[.string d.name, .string d.value] 215)).heap.size := by simp
                      generalize W195.alloc (.cells #[.string d.name, .string d.value] 215) = W203 at *
                      refine hK.out _ _ Hb204.out (fun hHeld2 => ?_)
                      clear hK K hHeld
                      have hHeld := hHeld2
                      clear hHeld2
                      try simp only [List.getElem_toArray, List.getElem_cons_succ, List.getElem_cons_zero, Act.put, List.setIfInBounds_toArray, List.set_cons_zero, List.set_cons_succ]
                      refine wpAnyH_ready (rs := [7]) (by kernel_rfl) (by simp) ?_
                      refine AllReadyH.cons (o := _) rfl (fun K hK => ?_) (AllReadyH.nil)
                      · refine step_append_any _ rfl (.tmp 34) (.tmp 36) _ rfl wa.heap.size 215 i0 _ 2 32 Tryz.underlying168 Hi0.out Hz0.out Hz1.out Hz2.out rfl (by omega) v194 (z + 1) _ rfl HZ208.out W203.heap.size _ 1 1 (labEnc d) rfl (reads_blk HS205.out 1 2 rfl) (labEnc_oneC d) (by unfold maxLen; omega) (by omega) Hb204.out.size ?_
                        intro v209 W210 ho211 hg212 ha213
                        have HZ214 := Lib.hid ho211
                        have Hb215 : Hid (Below wa.heap.size wa W210) := Hb204.out.grown hg212 Hb204.out.size (fun g hg => ((HZ208.out.lt g hg).1))
                        clear ho211 hg212 ha213
                        refine hK.out _ _ Hb215.out (fun hHeld2 => ?_)
                        clear hK K hHeld
                        have hHeld := hHeld2
                        clear hHeld2
                        try simp only [List.getElem_toArray, List.getElem_cons_succ, List.getElem_cons_zero, Act.put, List.setIfInBounds_toArray, List.set_cons_zero, List.set_cons_succ]
                        refine wpAnyH_ready (rs := [11]) (by kernel_rfl) (by simp) ?_
                        refine AllReadyH.cons (o := _) rfl (fun K hK => ?_) (AllReadyH.nil)
                        · refine step_append_any _ rfl (.tmp 37) (.tmp 40) _ rfl wa.heap.size 215 i0 _ 2 32 Tryz.underlying168 Hi0.out Hz0.out Hz1.out Hz2.out rfl (by omega) v209 ((z + 1) + 1) _ rfl HZ214.out W210.heap.size _ (acc.length - (z + 1)) _ _ rfl (HRT.out W210 Hb215.out) HC2.out (by unfold maxLen; omega) (by omega) Hb215.out.size ?_
                          intro v216 W217 ho218 hg219 ha220
                          have HZ221 := Lib.hid ho218
                          have Hb222 : Hid (Below wa.heap.size wa W217) := Hb215.out.grown hg219 Hb215.out.size (fun g hg => ((HZ214.out.lt g hg).1))
                          clear ho218 hg219 ha220
                          refine hK.out _ _ Hb222.out (fun hHeld2 => ?_)
                          clear hK K hHeld
                          have hHeld := hHeld2
                          clear hHeld2
                          try simp only [List.getElem_toArray, List.getElem_cons_succ, List.getElem_cons_zero, Act.put, List.setIfInBounds_toArray, List.set_cons_zero, List.set_cons_succ]
                          refine wpAnyH_take (i := 12) (oi := _) (v := ?v12s223) rfl (by kernel_rfl) (by kernel_rfl) (by kernel_rfl) (fun _ _ _ h => h) (Or.inl ⟨by rfl, ?y12s223⟩) (by assumption) ?r12s223
                          case y12s223 => (intro w hSw; (try dsimp only at hSw); go_simp <;> with_reducible rfl)
                          try simp only [List.getElem_toArray, List.getElem_cons_succ, List.getElem_cons_zero, Act.put, List.setIfInBounds_toArray, List.set_cons_zero, List.set_cons_succ]
                          refine wpAnyH_done (by kernel_rfl) ?_ _
                          have HownF := Lib.hid (Hfin2.out _ _ HZ221.out)
                          have HbF := Lib.hid (below_then HbA.out Hb222.out)
                          go_wp2
                          go_roundw
                          case rel => exact ⟨x + 1, rins d acc, by go_num, by omega, hlen2, htk, fun h => absurd (congrArg List.length h) (by rw [hlen2.out]; simp), HownF, HbF⟩
                          case measure => simp [intOf] <;> omega
                · have e224 := (Hb191.out.cell (p := ⟨g5, 0, none⟩) hg5).trans d0
                  have e225 := (Hb191.out.cell (p := ⟨g5, 1, none⟩) hg5).trans d1
                  go_simp
                  clear e224 e225
                  refine hK.out _ _ Hb191.out (fun hHeld2 => ?_)
                  clear hK K hHeld
                  have hHeld := hHeld2
                  clear hHeld2
                  try simp only [List.getElem_toArray, List.getElem_cons_succ, List.getElem_cons_zero, Act.put, List.setIfInBounds_toArray, List.set_cons_zero, List.set_cons_succ]
                  refine wpAnyH_ready (rs := [4, 6]) (by kernel_rfl) (by simp) ?_
                  refine AllReadyH.cons (o := _) rfl (fun K hK => ?_) (AllReadyH.cons (o := _) rfl (fun K hK => ?_) (AllReadyH.nil))
                  · refine step_append_any _ rfl (.tmp 30) (.tmp 33) _ rfl wa.heap.size 215 i0 _ 2 32 Tryz.underlying168 Hi0.out Hz0.out Hz1.out Hz2.out rfl (by omega) (.slice (some ⟨Wd.heap.size, 0, none⟩) 0 0) 0 [] rfl HZ192.out W190.heap.size _ (z + 1) _ _ rfl (HR1.out W190 Hb191.out) HC1.out (by unfold maxLen; omega) (by omega) Hb191.out.size ?_
                    intro v226 W227 ho228 hg229 ha230
                    rw [Nat.zero_add, List.nil_append] at ho228
                    have HZ231 := Lib.hid ho228
                    have Hb232 : Hid (Below wa.heap.size wa W227) := Hb191.out.grown hg229 Hb191.out.size (fun g hg => ((HZ192.out.lt g hg).1))
                    clear ho228 hg229 ha230
                    refine hK.out _ _ Hb232.out (fun hHeld2 => ?_)
                    clear hK K hHeld
                    have hHeld := hHeld2
                    clear hHeld2
                    try simp only [List.getElem_toArray, List.getElem_cons_succ, List.getElem_cons_zero, Act.put, List.setIfInBounds_toArray, List.set_cons_zero, List.set_cons_succ]
                    refine wpAnyH_ready (rs := [6]) (by kernel_rfl) (by simp) ?_
                    refine AllReadyH.cons (o := _) rfl (fun K hK => ?_) (AllReadyH.nil)
                    · go_simp
                      have HS235 : Hid (Blk (W227.alloc (.cells #[.string d.name, .string d.value] 215)) W227.heap.size 215 #[.string d.name, .string d.value]) := Blk.new W227 _ _
                      have Hb234 := Lib.hid (Hb232.out.alloc Hb232.out.size (.cells #[.string d.name, .string d.value] 215))
                      have HZ237 := Lib.hid (HZ192.out.alloc (.cells #[.string d.name, .string d.value] 215))
                      have HZ238 := Lib.hid (HZ231.out.alloc (.cells #[.string d.name, .string d.value] 215))
                      have hz236 : W227.heap.size < (W227.alloc (.cells #[.string d.name, .string d.value] 215)).heap.size := by simp
                      generalize W227.alloc (.cells #[.string d.name, .string d.value] 215) = W233 at *
                      refine hK.out _ _ Hb234.out (fun hHeld2 => ?_)
                      clear hK K hHeld
                      have hHeld := hHeld2
                      clear hHeld2
                      try simp only [List.getElem_toArray, List.getElem_cons_succ, List.getElem_cons_zero, Act.put, List.setIfInBounds_toArray, List.set_cons_zero, List.set_cons_succ]
                      refine wpAnyH_ready (rs := [7]) (by kernel_rfl) (by simp) ?_
                      refine AllReadyH.cons (o := _) rfl (fun K hK => ?_) (AllReadyH.nil)
                      · refine step_append_any _ rfl (.tmp 34) (.tmp 36) _ rfl wa.heap.size 215 i0 _ 2 32 Tryz.underlying168 Hi0.out Hz0.out Hz1.out Hz2.out rfl (by omega) v226 (z + 1) _ rfl HZ238.out W233.heap.size _ 1 1 (labEnc d) rfl (reads_blk HS235.out 1 2 rfl) (labEnc_oneC d) (by unfold maxLen; omega) (by omega) Hb234.out.size ?_
                        intro v239 W240 ho241 hg242 ha243
                        have HZ244 := Lib.hid ho241
                        have Hb245 : Hid (Below wa.heap.size wa W240) := Hb234.out.grown hg242 Hb234.out.size (fun g hg => ((HZ238.out.lt g hg).1))
                        clear ho241 hg242 ha243
                        refine hK.out _ _ Hb245.out (fun hHeld2 => ?_)
                        clear hK K hHeld
                        have hHeld := hHeld2
                        clear hHeld2
                        try simp only [List.getElem_toArray, List.getElem_cons_succ, List.getElem_cons_zero, Act.put, List.setIfInBounds_toArray, List.set_cons_zero, List.set_cons_succ]
                        refine wpAnyH_ready (rs := [11]) (by kernel_rfl) (by simp) ?_
                        refine AllReadyH.cons (o := _) rfl (fun K hK => ?_) (AllReadyH.nil)
                        · refine step_append_any _ rfl (.tmp 37) (.tmp 40) _ rfl wa.heap.size 215 i0 _ 2 32 Tryz.underlying168 Hi0.out Hz0.out Hz1.out Hz2.out rfl (by omega) v239 ((z + 1) + 1) _ rfl HZ244.out W240.heap.size _ (acc.length - (z + 1)) _ _ rfl (HRT.out W240 Hb245.out) HC2.out (by unfold maxLen; omega) (by omega) Hb245.out.size ?_
                          intro v246 W247 ho248 hg249 ha250
                          have HZ251 := Lib.hid ho248
                          have Hb252 : Hid (Below wa.heap.size wa W247) := Hb245.out.grown hg249 Hb245.out.size (fun g hg => ((HZ244.out.lt g hg).1))
                          clear ho248 hg249 ha250
                          refine hK.out _ _ Hb252.out (fun hHeld2 => ?_)
                          clear hK K hHeld
                          have hHeld := hHeld2
                          clear hHeld2
                          try simp only [List.getElem_toArray, List.getElem_cons_succ, List.getElem_cons_zero, Act.put, List.setIfInBounds_toArray, List.set_cons_zero, List.set_cons_succ]
                          refine wpAnyH_take (i := 12) (oi := _) (v := ?v12s253) rfl (by kernel_rfl) (by kernel_rfl) (by kernel_rfl) (fun _ _ _ h => h) (Or.inl ⟨by rfl, ?y12s253⟩) (by assumption) ?r12s253
                          case y12s253 => (intro w hSw; (try dsimp only at hSw); go_simp <;> with_reducible rfl)
                          try simp only [List.getElem_toArray, List.getElem_cons_succ, List.getElem_cons_zero, Act.put, List.setIfInBounds_toArray, List.set_cons_zero, List.set_cons_succ]
                          refine wpAnyH_done (by kernel_rfl) ?_ _
                          have HownF := Lib.hid (Hfin2.out _ _ HZ251.out)
                          have HbF := Lib.hid (below_then HbA.out Hb252.out)
                          go_wp2
                          go_roundw
                          case rel => exact ⟨x + 1, rins d acc, by go_num, by omega, hlen2, htk, fun h => absurd (congrArg List.length h) (by rw [hlen2.out]; simp), HownF, HbF⟩
                          case measure => simp [intOf] <;> omega
                  · go_simp
                    have HS256 : Hid (Blk (W190.alloc (.cells #[.string d.name, .string d.value] 215)) W190.heap.size 215 #[.string d.name, .string d.value]) := Blk.new W190 _ _
                    have Hb255 := Lib.hid (Hb191.out.alloc Hb191.out.size (.cells #[.string d.name, .string d.value] 215))
                    have HZ258 := Lib.hid (HZ192.out.alloc (.cells #[.string d.name, .string d.value] 215))
                    have hz257 : W190.heap.size < (W190.alloc (.cells #[.string d.name, .string d.value] 215)).heap.size := by simp
                    generalize W190.alloc (.cells #[.string d.name, .string d.value] 215) = W254 at *
                    refine hK.out _ _ Hb255.out (fun hHeld2 => ?_)
                    clear hK K hHeld
                    have hHeld := hHeld2
                    clear hHeld2
                    try simp only [List.getElem_toArray, List.getElem_cons_succ, List.getElem_cons_zero, Act.put, List.setIfInBounds_toArray, List.set_cons_zero, List.set_cons_succ]
                    refine wpAnyH_ready (rs := [4]) (by kernel_rfl) (by simp) ?_
                    refine AllReadyH.cons (o := _) rfl (fun K hK => ?_) (AllReadyH.nil)
                    · refine step_append_any _ rfl (.tmp 30) (.tmp 33) _ rfl wa.heap.size 215 i0 _ 2 32 Tryz.underlying168 Hi0.out Hz0.out Hz1.out Hz2.out rfl (by omega) (.slice (some ⟨Wd.heap.size, 0, none⟩) 0 0) 0 [] rfl HZ258.out W254.heap.size _ (z + 1) _ _ rfl (HR1.out W254 Hb255.out) HC1.out (by unfold maxLen; omega) (by omega) Hb255.out.size ?_
                      intro v259 W260 ho261 hg262 ha263
                      rw [Nat.zero_add, List.nil_append] at ho261
                      have HZ264 := Lib.hid ho261
                      have Hb265 : Hid (Below wa.heap.size wa W260) := Hb255.out.grown hg262 Hb255.out.size (fun g hg => ((HZ258.out.lt g hg).1))
                      have HS266 := Lib.hid (Keeps.blk ((Keeps.refl [Wd.heap.size] W254).grown hg262 (fun g hg => .inl (List.mem_singleton.2 (by injection hg with h; exact h.symm)))) HS256.out (by simp; omega))
                      clear ho261 hg262 ha263
                      refine hK.out _ _ Hb265.out (fun hHeld2 => ?_)
                      clear hK K hHeld
                      have hHeld := hHeld2
                      clear hHeld2
                      try simp only [List.getElem_toArray, List.getElem_cons_succ, List.getElem_cons_zero, Act.put, List.setIfInBounds_toArray, List.set_cons_zero, List.set_cons_succ]
                      refine wpAnyH_ready (rs := [7]) (by kernel_rfl) (by simp) ?_
                      refine AllReadyH.cons (o := _) rfl (fun K hK => ?_) (AllReadyH.nil)
                      · refine step_append_any _ rfl (.tmp 34) (.tmp 36) _ rfl wa.heap.size 215 i0 _ 2 32 Tryz.underlying168 Hi0.out Hz0.out Hz1.out Hz2.out rfl (by omega) v259 (z + 1) _ rfl HZ264.out W260.heap.size _ 1 1 (labEnc d) rfl (reads_blk HS266.out 1 2 rfl) (labEnc_oneC d) (by unfold maxLen; omega) (by omega) Hb265.out.size ?_
                        intro v267 W268 ho269 hg270 ha271
                        have HZ272 := Lib.hid ho269
                        have Hb273 : Hid (Below wa.heap.size wa W268) := Hb265.out.grown hg270 Hb265.out.size (fun g hg => ((HZ264.out.lt g hg).1))
                        clear ho269 hg270 ha271
                        refine hK.out _ _ Hb273.out (fun hHeld2 => ?_)
                        clear hK K hHeld
                        have hHeld := hHeld2
                        clear hHeld2
                        try simp only [List.getElem_toArray, List.getElem_cons_succ, List.getElem_cons_zero, Act.put, List.setIfInBounds_toArray, List.set_cons_zero, List.set_cons_succ]
                        refine wpAnyH_ready (rs := [11]) (by kernel_rfl) (by simp) ?_
                        refine AllReadyH.cons (o := _) rfl (fun K hK => ?_) (AllReadyH.nil)
                        · refine step_append_any _ rfl (.tmp 37) (.tmp 40) _ rfl wa.heap.size 215 i0 _ 2 32 Tryz.underlying168 Hi0.out Hz0.out Hz1.out Hz2.out rfl (by omega) v267 ((z + 1) + 1) _ rfl HZ272.out W268.heap.size _ (acc.length - (z + 1)) _ _ rfl (HRT.out W268 Hb273.out) HC2.out (by unfold maxLen; omega) (by omega) Hb273.out.size ?_
                          intro v274 W275 ho276 hg277 ha278
                          have HZ279 := Lib.hid ho276
                          have Hb280 : Hid (Below wa.heap.size wa W275) := Hb273.out.grown hg277 Hb273.out.size (fun g hg => ((HZ272.out.lt g hg).1))
                          clear ho276 hg277 ha278
                          refine hK.out _ _ Hb280.out (fun hHeld2 => ?_)
                          clear hK K hHeld
                          have hHeld := hHeld2
                          clear hHeld2
                          try simp only [List.getElem_toArray, List.getElem_cons_succ, List.getElem_cons_zero, Act.put, List.setIfInBounds_toArray, List.set_cons_zero, List.set_cons_succ]
                          refine wpAnyH_take (i := 12) (oi := _) (v := ?v12s281) rfl (by kernel_rfl) (by kernel_rfl) (by kernel_rfl) (fun _ _ _ h => h) (Or.inl ⟨by rfl, ?y12s281⟩) (by assumption) ?r12s281
                          case y12s281 => (intro w hSw; (try dsimp only at hSw); go_simp <;> with_reducible rfl)
                          try simp only [List.getElem_toArray, List.getElem_cons_succ, List.getElem_cons_zero, Act.put, List.setIfInBounds_toArray, List.set_cons_zero, List.set_cons_succ]
                          refine wpAnyH_done (by kernel_rfl) ?_ _
                          have HownF := Lib.hid (Hfin2.out _ _ HZ279.out)
                          have HbF := Lib.hid (below_then HbA.out Hb280.out)
                          go_wp2
                          go_roundw
                          case rel => exact ⟨x + 1, rins d acc, by go_num, by omega, hlen2, htk, fun h => absurd (congrArg List.length h) (by rw [hlen2.out]; simp), HownF, HbF⟩
                          case measure => simp [intOf] <;> omega
              · have e282 := (hb00.out.cell (p := ⟨g5, 0, none⟩) hg5).trans d0
                have e283 := (hb00.out.cell (p := ⟨g5, 1, none⟩) hg5).trans d1
                go_simp
                clear e282 e283
                refine hK.out _ _ hb00.out (fun hHeld2 => ?_)
                clear hK K hHeld
                have hHeld := hHeld2
                clear hHeld2
                try simp only [List.getElem_toArray, List.getElem_cons_succ, List.getElem_cons_zero, Act.put, List.setIfInBounds_toArray, List.set_cons_zero, List.set_cons_succ]
                refine wpAnyH_ready (rs := [0, 6]) (by kernel_rfl) (by simp) ?_
                refine AllReadyH.cons (o := _) rfl (fun K hK => ?_) (AllReadyH.cons (o := _) rfl (fun K hK => ?_) (AllReadyH.nil))
                · go_simp
                  have HZ286 : Hid ((Wd.alloc (.cells #[] 215)).ownsRow wa.heap.size 215 2 (.slice (some ⟨Wd.heap.size, 0, none⟩) 0 0) 0 []) := World.ownsRow_made Wd #[] 0 hb00.out.size (by unfold maxLen; omega) rfl
                  have Hb285 := Lib.hid (hb00.out.alloc hb00.out.size (.cells #[] 215))
                  have hz287 : Wd.heap.size < (Wd.alloc (.cells #[] 215)).heap.size := by simp
                  generalize Wd.alloc (.cells #[] 215) = W284 at *
                  refine hK.out _ _ Hb285.out (fun hHeld2 => ?_)
                  clear hK K hHeld
                  have hHeld := hHeld2
                  clear hHeld2
                  try simp only [List.getElem_toArray, List.getElem_cons_succ, List.getElem_cons_zero, Act.put, List.setIfInBounds_toArray, List.set_cons_zero, List.set_cons_succ]
                  refine wpAnyH_ready (rs := [4, 6]) (by kernel_rfl) (by simp) ?_
                  refine AllReadyH.cons (o := _) rfl (fun K hK => ?_) (AllReadyH.cons (o := _) rfl (fun K hK => ?_) (AllReadyH.nil))
                  · refine step_append_any _ rfl (.tmp 30) (.tmp 33) _ rfl wa.heap.size 215 i0 _ 2 32 Tryz.underlying168 Hi0.out Hz0.out Hz1.out Hz2.out rfl (by omega) (.slice (some ⟨Wd.heap.size, 0, none⟩) 0 0) 0 [] rfl HZ286.out W284.heap.size _ (z + 1) _ _ rfl (HR1.out W284 Hb285.out) HC1.out (by unfold maxLen; omega) (by omega) Hb285.out.size ?_
                    intro v288 W289 ho290 hg291 ha292
                    rw [Nat.zero_add, List.nil_append] at ho290
                    have HZ293 := Lib.hid ho290
                    have Hb294 : Hid (Below wa.heap.size wa W289) := Hb285.out.grown hg291 Hb285.out.size (fun g hg => ((HZ286.out.lt g hg).1))
                    clear ho290 hg291 ha292
                    refine hK.out _ _ Hb294.out (fun hHeld2 => ?_)
                    clear hK K hHeld
                    have hHeld := hHeld2
                    clear hHeld2
                    try simp only [List.getElem_toArray, List.getElem_cons_succ, List.getElem_cons_zero, Act.put, List.setIfInBounds_toArray, List.set_cons_zero, List.set_cons_succ]
                    refine wpAnyH_ready (rs := [6]) (by kernel_rfl) (by simp) ?_
                    refine AllReadyH.cons (o := _) rfl (fun K hK => ?_) (AllReadyH.nil)
                    · go_simp
                      have HS297 : Hid (Blk (W289.alloc (.cells #[.string d.name, .string d.value] 215)) W289.heap.size 215 #[.string d.name, .string d.value]) := Blk.new W289 _ _
                      have Hb296 := Lib.hid (Hb294.out.alloc Hb294.out.size (.cells #[.string d.name, .string d.value] 215))
                      have HZ299 := Lib.hid (HZ286.out.alloc (.cells #[.string d.name, .string d.value] 215))
                      have HZ300 := Lib.hid (HZ293.out.alloc (.cells #[.string d.name, .string d.value] 215))
                      have hz298 : W289.heap.size < (W289.alloc (.cells #[.string d.name, .string d.value] 215)).heap.size := by simp
                      generalize W289.alloc (.cells #[.string d.name, .string d.value] 215) = W295 at *
                      refine hK.out _ _ Hb296.out (fun hHeld2 => ?_)
                      clear hK K hHeld
                      have hHeld := hHeld2
                      clear hHeld2
                      try simp only [List.getElem_toArray, List.getElem_cons_succ, List.getElem_cons_zero, Act.put, List.setIfInBounds_toArray, List.set_cons_zero, List.set_cons_succ]
                      refine wpAnyH_ready (rs := [7]) (by kernel_rfl) (by simp) ?_
                      refine AllReadyH.cons (o := _) rfl (fun K hK => ?_) (AllReadyH.nil)
                      · refine step_append_any _ rfl (.tmp 34) (.tmp 36) _ rfl wa.heap.size 215 i0 _ 2 32 Tryz.underlying168 Hi0.out Hz0.out Hz1.out Hz2.out rfl (by omega) v288 (z + 1) _ rfl HZ300.out W295.heap.size _ 1 1 (labEnc d) rfl (reads_blk HS297.out 1 2 rfl) (labEnc_oneC d) (by unfold maxLen; omega) (by omega) Hb296.out.size ?_
                        intro v301 W302 ho303 hg304 ha305
                        have HZ306 := Lib.hid ho303
                        have Hb307 : Hid (Below wa.heap.size wa W302) := Hb296.out.grown hg304 Hb296.out.size (fun g hg => ((HZ300.out.lt g hg).1))
                        clear ho303 hg304 ha305
                        refine hK.out _ _ Hb307.out (fun hHeld2 => ?_)
                        clear hK K hHeld
                        have hHeld := hHeld2
                        clear hHeld2
                        try simp only [List.getElem_toArray, List.getElem_cons_succ, List.getElem_cons_zero, Act.put, List.setIfInBounds_toArray, List.set_cons_zero, List.set_cons_succ]
                        refine wpAnyH_ready (rs := [11]) (by kernel_rfl) (by simp) ?_
                        refine AllReadyH.cons (o := _) rfl (fun K hK => ?_) (AllReadyH.nil)
                        · refine step_append_any _ rfl (.tmp 37) (.tmp 40) _ rfl wa.heap.size 215 i0 _ 2 32 Tryz.underlying168 Hi0.out Hz0.out Hz1.out Hz2.out rfl (by omega) v301 ((z + 1) + 1) _ rfl HZ306.out W302.heap.size _ (acc.length - (z + 1)) _ _ rfl (HRT.out W302 Hb307.out) HC2.out (by unfold maxLen; omega) (by omega) Hb307.out.size ?_
                          intro v308 W309 ho310 hg311 ha312
                          have HZ313 := Lib.hid ho310
                          have Hb314 : Hid (Below wa.heap.size wa W309) := Hb307.out.grown hg311 Hb307.out.size (fun g hg => ((HZ306.out.lt g hg).1))
                          clear ho310 hg311 ha312
                          refine hK.out _ _ Hb314.out (fun hHeld2 => ?_)
                          clear hK K hHeld
                          have hHeld := hHeld2
                          clear hHeld2
                          try simp only [List.getElem_toArray, List.getElem_cons_succ, List.getElem_cons_zero, Act.put, List.setIfInBounds_toArray, List.set_cons_zero, List.set_cons_succ]
                          refine wpAnyH_take (i := 12) (oi := _) (v := ?v12s315) rfl (by kernel_rfl) (by kernel_rfl) (by kernel_rfl) (fun _ _ _ h => h) (Or.inl ⟨by rfl, ?y12s315⟩) (by assumption) ?r12s315
                          case y12s315 => (intro w hSw; (try dsimp only at hSw); go_simp <;> with_reducible rfl)
                          try simp only [List.getElem_toArray, List.getElem_cons_succ, List.getElem_cons_zero, Act.put, List.setIfInBounds_toArray, List.set_cons_zero, List.set_cons_succ]
                          refine wpAnyH_done (by kernel_rfl) ?_ _
                          have HownF := Lib.hid (Hfin2.out _ _ HZ313.out)
                          have HbF := Lib.hid (below_then HbA.out Hb314.out)
                          go_wp2
                          go_roundw
                          case rel => exact ⟨x + 1, rins d acc, by go_num, by omega, hlen2, htk, fun h => absurd (congrArg List.length h) (by rw [hlen2.out]; simp), HownF, HbF⟩
                          case measure => simp [intOf] <;> omega
                  · go_simp
                    have HS318 : Hid (Blk (W284.alloc (.cells #[.string d.name, .string d.value] 215)) W284.heap.size 215 #[.string d.name, .string d.value]) := Blk.new W284 _ _
                    have Hb317 := Lib.hid (Hb285.out.alloc Hb285.out.size (.cells #[.string d.name, .string d.value] 215))
                    have HZ320 := Lib.hid (HZ286.out.alloc (.cells #[.string d.name, .string d.value] 215))
                    have hz319 : W284.heap.size < (W284.alloc (.cells #[.string d.name, .string d.value] 215)).heap.size := by simp
                    generalize W284.alloc (.cells #[.string d.name, .string d.value] 215) = W316 at *
                    refine hK.out _ _ Hb317.out (fun hHeld2 => ?_)
                    clear hK K hHeld
                    have hHeld := hHeld2
                    clear hHeld2
                    try simp only [List.getElem_toArray, List.getElem_cons_succ, List.getElem_cons_zero, Act.put, List.setIfInBounds_toArray, List.set_cons_zero, List.set_cons_succ]
                    refine wpAnyH_ready (rs := [4]) (by kernel_rfl) (by simp) ?_
                    refine AllReadyH.cons (o := _) rfl (fun K hK => ?_) (AllReadyH.nil)
                    · refine step_append_any _ rfl (.tmp 30) (.tmp 33) _ rfl wa.heap.size 215 i0 _ 2 32 Tryz.underlying168 Hi0.out Hz0.out Hz1.out Hz2.out rfl (by omega) (.slice (some ⟨Wd.heap.size, 0, none⟩) 0 0) 0 [] rfl HZ320.out W316.heap.size _ (z + 1) _ _ rfl (HR1.out W316 Hb317.out) HC1.out (by unfold maxLen; omega) (by omega) Hb317.out.size ?_
                      intro v321 W322 ho323 hg324 ha325
                      rw [Nat.zero_add, List.nil_append] at ho323
                      have HZ326 := Lib.hid ho323
                      have Hb327 : Hid (Below wa.heap.size wa W322) := Hb317.out.grown hg324 Hb317.out.size (fun g hg => ((HZ320.out.lt g hg).1))
                      have HS328 := Lib.hid (Keeps.blk ((Keeps.refl [Wd.heap.size] W316).grown hg324 (fun g hg => .inl (List.mem_singleton.2 (by injection hg with h; exact h.symm)))) HS318.out (by simp; omega))
                      clear ho323 hg324 ha325
                      refine hK.out _ _ Hb327.out (fun hHeld2 => ?_)
                      clear hK K hHeld
                      have hHeld := hHeld2
                      clear hHeld2
                      try simp only [List.getElem_toArray, List.getElem_cons_succ, List.getElem_cons_zero, Act.put, List.setIfInBounds_toArray, List.set_cons_zero, List.set_cons_succ]
                      refine wpAnyH_ready (rs := [7]) (by kernel_rfl) (by simp) ?_
                      refine AllReadyH.cons (o := _) rfl (fun K hK => ?_) (AllReadyH.nil)
                      · refine step_append_any _ rfl (.tmp 34) (.tmp 36) _ rfl wa.heap.size 215 i0 _ 2 32 Tryz.underlying168 Hi0.out Hz0.out Hz1.out Hz2.out rfl (by omega) v321 (z + 1) _ rfl HZ326.out W322.heap.size _ 1 1 (labEnc d) rfl (reads_blk HS328.out 1 2 rfl) (labEnc_oneC d) (by unfold maxLen; omega) (by omega) Hb327.out.size ?_
                        intro v329 W330 ho331 hg332 ha333
                        have HZ334 := Lib.hid ho331
                        have Hb335 : Hid (Below wa.heap.size wa W330) := Hb327.out.grown hg332 Hb327.out.size (fun g hg => ((HZ326.out.lt g hg).1))
                        clear ho331 hg332 ha333
                        refine hK.out _ _ Hb335.out (fun hHeld2 => ?_)
                        clear hK K hHeld
                        have hHeld := hHeld2
                        clear hHeld2
                        try simp only [List.getElem_toArray, List.getElem_cons_succ, List.getElem_cons_zero, Act.put, List.setIfInBounds_toArray, List.set_cons_zero, List.set_cons_succ]
                        refine wpAnyH_ready (rs := [11]) (by kernel_rfl) (by simp) ?_
                        refine AllReadyH.cons (o := _) rfl (fun K hK => ?_) (AllReadyH.nil)
                        · refine step_append_any _ rfl (.tmp 37) (.tmp 40) _ rfl wa.heap.size 215 i0 _ 2 32 Tryz.underlying168 Hi0.out Hz0.out Hz1.out Hz2.out rfl (by omega) v329 ((z + 1) + 1) _ rfl HZ334.out W330.heap.size _ (acc.length - (z + 1)) _ _ rfl (HRT.out W330 Hb335.out) HC2.out (by unfold maxLen; omega) (by omega) Hb335.out.size ?_
                          intro v336 W337 ho338 hg339 ha340
                          have HZ341 := Lib.hid ho338
                          have Hb342 : Hid (Below wa.heap.size wa W337) := Hb335.out.grown hg339 Hb335.out.size (fun g hg => ((HZ334.out.lt g hg).1))
                          clear ho338 hg339 ha340
                          refine hK.out _ _ Hb342.out (fun hHeld2 => ?_)
                          clear hK K hHeld
                          have hHeld := hHeld2
                          clear hHeld2
                          try simp only [List.getElem_toArray, List.getElem_cons_succ, List.getElem_cons_zero, Act.put, List.setIfInBounds_toArray, List.set_cons_zero, List.set_cons_succ]
                          refine wpAnyH_take (i := 12) (oi := _) (v := ?v12s343) rfl (by kernel_rfl) (by kernel_rfl) (by kernel_rfl) (fun _ _ _ h => h) (Or.inl ⟨by rfl, ?y12s343⟩) (by assumption) ?r12s343
                          case y12s343 => (intro w hSw; (try dsimp only at hSw); go_simp <;> with_reducible rfl)
                          try simp only [List.getElem_toArray, List.getElem_cons_succ, List.getElem_cons_zero, Act.put, List.setIfInBounds_toArray, List.set_cons_zero, List.set_cons_succ]
                          refine wpAnyH_done (by kernel_rfl) ?_ _
                          have HownF := Lib.hid (Hfin2.out _ _ HZ341.out)
                          have HbF := Lib.hid (below_then HbA.out Hb342.out)
                          go_wp2
                          go_roundw
                          case rel => exact ⟨x + 1, rins d acc, by go_num, by omega, hlen2, htk, fun h => absurd (congrArg List.length h) (by rw [hlen2.out]; simp), HownF, HbF⟩
                          case measure => simp [intOf] <;> omega
                · go_simp
                  have HS346 : Hid (Blk (Wd.alloc (.cells #[.string d.name, .string d.value] 215)) Wd.heap.size 215 #[.string d.name, .string d.value]) := Blk.new Wd _ _
                  have Hb345 := Lib.hid (hb00.out.alloc hb00.out.size (.cells #[.string d.name, .string d.value] 215))
                  have hz347 : Wd.heap.size < (Wd.alloc (.cells #[.string d.name, .string d.value] 215)).heap.size := by simp
                  generalize Wd.alloc (.cells #[.string d.name, .string d.value] 215) = W344 at *
                  refine hK.out _ _ Hb345.out (fun hHeld2 => ?_)
                  clear hK K hHeld
                  have hHeld := hHeld2
                  clear hHeld2
                  try simp only [List.getElem_toArray, List.getElem_cons_succ, List.getElem_cons_zero, Act.put, List.setIfInBounds_toArray, List.set_cons_zero, List.set_cons_succ]
                  refine wpAnyH_ready (rs := [0]) (by kernel_rfl) (by simp) ?_
                  refine AllReadyH.cons (o := _) rfl (fun K hK => ?_) (AllReadyH.nil)
                  · go_simp
                    have HZ350 : Hid ((W344.alloc (.cells #[] 215)).ownsRow wa.heap.size 215 2 (.slice (some ⟨W344.heap.size, 0, none⟩) 0 0) 0 []) := World.ownsRow_made W344 #[] 0 Hb345.out.size (by unfold maxLen; omega) rfl
                    have Hb349 := Lib.hid (Hb345.out.alloc Hb345.out.size (.cells #[] 215))
                    have HS352 := Lib.hid (Keeps.blk ((Keeps.refl [] W344).alloc (.cells #[] 215)) HS346.out (by simp))
                    have hlt353 : Wd.heap.size < W344.heap.size := HS346.out.lt
                    have hz351 : W344.heap.size < (W344.alloc (.cells #[] 215)).heap.size := by simp
                    generalize W344.alloc (.cells #[] 215) = W348 at *
                    refine hK.out _ _ Hb349.out (fun hHeld2 => ?_)
                    clear hK K hHeld
                    have hHeld := hHeld2
                    clear hHeld2
                    try simp only [List.getElem_toArray, List.getElem_cons_succ, List.getElem_cons_zero, Act.put, List.setIfInBounds_toArray, List.set_cons_zero, List.set_cons_succ]
                    refine wpAnyH_ready (rs := [4]) (by kernel_rfl) (by simp) ?_
                    refine AllReadyH.cons (o := _) rfl (fun K hK => ?_) (AllReadyH.nil)
                    · refine step_append_any _ rfl (.tmp 30) (.tmp 33) _ rfl wa.heap.size 215 i0 _ 2 32 Tryz.underlying168 Hi0.out Hz0.out Hz1.out Hz2.out rfl (by omega) (.slice (some ⟨W344.heap.size, 0, none⟩) 0 0) 0 [] rfl HZ350.out W348.heap.size _ (z + 1) _ _ rfl (HR1.out W348 Hb349.out) HC1.out (by unfold maxLen; omega) (by omega) Hb349.out.size ?_
                      intro v354 W355 ho356 hg357 ha358
                      rw [Nat.zero_add, List.nil_append] at ho356
                      have HZ359 := Lib.hid ho356
                      have Hb360 : Hid (Below wa.heap.size wa W355) := Hb349.out.grown hg357 Hb349.out.size (fun g hg => ((HZ350.out.lt g hg).1))
                      have HS361 := Lib.hid (Keeps.blk ((Keeps.refl [W344.heap.size] W348).grown hg357 (fun g hg => .inl (List.mem_singleton.2 (by injection hg with h; exact h.symm)))) HS352.out (by simp; omega))
                      clear ho356 hg357 ha358
                      refine hK.out _ _ Hb360.out (fun hHeld2 => ?_)
                      clear hK K hHeld
                      have hHeld := hHeld2
                      clear hHeld2
                      try simp only [List.getElem_toArray, List.getElem_cons_succ, List.getElem_cons_zero, Act.put, List.setIfInBounds_toArray, List.set_cons_zero, List.set_cons_succ]
                      refine wpAnyH_ready (rs := [7]) (by kernel_rfl) (by simp) ?_
                      refine AllReadyH.cons (o := _) rfl (fun K hK => ?_) (AllReadyH.nil)
                      · refine step_append_any _ rfl (.tmp 34) (.tmp 36) _ rfl wa.heap.size 215 i0 _ 2 32 Tryz.underlying168 Hi0.out Hz0.out Hz1.out Hz2.out rfl (by omega) v354 (z + 1) _ rfl HZ359.out W355.heap.size _ 1 1 (labEnc d) rfl (reads_blk HS361.out 1 2 rfl) (labEnc_oneC d) (by unfold maxLen; omega) (by omega) Hb360.out.size ?_
                        intro v362 W363 ho364 hg365 ha366
                        have HZ367 := Lib.hid ho364
                        have Hb368 : Hid (Below wa.heap.size wa W363) := Hb360.out.grown hg365 Hb360.out.size (fun g hg => ((HZ359.out.lt g hg).1))
                        clear ho364 hg365 ha366
                        refine hK.out _ _ Hb368.out (fun hHeld2 => ?_)
                        clear hK K hHeld
                        have hHeld := hHeld2
                        clear hHeld2
                        try simp only [List.getElem_toArray, List.getElem_cons_succ, List.getElem_cons_zero, Act.put, List.setIfInBounds_toArray, List.set_cons_zero, List.set_cons_succ]
                        refine wpAnyH_ready (rs := [11]) (by kernel_rfl) (by simp) ?_
                        refine AllReadyH.cons (o := _) rfl (fun K hK => ?_) (AllReadyH.nil)
                        · refine step_append_any _ rfl (.tmp 37) (.tmp 40) _ rfl wa.heap.size 215 i0 _ 2 32 Tryz.underlying168 Hi0.out Hz0.out Hz1.out Hz2.out rfl (by omega) v362 ((z + 1) + 1) _ rfl HZ367.out W363.heap.size _ (acc.length - (z + 1)) _ _ rfl (HRT.out W363 Hb368.out) HC2.out (by unfold maxLen; omega) (by omega) Hb368.out.size ?_
                          intro v369 W370 ho371 hg372 ha373
                          have HZ374 := Lib.hid ho371
                          have Hb375 : Hid (Below wa.heap.size wa W370) := Hb368.out.grown hg372 Hb368.out.size (fun g hg => ((HZ367.out.lt g hg).1))
                          clear ho371 hg372 ha373
                          refine hK.out _ _ Hb375.out (fun hHeld2 => ?_)
                          clear hK K hHeld
                          have hHeld := hHeld2
                          clear hHeld2
                          try simp only [List.getElem_toArray, List.getElem_cons_succ, List.getElem_cons_zero, Act.put, List.setIfInBounds_toArray, List.set_cons_zero, List.set_cons_succ]
                          refine wpAnyH_take (i := 12) (oi := _) (v := ?v12s376) rfl (by kernel_rfl) (by kernel_rfl) (by kernel_rfl) (fun _ _ _ h => h) (Or.inl ⟨by rfl, ?y12s376⟩) (by assumption) ?r12s376
                          case y12s376 => (intro w hSw; (try dsimp only at hSw); go_simp <;> with_reducible rfl)
                          try simp only [List.getElem_toArray, List.getElem_cons_succ, List.getElem_cons_zero, Act.put, List.setIfInBounds_toArray, List.set_cons_zero, List.set_cons_succ]
                          refine wpAnyH_done (by kernel_rfl) ?_ _
                          have HownF := Lib.hid (Hfin2.out _ _ HZ374.out)
                          have HbF := Lib.hid (below_then HbA.out Hb375.out)
                          go_wp2
                          go_roundw
                          case rel => exact ⟨x + 1, rins d acc, by go_num, by omega, hlen2, htk, fun h => absurd (congrArg List.length h) (by rw [hlen2.out]; simp), HownF, HbF⟩
                          case measure => simp [intOf] <;> omega
    · obtain rfl : x = l.length := by omega
      have hfin : Hid (rsortL l = acc) := by show _ = _; rw [HS.out, ← Hacc.out, List.take_length]
      have hp : Hid (∃ v', Ending.returned u3 = .returned v' ∧ wr.ownsRow w.heap.size 215 2 v' (rsortL l).length ((rsortL l).flatMap labEnc) ∧ Below w.heap.size w wr) := by
        show ∃ _, _
        rw [hfin.out]
        exact ⟨_, rfl, Hown.out, Hbr.out⟩
      go_wp2
      go_ret
      exact hp.out
end Go.Proofs.YtinnifhnabncfaaGreatDoor.Vi
end
