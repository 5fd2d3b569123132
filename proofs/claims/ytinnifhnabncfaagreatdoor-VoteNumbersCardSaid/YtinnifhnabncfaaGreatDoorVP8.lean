/- Texts put together: RefB, RefC, RefD, RefE, Ref5. -/
import Derived.StillTailTactics
import Derived.Test.YtinnifhnabncfaaGreatDoorVP1
import Derived.Test.YtinnifhnabncfaaGreatDoorVP2
import Derived.Test.YtinnifhnabncfaaGreatDoorVP4
import Derived.Test.YtinnifhnabncfaaGreatDoorVP6
import Derived.Test.YtinnifhnabncfaaGreatDoorVP7
set_option linter.unusedVariables false
set_option linter.unusedSimpArgs false
section
namespace Go.Proofs.YtinnifhnabncfaaGreatDoor.Vi
open Go.RowKit Base Mem Go.Shelf
theorem reads_blk {w : World} {g : Nat} {t : TypeId} {xs : List Value} (h : Blk w g t xs.toArray) (m size : Nat) (hl : xs.length = m * size) : Reads w w.heap.size size (some ⟨g, 0, none⟩) m xs :=
 ⟨hl, fun _ => ⟨_, rfl, h.lt, fun j u hu => by rw [show (⟨g, 0, none⟩ : Addr).add j = ⟨g, j, none⟩ by unfold Addr.add; split <;> simp_all, h.cell j]; simpa using hu⟩⟩
theorem Reads.headN {w : World} {B size n : Nat} {A : Option Addr} {xs : List Value} (h : Reads w B size A n xs) {y : Nat} (hy : y ≤ n) : Reads w B size A y (xs.take (y * size)) := by
 refine ⟨?_, fun hn => ?_⟩
 ·rw [List.length_take, h.1]
  exact Nat.min_eq_left (Nat.mul_le_mul_right _ hy)
 ·obtain ⟨ad, e, hb, hc⟩ := h.2 (by omega)
  refine ⟨ad, e, hb, fun j u hu => hc j u ?_⟩
  rw [List.getElem?_take] at hu
  split at hu
  ·exact hu
  ·cases hu
theorem labEnc_oneC (d : LabD) : ∀ u ∈ labEnc d, u.oneCell' = true := by
 intro u hu
 simp [labEnc] at hu
 rcases hu with rfl | rfl <;> rfl
theorem lab_take (l : List LabD) (y : Nat) : (l.flatMap labEnc).take (y * 2) = (l.take y).flatMap labEnc := by
 induction l generalizing y with
 | nil => simp
 | cons a l ih =>
  cases y with
  | zero => simp
  | succ y =>
   rw [List.flatMap_cons, List.take_succ_cons, List.flatMap_cons, ← ih, show (y + 1) * 2 = y * 2 + 2 by omega, List.take_append, show (labEnc a).length = 2 from rfl, List.take_of_length_le (by simp [labEnc])]
   simp
theorem lab_drop (l : List LabD) (y : Nat) : (l.flatMap labEnc).drop (y * 2) = (l.drop y).flatMap labEnc := by
 induction l generalizing y with
 | nil => simp
 | cons a l ih =>
  cases y with
  | zero => simp
  | succ y =>
   rw [List.flatMap_cons, List.drop_succ_cons, ← ih, show (y + 1) * 2 = 2 + y * 2 by omega, ← List.drop_drop]
   rfl
theorem infoLabS : (Tryz.prog.info? 215).map (fun i => (i.zero, i.size, i.bytes)) = some (some (.agg #[.string ⟨#[]⟩, .string ⟨#[]⟩]), 2, 32) := by kernel_rfl
theorem rins_step {d : LabD} {acc : List LabD} {y : Nat} (hy : y < acc.length) (h : rins d acc = rins d (acc.take (y + 1)) ++ acc.drop (y + 1)) (hl : sLt d.name acc[y].name = true) : rins d acc = rins d (acc.take y) ++ acc.drop y := by
 rw [h, List.take_succ_eq_append_getElem hy, List.drop_eq_getElem_cons hy]
 unfold rins
 rw [List.reverse_append, List.reverse_singleton, List.singleton_append, rinsR, if_pos hl, List.reverse_cons, List.append_assoc]
 rfl
theorem rins_stop {d : LabD} {acc : List LabD} {y : Nat} (h : rins d acc = rins d (acc.take y) ++ acc.drop y) (hy : y ≤ acc.length) (hl : ∀ (h : 0 < y), sLt d.name (acc[y - 1]'(by omega)).name = false) : rins d acc = acc.take y ++ [d] ++ acc.drop y := by
 rw [h]
 congr 1
 cases y with
 | zero => rfl
 | succ y =>
  have := hl (by omega)
  rw [List.take_succ_eq_append_getElem (by omega)]
  unfold rins
  rw [List.reverse_append, List.reverse_singleton, List.singleton_append, rinsR, if_neg (by simpa using this)]
  simp
set_option maxRecDepth 100000 in
set_option maxHeartbeats 8000000 in
theorem rsort_any (v : Value) (l : List LabD) (w : World) (h : Labs w [] v l) (hl : l.length ≤ 1099511627776) :
  Calls Tryz.prog 194 #[v] w fun e w' => ∃ v', e = .returned v' ∧ w'.ownsRow w.heap.size 215 2 v' (rsortL l).length ((rsortL l).flatMap labEnc) ∧ Below w.heap.size w w' := by
 obtain ⟨i0, hi0, hz0, hz1, hz2⟩ := info_parts infoLabS
 have Hi0 := Lib.hid hi0; have Hz0 := Lib.hid hz0; have Hz1 := Lib.hid hz1; have Hz2 := Lib.hid hz2
 clear hi0 hz0 hz1 hz2
 have HL := Lib.hid h
 have HS : Hid (rsortL l = l.foldl (fun out x => rins x out) []) := rfl
 obtain ⟨A, c, rfl, hc⟩ := h.len
 clear h
 go_enter Tryz.func194, Tryz.ntmps194
 go_wp2_with fail
 go_loopw [3, 9] (fun out i wr => ∃ (x : Nat) (acc : List LabD), i = .int .i64 x ∧ x ≤ l.length ∧ Hid (acc.length = x) ∧ Hid ((l.take x).foldl (fun out x => rins x out) [] = acc) ∧ Hid (acc = [] → out = .slice none 0 0) ∧ Hid (wr.ownsRow w.heap.size 215 2 out acc.length (acc.flatMap labEnc)) ∧ Hid (Below w.heap.size w wr)) (fun _ i _ => l.length - (intOf i).toNat)
 case atStart => exact ⟨0, [], rfl, by omega, rfl, rfl, fun _ => rfl, World.ownsRow_nil _ _ _ _, Below.refl _ _⟩
 case round =>
  obtain ⟨x, acc, rfl, hx, Hal, Hacc, Hnil, Hown, Hbr⟩ := hrel
  by_cases hlt : x < l.length
  ·have hx1 : (x : Int) < (l.length : Int) := by omega
   obtain ⟨gl, ofl, _, e1, hgl, c0, c1⟩ := (HL.out.keep (Keeps.of_below (M := []) Hbr.out) (by simp)).at_ hlt
   obtain rfl : A = some ⟨gl, ofl, none⟩ := by injection e1
   clear e1
   have htk : Hid ((l.take (x + 1)).foldl (fun out x => rins x out) [] = rins l[x] acc) := by
    show _ = _
    rw [List.take_succ_eq_append_getElem hlt, List.foldl_append, Hacc.out]; rfl
   have hlen2 : Hid ((rins l[x] acc).length = x + 1) := by
    show _ = _
    unfold rins
    rw [List.length_reverse, (rinsR_perm l[x] _).length_eq]
    simp [Hal.out]
   generalize l[x] = d at *
   have hA : Hid (∃ Ao co, u3 = .slice Ao acc.length co ∧ acc.length ≤ co ∧ (acc = [] → Ao = none ∧ co = 0) ∧ (acc ≠ [] → ∃ g, Ao = some ⟨g, 0, none⟩)) := by
    show ∃ _ _, _
    by_cases hz : acc = []
    ·rw [Hnil.out hz, hz]
     exact ⟨none, 0, rfl, Nat.le_refl _, fun _ => ⟨rfl, rfl⟩, fun h => absurd rfl h⟩
    ·obtain ⟨g, cap, hv, _, _⟩ := Hown.out.form (List.length_pos_iff.2 hz)
     obtain ⟨Ao, co, hv2, hco⟩ := (show Labs wr [] u3 acc from Rd.of_own Hown.out (by simp)).len
     rw [hv] at hv2
     injection hv2 with h1 _ h3
     subst h1 h3
     exact ⟨_, _, hv, hco, fun h => absurd h hz, fun _ => ⟨g, rfl⟩⟩
   obtain ⟨Ao, co, rfl, hco, hAn, hAs⟩ := hA.out
   have HAn := Lib.hid hAn; have HAs := Lib.hid hAs
   clear hA hAn hAs
   -- the item's block
   have hBx := Blk.new wr 215 #[.string d.name, .string d.value]
   have HbA := Lib.hid (Hbr.out.alloc Hbr.out.size (.cells #[.string d.name, .string d.value] 215))
   have HownA := Lib.hid (Hown.out.alloc (.cells #[.string d.name, .string d.value] 215))
   have hg5 : wr.heap.size < (wr.alloc (.cells #[.string d.name, .string d.value] 215)).heap.size := by simp
   have d0 := hBx.cell 0; have d1 := hBx.cell 1
   simp only [List.getElem?_toArray, List.getElem?_cons_succ, List.getElem?_cons_zero] at d0 d1
   clear hBx
   have hlen1 : (acc.length : Int) ≤ (co : Int) := by omega
   go_upto_region 5 with (fail)
   generalize wr.alloc (.cells #[.string d.name, .string d.value] 215) = wa at *
   generalize wr.heap.size = g5 at *
   clear c0 c1
   have HD0 := Lib.hid d0; have HD1 := Lib.hid d1
   go_wp2_with fail
   go_loopw [6] (fun k wi => ∃ y q : Nat, k = .int .i64 y ∧ y ≤ acc.length ∧ Hid (rins d acc = rins d (acc.take y) ++ acc.drop y) ∧ wi = wa.drewN q) (fun k _ => (intOf k).toNat)
   case atStart => exact ⟨acc.length, 0, rfl, by omega, (show rins d acc = _ by rw [List.take_length, List.drop_length, List.append_nil]), rfl⟩
   case round =>
    obtain ⟨y, q, rfl, hy, Hin, rfl⟩ := hrel
    have hxb : acc.length ≤ 1099511627776 := by have := Hal.out; omega
    have hyl : (y : Int) ≤ (acc.length : Int) := by omega
    have hyc : (y : Int) ≤ (co : Int) := by omega
    have hstop : Hid ((∀ (h : 0 < y), sLt d.name (acc[y - 1]'(by omega)).name = false) → rins d acc = acc.take y ++ [d] ++ acc.drop y) := fun h => rins_stop Hin.out hy h
    have HbI : Hid (∀ n, Below wa.heap.size wa ((wa.drewN q).drewN n).drew) := fun n => (((Keeps.refl [] wa).drewN q).drewN n).drew.below
    have HC1 : Hid (∀ u ∈ (acc.take y).flatMap labEnc, u.oneCell' = true) := labEnc_one _
    have HC2 : Hid (∀ u ∈ (acc.drop y).flatMap labEnc, u.oneCell' = true) := labEnc_one _
    have hrd0 := Lib.hid (fun W (hb : Below wa.heap.size wa W) => Reads.of_own (own_below HownA.out hb))
    have HR1 : Hid (∀ W, Below wa.heap.size wa W → Reads W W.heap.size 2 Ao y ((acc.take y).flatMap labEnc)) := fun W hb => by
     have := Reads.headN (hrd0.out W hb) hy
     rwa [lab_take] at this
    have HR2 : Hid (∀ W, Below wa.heap.size wa W → Reads W W.heap.size 2 (if co = y then Ao else Ao.map (·.add (y * 2))) (acc.length - y) ((acc.drop y).flatMap labEnc)) := fun W hb => by
     have := Reads.cut (hrd0.out W hb) hy hco
     rwa [lab_drop] at this
    clear hrd0
    have hfin : Hid (rins d acc = acc.take y ++ [d] ++ acc.drop y → ∀ (v : Value) (W : World), W.ownsRow wa.heap.size 215 2 v (y + 1 + (acc.length - y)) ((acc.take y).flatMap labEnc ++ labEnc d ++ (acc.drop y).flatMap labEnc) → W.ownsRow w.heap.size 215 2 v (rins d acc).length ((rins d acc).flatMap labEnc)) := fun h v W ho => by
     rw [h]
     have e1 : (acc.take y ++ [d] ++ acc.drop y).length = y + 1 + (acc.length - y) := by simp; omega
     rw [e1, List.flatMap_append, List.flatMap_append, List.flatMap_singleton]
     exact own_more ho HbA.out.size
    rcases Nat.eq_zero_or_pos y with hy0 | hy0
    case' inl =>
     obtain rfl : y = 0 := hy0
     have Hfin2 := Lib.hid (hfin.out (hstop.out (fun h => absurd h (by omega))))
     clear hfin hstop Hin
     go_wp2_with fail
     go_quiet (fail)
     go_wp2_with fail
     by_cases hz : acc = []
     case' pos =>
      obtain ⟨rfl, rfl⟩ := HAn.out hz
      have hal0 : acc.length = 0 := by rw [hz]; rfl
      have HRT : Hid (∀ W, Below wa.heap.size wa W → Reads W W.heap.size 2 none 0 ((acc.drop 0).flatMap labEnc)) := fun W hb => by
       have := HR2.out W hb
       rwa [if_pos rfl, hal0] at this
      rw [hal0] at Hfin2
      clear HR2 hz
     case' neg =>
      obtain ⟨g, rfl⟩ := HAs.out hz
      have hap : 0 < acc.length := List.length_pos_iff.2 hz
      have hcy : ¬ co = 0 := by omega
      have HRT : Hid (∀ W, Below wa.heap.size wa W → Reads W W.heap.size 2 (some ⟨g, 0, none⟩) acc.length ((acc.drop 0).flatMap labEnc)) := fun W hb => by
       have := HR2.out W hb
       rwa [if_neg hcy, Option.map_some, addr_add] at this
      clear HR2 hz
    case' inr =>
     obtain ⟨z, rfl⟩ : ∃ z, y = z + 1 := ⟨y - 1, by omega⟩
     have hzl : z < acc.length := by omega
     obtain ⟨g, rfl⟩ := HAs.out (by intro h; rw [h] at hzl; simp at hzl)
     obtain ⟨g2, off2, _, e2, hg2, p0, _⟩ := (show Labs wa [] _ acc from Rd.of_own HownA.out (by simp)).at_ hzl
     obtain ⟨rfl, rfl⟩ : g = g2 ∧ 0 = off2 := by injection e2 with e2 _ _; injection e2 with e2; injection e2 with h1 h2; exact ⟨h1, h2⟩
     clear e2
     rw [Nat.zero_add] at p0
     have hw1 : IntKind.i64.wrap ((z : Int) + 1 - 1) = (z : Int) := by rw [IntKind.wrap_i64]; omega
     have hw2 : IntKind.i64.wrap (z : Int) = (z : Int) := by rw [IntKind.wrap_i64]; omega
     have hz1 : (z : Int) + 1 - 1 = (z : Int) := by omega
     have hz2 : (0 : Int) ≤ (z : Int) := by omega
     have hz3 : ((z : Int)).toNat = z := by omega
     have hz4 : (z : Int) < (acc.length : Int) := by omega
     have hz5 : (0 : Int) < (z : Int) + 1 := by omega
     have Hst := Lib.hid (fun h => rins_step hzl Hin.out h)
     have Hfin := Lib.hid (fun (h : sLt d.name acc[z].name = false) => hfin.out (hstop.out (fun _ => h)))
     clear hfin hstop Hin
     generalize acc[z].name = pn at *
     by_cases hlt2 : sLt d.name pn = true
     case' pos =>
      have hlt3 : Op.bytesLess d.name.toList pn.toList = true := hlt2
      have Hst2 := Lib.hid (Hst.out hlt2)
      clear Hst Hfin hlt2 HR1 HR2 HC1 HC2 HbI
      go_wp2_with fail
      go_quiet (fail)
      go_wp2
      go_roundw
      case rel => exact ⟨z, _, rfl, by omega, Hst2, rfl⟩
      case measure => simp [intOf] <;> omega
     case' neg =>
      have hlt3 : Op.bytesLess d.name.toList pn.toList = false := by simpa [sLt] using hlt2
      have Hfin2 := Lib.hid (Hfin.out (by simpa using hlt2))
      clear Hst Hfin hlt2
      go_wp2_with fail
      go_quiet (fail)
      clear p0 hw1 hw2 hz1 hz2 hz3 hz4 hz5
      have hq1 : (z : Int) + 1 ≤ (acc.length : Int) := by omega
      have hq2 : (z : Int) + 1 ≤ (co : Int) := by omega
      have hq3 : (0 : Int) ≤ (z : Int) + 1 := by omega
      have hq4 : ((z : Int) + 1).toNat = z + 1 := by omega
      go_wp2_with fail
      by_cases hcy : co = z + 1
      case' pos =>
       subst hcy
       have HRT : Hid (∀ W, Below wa.heap.size wa W → Reads W W.heap.size 2 (some ⟨g, 0, none⟩) 0 ((acc.drop (z + 1)).flatMap labEnc)) := fun W hb => by
        have := HR2.out W hb
        rwa [if_pos rfl, show acc.length - (z + 1) = 0 by omega] at this
       rw [show acc.length - (z + 1) = 0 by omega] at Hfin2
       clear HR2
      case' neg =>
       have HRT : Hid (∀ W, Below wa.heap.size wa W → Reads W W.heap.size 2 (some ⟨g, (z + 1) * 2, none⟩) (acc.length - (z + 1)) ((acc.drop (z + 1)).flatMap labEnc)) := fun W hb => by
        have := HR2.out W hb
        rwa [if_neg hcy, Option.map_some, addr_add, Nat.zero_add] at this
       clear HR2
    all_goals
     refine wp_region_held_drew (S := (fun W => Below wa.heap.size wa W)) (by kernel_rfl) (HbI.out _) (fun hHeld => ?_)
     refine wpAnyH_take (i := 1) (oi := _) (v := _) rfl (by kernel_rfl) (by kernel_rfl) (by kernel_rfl) (fun _ _ _ h => h) (Or.inl ⟨by rfl, by intro w hSw; (try dsimp only at hSw); go_simp <;> with_reducible rfl⟩) (by assumption) ?_
     try simp only [List.getElem_toArray, List.getElem_cons_succ, List.getElem_cons_zero, Act.put, List.setIfInBounds_toArray, List.set_cons_zero, List.set_cons_succ]
     refine wpAnyH_take (i := 2) (oi := _) (v := _) rfl (by kernel_rfl) (by kernel_rfl) (by kernel_rfl) (fun _ _ _ h => h) (Or.inl ⟨by rfl, by intro w hSw; (try dsimp only at hSw); go_simp <;> with_reducible rfl⟩) (by assumption) ?_
     try simp only [List.getElem_toArray, List.getElem_cons_succ, List.getElem_cons_zero, Act.put, List.setIfInBounds_toArray, List.set_cons_zero, List.set_cons_succ]
     refine wpAnyH_take (i := 3) (oi := _) (v := _) rfl (by kernel_rfl) (by kernel_rfl) (by kernel_rfl) (fun _ _ _ h => h) (Or.inl ⟨by rfl, by intro w hSw; (try dsimp only at hSw); go_simp <;> with_reducible rfl⟩) (by assumption) ?_
     try simp only [List.getElem_toArray, List.getElem_cons_succ, List.getElem_cons_zero, Act.put, List.setIfInBounds_toArray, List.set_cons_zero, List.set_cons_succ]
     refine wpAnyH_take (i := 8) (oi := _) (v := _) rfl (by kernel_rfl) (by kernel_rfl) (by kernel_rfl) (fun _ _ _ h => h) (Or.inl ⟨by rfl, by intro w hSw; (try dsimp only at hSw); go_simp <;> with_reducible rfl⟩) (by assumption) ?_
     try simp only [List.getElem_toArray, List.getElem_cons_succ, List.getElem_cons_zero, Act.put, List.setIfInBounds_toArray, List.set_cons_zero, List.set_cons_succ]
     refine wpAnyH_take (i := 9) (oi := _) (v := _) rfl (by kernel_rfl) (by kernel_rfl) (by kernel_rfl) (fun _ _ _ h => h) (Or.inl ⟨by rfl, by intro w hSw; (try dsimp only at hSw); go_simp <;> with_reducible rfl⟩) (by assumption) ?_
     try simp only [List.getElem_toArray, List.getElem_cons_succ, List.getElem_cons_zero, Act.put, List.setIfInBounds_toArray, List.set_cons_zero, List.set_cons_succ]
     refine wpAnyH_take (i := 10) (oi := _) (v := _) rfl (by kernel_rfl) (by kernel_rfl) (by kernel_rfl) (fun _ _ _ h => h) (Or.inl ⟨by rfl, by intro w hSw; (try dsimp only at hSw); go_simp <;> with_reducible rfl⟩) (by assumption) ?_
     try simp only [List.getElem_toArray, List.getElem_cons_succ, List.getElem_cons_zero, Act.put, List.setIfInBounds_toArray, List.set_cons_zero, List.set_cons_succ]
     have hb00 := Lib.hid hHeld
     generalize ((wa.drewN q).drewN _).drew = Wd at *
     refine wpAnyH_ready (rs := [0, 5]) (by kernel_rfl) (by simp) ?_
     refine AllReadyH.cons (o := _) rfl (fun K hK => ?_) (AllReadyH.cons (o := _) rfl (fun K hK => ?_) (AllReadyH.nil))
     ·go_simp
      have HZ4 : Hid ((Wd.alloc (.cells #[] 215)).ownsRow wa.heap.size 215 2 (.slice (some ⟨Wd.heap.size, 0, none⟩) 0 0) 0 []) := World.ownsRow_made Wd #[] 0 hb00.out.size (by unfold maxLen; omega) rfl
      have Hb3 := Lib.hid (hb00.out.alloc hb00.out.size (.cells #[] 215))
      have hz5 : Wd.heap.size < (Wd.alloc (.cells #[] 215)).heap.size := by simp
      generalize Wd.alloc (.cells #[] 215) = W2 at *
      refine hK.out _ _ Hb3.out (fun hHeld2 => ?_)
      clear hK K hHeld
      have hHeld := hHeld2
      clear hHeld2
      try simp only [List.getElem_toArray, List.getElem_cons_succ, List.getElem_cons_zero, Act.put, List.setIfInBounds_toArray, List.set_cons_zero, List.set_cons_succ]
      refine wpAnyH_ready (rs := [4, 5]) (by kernel_rfl) (by simp) ?_
      refine AllReadyH.cons (o := _) rfl (fun K hK => ?_) (AllReadyH.cons (o := _) rfl (fun K hK => ?_) (AllReadyH.nil))
      ·refine step_append_any _ rfl (.tmp 30) (.tmp 33) _ rfl wa.heap.size 215 i0 _ 2 32 Tryz.underlying168 Hi0.out Hz0.out Hz1.out Hz2.out rfl (by omega) (.slice (some ⟨Wd.heap.size, 0, none⟩) 0 0) 0 [] rfl HZ4.out W2.heap.size _ _ _ _ rfl (HR1.out W2 Hb3.out) HC1.out (by unfold maxLen; omega) (by omega) Hb3.out.size ?_
       intro v6 W7 ho8 hg9 ha10
       rw [Nat.zero_add, List.nil_append] at ho8
       have HZ11 := Lib.hid ho8
       have Hb12 : Hid (Below wa.heap.size wa W7) := Hb3.out.grown hg9 Hb3.out.size (fun g hg => ((HZ4.out.lt g hg).1))
       clear ho8 hg9 ha10
       refine hK.out _ _ Hb12.out (fun hHeld2 => ?_)
       clear hK K hHeld
       have hHeld := hHeld2
       clear hHeld2
       try simp only [List.getElem_toArray, List.getElem_cons_succ, List.getElem_cons_zero, Act.put, List.setIfInBounds_toArray, List.set_cons_zero, List.set_cons_succ]
       refine wpAnyH_ready (rs := [5]) (by kernel_rfl) (by simp) ?_
       refine AllReadyH.cons (o := _) rfl (fun K hK => ?_) (AllReadyH.nil)
       ·have e13 := (Hb12.out.cell (p := ⟨g5, 0, none⟩) hg5).trans d0
        have e14 := (Hb12.out.cell (p := ⟨g5, 1, none⟩) hg5).trans d1
        go_simp
        clear e13 e14
        refine hK.out _ _ Hb12.out (fun hHeld2 => ?_)
        clear hK K hHeld
        have hHeld := hHeld2
        clear hHeld2
        try simp only [List.getElem_toArray, List.getElem_cons_succ, List.getElem_cons_zero, Act.put, List.setIfInBounds_toArray, List.set_cons_zero, List.set_cons_succ]
        refine wpAnyH_ready (rs := [6]) (by kernel_rfl) (by simp) ?_
        refine AllReadyH.cons (o := _) rfl (fun K hK => ?_) (AllReadyH.nil)
        ·go_simp
         have HS17 : Hid (Blk (W7.alloc (.cells #[.string d.name, .string d.value] 215)) W7.heap.size 215 #[.string d.name, .string d.value]) := Blk.new W7 _ _
         have Hb16 := Lib.hid (Hb12.out.alloc Hb12.out.size (.cells #[.string d.name, .string d.value] 215))
         have HZ19 := Lib.hid (HZ4.out.alloc (.cells #[.string d.name, .string d.value] 215))
         have HZ20 := Lib.hid (HZ11.out.alloc (.cells #[.string d.name, .string d.value] 215))
         have hz18 : W7.heap.size < (W7.alloc (.cells #[.string d.name, .string d.value] 215)).heap.size := by simp
         generalize W7.alloc (.cells #[.string d.name, .string d.value] 215) = W15 at *
         refine hK.out _ _ Hb16.out (fun hHeld2 => ?_)
         clear hK K hHeld
         have hHeld := hHeld2
         clear hHeld2
         try simp only [List.getElem_toArray, List.getElem_cons_succ, List.getElem_cons_zero, Act.put, List.setIfInBounds_toArray, List.set_cons_zero, List.set_cons_succ]
         refine wpAnyH_ready (rs := [7]) (by kernel_rfl) (by simp) ?_
         refine AllReadyH.cons (o := _) rfl (fun K hK => ?_) (AllReadyH.nil)
         ·refine step_append_any _ rfl (.tmp 34) (.tmp 36) _ rfl wa.heap.size 215 i0 _ 2 32 Tryz.underlying168 Hi0.out Hz0.out Hz1.out Hz2.out rfl (by omega) v6 _ _ rfl HZ20.out W15.heap.size _ 1 1 (labEnc d) rfl (reads_blk HS17.out 1 2 rfl) (labEnc_oneC d) (by unfold maxLen; omega) (by omega) Hb16.out.size ?_
          intro v21 W22 ho23 hg24 ha25
          have HZ26 := Lib.hid ho23
          have Hb27 : Hid (Below wa.heap.size wa W22) := Hb16.out.grown hg24 Hb16.out.size (fun g hg => ((HZ20.out.lt g hg).1))
          clear ho23 hg24 ha25
          refine hK.out _ _ Hb27.out (fun hHeld2 => ?_)
          clear hK K hHeld
          have hHeld := hHeld2
          clear hHeld2
          try simp only [List.getElem_toArray, List.getElem_cons_succ, List.getElem_cons_zero, Act.put, List.setIfInBounds_toArray, List.set_cons_zero, List.set_cons_succ]
          refine wpAnyH_ready (rs := [11]) (by kernel_rfl) (by simp) ?_
          refine AllReadyH.cons (o := _) rfl (fun K hK => ?_) (AllReadyH.nil)
          ·refine step_append_any _ rfl (.tmp 37) (.tmp 40) _ rfl wa.heap.size 215 i0 _ 2 32 Tryz.underlying168 Hi0.out Hz0.out Hz1.out Hz2.out rfl (by omega) v21 _ _ rfl HZ26.out W22.heap.size _ _ _ _ rfl (HRT.out W22 Hb27.out) HC2.out (by unfold maxLen; omega) (by omega) Hb27.out.size ?_
           intro v28 W29 ho30 hg31 ha32
           have HZ33 := Lib.hid ho30
           have Hb34 : Hid (Below wa.heap.size wa W29) := Hb27.out.grown hg31 Hb27.out.size (fun g hg => ((HZ26.out.lt g hg).1))
           clear ho30 hg31 ha32
           refine hK.out _ _ Hb34.out (fun hHeld2 => ?_)
           clear hK K hHeld
           have hHeld := hHeld2
           clear hHeld2
           try simp only [List.getElem_toArray, List.getElem_cons_succ, List.getElem_cons_zero, Act.put, List.setIfInBounds_toArray, List.set_cons_zero, List.set_cons_succ]
           refine wpAnyH_take (i := 12) (oi := _) (v := _) rfl (by kernel_rfl) (by kernel_rfl) (by kernel_rfl) (fun _ _ _ h => h) (Or.inl ⟨by rfl, by intro w hSw; (try dsimp only at hSw); go_simp <;> with_reducible rfl⟩) (by assumption) ?_
           try simp only [List.getElem_toArray, List.getElem_cons_succ, List.getElem_cons_zero, Act.put, List.setIfInBounds_toArray, List.set_cons_zero, List.set_cons_succ]
           refine wpAnyH_done (by kernel_rfl) ?_ _
           have HownF := Lib.hid (Hfin2.out _ _ HZ33.out)
           have HbF := Lib.hid (below_then HbA.out Hb34.out)
           go_wp2
           go_roundw
           case rel => exact ⟨x + 1, rins d acc, by go_num, by omega, hlen2, htk, fun h => absurd (congrArg List.length h) (by rw [hlen2.out]; simp), HownF, HbF⟩
           case measure => simp [intOf] <;> omega
      ·have e36 := (Hb3.out.cell (p := ⟨g5, 0, none⟩) hg5).trans d0
       have e37 := (Hb3.out.cell (p := ⟨g5, 1, none⟩) hg5).trans d1
       go_simp
       clear e36 e37
       refine hK.out _ _ Hb3.out (fun hHeld2 => ?_)
       clear hK K hHeld
       have hHeld := hHeld2
       clear hHeld2
       try simp only [List.getElem_toArray, List.getElem_cons_succ, List.getElem_cons_zero, Act.put, List.setIfInBounds_toArray, List.set_cons_zero, List.set_cons_succ]
       refine wpAnyH_ready (rs := [4, 6]) (by kernel_rfl) (by simp) ?_
       refine AllReadyH.cons (o := _) rfl (fun K hK => ?_) (AllReadyH.cons (o := _) rfl (fun K hK => ?_) (AllReadyH.nil))
       ·refine step_append_any _ rfl (.tmp 30) (.tmp 33) _ rfl wa.heap.size 215 i0 _ 2 32 Tryz.underlying168 Hi0.out Hz0.out Hz1.out Hz2.out rfl (by omega) (.slice (some ⟨Wd.heap.size, 0, none⟩) 0 0) 0 [] rfl HZ4.out W2.heap.size _ _ _ _ rfl (HR1.out W2 Hb3.out) HC1.out (by unfold maxLen; omega) (by omega) Hb3.out.size ?_
        intro v38 W39 ho40 hg41 ha42
        rw [Nat.zero_add, List.nil_append] at ho40
        have HZ43 := Lib.hid ho40
        have Hb44 : Hid (Below wa.heap.size wa W39) := Hb3.out.grown hg41 Hb3.out.size (fun g hg => ((HZ4.out.lt g hg).1))
        clear ho40 hg41 ha42
        refine hK.out _ _ Hb44.out (fun hHeld2 => ?_)
        clear hK K hHeld
        have hHeld := hHeld2
        clear hHeld2
        try simp only [List.getElem_toArray, List.getElem_cons_succ, List.getElem_cons_zero, Act.put, List.setIfInBounds_toArray, List.set_cons_zero, List.set_cons_succ]
        refine wpAnyH_ready (rs := [6]) (by kernel_rfl) (by simp) ?_
        refine AllReadyH.cons (o := _) rfl (fun K hK => ?_) (AllReadyH.nil)
        ·go_simp
         have HS47 : Hid (Blk (W39.alloc (.cells #[.string d.name, .string d.value] 215)) W39.heap.size 215 #[.string d.name, .string d.value]) := Blk.new W39 _ _
         have Hb46 := Lib.hid (Hb44.out.alloc Hb44.out.size (.cells #[.string d.name, .string d.value] 215))
         have HZ49 := Lib.hid (HZ4.out.alloc (.cells #[.string d.name, .string d.value] 215))
         have HZ50 := Lib.hid (HZ43.out.alloc (.cells #[.string d.name, .string d.value] 215))
         have hz48 : W39.heap.size < (W39.alloc (.cells #[.string d.name, .string d.value] 215)).heap.size := by simp
         generalize W39.alloc (.cells #[.string d.name, .string d.value] 215) = W45 at *
         refine hK.out _ _ Hb46.out (fun hHeld2 => ?_)
         clear hK K hHeld
         have hHeld := hHeld2
         clear hHeld2
         try simp only [List.getElem_toArray, List.getElem_cons_succ, List.getElem_cons_zero, Act.put, List.setIfInBounds_toArray, List.set_cons_zero, List.set_cons_succ]
         refine wpAnyH_ready (rs := [7]) (by kernel_rfl) (by simp) ?_
         refine AllReadyH.cons (o := _) rfl (fun K hK => ?_) (AllReadyH.nil)
         ·refine step_append_any _ rfl (.tmp 34) (.tmp 36) _ rfl wa.heap.size 215 i0 _ 2 32 Tryz.underlying168 Hi0.out Hz0.out Hz1.out Hz2.out rfl (by omega) v38 _ _ rfl HZ50.out W45.heap.size _ 1 1 (labEnc d) rfl (reads_blk HS47.out 1 2 rfl) (labEnc_oneC d) (by unfold maxLen; omega) (by omega) Hb46.out.size ?_
          intro v51 W52 ho53 hg54 ha55
          have HZ56 := Lib.hid ho53
          have Hb57 : Hid (Below wa.heap.size wa W52) := Hb46.out.grown hg54 Hb46.out.size (fun g hg => ((HZ50.out.lt g hg).1))
          clear ho53 hg54 ha55
          refine hK.out _ _ Hb57.out (fun hHeld2 => ?_)
          clear hK K hHeld
          have hHeld := hHeld2
          clear hHeld2
          try simp only [List.getElem_toArray, List.getElem_cons_succ, List.getElem_cons_zero, Act.put, List.setIfInBounds_toArray, List.set_cons_zero, List.set_cons_succ]
          refine wpAnyH_ready (rs := [11]) (by kernel_rfl) (by simp) ?_
          refine AllReadyH.cons (o := _) rfl (fun K hK => ?_) (AllReadyH.nil)
          ·refine step_append_any _ rfl (.tmp 37) (.tmp 40) _ rfl wa.heap.size 215 i0 _ 2 32 Tryz.underlying168 Hi0.out Hz0.out Hz1.out Hz2.out rfl (by omega) v51 _ _ rfl HZ56.out W52.heap.size _ _ _ _ rfl (HRT.out W52 Hb57.out) HC2.out (by unfold maxLen; omega) (by omega) Hb57.out.size ?_
           intro v58 W59 ho60 hg61 ha62
           have HZ63 := Lib.hid ho60
           have Hb64 : Hid (Below wa.heap.size wa W59) := Hb57.out.grown hg61 Hb57.out.size (fun g hg => ((HZ56.out.lt g hg).1))
           clear ho60 hg61 ha62
           refine hK.out _ _ Hb64.out (fun hHeld2 => ?_)
           clear hK K hHeld
           have hHeld := hHeld2
           clear hHeld2
           try simp only [List.getElem_toArray, List.getElem_cons_succ, List.getElem_cons_zero, Act.put, List.setIfInBounds_toArray, List.set_cons_zero, List.set_cons_succ]
           refine wpAnyH_take (i := 12) (oi := _) (v := _) rfl (by kernel_rfl) (by kernel_rfl) (by kernel_rfl) (fun _ _ _ h => h) (Or.inl ⟨by rfl, by intro w hSw; (try dsimp only at hSw); go_simp <;> with_reducible rfl⟩) (by assumption) ?_
           try simp only [List.getElem_toArray, List.getElem_cons_succ, List.getElem_cons_zero, Act.put, List.setIfInBounds_toArray, List.set_cons_zero, List.set_cons_succ]
           refine wpAnyH_done (by kernel_rfl) ?_ _
           have HownF := Lib.hid (Hfin2.out _ _ HZ63.out)
           have HbF := Lib.hid (below_then HbA.out Hb64.out)
           go_wp2
           go_roundw
           case rel => exact ⟨x + 1, rins d acc, by go_num, by omega, hlen2, htk, fun h => absurd (congrArg List.length h) (by rw [hlen2.out]; simp), HownF, HbF⟩
           case measure => simp [intOf] <;> omega
       ·go_simp
        have HS68 : Hid (Blk (W2.alloc (.cells #[.string d.name, .string d.value] 215)) W2.heap.size 215 #[.string d.name, .string d.value]) := Blk.new W2 _ _
        have Hb67 := Lib.hid (Hb3.out.alloc Hb3.out.size (.cells #[.string d.name, .string d.value] 215))
        have HZ70 := Lib.hid (HZ4.out.alloc (.cells #[.string d.name, .string d.value] 215))
        have hz69 : W2.heap.size < (W2.alloc (.cells #[.string d.name, .string d.value] 215)).heap.size := by simp
        generalize W2.alloc (.cells #[.string d.name, .string d.value] 215) = W66 at *
        refine hK.out _ _ Hb67.out (fun hHeld2 => ?_)
        clear hK K hHeld
        have hHeld := hHeld2
        clear hHeld2
        try simp only [List.getElem_toArray, List.getElem_cons_succ, List.getElem_cons_zero, Act.put, List.setIfInBounds_toArray, List.set_cons_zero, List.set_cons_succ]
        refine wpAnyH_ready (rs := [4]) (by kernel_rfl) (by simp) ?_
        refine AllReadyH.cons (o := _) rfl (fun K hK => ?_) (AllReadyH.nil)
        ·refine step_append_any _ rfl (.tmp 30) (.tmp 33) _ rfl wa.heap.size 215 i0 _ 2 32 Tryz.underlying168 Hi0.out Hz0.out Hz1.out Hz2.out rfl (by omega) (.slice (some ⟨Wd.heap.size, 0, none⟩) 0 0) 0 [] rfl HZ70.out W66.heap.size _ _ _ _ rfl (HR1.out W66 Hb67.out) HC1.out (by unfold maxLen; omega) (by omega) Hb67.out.size ?_
         intro v71 W72 ho73 hg74 ha75
         rw [Nat.zero_add, List.nil_append] at ho73
         have HZ76 := Lib.hid ho73
         have Hb77 : Hid (Below wa.heap.size wa W72) := Hb67.out.grown hg74 Hb67.out.size (fun g hg => ((HZ70.out.lt g hg).1))
         have HS78 := Lib.hid (Keeps.blk ((Keeps.refl [Wd.heap.size] W66).grown hg74 (fun g hg => .inl (List.mem_singleton.2 (by injection hg with h; exact h.symm)))) HS68.out (by simp; omega))
         clear ho73 hg74 ha75
         refine hK.out _ _ Hb77.out (fun hHeld2 => ?_)
         clear hK K hHeld
         have hHeld := hHeld2
         clear hHeld2
         try simp only [List.getElem_toArray, List.getElem_cons_succ, List.getElem_cons_zero, Act.put, List.setIfInBounds_toArray, List.set_cons_zero, List.set_cons_succ]
         refine wpAnyH_ready (rs := [7]) (by kernel_rfl) (by simp) ?_
         refine AllReadyH.cons (o := _) rfl (fun K hK => ?_) (AllReadyH.nil)
         ·refine step_append_any _ rfl (.tmp 34) (.tmp 36) _ rfl wa.heap.size 215 i0 _ 2 32 Tryz.underlying168 Hi0.out Hz0.out Hz1.out Hz2.out rfl (by omega) v71 _ _ rfl HZ76.out W72.heap.size _ 1 1 (labEnc d) rfl (reads_blk HS78.out 1 2 rfl) (labEnc_oneC d) (by unfold maxLen; omega) (by omega) Hb77.out.size ?_
          intro v79 W80 ho81 hg82 ha83
          have HZ84 := Lib.hid ho81
          have Hb85 : Hid (Below wa.heap.size wa W80) := Hb77.out.grown hg82 Hb77.out.size (fun g hg => ((HZ76.out.lt g hg).1))
          clear ho81 hg82 ha83
          refine hK.out _ _ Hb85.out (fun hHeld2 => ?_)
          clear hK K hHeld
          have hHeld := hHeld2
          clear hHeld2
          try simp only [List.getElem_toArray, List.getElem_cons_succ, List.getElem_cons_zero, Act.put, List.setIfInBounds_toArray, List.set_cons_zero, List.set_cons_succ]
          refine wpAnyH_ready (rs := [11]) (by kernel_rfl) (by simp) ?_
          refine AllReadyH.cons (o := _) rfl (fun K hK => ?_) (AllReadyH.nil)
          ·refine step_append_any _ rfl (.tmp 37) (.tmp 40) _ rfl wa.heap.size 215 i0 _ 2 32 Tryz.underlying168 Hi0.out Hz0.out Hz1.out Hz2.out rfl (by omega) v79 _ _ rfl HZ84.out W80.heap.size _ _ _ _ rfl (HRT.out W80 Hb85.out) HC2.out (by unfold maxLen; omega) (by omega) Hb85.out.size ?_
           intro v86 W87 ho88 hg89 ha90
           have HZ91 := Lib.hid ho88
           have Hb92 : Hid (Below wa.heap.size wa W87) := Hb85.out.grown hg89 Hb85.out.size (fun g hg => ((HZ84.out.lt g hg).1))
           clear ho88 hg89 ha90
           refine hK.out _ _ Hb92.out (fun hHeld2 => ?_)
           clear hK K hHeld
           have hHeld := hHeld2
           clear hHeld2
           try simp only [List.getElem_toArray, List.getElem_cons_succ, List.getElem_cons_zero, Act.put, List.setIfInBounds_toArray, List.set_cons_zero, List.set_cons_succ]
           refine wpAnyH_take (i := 12) (oi := _) (v := _) rfl (by kernel_rfl) (by kernel_rfl) (by kernel_rfl) (fun _ _ _ h => h) (Or.inl ⟨by rfl, by intro w hSw; (try dsimp only at hSw); go_simp <;> with_reducible rfl⟩) (by assumption) ?_
           try simp only [List.getElem_toArray, List.getElem_cons_succ, List.getElem_cons_zero, Act.put, List.setIfInBounds_toArray, List.set_cons_zero, List.set_cons_succ]
           refine wpAnyH_done (by kernel_rfl) ?_ _
           have HownF := Lib.hid (Hfin2.out _ _ HZ91.out)
           have HbF := Lib.hid (below_then HbA.out Hb92.out)
           go_wp2
           go_roundw
           case rel => exact ⟨x + 1, rins d acc, by go_num, by omega, hlen2, htk, fun h => absurd (congrArg List.length h) (by rw [hlen2.out]; simp), HownF, HbF⟩
           case measure => simp [intOf] <;> omega
     ·have e94 := (hb00.out.cell (p := ⟨g5, 0, none⟩) hg5).trans d0
      have e95 := (hb00.out.cell (p := ⟨g5, 1, none⟩) hg5).trans d1
      go_simp
      clear e94 e95
      refine hK.out _ _ hb00.out (fun hHeld2 => ?_)
      clear hK K hHeld
      have hHeld := hHeld2
      clear hHeld2
      try simp only [List.getElem_toArray, List.getElem_cons_succ, List.getElem_cons_zero, Act.put, List.setIfInBounds_toArray, List.set_cons_zero, List.set_cons_succ]
      refine wpAnyH_ready (rs := [0, 6]) (by kernel_rfl) (by simp) ?_
      refine AllReadyH.cons (o := _) rfl (fun K hK => ?_) (AllReadyH.cons (o := _) rfl (fun K hK => ?_) (AllReadyH.nil))
      ·go_simp
       have HZ98 : Hid ((Wd.alloc (.cells #[] 215)).ownsRow wa.heap.size 215 2 (.slice (some ⟨Wd.heap.size, 0, none⟩) 0 0) 0 []) := World.ownsRow_made Wd #[] 0 hb00.out.size (by unfold maxLen; omega) rfl
       have Hb97 := Lib.hid (hb00.out.alloc hb00.out.size (.cells #[] 215))
       have hz99 : Wd.heap.size < (Wd.alloc (.cells #[] 215)).heap.size := by simp
       generalize Wd.alloc (.cells #[] 215) = W96 at *
       refine hK.out _ _ Hb97.out (fun hHeld2 => ?_)
       clear hK K hHeld
       have hHeld := hHeld2
       clear hHeld2
       try simp only [List.getElem_toArray, List.getElem_cons_succ, List.getElem_cons_zero, Act.put, List.setIfInBounds_toArray, List.set_cons_zero, List.set_cons_succ]
       refine wpAnyH_ready (rs := [4, 6]) (by kernel_rfl) (by simp) ?_
       refine AllReadyH.cons (o := _) rfl (fun K hK => ?_) (AllReadyH.cons (o := _) rfl (fun K hK => ?_) (AllReadyH.nil))
       ·refine step_append_any _ rfl (.tmp 30) (.tmp 33) _ rfl wa.heap.size 215 i0 _ 2 32 Tryz.underlying168 Hi0.out Hz0.out Hz1.out Hz2.out rfl (by omega) (.slice (some ⟨Wd.heap.size, 0, none⟩) 0 0) 0 [] rfl HZ98.out W96.heap.size _ _ _ _ rfl (HR1.out W96 Hb97.out) HC1.out (by unfold maxLen; omega) (by omega) Hb97.out.size ?_
        intro v100 W101 ho102 hg103 ha104
        rw [Nat.zero_add, List.nil_append] at ho102
        have HZ105 := Lib.hid ho102
        have Hb106 : Hid (Below wa.heap.size wa W101) := Hb97.out.grown hg103 Hb97.out.size (fun g hg => ((HZ98.out.lt g hg).1))
        clear ho102 hg103 ha104
        refine hK.out _ _ Hb106.out (fun hHeld2 => ?_)
        clear hK K hHeld
        have hHeld := hHeld2
        clear hHeld2
        try simp only [List.getElem_toArray, List.getElem_cons_succ, List.getElem_cons_zero, Act.put, List.setIfInBounds_toArray, List.set_cons_zero, List.set_cons_succ]
        refine wpAnyH_ready (rs := [6]) (by kernel_rfl) (by simp) ?_
        refine AllReadyH.cons (o := _) rfl (fun K hK => ?_) (AllReadyH.nil)
        ·go_simp
         have HS109 : Hid (Blk (W101.alloc (.cells #[.string d.name, .string d.value] 215)) W101.heap.size 215 #[.string d.name, .string d.value]) := Blk.new W101 _ _
         have Hb108 := Lib.hid (Hb106.out.alloc Hb106.out.size (.cells #[.string d.name, .string d.value] 215))
         have HZ111 := Lib.hid (HZ98.out.alloc (.cells #[.string d.name, .string d.value] 215))
         have HZ112 := Lib.hid (HZ105.out.alloc (.cells #[.string d.name, .string d.value] 215))
         have hz110 : W101.heap.size < (W101.alloc (.cells #[.string d.name, .string d.value] 215)).heap.size := by simp
         generalize W101.alloc (.cells #[.string d.name, .string d.value] 215) = W107 at *
         refine hK.out _ _ Hb108.out (fun hHeld2 => ?_)
         clear hK K hHeld
         have hHeld := hHeld2
         clear hHeld2
         try simp only [List.getElem_toArray, List.getElem_cons_succ, List.getElem_cons_zero, Act.put, List.setIfInBounds_toArray, List.set_cons_zero, List.set_cons_succ]
         refine wpAnyH_ready (rs := [7]) (by kernel_rfl) (by simp) ?_
         refine AllReadyH.cons (o := _) rfl (fun K hK => ?_) (AllReadyH.nil)
         ·refine step_append_any _ rfl (.tmp 34) (.tmp 36) _ rfl wa.heap.size 215 i0 _ 2 32 Tryz.underlying168 Hi0.out Hz0.out Hz1.out Hz2.out rfl (by omega) v100 _ _ rfl HZ112.out W107.heap.size _ 1 1 (labEnc d) rfl (reads_blk HS109.out 1 2 rfl) (labEnc_oneC d) (by unfold maxLen; omega) (by omega) Hb108.out.size ?_
          intro v113 W114 ho115 hg116 ha117
          have HZ118 := Lib.hid ho115
          have Hb119 : Hid (Below wa.heap.size wa W114) := Hb108.out.grown hg116 Hb108.out.size (fun g hg => ((HZ112.out.lt g hg).1))
          clear ho115 hg116 ha117
          refine hK.out _ _ Hb119.out (fun hHeld2 => ?_)
          clear hK K hHeld
          have hHeld := hHeld2
          clear hHeld2
          try simp only [List.getElem_toArray, List.getElem_cons_succ, List.getElem_cons_zero, Act.put, List.setIfInBounds_toArray, List.set_cons_zero, List.set_cons_succ]
          refine wpAnyH_ready (rs := [11]) (by kernel_rfl) (by simp) ?_
          refine AllReadyH.cons (o := _) rfl (fun K hK => ?_) (AllReadyH.nil)
          ·refine step_append_any _ rfl (.tmp 37) (.tmp 40) _ rfl wa.heap.size 215 i0 _ 2 32 Tryz.underlying168 Hi0.out Hz0.out Hz1.out Hz2.out rfl (by omega) v113 _ _ rfl HZ118.out W114.heap.size _ _ _ _ rfl (HRT.out W114 Hb119.out) HC2.out (by unfold maxLen; omega) (by omega) Hb119.out.size ?_
           intro v120 W121 ho122 hg123 ha124
           have HZ125 := Lib.hid ho122
           have Hb126 : Hid (Below wa.heap.size wa W121) := Hb119.out.grown hg123 Hb119.out.size (fun g hg => ((HZ118.out.lt g hg).1))
           clear ho122 hg123 ha124
           refine hK.out _ _ Hb126.out (fun hHeld2 => ?_)
           clear hK K hHeld
           have hHeld := hHeld2
           clear hHeld2
           try simp only [List.getElem_toArray, List.getElem_cons_succ, List.getElem_cons_zero, Act.put, List.setIfInBounds_toArray, List.set_cons_zero, List.set_cons_succ]
           refine wpAnyH_take (i := 12) (oi := _) (v := _) rfl (by kernel_rfl) (by kernel_rfl) (by kernel_rfl) (fun _ _ _ h => h) (Or.inl ⟨by rfl, by intro w hSw; (try dsimp only at hSw); go_simp <;> with_reducible rfl⟩) (by assumption) ?_
           try simp only [List.getElem_toArray, List.getElem_cons_succ, List.getElem_cons_zero, Act.put, List.setIfInBounds_toArray, List.set_cons_zero, List.set_cons_succ]
           refine wpAnyH_done (by kernel_rfl) ?_ _
           have HownF := Lib.hid (Hfin2.out _ _ HZ125.out)
           have HbF := Lib.hid (below_then HbA.out Hb126.out)
           go_wp2
           go_roundw
           case rel => exact ⟨x + 1, rins d acc, by go_num, by omega, hlen2, htk, fun h => absurd (congrArg List.length h) (by rw [hlen2.out]; simp), HownF, HbF⟩
           case measure => simp [intOf] <;> omega
       ·go_simp
        have HS130 : Hid (Blk (W96.alloc (.cells #[.string d.name, .string d.value] 215)) W96.heap.size 215 #[.string d.name, .string d.value]) := Blk.new W96 _ _
        have Hb129 := Lib.hid (Hb97.out.alloc Hb97.out.size (.cells #[.string d.name, .string d.value] 215))
        have HZ132 := Lib.hid (HZ98.out.alloc (.cells #[.string d.name, .string d.value] 215))
        have hz131 : W96.heap.size < (W96.alloc (.cells #[.string d.name, .string d.value] 215)).heap.size := by simp
        generalize W96.alloc (.cells #[.string d.name, .string d.value] 215) = W128 at *
        refine hK.out _ _ Hb129.out (fun hHeld2 => ?_)
        clear hK K hHeld
        have hHeld := hHeld2
        clear hHeld2
        try simp only [List.getElem_toArray, List.getElem_cons_succ, List.getElem_cons_zero, Act.put, List.setIfInBounds_toArray, List.set_cons_zero, List.set_cons_succ]
        refine wpAnyH_ready (rs := [4]) (by kernel_rfl) (by simp) ?_
        refine AllReadyH.cons (o := _) rfl (fun K hK => ?_) (AllReadyH.nil)
        ·refine step_append_any _ rfl (.tmp 30) (.tmp 33) _ rfl wa.heap.size 215 i0 _ 2 32 Tryz.underlying168 Hi0.out Hz0.out Hz1.out Hz2.out rfl (by omega) (.slice (some ⟨Wd.heap.size, 0, none⟩) 0 0) 0 [] rfl HZ132.out W128.heap.size _ _ _ _ rfl (HR1.out W128 Hb129.out) HC1.out (by unfold maxLen; omega) (by omega) Hb129.out.size ?_
         intro v133 W134 ho135 hg136 ha137
         rw [Nat.zero_add, List.nil_append] at ho135
         have HZ138 := Lib.hid ho135
         have Hb139 : Hid (Below wa.heap.size wa W134) := Hb129.out.grown hg136 Hb129.out.size (fun g hg => ((HZ132.out.lt g hg).1))
         have HS140 := Lib.hid (Keeps.blk ((Keeps.refl [Wd.heap.size] W128).grown hg136 (fun g hg => .inl (List.mem_singleton.2 (by injection hg with h; exact h.symm)))) HS130.out (by simp; omega))
         clear ho135 hg136 ha137
         refine hK.out _ _ Hb139.out (fun hHeld2 => ?_)
         clear hK K hHeld
         have hHeld := hHeld2
         clear hHeld2
         try simp only [List.getElem_toArray, List.getElem_cons_succ, List.getElem_cons_zero, Act.put, List.setIfInBounds_toArray, List.set_cons_zero, List.set_cons_succ]
         refine wpAnyH_ready (rs := [7]) (by kernel_rfl) (by simp) ?_
         refine AllReadyH.cons (o := _) rfl (fun K hK => ?_) (AllReadyH.nil)
         ·refine step_append_any _ rfl (.tmp 34) (.tmp 36) _ rfl wa.heap.size 215 i0 _ 2 32 Tryz.underlying168 Hi0.out Hz0.out Hz1.out Hz2.out rfl (by omega) v133 _ _ rfl HZ138.out W134.heap.size _ 1 1 (labEnc d) rfl (reads_blk HS140.out 1 2 rfl) (labEnc_oneC d) (by unfold maxLen; omega) (by omega) Hb139.out.size ?_
          intro v141 W142 ho143 hg144 ha145
          have HZ146 := Lib.hid ho143
          have Hb147 : Hid (Below wa.heap.size wa W142) := Hb139.out.grown hg144 Hb139.out.size (fun g hg => ((HZ138.out.lt g hg).1))
          clear ho143 hg144 ha145
          refine hK.out _ _ Hb147.out (fun hHeld2 => ?_)
          clear hK K hHeld
          have hHeld := hHeld2
          clear hHeld2
          try simp only [List.getElem_toArray, List.getElem_cons_succ, List.getElem_cons_zero, Act.put, List.setIfInBounds_toArray, List.set_cons_zero, List.set_cons_succ]
          refine wpAnyH_ready (rs := [11]) (by kernel_rfl) (by simp) ?_
          refine AllReadyH.cons (o := _) rfl (fun K hK => ?_) (AllReadyH.nil)
          ·refine step_append_any _ rfl (.tmp 37) (.tmp 40) _ rfl wa.heap.size 215 i0 _ 2 32 Tryz.underlying168 Hi0.out Hz0.out Hz1.out Hz2.out rfl (by omega) v141 _ _ rfl HZ146.out W142.heap.size _ _ _ _ rfl (HRT.out W142 Hb147.out) HC2.out (by unfold maxLen; omega) (by omega) Hb147.out.size ?_
           intro v148 W149 ho150 hg151 ha152
           have HZ153 := Lib.hid ho150
           have Hb154 : Hid (Below wa.heap.size wa W149) := Hb147.out.grown hg151 Hb147.out.size (fun g hg => ((HZ146.out.lt g hg).1))
           clear ho150 hg151 ha152
           refine hK.out _ _ Hb154.out (fun hHeld2 => ?_)
           clear hK K hHeld
           have hHeld := hHeld2
           clear hHeld2
           try simp only [List.getElem_toArray, List.getElem_cons_succ, List.getElem_cons_zero, Act.put, List.setIfInBounds_toArray, List.set_cons_zero, List.set_cons_succ]
           refine wpAnyH_take (i := 12) (oi := _) (v := _) rfl (by kernel_rfl) (by kernel_rfl) (by kernel_rfl) (fun _ _ _ h => h) (Or.inl ⟨by rfl, by intro w hSw; (try dsimp only at hSw); go_simp <;> with_reducible rfl⟩) (by assumption) ?_
           try simp only [List.getElem_toArray, List.getElem_cons_succ, List.getElem_cons_zero, Act.put, List.setIfInBounds_toArray, List.set_cons_zero, List.set_cons_succ]
           refine wpAnyH_done (by kernel_rfl) ?_ _
           have HownF := Lib.hid (Hfin2.out _ _ HZ153.out)
           have HbF := Lib.hid (below_then HbA.out Hb154.out)
           go_wp2
           go_roundw
           case rel => exact ⟨x + 1, rins d acc, by go_num, by omega, hlen2, htk, fun h => absurd (congrArg List.length h) (by rw [hlen2.out]; simp), HownF, HbF⟩
           case measure => simp [intOf] <;> omega
      ·go_simp
       have HS158 : Hid (Blk (Wd.alloc (.cells #[.string d.name, .string d.value] 215)) Wd.heap.size 215 #[.string d.name, .string d.value]) := Blk.new Wd _ _
       have Hb157 := Lib.hid (hb00.out.alloc hb00.out.size (.cells #[.string d.name, .string d.value] 215))
       have hz159 : Wd.heap.size < (Wd.alloc (.cells #[.string d.name, .string d.value] 215)).heap.size := by simp
       generalize Wd.alloc (.cells #[.string d.name, .string d.value] 215) = W156 at *
       refine hK.out _ _ Hb157.out (fun hHeld2 => ?_)
       clear hK K hHeld
       have hHeld := hHeld2
       clear hHeld2
       try simp only [List.getElem_toArray, List.getElem_cons_succ, List.getElem_cons_zero, Act.put, List.setIfInBounds_toArray, List.set_cons_zero, List.set_cons_succ]
       refine wpAnyH_ready (rs := [0]) (by kernel_rfl) (by simp) ?_
       refine AllReadyH.cons (o := _) rfl (fun K hK => ?_) (AllReadyH.nil)
       ·go_simp
        have HZ162 : Hid ((W156.alloc (.cells #[] 215)).ownsRow wa.heap.size 215 2 (.slice (some ⟨W156.heap.size, 0, none⟩) 0 0) 0 []) := World.ownsRow_made W156 #[] 0 Hb157.out.size (by unfold maxLen; omega) rfl
        have Hb161 := Lib.hid (Hb157.out.alloc Hb157.out.size (.cells #[] 215))
        have HS164 := Lib.hid (Keeps.blk ((Keeps.refl [] W156).alloc (.cells #[] 215)) HS158.out (by simp))
        have hlt165 : Wd.heap.size < W156.heap.size := HS158.out.lt
        have hz163 : W156.heap.size < (W156.alloc (.cells #[] 215)).heap.size := by simp
        generalize W156.alloc (.cells #[] 215) = W160 at *
        refine hK.out _ _ Hb161.out (fun hHeld2 => ?_)
        clear hK K hHeld
        have hHeld := hHeld2
        clear hHeld2
        try simp only [List.getElem_toArray, List.getElem_cons_succ, List.getElem_cons_zero, Act.put, List.setIfInBounds_toArray, List.set_cons_zero, List.set_cons_succ]
        refine wpAnyH_ready (rs := [4]) (by kernel_rfl) (by simp) ?_
        refine AllReadyH.cons (o := _) rfl (fun K hK => ?_) (AllReadyH.nil)
        ·refine step_append_any _ rfl (.tmp 30) (.tmp 33) _ rfl wa.heap.size 215 i0 _ 2 32 Tryz.underlying168 Hi0.out Hz0.out Hz1.out Hz2.out rfl (by omega) (.slice (some ⟨W156.heap.size, 0, none⟩) 0 0) 0 [] rfl HZ162.out W160.heap.size _ _ _ _ rfl (HR1.out W160 Hb161.out) HC1.out (by unfold maxLen; omega) (by omega) Hb161.out.size ?_
         intro v166 W167 ho168 hg169 ha170
         rw [Nat.zero_add, List.nil_append] at ho168
         have HZ171 := Lib.hid ho168
         have Hb172 : Hid (Below wa.heap.size wa W167) := Hb161.out.grown hg169 Hb161.out.size (fun g hg => ((HZ162.out.lt g hg).1))
         have HS173 := Lib.hid (Keeps.blk ((Keeps.refl [W156.heap.size] W160).grown hg169 (fun g hg => .inl (List.mem_singleton.2 (by injection hg with h; exact h.symm)))) HS164.out (by simp; omega))
         clear ho168 hg169 ha170
         refine hK.out _ _ Hb172.out (fun hHeld2 => ?_)
         clear hK K hHeld
         have hHeld := hHeld2
         clear hHeld2
         try simp only [List.getElem_toArray, List.getElem_cons_succ, List.getElem_cons_zero, Act.put, List.setIfInBounds_toArray, List.set_cons_zero, List.set_cons_succ]
         refine wpAnyH_ready (rs := [7]) (by kernel_rfl) (by simp) ?_
         refine AllReadyH.cons (o := _) rfl (fun K hK => ?_) (AllReadyH.nil)
         ·refine step_append_any _ rfl (.tmp 34) (.tmp 36) _ rfl wa.heap.size 215 i0 _ 2 32 Tryz.underlying168 Hi0.out Hz0.out Hz1.out Hz2.out rfl (by omega) v166 _ _ rfl HZ171.out W167.heap.size _ 1 1 (labEnc d) rfl (reads_blk HS173.out 1 2 rfl) (labEnc_oneC d) (by unfold maxLen; omega) (by omega) Hb172.out.size ?_
          intro v174 W175 ho176 hg177 ha178
          have HZ179 := Lib.hid ho176
          have Hb180 : Hid (Below wa.heap.size wa W175) := Hb172.out.grown hg177 Hb172.out.size (fun g hg => ((HZ171.out.lt g hg).1))
          clear ho176 hg177 ha178
          refine hK.out _ _ Hb180.out (fun hHeld2 => ?_)
          clear hK K hHeld
          have hHeld := hHeld2
          clear hHeld2
          try simp only [List.getElem_toArray, List.getElem_cons_succ, List.getElem_cons_zero, Act.put, List.setIfInBounds_toArray, List.set_cons_zero, List.set_cons_succ]
          refine wpAnyH_ready (rs := [11]) (by kernel_rfl) (by simp) ?_
          refine AllReadyH.cons (o := _) rfl (fun K hK => ?_) (AllReadyH.nil)
          ·refine step_append_any _ rfl (.tmp 37) (.tmp 40) _ rfl wa.heap.size 215 i0 _ 2 32 Tryz.underlying168 Hi0.out Hz0.out Hz1.out Hz2.out rfl (by omega) v174 _ _ rfl HZ179.out W175.heap.size _ _ _ _ rfl (HRT.out W175 Hb180.out) HC2.out (by unfold maxLen; omega) (by omega) Hb180.out.size ?_
           intro v181 W182 ho183 hg184 ha185
           have HZ186 := Lib.hid ho183
           have Hb187 : Hid (Below wa.heap.size wa W182) := Hb180.out.grown hg184 Hb180.out.size (fun g hg => ((HZ179.out.lt g hg).1))
           clear ho183 hg184 ha185
           refine hK.out _ _ Hb187.out (fun hHeld2 => ?_)
           clear hK K hHeld
           have hHeld := hHeld2
           clear hHeld2
           try simp only [List.getElem_toArray, List.getElem_cons_succ, List.getElem_cons_zero, Act.put, List.setIfInBounds_toArray, List.set_cons_zero, List.set_cons_succ]
           refine wpAnyH_take (i := 12) (oi := _) (v := _) rfl (by kernel_rfl) (by kernel_rfl) (by kernel_rfl) (fun _ _ _ h => h) (Or.inl ⟨by rfl, by intro w hSw; (try dsimp only at hSw); go_simp <;> with_reducible rfl⟩) (by assumption) ?_
           try simp only [List.getElem_toArray, List.getElem_cons_succ, List.getElem_cons_zero, Act.put, List.setIfInBounds_toArray, List.set_cons_zero, List.set_cons_succ]
           refine wpAnyH_done (by kernel_rfl) ?_ _
           have HownF := Lib.hid (Hfin2.out _ _ HZ186.out)
           have HbF := Lib.hid (below_then HbA.out Hb187.out)
           go_wp2
           go_roundw
           case rel => exact ⟨x + 1, rins d acc, by go_num, by omega, hlen2, htk, fun h => absurd (congrArg List.length h) (by rw [hlen2.out]; simp), HownF, HbF⟩
           case measure => simp [intOf] <;> omega
  ·obtain rfl : x = l.length := by omega
   have hfin : Hid (rsortL l = acc) := by show _ = _; rw [HS.out, ← Hacc.out, List.take_length]
   have hp : Hid (∃ v', Ending.returned u3 = .returned v' ∧ wr.ownsRow w.heap.size 215 2 v' (rsortL l).length ((rsortL l).flatMap labEnc) ∧ Below w.heap.size w wr) := by
    show ∃ _, _
    rw [hfin.out]
    exact ⟨_, rfl, Hown.out, Hbr.out⟩
   go_wp2
   go_ret
   exact hp.out
end Go.Proofs.YtinnifhnabncfaaGreatDoor.Vi
end
section
namespace Go.Proofs.YtinnifhnabncfaaGreatDoor.Vi
open Go.RowKit Base Mem
theorem join_snoc (l : List LabD) (y : LabD) : (joinB (l ++ [y])).data.toList = if l = [] then (pairB y).data.toList else (joinB l).data.toList ++ [44] ++ (pairB y).data.toList := by
 unfold joinB
 cases l with
 | nil => simp [Lib.join_cons, Lib.joinTail]
 | cons a r =>
  rw [if_neg (by simp)]
  simp only [List.map_append, List.map_cons, List.map_nil, List.cons_append, Lib.join_cons, Lib.joinTail]
  simp
theorem ba_ext {a b : ByteArray} (h : a.data.toList = b.data.toList) : a = b := by
 obtain ⟨⟨a⟩⟩ := a
 obtain ⟨⟨b⟩⟩ := b
 simpa using h
theorem join_first (y : LabD) (l : List LabD) (h : l = []) : joinB l ++ y.name ++ ⟨#[61]⟩ ++ y.value = joinB (l ++ [y]) := by
 subst h
 apply ba_ext
 rw [join_snoc, if_pos rfl]
 unfold pairB
 simp [ByteArray.data_append, joinB, Lib.join_nil]
theorem join_more (y : LabD) (l : List LabD) (h : l ≠ []) : joinB l ++ ⟨#[44]⟩ ++ y.name ++ ⟨#[61]⟩ ++ y.value = joinB (l ++ [y]) := by
 apply ba_ext
 rw [join_snoc, if_neg h]
 unfold pairB
 simp [ByteArray.data_append]
theorem joinB_size (l : List LabD) (h : ∀ x ∈ l, x.name.size ≤ 32 ∧ x.value.size ≤ 32) : (joinB l).size ≤ 66 * l.length := join_len l h
def RTextPost (l : List LabD) (w : World) (e : Ending) (w' : World) : Prop := e = .returned (.tuple #[.string (rtextS l).1, .int .i64 (rtextS l).2]) ∧ Below w.heap.size w w'
set_option maxRecDepth 100000 in
set_option maxHeartbeats 2000000 in
theorem rtextL_any (v : Value) (l : List LabD) (w : World) (h : Labs w [] v l) (hs : ∀ x ∈ l, x.name.size < 9223372036854775807 ∧ x.value.size < 9223372036854775807) (hl : l.length ≤ 4611686018427387904) :
  Calls Tryz.prog 170 #[v] w fun e w' => RTextPost l w e w' := by
 have hri := Lib.hid (rright_any v l w h hs hl)
 have HT : Hid (rtextS l = if rrightS l = 0 then (joinB (rsortL l), 0) else (⟨#[]⟩, rrightS l)) := rfl
 by_cases hr0 : rrightS l = 0
 ·have hR : Hid (rtextS l = (joinB (rsortL l), 0)) := by show _ = _; rw [HT.out, if_pos hr0]
  have hl8 : l.length ≤ 8 ∧ rokRow l = true := by
   unfold rrightS at hr0
   by_cases h8 : 8 < l.length
   ·rw [if_pos h8] at hr0; cases hr0
   ·rw [if_neg h8] at hr0
    refine ⟨by omega, ?_⟩
    cases hk : rokRow l with
    | true => rfl
    | false => rw [hk] at hr0; simp at hr0
  obtain ⟨hl8, hok⟩ := hl8
  have hperm := (rsortL_facts l).1
  have hsz : Hid (∀ x ∈ rsortL l, x.name.size ≤ 32 ∧ x.value.size ≤ 32) := by
   intro x hx
   unfold rokRow at hok
   rw [Bool.and_eq_true, List.all_eq_true] at hok
   have := hok.1 x (hperm.mem_iff.1 hx)
   unfold nameOk at this
   simp at this
   omega
  have hs8 : (rsortL l).length ≤ 8 := by rw [hperm.length_eq]; exact hl8
  have hll : (rsortL l).length = l.length := hperm.length_eq
  rw [hr0] at hri
  have hso := Lib.hid (fun W (hk : Keeps [] w W) => rsort_any v l W (h.keep hk (by simp)) (by omega))
  obtain ⟨A, c, rfl, hc⟩ := h.len
  clear h HT hr0 hok hperm hs hll
  generalize rsortL l = s at *
  go_enter Tryz.func170, Tryz.ntmps170
  go_wp2_with fail
  refine hri.out.mono ?_
  rintro e w1 ⟨rfl, hb1⟩
  have hso1 := Lib.hid (hso.out w1 (Keeps.of_below hb1))
  have Hb1 := Lib.hid hb1
  clear hb1 hri hso
  go_wp2_with fail
  refine hso1.out.mono ?_
  rintro e w2 ⟨v2, rfl, hown, hb2⟩
  have HA := Lib.hid (show Labs w2 [] v2 s from Rd.of_own hown (by simp)); have Hb2 := Lib.hid (below_then Hb1.out hb2)
  obtain ⟨A1, c1, rfl, hc1⟩ := HA.out.len
  clear hown hb2 hso1 Hb1
  go_wp2_with fail
  go_loopw [5, 16] (fun st i wr => ∃ (x : Nat) (t : ByteArray), st = .string t ∧ i = .int .i64 x ∧ x ≤ s.length ∧ Hid (t = joinB (s.take x)) ∧ Hid (Below w.heap.size w wr)  ∧ Hid (Below w2.heap.size w2 wr)) (fun _ i _ => s.length - (intOf i).toNat)
  case atStart => exact ⟨0, ⟨#[]⟩, rfl, rfl, by omega, rfl, Hb2.out, Below.refl _ _⟩
  case round =>
   obtain ⟨x, t, rfl, rfl, hx, Ht, Hbr, Hbr2⟩ := hrel
   by_cases hlt : x < s.length
   ·have hx1 : (x : Int) < (s.length : Int) := by omega
    obtain ⟨g, off, _, e1, hg, c0, c1⟩ := (HA.out.keep (Keeps.of_below (M := []) Hbr2.out) (by simp)).at_ hlt
    obtain rfl : A1 = some ⟨g, off, none⟩ := by injection e1
    clear e1
    have Htk : Hid (s.take (x + 1) = s.take x ++ [s[x]]) := List.take_succ_eq_append_getElem hlt
    have hd32 := hsz.out s[x] (List.getElem_mem _)
    have htz : t.size ≤ 66 * x := by
     have := joinB_size (s.take x) (fun y hy => hsz.out y (List.mem_of_mem_take hy))
     rw [← Ht.out, List.length_take] at this
     omega
    have Hb4 := Lib.hid (Hbr.out.alloc Hbr.out.size (.cells #[.string s[x].name, .string s[x].value] 215))
    have Hb5 := Lib.hid (Hbr2.out.alloc Hbr2.out.size (.cells #[.string s[x].name, .string s[x].value] 215))
    by_cases h0 : x = 0
    ·have Hj := Lib.hid (join_first s[x] (s.take x) (by rw [h0]; rfl))
     rw [← Htk.out, ← Ht.out] at Hj
     generalize s[x] = d at *
     have k0 : ¬ (9223372036854775807 < t.size + d.name.size) := by omega
     have k1 : ¬ (9223372036854775807 < t.size + d.name.size + 1) := by omega
     have k2 : ¬ (9223372036854775807 < t.size + d.name.size + 1 + d.value.size) := by omega
     have k1b : ¬ (9223372036854775807 < (t ++ d.name).size + 1) := by rw [ByteArray.size_append]; exact k1
     have k2b : ¬ (9223372036854775807 < (t ++ d.name ++ ⟨#[61]⟩).size + d.value.size) := by rw [ByteArray.size_append, ByteArray.size_append]; exact k2
     have hx0 : decide ((0 : Int) < (x : Int)) = false := decide_eq_false (by omega)
     have hxn : ¬ 0 < x := by omega
     clear h0
     clear Ht Htk hd32 htz
     go_wp2
     go_roundw
     case rel => exact ⟨x + 1, _, rfl, by go_num, by omega, Hj.out, Hb4.out, Hb5.out⟩
     case measure => simp [intOf] <;> omega
    ·have Hj := Lib.hid (join_more s[x] (s.take x) (by intro h; have := congrArg List.length h; rw [List.length_take, List.length_nil] at this; omega))
     rw [← Htk.out, ← Ht.out] at Hj
     generalize s[x] = d at *
     have kk : ¬ (9223372036854775807 < t.size + 1) := by omega
     have k0 : ¬ (9223372036854775807 < t.size + 1 + d.name.size) := by omega
     have k1 : ¬ (9223372036854775807 < t.size + 1 + d.name.size + 1) := by omega
     have k2 : ¬ (9223372036854775807 < t.size + 1 + d.name.size + 1 + d.value.size) := by omega
     have k0b : ¬ (9223372036854775807 < (t ++ ⟨#[44]⟩).size + d.name.size) := by rw [ByteArray.size_append]; exact k0
     have k1b : ¬ (9223372036854775807 < (t ++ ⟨#[44]⟩ ++ d.name).size + 1) := by rw [ByteArray.size_append, ByteArray.size_append]; exact k1
     have k2b : ¬ (9223372036854775807 < (t ++ ⟨#[44]⟩ ++ d.name ++ ⟨#[61]⟩).size + d.value.size) := by rw [ByteArray.size_append, ByteArray.size_append, ByteArray.size_append]; exact k2
     have hx0 : (0 : Int) < (x : Int) := by omega
     have hxn : 0 < x := by omega
     clear h0
     clear Ht Htk hd32 htz
     go_wp2
     go_roundw
     case rel => exact ⟨x + 1, _, rfl, by go_num, by omega, Hj.out, Hb4.out, Hb5.out⟩
     case measure => simp [intOf] <;> omega
   ·obtain rfl : x = s.length := by omega
    have hT : Hid (RTextPost l w (.returned (.tuple #[.string t, .int .i64 0])) wr) := by
     refine ⟨?_, Hbr.out⟩
     rw [hR.out, Ht.out, List.take_length]
     rfl
    go_wp2
    go_ret2
    exact hT.out
 ·have hR : Hid (rtextS l = (⟨#[]⟩, rrightS l)) := by show _ = _; rw [HT.out, if_neg hr0]
  obtain ⟨A, c, rfl, hc⟩ := h.len
  have hri2 : ((rrightS l : Int) != 0) = true := by simpa using hr0
  clear h HT hr0
  have hp : Hid (∀ w1, Below w.heap.size w w1 → RTextPost l w (.returned (.tuple #[.string ⟨#[]⟩, .int .i64 (rrightS l)])) w1) := fun w1 hb => ⟨by rw [hR.out], hb⟩
  generalize rrightS l = r at *
  go_enter Tryz.func170, Tryz.ntmps170
  go_wp2_with fail
  refine hri.out.mono ?_
  rintro e w1 ⟨rfl, hb1⟩
  have Hp := Lib.hid (hp.out _ hb1)
  clear hb1 hp
  go_wp2
  go_ret2
  exact Hp.out
theorem splitC_part (c : UInt8) : ∀ (l : List UInt8), splitC c l ≠ [] ∧ (splitC c l).length ≤ l.length + 1 ∧ ∀ p ∈ splitC c l, p.length ≤ l.length
 | [] => by simp [splitC]
 | x :: r => by
  obtain ⟨h0, h1, h2⟩ := splitC_part c r
  rw [splitC]
  split
  ·refine ⟨by simp, by simp; omega, ?_⟩
   intro p hp
   rcases List.mem_cons.1 hp with rfl | hp
   ·simp
   ·have := h2 p hp; simp; omega
  ·split
   ·rename_i he; exact absurd he h0
   ·rename_i a t he
    rw [he] at h1 h2
    refine ⟨by simp, by simp at h1 ⊢; omega, ?_⟩
    intro p hp
    rcases List.mem_cons.1 hp with rfl | hp
    ·have := h2 a (by simp); simp; omega
    ·have := h2 p (by simp [hp]); simp; omega
theorem rlabs_none : ∀ (ps : List (List UInt8)) (x : Nat) (hx : x < ps.length), (splitC 61 ps[x]).length ≠ 2 → rlabs ps = none
 | [], x, hx, _ => by simp at hx
 | p :: ps, 0, _, h => by
  rw [rlabs]
  split
  ·rename_i a b hab
   rw [List.getElem_cons_zero, hab] at h
   simp at h
  ·rfl
 | p :: ps, x + 1, hx, h => by
  rw [rlabs, rlabs_none ps x (by simpa using hx) (by simpa using h)]
  split <;> rfl
theorem rlabs_snoc : ∀ (ps : List (List UInt8)) (acc : List LabD) (p a b : List UInt8), rlabs ps = some acc → splitC 61 p = [a, b] → rlabs (ps ++ [p]) = some (acc ++ [⟨⟨a.toArray⟩, ⟨b.toArray⟩⟩])
 | [], acc, p, a, b, h, hp => by
  simp [rlabs] at h
  subst h
  rw [List.nil_append, rlabs, hp]
  rfl
 | q :: ps, acc, p, a, b, h, hp => by
  rw [rlabs] at h
  rw [List.cons_append, rlabs]
  split at h
  ·rename_i c d hcd
   obtain ⟨acc', h1, rfl⟩ := Option.map_eq_some_iff.1 h
   rw [rlabs_snoc ps acc' p a b h1 hp]
   rfl
  ·cases h
theorem infoLabR : (Tryz.prog.info? 215).map (fun i => (i.zero, i.size, i.bytes)) = some (some (.agg #[.string ⟨#[]⟩, .string ⟨#[]⟩]), 2, 32) := by kernel_rfl
theorem strs_at {w : World} {base : Nat} {t : TypeId} {v : Value} {ps : List ByteArray} (h : w.ownsRow base t 1 v ps.length (ps.map sV)) {x : Nat} (hx : x < ps.length) : ∃ g off c, v = .slice (some ⟨g, off, none⟩) ps.length c ∧ g < w.heap.size ∧ ∀ j (hj : j < ps.length), w.cell? ⟨g, off + j, none⟩ = some (.string ps[j]) := by
 obtain ⟨A', c', rfl, hc, hl, hx2⟩ := Rd.of_own (M := []) h (by simp)
 obtain ⟨g, off, rfl, hg, _, hcell⟩ := hx2 (by omega)
 refine ⟨g, off, c', rfl, hg, fun j hj => hcell j _ ?_⟩
 rw [List.getElem?_map, List.getElem?_eq_getElem hj]
 rfl
theorem strs_len {w : World} {base : Nat} {t : TypeId} {v : Value} {ps : List ByteArray} (h : w.ownsRow base t 1 v ps.length (ps.map sV)) : ∃ A c, v = .slice A ps.length c ∧ ps.length ≤ c := by
 obtain ⟨A', c', rfl, hc, _⟩ := Rd.of_own (M := []) h (by simp)
 exact ⟨A', c', rfl, hc⟩
theorem two_of {qs : List ByteArray} (h : qs.length = 2) : ∃ a b, qs = [a, b] := by
 match qs, h with
 | [a, b], _ => exact ⟨a, b, rfl⟩
theorem labEnc_one2 (d : LabD) : ∀ u ∈ labEnc d, u.oneCell' = true := by
 intro u hu
 simp [labEnc] at hu
 rcases hu with rfl | rfl <;> rfl
set_option maxRecDepth 100000 in
set_option maxHeartbeats 2000000 in
theorem rparse_any (s : ByteArray) (w : World) (hs : s.size < 4294967281) :
  Calls Tryz.prog 122 #[.string s] w fun e w' => ParsePost s w e w' := by
 obtain ⟨i0, hi0, hz0, hz1, hz2⟩ := info_parts infoLabR
 have Hi0 := Lib.hid hi0; have Hz0 := Lib.hid hz0; have Hz1 := Lib.hid hz1; have Hz2 := Lib.hid hz2
 clear hi0 hz0 hz1 hz2
 have hsp : Hid (Calls Tryz.prog 169 #[.string s, .int .u8 44] w fun e w' => RSplitP 44 s w e w') := rsplit_any s 44 w hs
 have hsp2 : Hid (∀ p W, p.size < 4294967281 → Calls Tryz.prog 169 #[.string p, .int .u8 61] W fun e w' => RSplitP 61 p W e w') := fun p W h => rsplit_any p 61 W h
 have Hbad : Hid (rlabs (splitC 44 s.data.toList) = none → ∀ v w', Below w.heap.size w w' → ParsePost s w (.returned (.tuple #[v, .int .i64 12])) w') := fun h v w' hb => by
  refine ⟨v, ?_, hb⟩
  rw [← rparse_eq]
  unfold rparse
  rw [h]
  rfl
 have Hend : Hid (∀ acc, rlabs (splitC 44 s.data.toList) = some acc → ∀ v w', Below w.heap.size w w' → ParsePost s w (.returned (.tuple #[v, .int .i64 (if (decide ((rtextS acc).2 = 0) && (rtextS acc).1.toList == s.toList) = true then 0 else 12)])) w') := fun acc h v w' hb => by
  refine ⟨v, ?_, hb⟩
  rw [← rparse_eq]
  unfold rparse
  rw [h]
 obtain ⟨hpz, hpl, hpp⟩ := splitC_part 44 s.data.toList
 have Hpl := Lib.hid hpl; have Hpp := Lib.hid hpp
 clear hpl hpp hpz
 obtain ⟨pp, hpp⟩ : ∃ pp, pp = splitC 44 s.data.toList := ⟨_, rfl⟩
 rw [← hpp] at Hpl Hpp Hbad Hend
 have Hpe := Lib.hid hpp
 clear hpp
 go_enter Tryz.func122, Tryz.ntmps122
 go_wp2_with fail
 refine hsp.out.mono ?_
 rintro e w1 ⟨v1, ps, rfl, hps, hown, hb⟩
 rw [← Hpe.out] at hps
 have hpsl : ps.length ≤ 4294967281 := by
  have h1 := congrArg List.length hps
  have h2 := Hpl.out
  have h3 : s.data.toList.length = s.size := rfl
  rw [List.length_map] at h1
  omega
 have hpsz : Hid (∀ p ∈ ps, p.size < 4294967281) := fun p hp => by
  have h1 : p.data.toList ∈ pp := by rw [← hps]; exact List.mem_map_of_mem hp
  have h2 := Hpp.out _ h1
  have h3 : s.data.toList.length = s.size := rfl
  have h4 : p.data.toList.length = p.size := rfl
  omega
 obtain ⟨A1, c1, rfl, hc1⟩ := strs_len hown
 have Hps := Lib.hid hps; have Hown1 := Lib.hid hown; have Hb1 := Lib.hid hb
 clear hps hown hb hsp Hpl Hpp
 go_wp2_with fail
 go_loopw [4, 13] (fun out i wr => ∃ (x : Nat) (acc : List LabD), i = .int .i64 x ∧ x ≤ ps.length ∧ Hid (rlabs ((ps.take x).map (·.data.toList)) = some acc) ∧ Hid (acc.length = x) ∧ Hid (∀ y ∈ acc, y.name.size < 9223372036854775807 ∧ y.value.size < 9223372036854775807) ∧ Hid (wr.ownsRow w1.heap.size 215 2 out acc.length (acc.flatMap labEnc)) ∧ Hid (Below w1.heap.size w1 wr)) (fun _ i _ => ps.length - (intOf i).toNat)
 case atStart => exact ⟨0, [], rfl, by omega, rfl, rfl, (show ∀ y ∈ ([] : List LabD), _ by simp), World.ownsRow_nil _ _ _ _, Below.refl _ _⟩
 case round =>
  obtain ⟨x, acc, rfl, hx, Hrl, Hal, Hsz, Hown, Hbr⟩ := hrel
  by_cases hlt : x < ps.length
  ·have hx1 : (x : Int) < (ps.length : Int) := by omega
   obtain ⟨g, off, c', e1, hg, hcell⟩ := strs_at (own_below Hown1.out Hbr.out) hlt
   obtain rfl : A1 = some ⟨g, off, none⟩ := by injection e1
   clear e1
   have c0 := hcell x hlt
   have hpx := hpsz.out ps[x] (List.getElem_mem _)
   have Hsp := Lib.hid (hsp2.out ps[x] wr hpx)
   have Htk : Hid ((ps.take (x + 1)).map (·.data.toList) = (ps.take x).map (·.data.toList) ++ [ps[x].data.toList]) := by
    show _ = _
    rw [List.take_succ_eq_append_getElem hlt, List.map_append]; rfl
   have Hnone : Hid ((splitC 61 ps[x].data.toList).length ≠ 2 → rlabs pp = none) := fun h => by
    rw [← Hps.out]
    exact rlabs_none _ x (by simpa using hlt) (by simpa using h)
   have Hpart := Lib.hid (splitC_part 61 ps[x].data.toList)
   clear hcell
   generalize ps[x] = p at *
   go_wp2_with fail
   refine Hsp.out.mono ?_
   rintro e w3 ⟨v3, qs, rfl, hqs, hown3, hb3⟩
   obtain ⟨A3, c3, rfl, hc3⟩ := strs_len hown3
   have Hqs := Lib.hid hqs; have Hown3 := Lib.hid hown3; have Hb3 := Lib.hid (Hbr.out.trans (hb3.mono Hbr.out.size))
   have Hown4 := Lib.hid (own_below Hown.out hb3)
   have hsz3 : w1.heap.size ≤ w3.heap.size := Hb3.out.size
   clear hqs hown3 hb3 Hsp c0
   by_cases h2 : qs.length = 2
   ·obtain ⟨q0, q1, rfl⟩ := two_of h2
    have h2i : (((List.length [q0, q1] : Nat) : Int) != 2) = false := rfl
    obtain ⟨gf, cf, hvf, hgf, _⟩ := Hown3.out.form (by simp)
    obtain ⟨g3, off3, c3', e3, hg3, hcell3⟩ := strs_at Hown3.out (x := 0) (by simp)
    obtain rfl : A3 = some ⟨g3, off3, none⟩ := by injection e3
    obtain ⟨rfl, rfl⟩ : g3 = gf ∧ off3 = 0 := by injection hvf with h1 _ _; injection h1 with h1; injection h1 with h1 h2 _; exact ⟨h1, h2⟩
    have d0 := hcell3 0 (by simp)
    have d1 := hcell3 1 (by simp)
    simp only [List.getElem_cons_zero, List.getElem_cons_succ, Nat.add_zero, Nat.zero_add] at d0 d1
    clear hvf
    have Hrl2 : Hid (rlabs ((ps.take (x + 1)).map (·.data.toList)) = some (acc ++ [⟨q0, q1⟩])) := by
     show _ = _
     rw [Htk.out]
     exact rlabs_snoc _ _ _ q0.data.toList q1.data.toList Hrl.out (by rw [← Hqs.out]; rfl)
    have Hsz2 : Hid (∀ y ∈ acc ++ [(⟨q0, q1⟩ : LabD)], y.name.size < 9223372036854775807 ∧ y.value.size < 9223372036854775807) := fun y hy => by
     rcases List.mem_append.1 hy with hy | hy
     ·exact Hsz.out y hy
     ·obtain rfl := List.mem_singleton.1 hy
      have h5 : q0.data.toList ∈ splitC 61 p.data.toList := by rw [← Hqs.out]; simp
      have h6 : q1.data.toList ∈ splitC 61 p.data.toList := by rw [← Hqs.out]; simp
      have h7 := Hpart.out.2.2 _ h5
      have h8 := Hpart.out.2.2 _ h6
      have h9 : q0.data.toList.length = q0.size := rfl
      have hA : q1.data.toList.length = q1.size := rfl
      have hB : p.data.toList.length = p.size := rfl
      simp only []
      omega
    clear e3 hcell3 h2 Hpart Hnone Htk Hqs
    have hal : acc.length ≤ 4294967281 := by have := Hal.out; omega
    simp only [List.length_cons, List.length_nil, Nat.zero_add, Nat.reduceAdd] at hg3 hc3 h2i
    have Hown5 := Lib.hid (show (w3.drew.alloc (.cells #[.string q0, .string q1] 215)).ownsRow w1.heap.size 215 2 u4 acc.length (acc.flatMap labEnc) from World.ownsRow.alloc (w := w3.drew) Hown4.out _)
    have Hb5 : Hid (Below w1.heap.size w1 (w3.drew.alloc (.cells #[.string q0, .string q1] 215))) := (show Below w1.heap.size w1 w3.drew from ((Keeps.of_below (M := []) Hb3.out).drew).below).alloc (by show _ ≤ w3.heap.size; omega) _
    go_wp2_with fail
    refine wp_region_held_drew (S := (fun W => W.cell? ⟨g3, 0, none⟩ = some (.string q0) ∧ W.cell? ⟨g3, 1, none⟩ = some (.string q1))) (by kernel_rfl) ⟨d0, d1⟩ (fun hHeld => ?_)
    refine wpAnyH_take (i := 0) (oi := _) (v := ?v0) rfl (by kernel_rfl) (by kernel_rfl) (by kernel_rfl) (fun _ _ _ h => h) (Or.inl ⟨by rfl, ?y0⟩) (by assumption) ?r0
    case y0 => (intro w hSw; (obtain ⟨hSa, hSb⟩ := hSw); go_simp <;> with_reducible rfl)
    try simp only [List.getElem_toArray, List.getElem_cons_succ, List.getElem_cons_zero, Act.put, List.setIfInBounds_toArray, List.set_cons_zero, List.set_cons_succ]
    refine wpAnyH_take (i := 1) (oi := _) (v := ?v1) rfl (by kernel_rfl) (by kernel_rfl) (by kernel_rfl) (fun _ _ _ h => h) (Or.inl ⟨by rfl, ?y1⟩) (by assumption) ?r1
    case y1 => (intro w hSw; (obtain ⟨hSa, hSb⟩ := hSw); go_simp <;> with_reducible rfl)
    try simp only [List.getElem_toArray, List.getElem_cons_succ, List.getElem_cons_zero, Act.put, List.setIfInBounds_toArray, List.set_cons_zero, List.set_cons_succ]
    refine wpAnyH_take (i := 2) (oi := _) (v := ?v2) rfl (by kernel_rfl) (by kernel_rfl) (by kernel_rfl) (fun _ _ _ h => h) (Or.inl ⟨by rfl, ?y2⟩) (by assumption) ?r2
    case y2 => (intro w hSw; (obtain ⟨hSa, hSb⟩ := hSw); go_simp <;> with_reducible rfl)
    try simp only [List.getElem_toArray, List.getElem_cons_succ, List.getElem_cons_zero, Act.put, List.setIfInBounds_toArray, List.set_cons_zero, List.set_cons_succ]
    refine wpAnyH_take (i := 3) (oi := _) (v := ?v3) rfl (by kernel_rfl) (by kernel_rfl) (by kernel_rfl) (fun _ _ _ h => h) (Or.inl ⟨by rfl, ?y3⟩) (by assumption) ?r3
    case y3 => (intro w hSw; (obtain ⟨hSa, hSb⟩ := hSw); go_simp <;> with_reducible rfl)
    try simp only [List.getElem_toArray, List.getElem_cons_succ, List.getElem_cons_zero, Act.put, List.setIfInBounds_toArray, List.set_cons_zero, List.set_cons_succ]
    refine wpAnyH_take (i := 4) (oi := _) (v := ?v4) rfl (by kernel_rfl) (by kernel_rfl) (by kernel_rfl) (fun _ _ _ h => h) (Or.inl ⟨by rfl, ?y4⟩) (by assumption) ?r4
    case y4 => (intro w hSw; (obtain ⟨hSa, hSb⟩ := hSw); go_simp <;> with_reducible rfl)
    try simp only [List.getElem_toArray, List.getElem_cons_succ, List.getElem_cons_zero, Act.put, List.setIfInBounds_toArray, List.set_cons_zero, List.set_cons_succ]
    refine wpAnyH_take (i := 5) (oi := _) (v := ?v5) rfl (by kernel_rfl) (by kernel_rfl) (by kernel_rfl) (fun _ _ _ h => h) (Or.inl ⟨by rfl, ?y5⟩) (by assumption) ?r5
    case y5 => (intro w hSw; (obtain ⟨hSa, hSb⟩ := hSw); go_simp <;> with_reducible rfl)
    try simp only [List.getElem_toArray, List.getElem_cons_succ, List.getElem_cons_zero, Act.put, List.setIfInBounds_toArray, List.set_cons_zero, List.set_cons_succ]
    refine wpAnyH_take (i := 6) (oi := _) (v := ?v6) rfl (by kernel_rfl) (by kernel_rfl) (by kernel_rfl) (fun _ _ _ h => h) (Or.inl ⟨by rfl, ?y6⟩) (by assumption) ?r6
    case y6 => (intro w hSw; (obtain ⟨hSa, hSb⟩ := hSw); go_simp <;> with_reducible rfl)
    try simp only [List.getElem_toArray, List.getElem_cons_succ, List.getElem_cons_zero, Act.put, List.setIfInBounds_toArray, List.set_cons_zero, List.set_cons_succ]
    refine wpAnyH_take (i := 7) (oi := _) (v := ?v7) rfl (by kernel_rfl) (by kernel_rfl) (by kernel_rfl) (fun _ _ _ h => h) (Or.inl ⟨by rfl, ?y7⟩) (by assumption) ?r7
    case y7 => (intro w hSw; (obtain ⟨hSa, hSb⟩ := hSw); go_simp <;> with_reducible rfl)
    try simp only [List.getElem_toArray, List.getElem_cons_succ, List.getElem_cons_zero, Act.put, List.setIfInBounds_toArray, List.set_cons_zero, List.set_cons_succ]
    refine wpAnyH_ready (rs := [8]) (by kernel_rfl) (by simp) ?_
    refine AllReadyH.cons (o := _) rfl (fun K hK => ?_) AllReadyH.nil
    go_simp
    refine hK.out _ _ ⟨(World.cell?_alloc_lt w3.drew _ _ hg3).trans d0, (World.cell?_alloc_lt w3.drew _ _ hg3).trans d1⟩ (fun hHeld2 => ?_)
    clear hK K hHeld
    have hHeld := hHeld2
    clear hHeld2
    try simp only [List.getElem_toArray, List.getElem_cons_succ, List.getElem_cons_zero, Act.put, List.setIfInBounds_toArray, List.set_cons_zero, List.set_cons_succ]
    refine wpAnyH_ready (rs := [9]) (by kernel_rfl) (by simp) ?_
    refine AllReadyH.cons (o := _) rfl (fun K hK => ?_) AllReadyH.nil
    refine step_append_any _ rfl (.tmp 22) (.tmp 30) _ rfl w1.heap.size 215 i0 _ 2 32 Tryz.underlying168 Hi0.out Hz0.out Hz1.out Hz2.out rfl (by omega) u4 acc.length (acc.flatMap labEnc) rfl Hown5.out (w3.heap.size + 1) (some ⟨w3.heap.size, 0, none⟩) 1 1 (labEnc ⟨q0, q1⟩) rfl (reads_new w3.drew _ _ _ _ rfl) (labEnc_one2 ⟨q0, q1⟩) (by unfold maxLen; omega) (by omega) Hb5.out.size ?_
    intro v6 w6 hown6 hg6 hat6
    have Hown6 : Hid (w6.ownsRow w1.heap.size 215 2 v6 (acc ++ [(⟨q0, q1⟩ : LabD)]).length ((acc ++ [(⟨q0, q1⟩ : LabD)]).flatMap labEnc)) := by
     show World.ownsRow _ _ _ _ _ _ _
     rw [List.flatMap_append, List.length_append]
     simpa using hown6
    have Hb6 : Hid (Below w1.heap.size w1 w6) := Hb5.out.grown hg6 (by simp; omega) (fun g hg => (Hown4.out.lt g hg).1)
    have hSf : ∀ j u, (w3.drew.alloc (.cells #[.string q0, .string q1] 215)).cell? ⟨g3, j, none⟩ = some u → w6.cell? ⟨g3, j, none⟩ = some u := fun j u hu =>
     (World.cell?_of_block (a := ⟨g3, j, none⟩) (hg6.block g3 (by simp; omega) (fun e => by have := (Hown.out.lt g3 e.symm).2; omega))).trans hu
    have HSf : Hid (w6.cell? ⟨g3, 0, none⟩ = some (.string q0) ∧ w6.cell? ⟨g3, 1, none⟩ = some (.string q1)) := ⟨hSf _ _ hHeld.1, hSf _ _ hHeld.2⟩
    have Hal6 : Hid ((acc ++ [(⟨q0, q1⟩ : LabD)]).length = x + 1) := by show _ = _; rw [List.length_append, Hal.out]; rfl
    clear hown6 hg6 hat6
    generalize acc ++ [(⟨q0, q1⟩ : LabD)] = acc2 at *
    clear hSf
    refine hK.out _ _ HSf.out (fun hHeld2 => ?_)
    clear hK K hHeld
    have hHeld := hHeld2
    clear hHeld2
    try simp only [List.getElem_toArray, List.getElem_cons_succ, List.getElem_cons_zero, Act.put, List.setIfInBounds_toArray, List.set_cons_zero, List.set_cons_succ]
    refine wpAnyH_take (i := 10) (oi := _) (v := ?v10) rfl (by kernel_rfl) (by kernel_rfl) (by kernel_rfl) (fun _ _ _ h => h) (Or.inl ⟨by rfl, ?y10⟩) (by assumption) ?r10
    case y10 => (intro w hSw; (obtain ⟨hSa, hSb⟩ := hSw); go_simp <;> with_reducible rfl)
    try simp only [List.getElem_toArray, List.getElem_cons_succ, List.getElem_cons_zero, Act.put, List.setIfInBounds_toArray, List.set_cons_zero, List.set_cons_succ]
    refine wpAnyH_done (by kernel_rfl) ?_ _
    clear hHeld d0 d1 HSf
    go_wp2
    go_roundw
    case rel => exact ⟨x + 1, acc2, by go_num, by omega, Hrl2, Hal6, Hsz2, Hown6, Hb6⟩
    case measure => simp [intOf] <;> omega
   ·have h2i : ((qs.length : Int) != 2) = true := by rw [bne_iff_ne]; omega
    have hno := Hnone.out (by rw [← Hqs.out, List.length_map]; exact h2)
    have hP := Lib.hid (Hbad.out hno (.slice none 0 0) w3 (below_then Hb1.out Hb3.out))
    clear hno h2
    go_wp2
    go_ret2
    exact hP.out
  ·obtain rfl : x = ps.length := by omega
   have hrl : rlabs pp = some acc := by have := Hrl.out; rwa [List.take_length, Hps.out] at this
   have HE := Lib.hid (Hend.out acc hrl)
   have hlab : Labs wr [] u4 acc := Rd.of_own Hown.out (by simp)
   have Htx := Lib.hid (rtextL_any u4 acc wr hlab Hsz.out (by have := Hal.out; omega))
   have Hbw := Lib.hid (below_then Hb1.out Hbr.out)
   unfold RTextPost at Htx
   generalize (rtextS acc).1 = t at *
   generalize (rtextS acc).2 = n at *
   clear hrl hlab
   go_wp2_with fail
   refine Htx.out.mono ?_
   rintro e w4 ⟨rfl, hb4⟩
   have Hb4 := Lib.hid (below_then Hbw.out hb4)
   clear hb4 Htx
   by_cases hn : n = 0
   ·subst hn
    have hE2 := Lib.hid (fun v => HE.out v w4 Hb4.out)
    clear HE
    cases ht : (t.toList == s.toList) with
    | true =>
     have hE3 : Hid (∀ v, ParsePost s w (.returned (.tuple #[v, .int .i64 0])) w4) := fun v => by have := hE2.out v; rwa [ht] at this
     clear hE2
     go_wp2
     go_ret2
     exact hE3.out _
    | false =>
     have hE3 : Hid (∀ v, ParsePost s w (.returned (.tuple #[v, .int .i64 12])) w4) := fun v => by have := hE2.out v; rwa [ht] at this
     clear hE2
     go_wp2
     go_ret2
     exact hE3.out _
   ·have hni : ((n : Int) != 0) = true := by rw [bne_iff_ne]; omega
    have hE3 : Hid (∀ v, ParsePost s w (.returned (.tuple #[v, .int .i64 12])) w4) := fun v => by have := HE.out v w4 Hb4.out; rwa [decide_eq_false hn, Bool.false_and] at this
    clear HE hn
    go_wp2
    go_ret2
    exact hE3.out _
end Go.Proofs.YtinnifhnabncfaaGreatDoor.Vi
end
section
namespace Go.Proofs.YtinnifhnabncfaaGreatDoor.Vi
open Go.RowKit Base Mem Go.Shelf
def rzS (e : EntryD) : Bool := if e.kind = 1 then e.ser.toList.isEmpty else eqI e.ag e.sh e.seq 0 0 0 && e.ep == 0 && e.ds.length == 0
set_option maxRecDepth 100000 in
theorem rzero_any (e : EntryD) (A : Option Addr) (c : Nat) (w : World) :
  Calls Tryz.prog 121 #[.agg (eCell (e, .slice A e.ds.length c)).toArray] w fun r w' => BoolPost (rzS e) w r w' := by
 obtain ⟨kind, ag, sh, seq, ep, ds, ser, fr, tag⟩ := e
 have HK : Hid (rzS ⟨kind, ag, sh, seq, ep, ds, ser, fr, tag⟩ = if kind = 1 then ser.toList.isEmpty else eqI ag sh seq 0 0 0 && ep == 0 && ds.length == 0) := rfl
 have hb : Hid (∀ o, Below w.heap.size w (w.alloc o)) := fun o => (Below.refl _ _).alloc (Nat.le_refl _) o
 generalize hn : ds.length = n at *
 simp only [eCell]
 clear hn
 by_cases h1 : kind = 1
 ·have hR : Hid (rzS ⟨kind, ag, sh, seq, ep, ds, ser, fr, tag⟩ = ser.toList.isEmpty) := by show _ = _; rw [HK.out, if_pos h1]
  subst h1
  go_enter Tryz.func121, Tryz.ntmps121
  go_wp2
  all_goals go_ret
  all_goals exact ⟨by rw [hR.out]; simp, hb.out _⟩
 ·have h1' : (kind == 1) = false := by simpa using h1
  have hR : Hid (rzS ⟨kind, ag, sh, seq, ep, ds, ser, fr, tag⟩ = (eqI ag sh seq 0 0 0 && ep == 0 && n == 0)) := by show _ = _; rw [HK.out, if_neg h1]
  clear h1
  cases h3 : eqI ag sh seq 0 0 0 with
  | false =>
   have he := fun W => eqI_run ag sh seq 0 0 0 false h3 W
   have hR2 : Hid (rzS ⟨kind, ag, sh, seq, ep, ds, ser, fr, tag⟩ = false) := by show _ = _; rw [hR.out, h3]; rfl
   rw [hR2.out]
   clear h3
   go_enter Tryz.func121, Tryz.ntmps121
   go_wp2
   go_ret
   exact ⟨rfl, hb.out _⟩
  | true =>
   have he := fun W => eqI_run ag sh seq 0 0 0 true h3 W
   have hR1 : Hid (rzS ⟨kind, ag, sh, seq, ep, ds, ser, fr, tag⟩ = (true && ep == 0 && n == 0)) := by show _ = _; rw [hR.out, h3]
   clear h3
   cases h4 : (ep == 0) with
   | false =>
    have hR2 : Hid (rzS ⟨kind, ag, sh, seq, ep, ds, ser, fr, tag⟩ = false) := by show _ = _; rw [hR1.out, h4]; simp
    rw [hR2.out]
    go_enter Tryz.func121, Tryz.ntmps121
    go_wp2
    go_ret
    exact ⟨rfl, hb.out _⟩
   | true =>
    have hR2 : Hid (rzS ⟨kind, ag, sh, seq, ep, ds, ser, fr, tag⟩ = ((n : Int) == 0)) := by
     show _ = _
     rw [hR1.out, h4]
     cases n with
     | zero => rfl
     | succ n =>
      rw [show ((n + 1 : Nat) == 0) = false from rfl]
      symm
      rw [Bool.and_false, beq_eq_false_iff_ne]
      omega
    rw [hR2.out]
    go_enter Tryz.func121, Tryz.ntmps121
    go_wp2
    go_ret
    exact ⟨rfl, hb.out _⟩
theorem kind_z (e : EntryD) (h : e.kind = 1 ∨ e.kind = 2) : kindS e = rzS e := by
 unfold kindS rzS
 rcases h with h | h
 ·rw [h]; rfl
 ·rw [h]; rfl
theorem kind_no (e : EntryD) (h1 : e.kind ≠ 1) (h2 : e.kind ≠ 2) : kindS e = false := by
 unfold kindS
 rw [if_neg h1, if_neg h2]
theorem ite_or2 {α : Type} (a b : Prop) [Decidable a] [Decidable b] (x y : α) : (if a ∨ b then x else y) = if a then x else if b then x else y := by
 by_cases h1 : a
 ·rw [if_pos (.inl h1), if_pos h1]
 ·by_cases h2 : b
  ·rw [if_pos (.inr h2), if_neg h1, if_pos h2]
  ·rw [if_neg (by rintro (h | h); exact h1 h; exact h2 h), if_neg h1, if_neg h2]
theorem win_iff (n e : Int) : (!(withinB n e)) = true ↔ (n < 0 ∨ e ≤ n) := by
 unfold withinB
 simp only [Bool.not_eq_true', Bool.and_eq_false_iff, decide_eq_false_iff_not]
 omega
theorem bad_iff (e : EntryD) : badId e = true ↔ (e.ag < 0 ∨ 8 ≤ e.ag ∨ e.sh < 0 ∨ 4 ≤ e.sh ∨ e.seq < 1 ∨ e.ep < 1) := by
 unfold badId
 rw [Bool.or_eq_true, Bool.or_eq_true, Bool.or_eq_true, win_iff, win_iff, decide_eq_true_eq, decide_eq_true_eq]
 omega
theorem fr_iff (e : EntryD) : (!(withinB e.fr 8) || decide (e.tag < 0)) = true ↔ (e.fr < 0 ∨ 8 ≤ e.fr ∨ e.tag < 0) := by
 rw [Bool.or_eq_true, win_iff, decide_eq_true_eq]
 omega
theorem emp_iff (e : EntryD) : (e.ds.length == 0 || e.ds.any fun d => d.n == 0) = true ↔ ((e.ds.any fun d => d.n == 0) = true ∨ e.ds.length = 0) := by
 rw [Bool.or_eq_true, beq_iff_eq]
 exact Or.comm
/-- Why an entry of one kind is not right. -/
theorem right_one (e : EntryD) (h : e.kind = 1) : rightE e = if rzS e = false then 12 else if e.fr < 0 then 1 else if 8 ≤ e.fr then 1 else if e.tag < 0 then 1 else
  if e.ag < 0 then 1 else if 8 ≤ e.ag then 1 else if e.sh < 0 then 1 else if 4 ≤ e.sh then 1 else if e.seq < 1 then 1 else if e.ep < 1 then 1 else
  if 8 < e.ds.length then 3 else if (e.ds.any fun d => d.n == 0) = true then 1 else if e.ds.length = 0 then 1 else if (e.ds.all fun d => serOk d.ser) = true then 0 else 12 := by
 have hw : writtenS e = if (e.ag < 0 ∨ 8 ≤ e.ag ∨ e.sh < 0 ∨ 4 ≤ e.sh ∨ e.seq < 1 ∨ e.ep < 1) then 1 else if 8 < e.ds.length then 3 else if ((e.ds.any fun d => d.n == 0) = true ∨ e.ds.length = 0) then 1 else if (e.ds.all fun d => serOk d.ser) = true then 0 else 12 := by
  unfold writtenS
  simp only [bad_iff, emp_iff]
 have hr : rightE e = if rzS e = false then 12 else if (e.fr < 0 ∨ 8 ≤ e.fr ∨ e.tag < 0) then 1 else writtenS e := by
  unfold rightE
  rw [kind_z e (.inl h)]
  simp only [fr_iff, h, if_true]
 rw [hr, hw]
 simp only [ite_or2]
theorem right_two (e : EntryD) (h : e.kind = 2) : rightE e = if rzS e = false then 12 else if e.fr < 0 then 1 else if 8 ≤ e.fr then 1 else if e.tag < 0 then 1 else if serOk e.ser = true then 0 else 12 := by
 have h1 : ¬ e.kind = 1 := by omega
 have hr : rightE e = if rzS e = false then 12 else if (e.fr < 0 ∨ 8 ≤ e.fr ∨ e.tag < 0) then 1 else if serOk e.ser = true then 0 else 12 := by
  unfold rightE
  rw [kind_z e (.inr h)]
  simp only [fr_iff, h1, if_false]
 rw [hr]
 simp only [ite_or2]
theorem rblk9 {w : World} {g : Nat} {t : TypeId} {c0 c1 c2 c3 c4 c5 c6 c7 c8 : Value} (h : Blk w g t #[c0, c1, c2, c3, c4, c5, c6, c7, c8]) :
  w.cell? ⟨g, 0, none⟩ = some c0 ∧ w.cell? ⟨g, 1, none⟩ = some c1 ∧ w.cell? ⟨g, 2, none⟩ = some c2 ∧ w.cell? ⟨g, 3, none⟩ = some c3 ∧ w.cell? ⟨g, 4, none⟩ = some c4 ∧ w.cell? ⟨g, 5, none⟩ = some c5 ∧ w.cell? ⟨g, 6, none⟩ = some c6 ∧ w.cell? ⟨g, 7, none⟩ = some c7 ∧ w.cell? ⟨g, 8, none⟩ = some c8 ∧ (∀ i, w.frozen? ⟨g, i, none⟩ = false) :=
 ⟨h.cell 0, h.cell 1, h.cell 2, h.cell 3, h.cell 4, h.cell 5, h.cell 6, h.cell 7, h.cell 8, h.frozen⟩
set_option maxRecDepth 100000 in
set_option maxHeartbeats 4000000 in
theorem rrightE_any (e : EntryD) (dv : Value) (w : World) (h : Ds w [] dv e.ds) (hs : Short e) :
  Calls Tryz.prog 65 #[.agg (eCell (e, dv)).toArray] w fun r w' => NumPost (rightE e) w r w' := by
 have HN : Hid (e.kind ≠ 1 → e.kind ≠ 2 → rightE e = 12) := fun h1 h2 => by unfold rightE; rw [kind_no e h1 h2, if_pos rfl]
 have H1 := Lib.hid (right_one e)
 have H2 := Lib.hid (right_two e)
 obtain ⟨hs1, hs2, hs3⟩ := hs
 have hz := Lib.hid (fun A c W => rzero_any e A c W)
 have HD := Lib.hid h
 obtain ⟨A, c, rfl, hc⟩ := h.len
 have hpa := Lib.hid (fun W => rparse_any e.ser W hs1)
 have Hs2 := Lib.hid hs2
 generalize rightE e = rr at *
 generalize rzS e = zs at *
 obtain ⟨kind, ag, sh, seq, ep, ds, ser, fr, tag⟩ := e
 simp only [] at h hs1 hs2 hs3 hz hpa HN H1 H2 HD Hs2 hc
 clear h hs1 hs2
 have hz2 : Hid (∀ W, Calls Tryz.prog 121 #[.agg #[.int .i64 kind, .int .i64 ag, .int .i64 sh, .int .i64 seq, .int .i64 ep, .slice A ds.length c, .string ser, .int .i64 fr, .int .i64 tag]] W fun r w' => r = .returned (.bool zs) ∧ Below W.heap.size W w') := fun W => hz.out A c W
 clear hz
 obtain ⟨w2, hw2⟩ : ∃ w2, w2 = w.alloc (.cells #[.int .i64 kind, .int .i64 ag, .int .i64 sh, .int .i64 seq, .int .i64 ep, .slice A ds.length c, .string ser, .int .i64 fr, .int .i64 tag] 26) := ⟨_, rfl⟩
 have hB : Blk w2 w.heap.size 26 #[.int .i64 kind, .int .i64 ag, .int .i64 sh, .int .i64 seq, .int .i64 ep, .slice A ds.length c, .string ser, .int .i64 fr, .int .i64 tag] := by rw [hw2]; exact Blk.new w _ _
 have hk2 : Keeps [] w w2 := by rw [hw2]; exact (Keeps.refl _ _).alloc _
 have Hk2 := Lib.hid hk2; have Hw2 := Lib.hid hw2; have HB := Lib.hid hB
 obtain ⟨c0, c1, c2, c3, c4, c5, c6, c7, c8, _⟩ := rblk9 hB
 clear hk2 hw2 hB
 show Calls Tryz.prog 65 #[.agg #[.int .i64 kind, .int .i64 ag, .int .i64 sh, .int .i64 seq, .int .i64 ep, .slice A ds.length c, .string ser, .int .i64 fr, .int .i64 tag]] w fun r w' => NumPost rr w r w'
 go_enter Tryz.func65, Tryz.ntmps65
 go_upto_region 1 with (fail)
 rw [← Hw2.out]
 by_cases k1 : kind = 1
 ·have HR := Lib.hid (H1.out k1)
  clear H1 H2 HN
  subst k1
  go_wp2_with fail
  refine (hz2.out _).mono ?_
  rintro r w3 ⟨rfl, hb3⟩
  have hw2s : w.heap.size < w2.heap.size := HB.out.lt
  have HB3 := Lib.hid (HB.out.below hb3 hw2s)
  have Hk3 : Hid (Keeps [] w w3) := Hk2.out.trans (Keeps.of_below (M := []) hb3) (by simp)
  clear hb3 hz2 c0 c1 c2 c3 c4 c5 c6 c7 c8
  obtain ⟨c0, c1, c2, c3, c4, c5, c6, c7, c8, _⟩ := rblk9 HB3.out
  have hb30 : w.heap.size < w3.heap.size := HB3.out.lt
  cases zs with
  | false =>
   have hR : Hid (rr = 12) := by show _ = _; rw [HR.out, if_pos rfl]
   clear HR
   go_wp2
   go_ret
   exact ⟨by rw [hR.out]; rfl, Hk3.out.below⟩
  | true =>
   replace HR := Lib.hid (HR.out.trans (if_neg (by simp)))
   by_cases q1 : fr < 0
   ·have hR := Lib.hid (HR.out.trans (if_pos q1))
    clear HR
    go_wp2
    go_ret
    exact ⟨by rw [hR.out]; rfl, Hk3.out.below⟩
   ·have q1' : decide (fr < 0) = false := decide_eq_false q1
    replace HR := Lib.hid (HR.out.trans (if_neg q1))
    clear q1
    by_cases q2 : 8 ≤ fr
    ·have hR := Lib.hid (HR.out.trans (if_pos q2))
     clear HR
     go_wp2
     go_ret
     exact ⟨by rw [hR.out]; rfl, Hk3.out.below⟩
    ·have q2' : decide (8 ≤ fr) = false := decide_eq_false q2
     replace HR := Lib.hid (HR.out.trans (if_neg q2))
     clear q2
     by_cases q3 : tag < 0
     ·have hR := Lib.hid (HR.out.trans (if_pos q3))
      clear HR
      go_wp2
      go_ret
      exact ⟨by rw [hR.out]; rfl, Hk3.out.below⟩
     ·have q3' : decide (tag < 0) = false := decide_eq_false q3
      replace HR := Lib.hid (HR.out.trans (if_neg q3))
      clear q3
      go_upto_region 8 with (fail)
      by_cases q4 : ag < 0
      ·have hR := Lib.hid (HR.out.trans (if_pos q4))
       clear HR
       go_wp2
       go_ret
       exact ⟨by rw [hR.out]; rfl, Hk3.out.below⟩
      ·have q4' : decide (ag < 0) = false := decide_eq_false q4
       replace HR := Lib.hid (HR.out.trans (if_neg q4))
       clear q4
       by_cases q5 : 8 ≤ ag
       ·have hR := Lib.hid (HR.out.trans (if_pos q5))
        clear HR
        go_wp2
        go_ret
        exact ⟨by rw [hR.out]; rfl, Hk3.out.below⟩
       ·have q5' : decide (8 ≤ ag) = false := decide_eq_false q5
        replace HR := Lib.hid (HR.out.trans (if_neg q5))
        clear q5
        by_cases q6 : sh < 0
        ·have hR := Lib.hid (HR.out.trans (if_pos q6))
         clear HR
         go_wp2
         go_ret
         exact ⟨by rw [hR.out]; rfl, Hk3.out.below⟩
        ·have q6' : decide (sh < 0) = false := decide_eq_false q6
         replace HR := Lib.hid (HR.out.trans (if_neg q6))
         clear q6
         by_cases q7 : 4 ≤ sh
         ·have hR := Lib.hid (HR.out.trans (if_pos q7))
          clear HR
          go_wp2
          go_ret
          exact ⟨by rw [hR.out]; rfl, Hk3.out.below⟩
         ·have q7' : decide (4 ≤ sh) = false := decide_eq_false q7
          replace HR := Lib.hid (HR.out.trans (if_neg q7))
          clear q7
          by_cases q8 : seq < 1
          ·have hR := Lib.hid (HR.out.trans (if_pos q8))
           clear HR
           go_wp2
           go_ret
           exact ⟨by rw [hR.out]; rfl, Hk3.out.below⟩
          ·have q8' : decide (seq < 1) = false := decide_eq_false q8
           replace HR := Lib.hid (HR.out.trans (if_neg q8))
           clear q8
           by_cases q9 : ep < 1
           ·have hR := Lib.hid (HR.out.trans (if_pos q9))
            clear HR
            go_wp2
            go_ret
            exact ⟨by rw [hR.out]; rfl, Hk3.out.below⟩
           ·have q9' : decide (ep < 1) = false := decide_eq_false q9
            replace HR := Lib.hid (HR.out.trans (if_neg q9))
            clear q9
            by_cases h8 : 8 < ds.length
            ·have hR := Lib.hid (HR.out.trans (if_pos h8))
             have h8i : (8 : Int) < (ds.length : Int) := by omega
             clear HR
             go_wp2
             go_ret
             exact ⟨by rw [hR.out]; rfl, Hk3.out.below⟩
            ·have h8i : decide ((8 : Int) < (ds.length : Int)) = false := decide_eq_false (by omega)
             replace HR := Lib.hid (HR.out.trans (if_neg h8))
             have HD3 := Lib.hid (HD.out.keep (M' := []) Hk3.out (by simp))
             go_wp2_with fail
             go_loopw [87] (fun i wr => ∃ x : Nat, i = .int .i64 x ∧ x ≤ ds.length ∧ Hid (((ds.take x).any fun d => d.n == 0) = false) ∧ Hid (Below w3.heap.size w3 wr)) (fun i _ => ds.length - (intOf i).toNat)
             case atStart => exact ⟨0, rfl, by omega, rfl, Below.refl _ _⟩
             case round =>
              obtain ⟨x, rfl, hx, Hno, Hbr⟩ := hrel
              by_cases hlt : x < ds.length
              ·have hx1 : (x : Int) < (ds.length : Int) := by omega
               obtain ⟨g, off, _, e1, _, hg, _, hcell⟩ := Rd.at_ dCell 2 (fun _ => rfl) (HD3.out.keep (Keeps.of_below (M := []) Hbr.out) (by simp)) hlt
               obtain rfl : A = some ⟨g, off, none⟩ := by injection e1
               clear e1
               have p0 := hcell 0 _ rfl
               have p1 := hcell 1 _ rfl
               rw [Nat.add_zero] at p0
               clear hcell
               have Hnx : Hid (((ds.take (x + 1)).any fun d => d.n == 0) = (ds[x].n == 0)) := by
                show _ = _
                rw [List.take_succ_eq_append_getElem hlt, List.any_append, Hno.out]; simp
               have Hbad : Hid ((ds[x].n == 0) = true → (ds.any fun d => d.n == 0) = true) := fun h => List.any_eq_true.2 ⟨ds[x], List.getElem_mem _, h⟩
               have Hba := Lib.hid (Hbr.out.alloc Hbr.out.size (.cells #[.string ds[x].ser, .int .u64 ds[x].n] 86))
               generalize ds[x] = d at *
               obtain ⟨dser, dn⟩ := d
               simp only [] at p0 p1 Hnx Hbad Hba
               cases hz : (dn == 0) with
               | true =>
                have hR := Lib.hid (HR.out.trans (if_pos (Hbad.out hz)))
                obtain rfl : dn = 0 := by simpa using hz
                clear HR Hbad Hnx
                go_wp2
                go_ret
                exact ⟨by rw [hR.out]; rfl, below_then Hk3.out.below Hba.out⟩
               | false =>
                have ho : Hid (((ds.take (x + 1)).any fun d => d.n == 0) = false) := by show _ = _; rw [Hnx.out, hz]
                clear HR Hbad Hnx
                go_wp2
                go_roundw
                case rel => exact ⟨x + 1, by go_num, by omega, ho, Hba⟩
                case measure => simp [intOf] <;> omega
              ·obtain rfl : x = ds.length := by omega
               replace HR := Lib.hid (HR.out.trans (if_neg (by have := Hno.out; rw [List.take_length] at this; rw [this]; simp)))
               have HBr := Lib.hid (HB3.out.below Hbr.out hb30)
               have Hkr := Lib.hid (Hk3.out.trans (Keeps.of_below (M := []) Hbr.out) (by simp))
               clear c0 c1 c2 c3 c4 c5 c6 c7 c8 Hno
               obtain ⟨c0, c1, c2, c3, c4, c5, c6, c7, c8, _⟩ := rblk9 HBr.out
               by_cases hn : ds.length = 0
               ·have hR := Lib.hid (HR.out.trans (if_pos hn))
                have hni : ((ds.length : Int) == 0) = true := by rw [beq_iff_eq]; omega
                have hni2 : (ds.length : Int) = 0 := by omega
                clear HR
                go_wp2
                go_ret
                exact ⟨by rw [hR.out]; rfl, Hkr.out.below⟩
               ·have hni : ((ds.length : Int) == 0) = false := by rw [beq_eq_false_iff_ne]; omega
                replace HR := Lib.hid (HR.out.trans (if_neg hn))
                have HD4 := Lib.hid (HD.out.keep (M' := []) Hkr.out (by simp))
                clear HD3 Hk3 Hbr HB3
                go_wp2_with fail
                go_loopw [102] (fun i wq => ∃ x : Nat, i = .int .i64 x ∧ x ≤ ds.length ∧ Hid (((ds.take x).all fun d => serOk d.ser) = true) ∧ Hid (Below wr.heap.size wr wq)) (fun i _ => ds.length - (intOf i).toNat)
                case atStart => exact ⟨0, rfl, by omega, rfl, Below.refl _ _⟩
                case round =>
                 obtain ⟨x, rfl, hx2, Hall, Hbq⟩ := hrel
                 by_cases hlt2 : x < ds.length
                 ·have hx1 : (x : Int) < (ds.length : Int) := by omega
                  obtain ⟨g, off, _, e1, _, hg, _, hcell⟩ := Rd.at_ dCell 2 (fun _ => rfl) (HD4.out.keep (Keeps.of_below (M := []) Hbq.out) (by simp)) hlt2
                  obtain rfl : A = some ⟨g, off, none⟩ := by injection e1
                  clear e1
                  have p0 := hcell 0 _ rfl
                  have p1 := hcell 1 _ rfl
                  rw [Nat.add_zero] at p0
                  clear hcell
                  have Hnx : Hid (((ds.take (x + 1)).all fun d => serOk d.ser) = serOk ds[x].ser) := by
                   show _ = _
                   rw [List.take_succ_eq_append_getElem hlt2, List.all_append, Hall.out]; simp
                  have Hbad : Hid (serOk ds[x].ser = false → ¬ (ds.all fun d => serOk d.ser) = true) := fun h hall => by
                   have := List.all_eq_true.1 hall ds[x] (List.getElem_mem _)
                   simp only [h] at this; cases this
                  have hpa2 := Lib.hid (fun W => show Calls Tryz.prog 122 #[.string ds[x].ser] W fun e w' => ∃ v, e = .returned (.tuple #[v, .int .i64 (if serOk ds[x].ser = true then 0 else 12)]) ∧ Below W.heap.size W w' from rparse_any ds[x].ser W (Hs2.out ds[x] (List.getElem_mem _)))
                  have Hba := Lib.hid (Hbq.out.alloc Hbq.out.size (.cells #[.string ds[x].ser, .int .u64 ds[x].n] 86))
                  generalize ds[x] = d at *
                  obtain ⟨dser, dn⟩ := d
                  simp only [] at p0 p1 Hnx Hbad Hba hpa2
                  cases hok : serOk dser with
                  | true =>
                   have ho : Hid (((ds.take (x + 1)).all fun d => serOk d.ser) = true) := by show _ = _; rw [Hnx.out, hok]
                   rw [hok, if_pos rfl] at hpa2
                   clear HR Hbad Hnx hok
                   go_wp2_with fail
                   refine (hpa2.out _).mono ?_
                   rintro r w5 ⟨v5, rfl, hb5⟩
                   have Hb5 := Lib.hid (below_then Hba.out hb5)
                   clear hb5 hpa2
                   go_wp2
                   go_roundw
                   case rel => exact ⟨x + 1, by go_num, by omega, ho, Hb5⟩
                   case measure => simp [intOf] <;> omega
                  | false =>
                   have hR := Lib.hid (HR.out.trans (if_neg (Hbad.out hok)))
                   rw [hok, if_neg (by simp)] at hpa2
                   clear HR Hbad Hnx hok
                   go_wp2_with fail
                   refine (hpa2.out _).mono ?_
                   rintro r w5 ⟨v5, rfl, hb5⟩
                   have Hb5 := Lib.hid (below_then Hkr.out.below (below_then Hba.out hb5))
                   clear hb5 hpa2
                   go_wp2
                   go_ret
                   exact ⟨by rw [hR.out]; rfl, Hb5.out⟩
                 ·obtain rfl : x = ds.length := by omega
                  have hR := Lib.hid (HR.out.trans (if_pos (by have := Hall.out; rwa [List.take_length] at this)))
                  clear HR
                  go_wp2
                  go_ret
                  exact ⟨by rw [hR.out]; rfl, below_then Hkr.out.below Hbq.out⟩
 ·have k1' : (kind == 1) = false := by simpa using k1
  by_cases k2 : kind = 2
  ·have HR := Lib.hid (H2.out k2)
   clear H1 H2 HN
   subst k2
   go_wp2_with fail
   refine (hz2.out _).mono ?_
   rintro r w3 ⟨rfl, hb3⟩
   have hw2s : w.heap.size < w2.heap.size := HB.out.lt
   have HB3 := Lib.hid (HB.out.below hb3 hw2s)
   have Hk3 : Hid (Keeps [] w w3) := Hk2.out.trans (Keeps.of_below (M := []) hb3) (by simp)
   clear hb3 hz2 c0 c1 c2 c3 c4 c5 c6 c7 c8
   obtain ⟨c0, c1, c2, c3, c4, c5, c6, c7, c8, _⟩ := rblk9 HB3.out
   have hb30 : w.heap.size < w3.heap.size := HB3.out.lt
   cases zs with
   | false =>
    have hR : Hid (rr = 12) := by show _ = _; rw [HR.out, if_pos rfl]
    clear HR
    go_wp2
    go_ret
    exact ⟨by rw [hR.out]; rfl, Hk3.out.below⟩
   | true =>
    replace HR := Lib.hid (HR.out.trans (if_neg (by simp)))
    by_cases q1 : fr < 0
    ·have hR := Lib.hid (HR.out.trans (if_pos q1))
     clear HR
     go_wp2
     go_ret
     exact ⟨by rw [hR.out]; rfl, Hk3.out.below⟩
    ·have q1' : decide (fr < 0) = false := decide_eq_false q1
     replace HR := Lib.hid (HR.out.trans (if_neg q1))
     clear q1
     by_cases q2 : 8 ≤ fr
     ·have hR := Lib.hid (HR.out.trans (if_pos q2))
      clear HR
      go_wp2
      go_ret
      exact ⟨by rw [hR.out]; rfl, Hk3.out.below⟩
     ·have q2' : decide (8 ≤ fr) = false := decide_eq_false q2
      replace HR := Lib.hid (HR.out.trans (if_neg q2))
      clear q2
      by_cases q3 : tag < 0
      ·have hR := Lib.hid (HR.out.trans (if_pos q3))
       clear HR
       go_wp2
       go_ret
       exact ⟨by rw [hR.out]; rfl, Hk3.out.below⟩
      ·have q3' : decide (tag < 0) = false := decide_eq_false q3
       replace HR := Lib.hid (HR.out.trans (if_neg q3))
       clear q3
       have hpa2 := Lib.hid (fun W => show Calls Tryz.prog 122 #[.string ser] W fun e w' => ∃ v, e = .returned (.tuple #[v, .int .i64 (if serOk ser = true then 0 else 12)]) ∧ Below W.heap.size W w' from hpa.out W)
       clear hpa
       have hR : Hid (((if serOk ser = true then 0 else 12 : Int)) = (rr : Int)) := by show _ = _; rw [HR.out]; split <;> rfl
       clear HR
       generalize (if serOk ser = true then 0 else 12 : Int) = rv at *
       go_wp2_with fail
       refine (hpa2.out _).mono ?_
       rintro r w4 ⟨v4, rfl, hb4⟩
       have Hb4 := Lib.hid (below_then Hk3.out.below hb4)
       clear hb4 hpa2
       go_wp2
       go_ret
       exact ⟨by rw [hR.out]; rfl, Hb4.out⟩
  ·have k2' : (kind == 2) = false := by simpa using k2
   have hR := Lib.hid (HN.out k1 k2)
   have k1n : (kind != 1) = true := by rw [bne_iff_ne]; exact k1
   have k2n : (kind != 2) = true := by rw [bne_iff_ne]; exact k2
   clear H1 H2 HN
   go_wp2
   go_ret
   exact ⟨by rw [hR.out]; rfl, Hk2.out.below⟩
end Go.Proofs.YtinnifhnabncfaaGreatDoor.Vi
end
section
namespace Go.Proofs.YtinnifhnabncfaaGreatDoor.Vi
open Go.RowKit Base Mem
/-- A reader lies in block p: what is left, and whether something was not there. -/
def RRdAt (w : World) (M : List Nat) (p : Nat) (l : List UInt8) (bad : Bool) : Prop := l.length ≤ 4611686018427387904 ∧ ∃ v, Blk w p 175 #[v, .bool bad] ∧ Bs w (p :: M) v l
theorem RRdAt.lt {w : World} {M : List Nat} {p : Nat} {l : List UInt8} {bad : Bool} (h : RRdAt w M p l bad) : p < w.heap.size := by obtain ⟨_, _, h, _⟩ := h; exact h.lt
theorem RRdAt.keep {w w' : World} {M M' : List Nat} {p : Nat} {l : List UInt8} {bad : Bool} (h : RRdAt w M p l bad) (k : Keeps M' w w') (hM : ∀ g ∈ M', g ∈ M ∨ w.heap.size ≤ g) (hp : p ∉ M') : RRdAt w' M p l bad := by
 obtain ⟨hl, v, hb, hs⟩ := h
 exact ⟨hl, v, k.blk hb hp, hs.keep k (fun g hg => (hM g hg).imp (fun h => List.mem_cons_of_mem _ h) id)⟩
theorem RRdAt.avoid {w : World} {M M' : List Nat} {p : Nat} {l : List UInt8} {bad : Bool} (h : RRdAt w M p l bad) (hM : ∀ g ∈ M', g ∈ M ∨ w.heap.size ≤ g) : RRdAt w M' p l bad := by
 obtain ⟨hl, v, hb, hs⟩ := h
 exact ⟨hl, v, hb, hs.avoid (fun g hg => by
  rcases List.mem_cons.1 hg with rfl | hg
  ·exact .inl (by simp)
  ·exact (hM g hg).imp (fun h => List.mem_cons_of_mem _ h) id)⟩
theorem RRdAt.setBad {w : World} {M : List Nat} {p : Nat} {l : List UInt8} {bad : Bool} (h : RRdAt w M p l bad) : RRdAt (w.setCell ⟨p, 1, none⟩ (.bool true)) M p l true := by
 obtain ⟨hl, v, hb, hs⟩ := h
 exact ⟨hl, v, by simpa using hb.set_ 1 (.bool true), hs.keep (M' := [p]) ((Keeps.refl _ _).setCell (by simp) _) (fun g hg => .inl (by simp at hg; simp [hg]))⟩
theorem RRdAt.setB {w : World} {M : List Nat} {p : Nat} {l l' : List UInt8} {bad : Bool} {v' : Value} (h : RRdAt w M p l bad) (hl : l'.length ≤ l.length) (hv : Bs w (p :: M) v' l') : RRdAt (w.setCell ⟨p, 0, none⟩ v') M p l' bad := by
 obtain ⟨hl0, v, hb, hs⟩ := h
 exact ⟨by omega, v', by simpa using hb.set_ 0 v', hv.keep (M' := [p]) ((Keeps.refl _ _).setCell (by simp) _) (fun g hg => .inl (by simp at hg; simp [hg]))⟩
theorem rdone_any (M : List Nat) (p : Nat) (l : List UInt8) (bad : Bool) (w : World) (h : RRdAt w M p l bad) :
  Calls Tryz.prog 135 #[.pointer (some ⟨p, 0, none⟩)] w fun e w' => e = .returned (.bool (!bad && l.isEmpty)) ∧ w = w' := by
 obtain ⟨hl, v, hb, hs⟩ := h
 obtain ⟨A, c, rfl, hc⟩ := hs.len
 have c0 : w.cell? ⟨p, 0, none⟩ = some (.slice A l.length c) := hb.cell 0
 have c1 : w.cell? ⟨p, 1, none⟩ = some (.bool bad) := hb.cell 1
 clear hb hs
 cases bad with
 | true =>
  go_enter Tryz.func135, Tryz.ntmps135
  go_wp2
  go_ret
  exact ⟨rfl, rfl⟩
 | false =>
  have hR : Hid (l.isEmpty = ((l.length : Int) == 0)) := by show _ = _; cases l <;> simp <;> omega
  go_enter Tryz.func135, Tryz.ntmps135
  go_wp2
  go_ret
  rw [hR.out]
  exact ⟨rfl, rfl⟩
/-- What a call of a reader answers: a value, and how the reader stands. -/
def RRdPost (M : List Nat) (p : Nat) (v : Value) (l : List UInt8) (bad : Bool) (w : World) (e : Ending) (w' : World) : Prop := e = .returned v ∧ RRdAt w' M p l bad ∧ Keeps [p] w w'
set_option maxRecDepth 100000 in
set_option maxHeartbeats 600000 in
theorem rnum_any (M : List Nat) (p : Nat) (l : List UInt8) (bad : Bool) (w : World) (h : RRdAt w M p l bad) :
  Calls Tryz.prog 151 #[.pointer (some ⟨p, 0, none⟩)] w fun e w' => RRdPost M p (.int .u64 (numS l bad).1) (numS l bad).2.1 (numS l bad).2.2 w e w' := by
 obtain ⟨hl, v, hb, hs⟩ := id h
 obtain ⟨A, c, rfl, hc⟩ := hs.len
 have hg : Hid (Calls Tryz.prog 96 #[.slice A l.length c] w fun e w' => e = .returned (.tuple #[.int .u64 (getL l).1, .int .i64 (getL l).2]) ∧ Below w.heap.size w w') := rget_any _ l w (hs.avoid (M' := []) (by simp)) hl
 have hr : Hid (∀ (W : World) (hW : Below w.heap.size w W), RRdPost M p (.int .u64 0) l true w (.returned (.int .u64 0)) (W.setCell ⟨p, 1, none⟩ (.bool true))) := fun W hW =>
  ⟨rfl, (h.keep (M' := []) (Keeps.of_below hW) (by simp) (by simp)).setBad, (Keeps.of_below hW).setCell (by simp) _⟩
 have hr2 : Hid (∀ (W : World) (hW : Below w.heap.size w W) v' l', bad = false → l'.length ≤ l.length → Bs w (p :: M) v' l' → ∀ n, RRdPost M p (.int .u64 n) l' false w (.returned (.int .u64 n)) (W.setCell ⟨p, 0, none⟩ v')) := fun W hW v' l' hb0 hll hv n => by
  subst hb0
  exact ⟨rfl, (h.keep (M' := []) (Keeps.of_below hW) (by simp) (by simp)).setB hll (hv.keep (M' := []) (Keeps.of_below hW) (by simp)), (Keeps.of_below hW).setCell (by simp) _⟩
 have HN : Hid (numS l bad = if bad = true ∨ (getL l).2 = 0 then (0, l, true) else ((getL l).1, l.drop (getL l).2, false)) := rfl
 have hk := (getL_le l).1
 have Hs := Lib.hid hs
 have HB := Lib.hid hb
 have c0 : w.cell? ⟨p, 0, none⟩ = some (.slice A l.length c) := hb.cell 0
 have c1 : w.cell? ⟨p, 1, none⟩ = some (.bool bad) := hb.cell 1
 have f0 : w.frozen? ⟨p, 0, none⟩ = false := hb.frozen 0
 have f1 : w.frozen? ⟨p, 1, none⟩ = false := hb.frozen 1
 clear h hb hs
 generalize (getL l).1 = n at *
 generalize (getL l).2 = k at *
 cases bad with
 | true =>
  have hR : Hid (numS l true = (0, l, true)) := by show _ = _; rw [HN.out]; simp
  rw [hR.out]
  clear HN hr2
  go_enter Tryz.func151, Tryz.ntmps151
  go_wp2_with fail
  refine hg.out.mono ?_
  rintro e w1 ⟨rfl, hb1⟩
  have HB1 := Lib.hid (HB.out.below hb1 HB.out.lt); have Hb1 := Lib.hid hb1
  have d0 := HB1.out.cell 0; have d1 := HB1.out.cell 1; have g0 := HB1.out.frozen 0; have g1 := HB1.out.frozen 1
  simp only [List.getElem?_toArray, List.getElem?_cons_zero, List.getElem?_cons_succ] at d0 d1
  try rw [HKL.out] at d0
  clear hb1
  go_wp2
  go_ret
  exact hr.out w1 Hb1.out
 | false =>
  by_cases hk0 : k = 0
  ·have hR : Hid (numS l false = (0, l, true)) := by show _ = _; rw [HN.out, if_pos (.inr hk0)]
   rw [hR.out]
   subst hk0
   clear HN hr2
   go_enter Tryz.func151, Tryz.ntmps151
   go_wp2_with fail
   refine hg.out.mono ?_
   rintro e w1 ⟨rfl, hb1⟩
   have HB1 := Lib.hid (HB.out.below hb1 HB.out.lt); have Hb1 := Lib.hid hb1
   have d0 := HB1.out.cell 0; have d1 := HB1.out.cell 1; have g0 := HB1.out.frozen 0; have g1 := HB1.out.frozen 1
   simp only [List.getElem?_toArray, List.getElem?_cons_zero, List.getElem?_cons_succ] at d0 d1
   try rw [HKL.out] at d0
   clear hb1
   go_wp2
   go_ret
   exact hr.out w1 Hb1.out
  ·have hR : Hid (numS l false = (n, l.drop k, false)) := by show _ = _; rw [HN.out, if_neg (by simp [hk0])]
   rw [hR.out]
   have hkz : ((k : Int) == 0) = false := by simpa using hk0
   have hki : (k : Int) ≤ (l.length : Int) := by omega
   obtain ⟨g, off, rfl⟩ := Hs.out.some_ (by omega)
   clear HN hr
   by_cases hck : c = k
   ·have hd : Hid (l.drop k = []) := List.drop_eq_nil_of_le (by omega)
    have hp : Hid (∀ (W : World) (hW : Below w.heap.size w W), RRdPost M p (.int .u64 n) (l.drop k) false w (.returned (.int .u64 n)) (W.setCell ⟨p, 0, none⟩ (.slice (some ⟨g, off, none⟩) 0 0))) := fun W hW => by
     rw [hd.out]
     exact hr2.out W hW _ [] rfl (by simp) ⟨_, 0, rfl, Nat.le_refl _, rfl, fun h => absurd h (by simp)⟩ n
    have hkl : l.length = k := by omega
    subst hck
    rw [hkl] at c0
    have HKL := Lib.hid hkl
    have hg2 := Lib.hid (show Calls Tryz.prog 96 #[.slice (some ⟨g, off, none⟩) c c] w fun e w' => e = .returned (.tuple #[.int .u64 n, .int .i64 c]) ∧ Below w.heap.size w w' by have := hg.out; rwa [hkl] at this)
    clear hg hr2 hki hk hc hd hkl Hs
    go_enter Tryz.func151, Tryz.ntmps151
    go_wp2_with fail
    refine hg2.out.mono ?_
    rintro e w1 ⟨rfl, hb1⟩
    have HB1 := Lib.hid (HB.out.below hb1 HB.out.lt); have Hb1 := Lib.hid hb1
    have d0 := HB1.out.cell 0; have d1 := HB1.out.cell 1; have g0 := HB1.out.frozen 0; have g1 := HB1.out.frozen 1
    simp only [List.getElem?_toArray, List.getElem?_cons_zero, List.getElem?_cons_succ] at d0 d1
    try rw [HKL.out] at d0
    clear hb1
    go_wp2
    go_ret
    exact hp.out w1 Hb1.out
   ·have hp : Hid (∀ (W : World) (hW : Below w.heap.size w W), RRdPost M p (.int .u64 n) (l.drop k) false w (.returned (.int .u64 n)) (W.setCell ⟨p, 0, none⟩ (.slice (some ⟨g, off + k, none⟩) (l.length - k) (c - k)))) := fun W hW =>
     hr2.out W hW _ (l.drop k) rfl (by rw [List.length_drop]; omega) (by have := Hs.out.behind k hk hc; rwa [← List.length_drop] at this ⊢) n
    go_enter Tryz.func151, Tryz.ntmps151
    go_wp2_with fail
    refine hg.out.mono ?_
    rintro e w1 ⟨rfl, hb1⟩
    have HB1 := Lib.hid (HB.out.below hb1 HB.out.lt); have Hb1 := Lib.hid hb1
    have d0 := HB1.out.cell 0; have d1 := HB1.out.cell 1; have g0 := HB1.out.frozen 0; have g1 := HB1.out.frozen 1
    simp only [List.getElem?_toArray, List.getElem?_cons_zero, List.getElem?_cons_succ] at d0 d1
    try rw [HKL.out] at d0
    clear hb1
    go_wp2
    go_ret
    exact hp.out w1 Hb1.out
end Go.Proofs.YtinnifhnabncfaaGreatDoor.Vi
end
