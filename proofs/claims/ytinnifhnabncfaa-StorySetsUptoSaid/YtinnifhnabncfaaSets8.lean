/- The walk of slices.Compact at idents. -/
import Derived.Test.YtinnifhnabncfaaSetsM
namespace Go.Proofs.Ytinnifhnabncfaa.Sets
open Go.RowKit Base Mem Go.Shelf Go.Lib
def CompPost (blk cap : Nat) (d : List IdentD) (w : World) (e : Ending) (w' : World) : Prop := e = .returned (.slice (some ⟨blk, 0, none⟩) (ded d).length cap) ∧ (∃ rest, Blk w' blk 58 ((ded d).flatMap iEnc ++ rest).toArray) ∧ Keeps [blk] w w'
theorem blk_ident {w : World} {g : Nat} {l : List IdentD} {rest : List Value} (h : Blk w g 58 (l.flatMap iEnc ++ rest).toArray) {k : Nat} (hk : k < l.length) :
    w.cell? ⟨g, k * 3, none⟩ = some (.int .i64 l[k].ag) ∧ w.cell? ⟨g, k * 3 + 1, none⟩ = some (.int .i64 l[k].sh) ∧ w.cell? ⟨g, k * 3 + 2, none⟩ = some (.int .i64 l[k].seq) := by
  have hf : ∀ j, j < 3 → w.cell? ⟨g, k * 3 + j, none⟩ = (iEnc l[k])[j]? := fun j hj => by
    rw [h.cell, List.getElem?_toArray, List.getElem?_append_left (by rw [iCells_len]; omega), flat_at iEnc 3 (fun _ => rfl) l k j hk hj]
  exact ⟨hf 0 (by omega), hf 1 (by omega), hf 2 (by omega)⟩
theorem eql_run (a b : IdentD) (r : Bool) (h : eqI a b = r) (W : World) : (binOp .eql 58 (.agg #[.int .i64 a.ag, .int .i64 a.sh, .int .i64 a.seq]) (.agg #[.int .i64 b.ag, .int .i64 b.sh, .int .i64 b.seq])).run Try.prog W = .ok (.bool r) W := by
  rw [← h]; exact eq_at.1 a b W
theorem neq_run (a b : IdentD) (r : Bool) (h : eqI a b = r) (W : World) : (binOp .neq 58 (.agg #[.int .i64 a.ag, .int .i64 a.sh, .int .i64 a.seq]) (.agg #[.int .i64 b.ag, .int .i64 b.sh, .int .i64 b.seq])).run Try.prog W = .ok (.bool (!r)) W := by
  subst h
  have u3 := Try.underlying3
  have a3 := Try.isAgg3
  have z3 := Try.sizeOf3
  have hS : Try.prog.underlying 58 = some (.struct (Try.prog.fieldsOf 58)) := by kernel_rfl
  have hp : Try.prog.stoodInHeld 58 = false := by kernel_rfl
  simp only [eqI]
  rw [run_neq_struct, show (10000 : Nat) = 9999 + 1 from rfl, run_equalIn_agg W 9999 58 _ _ hS hp]
  simp only [Program.fieldsOf, Try.underlying58]
  go_simp
  by_cases h1 : a.ag = b.ag <;> by_cases h2 : a.sh = b.sh <;> by_cases h3 : a.seq = b.seq <;> simp [h1, h2, h3]
set_option maxRecDepth 100000 in
theorem compact_any (blk cap : Nat) (d : List IdentD) (rest : List Value) (w : World) (hB : Blk w blk 58 (d.flatMap iEnc ++ rest).toArray) (hl : d.length ≤ 2097152) (hc : d.length ≤ cap) (hcm : cap ≤ 9223372036854775807) :
    Calls Try.prog 58 #[.slice (some ⟨blk, 0, none⟩) d.length cap] w fun e w' => CompPost blk cap d w e w' := by
  have HB := Lib.hid hB
  clear hB
  go_enter Try.func58, Try.ntmps58
  by_cases h2 : d.length < 2
  · have hd : ded d = d := by
      match d, h2 with
      | [], _ => rfl
      | [_], _ => rfl
    have hp : CompPost blk cap d w (.returned (.slice (some ⟨blk, 0, none⟩) d.length cap)) w := ⟨by rw [hd], ⟨rest, by rw [hd]; exact HB.out⟩, Keeps.refl _ _⟩
    clear hd
    go_wp2
    go_ret
    exact hp
  · go_wp2_with fail
    go_slots
    go_loopw [3] (fun i wr => ∃ x q : Nat, i = .int .i64 x ∧ 1 ≤ x ∧ x ≤ d.length ∧ Hid (ded (d.take x) = d.take x) ∧ wr = w.drewN q) (fun i _ => d.length - (intOf i).toNat)
    case atStart => exact ⟨1, 0, rfl, by omega, by omega, (by match d, h2 with | [], h => exact absurd (by simp) h | a :: l, _ => rfl), rfl⟩
    case round =>
      obtain ⟨x, q, rfl, hx1, hx, Hd, rfl⟩ := hrel
      obtain ⟨y, rfl⟩ : ∃ y, x = y + 1 := ⟨x - 1, by omega⟩
      by_cases hlt : y + 1 < d.length
      · obtain ⟨a0, a1, a2⟩ := blk_ident HB.out (k := y) (by omega)
        obtain ⟨b0, b1, b2⟩ := blk_ident HB.out (k := y + 1) hlt
        have hst := Lib.hid (ded_step d (y + 1) (by omega) hlt)
        simp only [Nat.add_sub_cancel] at hst
        generalize d[y] = p at *
        have hxy : ((y + 1 : Nat) : Int) - 1 = (y : Int) := by omega
        have hxl : ((y + 1 : Nat) : Int) < (d.length : Int) := by omega
        by_cases heq : d[y + 1] = p
        · have ht := eql_run d[y + 1] p true (by rw [eqI_iff]; simpa using heq)
          have Hd2 : Hid (d.take (y + 1) = ded (d.take (y + 1 + 1))) := by show _ = _; rw [hst.out, if_pos heq, Hd.out]
          generalize d[y + 1] = u at *
          subst heq
          go_wp2_with fail
          go_quiet (fail)
          go_wp2_with fail
          go_slots
          go_loopw [3, 5] (fun kk tt wr => ∃ (m : List IdentD) (k t : Nat), kk = .int .i64 k ∧ tt = .int .i64 t ∧ 1 ≤ t ∧ y + 1 + t ≤ d.length ∧ k + 1 ≤ y + 1 + t ∧ 1 ≤ k ∧ Hid (m.length = d.length) ∧ Hid (m.take k = ded (d.take (y + 1 + t))) ∧ Hid (∀ j, y + t ≤ j → m[j]? = d[j]?) ∧ Hid (Blk wr blk 58 (m.flatMap iEnc ++ rest).toArray) ∧ Hid (Keeps [blk] w wr)) (fun _ tt _ => d.length - (intOf tt).toNat)
          case atStart => exact ⟨d, y + 1, 1, by go_num, rfl, by omega, by omega, by omega, by omega, rfl, Hd2.out, fun _ _ => rfl, ((Keeps.refl [] w).drewN _).blk HB.out (by simp), (Keeps.refl _ _).drewN _⟩
          case round =>
            obtain ⟨m, k, t, rfl, rfl, ht1, htd, hkt, hk1, Hml, Htk, Hag, HBr, HKr⟩ := hrel
            have hml := Hml.out
            by_cases hlt2 : y + 1 + t < d.length
            · obtain ⟨t', rfl⟩ : ∃ t', t = t' + 1 := ⟨t - 1, by omega⟩
              obtain ⟨a0, a1, a2⟩ := blk_ident HBr.out (k := y + 1 + t') (by omega)
              obtain ⟨b0, b1, b2⟩ := blk_ident HBr.out (k := y + 1 + (t' + 1)) (by omega)
              have e1 : m[y + 1 + t']'(by omega) = d[y + 1 + t']'(by omega) := by
                have := Hag.out (y + 1 + t') (by omega)
                rw [List.getElem?_eq_getElem (by omega), List.getElem?_eq_getElem (by omega)] at this
                injection this
              have e2 : m[y + 1 + (t' + 1)]'(by omega) = d[y + 1 + (t' + 1)]'(by omega) := by
                have := Hag.out (y + 1 + (t' + 1)) (by omega)
                rw [List.getElem?_eq_getElem (by omega), List.getElem?_eq_getElem (by omega)] at this
                injection this
              rw [e1, show (y + 1 + t') * 3 = (y + 1) * 3 + t' * 3 by omega] at a0 a1 a2
              rw [e2, show (y + 1 + (t' + 1)) * 3 = (y + 1) * 3 + (t' + 1) * 3 by omega] at b0 b1 b2
              have hst2 := ded_step d (y + 1 + (t' + 1)) (by omega) hlt2
              simp only [show y + 1 + (t' + 1) - 1 = y + 1 + t' by omega] at hst2
              have Hst2 := Lib.hid hst2
              clear e1 e2 hst2
              by_cases hqe : d[y + 1 + (t' + 1)] = d[y + 1 + t']
              · have Htk2 : Hid (m.take k = ded (d.take (y + 1 + (t' + 1 + 1)))) := by show _ = _; rw [← Nat.add_assoc (y + 1) (t' + 1) 1, Hst2.out, if_pos hqe]; exact Htk.out
                have Hag2 : Hid (∀ j, y + (t' + 1 + 1) ≤ j → m[j]? = d[j]?) := fun j hj => Hag.out j (by omega)
                rw [hqe] at b0 b1 b2
                generalize d[y + 1 + t'] = p' at *
                go_wp2_with fail
                go_quiet (fail)
                go_wp2
                go_roundw
                case rel => exact ⟨m, k, t' + 1 + 1, rfl, by go_num, by omega, by omega, by omega, hk1, Hml, Htk2, Hag2, ((Keeps.refl [] wr).drewN _).blk HBr.out (by simp), HKr.out.drewN _⟩
                case measure => simp [intOf] <;> omega
              · have hn := neq_run d[y + 1 + (t' + 1)] d[y + 1 + t'] false (by rw [eqI_iff]; simpa using hqe)
                simp only [Bool.not_false] at hn
                have Htk1 : Hid (ded (d.take (y + 1 + (t' + 1 + 1))) = ded (d.take (y + 1 + (t' + 1))) ++ [d[y + 1 + (t' + 1)]]) := by show _ = _; rw [← Nat.add_assoc (y + 1) (t' + 1) 1, Hst2.out, if_neg hqe]
                generalize d[y + 1 + t'] = p' at *
                generalize d[y + 1 + (t' + 1)] = u' at *
                have hkl : (k : Int) < (d.length : Int) := by omega
                have f0 := HBr.out.frozen (k * 3); have f1 := HBr.out.frozen (k * 3 + 1); have f2 := HBr.out.frozen (k * 3 + 2)
                obtain ⟨s0, s1, s2⟩ := blk_ident HBr.out (k := k) (by omega)
                go_wp2_with fail
                go_quiet (fail)
                have hkm : k < m.length := by omega
                have hB6 : Hid (Blk ((((wr.drewN nq).setCell ⟨blk, k * 3, none⟩ (.int .i64 u'.ag)).setCell ⟨blk, k * 3 + 1, none⟩ (.int .i64 u'.sh)).setCell ⟨blk, k * 3 + 2, none⟩ (.int .i64 u'.seq)) blk 58 ((m.set k u').flatMap iEnc ++ rest).toArray) := by
                  have h := (((((Keeps.refl [] wr).drewN nq).blk HBr.out (by simp)).set_ (k * 3) (.int .i64 u'.ag)).set_ (k * 3 + 1) (.int .i64 u'.sh)).set_ (k * 3 + 2) (.int .i64 u'.seq)
                  show Blk _ _ _ _
                  rw [← set_flat m k u' rest hkm]
                  simpa only [List.setIfInBounds_toArray] using h
                have hK6 : Hid (Keeps [blk] w ((((wr.drewN nq).setCell ⟨blk, k * 3, none⟩ (.int .i64 u'.ag)).setCell ⟨blk, k * 3 + 1, none⟩ (.int .i64 u'.sh)).setCell ⟨blk, k * 3 + 2, none⟩ (.int .i64 u'.seq))) :=
                  (((HKr.out.drewN nq).setCell (by simp) _).setCell (by simp) _).setCell (by simp) _
                have Htk2 : Hid ((m.set k u').take (k + 1) = ded (d.take (y + 1 + (t' + 1 + 1)))) := by
                  show _ = _
                  rw [Htk1.out, ← Htk.out, List.take_succ_eq_append_getElem (by simpa using hkm), List.getElem_set_self, List.take_set_of_le (Nat.le_refl _)]
                have Hag2 : Hid (∀ j, y + (t' + 1 + 1) ≤ j → (m.set k u')[j]? = d[j]?) := fun j hj => by
                  rw [List.getElem?_set_ne (by omega)]
                  exact Hag.out j (by omega)
                have Hml2 : Hid ((m.set k u').length = d.length) := by show _ = _; rw [List.length_set]; exact Hml.out
                go_wp2
                go_roundw
                case rel => exact ⟨m.set k u', k + 1, t' + 1 + 1, by go_num, by go_num, by omega, by omega, by omega, by omega, Hml2, Htk2, Hag2, hB6, hK6⟩
                case measure => simp [intOf] <;> omega
            · have hxe : y + 1 + t = d.length := by omega
              have hfin : Hid (m.take k = ded d) := by show _ = _; rw [Htk.out, hxe, List.take_length]
              have hkn : k < d.length := by omega
              have hkl : (k : Int) < (d.length : Int) := by omega
              have hlen : Hid ((ded d).length = k) := by show _ = _; rw [← hfin.out, List.length_take]; omega
              have hp : Hid (CompPost blk cap d w (.returned (.slice (some ⟨blk, 0, none⟩) k cap)) (wr.setCells blk (k * 3) (zIs (d.length - k)))) := by
                refine ⟨by rw [hlen.out], ⟨zIs (d.length - k) ++ rest, ?_⟩, keeps_setCells blk (by simp) _ _ _ HKr.out⟩
                rw [← hfin.out, ← List.append_assoc]
                refine blk_setCells blk _ (zIs (d.length - k)) ((m.take k).flatMap iEnc) ((m.drop k).flatMap iEnc) rest (k * 3) wr ?_ (by rw [iCells_len, List.length_take]; omega) (by rw [iCells_len, List.length_drop, zIs_len]; omega)
                rw [← List.flatMap_append, List.take_append_drop]
                exact HBr.out
              have hcl := fun ty => run_clear_row (P := Try.prog) wr 54 58 ty Try.underlying54 Try.zeroValue58 blk (k * 3) (d.length - k) (cap - k) (by omega)
                (fun j hj => by rw [HBr.out.cell, List.getElem?_toArray, List.getElem?_eq_getElem (by rw [List.length_append, iCells_len]; omega)]; rfl) (fun j _ => HBr.out.frozen _)
              clear hml
              go_wp2
              go_ret
              exact hp.out
        · have hf := eql_run d[y + 1] p false (by rw [eqI_iff]; simpa using heq)
          have Hd2 : Hid (ded (d.take (y + 1 + 1)) = d.take (y + 1 + 1)) := by show _ = _; rw [hst.out, if_neg heq, Hd.out, List.take_succ_eq_append_getElem hlt]
          generalize d[y + 1] = u at *
          go_wp2_with fail
          go_quiet (fail)
          go_wp2
          go_roundw
          case rel => exact ⟨y + 1 + 1, _, by go_num, by omega, by omega, Hd2, rfl⟩
          case measure => simp [intOf] <;> omega
      · have hxe : y + 1 = d.length := by omega
        have hd : ded d = d := by have := Hd.out; rwa [hxe, List.take_length] at this
        have hp : CompPost blk cap d w (.returned (.slice (some ⟨blk, 0, none⟩) d.length cap)) (w.drewN q) := ⟨by rw [hd], ⟨rest, by rw [hd]; exact ((Keeps.refl [] w).drewN q).blk HB.out (by simp)⟩, (Keeps.refl _ _).drewN q⟩
        have d1 : decide (((y + 1 : Nat) : Int) < (d.length : Int)) = false := decide_eq_false (by omega)
        clear hd
        go_wp2
        go_ret
        exact hp
end Go.Proofs.Ytinnifhnabncfaa.Sets
