/- Contract of label.Right. -/
import Derived.Test.YtinnifhnabncfaaDoorLab3
namespace Go.Proofs.YtinnifhnabncfaaDoor.Vi
open Go.RowKit Base Mem Go.Sort Go.Shelf
def itemOk (s : List LabD) (i : Nat) : Bool := nameOk s[i]!.name && nameOk s[i]!.value && (i == 0 || !(s[i - 1]!.name.toList == s[i]!.name.toList))
def okRow (s : List LabD) : Bool := (List.range s.length).all (itemOk s)
/-- Why labels may not be: 0, or a number. -/
def rightS (l : List LabD) : Nat := if 8 < l.length then 3 else if okRow (sortL l) = false then 1 else if l.length = 0 then 1 else 0
theorem Labs.at_ {w : World} {M : List Nat} {v : Value} {l : List LabD} (h : Labs w M v l) {k : Nat} (hk : k < l.length) :
    ∃ g off cap, v = .slice (some ⟨g, off, none⟩) l.length cap ∧ g < w.heap.size ∧ w.cell? ⟨g, off + k * 2, none⟩ = some (.string l[k].name) ∧ w.cell? ⟨g, off + k * 2 + 1, none⟩ = some (.string l[k].value) := by
  obtain ⟨g, off, c, e, _, hg, _, hx⟩ := Rd.at_ labEnc 2 (fun _ => rfl) h hk
  exact ⟨g, off, c, e, hg, by have := hx 0 _ rfl; rwa [Nat.add_zero] at this, hx 1 _ rfl⟩
def NumPost (n : Nat) (w : World) (e : Ending) (w' : World) : Prop := e = .returned (.int .i64 n) ∧ Below w.heap.size w w'
set_option maxRecDepth 100000 in
set_option maxHeartbeats 1000000 in
theorem lright_any (v : Value) (l : List LabD) (w : World) (h : Labs w [] v l) (hl : l.length ≤ 4611686018427387904) :
    Calls Tryd.prog 71 #[v] w fun e w' => NumPost (rightS l) w e w' := by
  have HR : Hid (rightS l = if 8 < l.length then 3 else if okRow (sortL l) = false then 1 else if l.length = 0 then 1 else 0) := rfl
  by_cases h8 : 8 < l.length
  · have hR : Hid (rightS l = 3) := by show _ = _; rw [HR.out, if_pos h8]
    obtain ⟨A, c, rfl, hc⟩ := h.len
    have h8i : (8 : Int) < (l.length : Int) := by omega
    clear h HR
    rw [hR.out]
    go_enter Tryd.func71, Tryd.ntmps71
    go_wp2
    go_ret
    exact ⟨rfl, Below.refl _ _⟩
  · have hso := Lib.hid (sorted_any v l w h (by omega))
    obtain ⟨A, c, rfl, hc⟩ := h.len
    have h8i : decide ((8 : Int) < (l.length : Int)) = false := decide_eq_false (by omega)
    have hn := Lib.hid (fun x W => name_any x W)
    have HR2 : Hid (rightS l = if okRow (sortL l) = false then 1 else if (sortL l).length = 0 then 1 else 0) := by show _ = _; rw [HR.out, if_neg h8, sortL_len]
    have hs8 : (sortL l).length ≤ 8 := by rw [sortL_len]; omega
    clear h HR
    generalize hs : sortL l = s at *
    go_enter Tryd.func71, Tryd.ntmps71
    go_wp2_with fail
    refine hso.out.mono ?_
    rintro e w1 ⟨A1, rfl, hA, hb⟩
    have HA := Lib.hid (hA [] (by simp)); have Hb := Lib.hid hb
    clear hA hb hso hs
    go_wp2_with fail
    go_loopw [13] (fun i wr => ∃ x : Nat, i = .int .i64 x ∧ x ≤ s.length ∧ Hid ((List.range x).all (itemOk s) = true) ∧ Hid (Below w1.heap.size w1 wr)) (fun i _ => s.length - (intOf i).toNat)
    case atStart => exact ⟨0, rfl, by omega, rfl, Below.refl _ _⟩
    case round =>
      obtain ⟨x, rfl, hx, Hok, Hbr⟩ := hrel
      by_cases hlt : x < s.length
      · have hx1 : (x : Int) < (s.length : Int) := by omega
        obtain ⟨g, off, _, e1, hg, c0, c1⟩ := (HA.out.keep (Keeps.of_below (M := []) Hbr.out) (by simp)).at_ hlt
        obtain rfl : A1 = some ⟨g, off, none⟩ := by injection e1
        clear e1
        have Hitem : Hid (itemOk s x = (nameOk s[x].name && nameOk s[x].value && (x == 0 || !(s[x - 1]!.name.toList == s[x].name.toList)))) := by
          show _ = _; unfold itemOk; rw [getElem!_pos s x hlt]
        have Hbad : Hid (itemOk s x = false → rightS l = 1) := fun h => by
          rw [HR2.out, if_pos]
          unfold okRow
          rw [List.all_eq_false]
          exact ⟨x, List.mem_range.2 hlt, by simp [h]⟩
        have Hgood : Hid (itemOk s x = true → (List.range (x + 1)).all (itemOk s) = true) := fun h => by
          rw [List.range_succ, List.all_append, Hok.out]; simp [h]
        have hbl := Blk.new wr 97 #[.string s[x].name, .string s[x].value]
        have ka := (Keeps.refl [] wr).alloc (.cells #[.string s[x].name, .string s[x].value] 97)
        have Hb2 : Hid (Below w1.heap.size w1 (wr.alloc (.cells #[.string s[x].name, .string s[x].value] 97))) := Hbr.out.alloc Hbr.out.size _
        have d0 := hbl.cell 0; have d1 := hbl.cell 1
        simp only [List.getElem?_toArray, List.getElem?_cons_succ, List.getElem?_cons_zero] at d0 d1
        generalize hna : s[x].name = na at *
        generalize hva : s[x].value = va at *
        clear hbl
        have HNa : Hid (∀ W, Calls Tryd.prog 81 #[.string na] W fun e w' => e = .returned (.bool (nameOk na)) ∧ W = w') := fun W => hn.out na W
        have HVa : Hid (∀ W, Calls Tryd.prog 81 #[.string va] W fun e w' => e = .returned (.bool (nameOk va)) ∧ W = w') := fun W => hn.out va W
        have Hb3 : Hid (∀ q, Below w1.heap.size w1 ((wr.alloc (.cells #[.string na, .string va] 97)).drewN q)) := fun q => ((Keeps.of_below (M := []) Hb2.out).drewN q).below
        clear hn
        by_cases h1 : nameOk na = true
        · rw [h1] at HNa
          by_cases h2 : nameOk va = true
          · rw [h2] at HVa
            by_cases h0 : x = 0
            · have ho := Lib.hid (Hgood.out (by rw [Hitem.out, h1, h2, h0]; simp))
              have hxd : decide ((0 : Int) < (x : Int)) = false := decide_eq_false (by omega)
              have hxn : ¬ 0 < x := by omega
              clear Hbad Hgood Hitem h0 h1 h2
              go_wp2_with fail
              go_quiet (first | (go_at_call_of 81 (Value.string na); exact quiet_left (HNa.out _)) | (go_at_call_of 81 (Value.string va); exact quiet_left (HVa.out _)))
              go_wp2
              go_roundw
              case rel => exact ⟨x + 1, by go_num, by omega, ho.out, Hb3.out _⟩
              case measure => simp [intOf] <;> omega
            · obtain ⟨y, rfl⟩ : ∃ y, x = y + 1 := ⟨x - 1, by omega⟩
              obtain ⟨g2, off2, _, e2, hg2, p0, _⟩ := (HA.out.keep (Keeps.of_below (M := []) Hb2.out) (by simp)).at_ (k := y) (by omega)
              obtain ⟨rfl, rfl⟩ : g = g2 ∧ off = off2 := by injection e2 with e2 _ _; injection e2 with e2; injection e2 with h1 h2; exact ⟨h1, h2⟩
              have hpy : s[y + 1 - 1]! = s[y] := getElem!_pos s y (by omega)
              rw [hpy] at Hitem
              clear e2 hpy
              generalize s[y].name = pn at *
              have hw1 : IntKind.i64.wrap (y : Int) = (y : Int) := by rw [IntKind.wrap_i64]; omega
              have hw2 : IntKind.i64.wrap ((y : Int) + 1 - 1) = (y : Int) := by rw [IntKind.wrap_i64]; omega
              have hy1 : (y : Int) + 1 - 1 = (y : Int) := by omega
              have hy2 : (0 : Int) ≤ (y : Int) := by omega
              have hy3 : ((y : Int)).toNat = y := by omega
              have hyl : (y : Int) < (s.length : Int) := by omega
              have hyl2 : (y : Int) + 1 < (s.length : Int) := by omega
              have hyz : (0 : Int) < (y : Int) + 1 := by omega
              by_cases h3 : (pn.toList == na.toList) = true
              · have hf := Lib.hid (Hbad.out (by rw [Hitem.out, h1, h2, h3]; simp))
                clear Hbad Hgood Hitem h1 h2
                go_wp2_with fail
                go_quiet (first | (go_at_call_of 81 (Value.string na); exact quiet_left (HNa.out _)) | (go_at_call_of 81 (Value.string va); exact quiet_left (HVa.out _)))
                go_wp2
                go_ret
                rw [hf.out]
                exact ⟨rfl, below_then Hb.out (Hb3.out _)⟩
              · have h3' : (pn.toList == na.toList) = false := by simpa using h3
                have ho := Lib.hid (Hgood.out (by rw [Hitem.out, h1, h2, h3']; simp))
                clear Hbad Hgood Hitem h3 h1 h2
                go_wp2_with fail
                go_quiet (first | (go_at_call_of 81 (Value.string na); exact quiet_left (HNa.out _)) | (go_at_call_of 81 (Value.string va); exact quiet_left (HVa.out _)))
                go_wp2
                go_roundw
                case rel => exact ⟨y + 1 + 1, by go_num, by omega, ho.out, Hb3.out _⟩
                case measure => simp [intOf] <;> omega
          · have h2' : nameOk va = false := by simpa using h2
            rw [h2'] at HVa
            have hf := Lib.hid (Hbad.out (by rw [Hitem.out, h1, h2']; simp))
            clear Hbad Hgood Hitem h2 h1 h2'
            go_wp2_with fail
            go_quiet (first | (go_at_call_of 81 (Value.string na); exact quiet_left (HNa.out _)) | (go_at_call_of 81 (Value.string va); exact quiet_left (HVa.out _)))
            go_wp2
            go_ret
            rw [hf.out]
            exact ⟨rfl, below_then Hb.out (Hb3.out _)⟩
        · have h1' : nameOk na = false := by simpa using h1
          rw [h1'] at HNa
          have hf := Lib.hid (Hbad.out (by rw [Hitem.out, h1']; simp))
          clear Hbad Hgood Hitem h1 h1'
          go_wp2_with fail
          go_quiet (first | (go_at_call_of 81 (Value.string na); exact quiet_left (HNa.out _)) | (go_at_call_of 81 (Value.string va); exact quiet_left (HVa.out _)))
          go_wp2
          go_ret
          rw [hf.out]
          exact ⟨rfl, below_then Hb.out (Hb3.out _)⟩
      · obtain rfl : x = s.length := by omega
        have hok : Hid (okRow s = true) := Hok.out
        by_cases hz : s.length = 0
        · have hR : Hid (rightS l = 1) := by show _ = _; rw [HR2.out, if_neg (by rw [hok.out]; simp), if_pos hz]
          have hzi : ((s.length : Int) == 0) = true := by rw [beq_iff_eq]; omega
          have hzi2 : (s.length : Int) = 0 := by omega
          go_wp2
          go_ret
          rw [hR.out]
          exact ⟨rfl, below_then Hb.out Hbr.out⟩
        · have hR : Hid (rightS l = 0) := by show _ = _; rw [HR2.out, if_neg (by rw [hok.out]; simp), if_neg hz]
          have hzi : ((s.length : Int) == 0) = false := by rw [beq_eq_false_iff_ne]; omega
          go_wp2
          go_ret
          rw [hR.out]
          exact ⟨rfl, below_then Hb.out Hbr.out⟩
end Go.Proofs.YtinnifhnabncfaaDoor.Vi
