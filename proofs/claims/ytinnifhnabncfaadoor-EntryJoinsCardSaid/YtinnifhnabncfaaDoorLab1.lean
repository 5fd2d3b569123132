/- Contract of label.Name. -/
import Derived.Test.YtinnifhnabncfaaDoorRead2
import Derived.BigQuiet
namespace Go.Proofs.YtinnifhnabncfaaDoor.Vi
open Go.RowKit Base Mem
def charOk (c : UInt8) : Bool := (97 ≤ c.toNat && c.toNat ≤ 122) || (48 ≤ c.toNat && c.toNat ≤ 57) || c.toNat == 95
def nameOk (s : ByteArray) : Bool := decide (1 ≤ s.size) && decide (s.size ≤ 32) && (sB s).all charOk
theorem sB_len (s : ByteArray) : (sB s).length = s.size := rfl
set_option maxRecDepth 100000 in
set_option maxHeartbeats 1000000 in
theorem name_any (s : ByteArray) (w : World) : Calls Tryd.prog 81 #[.string s] w fun e w' => e = .returned (.bool (nameOk s)) ∧ w = w' := by
  have Hn : Hid (nameOk s = (decide (1 ≤ s.size) && decide (s.size ≤ 32) && (sB s).all charOk)) := rfl
  have hs0 : s.toList.length = s.size := by rw [ByteArray.toList_eq]; rfl
  by_cases h0 : s.size = 0
  · have hz : s.toList = [] := List.length_eq_zero_iff.1 (by rw [hs0, h0])
    have hz2 : s.toList.isEmpty = true := by rw [hz]; rfl
    have hR : Hid (nameOk s = false) := by show _ = _; rw [Hn.out]; simp [h0]
    rw [hR.out]
    go_enter Tryd.func81, Tryd.ntmps81
    go_wp2
    go_ret
    exact ⟨rfl, rfl⟩
  · have hz : s.toList ≠ [] := fun h => h0 (by rw [← hs0, h]; rfl)
    have hz2 : s.toList.isEmpty = false := by simpa using hz
    by_cases h32 : 32 < s.size
    · have hi : (32 : Int) < (s.size : Int) := by omega
      have hR : Hid (nameOk s = false) := by show _ = _; rw [Hn.out]; simp; omega
      rw [hR.out]
      go_enter Tryd.func81, Tryd.ntmps81
      go_wp2
      go_ret
      exact ⟨rfl, rfl⟩
    · have hi : decide ((32 : Int) < (s.size : Int)) = false := decide_eq_false (by omega)
      go_enter Tryd.func81, Tryd.ntmps81
      go_wp2_with fail
      go_loopw [14] (fun i wr => ∃ x : Nat, i = .int .i64 x ∧ x ≤ s.size ∧ Hid (((sB s).take x).all charOk = true) ∧ w = wr) (fun i _ => s.size - (intOf i).toNat)
      case atStart => exact ⟨0, rfl, by omega, rfl, rfl⟩
      case round =>
        obtain ⟨x, rfl, hx, Ht, rfl⟩ := hrel
        by_cases hlt : x < s.size
        · have hx1 : (x : Int) < (s.size : Int) := by omega
          have hxb : x < (sB s).length := hlt
          have hget : (sB s)[x] = s[x] := rfl
          have Hnx : Hid (((sB s).take (x + 1)).all charOk = charOk s[x]) := by
            show _ = _
            rw [List.take_succ_eq_append_getElem hxb, List.all_append, Ht.out, hget]; simp
          have Hall : Hid (charOk s[x] = false → nameOk s = false) := fun h => by
            rw [Hn.out]
            have : (sB s).all charOk = false := by
              rw [List.all_eq_false]
              exact ⟨(sB s)[x], List.getElem_mem _, by rw [hget, h]; simp⟩
            rw [this]; simp
          have Hch : Hid (charOk s[x] = ((decide (97 ≤ s[x].toNat) && decide (s[x].toNat ≤ 122)) || (decide (48 ≤ s[x].toNat) && decide (s[x].toNat ≤ 57)) || s[x].toNat == 95)) := rfl
          clear hget
          have Hny : Hid (charOk s[x] = true → ((sB s).take (x + 1)).all charOk = true) := fun h => Hnx.out.trans h
          clear Hnx
          go_wp2
          all_goals first
            | (go_roundw
               case rel =>
                 refine ⟨x + 1, by go_num, by omega, Hny.out ?_, trivial⟩
                 rw [Hch.out]
                 simp only [bne_eq_false_iff_eq, bne_iff_ne, ne_eq] at *
                 simp
                 omega
               case measure => simp [intOf] <;> omega)
            | (go_ret
               rw [Hall.out (by
                 rw [Hch.out]
                 simp only [bne_eq_false_iff_eq, bne_iff_ne, ne_eq] at *
                 simp
                 omega)]
               exact ⟨rfl, rfl⟩)
        · obtain rfl : x = s.size := by omega
          have hR : Hid (nameOk s = true) := by
            show _ = _
            rw [Hn.out]
            have := Ht.out
            rw [List.take_of_length_le (by rw [sB_len]; exact Nat.le_refl _)] at this
            rw [this]; simp; omega
          go_wp2
          go_ret
          rw [hR.out]
          exact ⟨rfl, rfl⟩
end Go.Proofs.YtinnifhnabncfaaDoor.Vi
