/- Byte rows; contracts of varint.Put and varint.Text. -/
import Derived.Test.YtinnifhnabncfaaDoorClone
import Derived.Lib.Varint
import Derived.Lib.VarintMem
namespace Go.Proofs.YtinnifhnabncfaaDoor.Vi
open Go.RowKit Base Mem
def bV (x : UInt8) : Value := .int .u8 x.toNat
/-- v reads as these bytes. -/
def Bs (w : World) (M : List Nat) (v : Value) (l : List UInt8) : Prop := Rd w M 1 v l.length (l.map bV)
theorem Bs.keep {w w' : World} {M M' : List Nat} {v : Value} {l : List UInt8} (h : Bs w M v l) (k : Keeps M' w w') (hM : ∀ g ∈ M', g ∈ M ∨ w.heap.size ≤ g) : Bs w' M v l := Rd.keep h k hM
theorem Bs.avoid {w : World} {M M' : List Nat} {v : Value} {l : List UInt8} (h : Bs w M v l) (hM : ∀ g ∈ M', g ∈ M ∨ w.heap.size ≤ g) : Bs w M' v l := Rd.avoid h hM
theorem Bs.len {w : World} {M : List Nat} {v : Value} {l : List UInt8} (h : Bs w M v l) : ∃ A c, v = .slice A l.length c ∧ l.length ≤ c := by
  obtain ⟨A, c, rfl, hc, _⟩ := h
  exact ⟨A, c, rfl, hc⟩
theorem Bs.nil (w : World) (M : List Nat) : Bs w M (.slice none 0 0) [] := ⟨none, 0, rfl, Nat.le_refl _, rfl, fun h => absurd h (by simp)⟩
theorem bV_one (l : List UInt8) : ∀ u ∈ l.map bV, u.oneCell' = true := by
  intro u hu
  obtain ⟨x, _, rfl⟩ := List.mem_map.1 hu
  rfl
/-- What a call answers that makes bytes: a row of its own. -/
def BsPost (l : List UInt8) (w : World) (e : Ending) (w' : World) : Prop := ∃ A, e = .returned (.slice A l.length l.length) ∧ (∀ M, (∀ g ∈ M, g < w.heap.size) → Bs w' M (.slice A l.length l.length) l) ∧ Below w.heap.size w w'
theorem bV_low (m : Nat) : bV (UInt8.ofNat m) = .int .u8 ((m : Int) % 256) := by
  unfold bV
  rw [UInt8.toNat_ofNat']
  simp
theorem bV_toUInt8 (m : Nat) : bV m.toUInt8 = .int .u8 ((m : Int) % 256) := bV_low m
set_option maxRecDepth 100000 in
theorem put_any (v : Value) (l : List UInt8) (n : Nat) (w : World) (h : Bs w [] v l) (hn : n < 18446744073709551616) (hl : l.length ≤ 140737488355000) :
    Calls Tryd.prog 24 #[v, .int .u64 n] w fun e w' => BsPost (l ++ Lib.uvarint n) w e w' := by
  obtain ⟨i0, hi0, hz0, hz1, hz2⟩ := info_parts infoU8
  have Hi0 := Lib.hid hi0; have Hz0 := Lib.hid hz0; have Hz1 := Lib.hid hz1; have Hz2 := Lib.hid hz2
  have hcl := Lib.hid (cloneU8 [] v l.length (l.map bV) w h (bV_one l) (by omega))
  obtain ⟨A, c, rfl, hc⟩ := h.len
  clear h hi0 hz0 hz1 hz2
  have Hun := Lib.hid (Lib.uvarint_length64 hn)
  go_enter Tryd.func24, Tryd.ntmps24
  go_wp2_with fail
  refine hcl.out.mono ?_
  rintro e w1 ⟨v1, rfl, hown, hb1⟩
  have Hown := Lib.hid hown; have Hb1 := Lib.hid hb1
  clear hown hb1 hcl
  go_wp2_with fail
  go_slots
  go_loopw [1, 5] (fun x out wr => ∃ (m : Nat) (pre : List UInt8), x = .int .u64 m ∧ m < 18446744073709551616 ∧ Hid (Lib.uvarint n = pre ++ Lib.uvarint m) ∧ Hid (wr.ownsRow w.heap.size 5 1 out (l.length + pre.length) ((l ++ pre).map bV)) ∧ Hid (Below w.heap.size w wr)) (fun x _ _ => (intOf x).toNat)
  case atStart => exact ⟨n, [], rfl, hn, rfl, (show World.ownsRow _ _ _ _ _ _ _ by simpa using Hown.out), Hb1.out⟩
  case round =>
    obtain ⟨m, pre, rfl, hm, Hp, Hor, Hbr⟩ := hrel
    have hlen : Hid (l.length + pre.length + 1 ≤ 140737488355328) := by
      have h1 := Hun.out
      rw [Hp.out, List.length_append] at h1
      have := Lib.uvarint_pos m
      show _ ≤ _; omega
    by_cases hbig : 128 ≤ m
    · have hor : bits .or .u8 ((m : Int) % 256) 128 = ((m % 128 + 128 : Nat) : Int) := by
        rw [Lib.u8_or128_any _ (by omega) (by omega)]; omega
      have hmi : (128 : Int) ≤ (m : Int) := by omega
      have hown3 := Lib.hid (Hor.out.alloc (.cells #[.int .u8 ((m % 128 + 128 : Nat) : Int)] 5))
      go_wp2_with (at_builtin; refine wpList_append_any _ rfl (.tmp 10) (.tmp 14) _ rfl w.heap.size 5 i0 _ 1 1 Tryd.underlying32 Hi0.out Hz0.out Hz1.out Hz2.out rfl (by omega) u5 (l.length + pre.length) ((l ++ pre).map bV) rfl hown3.out (wr.heap.size + 1) (some ⟨wr.heap.size, 0, none⟩) 1 1 [.int .u8 ((m % 128 + 128 : Nat) : Int)] rfl (reads_new _ _ _ _ _ rfl) (by intro u hu; simp at hu; subst hu; rfl) (by have := hlen.out; unfold maxLen; omega) (by have := hlen.out; omega) (by have := Hbr.out.size; simp; omega) ?_)
      intro v' w4 hown4 hg4 hat4
      have hcell : Hid (bV (m % 128 + 128).toUInt8 = .int .u8 ((m % 128 + 128 : Nat) : Int)) := by show _ = _; rw [bV_toUInt8]; congr 1; omega
      have Hown4 : Hid (w4.ownsRow w.heap.size 5 1 v' (l.length + (pre ++ [(m % 128 + 128).toUInt8]).length) ((l ++ (pre ++ [(m % 128 + 128).toUInt8])).map bV)) := by
        show World.ownsRow _ _ _ _ _ _ _
        rw [← List.append_assoc, List.map_append, List.map_cons, List.map_nil, hcell.out]
        simpa [Nat.add_assoc] using hown4
      have Hb4 : Hid (Below w.heap.size w w4) := (Hbr.out.alloc Hbr.out.size _).grown hg4 (by have := Hbr.out.size; simp; omega) (fun g hg => (Hor.out.lt g hg).1)
      have Hp4 : Hid (Lib.uvarint n = (pre ++ [(m % 128 + 128).toUInt8]) ++ Lib.uvarint (m / 128)) := by show _ = _; rw [Hp.out, Lib.uvarint_big hbig]; simp
      clear hown4 hg4 hat4
      go_wp2
      go_roundw
      case rel => exact ⟨m / 128, pre ++ [(m % 128 + 128).toUInt8], by go_num, by omega, Hp4, Hown4, Hb4⟩
      case measure => simp [intOf] <;> omega
    · have hmi : (m : Int) < 128 := by omega
      have hmm : (m : Int) % 256 = (m : Int) := by omega
      have hown3 := Lib.hid (Hor.out.alloc (.cells #[.int .u8 (m : Int)] 5))
      go_wp2_with (at_builtin; refine wpList_append_any _ rfl (.tmp 18) (.tmp 21) _ rfl w.heap.size 5 i0 _ 1 1 Tryd.underlying32 Hi0.out Hz0.out Hz1.out Hz2.out rfl (by omega) u5 (l.length + pre.length) ((l ++ pre).map bV) rfl hown3.out (wr.heap.size + 1) (some ⟨wr.heap.size, 0, none⟩) 1 1 [.int .u8 (m : Int)] rfl (reads_new _ _ _ _ _ rfl) (by intro u hu; simp at hu; subst hu; rfl) (by have := hlen.out; unfold maxLen; omega) (by have := hlen.out; omega) (by have := Hbr.out.size; simp; omega) ?_)
      intro v' w4 hown4 hg4 hat4
      have hcell : Hid (bV m.toUInt8 = .int .u8 (m : Int)) := by show _ = _; rw [bV_toUInt8]; congr 1
      have hfin : Hid (l ++ Lib.uvarint n = l ++ (pre ++ [m.toUInt8])) := by show _ = _; rw [Hp.out, Lib.uvarint_small (by omega)]
      have Hown4 : Hid (w4.ownsRow w.heap.size 5 1 v' (l ++ (pre ++ [m.toUInt8])).length ((l ++ (pre ++ [m.toUInt8])).map bV)) := by
        show World.ownsRow _ _ _ _ _ _ _
        rw [← List.append_assoc, List.map_append, List.map_cons, List.map_nil, hcell.out]
        simpa [Nat.add_assoc] using hown4
      have Hb4 : Hid (Below w.heap.size w w4) := (Hbr.out.alloc Hbr.out.size _).grown hg4 (by have := Hbr.out.size; simp; omega) (fun g hg => (Hor.out.lt g hg).1)
      clear hown4 hg4 hat4
      generalize l ++ (pre ++ [m.toUInt8]) = L at Hown4 hfin
      have hR : Hid (∀ M, (∀ g ∈ M, g < w.heap.size) → Bs w4 M v' L) := fun M hM => Rd.of_own Hown4.out hM
      obtain ⟨A2, c2, rfl, hc2⟩ := (hR.out [] (by simp)).len
      go_wp2_with fail
      refine (clipU8 A2 _ c2 _ hc2).mono ?_
      rintro e w' ⟨rfl, rfl⟩
      have hC : Hid (BsPost (l ++ Lib.uvarint n) w (.returned (.slice A2 L.length L.length)) w4) := by
        show BsPost _ _ _ _
        rw [hfin.out]
        exact ⟨_, rfl, fun M hM => Rd.clip (hR.out M hM), Hb4.out⟩
      go_wp2
      go_ret
      exact hC.out
/-- A string's bytes. -/
def sB (s : ByteArray) : List UInt8 := s.data.toList
end Go.Proofs.YtinnifhnabncfaaDoor.Vi
