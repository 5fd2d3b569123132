/- Texts put together: FrR, Msg8, Msg9, MsgA, TNum0, TNum, Dk1, Ref1, Ref2, RfP, Ref3, RefF. -/
import Derived.Laws.IdiomCopy
import Derived.Deep.RegionHeld3
import Derived.Lib.Strings
import Derived.Test.YtinnifhnabncfaaGreatDoorMN1
import Derived.Test.YtinnifhnabncfaaGreatDoorMN2
import Derived.Test.YtinnifhnabncfaaGreatDoorMN3
import Derived.Test.YtinnifhnabncfaaGreatDoorMN4
import Derived.Test.YtinnifhnabncfaaGreatDoorMN5
import Derived.Test.YtinnifhnabncfaaGreatDoorMN6
set_option linter.unusedVariables false
set_option linter.unusedSimpArgs false
section
namespace Go.Proofs.YtinnifhnabncfaaGreatDoor.Vi
open Go.RowKit Base Mem Go.Shelf
def FrRead (l : List UInt8) (w : World) (e : Ending) (w' : World) : Prop := match readF l with
 | none => e = .returned (.tuple #[.slice none 0 0, .int .i64 0, .bool false]) ∧ Below w.heap.size w w'
 | some (x, n) => ∃ A c, e = .returned (.tuple #[.slice A x.length c, .int .i64 n, .bool true]) ∧ (∀ M, (∀ g ∈ M, g < w.heap.size) → Bs w' M (.slice A x.length c) x) ∧ Below w.heap.size w w'
theorem u32_or_shift (a b k : Nat) (ha : a < 2 ^ k) (hk : k ≤ 24) (hb : b < 256) : bits .or .u32 (a : Int) ((b * 2 ^ k : Nat) : Int) = ((a + b * 2 ^ k : Nat) : Int) := by
 have hp : 2 ^ k ≤ 2 ^ 24 := Nat.pow_le_pow_right (by omega) hk
 have hb2 : b * 2 ^ k ≤ 255 * 2 ^ 24 := Nat.mul_le_mul (by omega) hp
 have hlt : a + b * 2 ^ k < 4294967296 := by omega
 show IntKind.u32.wrap ((BitVec.ofInt 32 (a : Int) ||| BitVec.ofInt 32 ((b * 2 ^ k : Nat) : Int)).toNat : Int) = _
 rw [BitVec.toNat_or, BitVec.ofInt_natCast, BitVec.ofInt_natCast, BitVec.toNat_ofNat, BitVec.toNat_ofNat, Nat.mod_eq_of_lt (by omega), Nat.mod_eq_of_lt (by omega), Nat.or_comm, nat_join k (b * 2 ^ k) a (Nat.mul_mod_left _ _) ha, IntKind.wrap_u32]
 omega
set_option maxRecDepth 100000 in
set_option maxHeartbeats 1000000 in
theorem framer_any (v : Value) (l : List UInt8) (w : World) (h : Bs w [] v l) (hl : l.length ≤ 4611686018427387000) :
  Calls Tryz.prog 101 #[v] w fun e w' => FrRead l w e w' := by
 have hg := Lib.hid (get_any v l w h (by omega))
 obtain ⟨A, c, rfl, hc⟩ := h.len
 have H := Lib.hid h
 obtain ⟨hk, hn⟩ := getL_le l
 have HC := Lib.hid (show readF l = (if (getL l).2 = 0 ∨ 65536 < (getL l).1 ∨ l.length < (getL l).2 + 4 + (getL l).1 then none
  else if crcOf ((l.drop ((getL l).2 + 4)).take (getL l).1) = unL (l.drop (getL l).2) then some ((l.drop ((getL l).2 + 4)).take (getL l).1, (getL l).2 + 4 + (getL l).1) else none) from rfl)
 have hnone : Hid (∀ q, readF l = none → FrRead l w (.returned (.tuple #[.slice none 0 0, .int .i64 0, .bool false])) (w.drewN q)) := fun q h => by
  unfold FrRead; rw [h]; exact ⟨rfl, ((Keeps.refl [] w).drewN q).below⟩
 clear h
 generalize (getL l).1 = n at *
 generalize (getL l).2 = k at *
 by_cases hk0 : k = 0
 ·have hR := Lib.hid (fun q => hnone.out q (by rw [HC.out, if_pos (.inl hk0)]))
  subst hk0
  clear HC hnone
  go_enter Tryz.func101, Tryz.ntmps101
  go_wp2_with fail
  refine hg.out.mono ?_
  rintro e w1 ⟨rfl, q, rfl⟩
  go_wp2
  go_ret3
  exact hR.out q
 ·have hkz : ((k : Int) == 0) = false := by simpa using hk0
  by_cases hn6 : 65536 < n
  ·have hR := Lib.hid (fun q => hnone.out q (by rw [HC.out, if_pos (.inr (.inl hn6))]))
   have hni : (65536 : Int) < (n : Int) := by omega
   clear HC hnone
   go_enter Tryz.func101, Tryz.ntmps101
   go_wp2_with fail
   refine hg.out.mono ?_
   rintro e w1 ⟨rfl, q, rfl⟩
   go_wp2
   go_ret3
   exact hR.out q
  ·have hni : decide ((65536 : Int) < (n : Int)) = false := decide_eq_false (by omega)
   have hwn : IntKind.i64.wrap (n : Int) = (n : Int) := by rw [IntKind.wrap_i64]; omega
   have hwk : IntKind.i64.wrap ((k : Int) + 4) = (k : Int) + 4 := by rw [IntKind.wrap_i64]; omega
   have hwkn : IntKind.i64.wrap ((k : Int) + 4 + (n : Int)) = (k : Int) + 4 + (n : Int) := by rw [IntKind.wrap_i64]; omega
   by_cases hlen : l.length < k + 4 + n
   ·have hR := Lib.hid (fun q => hnone.out q (by rw [HC.out, if_pos (.inr (.inr hlen))]))
    have hli : (l.length : Int) < (k : Int) + 4 + (n : Int) := by omega
    clear HC hnone
    go_enter Tryz.func101, Tryz.ntmps101
    go_wp2_with fail
    refine hg.out.mono ?_
    rintro e w1 ⟨rfl, q, rfl⟩
    go_wp2
    go_ret3
    exact hR.out q
   ·have hli : decide ((l.length : Int) < (k : Int) + 4 + (n : Int)) = false := decide_eq_false (by omega)
    have HT : Hid (readF l = if crcOf ((l.drop (k + 4)).take n) = unL (l.drop k) then some ((l.drop (k + 4)).take n, k + 4 + n) else none) := by
     show _ = _; rw [HC.out, if_neg (by omega)]
    obtain ⟨g, off, rfl⟩ := H.out.some_ (by omega)
    have hcell : ∀ j, (hj : j < l.length) → w.cell? ⟨g, off + j, none⟩ = some (.int .u8 (l[j]'hj).toNat) := fun j hj => by
     obtain ⟨A', c', e2, _, _, hr⟩ := H.out
     injection e2 with e2 _ _
     subst e2
     obtain ⟨g', off', e3, _, _, hx⟩ := hr (by omega)
     injection e3 with e3
     injection e3 with e3 e4 _
     subst e3 e4
     exact hx j _ (by rw [List.getElem?_map, List.getElem?_eq_getElem hj]; rfl)
    have hcg : g < w.heap.size := World.block_lt_of_cell? w _ (hcell 0 (by omega))
    have k0 := hcell k (by omega)
    have k1 := hcell (k + 1) (by omega)
    have k2 := hcell (k + 2) (by omega)
    have k3 := hcell (k + 3) (by omega)
    have hun : unL (l.drop k) = l[k].toNat + 256 * l[k + 1].toNat + 65536 * l[k + 2].toNat + 16777216 * l[k + 3].toNat := by
     unfold unL
     simp only [List.getD_eq_getElem?_getD, List.getElem?_drop, Nat.add_zero]
     rw [List.getElem?_eq_getElem (by omega), List.getElem?_eq_getElem (by omega), List.getElem?_eq_getElem (by omega), List.getElem?_eq_getElem (by omega)]
     rfl
    rw [hun] at HT
    have b0 := l[k].toNat_lt; have b1 := l[k + 1].toNat_lt; have b2 := l[k + 2].toNat_lt; have b3 := l[k + 3].toNat_lt
    generalize l[k].toNat = x0 at *
    generalize l[k + 1].toNat = x1 at *
    generalize l[k + 2].toNat = x2 at *
    generalize l[k + 3].toNat = x3 at *
    clear hcell hun HC hnone
    have Hk0 := Lib.hid k0; have Hk1 := Lib.hid k1; have Hk2 := Lib.hid k2; have Hk3 := Lib.hid k3
    clear k0 k1 k2 k3
    go_enter Tryz.func101, Tryz.ntmps101
    go_wp2_with fail
    refine hg.out.mono ?_
    rintro e w1 ⟨rfl, q, rfl⟩
    go_wp2_with fail
    go_loopw [7, 32] (fun s i wr => ∃ (x p : Nat), i = .int .i64 x ∧ x ≤ 4 ∧ s = .int .u32 p ∧ Hid ((x = 0 → p = 0) ∧ (x = 1 → p = x0) ∧ (x = 2 → p = x0 + x1 * 2 ^ 8) ∧ (x = 3 → p = x0 + x1 * 2 ^ 8 + x2 * 2 ^ 16) ∧ (x = 4 → p = x0 + x1 * 2 ^ 8 + x2 * 2 ^ 16 + x3 * 2 ^ 24)) ∧ wr = w.drewN q) (fun _ i _ => 4 - (intOf i).toNat)
    case atStart => exact ⟨0, 0, rfl, by omega, rfl, ⟨by omega, by omega, by omega, by omega, by omega⟩, rfl⟩
    case round =>
     obtain ⟨x, p, rfl, hx, rfl, Hp, rfl⟩ := hrel
     rcases (show x = 0 ∨ x = 1 ∨ x = 2 ∨ x = 3 ∨ x = 4 by omega) with rfl | rfl | rfl | rfl | rfl
     ·have Hpv := Lib.hid (Hp.out.1 rfl)
      have c0 := Hk0.out
      have Hor : Hid (bits .or .u32 (p : Int) (x0 : Int) = ((p + x0 * 2 ^ 0 : Nat) : Int)) := by
       have := u32_or_shift p x0 0 (by have := Hpv.out; omega) (by omega) b0
       rw [show ((x0 * 2 ^ 0 : Nat) : Int) = (x0 : Int) by omega] at this
       exact this
      go_wp2_with fail
      exact ⟨⟨1, p + x0 * 2 ^ 0, by go_num, by omega, by first | rw [Hor.out] | (rw [← Hor.out]), ⟨by omega, fun _ => by have := Hpv.out; omega, by omega, by omega, by omega⟩, by first | trivial | rfl⟩, by simp [intOf]⟩
     ·have Hpv := Lib.hid (Hp.out.2.1 rfl)
      have c0 := Hk1.out
      have Hor : Hid (bits .or .u32 (p : Int) ((x1 : Int) * 256) = ((p + x1 * 2 ^ 8 : Nat) : Int)) := by
       have := u32_or_shift p x1 8 (by have := Hpv.out; omega) (by omega) b1
       rw [show ((x1 * 2 ^ 8 : Nat) : Int) = ((x1 : Int) * 256) by omega] at this
       exact this
      go_wp2_with fail
      exact ⟨⟨2, p + x1 * 2 ^ 8, by go_num, by omega, by first | rw [Hor.out] | (rw [← Hor.out]), ⟨by omega, by omega, fun _ => by have := Hpv.out; omega, by omega, by omega⟩, by first | trivial | rfl⟩, by simp [intOf]⟩
     ·have Hpv := Lib.hid (Hp.out.2.2.1 rfl)
      have c0 := Hk2.out
      have Hor : Hid (bits .or .u32 (p : Int) ((x2 : Int) * 65536) = ((p + x2 * 2 ^ 16 : Nat) : Int)) := by
       have := u32_or_shift p x2 16 (by have := Hpv.out; omega) (by omega) b2
       rw [show ((x2 * 2 ^ 16 : Nat) : Int) = ((x2 : Int) * 65536) by omega] at this
       exact this
      go_wp2_with fail
      exact ⟨⟨3, p + x2 * 2 ^ 16, by go_num, by omega, by first | rw [Hor.out] | (rw [← Hor.out]), ⟨by omega, by omega, by omega, fun _ => by have := Hpv.out; omega, by omega⟩, by first | trivial | rfl⟩, by simp [intOf]⟩
     ·have Hpv := Lib.hid (Hp.out.2.2.2.1 rfl)
      have c0 := Hk3.out
      have Hor : Hid (bits .or .u32 (p : Int) ((x3 : Int) * 16777216) = ((p + x3 * 2 ^ 24 : Nat) : Int)) := by
       have := u32_or_shift p x3 24 (by have := Hpv.out; omega) (by omega) b3
       rw [show ((x3 * 2 ^ 24 : Nat) : Int) = ((x3 : Int) * 16777216) by omega] at this
       exact this
      go_wp2_with fail
      exact ⟨⟨4, p + x3 * 2 ^ 24, by go_num, by omega, by first | rw [Hor.out] | (rw [← Hor.out]), ⟨by omega, by omega, by omega, by omega, fun _ => by have := Hpv.out; omega⟩, by first | trivial | rfl⟩, by simp [intOf]⟩
     ·have Hpv : Hid (p = x0 + 256 * x1 + 65536 * x2 + 16777216 * x3) := by have := Hp.out.2.2.2.2 rfl; show _ = _; omega
      have HX : Hid (readF l = if crcOf ((l.drop (k + 4)).take n) = p then some ((l.drop (k + 4)).take n, k + 4 + n) else none) := by show _ = _; rw [HT.out, Hpv.out]
      have hxl : ((l.drop (k + 4)).take n).length = n := by rw [List.length_take, List.length_drop]; omega
      have hki : (k : Int) + 4 ≤ (k : Int) + 4 + (n : Int) := by omega
      have hkc : (k : Int) + 4 + (n : Int) ≤ (c : Int) := by omega
      have hHq := H.out.keep (M' := []) ((Keeps.refl [] w).drewN q) (by simp)
      have hend : Hid (∀ (v' : Value) (W w' : World), W = w.drewN q → w'.ownsRow W.heap.size 5 1 v' n (((l.drop (k + 4)).take n).map bV) → Below W.heap.size W w' → ∃ A' c', v' = .slice A' n c' ∧ Calls Tryz.prog 154 #[v'] w' (fun e w'' => e = .returned (.int .u32 (crcOf ((l.drop (k + 4)).take n))) ∧ w' = w'') ∧ (crcOf ((l.drop (k + 4)).take n) = p → FrRead l w (.returned (.tuple #[v', .int .i64 ((k : Int) + 4 + (n : Int)), .bool true])) w') ∧ (¬ crcOf ((l.drop (k + 4)).take n) = p → FrRead l w (.returned (.tuple #[.slice none 0 0, .int .i64 0, .bool false])) w')) := by
       rintro v' W w' rfl hown hb
       have hB : ∀ M, (∀ g ∈ M, g < w.heap.size) → Bs w' M v' ((l.drop (k + 4)).take n) := fun M hM => by
        unfold Bs
        rw [hxl]
        exact Rd.of_own hown hM
       have hbw : Below w.heap.size w w' := ⟨hb.os, hb.tape, hb.output, hb.size, hb.block⟩
       obtain ⟨A', c', e, _⟩ := (hB [] (by simp)).len
       rw [hxl] at e
       refine ⟨A', c', e, crcof_any v' _ w' (hB [] (by simp)) (by omega), fun h => ?_, fun h => ?_⟩
       ·unfold FrRead
        rw [HX.out, if_pos h]
        refine ⟨A', c', ?_, ?_, hbw⟩
        ·rw [hxl, e, Int.natCast_add, Int.natCast_add]; rfl
        ·rw [hxl, ← e]; exact hB
       ·unfold FrRead
        rw [HX.out, if_neg h]
        exact ⟨rfl, hbw⟩
      clear Hk0 Hk1 Hk2 Hk3 Hp HT HX Hpv
      by_cases hck : c = k + 4
      ·obtain rfl : n = 0 := by omega
       have hcl := Lib.hid (cloneU8 [] (.slice (some ⟨g, off, none⟩) 0 0) 0 [] (w.drewN q) ⟨_, 0, rfl, Nat.le_refl _, rfl, fun h => absurd h (by omega)⟩ (by simp) (by omega))
       rw [List.take_zero, List.map_nil] at hend
       generalize crcOf ([] : List UInt8) = cx at *
       go_wp2_with fail
       refine hcl.out.mono ?_
       rintro e w2 ⟨v', rfl, hown, hb⟩
       obtain ⟨A', c', rfl, hcr, hy, hno⟩ := hend.out v' _ w2 rfl hown hb
       have Hcr := Lib.hid hcr; have Hy := Lib.hid hy; have Hno := Lib.hid hno
       clear hown hb hcl hcr hy hno hend
       go_wp2_with fail
       refine Hcr.out.mono ?_
       rintro e w3 ⟨rfl, rfl⟩
       by_cases hcp : cx = p
       ·have hne : ((cx : Int) != (p : Int)) = false := by simp [hcp]
        have hp := Lib.hid (Hy.out hcp)
        clear hcp Hy Hno
        go_wp2
        go_ret3
        exact hp.out
       ·have hne : ((cx : Int) != (p : Int)) = true := by simp; omega
        have hp := Lib.hid (Hno.out hcp)
        clear hcp Hy Hno
        go_wp2
        go_ret3
        exact hp.out
      ·have hpt := hHq.part (k + 4) n (by omega) (c - (k + 4)) (by omega) (some ⟨g, off + (k + 4), none⟩) (fun _ => rfl)
       unfold Bs at hpt
       rw [hxl] at hpt
       have hcl := Lib.hid (cloneU8 [] _ n _ (w.drewN q) hpt (bV_one _) (by omega))
       generalize (l.drop (k + 4)).take n = xs at *
       generalize crcOf xs = cx at *
       clear hpt hHq
       go_wp2_with fail
       refine hcl.out.mono ?_
       rintro e w2 ⟨v', rfl, hown, hb⟩
       obtain ⟨A', c', rfl, hcr, hy, hno⟩ := hend.out v' _ w2 rfl hown hb
       have Hcr := Lib.hid hcr; have Hy := Lib.hid hy; have Hno := Lib.hid hno
       clear hown hb hcl hcr hy hno hend
       go_wp2_with fail
       refine Hcr.out.mono ?_
       rintro e w3 ⟨rfl, rfl⟩
       by_cases hcp : cx = p
       ·have hne : ((cx : Int) != (p : Int)) = false := by simp [hcp]
        have hp := Lib.hid (Hy.out hcp)
        clear hcp Hy Hno
        go_wp2
        go_ret3
        exact hp.out
       ·have hne : ((cx : Int) != (p : Int)) = true := by simp; omega
        have hp := Lib.hid (Hno.out hcp)
        clear hcp Hy Hno
        go_wp2
        go_ret3
        exact hp.out
end Go.Proofs.YtinnifhnabncfaaGreatDoor.Vi
end
section
namespace Go.Proofs.YtinnifhnabncfaaGreatDoor.Vi
open Go.RowKit Base Mem Go.Shelf
def mReadS (l : List UInt8) : MsgD × Nat :=
 match readF l with
 | none => (zeroM, 12)
 | some (x, n) => if n ≠ l.length then (zeroM, 12) else
  if (mreadS (byteS x false).1.toNat (byteS x false).2.1 (byteS x false).2.2).2.1 = true ∧ (!(mreadS (byteS x false).1.toNat (byteS x false).2.1 (byteS x false).2.2).2.2.2 && (mreadS (byteS x false).1.toNat (byteS x false).2.1 (byteS x false).2.2).2.2.1.isEmpty) = true ∧ mrightS (mreadS (byteS x false).1.toNat (byteS x false).2.1 (byteS x false).2.2).1 = 0
   then ((mreadS (byteS x false).1.toNat (byteS x false).2.1 (byteS x false).2.2).1, 0) else (zeroM, 12)
theorem readF_len {l x : List UInt8} {n : Nat} (h : readF l = some (x, n)) : x.length ≤ 65536 := by
 unfold readF at h
 split at h
 ·cases h
 ·rename_i hc
  split at h
  ·injection h with h; injection h with h1 h2
   rw [← h1, List.length_take]
   omega
  ·cases h
theorem short_zero : Short zeroD := ⟨by show (0 : Nat) < _; omega, by simp [zeroD], by simp [zeroD]⟩
theorem readE_short (l : List UInt8) (h : l.length < 4294967281) : Short (readE l).1 := by
 unfold readE
 split
 ·exact (readH_short l h).1
 ·exact short_zero
theorem getEs_short : ∀ (k : Nat) (l : List UInt8) (b : Bool), l.length < 4294967281 → ∀ es, (getEs k l b).1 = some es → es.length = k ∧ ∀ e ∈ es, Short e
 | 0, l, b, _, es, h => by
  injection h with h; subst h; simp
 | k + 1, l, b, hl, es, h => by
  have ht := textS_len l b
  unfold getEs at h
  split at h
  ·cases h
  ·have ih := getEs_short k (textS l b).2.1 (textS l b).2.2 (by omega)
   generalize getEs k (textS l b).2.1 (textS l b).2.2 = G at *
   obtain ⟨_ | fs, s⟩ := G
   ·cases h
   ·simp only [preE] at h
    injection h with h; subst h
    obtain ⟨h1, h2⟩ := ih fs rfl
    refine ⟨by simp [h1], fun e he => ?_⟩
    rcases List.mem_append.1 he with he | he
    ·simp at he; subst he; exact readE_short _ (by omega)
    ·exact h2 e he
theorem mgetS_short (l : List UInt8) (b : Bool) (hl : l.length < 4294967281) : ((mgetS l b).1.getD []).length ≤ 128 ∧ ∀ e ∈ (mgetS l b).1.getD [], Short e := by
 have h1 := countS_len l b 128
 have h2 := countS_most l b 128
 have h := getEs_short (countS l b 128).1 (countS l b 128).2.1 (countS l b 128).2.2 (by omega)
 unfold mgetS
 generalize getEs (countS l b 128).1 (countS l b 128).2.1 (countS l b 128).2.2 = G at *
 obtain ⟨_ | es, s⟩ := G
 ·simp
 ·obtain ⟨h3, h4⟩ := h es rfl
  exact ⟨by show es.length ≤ 128; omega, h4⟩
theorem mreadS_short (k : Nat) (l : List UInt8) (b : Bool) (hl : l.length < 4294967281) : MShort (mreadS k l b).1 := by
 have ht := textS_len l b
 have hi := intS_len l b
 unfold mreadS
 split
 ·exact ⟨readE_short _ (by omega), by simp, by simp⟩
 split
 ·exact ⟨short_zero, by simp, by simp⟩
 split
 ·have h2 := intS_len (intS l b).2.1 (intS l b).2.2
  have := mgetS_short (intS (intS l b).2.1 (intS l b).2.2).2.1 (intS (intS l b).2.1 (intS l b).2.2).2.2 (by omega)
  exact ⟨short_zero, Nat.le_trans this.1 (by omega), this.2⟩
 split
 ·have h2 := countS_len (intS l b).2.1 (intS l b).2.2 128
  have := mgetS_short (countS (intS l b).2.1 (intS l b).2.2 128).2.1 (countS (intS l b).2.1 (intS l b).2.2 128).2.2 (by omega)
  exact ⟨short_zero, Nat.le_trans this.1 (by omega), this.2⟩
 split
 ·exact ⟨short_zero, by simp, by simp⟩
 ·exact ⟨short_zero, by simp, by simp⟩
def MReadP (R : MsgD × Nat) (w : World) (e : Ending) (w' : World) : Prop := ∃ dv lv, e = .returned (.tuple #[.agg (mCell R.1 dv lv).toArray, .int .i64 R.2]) ∧ (∀ M, (∀ g ∈ M, g < w.heap.size) → MsgAt w' M R.1 dv lv) ∧ Below w.heap.size w w'
theorem mbad {R : MsgD × Nat} {w w1 wz : World} {g0 : Nat} (hR : R = (zeroM, 12)) (hk : Keeps [] w w1) (hz : Keeps [g0] w1 wz) (hg : g0 = w.heap.size) : MReadP R w (.returned (.tuple #[.agg #[.int .i64 0, .int .i64 0, .int .i64 0, .int .i64 0, .int .i64 0, .int .i64 0, .slice none 0 0, .string ⟨#[]⟩, .int .i64 0, .int .i64 0, .int .i64 0, .int .i64 0, .int .u64 0, .int .i64 0, .int .i64 0, .slice none 0 0, .int .i64 0, .int .i64 0], .int .i64 12])) wz := by
 subst hR
 exact ⟨.slice none 0 0, .slice none 0 0, rfl, fun M _ => ⟨Ds.nil _ _, Ens.nil _ _⟩, (hk.trans hz (by intro x hx; simp at hx; right; omega) : Keeps [] w wz).below⟩
set_option maxRecDepth 100000 in
set_option maxHeartbeats 1000000 in
theorem mRead_any (v : Value) (l : List UInt8) (mx : Int) (w : World) (h : Bs w [] v l) (hl : l.length ≤ 4611686018427387000) (hm : w.cell? ⟨0, 0, none⟩ = some (.int .i64 mx)) :
  Calls Tryz.prog 53 #[v] w fun e w' => MReadP (mReadS l) w e w' := by
 have hw0 : 0 < w.heap.size := by
  have := World.block_lt_of_cell? w _ hm
  simpa using this
 have hkeepm : Hid (∀ W, Keeps [] w W → W.cell? ⟨0, 0, none⟩ = some (.int .i64 mx)) := fun W hb => (hb.cell (p := ⟨0, 0, none⟩) hw0 (by simp)).trans hm
 have hfl := fun x n (h : readF l = some (x, n)) => readF_len h
 have HR : Hid (mReadS l = match readF l with
  | none => (zeroM, 12)
  | some (x, n) => if n ≠ l.length then (zeroM, 12) else
   if (mreadS (byteS x false).1.toNat (byteS x false).2.1 (byteS x false).2.2).2.1 = true ∧ (!(mreadS (byteS x false).1.toNat (byteS x false).2.1 (byteS x false).2.2).2.2.2 && (mreadS (byteS x false).1.toNat (byteS x false).2.1 (byteS x false).2.2).2.2.1.isEmpty) = true ∧ mrightS (mreadS (byteS x false).1.toNat (byteS x false).2.1 (byteS x false).2.2).1 = 0
    then ((mreadS (byteS x false).1.toNat (byteS x false).2.1 (byteS x false).2.2).1, 0) else (zeroM, 12)) := rfl
 obtain ⟨A, c, rfl, hc⟩ := h.len
 have H := Lib.hid h
 have hfr := Lib.hid (fun W (hk : Keeps [] w W) => framer_any _ l W (H.out.keep hk (by simp)) hl)
 generalize mReadS l = R at *
 clear h hm
 go_enter Tryz.func53, Tryz.ntmps53
 go_upto_region 1 with (fail)
 obtain ⟨w1, hw1⟩ : ∃ w1, w1 = w.alloc (.cells #[.int .i64 0, .int .i64 0, .int .i64 0, .int .i64 0, .int .i64 0, .int .i64 0, .slice none 0 0, .string ⟨#[]⟩, .int .i64 0, .int .i64 0, .int .i64 0, .int .i64 0, .int .u64 0, .int .i64 0, .int .i64 0, .slice none 0 0, .int .i64 0, .int .i64 0] 68) := ⟨_, rfl⟩
 rw [← hw1]
 have hK1 : Keeps [] w w1 := by rw [hw1]; exact (Keeps.refl _ _).alloc _
 have hB1 : Blk w1 w.heap.size 68 zeroR := by rw [hw1]; exact Blk.new w _ _
 obtain ⟨g0, hg0⟩ : ∃ g0, g0 = w.heap.size := ⟨_, rfl⟩
 rw [← hg0] at hB1 ⊢
 have hg1 : g0 < w1.heap.size := hB1.lt
 have hF := Lib.hid (hfr.out w1 hK1)
 have HK1 := Lib.hid hK1; have HB1 := Lib.hid hB1; have Hg0 := Lib.hid hg0
 clear hw1 hK1 hB1 hg0 hfr
 go_wp2_with fail
 simp only [FrRead] at hF
 generalize readF l = f at *
 cases f with
 | none =>
  simp only [] at HR hF
  refine hF.out.mono ?_
  rintro e w2 ⟨rfl, hb⟩
  have HB2 := Lib.hid (HB1.out.below hb hg1)
  have HK2 := Lib.hid (HK1.out.trans (Keeps.of_below (M := []) hb) (by simp))
  clear hb HB1 HK1 hF
  go_wp2_with (refine wpList_store_blk rfl 68 (.tmp 2) (.tmp 24) rfl g0 0 68 zeroR #[.int .i64 0, .int .i64 0, .int .i64 0, .int .i64 0, .int .i64 0, .int .i64 0, .slice none 0 0, .string ⟨#[]⟩, .int .i64 0, .int .i64 0, .int .i64 0, .int .i64 0, .int .u64 0, .int .i64 0, .int .i64 0, .slice none 0 0, .int .i64 0, .int .i64 0] #[.int .i64 0, .int .i64 0, .int .i64 0, .int .i64 0, .int .i64 0, .int .i64 0, .slice none 0 0, .string ⟨#[]⟩, .int .i64 0, .int .i64 0, .int .i64 0, .int .i64 0, .int .u64 0, .int .i64 0, .int .i64 0, .slice none 0 0, .int .i64 0, .int .i64 0] rfl rfl HB2.out (by show 0 + 18 ≤ 18; omega) rfl (by kernel_rfl) rfl ?_; intro wz hkz hBz; have Hkz := Lib.hid hkz; have HBz := Lib.hid hBz; clear hkz hBz)
  refine bodyPost_ret (results_cell2 rfl _ _ g0 68 #[.int .i64 0, .int .i64 0, .int .i64 0, .int .i64 0, .int .i64 0, .int .i64 0, .slice none 0 0, .string ⟨#[]⟩, .int .i64 0, .int .i64 0, .int .i64 0, .int .i64 0, .int .u64 0, .int .i64 0, .int .i64 0, .slice none 0 0, .int .i64 0, .int .i64 0] _ rfl HBz.out Tryz.underlying68 rfl (by kernel_rfl)) rfl ?_
  exact mbad (by rw [HR.out]) HK2.out Hkz.out Hg0.out
 | some xn =>
  obtain ⟨x, n⟩ := xn
  have hxl := hfl x n rfl
  simp only [] at HR hF
  refine hF.out.mono ?_
  rintro e w2 ⟨A2, c2, rfl, hS2, hb⟩
  have HB2 := Lib.hid (HB1.out.below hb hg1)
  have HK2 := Lib.hid (HK1.out.trans (Keeps.of_below (M := []) hb) (by simp))
  have HS2 := Lib.hid (hS2 [g0] (by intro x hx; simp at hx; omega))
  clear hb HB1 HK1 hF hS2 hfl
  by_cases hn : n = l.length
  ·subst hn
   have HR2 : Hid (R = _) := HR.out.trans (if_neg (by simp))
   clear HR
   have hby := byteS_len x false
   go_wp2_with fail
   refine (new_any [g0] _ x w2 HS2.out (by omega)).mono ?_
   rintro e w3 ⟨rfl, hA3, hb3⟩
   have hg2 := HB2.out.lt
   have HB3 := Lib.hid (HB2.out.below hb3 hg2)
   have HK3 := Lib.hid (HK2.out.trans (Keeps.of_below (M := []) hb3) (by simp))
   have hpw := HK2.out.size
   have hby2 := Lib.hid (byte_any [g0] w2.heap.size x false w3 hA3)
   generalize w2.heap.size = p at *
   clear hA3 hb3 HB2 HK2 HS2
   generalize byteS x false = y at *
   obtain ⟨y1, y2, y3⟩ := y
   simp only [] at HR2 hby hby2
   go_wp2_with fail
   refine hby2.out.mono ?_
   rintro e w4 ⟨rfl, hA4, hk4⟩
   have HB4 := Lib.hid (hk4.blk HB3.out (by simp; omega))
   have HK4 : Hid (Keeps [] w w4) := HK3.out.trans hk4 (by intro q hq; simp at hq; right; omega)
   have hsh := mreadS_short y1.toNat y2 y3 (by omega)
   have hmr := Lib.hid (mread_any y1.toNat p y2 y3 mx w4 (hA4.avoid (by simp)) (by omega) (hkeepm.out w4 HK4.out) (by omega))
   clear hA4 hk4 hby2 HB3 HK3
   simp only [bV]
   have hk256 := UInt8.toNat_lt y1
   generalize y1.toNat = k at *
   have hwk : IntKind.i64.wrap (k : Int) = (k : Int) := by rw [IntKind.wrap_i64]; omega
   generalize mreadS k y2 y3 = r at *
   obtain ⟨m, okb, z2, z3⟩ := r
   simp only [] at HR2 hsh
   go_wp2_with fail
   refine hmr.out.mono ?_
   rintro e w5 ⟨dv, lv, rfl, hM, hA5, hk5⟩
   simp only [] at hM hA5
   have hri := Lib.hid (fun W (hk : Keeps [] w5 W) (hkw : Keeps [] w W) => mright_any m dv lv mx W ((hM [] (by simp)).keep hk (by simp)) hsh (hkeepm.out W hkw))
   have HB5 := Lib.hid (hk5.blk HB4.out (by simp; omega))
   have HK5 : Hid (Keeps [] w w5) := HK4.out.trans hk5 (by intro q hq; simp at hq; right; omega)
   have h45 := hk5.size; have h04 := HK4.out.size; have h44 := HB4.out.lt
   obtain ⟨Aa, na, rfl, _⟩ := (hM [] (by simp)).1.len
   obtain ⟨Ba, ka, rfl, _⟩ := (hM [] (by simp)).2.len
   have HM5 := Lib.hid hM; have HA5 := Lib.hid hA5
   clear hM hA5 hk5 hmr HB4 HK4 hsh
   generalize mrightS m = mr at *
   have Hfin : Hid (∀ wz, Keeps [g0] w5 wz → MReadP (m, 0) w (.returned (.tuple #[.agg (mCell m (.slice Aa m.en.ds.length na) (.slice Ba m.log.length ka)).toArray, .int .i64 0])) wz) := fun wz hk =>
    ⟨_, _, rfl, fun M hM => ((HM5.out (g0 :: M) (by intro q hq; have := Hg0.out; rcases List.mem_cons.1 hq with rfl | hq; omega; have := hM q hq; omega)).keep hk (by simp)).avoid (fun q hq => .inl (List.mem_cons_of_mem _ hq)), (HK5.out.trans hk (by intro q hq; simp at hq; right; have := Hg0.out; omega) : Keeps [] w wz).below⟩
   clear HM5
   obtain ⟨kd, ⟨kind, ag, sh, seq, ep, ds, ser, fr, etg⟩, tag, code, nn, term, had, log, commit, len⟩ := m
   simp only [mCell, eCell, List.cons_append, List.nil_append] at hri Hfin ⊢
   cases okb with
   | false =>
    go_wp2_with (first | (refine wpList_store_blk rfl 68 (.tmp 8) (.tmp 33) rfl w5.heap.size 0 68 _ #[.int .i64 kd, .int .i64 kind, .int .i64 ag, .int .i64 sh, .int .i64 seq, .int .i64 ep, .slice Aa ds.length na, .string ser, .int .i64 fr, .int .i64 etg, .int .i64 tag, .int .i64 code, .int .u64 nn, .int .i64 term, .int .i64 had, .slice Ba log.length ka, .int .i64 commit, .int .i64 len] #[.int .i64 kd, .int .i64 kind, .int .i64 ag, .int .i64 sh, .int .i64 seq, .int .i64 ep, .slice Aa ds.length na, .string ser, .int .i64 fr, .int .i64 etg, .int .i64 tag, .int .i64 code, .int .u64 nn, .int .i64 term, .int .i64 had, .slice Ba log.length ka, .int .i64 commit, .int .i64 len] rfl rfl (Blk.new _ _ _) (by show 0 + 18 ≤ 18; omega) rfl (by kernel_rfl) rfl ?_; intro w6 hk6 hB6; have hkk : Keeps [] w5 w6 := ((Keeps.refl _ _).alloc _).trans hk6 (by intro q hq; simp at hq; right; omega); have HK6 := Lib.hid (HK5.out.trans hkk (by simp)); have HB6 := Lib.hid (hkk.blk HB5.out (by simp)); have HB8 := Lib.hid hB6; have Hkk := Lib.hid hkk; clear hk6 hB6) | (refine wpList_store_blk rfl 68 (.tmp 2) (.tmp 47) rfl g0 0 68 zeroR #[.int .i64 0, .int .i64 0, .int .i64 0, .int .i64 0, .int .i64 0, .int .i64 0, .slice none 0 0, .string ⟨#[]⟩, .int .i64 0, .int .i64 0, .int .i64 0, .int .i64 0, .int .u64 0, .int .i64 0, .int .i64 0, .slice none 0 0, .int .i64 0, .int .i64 0] #[.int .i64 0, .int .i64 0, .int .i64 0, .int .i64 0, .int .i64 0, .int .i64 0, .slice none 0 0, .string ⟨#[]⟩, .int .i64 0, .int .i64 0, .int .i64 0, .int .i64 0, .int .u64 0, .int .i64 0, .int .i64 0, .slice none 0 0, .int .i64 0, .int .i64 0] rfl rfl HB6.out (by show 0 + 18 ≤ 18; omega) rfl (by kernel_rfl) rfl ?_; intro wz hkz hBz; have Hkz := Lib.hid hkz; have HBz := Lib.hid hBz; clear hkz hBz))
    refine bodyPost_ret (results_cell2 rfl _ _ g0 68 #[.int .i64 0, .int .i64 0, .int .i64 0, .int .i64 0, .int .i64 0, .int .i64 0, .slice none 0 0, .string ⟨#[]⟩, .int .i64 0, .int .i64 0, .int .i64 0, .int .i64 0, .int .u64 0, .int .i64 0, .int .i64 0, .slice none 0 0, .int .i64 0, .int .i64 0] _ rfl HBz.out Tryz.underlying68 rfl (by kernel_rfl)) rfl ?_
    exact mbad (by rw [HR2.out, if_neg (by simp)]) HK6.out Hkz.out Hg0.out
   | true =>
    go_wp2_with (refine wpList_store_blk rfl 68 (.tmp 8) (.tmp 33) rfl w5.heap.size 0 68 _ #[.int .i64 kd, .int .i64 kind, .int .i64 ag, .int .i64 sh, .int .i64 seq, .int .i64 ep, .slice Aa ds.length na, .string ser, .int .i64 fr, .int .i64 etg, .int .i64 tag, .int .i64 code, .int .u64 nn, .int .i64 term, .int .i64 had, .slice Ba log.length ka, .int .i64 commit, .int .i64 len] #[.int .i64 kd, .int .i64 kind, .int .i64 ag, .int .i64 sh, .int .i64 seq, .int .i64 ep, .slice Aa ds.length na, .string ser, .int .i64 fr, .int .i64 etg, .int .i64 tag, .int .i64 code, .int .u64 nn, .int .i64 term, .int .i64 had, .slice Ba log.length ka, .int .i64 commit, .int .i64 len] rfl rfl (Blk.new _ _ _) (by show 0 + 18 ≤ 18; omega) rfl (by kernel_rfl) rfl ?_; intro w6 hk6 hB6; have hkk : Keeps [] w5 w6 := ((Keeps.refl _ _).alloc _).trans hk6 (by intro q hq; simp at hq; right; omega); have HK6 := Lib.hid (HK5.out.trans hkk (by simp)); have HB6 := Lib.hid (hkk.blk HB5.out (by simp)); have HB8 := Lib.hid hB6; have Hkk := Lib.hid hkk; clear hk6 hB6; have HA6 := Lib.hid ((HA5.out rfl).keep hkk (by simp) (by simp)))
    refine (done_any [] p z2 z3 w6 HA6.out).mono ?_
    rintro e w7 ⟨rfl, rfl⟩
    cases hd : (!z3 && z2.isEmpty) with
    | false =>
     go_wp2_with (refine wpList_store_blk rfl 68 (.tmp 2) (.tmp 47) rfl g0 0 68 zeroR #[.int .i64 0, .int .i64 0, .int .i64 0, .int .i64 0, .int .i64 0, .int .i64 0, .slice none 0 0, .string ⟨#[]⟩, .int .i64 0, .int .i64 0, .int .i64 0, .int .i64 0, .int .u64 0, .int .i64 0, .int .i64 0, .slice none 0 0, .int .i64 0, .int .i64 0] #[.int .i64 0, .int .i64 0, .int .i64 0, .int .i64 0, .int .i64 0, .int .i64 0, .slice none 0 0, .string ⟨#[]⟩, .int .i64 0, .int .i64 0, .int .i64 0, .int .i64 0, .int .u64 0, .int .i64 0, .int .i64 0, .slice none 0 0, .int .i64 0, .int .i64 0] rfl rfl HB6.out (by show 0 + 18 ≤ 18; omega) rfl (by kernel_rfl) rfl ?_; intro wz hkz hBz; have Hkz := Lib.hid hkz; have HBz := Lib.hid hBz; clear hkz hBz)
     refine bodyPost_ret (results_cell2 rfl _ _ g0 68 #[.int .i64 0, .int .i64 0, .int .i64 0, .int .i64 0, .int .i64 0, .int .i64 0, .slice none 0 0, .string ⟨#[]⟩, .int .i64 0, .int .i64 0, .int .i64 0, .int .i64 0, .int .u64 0, .int .i64 0, .int .i64 0, .slice none 0 0, .int .i64 0, .int .i64 0] _ rfl HBz.out Tryz.underlying68 rfl (by kernel_rfl)) rfl ?_
     exact mbad (by rw [HR2.out, if_neg (by simp [hd])]) HK6.out Hkz.out Hg0.out
    | true =>
     have hr6 := Lib.hid (hri.out w6 Hkk.out HK6.out)
     clear hri
     go_wp2_with (refine wpList_load_g rfl 68 (.tmp 8) rfl w5.heap.size 0 rfl _ _ (blk_range HB8.out) Tryz.underlying68 rfl (by kernel_rfl) ?_)
     refine hr6.out.mono ?_
     rintro e w7 ⟨rfl, hb7⟩
     have HK7 := Lib.hid (HK6.out.trans (Keeps.of_below (M := []) hb7) (by simp))
     have Hkk7 := Lib.hid (Hkk.out.trans (Keeps.of_below (M := []) hb7) (by simp))
     have HB7 := Lib.hid (HB6.out.below hb7 HB6.out.lt)
     have HB9 := Lib.hid (HB8.out.below hb7 HB8.out.lt)
     clear hb7 HK6 Hkk HB6 HB8 hr6
     by_cases hmz : mr = 0
     ·subst hmz
      go_wp2_with (first | (refine wpList_load_mid rfl 68 (.tmp 8) rfl w5.heap.size 0 rfl _ _ (blk_range HB9.out) Tryz.underlying68 rfl (by kernel_rfl) ?_) | (refine wpList_store_blk rfl 68 (.tmp 2) (.tmp 48) rfl g0 0 68 zeroR #[.int .i64 kd, .int .i64 kind, .int .i64 ag, .int .i64 sh, .int .i64 seq, .int .i64 ep, .slice Aa ds.length na, .string ser, .int .i64 fr, .int .i64 etg, .int .i64 tag, .int .i64 code, .int .u64 nn, .int .i64 term, .int .i64 had, .slice Ba log.length ka, .int .i64 commit, .int .i64 len] #[.int .i64 kd, .int .i64 kind, .int .i64 ag, .int .i64 sh, .int .i64 seq, .int .i64 ep, .slice Aa ds.length na, .string ser, .int .i64 fr, .int .i64 etg, .int .i64 tag, .int .i64 code, .int .u64 nn, .int .i64 term, .int .i64 had, .slice Ba log.length ka, .int .i64 commit, .int .i64 len] rfl rfl HB7.out (by show 0 + 18 ≤ 18; omega) rfl (by kernel_rfl) rfl ?_; intro wz hkz hBz; have Hkz := Lib.hid hkz; have HBz := Lib.hid hBz; clear hkz hBz))
      refine bodyPost_ret (results_cell2 rfl _ _ g0 68 #[.int .i64 kd, .int .i64 kind, .int .i64 ag, .int .i64 sh, .int .i64 seq, .int .i64 ep, .slice Aa ds.length na, .string ser, .int .i64 fr, .int .i64 etg, .int .i64 tag, .int .i64 code, .int .u64 nn, .int .i64 term, .int .i64 had, .slice Ba log.length ka, .int .i64 commit, .int .i64 len] _ rfl HBz.out Tryz.underlying68 rfl (by kernel_rfl)) rfl ?_
      have := Hfin.out wz ((Hkk7.out.mono (by simp)).trans Hkz.out (by simp) : Keeps [g0] w5 wz)
      rw [HR2.out, if_pos (by simp [hd])]
      exact this
     ·have hmn : ((mr : Int) != 0) = true := by simpa using hmz
      go_wp2_with (refine wpList_store_blk rfl 68 (.tmp 2) (.tmp 47) rfl g0 0 68 zeroR #[.int .i64 0, .int .i64 0, .int .i64 0, .int .i64 0, .int .i64 0, .int .i64 0, .slice none 0 0, .string ⟨#[]⟩, .int .i64 0, .int .i64 0, .int .i64 0, .int .i64 0, .int .u64 0, .int .i64 0, .int .i64 0, .slice none 0 0, .int .i64 0, .int .i64 0] #[.int .i64 0, .int .i64 0, .int .i64 0, .int .i64 0, .int .i64 0, .int .i64 0, .slice none 0 0, .string ⟨#[]⟩, .int .i64 0, .int .i64 0, .int .i64 0, .int .i64 0, .int .u64 0, .int .i64 0, .int .i64 0, .slice none 0 0, .int .i64 0, .int .i64 0] rfl rfl HB7.out (by show 0 + 18 ≤ 18; omega) rfl (by kernel_rfl) rfl ?_; intro wz hkz hBz; have Hkz := Lib.hid hkz; have HBz := Lib.hid hBz; clear hkz hBz)
      refine bodyPost_ret (results_cell2 rfl _ _ g0 68 #[.int .i64 0, .int .i64 0, .int .i64 0, .int .i64 0, .int .i64 0, .int .i64 0, .slice none 0 0, .string ⟨#[]⟩, .int .i64 0, .int .i64 0, .int .i64 0, .int .i64 0, .int .u64 0, .int .i64 0, .int .i64 0, .slice none 0 0, .int .i64 0, .int .i64 0] _ rfl HBz.out Tryz.underlying68 rfl (by kernel_rfl)) rfl ?_
      exact mbad (by rw [HR2.out, if_neg (by simp [hmz])]) HK7.out Hkz.out Hg0.out
  ·have hnn : ((n : Int) != (l.length : Int)) = true := by simp; omega
   go_wp2_with (refine wpList_store_blk rfl 68 (.tmp 2) (.tmp 24) rfl g0 0 68 zeroR #[.int .i64 0, .int .i64 0, .int .i64 0, .int .i64 0, .int .i64 0, .int .i64 0, .slice none 0 0, .string ⟨#[]⟩, .int .i64 0, .int .i64 0, .int .i64 0, .int .i64 0, .int .u64 0, .int .i64 0, .int .i64 0, .slice none 0 0, .int .i64 0, .int .i64 0] #[.int .i64 0, .int .i64 0, .int .i64 0, .int .i64 0, .int .i64 0, .int .i64 0, .slice none 0 0, .string ⟨#[]⟩, .int .i64 0, .int .i64 0, .int .i64 0, .int .i64 0, .int .u64 0, .int .i64 0, .int .i64 0, .slice none 0 0, .int .i64 0, .int .i64 0] rfl rfl HB2.out (by show 0 + 18 ≤ 18; omega) rfl (by kernel_rfl) rfl ?_; intro wz hkz hBz; have Hkz := Lib.hid hkz; have HBz := Lib.hid hBz; clear hkz hBz)
   refine bodyPost_ret (results_cell2 rfl _ _ g0 68 #[.int .i64 0, .int .i64 0, .int .i64 0, .int .i64 0, .int .i64 0, .int .i64 0, .slice none 0 0, .string ⟨#[]⟩, .int .i64 0, .int .i64 0, .int .i64 0, .int .i64 0, .int .u64 0, .int .i64 0, .int .i64 0, .slice none 0 0, .int .i64 0, .int .i64 0] _ rfl HBz.out Tryz.underlying68 rfl (by kernel_rfl)) rfl ?_
   exact mbad (by rw [HR.out, if_pos hn]) HK2.out Hkz.out Hg0.out
end Go.Proofs.YtinnifhnabncfaaGreatDoor.Vi
end
section
namespace Go.Proofs.YtinnifhnabncfaaGreatDoor.Vi
open Go.RowKit Base Mem Tape Go.Shelf
theorem textS_blob {e : EntryD} (h : EOk e) (r : List UInt8) : textS (eBlob e ++ r) false = (bytesE e, r, false) := by
 have hb := bytesE_big h
 exact textS_put (bytesE e) r (by omega)
theorem getEs_put (r : List UInt8) : ∀ (es : List EntryD), (∀ e ∈ es, EOk e) → getEs es.length (es.flatMap eBlob ++ r) false = (some es, r, false)
 | [], _ => rfl
 | e :: es, h => by
  have he := h e (by simp)
  rw [List.length_cons, List.flatMap_cons, List.append_assoc, getEs, textS_blob he]
  rw [read_bytes e he.1 he.2.2 he.2.1]
  rw [if_neg (by simp)]
  rw [getEs_put r es (fun x hx => h x (List.mem_cons_of_mem _ hx))]
  rfl
theorem mgetS_put (r : List UInt8) (es : List EntryD) (h : ∀ e ∈ es, EOk e) (hl : es.length ≤ 128) : mgetS (putLog es ++ r) false = (some es, r, false) := by
 have hc : countS (putLog es ++ r) false 128 = (es.length, es.flatMap eBlob ++ r, false) := by
  unfold putLog
  rw [List.append_assoc]
  exact countS_put es.length _ 128 hl (by omega)
 unfold mgetS
 rw [hc]
 exact getEs_put r es h
def restL (m : MsgD) : List UInt8 :=
 if m.kd = 1 then eBlob m.en
 else if m.kd = 2 then Lib.uvarint m.tag.toNat ++ Lib.uvarint m.code.toNat ++ Lib.uvarint m.nn.toNat
 else if m.kd = 4 then Lib.uvarint m.term.toNat ++ Lib.uvarint m.had.toNat ++ putLog m.log
 else if m.kd = 5 then Lib.uvarint m.term.toNat ++ Lib.uvarint m.commit.toNat ++ putLog m.log
 else if m.kd = 6 then Lib.uvarint m.term.toNat ++ Lib.uvarint m.len.toNat
 else Lib.uvarint m.term.toNat
theorem bodyL_rest (m : MsgD) : bodyL m = UInt8.ofNat m.kd.toNat :: restL m := rfl
set_option maxHeartbeats 1000000 in
theorem read_rest (m : MsgD) (hok : MOk m) (hs : MShort m) (hwf : MWf m) : mreadS m.kd.toNat (restL m) false = (m, true, [], false) := by
 have hz : clearM m = zeroM := (sameM_iff _ _).1 hok.zero
 obtain ⟨k1, k6, _, t0, te0, h0, c0, l0, co0, co1, c1, l1, ll, ask, logs⟩ := hok
 obtain ⟨w1, w2, w3, w4, w5, w6, w7⟩ := hwf
 obtain ⟨s1, s2, s3⟩ := hs
 obtain ⟨kd, en, tag, code, nn, term, had, log, commit, len⟩ := m
 simp only [] at *
 have hlog : kd ≠ 1 → ∀ e ∈ log, EOk e := fun hk e he => ⟨logs hk e he, s3 e he, w7 e he⟩
 rcases (show kd = 1 ∨ kd = 2 ∨ kd = 3 ∨ kd = 4 ∨ kd = 5 ∨ kd = 6 by omega) with rfl | rfl | rfl | rfl | rfl | rfl
 ·simp [clearM, zeroM] at hz
  obtain ⟨rfl, rfl, rfl, rfl, rfl, rfl, rfl, rfl⟩ := hz
  have hE : EOk en := ⟨ask rfl, s1, w6⟩
  have ht := textS_blob hE []
  rw [List.append_nil] at ht
  show mreadS 1 (eBlob en) false = _
  unfold mreadS
  rw [if_pos rfl, ht, read_bytes en hE.1 hE.2.2 hE.2.1]
  rfl
 ·simp [clearM, zeroM] at hz
  obtain ⟨rfl, rfl, rfl, rfl, rfl, rfl⟩ := hz
  obtain ⟨tag, rfl⟩ := Int.eq_ofNat_of_zero_le t0
  obtain ⟨code, rfl⟩ := Int.eq_ofNat_of_zero_le co0
  obtain ⟨nn, rfl⟩ := Int.eq_ofNat_of_zero_le w4
  show mreadS 2 (Lib.uvarint tag ++ Lib.uvarint code ++ Lib.uvarint nn) false = _
  have e3 := numS_put nn [] (by omega)
  rw [List.append_nil] at e3
  simp only [mreadS]
  rw [if_neg (by omega), if_pos trivial, List.append_assoc, intS_put tag _ (by omega)]
  simp only []
  rw [countS_put code _ 255 (by omega) (by omega)]
  simp only []
  rw [e3]
  rfl
 ·simp [clearM, zeroM] at hz
  obtain ⟨rfl, rfl, rfl, rfl, rfl, rfl, rfl, rfl⟩ := hz
  obtain ⟨term, rfl⟩ := Int.eq_ofNat_of_zero_le te0
  show mreadS 3 (Lib.uvarint term) false = _
  have e3 := intS_put term [] (by omega)
  rw [List.append_nil] at e3
  simp [mreadS, e3, zeroD]
 ·simp [clearM, zeroM] at hz
  obtain ⟨rfl, rfl, rfl, rfl, rfl, rfl⟩ := hz
  obtain ⟨term, rfl⟩ := Int.eq_ofNat_of_zero_le te0
  obtain ⟨had, rfl⟩ := Int.eq_ofNat_of_zero_le h0
  have e3 := mgetS_put [] log (hlog (by decide)) ll
  rw [List.append_nil] at e3
  show mreadS 4 (Lib.uvarint term ++ Lib.uvarint had ++ putLog log) false = _
  simp [mreadS, List.append_assoc, intS_put term _ (show term ≤ 9223372036854775807 by omega), intS_put had _ (show had ≤ 9223372036854775807 by omega), e3, zeroD]
 ·simp [clearM, zeroM] at hz
  obtain ⟨rfl, rfl, rfl, rfl, rfl, rfl⟩ := hz
  obtain ⟨term, rfl⟩ := Int.eq_ofNat_of_zero_le te0
  obtain ⟨commit, rfl⟩ := Int.eq_ofNat_of_zero_le c0
  have e3 := mgetS_put [] log (hlog (by decide)) ll
  rw [List.append_nil] at e3
  show mreadS 5 (Lib.uvarint term ++ Lib.uvarint commit ++ putLog log) false = _
  simp [mreadS, List.append_assoc, intS_put term _ (show term ≤ 9223372036854775807 by omega), countS_put commit _ 128 (by omega) (by omega), e3, zeroD]
 ·simp [clearM, zeroM] at hz
  obtain ⟨rfl, rfl, rfl, rfl, rfl, rfl, rfl⟩ := hz
  obtain ⟨term, rfl⟩ := Int.eq_ofNat_of_zero_le te0
  obtain ⟨len, rfl⟩ := Int.eq_ofNat_of_zero_le l0
  have e3 := countS_put len [] 128 (by omega) (by omega)
  rw [List.append_nil] at e3
  show mreadS 6 (Lib.uvarint term ++ Lib.uvarint len) false = _
  simp [mreadS, intS_put term _ (show term ≤ 9223372036854775807 by omega), e3, zeroD]
/-- What is written is read. -/
theorem mread_put (m : MsgD) (hr : mrightS m = 0) (hs : MShort m) (hwf : MWf m) (hl : (bodyL m).length ≤ 65536) : mReadS (frameL (bodyL m)) = (m, 0) := by
 have hok := mright_ok hr
 have h := readF_put (bodyL m) [] hl
 rw [List.append_nil] at h
 have hb : byteS (bodyL m) false = (UInt8.ofNat m.kd.toNat, restL m, false) := by rw [bodyL_rest]; rfl
 have hk : (UInt8.ofNat m.kd.toNat).toNat = m.kd.toNat := by
  have := hok.k6
  rw [UInt8.toNat_ofNat']
  omega
 unfold mReadS
 rw [h]
 simp only []
 rw [if_neg (by simp), hb]
 simp only []
 rw [hk, read_rest m hok hs hwf]
 simp [hr]
end Go.Proofs.YtinnifhnabncfaaGreatDoor.Vi
end
section
namespace Go.Proofs.YtinnifhnabncfaaGreatDoor.Vi
open Go.RowKit Base Mem Tape Go.Shelf
theorem wf_zero : Wf zeroD := ⟨by simp [zeroD], by simp [zeroD], by simp [zeroD], by simp [zeroD]⟩
theorem logRight_zero : ∀ (l : List EntryD), (∀ e ∈ l, EntryOk e) → logRight l = 0
 | [], _ => rfl
 | e :: l, h => by
  rw [logRight, if_pos (entry_right (h e (by simp))).1]
  exact logRight_zero l (fun x hx => h x (List.mem_cons_of_mem _ hx))
theorem blob_len {e : EntryD} (h : EntryOk e) : (eBlob e).length ≤ 1210 := by
 have h1 := bytesE_len h
 have h2 := Lib.uvarint_length64 (x := (bytesE e).length) (by omega)
 unfold eBlob
 rw [List.length_append]
 omega
theorem blobs_len : ∀ (l : List EntryD), (∀ e ∈ l, EntryOk e) → (l.flatMap eBlob).length ≤ l.length * 1210
 | [], _ => by simp
 | e :: l, h => by
  have ih := blobs_len l (fun x hx => h x (List.mem_cons_of_mem _ hx))
  have h1 := blob_len (h e (by simp))
  rw [List.flatMap_cons, List.length_append, List.length_cons]
  omega
theorem msg_short {m : MsgD} (h : MsgOk m) : MShort m := by
 obtain ⟨he, hl, hl4, _⟩ := h
 refine ⟨?_, by omega, fun e hx => (entry_right (hl e hx)).2.1⟩
 rcases he with he | he
 ·rw [he]; exact short_zero
 ·exact (entry_right he).2.1
theorem msg_wf {m : MsgD} (h : MsgOk m) : MWf m := by
 obtain ⟨he, hl, hl4, h1, h2, h3, h4, h5, h6, h7, h8, _⟩ := h
 refine ⟨by omega, by omega, by omega, by omega, by omega, ?_, fun e hx => (entry_right (hl e hx)).2.2⟩
 rcases he with he | he
 ·rw [he]; exact wf_zero
 ·exact (entry_right he).2.2
theorem msg_right {m : MsgD} (h : MsgOk m) : mrightS m = 0 := by
 obtain ⟨he, hl, hl4, h1, h2, h3, h4, h5, h6, h7, h8, hz, _, hk1⟩ := h
 have hb : bad2 m = false := by simp [bad2]; omega
 unfold mrightS
 rw [if_neg (by rw [hz]; simp; omega), hb, if_neg (by simp), if_neg (by omega)]
 by_cases hk : m.kd = 1
 ·rw [if_pos hk]; exact (entry_right (hk1 hk)).1
 ·rw [if_neg hk]; exact logRight_zero _ hl
theorem msg_body {m : MsgD} (h : MsgOk m) : (bodyL m).length ≤ 65536 := by
 have hs := msg_wf h
 obtain ⟨he, hl, hl4, h1, h2, h3, h4, h5, h6, h7, h8, hz, _, hk1⟩ := h
 have b1 := blobs_len m.log hl
 have u1 := Lib.uvarint_length64 (x := m.tag.toNat) (by omega)
 have u2 := Lib.uvarint_length64 (x := m.code.toNat) (by omega)
 have u3 := Lib.uvarint_length64 (x := m.nn.toNat) (by omega)
 have u4 := Lib.uvarint_length64 (x := m.term.toNat) (by omega)
 have u5 := Lib.uvarint_length64 (x := m.had.toNat) (by omega)
 have u6 := Lib.uvarint_length64 (x := m.commit.toNat) (by omega)
 have u7 := Lib.uvarint_length64 (x := m.len.toNat) (by omega)
 have u8 := Lib.uvarint_length64 (x := m.log.length) (by omega)
 have hp : (putLog m.log).length ≤ 10 + 4 * 1210 := by unfold putLog; rw [List.length_append]; omega
 rw [bodyL_rest, List.length_cons]
 unfold restL
 split
 ·rename_i hk
  have := blob_len (hk1 hk)
  omega
 all_goals (try split)
 all_goals (try split)
 all_goals (try split)
 all_goals (try split)
 all_goals (first | omega | (simp only [List.length_append]; omega))
end Go.Proofs.YtinnifhnabncfaaGreatDoor.Vi
end
section
namespace Go.Proofs.YtinnifhnabncfaaGreatDoor.Vi
open Go.RowKit Base Mem Tape
/-- A slice of numbers that came in. -/
def Nums (w : World) (A : Option Addr) (c : Nat) (l : List Int) : Prop := l.length ≤ c ∧ c ≤ 9223372036854775807 ∧ (0 < l.length → ∃ g off, A = some ⟨g, off, none⟩ ∧ g < w.heap.size ∧ ∀ (j : Nat) (x : Int), l[j]? = some x → w.cell? ⟨g, off + j, none⟩ = some (.int .i64 x))
theorem tape_new {w w1 : World} {A : Option Addr} {c : Nat} {l : List Int} (h : Nums w A c l) (hb : Below w.heap.size w w1) :
  TapeAt (w1.alloc (.cells #[.slice A l.length c, .int .i64 0] 31)) w1.heap.size ⟨l, w.heap.size⟩ 0 := by
 obtain ⟨h1, h2, h3⟩ := h
 refine ⟨Nat.zero_le _, Nat.le_trans h1 h2, hb.size, A, c, Blk.new w1 _ _, h1, fun h0 => ?_⟩
 obtain ⟨g, off, e, hg, hx⟩ := h3 h0
 exact ⟨g, off, e, hg, fun j x hj => ((below_new hb _).cell (p := ⟨g, off + j, none⟩) hg).trans (hx j x hj)⟩
end Go.Proofs.YtinnifhnabncfaaGreatDoor.Vi
end
section
namespace Go.Proofs.YtinnifhnabncfaaGreatDoor.Vi
open Go.RowKit Base Mem Tape Go.Shelf
/-- A tape's message, made new. -/
def TMsg (w : World) (e : Ending) (w' : World) : Prop := ∃ (m : MsgD) (dv lv : Value), e = .returned (.agg (mCell m dv lv).toArray) ∧ MsgOk m ∧ (∀ M, (∀ g ∈ M, g < w.heap.size) → MsgAt w' M m dv lv) ∧ Below w.heap.size w w'
theorem tmsg_any {w w1 : World} {A : Option Addr} {c : Nat} {l : List Int} (h : Nums w A c l) (hb : Below w.heap.size w w1) :
  Calls Tryz.prog 43 #[.pointer (some ⟨w1.heap.size, 0, none⟩)] (w1.alloc (.cells #[.slice A l.length c, .int .i64 0] 31)) fun e w' => TMsg w1 e w' := by
 refine (msg_any w1.heap.size ⟨l, w.heap.size⟩ 0 _ (tape_new h hb)).mono ?_
 rintro e w' ⟨m, dv, lv, k', rfl, hok, hD, _, hk⟩
 exact ⟨m, dv, lv, rfl, hok, fun M hM => hD M (fun g hg => by have := hM g hg; simp; omega), (((Keeps.refl (M := []) w1).alloc _).trans hk (by intro g hg; simp at hg; right; omega)).below⟩
end Go.Proofs.YtinnifhnabncfaaGreatDoor.Vi
end
section
namespace Go.Proofs.YtinnifhnabncfaaGreatDoor.Vi
open Go.RowKit Base Mem
/-- v is a row of these bytes that nobody else writes: it starts its block. -/
def Row1 (w : World) (v : Value) (l : List UInt8) : Prop :=
 (v = .slice none 0 0 ∧ l = []) ∨ ∃ g cap cur, v = .slice (some ⟨g, 0, none⟩) l.length cap ∧ Blk w g 5 cur ∧ l.length ≤ cap ∧ cap ≤ cur.size ∧ cap ≤ maxLen ∧ ∀ (j : Nat) (x : UInt8), l[j]? = some x → cur[j]? = some (bV x)
section
variable {w w' : World} {M M' : List Nat} {v : Value} {l : List UInt8}
theorem Row1.nil (w : World) : Row1 w (.slice none 0 0) [] := Or.inl ⟨rfl, rfl⟩
theorem Row1.of_own {base n : Nat} (h : w.ownsRow base 5 1 v n (l.map bV)) : Row1 w v l := by
 obtain ⟨hl, h⟩ := h
 have hn : n = l.length := by simpa using hl.symm
 subst hn
 rcases h with ⟨rfl, h0⟩ | ⟨g, cap, cur, rfl, _, hg, hnc, hm, hs, ht⟩
 ·exact Or.inl ⟨rfl, List.eq_nil_of_length_eq_zero h0⟩
 ·refine Or.inr ⟨g, cap, cur, rfl, hg, hnc, by omega, hm, fun j x hj => ?_⟩
  have h1 : (l.map bV)[j]? = some (bV x) := by rw [List.getElem?_map, hj]; rfl
  rw [← ht, List.getElem?_take] at h1
  split at h1
  ·simpa using h1
  ·cases h1
theorem Row1.len (h : Row1 w v l) : ∃ A c, v = .slice A l.length c ∧ l.length ≤ c ∧ c ≤ maxLen := by
 rcases h with ⟨rfl, rfl⟩ | ⟨g, cap, cur, rfl, _, h1, _, h2, _⟩
 ·exact ⟨none, 0, rfl, Nat.le_refl _, by unfold maxLen; omega⟩
 ·exact ⟨_, cap, rfl, h1, h2⟩
theorem Row1.lt (h : Row1 w v l) {g : Nat} (hg : v.ownBlock = some g) : g < w.heap.size := by
 rcases h with ⟨rfl, rfl⟩ | ⟨g', cap, cur, rfl, hb, _⟩
 ·simp [Value.ownBlock] at hg
 ·simp [Value.ownBlock] at hg; subst hg; exact hb.lt
theorem Row1.bs (h : Row1 w v l) (hM : ∀ g, v.ownBlock = some g → g ∉ M) : Bs w M v l := by
 rcases h with ⟨rfl, rfl⟩ | ⟨g, cap, cur, rfl, hb, h1, h2, _, hx⟩
 ·exact Bs.nil _ _
 ·refine ⟨_, cap, rfl, h1, by simp, fun _ => ⟨g, 0, rfl, hb.lt, hM g rfl, fun j u hu => ?_⟩⟩
  rw [hb.cell, Nat.zero_add]
  rw [List.getElem?_map] at hu
  obtain ⟨x, hx1, rfl⟩ := Option.map_eq_some_iff.1 hu
  exact hx j x hx1
theorem Row1.keep (h : Row1 w v l) (k : Keeps M w w') (hM : ∀ g, v.ownBlock = some g → g ∉ M) : Row1 w' v l := by
 rcases h with ⟨rfl, rfl⟩ | ⟨g, cap, cur, rfl, hb, rest⟩
 ·exact .nil _
 ·exact Or.inr ⟨g, cap, cur, rfl, k.blk hb (hM g rfl), rest⟩
theorem Row1.cut {A : Option Addr} {c : Nat} (h : Row1 w (.slice A l.length c) l) (n : Nat) (hn : n ≤ l.length) : Row1 w (.slice A n n) (l.take n) := by
 rcases h with ⟨e, rfl⟩ | ⟨g, cap, cur, e, hb, h1, h2, h3, hx⟩
 ·injection e with e1 e2 e3
  subst e1
  have h0 : n = 0 := by simpa using hn
  subst h0
  exact .nil _
 ·injection e with e1 e2 e3
  subst e1
  refine Or.inr ⟨g, n, cur, ?_, hb, ?_, by omega, by omega, fun j x hj => hx j x ?_⟩
  ·rw [List.length_take, Nat.min_eq_left hn]
  ·rw [List.length_take]; omega
  ·rw [List.getElem?_take] at hj
   split at hj
   ·exact hj
   ·cases hj
end
/-- A disk lies in block d: its bytes, how many of them last; it writes no other blocks than those of X. -/
def DkAt (w : World) (X : List Nat) (d : Nat) (b : List UInt8) (k : Nat) : Prop :=
 ∃ v, Blk w d 112 #[v, .int .i64 k] ∧ Row1 w v b ∧ d ∈ X ∧ (∀ g, v.ownBlock = some g → g ∈ X ∧ g ≠ d) ∧ k ≤ b.length ∧ b.length ≤ 1048576 ∧ ∀ g ∈ X, g < w.heap.size
/-- Blocks of X' are those of X, or new. -/
def Grows (X : List Nat) (w : World) (X' : List Nat) : Prop := ∀ g ∈ X', g ∈ X ∨ w.heap.size ≤ g
theorem Grows.refl (X : List Nat) (w : World) : Grows X w X := fun _ h => .inl h
theorem Grows.trans {X X' X'' : List Nat} {w w' : World} (h : Grows X w X') (k : Grows X' w' X'') (hs : w.heap.size ≤ w'.heap.size) : Grows X w X'' := fun g hg => by
 rcases k g hg with h1 | h1
 ·exact h g h1
 ·right; omega
theorem DkAt.lt {w : World} {X : List Nat} {d k : Nat} {b : List UInt8} (h : DkAt w X d b k) : d < w.heap.size := by obtain ⟨_, h, _⟩ := h; exact h.lt
theorem DkAt.le {w : World} {X : List Nat} {d k : Nat} {b : List UInt8} (h : DkAt w X d b k) : k ≤ b.length ∧ b.length ≤ 1048576 := by obtain ⟨_, _, _, _, _, h1, h2, _⟩ := h; exact ⟨h1, h2⟩
theorem DkAt.keep {w w' : World} {X M : List Nat} {d k : Nat} {b : List UInt8} (h : DkAt w X d b k) (hk : Keeps M w w') (hM : ∀ g ∈ X, g ∉ M) : DkAt w' X d b k := by
 obtain ⟨v, h1, h2, h3, h4, h5, h6, h7⟩ := h
 exact ⟨v, hk.blk h1 (hM d h3), h2.keep hk (fun g hg => hM g (h4 g hg).1), h3, h4, h5, h6, fun g hg => Nat.lt_of_lt_of_le (h7 g hg) hk.size⟩
end Go.Proofs.YtinnifhnabncfaaGreatDoor.Vi
end
section
namespace Go.Proofs.YtinnifhnabncfaaGreatDoor.Vi
open Go.RowKit Base Mem
theorem bs_reads {w : World} {A : Option Addr} {c : Nat} {l : List UInt8} (h : Bs w [] (.slice A l.length c) l) : Reads w w.heap.size 1 A l.length (l.map bV) := by
 obtain ⟨A', c', e, _, h⟩ := h.reads
 injection e with e1 _ _
 subst e1
 exact h
/-- What a call answers that makes bytes: a row of its own, that may have room. -/
def OwnB (l : List UInt8) (w : World) (e : Ending) (w' : World) : Prop := ∃ v, e = .returned v ∧ w'.ownsRow w.heap.size 5 1 v l.length (l.map bV) ∧ Below w.heap.size w w'
set_option maxRecDepth 100000 in
theorem rput_any (v : Value) (l : List UInt8) (n : Nat) (w : World) (h : Bs w [] v l) (hn : n < 18446744073709551616) (hl : l.length ≤ 140737488355000) :
  Calls Tryz.prog 67 #[v, .int .u64 n] w fun e w' => OwnB (l ++ Lib.uvarint n) w e w' := by
 obtain ⟨i0, hi0, hz0, hz1, hz2⟩ := info_parts infoU8
 have Hi0 := Lib.hid hi0; have Hz0 := Lib.hid hz0; have Hz1 := Lib.hid hz1; have Hz2 := Lib.hid hz2
 obtain ⟨A, c, rfl, hc⟩ := h.len
 have hrd := Lib.hid (bs_reads h)
 clear h hi0 hz0 hz1 hz2
 have Hun := Lib.hid (Lib.uvarint_length64 hn)
 go_enter Tryz.func67, Tryz.ntmps67
 go_wp2_with (at_builtin; refine wpList_append_any _ rfl (.tmp 6) (.tmp 7) _ rfl w.heap.size 5 i0 _ 1 1 Tryz.underlying36 Hi0.out Hz0.out Hz1.out Hz2.out rfl (by omega) (.slice (some ⟨w.heap.size, 0, none⟩) 0 0) 0 [] rfl (World.ownsRow_made w #[] 0 (Nat.le_refl _) (by unfold maxLen; omega) rfl) w.heap.size A l.length c (l.map bV) rfl (hrd.out.alloc (Nat.le_refl _) _) (bV_one l) (by unfold maxLen; omega) (by omega) (by simp) ?_; intro v1 w1 hown1 hg1 hat1; have Hown : Hid (w1.ownsRow w.heap.size 5 1 v1 l.length (l.map bV)) := (show World.ownsRow _ _ _ _ _ _ _ by simpa using hown1); have Hb1 := Lib.hid (grown_empty hg1); clear hown1 hg1 hat1)
 go_slots
 go_loopw [1, 5] (fun x out wr => ∃ (m : Nat) (pre : List UInt8), x = .int .u64 m ∧ m < 18446744073709551616 ∧ Hid (Lib.uvarint n = pre ++ Lib.uvarint m) ∧ Hid (wr.ownsRow w.heap.size 5 1 out (l.length + pre.length) ((l ++ pre).map bV)) ∧ Hid (Below w.heap.size w wr)) (fun x _ _ => (intOf x).toNat)
 case atStart => exact ⟨n, [], rfl, hn, rfl, (show World.ownsRow _ _ _ _ _ _ _ by simpa using Hown.out), Hb1.out⟩
 case round =>
  obtain ⟨m, pre, rfl, hm, Hp, Hor, Hbr⟩ := hrel
  have hlen : Hid (l.length + pre.length + 1 ≤ 140737488355328) := by
   have h1 := Hun.out
   rw [Hp.out, List.length_append] at h1
   have := Lib.uvarint_pos m
   show _ ≤ _; omega
  by_cases hbig : 128 ≤ m
  ·have hor : bits .or .u8 ((m : Int) % 256) 128 = ((m % 128 + 128 : Nat) : Int) := by
    rw [Lib.u8_or128_any _ (by omega) (by omega)]; omega
   have hmi : (128 : Int) ≤ (m : Int) := by omega
   have hown3 := Lib.hid (Hor.out.alloc (.cells #[.int .u8 ((m % 128 + 128 : Nat) : Int)] 5))
   go_wp2_with (at_builtin; refine wpList_append_any _ rfl (.tmp 11) (.tmp 15) _ rfl w.heap.size 5 i0 _ 1 1 Tryz.underlying36 Hi0.out Hz0.out Hz1.out Hz2.out rfl (by omega) u5 (l.length + pre.length) ((l ++ pre).map bV) rfl hown3.out (wr.heap.size + 1) (some ⟨wr.heap.size, 0, none⟩) 1 1 [.int .u8 ((m % 128 + 128 : Nat) : Int)] rfl (reads_new _ _ _ _ _ rfl) (by intro u hu; simp at hu; subst hu; rfl) (by have := hlen.out; unfold maxLen; omega) (by have := hlen.out; omega) (by have := Hbr.out.size; simp; omega) ?_)
   intro v' w4 hown4 hg4 hat4
   have hcell : Hid (bV (m % 128 + 128).toUInt8 = .int .u8 ((m % 128 + 128 : Nat) : Int)) := by show _ = _; rw [bV_toUInt8]; congr 1; omega
   have Hown4 : Hid (w4.ownsRow w.heap.size 5 1 v' (l.length + (pre ++ [(m % 128 + 128).toUInt8]).length) ((l ++ (pre ++ [(m % 128 + 128).toUInt8])).map bV)) := by
    show World.ownsRow _ _ _ _ _ _ _
    rw [← List.append_assoc, List.map_append, List.map_cons, List.map_nil, hcell.out]
    simpa [Nat.add_assoc] using hown4
   have Hb4 : Hid (Below w.heap.size w w4) := (Hbr.out.alloc Hbr.out.size _).grown hg4 (by have := Hbr.out.size; simp; omega) (fun g hg => (Hor.out.lt g hg).1)
   have Hp4 : Hid (Lib.uvarint n = (pre ++ [(m % 128 + 128).toUInt8]) ++ Lib.uvarint (m / 128)) := by show _ = _; rw [Hp.out, Lib.uvarint_big hbig]; simp
   clear hown4 hg4 hat4
   go_wp2
   go_roundw
   case rel => exact ⟨m / 128, pre ++ [(m % 128 + 128).toUInt8], by go_num, by omega, Hp4, Hown4, Hb4⟩
   case measure => simp [intOf] <;> omega
  ·have hmi : (m : Int) < 128 := by omega
   have hmm : (m : Int) % 256 = (m : Int) := by omega
   have hown3 := Lib.hid (Hor.out.alloc (.cells #[.int .u8 (m : Int)] 5))
   go_wp2_with (at_builtin; refine wpList_append_any _ rfl (.tmp 19) (.tmp 22) _ rfl w.heap.size 5 i0 _ 1 1 Tryz.underlying36 Hi0.out Hz0.out Hz1.out Hz2.out rfl (by omega) u5 (l.length + pre.length) ((l ++ pre).map bV) rfl hown3.out (wr.heap.size + 1) (some ⟨wr.heap.size, 0, none⟩) 1 1 [.int .u8 (m : Int)] rfl (reads_new _ _ _ _ _ rfl) (by intro u hu; simp at hu; subst hu; rfl) (by have := hlen.out; unfold maxLen; omega) (by have := hlen.out; omega) (by have := Hbr.out.size; simp; omega) ?_)
   intro v' w4 hown4 hg4 hat4
   have hcell : Hid (bV m.toUInt8 = .int .u8 (m : Int)) := by show _ = _; rw [bV_toUInt8]; congr 1
   have hfin : Hid (l ++ Lib.uvarint n = l ++ (pre ++ [m.toUInt8])) := by show _ = _; rw [Hp.out, Lib.uvarint_small (by omega)]
   have Hown4 : Hid (w4.ownsRow w.heap.size 5 1 v' (l ++ (pre ++ [m.toUInt8])).length ((l ++ (pre ++ [m.toUInt8])).map bV)) := by
    show World.ownsRow _ _ _ _ _ _ _
    rw [← List.append_assoc, List.map_append, List.map_cons, List.map_nil, hcell.out]
    simpa [Nat.add_assoc] using hown4
   have Hb4 : Hid (Below w.heap.size w w4) := (Hbr.out.alloc Hbr.out.size _).grown hg4 (by have := Hbr.out.size; simp; omega) (fun g hg => (Hor.out.lt g hg).1)
   clear hown4 hg4 hat4
   have hC : Hid (OwnB (l ++ Lib.uvarint n) w (.returned v') w4) := by
    show OwnB _ _ _ _
    rw [hfin.out]
    exact ⟨_, rfl, Hown4.out, Hb4.out⟩
   go_wp2
   go_ret
   exact hC.out
end Go.Proofs.YtinnifhnabncfaaGreatDoor.Vi
end
section
namespace Go.Proofs.YtinnifhnabncfaaGreatDoor.Vi
open Go.RowKit Base Mem Go.Shelf
set_option maxRecDepth 100000 in
theorem rtxt_any (v : Value) (l : List UInt8) (s : ByteArray) (w : World) (h : Bs w [] v l) (hl : l.length + s.size ≤ 140737488355000) :
  Calls Tryz.prog 68 #[v, .string s] w fun e w' => OwnB (l ++ Lib.uvarint s.size ++ sB s) w e w' := by
 obtain ⟨i0, hi0, hz0, hz1, hz2⟩ := info_parts infoU8
 have Hi0 := Lib.hid hi0; have Hz0 := Lib.hid hz0; have Hz1 := Lib.hid hz1; have Hz2 := Lib.hid hz2
 have hp := Lib.hid (rput_any v l s.size w h (by omega) (by omega))
 have hun := Lib.uvarint_length64 (x := s.size) (by omega)
 have hsb : (s.size : Int) < 18446744073709551616 := by omega
 clear h hi0 hz0 hz1 hz2
 go_enter Tryz.func68, Tryz.ntmps68
 go_wp2_with fail
 refine hp.out.mono ?_
 rintro e w1 ⟨v1, rfl, hR, hb⟩
 have hlen0 : (l ++ Lib.uvarint s.size).length + s.size ≤ 140737488355328 := by rw [List.length_append]; omega
 have Hfin : Hid (∀ L : List UInt8, (L ++ sB s).length = L.length + s.size) := fun L => by rw [List.length_append]; rfl
 generalize hL : l ++ Lib.uvarint s.size = L at *
 have HR := Lib.hid hR; have Hb := Lib.hid hb; have HL := Lib.hid hL; have hlen := Lib.hid hlen0; have hbs := Lib.hid hb.size
 clear hR hb hp hL hlen0 hl hun
 go_wp2_with (at_builtin; go_must (refine Lib.wpList_append_own_string w1 rfl (.tmp 9) (.tmp 10) _ _ rfl w.heap.size 5 i0 Tryz.underlying36 Tryz.underlying9 Hi0.out Hz0.out Hz1.out Hz2.out v1 L.length (L.map bV) rfl HR.out s rfl (by have := hlen.out; unfold maxLen; omega) hlen.out hbs.out ?_))
 intro v' w' ho hg _
 have hC : Hid (OwnB (L ++ sB s) w (.returned v') w') := by
  refine ⟨_, rfl, ?_, Hb.out.grown hg Hb.out.size (fun g hg => (HR.out.lt g hg).1)⟩
  rw [Hfin.out L, List.map_append]
  exact ho
 clear ho hg
 have hF := hC.out
 rw [← HL.out] at hF
 have HF := Lib.hid hF
 clear hF
 go_wp2
 go_ret
 exact HF.out
set_option maxRecDepth 100000 in
theorem rnext_any (c : Nat) (x : UInt8) (w : World) (hc : c < 4294967296) :
  Calls Tryz.prog 148 #[.int .u32 c, bV x] w fun e w' => e = .returned (.int .u32 (crcNext c x)) ∧ w = w' := by
 have hx := x.toNat_lt
 have Hx : Hid (crcNext c x = crcN 8 (c ^^^ x.toNat)) := rfl
 have hxor := u32_xor_nat c x.toNat hc (by omega)
 have h0 := Lib.hid (xor_byte_lt hc x)
 have hcv : IntKind.u32.wrap (x.toNat : Int) = (x.toNat : Int) := by rw [IntKind.wrap_u32]; omega
 unfold bV
 generalize c ^^^ x.toNat = a at *
 generalize x.toNat = xn at *
 go_enter Tryz.func148, Tryz.ntmps148
 go_wp2_with fail
 go_loop [0, 5] (fun s i => ∃ k : Nat, i = .int .i64 k ∧ k ≤ 8 ∧ s = .int .u32 (crcN k a : Nat)) (fun _ i => 8 - (intOf i).toNat)
 case atStart => exact ⟨0, rfl, by omega, rfl⟩
 case round =>
  obtain ⟨k, rfl, hk, rfl⟩ := hrel
  have hlt := crcN_lt k h0.out
  have Hs := Lib.hid (crcN_snoc k a)
  generalize hb : crcN k a = b at *
  have Hb := Lib.hid hb
  clear hb
  by_cases h8 : k < 8
  ·have hki : (k : Int) < 8 := by omega
   obtain ⟨q, hq⟩ : ∃ q, q = b / 2 := ⟨_, rfl⟩
   have hand := u32_and1 b hlt
   have hshr : (b : Int) / 2 = (q : Int) := by omega
   have hx2 : bits .xor .u32 (q : Int) 3988292384 = ((q ^^^ 3988292384 : Nat) : Int) := u32_xor_nat q 3988292384 (by omega) (by decide)
   rcases (show b % 2 = 0 ∨ b % 2 = 1 by omega) with hp | hp
   ·have Hst : Hid (crcN (k + 1) a = q) := by show _ = _; rw [Hs.out]; unfold crcStep; rw [hp, hq]; simp
    have hand2 : bits .and .u32 (b : Int) 1 = 0 := by rw [hand, hp]; rfl
    clear hxor hcv Hs hq hp hlt hx2 hand
    go_wp2
    go_round
    case rel => exact ⟨k + 1, by go_num, by omega, by rw [Hst.out]⟩
    case measure => simp [intOf] <;> omega
   ·have Hst : Hid (crcN (k + 1) a = q ^^^ 3988292384) := by show _ = _; rw [Hs.out]; unfold crcStep; rw [hp, hq]
    have hand2 : bits .and .u32 (b : Int) 1 = 1 := by rw [hand, hp]; rfl
    generalize q ^^^ 3988292384 = nx at *
    clear hxor hcv Hs hq hp hlt hand
    go_wp2
    go_round
    case rel => exact ⟨k + 1, by go_num, by omega, by rw [Hst.out]⟩
    case measure => simp [intOf] <;> omega
  ·obtain rfl : k = 8 := by omega
   clear hxor hcv
   go_wp2
   go_ret
   exact ⟨ret_int (by rw [Hx.out, Hb.out]), rfl⟩
set_option maxRecDepth 100000 in
theorem rcrc_any (v : Value) (l : List UInt8) (w : World) (h : Bs w [] v l) (hl : l.length ≤ 4611686018427387904) :
  Calls Tryz.prog 92 #[v] w fun e w' => e = .returned (.int .u32 (crcOf l)) ∧ w = w' := by
 obtain ⟨A, cp, rfl, hcp⟩ := h.len
 have Hh := Lib.hid h
 obtain ⟨c, hc0⟩ : ∃ c : Nat, c = 4294967295 := ⟨_, rfl⟩
 have hc : c < 4294967296 := by omega
 have hci : (c : Int) = 4294967295 := by omega
 have Hci := Lib.hid hci
 have Ho : Hid (crcOf l = 4294967295 - crcOn c l) := by rw [hc0]; rfl
 clear h hci
 go_enter Tryz.func92, Tryz.ntmps92
 go_wp2_with fail
 go_loopw [3, 4] (fun s i wr => ∃ k : Nat, i = .int .i64 k ∧ k ≤ l.length ∧ s = .int .u32 (crcOn c (l.take k) : Nat) ∧ wr = w) (fun _ i _ => l.length - (intOf i).toNat)
 case atStart => exact ⟨0, rfl, by omega, by rw [← Hci.out]; rfl, rfl⟩
 case round =>
  obtain ⟨k, rfl, hk, rfl, rfl⟩ := hrel
  have hlt := crcOn_lt (l.take k) hc
  by_cases h8 : k < l.length
  ·have hki : (k : Int) < (l.length : Int) := by omega
   obtain ⟨g, off, _, e1, _, _, _, h1⟩ := Rd.at_ (fun b => [bV b]) 1 (fun _ => rfl) (xs := l) (show Rd wr [] 1 (.slice A l.length cp) l.length (l.flatMap fun b => [bV b]) by rw [← List.map_eq_flatMap]; exact Hh.out) h8
   obtain rfl : A = some ⟨g, off, none⟩ := by injection e1
   clear e1
   have c0 := h1 0 _ rfl
   rw [Nat.mul_one, Nat.add_zero] at c0
   have Hs : Hid (crcOn c (l.take (k + 1)) = crcNext (crcOn c (l.take k)) l[k]) := by show _ = _; rw [List.take_succ_eq_append_getElem h8, crcOn_snoc]
   generalize crcOn c (l.take k) = b at *
   have hnx := Lib.hid (rnext_any b l[k] wr hlt)
   simp only [bV] at c0 hnx
   generalize crcNext b l[k] = nx at *
   generalize l[k].toNat = xn at *
   clear h1 hlt hc0
   go_wp2_with fail
   refine hnx.out.mono ?_
   rintro e w' ⟨rfl, rfl⟩
   go_wp2
   go_roundw
   case rel => exact ⟨k + 1, by go_num, by omega, by rw [Hs.out], by first | trivial | rfl⟩
   case measure => simp [intOf] <;> omega
  ·obtain rfl : k = l.length := by omega
   rw [List.take_length] at hlt ⊢
   generalize crcOn c l = b at *
   clear hc0
   go_wp2
   go_ret
   refine ⟨ret_int ?_, rfl⟩
   rw [Ho.out, ← u32_not b hlt]
   rfl
set_option maxRecDepth 100000 in
theorem rframe_any (v : Value) (l : List UInt8) (w : World) (h : Bs w [] v l) (hl : l.length ≤ 140737488000000) :
  Calls Tryz.prog 41 #[v] w fun e w' => OwnB (frameL l) w e w' := by
 obtain ⟨i0, hi0, hz0, hz1, hz2⟩ := info_parts infoU8
 have Hi0 := Lib.hid hi0; have Hz0 := Lib.hid hz0; have Hz1 := Lib.hid hz1; have Hz2 := Lib.hid hz2
 obtain ⟨A, c, rfl, hc⟩ := h.len
 have Hh := Lib.hid h
 have hput := rput_any (.slice none 0 0) [] l.length w (Bs.nil _ _) (by omega) (by simp)
 rw [List.nil_append] at hput
 have Hput := Lib.hid hput
 have hul := Lib.uvarint_length64 (x := l.length) (by omega)
 have HF : Hid (frameL l = Lib.uvarint l.length ++ leL (crcOf l) ++ l) := by show _ = _; unfold frameL; rw [List.append_assoc]
 have hcr := Lib.hid (rcrc_any (.slice A l.length c) l w h (by omega))
 have hs := crcOf_lt l
 clear h hi0 hz0 hz1 hz2 hput
 generalize crcOf l = s at *
 generalize Lib.uvarint l.length = uv at *
 have hwl : IntKind.u64.wrap (l.length : Int) = (l.length : Int) := by rw [IntKind.wrap_u64]; omega
 have hfour : Hid ([Value.int .u8 ((s : Int) % 256), .int .u8 ((s : Int) / 256 % 256), .int .u8 ((s : Int) / 65536 % 256), .int .u8 ((s : Int) / 16777216)] = (leL s).map bV) := by
  show _ = _
  have e4 : (s : Int) / 16777216 = (s : Int) / 16777216 % 256 := by omega
  rw [e4]
  simp only [leL, List.map_cons, List.map_nil, bV_low, Int.natCast_ediv]
  rfl
 have hll := leL_len s
 go_enter Tryz.func41, Tryz.ntmps41
 go_wp2_with fail
 refine hcr.out.mono ?_
 rintro e w' ⟨rfl, rfl⟩
 go_wp2_with fail
 refine Hput.out.mono ?_
 rintro e w1 ⟨v1, rfl, hR1, hb1⟩
 have HR1 := Lib.hid hR1; have Hb1 := Lib.hid hb1
 clear hR1 hb1 hcr Hput
 go_wp2_with (first | (at_builtin; refine wpList_append_any _ rfl (.tmp 10) (.tmp 22) _ rfl w.heap.size 5 i0 _ 1 1 Tryz.underlying36 Hi0.out Hz0.out Hz1.out Hz2.out rfl (by omega) v1 uv.length (uv.map bV) rfl (HR1.out.alloc _) (w1.heap.size + 1) (some ⟨w1.heap.size, 0, none⟩) 4 4 [Value.int .u8 ((s : Int) % 256), .int .u8 ((s : Int) / 256 % 256), .int .u8 ((s : Int) / 65536 % 256), .int .u8 ((s : Int) / 16777216)] rfl (reads_new _ _ _ _ _ rfl) (by rw [hfour.out]; exact bV_one _) (by unfold maxLen; omega) (by omega) (by have := Hb1.out.size; simp; omega) ?_; intro v2 w2 hown2 hg2 hat2; have HR2 : Hid (w2.ownsRow w.heap.size 5 1 v2 (uv.length + 4) ((uv ++ leL s).map bV)) := (show World.ownsRow _ _ _ _ _ _ _ by rw [List.map_append, ← hfour.out]; exact hown2); have Hb2 : Hid (Below w.heap.size w w2) := (Hb1.out.alloc Hb1.out.size _).grown hg2 (by have := Hb1.out.size; simp; omega) (fun g hg => (HR1.out.lt g hg).1); clear hown2 hg2 hat2) | (at_builtin; refine wpList_append_any _ rfl (.tmp 24) (.tmp 25) _ rfl w.heap.size 5 i0 _ 1 1 Tryz.underlying36 Hi0.out Hz0.out Hz1.out Hz2.out rfl (by omega) v2 (uv.length + 4) ((uv ++ leL s).map bV) rfl HR2.out w2.heap.size A l.length c (l.map bV) rfl (bs_reads (Hh.out.keep (Keeps.of_below (M := []) Hb2.out) (by simp))) (bV_one l) (by unfold maxLen; omega) (by omega) Hb2.out.size ?_; intro v3 w3 hown3 hg3 hat3; have HR3 : Hid (w3.ownsRow w.heap.size 5 1 v3 (uv ++ leL s ++ l).length ((uv ++ leL s ++ l).map bV)) := (show World.ownsRow _ _ _ _ _ _ _ by rw [List.map_append, List.length_append, List.length_append, hll]; exact hown3); have Hb3 : Hid (Below w.heap.size w w3) := Hb2.out.grown hg3 Hb2.out.size (fun g hg => (HR2.out.lt g hg).1); clear hown3 hg3 hat3) | fail)
 have hC : Hid (OwnB (frameL l) w (.returned v3) w3) := by
  show OwnB _ _ _ _
  rw [HF.out]
  exact ⟨_, rfl, HR3.out, Hb3.out⟩
 go_ret
 exact hC.out
end Go.Proofs.YtinnifhnabncfaaGreatDoor.Vi
end
section
namespace Go.Proofs.YtinnifhnabncfaaGreatDoor.Vi
open Go.RowKit Base Mem
/-- A number that is got is written so. -/
theorem getF_canon : ∀ (l : List UInt8) (i n : Nat), n < 2 ^ (7 * i) → (getF i n l).2 ≠ 0 → i < (getF i n l).2 ∧ ∃ q, (getF i n l).1 = n + q * 2 ^ (7 * i) ∧ l.take ((getF i n l).2 - i) = Lib.uvarint q ∧ (0 < i → 0 < q)
 | [], _, _, _, h => by simp [getF] at h
 | c :: r, i, n, hn, h => by
  have hp : 0 < 2 ^ (7 * i) := Nat.two_pow_pos _
  have hpow : 2 ^ (7 * (i + 1)) = 128 * 2 ^ (7 * i) := by rw [show 7 * (i + 1) = 7 * i + 7 by omega, Nat.pow_add, Nat.mul_comm]
  have hcb := c.toNat_lt
  rw [getF] at h ⊢
  by_cases h10 : 10 ≤ i
  ·rw [if_pos h10] at h; simp at h
  rw [if_neg h10] at h ⊢
  by_cases hov : 18446744073709551616 ≤ c.toNat % 128 * 2 ^ (7 * i)
  ·rw [if_pos hov] at h; simp at h
  rw [if_neg hov] at h ⊢
  by_cases hb : 128 ≤ c.toNat
  ·rw [if_pos hb] at h ⊢
   have hlt : c.toNat % 128 * 2 ^ (7 * i) ≤ 127 * 2 ^ (7 * i) := Nat.mul_le_mul_right _ (by omega)
   obtain ⟨h1, q, h2, h3, h4⟩ := getF_canon r (i + 1) (n + c.toNat % 128 * 2 ^ (7 * i)) (by rw [hpow]; omega) h
   have hq := h4 (by omega)
   refine ⟨by omega, c.toNat % 128 + 128 * q, ?_, ?_, fun _ => by omega⟩
   ·rw [h2, hpow, Nat.add_mul, Nat.add_assoc, Nat.mul_comm 128 q, Nat.mul_assoc]
   ·rw [Lib.uvarint_big (by omega)]
    generalize (getF (i + 1) (n + c.toNat % 128 * 2 ^ (7 * i)) r).2 = k at *
    obtain ⟨k', rfl⟩ : ∃ k', k = i + 1 + k' := ⟨k - (i + 1), by omega⟩
    rw [show i + 1 + k' - i = k' + 1 by omega, List.take_succ_cons]
    rw [show i + 1 + k' - (i + 1) = k' by omega] at h3
    rw [h3]
    congr 1
    ·apply UInt8.toNat_inj.1
     rw [Nat.toUInt8_eq, UInt8.toNat_ofNat']
     omega
    ·congr 1; omega
  ·rw [if_neg hb] at h ⊢
   by_cases hz : c.toNat = 0 ∧ 0 < i
   ·rw [if_pos hz] at h; simp at h
   rw [if_neg hz] at h ⊢
   refine ⟨by simp, c.toNat, by simp only []; rw [Nat.mod_eq_of_lt (by omega)], ?_, fun hi => by omega⟩
   simp only []
   rw [show i + 1 - i = 0 + 1 by omega, List.take_succ_cons, Lib.uvarint_small (by omega), List.take_zero]
   congr 1
   apply UInt8.toNat_inj.1
   rw [Nat.toUInt8_eq, UInt8.toNat_ofNat']
   omega
theorem getL_canon {l : List UInt8} (h : (getL l).2 ≠ 0) : l.take (getL l).2 = Lib.uvarint (getL l).1 := by
 obtain ⟨_, q, h2, h3, _⟩ := getF_canon l 0 0 (by decide) h
 unfold getL
 rw [Nat.sub_zero] at h3
 rw [h3, h2]
 simp
theorem getL_zero {l : List UInt8} (h : (getL l).2 = 0) : getL l = (0, 0) := by
 have h1 := (getL_le l)
 have : ∀ (l : List UInt8) (i n : Nat), (getF i n l).2 = 0 → getF i n l = (0, 0) := by
  intro l
  induction l with
  | nil => intro i n _; rfl
  | cons c r ih =>
   intro i n h
   rw [getF] at h ⊢
   repeat' (split at h)
   all_goals first | (simp_all; done) | skip
 exact this l 0 0 h
/-- The document's way to get a number: what is left to read, all of it. -/
def rgetF (L : List UInt8) : Nat → Nat → List UInt8 → Nat × Nat
 | _, _, [] => (0, 0)
 | i, n, c :: r =>
  if 10 ≤ i then (0, 0)
  else if c.toNat < 128 then (if Lib.uvarint (n + c.toNat % 128 * 2 ^ (7 * i) % 18446744073709551616) = L.take (i + 1) then (n + c.toNat % 128 * 2 ^ (7 * i) % 18446744073709551616, i + 1) else (0, 0))
  else rgetF L (i + 1) (n + c.toNat % 128 * 2 ^ (7 * i) % 18446744073709551616) r
theorem rgetF_eq (L : List UInt8) : ∀ (l : List UInt8) (i n : Nat), n < 2 ^ (7 * i) → getF i n l = getL L → l = L.drop i → rgetF L i n l = getL L
 | [], _, _, _, h, _ => h
 | c :: r, i, n, hn, h, hd => by
  have hp : 0 < 2 ^ (7 * i) := Nat.two_pow_pos _
  have hpow : 2 ^ (7 * (i + 1)) = 128 * 2 ^ (7 * i) := by rw [show 7 * (i + 1) = 7 * i + 7 by omega, Nat.pow_add, Nat.mul_comm]
  have hlt : c.toNat % 128 * 2 ^ (7 * i) ≤ 127 * 2 ^ (7 * i) := Nat.mul_le_mul_right _ (by omega)
  have hr : r = L.drop (i + 1) := by rw [← List.tail_drop, ← hd]; rfl
  rw [rgetF]
  by_cases h10 : 10 ≤ i
  ·rw [if_pos h10, ← h, getF, if_pos h10]
  rw [if_neg h10]
  have hwr : n + c.toNat % 128 * 2 ^ (7 * i) % 18446744073709551616 < 18446744073709551616 := by
   by_cases hi9 : i = 9
   ·subst hi9
    have e : (2 : Nat) ^ (7 * 9) = 9223372036854775808 := rfl
    rw [e] at hn ⊢
    omega
   ·have : (2 : Nat) ^ (7 * i) ≤ 2 ^ 56 := Nat.pow_le_pow_right (by omega) (by omega)
    have e : (2 : Nat) ^ 56 = 72057594037927936 := rfl
    omega
  by_cases hb : c.toNat < 128
  ·rw [if_pos hb]
   by_cases he : Lib.uvarint (n + c.toNat % 128 * 2 ^ (7 * i) % 18446744073709551616) = L.take (i + 1)
   ·rw [if_pos he]
    have h1 := getL_put (n + c.toNat % 128 * 2 ^ (7 * i) % 18446744073709551616) (L.drop (i + 1)) hwr
    rw [he, List.take_append_drop] at h1
    rw [h1, List.length_take]
    have : i < L.length := by
     apply Decidable.byContradiction
     intro hc
     rw [List.drop_of_length_le (by omega)] at hd
     cases hd
    rw [Nat.min_eq_left (by omega)]
   ·rw [if_neg he]
    apply Eq.symm
    apply getL_zero
    apply Decidable.byContradiction
    intro h0
    apply he
    have h1 := getL_canon h0
    rw [← h] at h0 h1
    rw [getF, if_neg h10] at h0 h1
    by_cases hov : 18446744073709551616 ≤ c.toNat % 128 * 2 ^ (7 * i)
    ·rw [if_pos hov] at h0; simp at h0
    rw [if_neg hov, if_neg (by omega)] at h0 h1
    by_cases hz : c.toNat = 0 ∧ 0 < i
    ·rw [if_pos hz] at h0; simp at h0
    rw [if_neg hz] at h1
    simp only [] at h1
    rw [Nat.mod_eq_of_lt (by omega : c.toNat % 128 * 2 ^ (7 * i) < 18446744073709551616)]
    exact h1.symm
  ·rw [if_neg hb]
   rw [getF, if_neg h10] at h
   by_cases hov : 18446744073709551616 ≤ c.toNat % 128 * 2 ^ (7 * i)
   ·rw [if_pos hov] at h
    have hi9 : i = 9 := by
     apply Decidable.byContradiction; intro hne
     have : (2 : Nat) ^ (7 * i) ≤ 2 ^ 56 := Nat.pow_le_pow_right (by omega) (by omega)
     have e : (2 : Nat) ^ 56 = 72057594037927936 := rfl
     omega
    subst hi9
    rw [← h]
    cases r with
    | nil => rfl
    | cons x r => rw [rgetF, if_pos (by omega)]
   ·rw [if_neg hov, if_pos (by omega)] at h
    rw [Nat.mod_eq_of_lt (by omega)]
    exact rgetF_eq L r (i + 1) _ (by rw [hpow]; omega) h hr
theorem rgetF_all (l : List UInt8) : rgetF l 0 0 l = getL l := rgetF_eq l l 0 0 (by decide) rfl rfl
/-- The document's frame at the front is ours. -/
theorem rreadF_iff (b : List UInt8) (h1 : ¬ ((getL b).2 = 0 ∨ 65536 < (getL b).1 ∨ b.length < (getL b).2 + 4 + (getL b).1)) :
  frameL ((b.drop ((getL b).2 + 4)).take (getL b).1) = b.take ((getL b).2 + 4 + (getL b).1) ↔ crcOf ((b.drop ((getL b).2 + 4)).take (getL b).1) = unL (b.drop (getL b).2) := by
 have hc := getL_canon (l := b) (by omega)
 generalize (getL b).1 = n at *
 generalize (getL b).2 = k at *
 have hlen : ((b.drop (k + 4)).take n).length = n := by rw [List.length_take, List.length_drop]; omega
 have hk : (Lib.uvarint n).length = k := by rw [← hc, List.length_take]; omega
 have hb : b.take (k + 4 + n) = Lib.uvarint n ++ ((b.drop k).take 4 ++ (b.drop (k + 4)).take n) := by
  rw [← hc, show k + 4 + n = k + (4 + n) by omega, List.take_add, List.take_add, List.drop_drop]
 unfold frameL
 rw [hlen, hb, List.append_cancel_left_eq]
 have h4 : ((b.drop k).take 4).length = 4 := by rw [List.length_take, List.length_drop]; omega
 have hcl := crcOf_lt ((b.drop (k + 4)).take n)
 generalize crcOf ((b.drop (k + 4)).take n) = s at *
 have hun : unL (b.drop k) = unL ((b.drop k).take 4) := by
  unfold unL
  simp only [List.getD_eq_getElem?_getD, List.getElem?_take]
  rfl
 rw [hun]
 generalize (b.drop k).take 4 = q at *
 constructor
 ·intro h
  have : leL s = q := List.append_cancel_right h
  rw [← this]
  have := unL_leL s hcl []
  rw [List.append_nil] at this
  exact this.symm
 ·intro h
  congr 1
  match q, h4 with
  | [a, b, c, d], _ =>
   have := a.toNat_lt; have := b.toNat_lt; have := c.toNat_lt; have := d.toNat_lt
   unfold unL at h
   simp at h
   unfold leL
   have e0 : UInt8.ofNat s = a := by apply UInt8.toNat_inj.1; rw [UInt8.toNat_ofNat']; omega
   have e1 : UInt8.ofNat (s / 256) = b := by apply UInt8.toNat_inj.1; rw [UInt8.toNat_ofNat']; omega
   have e2 : UInt8.ofNat (s / 65536) = c := by apply UInt8.toNat_inj.1; rw [UInt8.toNat_ofNat']; omega
   have e3 : UInt8.ofNat (s / 16777216) = d := by apply UInt8.toNat_inj.1; rw [UInt8.toNat_ofNat']; omega
   rw [e0, e1, e2, e3]
end Go.Proofs.YtinnifhnabncfaaGreatDoor.Vi
end
section
namespace Go.Proofs.YtinnifhnabncfaaGreatDoor.Vi
open Go.RowKit Base Mem Go.Shelf
def RGetP (l : List UInt8) (w : World) (e : Ending) (w' : World) : Prop := e = .returned (.tuple #[.int .u64 (getL l).1, .int .i64 (getL l).2]) ∧ Below w.heap.size w w'
theorem bdrewG {B : Nat} {a w : World} (h : Below B a w) : Below B a w.drew := ⟨h.os, h.tape, h.output, h.size, h.block⟩
theorem bthenG {a b b' c : World} (h : Below a.heap.size a b) (k : Below b'.heap.size b' c) (hbb : b'.heap = b.heap ∧ b'.os = b.os ∧ b'.tape = b.tape ∧ b'.output = b.output := by first | exact ⟨rfl, rfl, rfl, rfl⟩) : Below a.heap.size a c := by
 obtain ⟨h1, h2, h3, h4⟩ := hbb
 exact ⟨k.os.trans (h2.trans h.os), k.tape.trans (h3.trans h.tape), k.output.trans (h4.trans h.output), Nat.le_trans h.size (by have := k.size; rw [h1] at this; exact this), fun g hg => by
  have := k.block g (by rw [h1]; exact Nat.lt_of_lt_of_le hg h.size)
  rw [this, h1]; exact h.block g hg⟩
theorem u8_and127 (a : Nat) (ha : a < 256) : bits .and .u8 (a : Int) 127 = ((a % 128 : Nat) : Int) := by
 show IntKind.u8.wrap ((BitVec.ofInt 8 (a : Int) &&& BitVec.ofInt 8 127).toNat : Int) = _
 rw [BitVec.toNat_and, BitVec.ofInt_natCast, BitVec.toNat_ofNat, Nat.mod_eq_of_lt (by omega), show (BitVec.ofInt 8 127).toNat = 2 ^ 7 - 1 from rfl, Nat.and_two_pow_sub_one_eq_mod, IntKind.wrap_u8]
 omega
/-- A number with seven more bits of it. -/
theorem or_more (n p k : Nat) (hk : k ≤ 63) (hn : n < 2 ^ k) (hn2 : n < 18446744073709551616) (hp : p < 128) :
  bits .or .u64 (n : Int) (IntKind.u64.wrap ((p : Int) * 2 ^ k)) = ((n + p * 2 ^ k % 18446744073709551616 : Nat) : Int) ∧ n + p * 2 ^ k % 18446744073709551616 < 2 ^ (k + 7) ∧ n + p * 2 ^ k % 18446744073709551616 < 18446744073709551616 := by
 have h64 : (18446744073709551616 : Nat) = 2 ^ (64 - k) * 2 ^ k := by rw [← Nat.pow_add, show 64 - k + k = 64 by omega]
 have hm : p * 2 ^ k % 18446744073709551616 = p % 2 ^ (64 - k) * 2 ^ k := by rw [h64, Nat.mul_mod_mul_right]
 have hlt : p * 2 ^ k % 18446744073709551616 < 18446744073709551616 := Nat.mod_lt _ (by decide)
 have hle : p * 2 ^ k % 18446744073709551616 ≤ p * 2 ^ k := Nat.mod_le _ _
 have hw : IntKind.u64.wrap ((p : Int) * 2 ^ k) = ((p * 2 ^ k % 18446744073709551616 : Nat) : Int) := by rw [cast_shl, IntKind.wrap_u64]; omega
 have h127 : p * 2 ^ k ≤ 127 * 2 ^ k := Nat.mul_le_mul_right _ (by omega)
 rw [hw, hm]
 rw [hm] at hlt hle
 refine ⟨or_eq n _ k hn hlt hn2, ?_, ?_⟩
 ·rw [Nat.pow_add]; omega
 ·have := pow_room (p % 2 ^ (64 - k)) k hk hlt
  rw [Nat.add_mul] at this
  omega
theorem conv_own {w : World} {base : Nat} {v : Value} {l : List UInt8} (h : w.ownsRow base 5 1 v l.length (l.map bV)) :
  ∃ A c, v = .slice A l.length c ∧ (convert 36 9 (.slice A l.length c)).run Tryz.prog w = .ok (.string ⟨l.toArray⟩) w := by
 have hb : Bs w [] v l := Rd.of_own h (by simp)
 obtain ⟨A, c, rfl, _⟩ := hb.len
 exact ⟨A, c, rfl, conv_bytes hb⟩
theorem Bs.headG {w : World} {M : List Nat} {A : Option Addr} {c : Nat} {l : List UInt8} (h : Bs w M (.slice A l.length c) l) (k : Nat) (hk : k ≤ l.length) : Bs w M (.slice A k c) (l.take k) := by
 obtain ⟨A', c', e, hcc, hl, hr⟩ := h
 injection e with e1 _ e3
 subst e1 e3
 show Rd _ _ _ _ (l.take k).length _
 rw [List.length_take, Nat.min_eq_left hk]
 refine ⟨_, c, rfl, by omega, by simp; omega, fun hn => ?_⟩
 obtain ⟨g, off, rfl, hg, hm, hx⟩ := hr (by omega)
 refine ⟨g, off, rfl, hg, hm, fun j u hu => hx j u ?_⟩
 rw [List.getElem?_map] at hu ⊢
 rw [List.getElem?_take] at hu
 split at hu
 ·exact hu
 ·cases hu
set_option maxRecDepth 100000 in
set_option maxHeartbeats 4000000 in
theorem rget_any (v : Value) (l : List UInt8) (w : World) (h : Bs w [] v l) (hl : l.length ≤ 4611686018427387904) :
  Calls Tryz.prog 96 #[v] w fun e w' => RGetP l w e w' := by
 have H := Lib.hid h
 obtain ⟨A, c, rfl, hc⟩ := h.len
 clear h
 go_enter Tryz.func96, Tryz.ntmps96
 go_wp2_with fail
 go_loopw [4, 5] (fun nn i wr => ∃ (x n : Nat), nn = .int .u64 n ∧ i = .int .i64 x ∧ x ≤ l.length ∧ x ≤ 10 ∧ Hid (n < 2 ^ (7 * x)) ∧ Hid (n < 18446744073709551616) ∧ Hid (getL l = rgetF l x n (l.drop x)) ∧ wr = w) (fun _ i _ => 10 - (intOf i).toNat)
 case atStart => exact ⟨0, 0, rfl, rfl, by omega, by omega, (show (0 : Nat) < 2 ^ (7 * 0) by omega), (show (0 : Nat) < _ by omega), (rgetF_all l).symm, rfl⟩
 case round =>
  obtain ⟨x, n, rfl, rfl, hx, hx10, Hn, Hn64, Hg, rfl⟩ := hrel
  by_cases hlt : x < l.length
  ·by_cases hl10 : x < 10
   ·obtain ⟨g, off, _, e1, _, hg, _, h1⟩ := Rd.at_ (fun b => [bV b]) 1 (fun _ => rfl) (xs := l) (show Rd wr [] 1 (.slice A l.length c) l.length (l.flatMap fun b => [bV b]) by rw [← List.map_eq_flatMap]; exact H.out) hlt
    obtain rfl : A = some ⟨g, off, none⟩ := by injection e1
    clear e1
    have c0 := h1 0 _ rfl
    clear h1
    rw [Nat.mul_one, Nat.add_zero] at c0
    simp only [bV] at c0
    have hb := UInt8.toNat_lt (l[x])
    have hdrop : l.drop x = l[x] :: l.drop (x + 1) := List.drop_eq_getElem_cons hlt
    have Hst := Lib.hid (show getL l = (if 10 ≤ x then (0, 0)
     else if l[x].toNat < 128 then (if Lib.uvarint (n + l[x].toNat % 128 * 2 ^ (7 * x) % 18446744073709551616) = l.take (x + 1) then (n + l[x].toNat % 128 * 2 ^ (7 * x) % 18446744073709551616, x + 1) else (0, 0))
     else rgetF l (x + 1) (n + l[x].toNat % 128 * 2 ^ (7 * x) % 18446744073709551616) (l.drop (x + 1))) by rw [Hg.out, hdrop]; rfl)
    generalize l[x].toNat = cb at *
    have hx1 : (x : Int) < (l.length : Int) := by omega
    have hx2 : (x : Int) < 10 := by omega
    have hand := u8_and127 cb (by omega)
    have hpl : cb % 128 < 128 := Nat.mod_lt _ (by omega)
    generalize cb % 128 = p at *
    clear hdrop
    have hcv : IntKind.u64.wrap (p : Int) = (p : Int) := by rw [IntKind.wrap_u64]; omega
    have hk63 : 7 * x ≤ 63 := by omega
    obtain ⟨hor, hm1, hm2⟩ := or_more n p (7 * x) hk63 Hn.out Hn64.out hpl
    generalize n + p * 2 ^ (7 * x) % 18446744073709551616 = m at *
    have Hm1 : Hid (m < 2 ^ (7 * (x + 1))) := by show _ < _; rw [show 7 * (x + 1) = 7 * x + 7 by omega]; exact hm1
    have Hm2 := Lib.hid hm2
    clear hm1 hm2
    by_cases hcb : cb < 128
    ·have hd : (cb : Int) < 128 := by omega
     have HR : Hid (getL l = if Lib.uvarint m = l.take (x + 1) then (m, x + 1) else (0, 0)) := by show _ = _; rw [Hst.out, if_neg (by omega), if_pos hcb]
     obtain ⟨tA, htA⟩ : ∃ tA : ByteArray, tA = ⟨(Lib.uvarint m).toArray⟩ := ⟨_, rfl⟩
     obtain ⟨tB, htB⟩ : ∃ tB : ByteArray, tB = ⟨(l.take (x + 1)).toArray⟩ := ⟨_, rfl⟩
     have hcmp : Hid ((tA.toList == tB.toList) = decide (Lib.uvarint m = l.take (x + 1))) := by
      show _ = _
      rw [htA, htB, Lib.toList_data, Lib.toList_data, Bool.eq_iff_iff, beq_iff_eq, decide_eq_true_eq]
     have hput : Hid (∀ W, Calls Tryz.prog 67 #[.slice none 0 0, .int .u64 m] W fun e w' => OwnB (Lib.uvarint m) W e w') := fun W => by
      have := rput_any (.slice none 0 0) [] m W (Bs.nil _ _) Hm2.out (by simp)
      rwa [List.nil_append] at this
     have hcv2 : Hid (∀ (W : World) (v7 : Value) {base : Nat}, W.ownsRow base 5 1 v7 (Lib.uvarint m).length ((Lib.uvarint m).map bV) → ∃ A7 c7, v7 = .slice A7 (Lib.uvarint m).length c7 ∧ (convert 36 9 (.slice A7 (Lib.uvarint m).length c7)).run Tryz.prog W = .ok (.string tA) W) := fun W v7 base h => by rw [htA]; exact conv_own h
     have HS7 : Hid (∀ W, Below wr.heap.size wr W → (convert 36 9 (.slice (some ⟨g, off, none⟩) (x + 1) c)).run Tryz.prog W = .ok (.string tB) W) := fun W hb => by
      have h1 := (H.out.keep (Keeps.of_below (M := []) hb) (by simp)).headG (x + 1) (by omega)
      have h2 : (l.take (x + 1)).length = x + 1 := by rw [List.length_take]; omega
      have h3 := conv_bytes (l := l.take (x + 1)) (A := some ⟨g, off, none⟩) (c := c) (w := W) (M := []) (by rw [h2]; exact h1)
      rw [h2] at h3
      rw [htB]
      exact h3
     have hxc : (x : Int) + 1 ≤ (c : Int) := by omega
     have hwx : IntKind.i64.wrap ((x : Int) + 1) = (x : Int) + 1 := by rw [IntKind.wrap_i64]; omega
     have hx0 : (0 : Int) ≤ (x : Int) + 1 := by omega
     have hxt : ((x : Int) + 1).toNat = x + 1 := by omega
     clear htA htB Hst Hm1 Hg Hn Hn64
     go_upto_region 7 with (fail)
     clear hor hand hcv
     by_cases hq : Lib.uvarint m = l.take (x + 1)
     ·have hR : Hid (getL l = (m, x + 1)) := by show _ = _; rw [HR.out, if_pos hq]
      have hcm : (tA.toList == tB.toList) = true := by rw [hcmp.out]; exact decide_eq_true hq
      clear hq HR hcmp
      refine wp_region_held_drew (S := (fun W => (convert 36 9 (.slice (some ⟨g, off, none⟩) (x + 1) c)).run Tryz.prog W = .ok (.string tB) W)) (by kernel_rfl) (HS7.out _ (bdrewG (Below.refl _ wr))) (fun hHeld => ?_)
      refine wpAnyH_take (i := 0) (oi := _) (v := ?v0) rfl (by kernel_rfl) (by kernel_rfl) (by kernel_rfl) (fun _ _ _ h => h) (Or.inl ⟨by rfl, ?y0⟩) (by assumption) ?r0
      case y0 => (intro w hSw; (try dsimp only at hSw); go_simp <;> with_reducible rfl)
      try simp only [List.getElem_toArray, List.getElem_cons_succ, List.getElem_cons_zero, Act.put, List.setIfInBounds_toArray, List.set_cons_zero, List.set_cons_succ]
      refine wpAnyH_take (i := 3) (oi := _) (v := ?v3) rfl (by kernel_rfl) (by kernel_rfl) (by kernel_rfl) (fun _ _ _ h => h) (Or.inl ⟨by rfl, ?y3⟩) (by assumption) ?r3
      case y3 => (intro w hSw; (try dsimp only at hSw); go_simp <;> with_reducible rfl)
      try simp only [List.getElem_toArray, List.getElem_cons_succ, List.getElem_cons_zero, Act.put, List.setIfInBounds_toArray, List.set_cons_zero, List.set_cons_succ]
      refine wpAnyH_take (i := 4) (oi := _) (v := ?v4) rfl (by kernel_rfl) (by kernel_rfl) (by kernel_rfl) (fun _ _ _ h => h) (Or.inl ⟨by rfl, ?y4⟩) (by assumption) ?r4
      case y4 => (intro w hSw; (try dsimp only at hSw); go_simp <;> with_reducible rfl)
      try simp only [List.getElem_toArray, List.getElem_cons_succ, List.getElem_cons_zero, Act.put, List.setIfInBounds_toArray, List.set_cons_zero, List.set_cons_succ]
      refine wpAnyH_take (i := 5) (oi := _) (v := ?v5) rfl (by kernel_rfl) (by kernel_rfl) (by kernel_rfl) (fun _ _ _ h => h) (Or.inl ⟨by rfl, ?y5⟩) (by assumption) ?r5
      case y5 => (intro w hSw; (try dsimp only at hSw); go_simp <;> with_reducible rfl)
      try simp only [List.getElem_toArray, List.getElem_cons_succ, List.getElem_cons_zero, Act.put, List.setIfInBounds_toArray, List.set_cons_zero, List.set_cons_succ]
      refine wpAnyH_take (i := 6) (oi := _) (v := ?v6) rfl (by kernel_rfl) (by kernel_rfl) (by kernel_rfl) (fun _ _ _ h => h) (Or.inl ⟨by rfl, ?y6⟩) (by assumption) ?r6
      case y6 => (intro w hSw; (try dsimp only at hSw); go_simp <;> with_reducible rfl)
      try simp only [List.getElem_toArray, List.getElem_cons_succ, List.getElem_cons_zero, Act.put, List.setIfInBounds_toArray, List.set_cons_zero, List.set_cons_succ]
      refine wpAnyH_take (i := 7) (oi := _) (v := ?v7) rfl (by kernel_rfl) (by kernel_rfl) (by kernel_rfl) (fun _ _ _ h => h) (Or.inl ⟨by rfl, ?y7⟩) (by assumption) ?r7
      case y7 => (intro w hSw; (try dsimp only at hSw); go_simp <;> with_reducible rfl)
      try simp only [List.getElem_toArray, List.getElem_cons_succ, List.getElem_cons_zero, Act.put, List.setIfInBounds_toArray, List.set_cons_zero, List.set_cons_succ]
      refine wpAnyH_ready (rs := [1]) (by kernel_rfl) (by simp) ?_
      refine AllReadyH.cons (o := _) rfl (fun K hK => ?_) AllReadyH.nil
      go_simp
      refine (hput.out _).mono ?_
      rintro e w7 ⟨v7, rfl, hown7, hb⟩
      have hb7 := Lib.hid (bthenG (bdrewG (Below.refl _ wr)) hb)
      have hcv7 := hcv2.out w7 v7 hown7
      obtain ⟨A7, c7, rfl, hcv8⟩ := hcv7
      clear hb hown7
      refine hK.out _ _ (HS7.out _ hb7.out) (fun hHeld2 => ?_)
      clear hK K hHeld
      have hHeld := hHeld2
      clear hHeld2
      try simp only [List.getElem_toArray, List.getElem_cons_succ, List.getElem_cons_zero, Act.put, List.setIfInBounds_toArray, List.set_cons_zero, List.set_cons_succ]
      refine wpAnyH_ready (rs := [2]) (by kernel_rfl) (by simp) ?_
      refine AllReadyH.cons (o := _) rfl (fun K hK => ?_) AllReadyH.nil
      go_simp
      refine hK.out _ _ (HS7.out _ hb7.out) (fun hHeld2 => ?_)
      clear hK K hHeld
      have hHeld := hHeld2
      clear hHeld2
      try simp only [List.getElem_toArray, List.getElem_cons_succ, List.getElem_cons_zero, Act.put, List.setIfInBounds_toArray, List.set_cons_zero, List.set_cons_succ]
      refine wpAnyH_take (i := 8) (oi := _) (v := ?v8) rfl (by kernel_rfl) (by kernel_rfl) (by kernel_rfl) (fun _ _ _ h => h) (Or.inl ⟨by rfl, ?y8⟩) (by assumption) ?r8
      case y8 => (intro w hSw; (try dsimp only at hSw); go_simp <;> with_reducible rfl)
      try simp only [List.getElem_toArray, List.getElem_cons_succ, List.getElem_cons_zero, Act.put, List.setIfInBounds_toArray, List.set_cons_zero, List.set_cons_succ]
      refine wpAnyH_done (by kernel_rfl) ?_ _
      go_wp2
      go_ret2
      show RGetP l wr _ _
      unfold RGetP
      rw [hR.out]
      exact ⟨rfl, hb7.out⟩
     ·have hR : Hid (getL l = (0, 0)) := by show _ = _; rw [HR.out, if_neg hq]
      have hcm : (tA.toList == tB.toList) = false := by rw [hcmp.out]; exact decide_eq_false hq
      clear hq HR hcmp
      refine wp_region_held_drew (S := (fun W => (convert 36 9 (.slice (some ⟨g, off, none⟩) (x + 1) c)).run Tryz.prog W = .ok (.string tB) W)) (by kernel_rfl) (HS7.out _ (bdrewG (Below.refl _ wr))) (fun hHeld => ?_)
      refine wpAnyH_take (i := 0) (oi := _) (v := ?v0f) rfl (by kernel_rfl) (by kernel_rfl) (by kernel_rfl) (fun _ _ _ h => h) (Or.inl ⟨by rfl, ?y0f⟩) (by assumption) ?r0f
      case y0f => (intro w hSw; (try dsimp only at hSw); go_simp <;> with_reducible rfl)
      try simp only [List.getElem_toArray, List.getElem_cons_succ, List.getElem_cons_zero, Act.put, List.setIfInBounds_toArray, List.set_cons_zero, List.set_cons_succ]
      refine wpAnyH_take (i := 3) (oi := _) (v := ?v3f) rfl (by kernel_rfl) (by kernel_rfl) (by kernel_rfl) (fun _ _ _ h => h) (Or.inl ⟨by rfl, ?y3f⟩) (by assumption) ?r3f
      case y3f => (intro w hSw; (try dsimp only at hSw); go_simp <;> with_reducible rfl)
      try simp only [List.getElem_toArray, List.getElem_cons_succ, List.getElem_cons_zero, Act.put, List.setIfInBounds_toArray, List.set_cons_zero, List.set_cons_succ]
      refine wpAnyH_take (i := 4) (oi := _) (v := ?v4f) rfl (by kernel_rfl) (by kernel_rfl) (by kernel_rfl) (fun _ _ _ h => h) (Or.inl ⟨by rfl, ?y4f⟩) (by assumption) ?r4f
      case y4f => (intro w hSw; (try dsimp only at hSw); go_simp <;> with_reducible rfl)
      try simp only [List.getElem_toArray, List.getElem_cons_succ, List.getElem_cons_zero, Act.put, List.setIfInBounds_toArray, List.set_cons_zero, List.set_cons_succ]
      refine wpAnyH_take (i := 5) (oi := _) (v := ?v5f) rfl (by kernel_rfl) (by kernel_rfl) (by kernel_rfl) (fun _ _ _ h => h) (Or.inl ⟨by rfl, ?y5f⟩) (by assumption) ?r5f
      case y5f => (intro w hSw; (try dsimp only at hSw); go_simp <;> with_reducible rfl)
      try simp only [List.getElem_toArray, List.getElem_cons_succ, List.getElem_cons_zero, Act.put, List.setIfInBounds_toArray, List.set_cons_zero, List.set_cons_succ]
      refine wpAnyH_take (i := 6) (oi := _) (v := ?v6f) rfl (by kernel_rfl) (by kernel_rfl) (by kernel_rfl) (fun _ _ _ h => h) (Or.inl ⟨by rfl, ?y6f⟩) (by assumption) ?r6f
      case y6f => (intro w hSw; (try dsimp only at hSw); go_simp <;> with_reducible rfl)
      try simp only [List.getElem_toArray, List.getElem_cons_succ, List.getElem_cons_zero, Act.put, List.setIfInBounds_toArray, List.set_cons_zero, List.set_cons_succ]
      refine wpAnyH_take (i := 7) (oi := _) (v := ?v7f) rfl (by kernel_rfl) (by kernel_rfl) (by kernel_rfl) (fun _ _ _ h => h) (Or.inl ⟨by rfl, ?y7f⟩) (by assumption) ?r7f
      case y7f => (intro w hSw; (try dsimp only at hSw); go_simp <;> with_reducible rfl)
      try simp only [List.getElem_toArray, List.getElem_cons_succ, List.getElem_cons_zero, Act.put, List.setIfInBounds_toArray, List.set_cons_zero, List.set_cons_succ]
      refine wpAnyH_ready (rs := [1]) (by kernel_rfl) (by simp) ?_
      refine AllReadyH.cons (o := _) rfl (fun K hK => ?_) AllReadyH.nil
      go_simp
      refine (hput.out _).mono ?_
      rintro e w7 ⟨v7, rfl, hown7, hb⟩
      have hb7 := Lib.hid (bthenG (bdrewG (Below.refl _ wr)) hb)
      have hcv7 := hcv2.out w7 v7 hown7
      obtain ⟨A7, c7, rfl, hcv8⟩ := hcv7
      clear hb hown7
      refine hK.out _ _ (HS7.out _ hb7.out) (fun hHeld2 => ?_)
      clear hK K hHeld
      have hHeld := hHeld2
      clear hHeld2
      try simp only [List.getElem_toArray, List.getElem_cons_succ, List.getElem_cons_zero, Act.put, List.setIfInBounds_toArray, List.set_cons_zero, List.set_cons_succ]
      refine wpAnyH_ready (rs := [2]) (by kernel_rfl) (by simp) ?_
      refine AllReadyH.cons (o := _) rfl (fun K hK => ?_) AllReadyH.nil
      go_simp
      refine hK.out _ _ (HS7.out _ hb7.out) (fun hHeld2 => ?_)
      clear hK K hHeld
      have hHeld := hHeld2
      clear hHeld2
      try simp only [List.getElem_toArray, List.getElem_cons_succ, List.getElem_cons_zero, Act.put, List.setIfInBounds_toArray, List.set_cons_zero, List.set_cons_succ]
      refine wpAnyH_take (i := 8) (oi := _) (v := ?v8f) rfl (by kernel_rfl) (by kernel_rfl) (by kernel_rfl) (fun _ _ _ h => h) (Or.inl ⟨by rfl, ?y8f⟩) (by assumption) ?r8f
      case y8f => (intro w hSw; (try dsimp only at hSw); go_simp <;> with_reducible rfl)
      try simp only [List.getElem_toArray, List.getElem_cons_succ, List.getElem_cons_zero, Act.put, List.setIfInBounds_toArray, List.set_cons_zero, List.set_cons_succ]
      refine wpAnyH_done (by kernel_rfl) ?_ _
      go_wp2
      go_ret2
      show RGetP l wr _ _
      unfold RGetP
      rw [hR.out]
      exact ⟨rfl, hb7.out⟩
    ·have hd : (128 : Int) ≤ (cb : Int) := by omega
     have HG : Hid (getL l = rgetF l (x + 1) m (l.drop (x + 1))) := by show _ = _; rw [Hst.out, if_neg (by omega), if_neg hcb]
     clear Hst Hg Hn Hn64
     go_wp2
     go_roundw
     case rel => exact ⟨x + 1, m, rfl, by go_num, by omega, by omega, Hm1, Hm2, HG, by first | trivial | rfl⟩
     case measure => simp [intOf] <;> omega
   ·obtain rfl : x = 10 := by omega
    have hx1 : (10 : Int) < (l.length : Int) := by omega
    have hR : Hid (getL l = (0, 0)) := by
     show _ = _
     rw [Hg.out, List.drop_eq_getElem_cons hlt]
     rfl
    clear Hg Hn Hn64
    go_wp2
    go_ret2
    show RGetP l wr _ _
    unfold RGetP
    rw [hR.out]
    exact ⟨rfl, Below.refl _ _⟩
  ·obtain rfl : x = l.length := by omega
   have hR : Hid (getL l = (0, 0)) := by
    show _ = _
    rw [Hg.out, List.drop_length]
    rfl
   clear Hg Hn Hn64
   go_wp2
   go_ret2
   show RGetP l wr _ _
   unfold RGetP
   rw [hR.out]
   exact ⟨rfl, Below.refl _ _⟩
end Go.Proofs.YtinnifhnabncfaaGreatDoor.Vi
end
section
namespace Go.Proofs.YtinnifhnabncfaaGreatDoor.Vi
open Go.RowKit Base Mem Go.Shelf
theorem own_bs {w : World} {base : Nat} {v : Value} {l : List UInt8} (h : w.ownsRow base 5 1 v l.length (l.map bV)) : Bs w [] v l := Rd.of_own h (by simp)
set_option maxRecDepth 100000 in
set_option maxHeartbeats 2000000 in
theorem rdeltas_any (v : Value) (l : List UInt8) (dv : Value) (ds : List DeltaD) (w : World) (h : Bs w [] v l) (hd : Ds w [] dv ds) (hn : ∀ d ∈ ds, NOk d) (hdl : ds.length ≤ 1048576) (hl : (l ++ Lib.uvarint ds.length ++ ds.flatMap dBytes).length ≤ 140737488300000) :
  Calls Tryz.prog 69 #[v, dv] w fun e w' => OwnB (l ++ Lib.uvarint ds.length ++ ds.flatMap dBytes) w e w' := by
 have hp := Lib.hid (rput_any v l ds.length w h (by omega) (by simp only [List.length_append] at hl; omega))
 have Hlim : Hid (∀ x, (l ++ Lib.uvarint ds.length ++ (ds.take x).flatMap dBytes).length ≤ 140737488300000) := fun x => by
  have h1 : ((ds.take x).flatMap dBytes).length ≤ (ds.flatMap dBytes).length := by
   conv => rhs; rw [← List.take_append_drop x ds, List.flatMap_append, List.length_append]
   omega
  simp only [List.length_append] at hl ⊢
  omega
 have HD := Lib.hid hd; have Hn := Lib.hid hn
 obtain ⟨A, c, rfl, hc⟩ := hd.len
 have hwu : IntKind.u64.wrap (ds.length : Int) = (ds.length : Int) := by rw [IntKind.wrap_u64]; omega
 have hdi : (ds.length : Int) < 18446744073709551616 := by omega
 clear h hd hn hl
 obtain ⟨L0, hL0⟩ : ∃ L0, L0 = l ++ Lib.uvarint ds.length := ⟨_, rfl⟩
 rw [← hL0] at hp Hlim ⊢
 clear hL0
 go_enter Tryz.func69, Tryz.ntmps69
 go_wp2_with fail
 refine hp.out.mono ?_
 rintro e w1 ⟨v1, rfl, hR, hb⟩
 have HR1 := Lib.hid hR; have Hb1 := Lib.hid hb
 clear hR hb hp
 go_wp2_with fail
 go_loopw [0, 14] (fun b i wr => ∃ (x : Nat) (L : List UInt8), i = .int .i64 x ∧ x ≤ ds.length ∧ Hid (L = L0 ++ (ds.take x).flatMap dBytes) ∧ Hid (wr.ownsRow w.heap.size 5 1 b L.length (L.map bV)) ∧ Hid (Below w.heap.size w wr)) (fun _ i _ => ds.length - (intOf i).toNat)
 case atStart => exact ⟨0, L0, rfl, by omega, (show L0 = _ by simp), HR1.out, Hb1.out⟩
 case round =>
  obtain ⟨x, L, rfl, hx, HL, Hown, Hbr⟩ := hrel
  by_cases hlt : x < ds.length
  ·have hx1 : (x : Int) < (ds.length : Int) := by omega
   obtain ⟨g, off, _, e1, _, hg, _, hcell⟩ := Rd.at_ dCell 2 (fun _ => rfl) (HD.out.keep (Keeps.of_below (M := []) Hbr.out) (by simp)) hlt
   obtain rfl : A = some ⟨g, off, none⟩ := by injection e1
   clear e1
   have p0 := hcell 0 _ rfl
   have p1 := hcell 1 _ rfl
   rw [Nat.add_zero] at p0
   clear hcell
   have HN : Hid (L0 ++ (ds.take (x + 1)).flatMap dBytes = L ++ dBytes ds[x]) := by
    show _ = _
    rw [List.take_succ_eq_append_getElem hlt, List.flatMap_append, HL.out]; simp
   have hlm := Hlim.out (x + 1)
   rw [HN.out, List.length_append] at hlm
   obtain ⟨hn0, hn1⟩ := Hn.out ds[x] (List.getElem_mem _)
   generalize ds[x] = d at *
   obtain ⟨ser, nn⟩ := d
   simp only [] at p0 p1 hn0 hn1
   obtain ⟨n, rfl⟩ := Int.eq_ofNat_of_zero_le hn0
   have hn2 : n < 18446744073709551616 := by omega
   have HdB : Hid (L ++ dBytes ⟨ser, (n : Int)⟩ = (L ++ Lib.uvarint ser.size ++ sB ser) ++ Lib.uvarint n) := by
    show _ = _
    unfold dBytes
    simp only [Int.toNat_natCast, List.append_assoc]
   have hlm2 : (L ++ Lib.uvarint ser.size ++ sB ser).length + (Lib.uvarint n).length ≤ 140737488300000 := by
    rw [← List.length_append, ← HdB.out, List.length_append]; exact hlm
   have hlm3 : L.length + ser.size ≤ 140737488300000 := by
    have : (sB ser).length = ser.size := rfl
    simp only [List.length_append] at hlm2
    omega
   have Hlm2 := Lib.hid hlm2; have Hlm3 := Lib.hid hlm3
   have hBx := Blk.new wr 86 #[.string ser, .int .u64 n]
   have HbA := Lib.hid (Hbr.out.alloc Hbr.out.size (.cells #[.string ser, .int .u64 n] 86))
   have HownA := Lib.hid (Hown.out.alloc (.cells #[.string ser, .int .u64 n] 86))
   have hg6 : wr.heap.size < (wr.alloc (.cells #[.string ser, .int .u64 n] 86)).heap.size := by simp
   have d0 := hBx.cell 0; have d1 := hBx.cell 1
   simp only [List.getElem?_toArray, List.getElem?_cons_succ, List.getElem?_cons_zero] at d0 d1
   clear hBx hlm hlm2 hlm3 hn0 hn1
   go_upto_region 5 with (fail)
   clear p0 p1
   generalize wr.alloc (.cells #[.string ser, .int .u64 n] 86) = wa at *
   generalize wr.heap.size = g6 at *
   have HSB : Hid (∀ W, Below wa.heap.size wa W → W.cell? ⟨g6, 0, none⟩ = some (.string ser) ∧ W.cell? ⟨g6, 1, none⟩ = some (.int .u64 n)) := fun W hb => ⟨(hb.cell (p := ⟨g6, 0, none⟩) hg6).trans d0, (hb.cell (p := ⟨g6, 1, none⟩) hg6).trans d1⟩
   have HT : Hid (∀ W, Below wa.heap.size wa W → Calls Tryz.prog 68 #[u0, .string ser] W fun e w' => OwnB (L ++ Lib.uvarint ser.size ++ sB ser) W e w') := fun W hb => rtxt_any u0 L ser W (own_bs (own_below HownA.out hb)) (by have := Hlm3.out; omega)
   refine wp_region_held_drew (S := (fun W => W.cell? ⟨g6, 0, none⟩ = some (.string ser) ∧ W.cell? ⟨g6, 1, none⟩ = some (.int .u64 n))) (by kernel_rfl) (HSB.out _ (bdrewG (Below.refl _ wa))) (fun hHeld => ?_)
   refine wpAnyH_take (i := 0) (oi := _) (v := ?v0) rfl (by kernel_rfl) (by kernel_rfl) (by kernel_rfl) (fun _ _ _ h => h) (Or.inl ⟨by rfl, ?y0⟩) (by assumption) ?r0
   case y0 => (intro w hSw; (obtain ⟨hS0, hS1⟩ := hSw); go_simp <;> with_reducible rfl)
   try simp only [List.getElem_toArray, List.getElem_cons_succ, List.getElem_cons_zero, Act.put, List.setIfInBounds_toArray, List.set_cons_zero, List.set_cons_succ]
   refine wpAnyH_take (i := 1) (oi := _) (v := ?v1) rfl (by kernel_rfl) (by kernel_rfl) (by kernel_rfl) (fun _ _ _ h => h) (Or.inl ⟨by rfl, ?y1⟩) (by assumption) ?r1
   case y1 => (intro w hSw; (obtain ⟨hS0, hS1⟩ := hSw); go_simp <;> with_reducible rfl)
   try simp only [List.getElem_toArray, List.getElem_cons_succ, List.getElem_cons_zero, Act.put, List.setIfInBounds_toArray, List.set_cons_zero, List.set_cons_succ]
   refine wpAnyH_take (i := 2) (oi := _) (v := ?v2) rfl (by kernel_rfl) (by kernel_rfl) (by kernel_rfl) (fun _ _ _ h => h) (Or.inl ⟨by rfl, ?y2⟩) (by assumption) ?r2
   case y2 => (intro w hSw; (obtain ⟨hS0, hS1⟩ := hSw); go_simp <;> with_reducible rfl)
   try simp only [List.getElem_toArray, List.getElem_cons_succ, List.getElem_cons_zero, Act.put, List.setIfInBounds_toArray, List.set_cons_zero, List.set_cons_succ]
   refine wpAnyH_take (i := 4) (oi := _) (v := ?v4) rfl (by kernel_rfl) (by kernel_rfl) (by kernel_rfl) (fun _ _ _ h => h) (Or.inl ⟨by rfl, ?y4⟩) (by assumption) ?r4
   case y4 => (intro w hSw; (obtain ⟨hS0, hS1⟩ := hSw); go_simp <;> with_reducible rfl)
   try simp only [List.getElem_toArray, List.getElem_cons_succ, List.getElem_cons_zero, Act.put, List.setIfInBounds_toArray, List.set_cons_zero, List.set_cons_succ]
   refine wpAnyH_take (i := 5) (oi := _) (v := ?v5) rfl (by kernel_rfl) (by kernel_rfl) (by kernel_rfl) (fun _ _ _ h => h) (Or.inl ⟨by rfl, ?y5⟩) (by assumption) ?r5
   case y5 => (intro w hSw; (obtain ⟨hS0, hS1⟩ := hSw); go_simp <;> with_reducible rfl)
   try simp only [List.getElem_toArray, List.getElem_cons_succ, List.getElem_cons_zero, Act.put, List.setIfInBounds_toArray, List.set_cons_zero, List.set_cons_succ]
   refine wpAnyH_ready (rs := [3]) (by kernel_rfl) (by simp) ?_
   refine AllReadyH.cons (o := _) rfl (fun K hK => ?_) AllReadyH.nil
   go_simp
   refine (HT.out _ (bdrewG (Below.refl _ wa))).mono ?_
   rintro e w7 ⟨v7, rfl, hown7, hb7⟩
   have Hb7 := Lib.hid (bthenG (bdrewG (Below.refl _ wa)) hb7)
   have Hown7 := Lib.hid hown7
   clear hb7 hown7
   refine hK.out _ _ (HSB.out _ Hb7.out) (fun hHeld2 => ?_)
   clear hK K hHeld
   have hHeld := hHeld2
   clear hHeld2
   try simp only [List.getElem_toArray, List.getElem_cons_succ, List.getElem_cons_zero, Act.put, List.setIfInBounds_toArray, List.set_cons_zero, List.set_cons_succ]
   refine wpAnyH_ready (rs := [6]) (by kernel_rfl) (by simp) ?_
   refine AllReadyH.cons (o := _) rfl (fun K hK => ?_) AllReadyH.nil
   go_simp
   refine (rput_any v7 (L ++ Lib.uvarint ser.size ++ sB ser) n w7 (own_bs Hown7.out) hn2 (by have := Hlm2.out; omega)).mono ?_
   rintro e w8 ⟨v8, rfl, hown8, hb8⟩
   have Hb8 := Lib.hid (below_then Hb7.out hb8)
   have Hown8 := Lib.hid hown8
   clear hb8 hown8
   refine hK.out _ _ (HSB.out _ Hb8.out) (fun hHeld2 => ?_)
   clear hK K hHeld
   have hHeld := hHeld2
   clear hHeld2
   try simp only [List.getElem_toArray, List.getElem_cons_succ, List.getElem_cons_zero, Act.put, List.setIfInBounds_toArray, List.set_cons_zero, List.set_cons_succ]
   refine wpAnyH_take (i := 7) (oi := _) (v := ?v7) rfl (by kernel_rfl) (by kernel_rfl) (by kernel_rfl) (fun _ _ _ h => h) (Or.inl ⟨by rfl, ?y7⟩) (by assumption) ?r7
   case y7 => (intro w hSw; (try dsimp only at hSw); go_simp <;> with_reducible rfl)
   try simp only [List.getElem_toArray, List.getElem_cons_succ, List.getElem_cons_zero, Act.put, List.setIfInBounds_toArray, List.set_cons_zero, List.set_cons_succ]
   refine wpAnyH_done (by kernel_rfl) ?_ _
   have HF : Hid (w8.ownsRow w.heap.size 5 1 v8 (L ++ dBytes ⟨ser, (n : Int)⟩).length ((L ++ dBytes ⟨ser, (n : Int)⟩).map bV)) := by
    show World.ownsRow _ _ _ _ _ _ _
    rw [HdB.out]
    exact own_more Hown8.out (Nat.le_trans HbA.out.size Hb7.out.size)
   have HbF := Lib.hid (below_then HbA.out Hb8.out)
   have HN2 := Lib.hid HN.out.symm
   go_wp2
   go_roundw
   case rel => exact ⟨x + 1, L ++ dBytes ⟨ser, (n : Int)⟩, by go_num, by omega, HN2, HF, HbF⟩
   case measure => simp [intOf] <;> omega
  ·obtain rfl : x = ds.length := by omega
   have hC : Hid (OwnB (L0 ++ ds.flatMap dBytes) w (.returned u0) wr) := by
    have := HL.out
    rw [List.take_length] at this
    rw [← this]
    exact ⟨_, rfl, Hown.out, Hbr.out⟩
   go_wp2
   go_ret
   exact hC.out
end Go.Proofs.YtinnifhnabncfaaGreatDoor.Vi
end
