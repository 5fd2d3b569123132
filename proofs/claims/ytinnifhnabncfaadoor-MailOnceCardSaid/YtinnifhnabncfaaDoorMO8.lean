/- Texts put together: FrR, Msg8, Msg9, MsgA, TNum, Kn6, Once6. -/
import Derived.Deep.RegionHeld3
import Derived.Test.YtinnifhnabncfaaDoorMO5
import Derived.Test.YtinnifhnabncfaaDoorMO6
import Derived.Test.YtinnifhnabncfaaDoorMO7
/- Contract of frame.Read. -/
section
namespace Go.Proofs.YtinnifhnabncfaaDoor.Vi
open Go.RowKit Base Mem Go.Shelf
def FrRead (l : List UInt8) (w : World) (e : Ending) (w' : World) : Prop := match readF l with
  | none => e = .returned (.tuple #[.slice none 0 0, .int .i64 0, .bool false]) ∧ Below w.heap.size w w'
  | some (x, n) => ∃ A c, e = .returned (.tuple #[.slice A x.length c, .int .i64 n, .bool true]) ∧ (∀ M, (∀ g ∈ M, g < w.heap.size) → Bs w' M (.slice A x.length c) x) ∧ Below w.heap.size w w'
theorem u32_or_shift (a b k : Nat) (ha : a < 2 ^ k) (hk : k ≤ 24) (hb : b < 256) : bits .or .u32 (a : Int) ((b * 2 ^ k : Nat) : Int) = ((a + b * 2 ^ k : Nat) : Int) := by
  have hp : 2 ^ k ≤ 2 ^ 24 := Nat.pow_le_pow_right (by omega) hk
  have hb2 : b * 2 ^ k ≤ 255 * 2 ^ 24 := Nat.mul_le_mul (by omega) hp
  have hlt : a + b * 2 ^ k < 4294967296 := by omega
  show IntKind.u32.wrap ((BitVec.ofInt 32 (a : Int) ||| BitVec.ofInt 32 ((b * 2 ^ k : Nat) : Int)).toNat : Int) = _
  rw [BitVec.toNat_or, BitVec.ofInt_natCast, BitVec.ofInt_natCast, BitVec.toNat_ofNat, BitVec.toNat_ofNat, Nat.mod_eq_of_lt (by omega), Nat.mod_eq_of_lt (by omega), Nat.or_comm, nat_join k (b * 2 ^ k) a (Nat.mul_mod_left _ _) ha, IntKind.wrap_u32]
  omega
set_option maxRecDepth 100000 in
set_option maxHeartbeats 1000000 in
theorem framer_any (v : Value) (l : List UInt8) (w : World) (h : Bs w [] v l) (hl : l.length ≤ 4611686018427387000) :
    Calls Tryd.prog 66 #[v] w fun e w' => FrRead l w e w' := by
  have hg := Lib.hid (get_any v l w h (by omega))
  obtain ⟨A, c, rfl, hc⟩ := h.len
  have H := Lib.hid h
  obtain ⟨hk, hn⟩ := getL_le l
  have HC := Lib.hid (show readF l = (if (getL l).2 = 0 ∨ 65536 < (getL l).1 ∨ l.length < (getL l).2 + 4 + (getL l).1 then none
    else if crcOf ((l.drop ((getL l).2 + 4)).take (getL l).1) = unL (l.drop (getL l).2) then some ((l.drop ((getL l).2 + 4)).take (getL l).1, (getL l).2 + 4 + (getL l).1) else none) from rfl)
  have hnone : Hid (∀ q, readF l = none → FrRead l w (.returned (.tuple #[.slice none 0 0, .int .i64 0, .bool false])) (w.drewN q)) := fun q h => by
    unfold FrRead; rw [h]; exact ⟨rfl, ((Keeps.refl [] w).drewN q).below⟩
  clear h
  generalize (getL l).1 = n at *
  generalize (getL l).2 = k at *
  by_cases hk0 : k = 0
  · have hR := Lib.hid (fun q => hnone.out q (by rw [HC.out, if_pos (.inl hk0)]))
    subst hk0
    clear HC hnone
    go_enter Tryd.func66, Tryd.ntmps66
    go_wp2_with fail
    refine hg.out.mono ?_
    rintro e w1 ⟨rfl, q, rfl⟩
    go_wp2
    go_ret3
    exact hR.out q
  · have hkz : ((k : Int) == 0) = false := by simpa using hk0
    by_cases hn6 : 65536 < n
    · have hR := Lib.hid (fun q => hnone.out q (by rw [HC.out, if_pos (.inr (.inl hn6))]))
      have hni : (65536 : Int) < (n : Int) := by omega
      clear HC hnone
      go_enter Tryd.func66, Tryd.ntmps66
      go_wp2_with fail
      refine hg.out.mono ?_
      rintro e w1 ⟨rfl, q, rfl⟩
      go_wp2
      go_ret3
      exact hR.out q
    · have hni : decide ((65536 : Int) < (n : Int)) = false := decide_eq_false (by omega)
      have hwn : IntKind.i64.wrap (n : Int) = (n : Int) := by rw [IntKind.wrap_i64]; omega
      have hwk : IntKind.i64.wrap ((k : Int) + 4) = (k : Int) + 4 := by rw [IntKind.wrap_i64]; omega
      have hwkn : IntKind.i64.wrap ((k : Int) + 4 + (n : Int)) = (k : Int) + 4 + (n : Int) := by rw [IntKind.wrap_i64]; omega
      by_cases hlen : l.length < k + 4 + n
      · have hR := Lib.hid (fun q => hnone.out q (by rw [HC.out, if_pos (.inr (.inr hlen))]))
        have hli : (l.length : Int) < (k : Int) + 4 + (n : Int) := by omega
        clear HC hnone
        go_enter Tryd.func66, Tryd.ntmps66
        go_wp2_with fail
        refine hg.out.mono ?_
        rintro e w1 ⟨rfl, q, rfl⟩
        go_wp2
        go_ret3
        exact hR.out q
      · have hli : decide ((l.length : Int) < (k : Int) + 4 + (n : Int)) = false := decide_eq_false (by omega)
        have HT : Hid (readF l = if crcOf ((l.drop (k + 4)).take n) = unL (l.drop k) then some ((l.drop (k + 4)).take n, k + 4 + n) else none) := by
          show _ = _; rw [HC.out, if_neg (by omega)]
        obtain ⟨g, off, rfl⟩ := H.out.some_ (by omega)
        have hcell : ∀ j, (hj : j < l.length) → w.cell? ⟨g, off + j, none⟩ = some (.int .u8 (l[j]'hj).toNat) := fun j hj => by
          obtain ⟨A', c', e2, _, _, hr⟩ := H.out
          injection e2 with e2 _ _
          subst e2
          obtain ⟨g', off', e3, _, _, hx⟩ := hr (by omega)
          injection e3 with e3
          injection e3 with e3 e4 _
          subst e3 e4
          exact hx j _ (by rw [List.getElem?_map, List.getElem?_eq_getElem hj]; rfl)
        have hcg : g < w.heap.size := World.block_lt_of_cell? w _ (hcell 0 (by omega))
        have k0 := hcell k (by omega)
        have k1 := hcell (k + 1) (by omega)
        have k2 := hcell (k + 2) (by omega)
        have k3 := hcell (k + 3) (by omega)
        have hun : unL (l.drop k) = l[k].toNat + 256 * l[k + 1].toNat + 65536 * l[k + 2].toNat + 16777216 * l[k + 3].toNat := by
          unfold unL
          simp only [List.getD_eq_getElem?_getD, List.getElem?_drop, Nat.add_zero]
          rw [List.getElem?_eq_getElem (by omega), List.getElem?_eq_getElem (by omega), List.getElem?_eq_getElem (by omega), List.getElem?_eq_getElem (by omega)]
          rfl
        rw [hun] at HT
        have b0 := l[k].toNat_lt; have b1 := l[k + 1].toNat_lt; have b2 := l[k + 2].toNat_lt; have b3 := l[k + 3].toNat_lt
        generalize l[k].toNat = x0 at *
        generalize l[k + 1].toNat = x1 at *
        generalize l[k + 2].toNat = x2 at *
        generalize l[k + 3].toNat = x3 at *
        clear hcell hun HC hnone
        have Hk0 := Lib.hid k0; have Hk1 := Lib.hid k1; have Hk2 := Lib.hid k2; have Hk3 := Lib.hid k3
        clear k0 k1 k2 k3
        go_enter Tryd.func66, Tryd.ntmps66
        go_wp2_with fail
        refine hg.out.mono ?_
        rintro e w1 ⟨rfl, q, rfl⟩
        go_wp2_with fail
        go_loopw [7, 32] (fun s i wr => ∃ (x p : Nat), i = .int .i64 x ∧ x ≤ 4 ∧ s = .int .u32 p ∧ Hid ((x = 0 → p = 0) ∧ (x = 1 → p = x0) ∧ (x = 2 → p = x0 + x1 * 2 ^ 8) ∧ (x = 3 → p = x0 + x1 * 2 ^ 8 + x2 * 2 ^ 16) ∧ (x = 4 → p = x0 + x1 * 2 ^ 8 + x2 * 2 ^ 16 + x3 * 2 ^ 24)) ∧ wr = w.drewN q) (fun _ i _ => 4 - (intOf i).toNat)
        case atStart => exact ⟨0, 0, rfl, by omega, rfl, ⟨by omega, by omega, by omega, by omega, by omega⟩, rfl⟩
        case round =>
          obtain ⟨x, p, rfl, hx, rfl, Hp, rfl⟩ := hrel
          rcases (show x = 0 ∨ x = 1 ∨ x = 2 ∨ x = 3 ∨ x = 4 by omega) with rfl | rfl | rfl | rfl | rfl
          · have Hpv := Lib.hid (Hp.out.1 rfl)
            have c0 := Hk0.out
            have Hor : Hid (bits .or .u32 (p : Int) (x0 : Int) = ((p + x0 * 2 ^ 0 : Nat) : Int)) := by
              have := u32_or_shift p x0 0 (by have := Hpv.out; omega) (by omega) b0
              rw [show ((x0 * 2 ^ 0 : Nat) : Int) = (x0 : Int) by omega] at this
              exact this
            go_wp2_with fail
            exact ⟨⟨1, p + x0 * 2 ^ 0, by go_num, by omega, by first | rw [Hor.out] | (rw [← Hor.out]), ⟨by omega, fun _ => by have := Hpv.out; omega, by omega, by omega, by omega⟩, by first | trivial | rfl⟩, by simp [intOf]⟩
          · have Hpv := Lib.hid (Hp.out.2.1 rfl)
            have c0 := Hk1.out
            have Hor : Hid (bits .or .u32 (p : Int) ((x1 : Int) * 256) = ((p + x1 * 2 ^ 8 : Nat) : Int)) := by
              have := u32_or_shift p x1 8 (by have := Hpv.out; omega) (by omega) b1
              rw [show ((x1 * 2 ^ 8 : Nat) : Int) = ((x1 : Int) * 256) by omega] at this
              exact this
            go_wp2_with fail
            exact ⟨⟨2, p + x1 * 2 ^ 8, by go_num, by omega, by first | rw [Hor.out] | (rw [← Hor.out]), ⟨by omega, by omega, fun _ => by have := Hpv.out; omega, by omega, by omega⟩, by first | trivial | rfl⟩, by simp [intOf]⟩
          · have Hpv := Lib.hid (Hp.out.2.2.1 rfl)
            have c0 := Hk2.out
            have Hor : Hid (bits .or .u32 (p : Int) ((x2 : Int) * 65536) = ((p + x2 * 2 ^ 16 : Nat) : Int)) := by
              have := u32_or_shift p x2 16 (by have := Hpv.out; omega) (by omega) b2
              rw [show ((x2 * 2 ^ 16 : Nat) : Int) = ((x2 : Int) * 65536) by omega] at this
              exact this
            go_wp2_with fail
            exact ⟨⟨3, p + x2 * 2 ^ 16, by go_num, by omega, by first | rw [Hor.out] | (rw [← Hor.out]), ⟨by omega, by omega, by omega, fun _ => by have := Hpv.out; omega, by omega⟩, by first | trivial | rfl⟩, by simp [intOf]⟩
          · have Hpv := Lib.hid (Hp.out.2.2.2.1 rfl)
            have c0 := Hk3.out
            have Hor : Hid (bits .or .u32 (p : Int) ((x3 : Int) * 16777216) = ((p + x3 * 2 ^ 24 : Nat) : Int)) := by
              have := u32_or_shift p x3 24 (by have := Hpv.out; omega) (by omega) b3
              rw [show ((x3 * 2 ^ 24 : Nat) : Int) = ((x3 : Int) * 16777216) by omega] at this
              exact this
            go_wp2_with fail
            exact ⟨⟨4, p + x3 * 2 ^ 24, by go_num, by omega, by first | rw [Hor.out] | (rw [← Hor.out]), ⟨by omega, by omega, by omega, by omega, fun _ => by have := Hpv.out; omega⟩, by first | trivial | rfl⟩, by simp [intOf]⟩
          · have Hpv : Hid (p = x0 + 256 * x1 + 65536 * x2 + 16777216 * x3) := by have := Hp.out.2.2.2.2 rfl; show _ = _; omega
            have HX : Hid (readF l = if crcOf ((l.drop (k + 4)).take n) = p then some ((l.drop (k + 4)).take n, k + 4 + n) else none) := by show _ = _; rw [HT.out, Hpv.out]
            have hxl : ((l.drop (k + 4)).take n).length = n := by rw [List.length_take, List.length_drop]; omega
            have hki : (k : Int) + 4 ≤ (k : Int) + 4 + (n : Int) := by omega
            have hkc : (k : Int) + 4 + (n : Int) ≤ (c : Int) := by omega
            have hHq := H.out.keep (M' := []) ((Keeps.refl [] w).drewN q) (by simp)
            have hend : Hid (∀ (v' : Value) (W w' : World), W = w.drewN q → w'.ownsRow W.heap.size 5 1 v' n (((l.drop (k + 4)).take n).map bV) → Below W.heap.size W w' → ∃ A' c', v' = .slice A' n c' ∧ Calls Tryd.prog 62 #[v'] w' (fun e w'' => e = .returned (.int .u32 (crcOf ((l.drop (k + 4)).take n))) ∧ w' = w'') ∧ (crcOf ((l.drop (k + 4)).take n) = p → FrRead l w (.returned (.tuple #[v', .int .i64 ((k : Int) + 4 + (n : Int)), .bool true])) w') ∧ (¬ crcOf ((l.drop (k + 4)).take n) = p → FrRead l w (.returned (.tuple #[.slice none 0 0, .int .i64 0, .bool false])) w')) := by
              rintro v' W w' rfl hown hb
              have hB : ∀ M, (∀ g ∈ M, g < w.heap.size) → Bs w' M v' ((l.drop (k + 4)).take n) := fun M hM => by
                unfold Bs
                rw [hxl]
                exact Rd.of_own hown hM
              have hbw : Below w.heap.size w w' := ⟨hb.os, hb.tape, hb.output, hb.size, hb.block⟩
              obtain ⟨A', c', e, _⟩ := (hB [] (by simp)).len
              rw [hxl] at e
              refine ⟨A', c', e, crcof_any v' _ w' (hB [] (by simp)) (by omega), fun h => ?_, fun h => ?_⟩
              · unfold FrRead
                rw [HX.out, if_pos h]
                refine ⟨A', c', ?_, ?_, hbw⟩
                · rw [hxl, e, Int.natCast_add, Int.natCast_add]; rfl
                · rw [hxl, ← e]; exact hB
              · unfold FrRead
                rw [HX.out, if_neg h]
                exact ⟨rfl, hbw⟩
            clear Hk0 Hk1 Hk2 Hk3 Hp HT HX Hpv
            by_cases hck : c = k + 4
            · obtain rfl : n = 0 := by omega
              have hcl := Lib.hid (cloneU8 [] (.slice (some ⟨g, off, none⟩) 0 0) 0 [] (w.drewN q) ⟨_, 0, rfl, Nat.le_refl _, rfl, fun h => absurd h (by omega)⟩ (by simp) (by omega))
              rw [List.take_zero, List.map_nil] at hend
              generalize crcOf ([] : List UInt8) = cx at *
              go_wp2_with fail
              refine hcl.out.mono ?_
              rintro e w2 ⟨v', rfl, hown, hb⟩
              obtain ⟨A', c', rfl, hcr, hy, hno⟩ := hend.out v' _ w2 rfl hown hb
              have Hcr := Lib.hid hcr; have Hy := Lib.hid hy; have Hno := Lib.hid hno
              clear hown hb hcl hcr hy hno hend
              go_wp2_with fail
              refine Hcr.out.mono ?_
              rintro e w3 ⟨rfl, rfl⟩
              by_cases hcp : cx = p
              · have hne : ((cx : Int) != (p : Int)) = false := by simp [hcp]
                have hp := Lib.hid (Hy.out hcp)
                clear hcp Hy Hno
                go_wp2
                go_ret3
                exact hp.out
              · have hne : ((cx : Int) != (p : Int)) = true := by simp; omega
                have hp := Lib.hid (Hno.out hcp)
                clear hcp Hy Hno
                go_wp2
                go_ret3
                exact hp.out
            · have hpt := hHq.part (k + 4) n (by omega) (c - (k + 4)) (by omega) (some ⟨g, off + (k + 4), none⟩) (fun _ => rfl)
              unfold Bs at hpt
              rw [hxl] at hpt
              have hcl := Lib.hid (cloneU8 [] _ n _ (w.drewN q) hpt (bV_one _) (by omega))
              generalize (l.drop (k + 4)).take n = xs at *
              generalize crcOf xs = cx at *
              clear hpt hHq
              go_wp2_with fail
              refine hcl.out.mono ?_
              rintro e w2 ⟨v', rfl, hown, hb⟩
              obtain ⟨A', c', rfl, hcr, hy, hno⟩ := hend.out v' _ w2 rfl hown hb
              have Hcr := Lib.hid hcr; have Hy := Lib.hid hy; have Hno := Lib.hid hno
              clear hown hb hcl hcr hy hno hend
              go_wp2_with fail
              refine Hcr.out.mono ?_
              rintro e w3 ⟨rfl, rfl⟩
              by_cases hcp : cx = p
              · have hne : ((cx : Int) != (p : Int)) = false := by simp [hcp]
                have hp := Lib.hid (Hy.out hcp)
                clear hcp Hy Hno
                go_wp2
                go_ret3
                exact hp.out
              · have hne : ((cx : Int) != (p : Int)) = true := by simp; omega
                have hp := Lib.hid (Hno.out hcp)
                clear hcp Hy Hno
                go_wp2
                go_ret3
                exact hp.out
end Go.Proofs.YtinnifhnabncfaaDoor.Vi
end
/- Contract of mail.Read. -/
section
namespace Go.Proofs.YtinnifhnabncfaaDoor.Vi
open Go.RowKit Base Mem Go.Shelf
def mReadS (l : List UInt8) : MsgD × Nat :=
  match readF l with
  | none => (zeroM, 12)
  | some (x, n) => if n ≠ l.length then (zeroM, 12) else
    if (mreadS (byteS x false).1.toNat (byteS x false).2.1 (byteS x false).2.2).2.1 = true ∧ (!(mreadS (byteS x false).1.toNat (byteS x false).2.1 (byteS x false).2.2).2.2.2 && (mreadS (byteS x false).1.toNat (byteS x false).2.1 (byteS x false).2.2).2.2.1.isEmpty) = true ∧ mrightS (mreadS (byteS x false).1.toNat (byteS x false).2.1 (byteS x false).2.2).1 = 0
      then ((mreadS (byteS x false).1.toNat (byteS x false).2.1 (byteS x false).2.2).1, 0) else (zeroM, 12)
theorem readF_len {l x : List UInt8} {n : Nat} (h : readF l = some (x, n)) : x.length ≤ 65536 := by
  unfold readF at h
  split at h
  · cases h
  · rename_i hc
    split at h
    · injection h with h; injection h with h1 h2
      rw [← h1, List.length_take]
      omega
    · cases h
theorem short_zero : Short zeroD := ⟨by show (0 : Nat) < _; omega, by simp [zeroD], by simp [zeroD]⟩
theorem readE_short (l : List UInt8) (h : l.length < 4294967281) : Short (readE l).1 := by
  unfold readE
  split
  · exact (readH_short l h).1
  · exact short_zero
theorem getEs_short : ∀ (k : Nat) (l : List UInt8) (b : Bool), l.length < 4294967281 → ∀ es, (getEs k l b).1 = some es → es.length = k ∧ ∀ e ∈ es, Short e
  | 0, l, b, _, es, h => by
    injection h with h; subst h; simp
  | k + 1, l, b, hl, es, h => by
    have ht := textS_len l b
    unfold getEs at h
    split at h
    · cases h
    · have ih := getEs_short k (textS l b).2.1 (textS l b).2.2 (by omega)
      generalize getEs k (textS l b).2.1 (textS l b).2.2 = G at *
      obtain ⟨_ | fs, s⟩ := G
      · cases h
      · simp only [preE] at h
        injection h with h; subst h
        obtain ⟨h1, h2⟩ := ih fs rfl
        refine ⟨by simp [h1], fun e he => ?_⟩
        rcases List.mem_append.1 he with he | he
        · simp at he; subst he; exact readE_short _ (by omega)
        · exact h2 e he
theorem mgetS_short (l : List UInt8) (b : Bool) (hl : l.length < 4294967281) : ((mgetS l b).1.getD []).length ≤ 128 ∧ ∀ e ∈ (mgetS l b).1.getD [], Short e := by
  have h1 := countS_len l b 128
  have h2 := countS_most l b 128
  have h := getEs_short (countS l b 128).1 (countS l b 128).2.1 (countS l b 128).2.2 (by omega)
  unfold mgetS
  generalize getEs (countS l b 128).1 (countS l b 128).2.1 (countS l b 128).2.2 = G at *
  obtain ⟨_ | es, s⟩ := G
  · simp
  · obtain ⟨h3, h4⟩ := h es rfl
    exact ⟨by show es.length ≤ 128; omega, h4⟩
theorem mreadS_short (k : Nat) (l : List UInt8) (b : Bool) (hl : l.length < 4294967281) : MShort (mreadS k l b).1 := by
  have ht := textS_len l b
  have hi := intS_len l b
  unfold mreadS
  split
  · exact ⟨readE_short _ (by omega), by simp, by simp⟩
  split
  · exact ⟨short_zero, by simp, by simp⟩
  split
  · have h2 := intS_len (intS l b).2.1 (intS l b).2.2
    have := mgetS_short (intS (intS l b).2.1 (intS l b).2.2).2.1 (intS (intS l b).2.1 (intS l b).2.2).2.2 (by omega)
    exact ⟨short_zero, Nat.le_trans this.1 (by omega), this.2⟩
  split
  · have h2 := countS_len (intS l b).2.1 (intS l b).2.2 128
    have := mgetS_short (countS (intS l b).2.1 (intS l b).2.2 128).2.1 (countS (intS l b).2.1 (intS l b).2.2 128).2.2 (by omega)
    exact ⟨short_zero, Nat.le_trans this.1 (by omega), this.2⟩
  split
  · exact ⟨short_zero, by simp, by simp⟩
  · exact ⟨short_zero, by simp, by simp⟩
def MReadP (R : MsgD × Nat) (w : World) (e : Ending) (w' : World) : Prop := ∃ dv lv, e = .returned (.tuple #[.agg (mCell R.1 dv lv).toArray, .int .i64 R.2]) ∧ (∀ M, (∀ g ∈ M, g < w.heap.size) → MsgAt w' M R.1 dv lv) ∧ Below w.heap.size w w'
theorem mbad {R : MsgD × Nat} {w w1 wz : World} {g0 : Nat} (hR : R = (zeroM, 12)) (hk : Keeps [] w w1) (hz : Keeps [g0] w1 wz) (hg : g0 = w.heap.size) : MReadP R w (.returned (.tuple #[.agg #[.int .i64 0, .int .i64 0, .int .i64 0, .int .i64 0, .int .i64 0, .int .i64 0, .slice none 0 0, .string ⟨#[]⟩, .int .i64 0, .int .i64 0, .int .i64 0, .int .i64 0, .int .u64 0, .int .i64 0, .int .i64 0, .slice none 0 0, .int .i64 0, .int .i64 0], .int .i64 12])) wz := by
  subst hR
  exact ⟨.slice none 0 0, .slice none 0 0, rfl, fun M _ => ⟨Ds.nil _ _, Ens.nil _ _⟩, (hk.trans hz (by intro x hx; simp at hx; right; omega) : Keeps [] w wz).below⟩
set_option maxRecDepth 100000 in
set_option maxHeartbeats 1000000 in
theorem mRead_any (v : Value) (l : List UInt8) (mx : Int) (w : World) (h : Bs w [] v l) (hl : l.length ≤ 4611686018427387000) (hm : w.cell? ⟨0, 0, none⟩ = some (.int .i64 mx)) :
    Calls Tryd.prog 49 #[v] w fun e w' => MReadP (mReadS l) w e w' := by
  have hw0 : 0 < w.heap.size := by
    have := World.block_lt_of_cell? w _ hm
    simpa using this
  have hkeepm : Hid (∀ W, Keeps [] w W → W.cell? ⟨0, 0, none⟩ = some (.int .i64 mx)) := fun W hb => (hb.cell (p := ⟨0, 0, none⟩) hw0 (by simp)).trans hm
  have hfl := fun x n (h : readF l = some (x, n)) => readF_len h
  have HR : Hid (mReadS l = match readF l with
    | none => (zeroM, 12)
    | some (x, n) => if n ≠ l.length then (zeroM, 12) else
      if (mreadS (byteS x false).1.toNat (byteS x false).2.1 (byteS x false).2.2).2.1 = true ∧ (!(mreadS (byteS x false).1.toNat (byteS x false).2.1 (byteS x false).2.2).2.2.2 && (mreadS (byteS x false).1.toNat (byteS x false).2.1 (byteS x false).2.2).2.2.1.isEmpty) = true ∧ mrightS (mreadS (byteS x false).1.toNat (byteS x false).2.1 (byteS x false).2.2).1 = 0
        then ((mreadS (byteS x false).1.toNat (byteS x false).2.1 (byteS x false).2.2).1, 0) else (zeroM, 12)) := rfl
  obtain ⟨A, c, rfl, hc⟩ := h.len
  have H := Lib.hid h
  have hfr := Lib.hid (fun W (hk : Keeps [] w W) => framer_any _ l W (H.out.keep hk (by simp)) hl)
  generalize mReadS l = R at *
  clear h hm
  go_enter Tryd.func49, Tryd.ntmps49
  go_upto_region 1 with (fail)
  obtain ⟨w1, hw1⟩ : ∃ w1, w1 = w.alloc (.cells #[.int .i64 0, .int .i64 0, .int .i64 0, .int .i64 0, .int .i64 0, .int .i64 0, .slice none 0 0, .string ⟨#[]⟩, .int .i64 0, .int .i64 0, .int .i64 0, .int .i64 0, .int .u64 0, .int .i64 0, .int .i64 0, .slice none 0 0, .int .i64 0, .int .i64 0] 53) := ⟨_, rfl⟩
  rw [← hw1]
  have hK1 : Keeps [] w w1 := by rw [hw1]; exact (Keeps.refl _ _).alloc _
  have hB1 : Blk w1 w.heap.size 53 zeroR := by rw [hw1]; exact Blk.new w _ _
  obtain ⟨g0, hg0⟩ : ∃ g0, g0 = w.heap.size := ⟨_, rfl⟩
  rw [← hg0] at hB1 ⊢
  have hg1 : g0 < w1.heap.size := hB1.lt
  have hF := Lib.hid (hfr.out w1 hK1)
  have HK1 := Lib.hid hK1; have HB1 := Lib.hid hB1; have Hg0 := Lib.hid hg0
  clear hw1 hK1 hB1 hg0 hfr
  go_wp2_with fail
  simp only [FrRead] at hF
  generalize readF l = f at *
  cases f with
  | none =>
    simp only [] at HR hF
    refine hF.out.mono ?_
    rintro e w2 ⟨rfl, hb⟩
    have HB2 := Lib.hid (HB1.out.below hb hg1)
    have HK2 := Lib.hid (HK1.out.trans (Keeps.of_below (M := []) hb) (by simp))
    clear hb HB1 HK1 hF
    go_wp2_with (refine wpList_store_blk rfl 53 (.tmp 2) (.tmp 24) rfl g0 0 53 zeroR #[.int .i64 0, .int .i64 0, .int .i64 0, .int .i64 0, .int .i64 0, .int .i64 0, .slice none 0 0, .string ⟨#[]⟩, .int .i64 0, .int .i64 0, .int .i64 0, .int .i64 0, .int .u64 0, .int .i64 0, .int .i64 0, .slice none 0 0, .int .i64 0, .int .i64 0] #[.int .i64 0, .int .i64 0, .int .i64 0, .int .i64 0, .int .i64 0, .int .i64 0, .slice none 0 0, .string ⟨#[]⟩, .int .i64 0, .int .i64 0, .int .i64 0, .int .i64 0, .int .u64 0, .int .i64 0, .int .i64 0, .slice none 0 0, .int .i64 0, .int .i64 0] rfl rfl HB2.out (by show 0 + 18 ≤ 18; omega) rfl (by kernel_rfl) rfl ?_; intro wz hkz hBz; have Hkz := Lib.hid hkz; have HBz := Lib.hid hBz; clear hkz hBz)
    refine bodyPost_ret (results_cell2 rfl _ _ g0 53 #[.int .i64 0, .int .i64 0, .int .i64 0, .int .i64 0, .int .i64 0, .int .i64 0, .slice none 0 0, .string ⟨#[]⟩, .int .i64 0, .int .i64 0, .int .i64 0, .int .i64 0, .int .u64 0, .int .i64 0, .int .i64 0, .slice none 0 0, .int .i64 0, .int .i64 0] _ rfl HBz.out Tryd.underlying53 rfl (by kernel_rfl)) rfl ?_
    exact mbad (by rw [HR.out]) HK2.out Hkz.out Hg0.out
  | some xn =>
    obtain ⟨x, n⟩ := xn
    have hxl := hfl x n rfl
    simp only [] at HR hF
    refine hF.out.mono ?_
    rintro e w2 ⟨A2, c2, rfl, hS2, hb⟩
    have HB2 := Lib.hid (HB1.out.below hb hg1)
    have HK2 := Lib.hid (HK1.out.trans (Keeps.of_below (M := []) hb) (by simp))
    have HS2 := Lib.hid (hS2 [g0] (by intro x hx; simp at hx; omega))
    clear hb HB1 HK1 hF hS2 hfl
    by_cases hn : n = l.length
    · subst hn
      have HR2 : Hid (R = _) := HR.out.trans (if_neg (by simp))
      clear HR
      have hby := byteS_len x false
      go_wp2_with fail
      refine (new_any [g0] _ x w2 HS2.out (by omega)).mono ?_
      rintro e w3 ⟨rfl, hA3, hb3⟩
      have hg2 := HB2.out.lt
      have HB3 := Lib.hid (HB2.out.below hb3 hg2)
      have HK3 := Lib.hid (HK2.out.trans (Keeps.of_below (M := []) hb3) (by simp))
      have hpw := HK2.out.size
      have hby2 := Lib.hid (byte_any [g0] w2.heap.size x false w3 hA3)
      generalize w2.heap.size = p at *
      clear hA3 hb3 HB2 HK2 HS2
      generalize byteS x false = y at *
      obtain ⟨y1, y2, y3⟩ := y
      simp only [] at HR2 hby hby2
      go_wp2_with fail
      refine hby2.out.mono ?_
      rintro e w4 ⟨rfl, hA4, hk4⟩
      have HB4 := Lib.hid (hk4.blk HB3.out (by simp; omega))
      have HK4 : Hid (Keeps [] w w4) := HK3.out.trans hk4 (by intro q hq; simp at hq; right; omega)
      have hsh := mreadS_short y1.toNat y2 y3 (by omega)
      have hmr := Lib.hid (mread_any y1.toNat p y2 y3 mx w4 (hA4.avoid (by simp)) (by omega) (hkeepm.out w4 HK4.out) (by omega))
      clear hA4 hk4 hby2 HB3 HK3
      simp only [bV]
      have hk256 := UInt8.toNat_lt y1
      generalize y1.toNat = k at *
      have hwk : IntKind.i64.wrap (k : Int) = (k : Int) := by rw [IntKind.wrap_i64]; omega
      generalize mreadS k y2 y3 = r at *
      obtain ⟨m, okb, z2, z3⟩ := r
      simp only [] at HR2 hsh
      go_wp2_with fail
      refine hmr.out.mono ?_
      rintro e w5 ⟨dv, lv, rfl, hM, hA5, hk5⟩
      simp only [] at hM hA5
      have hri := Lib.hid (fun W (hk : Keeps [] w5 W) (hkw : Keeps [] w W) => mright_any m dv lv mx W ((hM [] (by simp)).keep hk (by simp)) hsh (hkeepm.out W hkw))
      have HB5 := Lib.hid (hk5.blk HB4.out (by simp; omega))
      have HK5 : Hid (Keeps [] w w5) := HK4.out.trans hk5 (by intro q hq; simp at hq; right; omega)
      have h45 := hk5.size; have h04 := HK4.out.size; have h44 := HB4.out.lt
      obtain ⟨Aa, na, rfl, _⟩ := (hM [] (by simp)).1.len
      obtain ⟨Ba, ka, rfl, _⟩ := (hM [] (by simp)).2.len
      have HM5 := Lib.hid hM; have HA5 := Lib.hid hA5
      clear hM hA5 hk5 hmr HB4 HK4 hsh
      generalize mrightS m = mr at *
      have Hfin : Hid (∀ wz, Keeps [g0] w5 wz → MReadP (m, 0) w (.returned (.tuple #[.agg (mCell m (.slice Aa m.en.ds.length na) (.slice Ba m.log.length ka)).toArray, .int .i64 0])) wz) := fun wz hk =>
        ⟨_, _, rfl, fun M hM => ((HM5.out (g0 :: M) (by intro q hq; have := Hg0.out; rcases List.mem_cons.1 hq with rfl | hq; omega; have := hM q hq; omega)).keep hk (by simp)).avoid (fun q hq => .inl (List.mem_cons_of_mem _ hq)), (HK5.out.trans hk (by intro q hq; simp at hq; right; have := Hg0.out; omega) : Keeps [] w wz).below⟩
      clear HM5
      obtain ⟨kd, ⟨kind, ag, sh, seq, ep, ds, ser, fr, etg⟩, tag, code, nn, term, had, log, commit, len⟩ := m
      simp only [mCell, eCell, List.cons_append, List.nil_append] at hri Hfin ⊢
      cases okb with
      | false =>
        go_wp2_with (first | (refine wpList_store_blk rfl 53 (.tmp 8) (.tmp 33) rfl w5.heap.size 0 53 _ #[.int .i64 kd, .int .i64 kind, .int .i64 ag, .int .i64 sh, .int .i64 seq, .int .i64 ep, .slice Aa ds.length na, .string ser, .int .i64 fr, .int .i64 etg, .int .i64 tag, .int .i64 code, .int .u64 nn, .int .i64 term, .int .i64 had, .slice Ba log.length ka, .int .i64 commit, .int .i64 len] #[.int .i64 kd, .int .i64 kind, .int .i64 ag, .int .i64 sh, .int .i64 seq, .int .i64 ep, .slice Aa ds.length na, .string ser, .int .i64 fr, .int .i64 etg, .int .i64 tag, .int .i64 code, .int .u64 nn, .int .i64 term, .int .i64 had, .slice Ba log.length ka, .int .i64 commit, .int .i64 len] rfl rfl (Blk.new _ _ _) (by show 0 + 18 ≤ 18; omega) rfl (by kernel_rfl) rfl ?_; intro w6 hk6 hB6; have hkk : Keeps [] w5 w6 := ((Keeps.refl _ _).alloc _).trans hk6 (by intro q hq; simp at hq; right; omega); have HK6 := Lib.hid (HK5.out.trans hkk (by simp)); have HB6 := Lib.hid (hkk.blk HB5.out (by simp)); have HB8 := Lib.hid hB6; have Hkk := Lib.hid hkk; clear hk6 hB6) | (refine wpList_store_blk rfl 53 (.tmp 2) (.tmp 47) rfl g0 0 53 zeroR #[.int .i64 0, .int .i64 0, .int .i64 0, .int .i64 0, .int .i64 0, .int .i64 0, .slice none 0 0, .string ⟨#[]⟩, .int .i64 0, .int .i64 0, .int .i64 0, .int .i64 0, .int .u64 0, .int .i64 0, .int .i64 0, .slice none 0 0, .int .i64 0, .int .i64 0] #[.int .i64 0, .int .i64 0, .int .i64 0, .int .i64 0, .int .i64 0, .int .i64 0, .slice none 0 0, .string ⟨#[]⟩, .int .i64 0, .int .i64 0, .int .i64 0, .int .i64 0, .int .u64 0, .int .i64 0, .int .i64 0, .slice none 0 0, .int .i64 0, .int .i64 0] rfl rfl HB6.out (by show 0 + 18 ≤ 18; omega) rfl (by kernel_rfl) rfl ?_; intro wz hkz hBz; have Hkz := Lib.hid hkz; have HBz := Lib.hid hBz; clear hkz hBz))
        refine bodyPost_ret (results_cell2 rfl _ _ g0 53 #[.int .i64 0, .int .i64 0, .int .i64 0, .int .i64 0, .int .i64 0, .int .i64 0, .slice none 0 0, .string ⟨#[]⟩, .int .i64 0, .int .i64 0, .int .i64 0, .int .i64 0, .int .u64 0, .int .i64 0, .int .i64 0, .slice none 0 0, .int .i64 0, .int .i64 0] _ rfl HBz.out Tryd.underlying53 rfl (by kernel_rfl)) rfl ?_
        exact mbad (by rw [HR2.out, if_neg (by simp)]) HK6.out Hkz.out Hg0.out
      | true =>
        go_wp2_with (refine wpList_store_blk rfl 53 (.tmp 8) (.tmp 33) rfl w5.heap.size 0 53 _ #[.int .i64 kd, .int .i64 kind, .int .i64 ag, .int .i64 sh, .int .i64 seq, .int .i64 ep, .slice Aa ds.length na, .string ser, .int .i64 fr, .int .i64 etg, .int .i64 tag, .int .i64 code, .int .u64 nn, .int .i64 term, .int .i64 had, .slice Ba log.length ka, .int .i64 commit, .int .i64 len] #[.int .i64 kd, .int .i64 kind, .int .i64 ag, .int .i64 sh, .int .i64 seq, .int .i64 ep, .slice Aa ds.length na, .string ser, .int .i64 fr, .int .i64 etg, .int .i64 tag, .int .i64 code, .int .u64 nn, .int .i64 term, .int .i64 had, .slice Ba log.length ka, .int .i64 commit, .int .i64 len] rfl rfl (Blk.new _ _ _) (by show 0 + 18 ≤ 18; omega) rfl (by kernel_rfl) rfl ?_; intro w6 hk6 hB6; have hkk : Keeps [] w5 w6 := ((Keeps.refl _ _).alloc _).trans hk6 (by intro q hq; simp at hq; right; omega); have HK6 := Lib.hid (HK5.out.trans hkk (by simp)); have HB6 := Lib.hid (hkk.blk HB5.out (by simp)); have HB8 := Lib.hid hB6; have Hkk := Lib.hid hkk; clear hk6 hB6; have HA6 := Lib.hid ((HA5.out rfl).keep hkk (by simp) (by simp)))
        refine (done_any [] p z2 z3 w6 HA6.out).mono ?_
        rintro e w7 ⟨rfl, rfl⟩
        cases hd : (!z3 && z2.isEmpty) with
        | false =>
          go_wp2_with (refine wpList_store_blk rfl 53 (.tmp 2) (.tmp 47) rfl g0 0 53 zeroR #[.int .i64 0, .int .i64 0, .int .i64 0, .int .i64 0, .int .i64 0, .int .i64 0, .slice none 0 0, .string ⟨#[]⟩, .int .i64 0, .int .i64 0, .int .i64 0, .int .i64 0, .int .u64 0, .int .i64 0, .int .i64 0, .slice none 0 0, .int .i64 0, .int .i64 0] #[.int .i64 0, .int .i64 0, .int .i64 0, .int .i64 0, .int .i64 0, .int .i64 0, .slice none 0 0, .string ⟨#[]⟩, .int .i64 0, .int .i64 0, .int .i64 0, .int .i64 0, .int .u64 0, .int .i64 0, .int .i64 0, .slice none 0 0, .int .i64 0, .int .i64 0] rfl rfl HB6.out (by show 0 + 18 ≤ 18; omega) rfl (by kernel_rfl) rfl ?_; intro wz hkz hBz; have Hkz := Lib.hid hkz; have HBz := Lib.hid hBz; clear hkz hBz)
          refine bodyPost_ret (results_cell2 rfl _ _ g0 53 #[.int .i64 0, .int .i64 0, .int .i64 0, .int .i64 0, .int .i64 0, .int .i64 0, .slice none 0 0, .string ⟨#[]⟩, .int .i64 0, .int .i64 0, .int .i64 0, .int .i64 0, .int .u64 0, .int .i64 0, .int .i64 0, .slice none 0 0, .int .i64 0, .int .i64 0] _ rfl HBz.out Tryd.underlying53 rfl (by kernel_rfl)) rfl ?_
          exact mbad (by rw [HR2.out, if_neg (by simp [hd])]) HK6.out Hkz.out Hg0.out
        | true =>
          have hr6 := Lib.hid (hri.out w6 Hkk.out HK6.out)
          clear hri
          go_wp2_with (refine wpList_load_g rfl 53 (.tmp 8) rfl w5.heap.size 0 rfl _ _ (blk_range HB8.out) Tryd.underlying53 rfl (by kernel_rfl) ?_)
          refine hr6.out.mono ?_
          rintro e w7 ⟨rfl, hb7⟩
          have HK7 := Lib.hid (HK6.out.trans (Keeps.of_below (M := []) hb7) (by simp))
          have Hkk7 := Lib.hid (Hkk.out.trans (Keeps.of_below (M := []) hb7) (by simp))
          have HB7 := Lib.hid (HB6.out.below hb7 HB6.out.lt)
          have HB9 := Lib.hid (HB8.out.below hb7 HB8.out.lt)
          clear hb7 HK6 Hkk HB6 HB8 hr6
          by_cases hmz : mr = 0
          · subst hmz
            go_wp2_with (first | (refine wpList_load_mid rfl 53 (.tmp 8) rfl w5.heap.size 0 rfl _ _ (blk_range HB9.out) Tryd.underlying53 rfl (by kernel_rfl) ?_) | (refine wpList_store_blk rfl 53 (.tmp 2) (.tmp 48) rfl g0 0 53 zeroR #[.int .i64 kd, .int .i64 kind, .int .i64 ag, .int .i64 sh, .int .i64 seq, .int .i64 ep, .slice Aa ds.length na, .string ser, .int .i64 fr, .int .i64 etg, .int .i64 tag, .int .i64 code, .int .u64 nn, .int .i64 term, .int .i64 had, .slice Ba log.length ka, .int .i64 commit, .int .i64 len] #[.int .i64 kd, .int .i64 kind, .int .i64 ag, .int .i64 sh, .int .i64 seq, .int .i64 ep, .slice Aa ds.length na, .string ser, .int .i64 fr, .int .i64 etg, .int .i64 tag, .int .i64 code, .int .u64 nn, .int .i64 term, .int .i64 had, .slice Ba log.length ka, .int .i64 commit, .int .i64 len] rfl rfl HB7.out (by show 0 + 18 ≤ 18; omega) rfl (by kernel_rfl) rfl ?_; intro wz hkz hBz; have Hkz := Lib.hid hkz; have HBz := Lib.hid hBz; clear hkz hBz))
            refine bodyPost_ret (results_cell2 rfl _ _ g0 53 #[.int .i64 kd, .int .i64 kind, .int .i64 ag, .int .i64 sh, .int .i64 seq, .int .i64 ep, .slice Aa ds.length na, .string ser, .int .i64 fr, .int .i64 etg, .int .i64 tag, .int .i64 code, .int .u64 nn, .int .i64 term, .int .i64 had, .slice Ba log.length ka, .int .i64 commit, .int .i64 len] _ rfl HBz.out Tryd.underlying53 rfl (by kernel_rfl)) rfl ?_
            have := Hfin.out wz ((Hkk7.out.mono (by simp)).trans Hkz.out (by simp) : Keeps [g0] w5 wz)
            rw [HR2.out, if_pos (by simp [hd])]
            exact this
          · have hmn : ((mr : Int) != 0) = true := by simpa using hmz
            go_wp2_with (refine wpList_store_blk rfl 53 (.tmp 2) (.tmp 47) rfl g0 0 53 zeroR #[.int .i64 0, .int .i64 0, .int .i64 0, .int .i64 0, .int .i64 0, .int .i64 0, .slice none 0 0, .string ⟨#[]⟩, .int .i64 0, .int .i64 0, .int .i64 0, .int .i64 0, .int .u64 0, .int .i64 0, .int .i64 0, .slice none 0 0, .int .i64 0, .int .i64 0] #[.int .i64 0, .int .i64 0, .int .i64 0, .int .i64 0, .int .i64 0, .int .i64 0, .slice none 0 0, .string ⟨#[]⟩, .int .i64 0, .int .i64 0, .int .i64 0, .int .i64 0, .int .u64 0, .int .i64 0, .int .i64 0, .slice none 0 0, .int .i64 0, .int .i64 0] rfl rfl HB7.out (by show 0 + 18 ≤ 18; omega) rfl (by kernel_rfl) rfl ?_; intro wz hkz hBz; have Hkz := Lib.hid hkz; have HBz := Lib.hid hBz; clear hkz hBz)
            refine bodyPost_ret (results_cell2 rfl _ _ g0 53 #[.int .i64 0, .int .i64 0, .int .i64 0, .int .i64 0, .int .i64 0, .int .i64 0, .slice none 0 0, .string ⟨#[]⟩, .int .i64 0, .int .i64 0, .int .i64 0, .int .i64 0, .int .u64 0, .int .i64 0, .int .i64 0, .slice none 0 0, .int .i64 0, .int .i64 0] _ rfl HBz.out Tryd.underlying53 rfl (by kernel_rfl)) rfl ?_
            exact mbad (by rw [HR2.out, if_neg (by simp [hmz])]) HK7.out Hkz.out Hg0.out
    · have hnn : ((n : Int) != (l.length : Int)) = true := by simp; omega
      go_wp2_with (refine wpList_store_blk rfl 53 (.tmp 2) (.tmp 24) rfl g0 0 53 zeroR #[.int .i64 0, .int .i64 0, .int .i64 0, .int .i64 0, .int .i64 0, .int .i64 0, .slice none 0 0, .string ⟨#[]⟩, .int .i64 0, .int .i64 0, .int .i64 0, .int .i64 0, .int .u64 0, .int .i64 0, .int .i64 0, .slice none 0 0, .int .i64 0, .int .i64 0] #[.int .i64 0, .int .i64 0, .int .i64 0, .int .i64 0, .int .i64 0, .int .i64 0, .slice none 0 0, .string ⟨#[]⟩, .int .i64 0, .int .i64 0, .int .i64 0, .int .i64 0, .int .u64 0, .int .i64 0, .int .i64 0, .slice none 0 0, .int .i64 0, .int .i64 0] rfl rfl HB2.out (by show 0 + 18 ≤ 18; omega) rfl (by kernel_rfl) rfl ?_; intro wz hkz hBz; have Hkz := Lib.hid hkz; have HBz := Lib.hid hBz; clear hkz hBz)
      refine bodyPost_ret (results_cell2 rfl _ _ g0 53 #[.int .i64 0, .int .i64 0, .int .i64 0, .int .i64 0, .int .i64 0, .int .i64 0, .slice none 0 0, .string ⟨#[]⟩, .int .i64 0, .int .i64 0, .int .i64 0, .int .i64 0, .int .u64 0, .int .i64 0, .int .i64 0, .slice none 0 0, .int .i64 0, .int .i64 0] _ rfl HBz.out Tryd.underlying53 rfl (by kernel_rfl)) rfl ?_
      exact mbad (by rw [HR.out, if_pos hn]) HK2.out Hkz.out Hg0.out
end Go.Proofs.YtinnifhnabncfaaDoor.Vi
end
/- The plain law of mail: a message written is read as itself. -/
section
namespace Go.Proofs.YtinnifhnabncfaaDoor.Vi
open Go.RowKit Base Mem Tape Go.Shelf
theorem textS_blob {e : EntryD} (h : EOk e) (r : List UInt8) : textS (eBlob e ++ r) false = (bytesE e, r, false) := by
  have hb := bytesE_big h
  exact textS_put (bytesE e) r (by omega)
theorem getEs_put (r : List UInt8) : ∀ (es : List EntryD), (∀ e ∈ es, EOk e) → getEs es.length (es.flatMap eBlob ++ r) false = (some es, r, false)
  | [], _ => rfl
  | e :: es, h => by
    have he := h e (by simp)
    rw [List.length_cons, List.flatMap_cons, List.append_assoc, getEs, textS_blob he]
    rw [read_bytes e he.1 he.2.2 he.2.1]
    rw [if_neg (by simp)]
    rw [getEs_put r es (fun x hx => h x (List.mem_cons_of_mem _ hx))]
    rfl
theorem mgetS_put (r : List UInt8) (es : List EntryD) (h : ∀ e ∈ es, EOk e) (hl : es.length ≤ 128) : mgetS (putLog es ++ r) false = (some es, r, false) := by
  have hc : countS (putLog es ++ r) false 128 = (es.length, es.flatMap eBlob ++ r, false) := by
    unfold putLog
    rw [List.append_assoc]
    exact countS_put es.length _ 128 hl (by omega)
  unfold mgetS
  rw [hc]
  exact getEs_put r es h
def restL (m : MsgD) : List UInt8 :=
  if m.kd = 1 then eBlob m.en
  else if m.kd = 2 then Lib.uvarint m.tag.toNat ++ Lib.uvarint m.code.toNat ++ Lib.uvarint m.nn.toNat
  else if m.kd = 4 then Lib.uvarint m.term.toNat ++ Lib.uvarint m.had.toNat ++ putLog m.log
  else if m.kd = 5 then Lib.uvarint m.term.toNat ++ Lib.uvarint m.commit.toNat ++ putLog m.log
  else if m.kd = 6 then Lib.uvarint m.term.toNat ++ Lib.uvarint m.len.toNat
  else Lib.uvarint m.term.toNat
theorem bodyL_rest (m : MsgD) : bodyL m = UInt8.ofNat m.kd.toNat :: restL m := rfl
set_option maxHeartbeats 1000000 in
theorem read_rest (m : MsgD) (hok : MOk m) (hs : MShort m) (hwf : MWf m) : mreadS m.kd.toNat (restL m) false = (m, true, [], false) := by
  have hz : clearM m = zeroM := (sameM_iff _ _).1 hok.zero
  obtain ⟨k1, k6, _, t0, te0, h0, c0, l0, co0, co1, c1, l1, ll, ask, logs⟩ := hok
  obtain ⟨w1, w2, w3, w4, w5, w6, w7⟩ := hwf
  obtain ⟨s1, s2, s3⟩ := hs
  obtain ⟨kd, en, tag, code, nn, term, had, log, commit, len⟩ := m
  simp only [] at *
  have hlog : kd ≠ 1 → ∀ e ∈ log, EOk e := fun hk e he => ⟨logs hk e he, s3 e he, w7 e he⟩
  rcases (show kd = 1 ∨ kd = 2 ∨ kd = 3 ∨ kd = 4 ∨ kd = 5 ∨ kd = 6 by omega) with rfl | rfl | rfl | rfl | rfl | rfl
  · simp [clearM, zeroM] at hz
    obtain ⟨rfl, rfl, rfl, rfl, rfl, rfl, rfl, rfl⟩ := hz
    have hE : EOk en := ⟨ask rfl, s1, w6⟩
    have ht := textS_blob hE []
    rw [List.append_nil] at ht
    show mreadS 1 (eBlob en) false = _
    unfold mreadS
    rw [if_pos rfl, ht, read_bytes en hE.1 hE.2.2 hE.2.1]
    rfl
  · simp [clearM, zeroM] at hz
    obtain ⟨rfl, rfl, rfl, rfl, rfl, rfl⟩ := hz
    obtain ⟨tag, rfl⟩ := Int.eq_ofNat_of_zero_le t0
    obtain ⟨code, rfl⟩ := Int.eq_ofNat_of_zero_le co0
    obtain ⟨nn, rfl⟩ := Int.eq_ofNat_of_zero_le w4
    show mreadS 2 (Lib.uvarint tag ++ Lib.uvarint code ++ Lib.uvarint nn) false = _
    have e3 := numS_put nn [] (by omega)
    rw [List.append_nil] at e3
    simp only [mreadS]
    rw [if_neg (by omega), if_pos trivial, List.append_assoc, intS_put tag _ (by omega)]
    simp only []
    rw [countS_put code _ 255 (by omega) (by omega)]
    simp only []
    rw [e3]
    rfl
  · simp [clearM, zeroM] at hz
    obtain ⟨rfl, rfl, rfl, rfl, rfl, rfl, rfl, rfl⟩ := hz
    obtain ⟨term, rfl⟩ := Int.eq_ofNat_of_zero_le te0
    show mreadS 3 (Lib.uvarint term) false = _
    have e3 := intS_put term [] (by omega)
    rw [List.append_nil] at e3
    simp [mreadS, e3, zeroD]
  · simp [clearM, zeroM] at hz
    obtain ⟨rfl, rfl, rfl, rfl, rfl, rfl⟩ := hz
    obtain ⟨term, rfl⟩ := Int.eq_ofNat_of_zero_le te0
    obtain ⟨had, rfl⟩ := Int.eq_ofNat_of_zero_le h0
    have e3 := mgetS_put [] log (hlog (by decide)) ll
    rw [List.append_nil] at e3
    show mreadS 4 (Lib.uvarint term ++ Lib.uvarint had ++ putLog log) false = _
    simp [mreadS, List.append_assoc, intS_put term _ (show term ≤ 9223372036854775807 by omega), intS_put had _ (show had ≤ 9223372036854775807 by omega), e3, zeroD]
  · simp [clearM, zeroM] at hz
    obtain ⟨rfl, rfl, rfl, rfl, rfl, rfl⟩ := hz
    obtain ⟨term, rfl⟩ := Int.eq_ofNat_of_zero_le te0
    obtain ⟨commit, rfl⟩ := Int.eq_ofNat_of_zero_le c0
    have e3 := mgetS_put [] log (hlog (by decide)) ll
    rw [List.append_nil] at e3
    show mreadS 5 (Lib.uvarint term ++ Lib.uvarint commit ++ putLog log) false = _
    simp [mreadS, List.append_assoc, intS_put term _ (show term ≤ 9223372036854775807 by omega), countS_put commit _ 128 (by omega) (by omega), e3, zeroD]
  · simp [clearM, zeroM] at hz
    obtain ⟨rfl, rfl, rfl, rfl, rfl, rfl, rfl⟩ := hz
    obtain ⟨term, rfl⟩ := Int.eq_ofNat_of_zero_le te0
    obtain ⟨len, rfl⟩ := Int.eq_ofNat_of_zero_le l0
    have e3 := countS_put len [] 128 (by omega) (by omega)
    rw [List.append_nil] at e3
    show mreadS 6 (Lib.uvarint term ++ Lib.uvarint len) false = _
    simp [mreadS, intS_put term _ (show term ≤ 9223372036854775807 by omega), e3, zeroD]
/-- What is written is read. -/
theorem mread_put (m : MsgD) (hr : mrightS m = 0) (hs : MShort m) (hwf : MWf m) (hl : (bodyL m).length ≤ 65536) : mReadS (frameL (bodyL m)) = (m, 0) := by
  have hok := mright_ok hr
  have h := readF_put (bodyL m) [] hl
  rw [List.append_nil] at h
  have hb : byteS (bodyL m) false = (UInt8.ofNat m.kd.toNat, restL m, false) := by rw [bodyL_rest]; rfl
  have hk : (UInt8.ofNat m.kd.toNat).toNat = m.kd.toNat := by
    have := hok.k6
    rw [UInt8.toNat_ofNat']
    omega
  unfold mReadS
  rw [h]
  simp only []
  rw [if_neg (by simp), hb]
  simp only []
  rw [hk, read_rest m hok hs hwf]
  simp [hr]
/-- Bytes are equal where messages are. -/
theorem mbytes_same {a b : MsgD} (ha : mrightS a = 0) (hb : mrightS b = 0) (sa : MShort a) (sb : MShort b) (wa : MWf a) (wb : MWf b) (la : (bodyL a).length ≤ 65536) (lb : (bodyL b).length ≤ 65536) :
    frameL (bodyL a) = frameL (bodyL b) ↔ sameM a b = true := by
  rw [sameM_iff]
  constructor
  · intro h
    have h1 := mread_put a ha sa wa la
    rw [h, mread_put b hb sb wb lb] at h1
    injection h1 with h1 _
    exact h1.symm
  · rintro rfl; rfl
end Go.Proofs.YtinnifhnabncfaaDoor.Vi
end
/- A tape's message is right, and its bytes are few. -/
section
namespace Go.Proofs.YtinnifhnabncfaaDoor.Vi
open Go.RowKit Base Mem Tape Go.Shelf
theorem wf_zero : Wf zeroD := ⟨by simp [zeroD], by simp [zeroD], by simp [zeroD], by simp [zeroD]⟩
theorem logRight_zero : ∀ (l : List EntryD), (∀ e ∈ l, EntryOk e) → logRight l = 0
  | [], _ => rfl
  | e :: l, h => by
    rw [logRight, if_pos (entry_right (h e (by simp))).1]
    exact logRight_zero l (fun x hx => h x (List.mem_cons_of_mem _ hx))
theorem blob_len {e : EntryD} (h : EntryOk e) : (eBlob e).length ≤ 1210 := by
  have h1 := bytesE_len h
  have h2 := Lib.uvarint_length64 (x := (bytesE e).length) (by omega)
  unfold eBlob
  rw [List.length_append]
  omega
theorem blobs_len : ∀ (l : List EntryD), (∀ e ∈ l, EntryOk e) → (l.flatMap eBlob).length ≤ l.length * 1210
  | [], _ => by simp
  | e :: l, h => by
    have ih := blobs_len l (fun x hx => h x (List.mem_cons_of_mem _ hx))
    have h1 := blob_len (h e (by simp))
    rw [List.flatMap_cons, List.length_append, List.length_cons]
    omega
theorem msg_short {m : MsgD} (h : MsgOk m) : MShort m := by
  obtain ⟨he, hl, hl4, _⟩ := h
  refine ⟨?_, by omega, fun e hx => (entry_right (hl e hx)).2.1⟩
  rcases he with he | he
  · rw [he]; exact short_zero
  · exact (entry_right he).2.1
theorem msg_wf {m : MsgD} (h : MsgOk m) : MWf m := by
  obtain ⟨he, hl, hl4, h1, h2, h3, h4, h5, h6, h7, h8, _⟩ := h
  refine ⟨by omega, by omega, by omega, by omega, by omega, ?_, fun e hx => (entry_right (hl e hx)).2.2⟩
  rcases he with he | he
  · rw [he]; exact wf_zero
  · exact (entry_right he).2.2
theorem msg_right {m : MsgD} (h : MsgOk m) : mrightS m = 0 := by
  obtain ⟨he, hl, hl4, h1, h2, h3, h4, h5, h6, h7, h8, hz, _, hk1⟩ := h
  have hb : bad2 m = false := by simp [bad2]; omega
  unfold mrightS
  rw [if_neg (by rw [hz]; simp; omega), hb, if_neg (by simp), if_neg (by omega)]
  by_cases hk : m.kd = 1
  · rw [if_pos hk]; exact (entry_right (hk1 hk)).1
  · rw [if_neg hk]; exact logRight_zero _ hl
theorem msg_body {m : MsgD} (h : MsgOk m) : (bodyL m).length ≤ 65536 := by
  have hs := msg_wf h
  obtain ⟨he, hl, hl4, h1, h2, h3, h4, h5, h6, h7, h8, hz, _, hk1⟩ := h
  have b1 := blobs_len m.log hl
  have u1 := Lib.uvarint_length64 (x := m.tag.toNat) (by omega)
  have u2 := Lib.uvarint_length64 (x := m.code.toNat) (by omega)
  have u3 := Lib.uvarint_length64 (x := m.nn.toNat) (by omega)
  have u4 := Lib.uvarint_length64 (x := m.term.toNat) (by omega)
  have u5 := Lib.uvarint_length64 (x := m.had.toNat) (by omega)
  have u6 := Lib.uvarint_length64 (x := m.commit.toNat) (by omega)
  have u7 := Lib.uvarint_length64 (x := m.len.toNat) (by omega)
  have u8 := Lib.uvarint_length64 (x := m.log.length) (by omega)
  have hp : (putLog m.log).length ≤ 10 + 4 * 1210 := by unfold putLog; rw [List.length_append]; omega
  rw [bodyL_rest, List.length_cons]
  unfold restL
  split
  · rename_i hk
    have := blob_len (hk1 hk)
    omega
  all_goals (try split)
  all_goals (try split)
  all_goals (try split)
  all_goals (try split)
  all_goals (first | omega | (simp only [List.length_append]; omega))
end Go.Proofs.YtinnifhnabncfaaDoor.Vi
end
/- A slice of numbers that came in; a tape made of it; its message. (Not together with Back, which has the first two by the same names.) -/
section
namespace Go.Proofs.YtinnifhnabncfaaDoor.Vi
open Go.RowKit Base Mem Tape Go.Shelf
/-- A slice of numbers that came in. -/
def Nums (w : World) (A : Option Addr) (c : Nat) (l : List Int) : Prop := l.length ≤ c ∧ c ≤ 9223372036854775807 ∧ (0 < l.length → ∃ g off, A = some ⟨g, off, none⟩ ∧ g < w.heap.size ∧ ∀ (j : Nat) (x : Int), l[j]? = some x → w.cell? ⟨g, off + j, none⟩ = some (.int .i64 x))
theorem tape_new {w w1 : World} {A : Option Addr} {c : Nat} {l : List Int} (h : Nums w A c l) (hb : Below w.heap.size w w1) :
    TapeAt (w1.alloc (.cells #[.slice A l.length c, .int .i64 0] 30)) w1.heap.size ⟨l, w.heap.size⟩ 0 := by
  obtain ⟨h1, h2, h3⟩ := h
  refine ⟨Nat.zero_le _, Nat.le_trans h1 h2, hb.size, A, c, Blk.new w1 _ _, h1, fun h0 => ?_⟩
  obtain ⟨g, off, e, hg, hx⟩ := h3 h0
  exact ⟨g, off, e, hg, fun j x hj => ((below_new hb _).cell (p := ⟨g, off + j, none⟩) hg).trans (hx j x hj)⟩
/-- A tape's message, made new. -/
def TMsg (w : World) (e : Ending) (w' : World) : Prop := ∃ (m : MsgD) (dv lv : Value), e = .returned (.agg (mCell m dv lv).toArray) ∧ MsgOk m ∧ (∀ M, (∀ g ∈ M, g < w.heap.size) → MsgAt w' M m dv lv) ∧ Below w.heap.size w w'
theorem tmsg_any {w w1 : World} {A : Option Addr} {c : Nat} {l : List Int} (h : Nums w A c l) (hb : Below w.heap.size w w1) :
    Calls Tryd.prog 18 #[.pointer (some ⟨w1.heap.size, 0, none⟩)] (w1.alloc (.cells #[.slice A l.length c, .int .i64 0] 30)) fun e w' => TMsg w1 e w' := by
  refine (msg_any w1.heap.size ⟨l, w.heap.size⟩ 0 _ (tape_new h hb)).mono ?_
  rintro e w' ⟨m, dv, lv, k', rfl, hok, hD, _, hk⟩
  exact ⟨m, dv, lv, rfl, hok, fun M hM => hD M (fun g hg => by have := hM g hg; simp; omega), (((Keeps.refl (M := []) w1).alloc _).trans hk (by intro g hg; simp at hg; right; omega)).below⟩
end Go.Proofs.YtinnifhnabncfaaDoor.Vi
end
/- Contract of hopperlaw6.known. -/
section
namespace Go.Proofs.YtinnifhnabncfaaDoor.Vi
open Go.RowKit Base Mem Tape Go.Shelf
def m300 : MsgD := ⟨3, zeroD, 0, 0, 0, 300, 0, [], 0, 0⟩
theorem m300_right : mrightS m300 = 0 := by
  have hz : zeroS m300 = true := zeroS_of rfl
  unfold mrightS
  rw [hz]
  simp [m300, bad2, logRight]
theorem m300_short : MShort m300 := ⟨short_zero, by simp [m300], by simp [m300]⟩
theorem m300_wf : MWf m300 := ⟨by simp [m300], by simp [m300], by simp [m300], by simp [m300], by simp [m300], wf_zero, by simp [m300]⟩
theorem m300_len : (bodyL m300).length ≤ 65536 := by
  have u := Lib.uvarint_length64 (x := 300) (by omega)
  rw [bodyL_rest, List.length_cons, show restL m300 = Lib.uvarint 300 from rfl]
  omega
theorem zero_right : mrightS zeroM = 12 := by unfold mrightS; rw [if_pos (.inl (by simp [zeroM]))]
theorem zero_short : MShort zeroM := ⟨short_zero, by simp [zeroM], by simp [zeroM]⟩
theorem zero_wf : MWf zeroM := ⟨by simp [zeroM], by simp [zeroM], by simp [zeroM], by simp [zeroM], by simp [zeroM], wf_zero, by simp [zeroM]⟩
theorem mRead_nil : mReadS [] = (zeroM, 12) := rfl
set_option maxRecDepth 100000 in
set_option maxHeartbeats 1000000 in
theorem mknown_any (mx : Int) (w : World) (hm : w.cell? ⟨0, 0, none⟩ = some (.int .i64 mx)) :
    Calls Tryd.prog 21 #[] w fun e w' => SamePost true w e w' := by
  have hw0 : 0 < w.heap.size := by
    have := World.block_lt_of_cell? w _ hm
    simpa using this
  have hkeepm : Hid (∀ W, Keeps [] w W → W.cell? ⟨0, 0, none⟩ = some (.int .i64 mx)) := fun W hb => (hb.cell (p := ⟨0, 0, none⟩) hw0 (by simp)).trans hm
  have hb1 : Hid (∀ W, Keeps [] w W → Calls Tryd.prog 19 #[.agg #[.int .i64 3, .int .i64 0, .int .i64 0, .int .i64 0, .int .i64 0, .int .i64 0, .slice none 0 0, .string ⟨#[]⟩, .int .i64 0, .int .i64 0, .int .i64 0, .int .i64 0, .int .u64 0, .int .i64 300, .int .i64 0, .slice none 0 0, .int .i64 0, .int .i64 0]] W fun r w' => MBPost (frameL (bodyL m300), 0) W r w') := fun W hk => by
    have := mbytes_any m300 (.slice none 0 0) (.slice none 0 0) mx W ⟨Ds.nil _ _, Ens.nil _ _⟩ m300_short m300_wf (hkeepm.out W hk)
    rwa [show mbytesS m300 = (frameL (bodyL m300), 0) by unfold mbytesS; rw [if_pos m300_right, if_neg (by have := m300_len; omega)]] at this
  have hb2 : Hid (∀ W, Keeps [] w W → Calls Tryd.prog 19 #[.agg #[.int .i64 0, .int .i64 0, .int .i64 0, .int .i64 0, .int .i64 0, .int .i64 0, .slice none 0 0, .string ⟨#[]⟩, .int .i64 0, .int .i64 0, .int .i64 0, .int .i64 0, .int .u64 0, .int .i64 0, .int .i64 0, .slice none 0 0, .int .i64 0, .int .i64 0]] W fun r w' => MBPost ([], 12) W r w') := fun W hk => by
    have := mbytes_any zeroM (.slice none 0 0) (.slice none 0 0) mx W ⟨Ds.nil _ _, Ens.nil _ _⟩ zero_short zero_wf (hkeepm.out W hk)
    rwa [show mbytesS zeroM = ([], 12) by unfold mbytesS; rw [if_neg (by rw [zero_right]; decide), zero_right]] at this
  have hr1 : Hid (∀ W v, Keeps [] w W → Bs W [] v (frameL (bodyL m300)) → Calls Tryd.prog 49 #[v] W fun r w' => MReadP (m300, 0) W r w') := fun W v hk hB => by
    have := mRead_any v (frameL (bodyL m300)) mx W hB (by rw [frameL_len]; have := m300_len; have := Lib.uvarint_length64 (x := (bodyL m300).length) (by omega); omega) (hkeepm.out W hk)
    rwa [mread_put m300 m300_right m300_short m300_wf m300_len] at this
  have hr2 : Hid (∀ W, Keeps [] w W → Calls Tryd.prog 49 #[.slice none 0 0] W fun r w' => MReadP (zeroM, 12) W r w') := fun W hk => by
    have := mRead_any (.slice none 0 0) [] mx W (Bs.nil _ _) (by simp) (hkeepm.out W hk)
    rwa [mRead_nil] at this
  have hs : Hid (∀ W dv lv, MsgAt W [] m300 dv lv → Calls Tryd.prog 20 #[.agg (mCell m300 dv lv).toArray, .agg #[.int .i64 3, .int .i64 0, .int .i64 0, .int .i64 0, .int .i64 0, .int .i64 0, .slice none 0 0, .string ⟨#[]⟩, .int .i64 0, .int .i64 0, .int .i64 0, .int .i64 0, .int .u64 0, .int .i64 300, .int .i64 0, .slice none 0 0, .int .i64 0, .int .i64 0]] W fun r w' => SamePost true W r w') := fun W dv lv h => by
    have := msame_any m300 m300 dv lv (.slice none 0 0) (.slice none 0 0) W h ⟨Ds.nil _ _, Ens.nil _ _⟩ m300_short.cnt m300_short.cnt
    rwa [(sameM_iff m300 m300).2 rfl] at this
  have hri : Hid (∀ W, Keeps [] w W → Calls Tryd.prog 45 #[.agg #[.int .i64 3, .int .i64 0, .int .i64 0, .int .i64 0, .int .i64 0, .int .i64 0, .slice none 0 0, .string ⟨#[]⟩, .int .i64 0, .int .i64 0, .int .i64 0, .int .i64 0, .int .u64 0, .int .i64 300, .int .i64 0, .slice none 0 0, .int .i64 0, .int .i64 0]] W fun r w' => NumPost 0 W r w') := fun W hk => by
    have := mright_any m300 (.slice none 0 0) (.slice none 0 0) mx W ⟨Ds.nil _ _, Ens.nil _ _⟩ m300_short (hkeepm.out W hk)
    rwa [m300_right] at this
  clear hm
  generalize frameL (bodyL m300) = fb at *
  go_enter Tryd.func21, Tryd.ntmps21
  go_wp2_with (first | (refine wpList_store_blk rfl 53 (.tmp 1) (.tmp 10) rfl w.heap.size 0 53 _ #[.int .i64 3, .int .i64 0, .int .i64 0, .int .i64 0, .int .i64 0, .int .i64 0, .slice none 0 0, .string ⟨#[]⟩, .int .i64 0, .int .i64 0, .int .i64 0, .int .i64 0, .int .u64 0, .int .i64 300, .int .i64 0, .slice none 0 0, .int .i64 0, .int .i64 0] #[.int .i64 3, .int .i64 0, .int .i64 0, .int .i64 0, .int .i64 0, .int .i64 0, .slice none 0 0, .string ⟨#[]⟩, .int .i64 0, .int .i64 0, .int .i64 0, .int .i64 0, .int .u64 0, .int .i64 300, .int .i64 0, .slice none 0 0, .int .i64 0, .int .i64 0] rfl rfl (Blk.new _ _ _) (by show 0 + 18 ≤ 18; omega) rfl (by kernel_rfl) rfl ?_; intro w1 hk hB; have Hk1 : Hid (Keeps [] w w1) := ((Keeps.refl _ _).alloc _).trans hk (by intro q hq; simp at hq; right; omega); have HB1 := Lib.hid hB; clear hk hB) | (refine wpList_load_mid rfl 53 (.tmp 1) rfl w.heap.size 0 rfl _ _ (blk_range HB1.out) Tryd.underlying53 rfl (by kernel_rfl) ?_))
  refine (hb1.out w1 Hk1.out).mono ?_
  rintro e w2 ⟨A2, c2, rfl, hS2, hb⟩
  have HS2 := Lib.hid (hS2 [] (by simp))
  have Hk2 := Lib.hid (Hk1.out.trans (Keeps.of_below (M := []) hb) (by simp)); have HB2 := Lib.hid (HB1.out.below hb HB1.out.lt)
  clear hS2 hb Hk1 HB1 hb1
  simp only []
  go_wp2_with fail
  refine (hr1.out w2 _ Hk2.out HS2.out).mono ?_
  rintro e w3 ⟨dv, lv, rfl, hM, hb⟩
  have HM3 := Lib.hid (hM [] (by simp))
  obtain ⟨Aa, na, rfl, _⟩ := HM3.out.1.len
  obtain ⟨Ba, ka, rfl, _⟩ := HM3.out.2.len
  have Hk3 := Lib.hid (Hk2.out.trans (Keeps.of_below (M := []) hb) (by simp)); have HB3 := Lib.hid (HB2.out.below hb HB2.out.lt)
  clear hM hb Hk2 HB2 HS2 hr1
  simp only []
  go_wp2_with (refine wpList_store_blk rfl 53 (.tmp 4) (.tmp 19) rfl w3.heap.size 0 53 _ (mCell m300 (.slice Aa m300.en.ds.length na) (.slice Ba m300.log.length ka)).toArray (mCell m300 (.slice Aa m300.en.ds.length na) (.slice Ba m300.log.length ka)).toArray rfl rfl (Blk.new _ _ _) (by show 0 + 18 ≤ 18; omega) rfl (by kernel_rfl) rfl ?_; intro w4 hk hB; have Hk4 : Hid (Keeps [] w3 w4) := ((Keeps.refl _ _).alloc _).trans hk (by intro q hq; simp at hq; right; omega); have HB4 := Lib.hid hB; clear hk hB)
  have HM4 := Lib.hid (HM3.out.keep Hk4.out (by simp)); have HK4 := Lib.hid (Hk3.out.trans Hk4.out (by simp)); have HB4a := Lib.hid (Hk4.out.blk HB3.out (by simp))
  clear HM3 HB3 Hk4
  refine (hb2.out w4 HK4.out).mono ?_
  rintro e w5 ⟨A5, c5, rfl, _, hb⟩
  have HK5 := Lib.hid (HK4.out.trans (Keeps.of_below (M := []) hb) (by simp)); have HB5 := Lib.hid (HB4.out.below hb HB4.out.lt); have HB5a := Lib.hid (HB4a.out.below hb HB4a.out.lt)
  have HM5 := Lib.hid (HM4.out.keep (Keeps.of_below (M := []) hb) (by simp))
  clear hb HK4 HB4 HB4a HM4 hb2
  simp only []
  go_wp2_with fail
  refine (hr2.out w5 HK5.out).mono ?_
  rintro e w6 ⟨dz, lz, rfl, hM, hb⟩
  obtain ⟨Az, nz, rfl, _⟩ := (hM [] (by simp)).1.len
  obtain ⟨Bz, kz, rfl, _⟩ := (hM [] (by simp)).2.len
  have HK6 := Lib.hid (HK5.out.trans (Keeps.of_below (M := []) hb) (by simp)); have HB6 := Lib.hid (HB5.out.below hb HB5.out.lt); have HB6a := Lib.hid (HB5a.out.below hb HB5a.out.lt)
  have HM6 := Lib.hid (HM5.out.keep (Keeps.of_below (M := []) hb) (by simp))
  clear hM hb HK5 HB5 HB5a HM5 hr2
  simp only []
  go_wp2_with (first | (refine wpList_store_blk rfl 53 (.tmp 8) (.tmp 28) rfl w6.heap.size 0 53 _ (mCell zeroM (.slice Az zeroM.en.ds.length nz) (.slice Bz zeroM.log.length kz)).toArray (mCell zeroM (.slice Az zeroM.en.ds.length nz) (.slice Bz zeroM.log.length kz)).toArray rfl rfl (Blk.new _ _ _) (by show 0 + 18 ≤ 18; omega) rfl (by kernel_rfl) rfl ?_; intro w7 hk hB; have Hk7 : Hid (Keeps [] w6 w7) := ((Keeps.refl _ _).alloc _).trans hk (by intro q hq; simp at hq; right; omega); have HB7 := Lib.hid hB; clear hk hB) | (refine wpList_load_g rfl 53 (.tmp 4) rfl w3.heap.size 0 rfl _ _ (blk_range (Hk7.out.blk HB6.out (by simp) |> Lib.hid).out) Tryd.underlying53 rfl (by kernel_rfl) ?_) | (refine wpList_load_g rfl 53 (.tmp 1) rfl w.heap.size 0 rfl _ _ (blk_range (Hk7.out.blk HB6a.out (by simp) |> Lib.hid).out) Tryd.underlying53 rfl (by kernel_rfl) ?_))
  refine (hs.out w7 _ _ (HM6.out.keep Hk7.out (by simp))).mono ?_
  rintro e w8 ⟨rfl, hb⟩
  have HK8 := Lib.hid ((HK6.out.trans Hk7.out (by simp)).trans (Keeps.of_below (M := []) hb) (by simp)); have HB8 := Lib.hid ((Hk7.out.blk HB6a.out (by simp) : Blk w7 _ _ _).below hb (Hk7.out.blk HB6a.out (by simp) : Blk w7 _ _ _).lt)
  clear hb
  go_wp2_with (refine wpList_load_g rfl 53 (.tmp 1) rfl w.heap.size 0 rfl _ _ (blk_range HB8.out) Tryd.underlying53 rfl (by kernel_rfl) ?_)
  refine (hri.out w8 HK8.out).mono ?_
  rintro e w9 ⟨rfl, hb⟩
  have HK9 := Lib.hid (HK8.out.trans (Keeps.of_below (M := []) hb) (by simp))
  clear hb
  go_wp2
  go_ret
  exact ⟨rfl, HK9.out.below⟩
end Go.Proofs.YtinnifhnabncfaaDoor.Vi
end
/- The walk of hopperlaw6.MailOnce. -/
section
namespace Go.Proofs.YtinnifhnabncfaaDoor.Vi
open Go.RowKit Base Mem Tape Go.Shelf
theorem bdrewO {B : Nat} {a w : World} (h : Below B a w) : Below B a w.drew := ⟨h.os, h.tape, h.output, h.size, h.block⟩
theorem bthenO {a b b' c : World} (h : Below a.heap.size a b) (k : Below b'.heap.size b' c) (hbb : b'.heap = b.heap ∧ b'.os = b.os ∧ b'.tape = b.tape ∧ b'.output = b.output := by first | exact ⟨rfl, rfl, rfl, rfl⟩) : Below a.heap.size a c := by
  obtain ⟨h1, h2, h3, h4⟩ := hbb
  exact ⟨k.os.trans (h2.trans h.os), k.tape.trans (h3.trans h.tape), k.output.trans (h4.trans h.output), Nat.le_trans h.size (by have := k.size; rw [h1] at this; exact this), fun g hg => by
    have := k.block g (by rw [h1]; exact Nat.lt_of_lt_of_le hg h.size)
    rw [this, h1]; exact h.block g hg⟩
theorem tbytes_any {m : MsgD} (h : MsgOk m) (dv lv : Value) (mx : Int) (w : World) (ha : MsgAt w [] m dv lv) (hm : w.cell? ⟨0, 0, none⟩ = some (.int .i64 mx)) :
    Calls Tryd.prog 19 #[.agg (mCell m dv lv).toArray] w fun r w' => MBPost (frameL (bodyL m), 0) w r w' := by
  have := mbytes_any m dv lv mx w ha (msg_short h) (msg_wf h) hm
  rwa [show mbytesS m = (frameL (bodyL m), 0) by unfold mbytesS; rw [if_pos (msg_right h), if_neg (by have := msg_body h; omega)]] at this
set_option maxRecDepth 100000 in
set_option maxHeartbeats 16000000 in
theorem once_walk (A1 : Option Addr) (c1 : Nat) (l1 : List Int) (A2 : Option Addr) (c2 : Nat) (l2 : List Int) (m : Int) (w : World) (ha : Nums w A1 c1 l1) (hb : Nums w A2 c2 l2) (hm : w.cell? ⟨0, 0, none⟩ = some (.int .i64 m)) :
    Calls Tryd.prog 6 #[.slice A1 l1.length c1, .slice A2 l2.length c2] w fun e w' => SamePost true w e w' := by
  have hw0 : 0 < w.heap.size := by
    have := World.block_lt_of_cell? w _ hm
    simpa using this
  have hkeepm : Hid (∀ W, Keeps [] w W → W.cell? ⟨0, 0, none⟩ = some (.int .i64 m)) := fun W hb => (hb.cell (p := ⟨0, 0, none⟩) hw0 (by simp)).trans hm
  have Ha := Lib.hid ha; have Hb := Lib.hid hb
  clear ha hb hm
  go_enter Tryd.func6, Tryd.ntmps6
  go_wp2_with fail
  refine (tmsg_any Ha.out (Below.refl _ w)).mono ?_
  rintro e w1 ⟨a, da, la, rfl, hao, haD, hb1⟩
  have Hao := Lib.hid hao; have HaD := Lib.hid (haD [] (by simp)); have Hb1 := Lib.hid hb1
  clear hao haD hb1
  go_wp2_with fail
  refine (tmsg_any Hb.out Hb1.out).mono ?_
  rintro e w2 ⟨b, db, lb, rfl, hbo, hbD, hb2⟩
  have Hbo := Lib.hid hbo; have HbD := Lib.hid (hbD [] (by simp)); have Hk2 : Hid (Keeps [] w w2) := Keeps.of_below (M := []) (below_then Hb1.out hb2)
  have HaD2 := Lib.hid (HaD.out.keep (Keeps.of_below (M := []) hb2) (by simp))
  clear hbo hbD hb2 HaD Hb1 Ha Hb
  obtain ⟨Aa, na, rfl, _⟩ := HaD2.out.1.len
  obtain ⟨Ba, ka, rfl, _⟩ := HaD2.out.2.len
  obtain ⟨Ab, nb, rfl, _⟩ := HbD.out.1.len
  obtain ⟨Bb, kb, rfl, _⟩ := HbD.out.2.len
  go_wp2_with (first | (refine wpList_store_blk rfl 53 (.tmp 5) (.tmp 14) rfl w2.heap.size 0 53 #[.int .i64 0, .int .i64 0, .int .i64 0, .int .i64 0, .int .i64 0, .int .i64 0, .slice none 0 0, .string ⟨#[]⟩, .int .i64 0, .int .i64 0, .int .i64 0, .int .i64 0, .int .u64 0, .int .i64 0, .int .i64 0, .slice none 0 0, .int .i64 0, .int .i64 0] (mCell a (.slice Aa a.en.ds.length na) (.slice Ba a.log.length ka)).toArray (mCell a (.slice Aa a.en.ds.length na) (.slice Ba a.log.length ka)).toArray rfl rfl ((Blk.new w2 _ _).below (below_new' _ _) (by simp)) (by show 0 + 18 ≤ 18; omega) rfl (by kernel_rfl) rfl ?_; intro w3 hk3 hB3; have HB3 := Lib.hid hB3; have HZ3 : Hid (Blk w3 (w2.heap.size + 1) 53 #[.int .i64 0, .int .i64 0, .int .i64 0, .int .i64 0, .int .i64 0, .int .i64 0, .slice none 0 0, .string ⟨#[]⟩, .int .i64 0, .int .i64 0, .int .i64 0, .int .i64 0, .int .u64 0, .int .i64 0, .int .i64 0, .slice none 0 0, .int .i64 0, .int .i64 0]) := hk3.blk (by have := Blk.new (w2.alloc (.cells #[.int .i64 0, .int .i64 0, .int .i64 0, .int .i64 0, .int .i64 0, .int .i64 0, .slice none 0 0, .string ⟨#[]⟩, .int .i64 0, .int .i64 0, .int .i64 0, .int .i64 0, .int .u64 0, .int .i64 0, .int .i64 0, .slice none 0 0, .int .i64 0, .int .i64 0] 53)) 53 #[.int .i64 0, .int .i64 0, .int .i64 0, .int .i64 0, .int .i64 0, .int .i64 0, .slice none 0 0, .string ⟨#[]⟩, .int .i64 0, .int .i64 0, .int .i64 0, .int .i64 0, .int .u64 0, .int .i64 0, .int .i64 0, .slice none 0 0, .int .i64 0, .int .i64 0]; simpa using this) (by simp); have HK3 : Hid (Keeps [] w2 w3) := (((Keeps.refl _ _).alloc _).alloc _).trans hk3 (by intro q hq; simp at hq; right; omega); clear hk3 hB3) | (refine wpList_store_blk rfl 53 (.tmp 6) (.tmp 18) rfl (w2.heap.size + 1) 0 53 #[.int .i64 0, .int .i64 0, .int .i64 0, .int .i64 0, .int .i64 0, .int .i64 0, .slice none 0 0, .string ⟨#[]⟩, .int .i64 0, .int .i64 0, .int .i64 0, .int .i64 0, .int .u64 0, .int .i64 0, .int .i64 0, .slice none 0 0, .int .i64 0, .int .i64 0] (mCell b (.slice Ab b.en.ds.length nb) (.slice Bb b.log.length kb)).toArray (mCell b (.slice Ab b.en.ds.length nb) (.slice Bb b.log.length kb)).toArray rfl rfl HZ3.out (by show 0 + 18 ≤ 18; omega) rfl (by kernel_rfl) rfl ?_; intro w4 hk4 hB4; have HB4 := Lib.hid hB4; have HB4a := Lib.hid (hk4.blk HB3.out (by simp)); have HK4 : Hid (Keeps [] w2 w4) := HK3.out.trans hk4 (by intro q hq; simp at hq; right; omega); clear hk4 hB4) | (refine wpList_load_mid rfl 53 (.tmp 5) rfl w2.heap.size 0 rfl _ _ (blk_range HB4a.out) Tryd.underlying53 rfl (by kernel_rfl) ?_))
  have HKw := Lib.hid (Hk2.out.trans HK4.out (by simp))
  have HMa := Lib.hid (HaD2.out.keep HK4.out (by simp)); have HMb := Lib.hid (HbD.out.keep HK4.out (by simp))
  clear HaD2 HbD HB3 HZ3 HK3 HK4 Hk2
  have h04 := HKw.out.size
  refine (tbytes_any Hao.out _ _ m w4 HMa.out (hkeepm.out w4 HKw.out)).mono ?_
  rintro e w5 ⟨A5, c5, rfl, hS5, hb⟩
  have HS5 := Lib.hid (hS5 [] (by simp))
  have HKw5 := Lib.hid (HKw.out.trans (Keeps.of_below (M := []) hb) (by simp))
  have HMa5 := Lib.hid (HMa.out.keep (Keeps.of_below (M := []) hb) (by simp)); have HMb5 := Lib.hid (HMb.out.keep (Keeps.of_below (M := []) hb) (by simp))
  have HBb5 := Lib.hid (HB4.out.below hb HB4.out.lt); have HBa5 := Lib.hid (HB4a.out.below hb HB4a.out.lt)
  clear hS5 hb HMa HMb HB4 HB4a HKw
  simp only []
  go_wp2_with (refine wpList_load_mid rfl 53 (.tmp 6) rfl (w2.heap.size + 1) 0 rfl _ _ (blk_range HBb5.out) Tryd.underlying53 rfl (by kernel_rfl) ?_)
  refine (tbytes_any Hbo.out _ _ m w5 HMb5.out (hkeepm.out w5 HKw5.out)).mono ?_
  rintro e w6 ⟨A6, c6, rfl, hS6, hb⟩
  have HS6 := Lib.hid (hS6 [] (by simp)); have HS5b := Lib.hid (HS5.out.keep (Keeps.of_below (M := []) hb) (by simp))
  have HKw6 := Lib.hid (HKw5.out.trans (Keeps.of_below (M := []) hb) (by simp))
  have HMa6 := Lib.hid (HMa5.out.keep (Keeps.of_below (M := []) hb) (by simp)); have HMb6 := Lib.hid (HMb5.out.keep (Keeps.of_below (M := []) hb) (by simp))
  have HBb6 := Lib.hid (HBb5.out.below hb HBb5.out.lt); have HBa6 := Lib.hid (HBa5.out.below hb HBa5.out.lt)
  clear hS6 hb HMa5 HMb5 HBb5 HBa5 HKw5 HS5
  simp only []
  obtain ⟨fa, hfa⟩ : ∃ fa, fa = frameL (bodyL a) := ⟨_, rfl⟩
  obtain ⟨fb, hfb⟩ : ∃ fb, fb = frameL (bodyL b) := ⟨_, rfl⟩
  have hcmp : Hid (((⟨fa.toArray⟩ : ByteArray).toList == (⟨fb.toArray⟩ : ByteArray).toList) = sameM a b) := by
    show _ = _
    rw [Lib.toList_data, Lib.toList_data, Bool.eq_iff_iff, ← mbytes_same (msg_right Hao.out) (msg_right Hbo.out) (msg_short Hao.out) (msg_short Hbo.out) (msg_wf Hao.out) (msg_wf Hbo.out) (msg_body Hao.out) (msg_body Hbo.out), beq_iff_eq, hfa, hfb]
  rw [← hfa] at HS5b ⊢
  rw [← hfb] at HS6 ⊢
  obtain ⟨LA, hLA⟩ : ∃ LA, LA = mCell a (.slice Aa a.en.ds.length na) (.slice Ba a.log.length ka) := ⟨_, rfl⟩
  obtain ⟨LB, hLB⟩ : ∃ LB, LB = mCell b (.slice Ab b.en.ds.length nb) (.slice Bb b.log.length kb) := ⟨_, rfl⟩
  have hla : LA.length = 18 := by rw [hLA]; rfl
  have hlb : LB.length = 18 := by rw [hLB]; rfl
  rw [← hLA] at HBa6
  rw [← hLB] at HBb6
  obtain ⟨sm, hsm⟩ : ∃ sm, sm = sameM a b := ⟨_, rfl⟩
  obtain ⟨tA, htA⟩ : ∃ tA : ByteArray, tA = ⟨fa.toArray⟩ := ⟨_, rfl⟩
  obtain ⟨tB, htB⟩ : ∃ tB : ByteArray, tB = ⟨fb.toArray⟩ := ⟨_, rfl⟩
  have hms : Hid (∀ W, Below w6.heap.size w6 W → Calls Tryd.prog 20 #[.agg LA.toArray, .agg LB.toArray] W fun r w' => SamePost sm W r w') := fun W hb => by
    rw [hLA, hLB, hsm]
    exact msame_any a b _ _ _ _ W (HMa6.out.keep (Keeps.of_below (M := []) hb) (by simp)) (HMb6.out.keep (Keeps.of_below (M := []) hb) (by simp)) (msg_short Hao.out).cnt (msg_short Hbo.out).cnt
  have hkn := Lib.hid (fun W (hb : Below w6.heap.size w6 W) => mknown_any m W (hkeepm.out W (HKw6.out.trans (Keeps.of_below (M := []) hb) (by simp))))
  have HS7 : Hid (∀ W, Below w6.heap.size w6 W → W.rangeAt w2.heap.size 0 LA ∧ W.rangeAt (w2.heap.size + 1) 0 LB ∧ (convert 32 9 (.slice A5 fa.length c5)).run Tryd.prog W = .ok (.string tA) W ∧ (convert 32 9 (.slice A6 fb.length c6)).run Tryd.prog W = .ok (.string tB) W) := fun W hb => by
    rw [htA, htB]
    have hk : Keeps [] w6 W := Keeps.of_below (M := []) hb
    have r1 := blk_range (hk.blk HBa6.out (by simp)); have r2 := blk_range (hk.blk HBb6.out (by simp))
    exact ⟨r1, r2, conv_bytes (HS5b.out.keep hk (by simp)), conv_bytes (HS6.out.keep hk (by simp))⟩
  rw [← hsm, ← htA, ← htB] at hcmp
  have hfin : Hid (∀ W, Below w6.heap.size w6 W → SamePost true w (.returned (.bool true)) W) := fun W hb => ⟨rfl, (HKw6.out.trans (Keeps.of_below (M := []) hb) (by simp)).below⟩
  have hb6 := Lib.hid (Below.refl w6.heap.size w6)
  clear HMa6 HMb6 HBb6 HBa6 HKw6 HS5b HS6 hLA hLB htA htB hsm hfa hfb hkeepm Hao Hbo hw0
  go_upto_region 4 with (fail)
  cases sm with
  | true =>
    have hcm := hcmp.out
    refine wp_region_held_drew (S := (fun W => W.rangeAt w2.heap.size 0 LA ∧ W.rangeAt (w2.heap.size + 1) 0 LB ∧ (convert 32 9 (.slice A5 fa.length c5)).run Tryd.prog W = .ok (.string tA) W ∧ (convert 32 9 (.slice A6 fb.length c6)).run Tryd.prog W = .ok (.string tB) W)) (by kernel_rfl) (HS7.out _ (bdrewO hb6.out)) (fun hHeld => ?_)
    refine wpAnyH_take (i := 0) (oi := _) (v := ?v0) rfl (by kernel_rfl) (by kernel_rfl) (by kernel_rfl) (fun _ _ _ h => h) (Or.inl ⟨by rfl, ?y0⟩) (by assumption) ?r0
    case y0 => (intro w hSw; (try dsimp only at hSw); go_simp <;> with_reducible rfl)
    try simp only [List.getElem_toArray, List.getElem_cons_succ, List.getElem_cons_zero, Act.put, List.setIfInBounds_toArray, List.set_cons_zero, List.set_cons_succ]
    refine wpAnyH_take (i := 1) (oi := _) (v := ?v1) rfl (by kernel_rfl) (by kernel_rfl) (by kernel_rfl) (fun _ _ _ h => h) (Or.inl ⟨by rfl, ?y1⟩) (by assumption) ?r1
    case y1 => (intro w hSw; (try dsimp only at hSw); go_simp <;> with_reducible rfl)
    try simp only [List.getElem_toArray, List.getElem_cons_succ, List.getElem_cons_zero, Act.put, List.setIfInBounds_toArray, List.set_cons_zero, List.set_cons_succ]
    refine wpAnyH_take (i := 2) (oi := _) (v := ?v2) rfl (by kernel_rfl) (by kernel_rfl) (by kernel_rfl) (fun _ _ _ h => h) (Or.inl ⟨by rfl, ?y2⟩) (by assumption) ?r2
    case y2 => (intro w hSw; (try dsimp only at hSw); go_simp <;> with_reducible rfl)
    try simp only [List.getElem_toArray, List.getElem_cons_succ, List.getElem_cons_zero, Act.put, List.setIfInBounds_toArray, List.set_cons_zero, List.set_cons_succ]
    refine wpAnyH_take (i := 3) (oi := _) (v := ?v3) rfl (by kernel_rfl) (by kernel_rfl) (by kernel_rfl) (fun _ _ _ h => h) (Or.inl ⟨by rfl, ?y3⟩) (by assumption) ?r3
    case y3 => (intro w hSw; (try dsimp only at hSw); go_simp <;> with_reducible rfl)
    try simp only [List.getElem_toArray, List.getElem_cons_succ, List.getElem_cons_zero, Act.put, List.setIfInBounds_toArray, List.set_cons_zero, List.set_cons_succ]
    refine wpAnyH_take (i := 4) (oi := _) (v := ?v4) rfl (by kernel_rfl) (by kernel_rfl) (by kernel_rfl) (fun _ _ _ h => h) (Or.inl ⟨by rfl, ?y4⟩) (by assumption) ?r4
    case y4 => (intro w hSw; (try dsimp only at hSw); go_simp <;> with_reducible rfl)
    try simp only [List.getElem_toArray, List.getElem_cons_succ, List.getElem_cons_zero, Act.put, List.setIfInBounds_toArray, List.set_cons_zero, List.set_cons_succ]
    refine wpAnyH_take (i := 5) (oi := _) (v := ?v5) rfl (by kernel_rfl) (by kernel_rfl) (by kernel_rfl) (fun _ _ _ h => h) (Or.inl ⟨by rfl, ?y5⟩) (by assumption) ?r5
    case y5 => (intro w hSw; (try dsimp only at hSw); go_simp <;> with_reducible rfl)
    try simp only [List.getElem_toArray, List.getElem_cons_succ, List.getElem_cons_zero, Act.put, List.setIfInBounds_toArray, List.set_cons_zero, List.set_cons_succ]
    refine wpAnyH_take (i := 6) (oi := _) (v := ?v6) rfl (by kernel_rfl) (by kernel_rfl) (by kernel_rfl) (fun _ _ _ h => h) (Or.inl ⟨by rfl, ?y6⟩) (by assumption) ?r6
    case y6 => (intro w hSw; (try dsimp only at hSw); go_simp <;> with_reducible rfl)
    try simp only [List.getElem_toArray, List.getElem_cons_succ, List.getElem_cons_zero, Act.put, List.setIfInBounds_toArray, List.set_cons_zero, List.set_cons_succ]
    refine wpAnyH_take (i := 7) (oi := _) (v := ?v7) rfl (by kernel_rfl) (by kernel_rfl) (by kernel_rfl) (fun _ _ _ h => h) (Or.inl ⟨by rfl, ?y7⟩) (by assumption) ?r7
    case y7 => (intro w hSw; (try dsimp only at hSw); go_simp <;> with_reducible rfl)
    try simp only [List.getElem_toArray, List.getElem_cons_succ, List.getElem_cons_zero, Act.put, List.setIfInBounds_toArray, List.set_cons_zero, List.set_cons_succ]
    refine wpAnyH_take (i := 8) (oi := _) (v := ?v8) rfl (by kernel_rfl) (by kernel_rfl) (by kernel_rfl) (fun _ _ _ h => h) (Or.inl ⟨by rfl, ?y8⟩) (by assumption) ?r8
    case y8 => (intro w hSw; (try dsimp only at hSw); go_simp <;> with_reducible rfl)
    try simp only [List.getElem_toArray, List.getElem_cons_succ, List.getElem_cons_zero, Act.put, List.setIfInBounds_toArray, List.set_cons_zero, List.set_cons_succ]
    refine wpAnyH_take (i := 9) (oi := _) (v := ?v9) rfl (by kernel_rfl) (by kernel_rfl) (by kernel_rfl) (fun _ _ _ h => h) (Or.inl ⟨by rfl, ?y9⟩) (by assumption) ?r9
    case y9 => (intro w hSw; (try dsimp only at hSw); go_simp <;> with_reducible rfl)
    try simp only [List.getElem_toArray, List.getElem_cons_succ, List.getElem_cons_zero, Act.put, List.setIfInBounds_toArray, List.set_cons_zero, List.set_cons_succ]
    refine wpAnyH_take (i := 10) (oi := _) (v := ?v10) rfl (by kernel_rfl) (by kernel_rfl) (by kernel_rfl) (fun _ _ _ h => h) (Or.inl ⟨by rfl, ?y10⟩) (by assumption) ?r10
    case y10 => (intro w hSw; (try dsimp only at hSw); go_simp <;> with_reducible rfl)
    try simp only [List.getElem_toArray, List.getElem_cons_succ, List.getElem_cons_zero, Act.put, List.setIfInBounds_toArray, List.set_cons_zero, List.set_cons_succ]
    refine wpAnyH_take (i := 11) (oi := _) (v := ?v11) rfl (by kernel_rfl) (by kernel_rfl) (by kernel_rfl) (fun _ _ _ h => h) (Or.inl ⟨by rfl, ?y11⟩) (by assumption) ?r11
    case y11 => (intro w hSw; (try dsimp only at hSw); go_simp <;> with_reducible rfl)
    try simp only [List.getElem_toArray, List.getElem_cons_succ, List.getElem_cons_zero, Act.put, List.setIfInBounds_toArray, List.set_cons_zero, List.set_cons_succ]
    refine wpAnyH_take (i := 12) (oi := _) (v := .agg LA.toArray) rfl (by kernel_rfl) (by kernel_rfl) (by kernel_rfl) (fun _ _ _ h => h) (yieldsIf_load_mid (by rfl) _ _ rfl _ _ rfl LA _ (fun w hSw => hSw.1) Tryd.underlying53 rfl (by rw [hla]; kernel_rfl)) (by assumption) ?_
    try simp only [List.getElem_toArray, List.getElem_cons_succ, List.getElem_cons_zero, Act.put, List.setIfInBounds_toArray, List.set_cons_zero, List.set_cons_succ]
    refine wpAnyH_take (i := 13) (oi := _) (v := .agg LB.toArray) rfl (by kernel_rfl) (by kernel_rfl) (by kernel_rfl) (fun _ _ _ h => h) (yieldsIf_load_mid (by rfl) _ _ rfl _ _ rfl LB _ (fun w hSw => hSw.2.1) Tryd.underlying53 rfl (by rw [hlb]; kernel_rfl)) (by assumption) ?_
    try simp only [List.getElem_toArray, List.getElem_cons_succ, List.getElem_cons_zero, Act.put, List.setIfInBounds_toArray, List.set_cons_zero, List.set_cons_succ]
    refine wpAnyH_ready (rs := [14]) (by kernel_rfl) (by simp) ?_
    refine AllReadyH.cons (o := _) rfl (fun K hK => ?_) AllReadyH.nil
    go_simp
    refine (hms.out _ (by first | exact hb6.out | exact bdrewO hb6.out)).mono ?_
    rintro e w7 ⟨rfl, hb⟩
    have hb7 := Lib.hid (bthenO hb6.out hb)
    clear hb
    refine hK.out _ _ (HS7.out _ hb7.out) (fun hHeld2 => ?_)
    clear hK K hHeld
    have hHeld := hHeld2
    clear hHeld2
    try simp only [List.getElem_toArray, List.getElem_cons_succ, List.getElem_cons_zero, Act.put, List.setIfInBounds_toArray, List.set_cons_zero, List.set_cons_succ]
    refine wpAnyH_take (i := 15) (oi := _) (v := ?v15) rfl (by kernel_rfl) (by kernel_rfl) (by kernel_rfl) (fun _ _ _ h => h) (Or.inl ⟨by rfl, ?y15⟩) (by assumption) ?r15
    case y15 => (intro w hSw; (try dsimp only at hSw); go_simp <;> with_reducible rfl)
    try simp only [List.getElem_toArray, List.getElem_cons_succ, List.getElem_cons_zero, Act.put, List.setIfInBounds_toArray, List.set_cons_zero, List.set_cons_succ]
    refine wpAnyH_take (i := 16) (oi := _) (v := ?v16) rfl (by kernel_rfl) (by kernel_rfl) (by kernel_rfl) (fun _ _ _ h => h) (Or.inl ⟨by rfl, ?y16⟩) (by assumption) ?r16
    case y16 => (intro w hSw; (try dsimp only at hSw); go_simp <;> with_reducible rfl)
    try simp only [List.getElem_toArray, List.getElem_cons_succ, List.getElem_cons_zero, Act.put, List.setIfInBounds_toArray, List.set_cons_zero, List.set_cons_succ]
    refine wpAnyH_take (i := 17) (oi := _) (v := ?v17) rfl (by kernel_rfl) (by kernel_rfl) (by kernel_rfl) (fun _ _ _ h => h) (Or.inl ⟨by rfl, ?y17⟩) (by assumption) ?r17
    case y17 => (intro w hSw; (try dsimp only at hSw); go_simp <;> with_reducible rfl)
    try simp only [List.getElem_toArray, List.getElem_cons_succ, List.getElem_cons_zero, Act.put, List.setIfInBounds_toArray, List.set_cons_zero, List.set_cons_succ]
    refine wpAnyH_ready (rs := [18]) (by kernel_rfl) (by simp) ?_
    refine AllReadyH.cons (o := _) rfl (fun K hK => ?_) AllReadyH.nil
    go_simp
    refine (hkn.out _ (by first | exact hb7.out | exact bdrewO hb7.out)).mono ?_
    rintro e w8 ⟨rfl, hb⟩
    have hb8 := Lib.hid (bthenO hb7.out hb)
    clear hb
    refine hK.out _ _ (HS7.out _ hb8.out) (fun hHeld2 => ?_)
    clear hK K hHeld
    have hHeld := hHeld2
    clear hHeld2
    try simp only [List.getElem_toArray, List.getElem_cons_succ, List.getElem_cons_zero, Act.put, List.setIfInBounds_toArray, List.set_cons_zero, List.set_cons_succ]
    refine wpAnyH_take (i := 19) (oi := _) (v := ?v19) rfl (by kernel_rfl) (by kernel_rfl) (by kernel_rfl) (fun _ _ _ h => h) (Or.inl ⟨by rfl, ?y19⟩) (by assumption) ?r19
    case y19 => (intro w hSw; (try dsimp only at hSw); go_simp <;> with_reducible rfl)
    try simp only [List.getElem_toArray, List.getElem_cons_succ, List.getElem_cons_zero, Act.put, List.setIfInBounds_toArray, List.set_cons_zero, List.set_cons_succ]
    refine wpAnyH_take (i := 20) (oi := _) (v := ?v20) rfl (by kernel_rfl) (by kernel_rfl) (by kernel_rfl) (fun _ _ _ h => h) (Or.inl ⟨by rfl, ?y20⟩) (by assumption) ?r20
    case y20 => (intro w hSw; (try dsimp only at hSw); go_simp <;> with_reducible rfl)
    try simp only [List.getElem_toArray, List.getElem_cons_succ, List.getElem_cons_zero, Act.put, List.setIfInBounds_toArray, List.set_cons_zero, List.set_cons_succ]
    refine wpAnyH_done (by kernel_rfl) ?_ _
    go_wp2
    go_ret
    exact hfin.out _ hb8.out
  | false =>
    have hcm := hcmp.out
    refine wp_region_held_drew (S := (fun W => W.rangeAt w2.heap.size 0 LA ∧ W.rangeAt (w2.heap.size + 1) 0 LB ∧ (convert 32 9 (.slice A5 fa.length c5)).run Tryd.prog W = .ok (.string tA) W ∧ (convert 32 9 (.slice A6 fb.length c6)).run Tryd.prog W = .ok (.string tB) W)) (by kernel_rfl) (HS7.out _ (bdrewO hb6.out)) (fun hHeld => ?_)
    refine wpAnyH_take (i := 0) (oi := _) (v := ?v0f) rfl (by kernel_rfl) (by kernel_rfl) (by kernel_rfl) (fun _ _ _ h => h) (Or.inl ⟨by rfl, ?y0f⟩) (by assumption) ?r0f
    case y0f => (intro w hSw; (try dsimp only at hSw); go_simp <;> with_reducible rfl)
    try simp only [List.getElem_toArray, List.getElem_cons_succ, List.getElem_cons_zero, Act.put, List.setIfInBounds_toArray, List.set_cons_zero, List.set_cons_succ]
    refine wpAnyH_take (i := 1) (oi := _) (v := ?v1f) rfl (by kernel_rfl) (by kernel_rfl) (by kernel_rfl) (fun _ _ _ h => h) (Or.inl ⟨by rfl, ?y1f⟩) (by assumption) ?r1f
    case y1f => (intro w hSw; (try dsimp only at hSw); go_simp <;> with_reducible rfl)
    try simp only [List.getElem_toArray, List.getElem_cons_succ, List.getElem_cons_zero, Act.put, List.setIfInBounds_toArray, List.set_cons_zero, List.set_cons_succ]
    refine wpAnyH_take (i := 2) (oi := _) (v := ?v2f) rfl (by kernel_rfl) (by kernel_rfl) (by kernel_rfl) (fun _ _ _ h => h) (Or.inl ⟨by rfl, ?y2f⟩) (by assumption) ?r2f
    case y2f => (intro w hSw; (try dsimp only at hSw); go_simp <;> with_reducible rfl)
    try simp only [List.getElem_toArray, List.getElem_cons_succ, List.getElem_cons_zero, Act.put, List.setIfInBounds_toArray, List.set_cons_zero, List.set_cons_succ]
    refine wpAnyH_take (i := 3) (oi := _) (v := ?v3f) rfl (by kernel_rfl) (by kernel_rfl) (by kernel_rfl) (fun _ _ _ h => h) (Or.inl ⟨by rfl, ?y3f⟩) (by assumption) ?r3f
    case y3f => (intro w hSw; (try dsimp only at hSw); go_simp <;> with_reducible rfl)
    try simp only [List.getElem_toArray, List.getElem_cons_succ, List.getElem_cons_zero, Act.put, List.setIfInBounds_toArray, List.set_cons_zero, List.set_cons_succ]
    refine wpAnyH_take (i := 4) (oi := _) (v := ?v4f) rfl (by kernel_rfl) (by kernel_rfl) (by kernel_rfl) (fun _ _ _ h => h) (Or.inl ⟨by rfl, ?y4f⟩) (by assumption) ?r4f
    case y4f => (intro w hSw; (try dsimp only at hSw); go_simp <;> with_reducible rfl)
    try simp only [List.getElem_toArray, List.getElem_cons_succ, List.getElem_cons_zero, Act.put, List.setIfInBounds_toArray, List.set_cons_zero, List.set_cons_succ]
    refine wpAnyH_take (i := 5) (oi := _) (v := ?v5f) rfl (by kernel_rfl) (by kernel_rfl) (by kernel_rfl) (fun _ _ _ h => h) (Or.inl ⟨by rfl, ?y5f⟩) (by assumption) ?r5f
    case y5f => (intro w hSw; (try dsimp only at hSw); go_simp <;> with_reducible rfl)
    try simp only [List.getElem_toArray, List.getElem_cons_succ, List.getElem_cons_zero, Act.put, List.setIfInBounds_toArray, List.set_cons_zero, List.set_cons_succ]
    refine wpAnyH_take (i := 6) (oi := _) (v := ?v6f) rfl (by kernel_rfl) (by kernel_rfl) (by kernel_rfl) (fun _ _ _ h => h) (Or.inl ⟨by rfl, ?y6f⟩) (by assumption) ?r6f
    case y6f => (intro w hSw; (try dsimp only at hSw); go_simp <;> with_reducible rfl)
    try simp only [List.getElem_toArray, List.getElem_cons_succ, List.getElem_cons_zero, Act.put, List.setIfInBounds_toArray, List.set_cons_zero, List.set_cons_succ]
    refine wpAnyH_take (i := 7) (oi := _) (v := ?v7f) rfl (by kernel_rfl) (by kernel_rfl) (by kernel_rfl) (fun _ _ _ h => h) (Or.inl ⟨by rfl, ?y7f⟩) (by assumption) ?r7f
    case y7f => (intro w hSw; (try dsimp only at hSw); go_simp <;> with_reducible rfl)
    try simp only [List.getElem_toArray, List.getElem_cons_succ, List.getElem_cons_zero, Act.put, List.setIfInBounds_toArray, List.set_cons_zero, List.set_cons_succ]
    refine wpAnyH_take (i := 8) (oi := _) (v := ?v8f) rfl (by kernel_rfl) (by kernel_rfl) (by kernel_rfl) (fun _ _ _ h => h) (Or.inl ⟨by rfl, ?y8f⟩) (by assumption) ?r8f
    case y8f => (intro w hSw; (try dsimp only at hSw); go_simp <;> with_reducible rfl)
    try simp only [List.getElem_toArray, List.getElem_cons_succ, List.getElem_cons_zero, Act.put, List.setIfInBounds_toArray, List.set_cons_zero, List.set_cons_succ]
    refine wpAnyH_take (i := 9) (oi := _) (v := ?v9f) rfl (by kernel_rfl) (by kernel_rfl) (by kernel_rfl) (fun _ _ _ h => h) (Or.inl ⟨by rfl, ?y9f⟩) (by assumption) ?r9f
    case y9f => (intro w hSw; (try dsimp only at hSw); go_simp <;> with_reducible rfl)
    try simp only [List.getElem_toArray, List.getElem_cons_succ, List.getElem_cons_zero, Act.put, List.setIfInBounds_toArray, List.set_cons_zero, List.set_cons_succ]
    refine wpAnyH_take (i := 10) (oi := _) (v := ?v10f) rfl (by kernel_rfl) (by kernel_rfl) (by kernel_rfl) (fun _ _ _ h => h) (Or.inl ⟨by rfl, ?y10f⟩) (by assumption) ?r10f
    case y10f => (intro w hSw; (try dsimp only at hSw); go_simp <;> with_reducible rfl)
    try simp only [List.getElem_toArray, List.getElem_cons_succ, List.getElem_cons_zero, Act.put, List.setIfInBounds_toArray, List.set_cons_zero, List.set_cons_succ]
    refine wpAnyH_take (i := 11) (oi := _) (v := ?v11f) rfl (by kernel_rfl) (by kernel_rfl) (by kernel_rfl) (fun _ _ _ h => h) (Or.inl ⟨by rfl, ?y11f⟩) (by assumption) ?r11f
    case y11f => (intro w hSw; (try dsimp only at hSw); go_simp <;> with_reducible rfl)
    try simp only [List.getElem_toArray, List.getElem_cons_succ, List.getElem_cons_zero, Act.put, List.setIfInBounds_toArray, List.set_cons_zero, List.set_cons_succ]
    refine wpAnyH_take (i := 12) (oi := _) (v := .agg LA.toArray) rfl (by kernel_rfl) (by kernel_rfl) (by kernel_rfl) (fun _ _ _ h => h) (yieldsIf_load_mid (by rfl) _ _ rfl _ _ rfl LA _ (fun w hSw => hSw.1) Tryd.underlying53 rfl (by rw [hla]; kernel_rfl)) (by assumption) ?_
    try simp only [List.getElem_toArray, List.getElem_cons_succ, List.getElem_cons_zero, Act.put, List.setIfInBounds_toArray, List.set_cons_zero, List.set_cons_succ]
    refine wpAnyH_take (i := 13) (oi := _) (v := .agg LB.toArray) rfl (by kernel_rfl) (by kernel_rfl) (by kernel_rfl) (fun _ _ _ h => h) (yieldsIf_load_mid (by rfl) _ _ rfl _ _ rfl LB _ (fun w hSw => hSw.2.1) Tryd.underlying53 rfl (by rw [hlb]; kernel_rfl)) (by assumption) ?_
    try simp only [List.getElem_toArray, List.getElem_cons_succ, List.getElem_cons_zero, Act.put, List.setIfInBounds_toArray, List.set_cons_zero, List.set_cons_succ]
    refine wpAnyH_ready (rs := [14]) (by kernel_rfl) (by simp) ?_
    refine AllReadyH.cons (o := _) rfl (fun K hK => ?_) AllReadyH.nil
    go_simp
    refine (hms.out _ (by first | exact hb6.out | exact bdrewO hb6.out)).mono ?_
    rintro e w7 ⟨rfl, hb⟩
    have hb7 := Lib.hid (bthenO hb6.out hb)
    clear hb
    refine hK.out _ _ (HS7.out _ hb7.out) (fun hHeld2 => ?_)
    clear hK K hHeld
    have hHeld := hHeld2
    clear hHeld2
    try simp only [List.getElem_toArray, List.getElem_cons_succ, List.getElem_cons_zero, Act.put, List.setIfInBounds_toArray, List.set_cons_zero, List.set_cons_succ]
    refine wpAnyH_take (i := 15) (oi := _) (v := ?v15f) rfl (by kernel_rfl) (by kernel_rfl) (by kernel_rfl) (fun _ _ _ h => h) (Or.inl ⟨by rfl, ?y15f⟩) (by assumption) ?r15f
    case y15f => (intro w hSw; (try dsimp only at hSw); go_simp <;> with_reducible rfl)
    try simp only [List.getElem_toArray, List.getElem_cons_succ, List.getElem_cons_zero, Act.put, List.setIfInBounds_toArray, List.set_cons_zero, List.set_cons_succ]
    refine wpAnyH_take (i := 16) (oi := _) (v := ?v16f) rfl (by kernel_rfl) (by kernel_rfl) (by kernel_rfl) (fun _ _ _ h => h) (Or.inl ⟨by rfl, ?y16f⟩) (by assumption) ?r16f
    case y16f => (intro w hSw; (try dsimp only at hSw); go_simp <;> with_reducible rfl)
    try simp only [List.getElem_toArray, List.getElem_cons_succ, List.getElem_cons_zero, Act.put, List.setIfInBounds_toArray, List.set_cons_zero, List.set_cons_succ]
    refine wpAnyH_take (i := 17) (oi := _) (v := ?v17f) rfl (by kernel_rfl) (by kernel_rfl) (by kernel_rfl) (fun _ _ _ h => h) (Or.inl ⟨by rfl, ?y17f⟩) (by assumption) ?r17f
    case y17f => (intro w hSw; (try dsimp only at hSw); go_simp <;> with_reducible rfl)
    try simp only [List.getElem_toArray, List.getElem_cons_succ, List.getElem_cons_zero, Act.put, List.setIfInBounds_toArray, List.set_cons_zero, List.set_cons_succ]
    refine wpAnyH_ready (rs := [18]) (by kernel_rfl) (by simp) ?_
    refine AllReadyH.cons (o := _) rfl (fun K hK => ?_) AllReadyH.nil
    go_simp
    refine (hkn.out _ (by first | exact hb7.out | exact bdrewO hb7.out)).mono ?_
    rintro e w8 ⟨rfl, hb⟩
    have hb8 := Lib.hid (bthenO hb7.out hb)
    clear hb
    refine hK.out _ _ (HS7.out _ hb8.out) (fun hHeld2 => ?_)
    clear hK K hHeld
    have hHeld := hHeld2
    clear hHeld2
    try simp only [List.getElem_toArray, List.getElem_cons_succ, List.getElem_cons_zero, Act.put, List.setIfInBounds_toArray, List.set_cons_zero, List.set_cons_succ]
    refine wpAnyH_take (i := 19) (oi := _) (v := ?v19f) rfl (by kernel_rfl) (by kernel_rfl) (by kernel_rfl) (fun _ _ _ h => h) (Or.inl ⟨by rfl, ?y19f⟩) (by assumption) ?r19f
    case y19f => (intro w hSw; (try dsimp only at hSw); go_simp <;> with_reducible rfl)
    try simp only [List.getElem_toArray, List.getElem_cons_succ, List.getElem_cons_zero, Act.put, List.setIfInBounds_toArray, List.set_cons_zero, List.set_cons_succ]
    refine wpAnyH_take (i := 20) (oi := _) (v := ?v20f) rfl (by kernel_rfl) (by kernel_rfl) (by kernel_rfl) (fun _ _ _ h => h) (Or.inl ⟨by rfl, ?y20f⟩) (by assumption) ?r20f
    case y20f => (intro w hSw; (try dsimp only at hSw); go_simp <;> with_reducible rfl)
    try simp only [List.getElem_toArray, List.getElem_cons_succ, List.getElem_cons_zero, Act.put, List.setIfInBounds_toArray, List.set_cons_zero, List.set_cons_succ]
    refine wpAnyH_done (by kernel_rfl) ?_ _
    go_wp2
    go_ret
    exact hfin.out _ hb8.out
end Go.Proofs.YtinnifhnabncfaaDoor.Vi
end
