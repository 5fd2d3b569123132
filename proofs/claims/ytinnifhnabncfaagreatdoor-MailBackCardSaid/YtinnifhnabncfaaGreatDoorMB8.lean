/- Texts put together: FrR, Msg8, Msg9, MsgA, TNum, MBk1, Kn6, Dk1, MBack. -/
import Derived.Laws.IdiomCopy
import Derived.Test.YtinnifhnabncfaaGreatDoorMB5
import Derived.Test.YtinnifhnabncfaaGreatDoorMB6
import Derived.Test.YtinnifhnabncfaaGreatDoorMB7
set_option linter.unusedVariables false
set_option linter.unusedSimpArgs false
/- Contract of frame.Read. -/
section
namespace Go.Proofs.YtinnifhnabncfaaGreatDoor.Vi
open Go.RowKit Base Mem Go.Shelf
def FrRead (l : List UInt8) (w : World) (e : Ending) (w' : World) : Prop := match readF l with
  | none => e = .returned (.tuple #[.slice none 0 0, .int .i64 0, .bool false]) ∧ Below w.heap.size w w'
  | some (x, n) => ∃ A c, e = .returned (.tuple #[.slice A x.length c, .int .i64 n, .bool true]) ∧ (∀ M, (∀ g ∈ M, g < w.heap.size) → Bs w' M (.slice A x.length c) x) ∧ Below w.heap.size w w'
theorem u32_or_shift (a b k : Nat) (ha : a < 2 ^ k) (hk : k ≤ 24) (hb : b < 256) : bits .or .u32 (a : Int) ((b * 2 ^ k : Nat) : Int) = ((a + b * 2 ^ k : Nat) : Int) := by
  have hp : 2 ^ k ≤ 2 ^ 24 := Nat.pow_le_pow_right (by omega) hk
  have hb2 : b * 2 ^ k ≤ 255 * 2 ^ 24 := Nat.mul_le_mul (by omega) hp
  have hlt : a + b * 2 ^ k < 4294967296 := by omega
  show IntKind.u32.wrap ((BitVec.ofInt 32 (a : Int) ||| BitVec.ofInt 32 ((b * 2 ^ k : Nat) : Int)).toNat : Int) = _
  rw [BitVec.toNat_or, BitVec.ofInt_natCast, BitVec.ofInt_natCast, BitVec.toNat_ofNat, BitVec.toNat_ofNat, Nat.mod_eq_of_lt (by omega), Nat.mod_eq_of_lt (by omega), Nat.or_comm, nat_join k (b * 2 ^ k) a (Nat.mul_mod_left _ _) ha, IntKind.wrap_u32]
  omega
set_option maxRecDepth 100000 in
set_option maxHeartbeats 1000000 in
theorem framer_any (v : Value) (l : List UInt8) (w : World) (h : Bs w [] v l) (hl : l.length ≤ 4611686018427387000) :
    Calls Tryz.prog 101 #[v] w fun e w' => FrRead l w e w' := by
  have hg := Lib.hid (get_any v l w h (by omega))
  obtain ⟨A, c, rfl, hc⟩ := h.len
  have H := Lib.hid h
  obtain ⟨hk, hn⟩ := getL_le l
  have HC := Lib.hid (show readF l = (if (getL l).2 = 0 ∨ 65536 < (getL l).1 ∨ l.length < (getL l).2 + 4 + (getL l).1 then none
    else if crcOf ((l.drop ((getL l).2 + 4)).take (getL l).1) = unL (l.drop (getL l).2) then some ((l.drop ((getL l).2 + 4)).take (getL l).1, (getL l).2 + 4 + (getL l).1) else none) from rfl)
  have hnone : Hid (∀ q, readF l = none → FrRead l w (.returned (.tuple #[.slice none 0 0, .int .i64 0, .bool false])) (w.drewN q)) := fun q h => by
    unfold FrRead; rw [h]; exact ⟨rfl, ((Keeps.refl [] w).drewN q).below⟩
  clear h
  generalize (getL l).1 = n at *
  generalize (getL l).2 = k at *
  by_cases hk0 : k = 0
  · have hR := Lib.hid (fun q => hnone.out q (by rw [HC.out, if_pos (.inl hk0)]))
    subst hk0
    clear HC hnone
    go_enter Tryz.func101, Tryz.ntmps101
    go_wp2_with fail
    refine hg.out.mono ?_
    rintro e w1 ⟨rfl, q, rfl⟩
    go_wp2
    go_ret3
    exact hR.out q
  · have hkz : ((k : Int) == 0) = false := by simpa using hk0
    by_cases hn6 : 65536 < n
    · have hR := Lib.hid (fun q => hnone.out q (by rw [HC.out, if_pos (.inr (.inl hn6))]))
      have hni : (65536 : Int) < (n : Int) := by omega
      clear HC hnone
      go_enter Tryz.func101, Tryz.ntmps101
      go_wp2_with fail
      refine hg.out.mono ?_
      rintro e w1 ⟨rfl, q, rfl⟩
      go_wp2
      go_ret3
      exact hR.out q
    · have hni : decide ((65536 : Int) < (n : Int)) = false := decide_eq_false (by omega)
      have hwn : IntKind.i64.wrap (n : Int) = (n : Int) := by rw [IntKind.wrap_i64]; omega
      have hwk : IntKind.i64.wrap ((k : Int) + 4) = (k : Int) + 4 := by rw [IntKind.wrap_i64]; omega
      have hwkn : IntKind.i64.wrap ((k : Int) + 4 + (n : Int)) = (k : Int) + 4 + (n : Int) := by rw [IntKind.wrap_i64]; omega
      by_cases hlen : l.length < k + 4 + n
      · have hR := Lib.hid (fun q => hnone.out q (by rw [HC.out, if_pos (.inr (.inr hlen))]))
        have hli : (l.length : Int) < (k : Int) + 4 + (n : Int) := by omega
        clear HC hnone
        go_enter Tryz.func101, Tryz.ntmps101
        go_wp2_with fail
        refine hg.out.mono ?_
        rintro e w1 ⟨rfl, q, rfl⟩
        go_wp2
        go_ret3
        exact hR.out q
      · have hli : decide ((l.length : Int) < (k : Int) + 4 + (n : Int)) = false := decide_eq_false (by omega)
        have HT : Hid (readF l = if crcOf ((l.drop (k + 4)).take n) = unL (l.drop k) then some ((l.drop (k + 4)).take n, k + 4 + n) else none) := by
          show _ = _; rw [HC.out, if_neg (by omega)]
        obtain ⟨g, off, rfl⟩ := H.out.some_ (by omega)
        have hcell : ∀ j, (hj : j < l.length) → w.cell? ⟨g, off + j, none⟩ = some (.int .u8 (l[j]'hj).toNat) := fun j hj => by
          obtain ⟨A', c', e2, _, _, hr⟩ := H.out
          injection e2 with e2 _ _
          subst e2
          obtain ⟨g', off', e3, _, _, hx⟩ := hr (by omega)
          injection e3 with e3
          injection e3 with e3 e4 _
          subst e3 e4
          exact hx j _ (by rw [List.getElem?_map, List.getElem?_eq_getElem hj]; rfl)
        have hcg : g < w.heap.size := World.block_lt_of_cell? w _ (hcell 0 (by omega))
        have k0 := hcell k (by omega)
        have k1 := hcell (k + 1) (by omega)
        have k2 := hcell (k + 2) (by omega)
        have k3 := hcell (k + 3) (by omega)
        have hun : unL (l.drop k) = l[k].toNat + 256 * l[k + 1].toNat + 65536 * l[k + 2].toNat + 16777216 * l[k + 3].toNat := by
          unfold unL
          simp only [List.getD_eq_getElem?_getD, List.getElem?_drop, Nat.add_zero]
          rw [List.getElem?_eq_getElem (by omega), List.getElem?_eq_getElem (by omega), List.getElem?_eq_getElem (by omega), List.getElem?_eq_getElem (by omega)]
          rfl
        rw [hun] at HT
        have b0 := l[k].toNat_lt; have b1 := l[k + 1].toNat_lt; have b2 := l[k + 2].toNat_lt; have b3 := l[k + 3].toNat_lt
        generalize l[k].toNat = x0 at *
        generalize l[k + 1].toNat = x1 at *
        generalize l[k + 2].toNat = x2 at *
        generalize l[k + 3].toNat = x3 at *
        clear hcell hun HC hnone
        have Hk0 := Lib.hid k0; have Hk1 := Lib.hid k1; have Hk2 := Lib.hid k2; have Hk3 := Lib.hid k3
        clear k0 k1 k2 k3
        go_enter Tryz.func101, Tryz.ntmps101
        go_wp2_with fail
        refine hg.out.mono ?_
        rintro e w1 ⟨rfl, q, rfl⟩
        go_wp2_with fail
        go_loopw [7, 32] (fun s i wr => ∃ (x p : Nat), i = .int .i64 x ∧ x ≤ 4 ∧ s = .int .u32 p ∧ Hid ((x = 0 → p = 0) ∧ (x = 1 → p = x0) ∧ (x = 2 → p = x0 + x1 * 2 ^ 8) ∧ (x = 3 → p = x0 + x1 * 2 ^ 8 + x2 * 2 ^ 16) ∧ (x = 4 → p = x0 + x1 * 2 ^ 8 + x2 * 2 ^ 16 + x3 * 2 ^ 24)) ∧ wr = w.drewN q) (fun _ i _ => 4 - (intOf i).toNat)
        case atStart => exact ⟨0, 0, rfl, by omega, rfl, ⟨by omega, by omega, by omega, by omega, by omega⟩, rfl⟩
        case round =>
          obtain ⟨x, p, rfl, hx, rfl, Hp, rfl⟩ := hrel
          rcases (show x = 0 ∨ x = 1 ∨ x = 2 ∨ x = 3 ∨ x = 4 by omega) with rfl | rfl | rfl | rfl | rfl
          · have Hpv := Lib.hid (Hp.out.1 rfl)
            have c0 := Hk0.out
            have Hor : Hid (bits .or .u32 (p : Int) (x0 : Int) = ((p + x0 * 2 ^ 0 : Nat) : Int)) := by
              have := u32_or_shift p x0 0 (by have := Hpv.out; omega) (by omega) b0
              rw [show ((x0 * 2 ^ 0 : Nat) : Int) = (x0 : Int) by omega] at this
              exact this
            go_wp2_with fail
            exact ⟨⟨1, p + x0 * 2 ^ 0, by go_num, by omega, by first | rw [Hor.out] | (rw [← Hor.out]), ⟨by omega, fun _ => by have := Hpv.out; omega, by omega, by omega, by omega⟩, by first | trivial | rfl⟩, by simp [intOf]⟩
          · have Hpv := Lib.hid (Hp.out.2.1 rfl)
            have c0 := Hk1.out
            have Hor : Hid (bits .or .u32 (p : Int) ((x1 : Int) * 256) = ((p + x1 * 2 ^ 8 : Nat) : Int)) := by
              have := u32_or_shift p x1 8 (by have := Hpv.out; omega) (by omega) b1
              rw [show ((x1 * 2 ^ 8 : Nat) : Int) = ((x1 : Int) * 256) by omega] at this
              exact this
            go_wp2_with fail
            exact ⟨⟨2, p + x1 * 2 ^ 8, by go_num, by omega, by first | rw [Hor.out] | (rw [← Hor.out]), ⟨by omega, by omega, fun _ => by have := Hpv.out; omega, by omega, by omega⟩, by first | trivial | rfl⟩, by simp [intOf]⟩
          · have Hpv := Lib.hid (Hp.out.2.2.1 rfl)
            have c0 := Hk2.out
            have Hor : Hid (bits .or .u32 (p : Int) ((x2 : Int) * 65536) = ((p + x2 * 2 ^ 16 : Nat) : Int)) := by
              have := u32_or_shift p x2 16 (by have := Hpv.out; omega) (by omega) b2
              rw [show ((x2 * 2 ^ 16 : Nat) : Int) = ((x2 : Int) * 65536) by omega] at this
              exact this
            go_wp2_with fail
            exact ⟨⟨3, p + x2 * 2 ^ 16, by go_num, by omega, by first | rw [Hor.out] | (rw [← Hor.out]), ⟨by omega, by omega, by omega, fun _ => by have := Hpv.out; omega, by omega⟩, by first | trivial | rfl⟩, by simp [intOf]⟩
          · have Hpv := Lib.hid (Hp.out.2.2.2.1 rfl)
            have c0 := Hk3.out
            have Hor : Hid (bits .or .u32 (p : Int) ((x3 : Int) * 16777216) = ((p + x3 * 2 ^ 24 : Nat) : Int)) := by
              have := u32_or_shift p x3 24 (by have := Hpv.out; omega) (by omega) b3
              rw [show ((x3 * 2 ^ 24 : Nat) : Int) = ((x3 : Int) * 16777216) by omega] at this
              exact this
            go_wp2_with fail
            exact ⟨⟨4, p + x3 * 2 ^ 24, by go_num, by omega, by first | rw [Hor.out] | (rw [← Hor.out]), ⟨by omega, by omega, by omega, by omega, fun _ => by have := Hpv.out; omega⟩, by first | trivial | rfl⟩, by simp [intOf]⟩
          · have Hpv : Hid (p = x0 + 256 * x1 + 65536 * x2 + 16777216 * x3) := by have := Hp.out.2.2.2.2 rfl; show _ = _; omega
            have HX : Hid (readF l = if crcOf ((l.drop (k + 4)).take n) = p then some ((l.drop (k + 4)).take n, k + 4 + n) else none) := by show _ = _; rw [HT.out, Hpv.out]
            have hxl : ((l.drop (k + 4)).take n).length = n := by rw [List.length_take, List.length_drop]; omega
            have hki : (k : Int) + 4 ≤ (k : Int) + 4 + (n : Int) := by omega
            have hkc : (k : Int) + 4 + (n : Int) ≤ (c : Int) := by omega
            have hHq := H.out.keep (M' := []) ((Keeps.refl [] w).drewN q) (by simp)
            have hend : Hid (∀ (v' : Value) (W w' : World), W = w.drewN q → w'.ownsRow W.heap.size 5 1 v' n (((l.drop (k + 4)).take n).map bV) → Below W.heap.size W w' → ∃ A' c', v' = .slice A' n c' ∧ Calls Tryz.prog 154 #[v'] w' (fun e w'' => e = .returned (.int .u32 (crcOf ((l.drop (k + 4)).take n))) ∧ w' = w'') ∧ (crcOf ((l.drop (k + 4)).take n) = p → FrRead l w (.returned (.tuple #[v', .int .i64 ((k : Int) + 4 + (n : Int)), .bool true])) w') ∧ (¬ crcOf ((l.drop (k + 4)).take n) = p → FrRead l w (.returned (.tuple #[.slice none 0 0, .int .i64 0, .bool false])) w')) := by
              rintro v' W w' rfl hown hb
              have hB : ∀ M, (∀ g ∈ M, g < w.heap.size) → Bs w' M v' ((l.drop (k + 4)).take n) := fun M hM => by
                unfold Bs
                rw [hxl]
                exact Rd.of_own hown hM
              have hbw : Below w.heap.size w w' := ⟨hb.os, hb.tape, hb.output, hb.size, hb.block⟩
              obtain ⟨A', c', e, _⟩ := (hB [] (by simp)).len
              rw [hxl] at e
              refine ⟨A', c', e, crcof_any v' _ w' (hB [] (by simp)) (by omega), fun h => ?_, fun h => ?_⟩
              · unfold FrRead
                rw [HX.out, if_pos h]
                refine ⟨A', c', ?_, ?_, hbw⟩
                · rw [hxl, e, Int.natCast_add, Int.natCast_add]; rfl
                · rw [hxl, ← e]; exact hB
              · unfold FrRead
                rw [HX.out, if_neg h]
                exact ⟨rfl, hbw⟩
            clear Hk0 Hk1 Hk2 Hk3 Hp HT HX Hpv
            by_cases hck : c = k + 4
            · obtain rfl : n = 0 := by omega
              have hcl := Lib.hid (cloneU8 [] (.slice (some ⟨g, off, none⟩) 0 0) 0 [] (w.drewN q) ⟨_, 0, rfl, Nat.le_refl _, rfl, fun h => absurd h (by omega)⟩ (by simp) (by omega))
              rw [List.take_zero, List.map_nil] at hend
              generalize crcOf ([] : List UInt8) = cx at *
              go_wp2_with fail
              refine hcl.out.mono ?_
              rintro e w2 ⟨v', rfl, hown, hb⟩
              obtain ⟨A', c', rfl, hcr, hy, hno⟩ := hend.out v' _ w2 rfl hown hb
              have Hcr := Lib.hid hcr; have Hy := Lib.hid hy; have Hno := Lib.hid hno
              clear hown hb hcl hcr hy hno hend
              go_wp2_with fail
              refine Hcr.out.mono ?_
              rintro e w3 ⟨rfl, rfl⟩
              by_cases hcp : cx = p
              · have hne : ((cx : Int) != (p : Int)) = false := by simp [hcp]
                have hp := Lib.hid (Hy.out hcp)
                clear hcp Hy Hno
                go_wp2
                go_ret3
                exact hp.out
              · have hne : ((cx : Int) != (p : Int)) = true := by simp; omega
                have hp := Lib.hid (Hno.out hcp)
                clear hcp Hy Hno
                go_wp2
                go_ret3
                exact hp.out
            · have hpt := hHq.part (k + 4) n (by omega) (c - (k + 4)) (by omega) (some ⟨g, off + (k + 4), none⟩) (fun _ => rfl)
              unfold Bs at hpt
              rw [hxl] at hpt
              have hcl := Lib.hid (cloneU8 [] _ n _ (w.drewN q) hpt (bV_one _) (by omega))
              generalize (l.drop (k + 4)).take n = xs at *
              generalize crcOf xs = cx at *
              clear hpt hHq
              go_wp2_with fail
              refine hcl.out.mono ?_
              rintro e w2 ⟨v', rfl, hown, hb⟩
              obtain ⟨A', c', rfl, hcr, hy, hno⟩ := hend.out v' _ w2 rfl hown hb
              have Hcr := Lib.hid hcr; have Hy := Lib.hid hy; have Hno := Lib.hid hno
              clear hown hb hcl hcr hy hno hend
              go_wp2_with fail
              refine Hcr.out.mono ?_
              rintro e w3 ⟨rfl, rfl⟩
              by_cases hcp : cx = p
              · have hne : ((cx : Int) != (p : Int)) = false := by simp [hcp]
                have hp := Lib.hid (Hy.out hcp)
                clear hcp Hy Hno
                go_wp2
                go_ret3
                exact hp.out
              · have hne : ((cx : Int) != (p : Int)) = true := by simp; omega
                have hp := Lib.hid (Hno.out hcp)
                clear hcp Hy Hno
                go_wp2
                go_ret3
                exact hp.out
end Go.Proofs.YtinnifhnabncfaaGreatDoor.Vi
end
/- Contract of mail.Read. -/
section
namespace Go.Proofs.YtinnifhnabncfaaGreatDoor.Vi
open Go.RowKit Base Mem Go.Shelf
def mReadS (l : List UInt8) : MsgD × Nat :=
  match readF l with
  | none => (zeroM, 12)
  | some (x, n) => if n ≠ l.length then (zeroM, 12) else
    if (mreadS (byteS x false).1.toNat (byteS x false).2.1 (byteS x false).2.2).2.1 = true ∧ (!(mreadS (byteS x false).1.toNat (byteS x false).2.1 (byteS x false).2.2).2.2.2 && (mreadS (byteS x false).1.toNat (byteS x false).2.1 (byteS x false).2.2).2.2.1.isEmpty) = true ∧ mrightS (mreadS (byteS x false).1.toNat (byteS x false).2.1 (byteS x false).2.2).1 = 0
      then ((mreadS (byteS x false).1.toNat (byteS x false).2.1 (byteS x false).2.2).1, 0) else (zeroM, 12)
theorem readF_len {l x : List UInt8} {n : Nat} (h : readF l = some (x, n)) : x.length ≤ 65536 := by
  unfold readF at h
  split at h
  · cases h
  · rename_i hc
    split at h
    · injection h with h; injection h with h1 h2
      rw [← h1, List.length_take]
      omega
    · cases h
theorem short_zero : Short zeroD := ⟨by show (0 : Nat) < _; omega, by simp [zeroD], by simp [zeroD]⟩
theorem readE_short (l : List UInt8) (h : l.length < 4294967281) : Short (readE l).1 := by
  unfold readE
  split
  · exact (readH_short l h).1
  · exact short_zero
theorem getEs_short : ∀ (k : Nat) (l : List UInt8) (b : Bool), l.length < 4294967281 → ∀ es, (getEs k l b).1 = some es → es.length = k ∧ ∀ e ∈ es, Short e
  | 0, l, b, _, es, h => by
    injection h with h; subst h; simp
  | k + 1, l, b, hl, es, h => by
    have ht := textS_len l b
    unfold getEs at h
    split at h
    · cases h
    · have ih := getEs_short k (textS l b).2.1 (textS l b).2.2 (by omega)
      generalize getEs k (textS l b).2.1 (textS l b).2.2 = G at *
      obtain ⟨_ | fs, s⟩ := G
      · cases h
      · simp only [preE] at h
        injection h with h; subst h
        obtain ⟨h1, h2⟩ := ih fs rfl
        refine ⟨by simp [h1], fun e he => ?_⟩
        rcases List.mem_append.1 he with he | he
        · simp at he; subst he; exact readE_short _ (by omega)
        · exact h2 e he
theorem mgetS_short (l : List UInt8) (b : Bool) (hl : l.length < 4294967281) : ((mgetS l b).1.getD []).length ≤ 128 ∧ ∀ e ∈ (mgetS l b).1.getD [], Short e := by
  have h1 := countS_len l b 128
  have h2 := countS_most l b 128
  have h := getEs_short (countS l b 128).1 (countS l b 128).2.1 (countS l b 128).2.2 (by omega)
  unfold mgetS
  generalize getEs (countS l b 128).1 (countS l b 128).2.1 (countS l b 128).2.2 = G at *
  obtain ⟨_ | es, s⟩ := G
  · simp
  · obtain ⟨h3, h4⟩ := h es rfl
    exact ⟨by show es.length ≤ 128; omega, h4⟩
theorem mreadS_short (k : Nat) (l : List UInt8) (b : Bool) (hl : l.length < 4294967281) : MShort (mreadS k l b).1 := by
  have ht := textS_len l b
  have hi := intS_len l b
  unfold mreadS
  split
  · exact ⟨readE_short _ (by omega), by simp, by simp⟩
  split
  · exact ⟨short_zero, by simp, by simp⟩
  split
  · have h2 := intS_len (intS l b).2.1 (intS l b).2.2
    have := mgetS_short (intS (intS l b).2.1 (intS l b).2.2).2.1 (intS (intS l b).2.1 (intS l b).2.2).2.2 (by omega)
    exact ⟨short_zero, Nat.le_trans this.1 (by omega), this.2⟩
  split
  · have h2 := countS_len (intS l b).2.1 (intS l b).2.2 128
    have := mgetS_short (countS (intS l b).2.1 (intS l b).2.2 128).2.1 (countS (intS l b).2.1 (intS l b).2.2 128).2.2 (by omega)
    exact ⟨short_zero, Nat.le_trans this.1 (by omega), this.2⟩
  split
  · exact ⟨short_zero, by simp, by simp⟩
  · exact ⟨short_zero, by simp, by simp⟩
def MReadP (R : MsgD × Nat) (w : World) (e : Ending) (w' : World) : Prop := ∃ dv lv, e = .returned (.tuple #[.agg (mCell R.1 dv lv).toArray, .int .i64 R.2]) ∧ (∀ M, (∀ g ∈ M, g < w.heap.size) → MsgAt w' M R.1 dv lv) ∧ Below w.heap.size w w'
theorem mbad {R : MsgD × Nat} {w w1 wz : World} {g0 : Nat} (hR : R = (zeroM, 12)) (hk : Keeps [] w w1) (hz : Keeps [g0] w1 wz) (hg : g0 = w.heap.size) : MReadP R w (.returned (.tuple #[.agg #[.int .i64 0, .int .i64 0, .int .i64 0, .int .i64 0, .int .i64 0, .int .i64 0, .slice none 0 0, .string ⟨#[]⟩, .int .i64 0, .int .i64 0, .int .i64 0, .int .i64 0, .int .u64 0, .int .i64 0, .int .i64 0, .slice none 0 0, .int .i64 0, .int .i64 0], .int .i64 12])) wz := by
  subst hR
  exact ⟨.slice none 0 0, .slice none 0 0, rfl, fun M _ => ⟨Ds.nil _ _, Ens.nil _ _⟩, (hk.trans hz (by intro x hx; simp at hx; right; omega) : Keeps [] w wz).below⟩
set_option maxRecDepth 100000 in
set_option maxHeartbeats 1000000 in
theorem mRead_any (v : Value) (l : List UInt8) (mx : Int) (w : World) (h : Bs w [] v l) (hl : l.length ≤ 4611686018427387000) (hm : w.cell? ⟨0, 0, none⟩ = some (.int .i64 mx)) :
    Calls Tryz.prog 53 #[v] w fun e w' => MReadP (mReadS l) w e w' := by
  have hw0 : 0 < w.heap.size := by
    have := World.block_lt_of_cell? w _ hm
    simpa using this
  have hkeepm : Hid (∀ W, Keeps [] w W → W.cell? ⟨0, 0, none⟩ = some (.int .i64 mx)) := fun W hb => (hb.cell (p := ⟨0, 0, none⟩) hw0 (by simp)).trans hm
  have hfl := fun x n (h : readF l = some (x, n)) => readF_len h
  have HR : Hid (mReadS l = match readF l with
    | none => (zeroM, 12)
    | some (x, n) => if n ≠ l.length then (zeroM, 12) else
      if (mreadS (byteS x false).1.toNat (byteS x false).2.1 (byteS x false).2.2).2.1 = true ∧ (!(mreadS (byteS x false).1.toNat (byteS x false).2.1 (byteS x false).2.2).2.2.2 && (mreadS (byteS x false).1.toNat (byteS x false).2.1 (byteS x false).2.2).2.2.1.isEmpty) = true ∧ mrightS (mreadS (byteS x false).1.toNat (byteS x false).2.1 (byteS x false).2.2).1 = 0
        then ((mreadS (byteS x false).1.toNat (byteS x false).2.1 (byteS x false).2.2).1, 0) else (zeroM, 12)) := rfl
  obtain ⟨A, c, rfl, hc⟩ := h.len
  have H := Lib.hid h
  have hfr := Lib.hid (fun W (hk : Keeps [] w W) => framer_any _ l W (H.out.keep hk (by simp)) hl)
  generalize mReadS l = R at *
  clear h hm
  go_enter Tryz.func53, Tryz.ntmps53
  go_upto_region 1 with (fail)
  obtain ⟨w1, hw1⟩ : ∃ w1, w1 = w.alloc (.cells #[.int .i64 0, .int .i64 0, .int .i64 0, .int .i64 0, .int .i64 0, .int .i64 0, .slice none 0 0, .string ⟨#[]⟩, .int .i64 0, .int .i64 0, .int .i64 0, .int .i64 0, .int .u64 0, .int .i64 0, .int .i64 0, .slice none 0 0, .int .i64 0, .int .i64 0] 68) := ⟨_, rfl⟩
  rw [← hw1]
  have hK1 : Keeps [] w w1 := by rw [hw1]; exact (Keeps.refl _ _).alloc _
  have hB1 : Blk w1 w.heap.size 68 zeroR := by rw [hw1]; exact Blk.new w _ _
  obtain ⟨g0, hg0⟩ : ∃ g0, g0 = w.heap.size := ⟨_, rfl⟩
  rw [← hg0] at hB1 ⊢
  have hg1 : g0 < w1.heap.size := hB1.lt
  have hF := Lib.hid (hfr.out w1 hK1)
  have HK1 := Lib.hid hK1; have HB1 := Lib.hid hB1; have Hg0 := Lib.hid hg0
  clear hw1 hK1 hB1 hg0 hfr
  go_wp2_with fail
  simp only [FrRead] at hF
  generalize readF l = f at *
  cases f with
  | none =>
    simp only [] at HR hF
    refine hF.out.mono ?_
    rintro e w2 ⟨rfl, hb⟩
    have HB2 := Lib.hid (HB1.out.below hb hg1)
    have HK2 := Lib.hid (HK1.out.trans (Keeps.of_below (M := []) hb) (by simp))
    clear hb HB1 HK1 hF
    go_wp2_with (refine wpList_store_blk rfl 68 (.tmp 2) (.tmp 24) rfl g0 0 68 zeroR #[.int .i64 0, .int .i64 0, .int .i64 0, .int .i64 0, .int .i64 0, .int .i64 0, .slice none 0 0, .string ⟨#[]⟩, .int .i64 0, .int .i64 0, .int .i64 0, .int .i64 0, .int .u64 0, .int .i64 0, .int .i64 0, .slice none 0 0, .int .i64 0, .int .i64 0] #[.int .i64 0, .int .i64 0, .int .i64 0, .int .i64 0, .int .i64 0, .int .i64 0, .slice none 0 0, .string ⟨#[]⟩, .int .i64 0, .int .i64 0, .int .i64 0, .int .i64 0, .int .u64 0, .int .i64 0, .int .i64 0, .slice none 0 0, .int .i64 0, .int .i64 0] rfl rfl HB2.out (by show 0 + 18 ≤ 18; omega) rfl (by kernel_rfl) rfl ?_; intro wz hkz hBz; have Hkz := Lib.hid hkz; have HBz := Lib.hid hBz; clear hkz hBz)
    refine bodyPost_ret (results_cell2 rfl _ _ g0 68 #[.int .i64 0, .int .i64 0, .int .i64 0, .int .i64 0, .int .i64 0, .int .i64 0, .slice none 0 0, .string ⟨#[]⟩, .int .i64 0, .int .i64 0, .int .i64 0, .int .i64 0, .int .u64 0, .int .i64 0, .int .i64 0, .slice none 0 0, .int .i64 0, .int .i64 0] _ rfl HBz.out Tryz.underlying68 rfl (by kernel_rfl)) rfl ?_
    exact mbad (by rw [HR.out]) HK2.out Hkz.out Hg0.out
  | some xn =>
    obtain ⟨x, n⟩ := xn
    have hxl := hfl x n rfl
    simp only [] at HR hF
    refine hF.out.mono ?_
    rintro e w2 ⟨A2, c2, rfl, hS2, hb⟩
    have HB2 := Lib.hid (HB1.out.below hb hg1)
    have HK2 := Lib.hid (HK1.out.trans (Keeps.of_below (M := []) hb) (by simp))
    have HS2 := Lib.hid (hS2 [g0] (by intro x hx; simp at hx; omega))
    clear hb HB1 HK1 hF hS2 hfl
    by_cases hn : n = l.length
    · subst hn
      have HR2 : Hid (R = _) := HR.out.trans (if_neg (by simp))
      clear HR
      have hby := byteS_len x false
      go_wp2_with fail
      refine (new_any [g0] _ x w2 HS2.out (by omega)).mono ?_
      rintro e w3 ⟨rfl, hA3, hb3⟩
      have hg2 := HB2.out.lt
      have HB3 := Lib.hid (HB2.out.below hb3 hg2)
      have HK3 := Lib.hid (HK2.out.trans (Keeps.of_below (M := []) hb3) (by simp))
      have hpw := HK2.out.size
      have hby2 := Lib.hid (byte_any [g0] w2.heap.size x false w3 hA3)
      generalize w2.heap.size = p at *
      clear hA3 hb3 HB2 HK2 HS2
      generalize byteS x false = y at *
      obtain ⟨y1, y2, y3⟩ := y
      simp only [] at HR2 hby hby2
      go_wp2_with fail
      refine hby2.out.mono ?_
      rintro e w4 ⟨rfl, hA4, hk4⟩
      have HB4 := Lib.hid (hk4.blk HB3.out (by simp; omega))
      have HK4 : Hid (Keeps [] w w4) := HK3.out.trans hk4 (by intro q hq; simp at hq; right; omega)
      have hsh := mreadS_short y1.toNat y2 y3 (by omega)
      have hmr := Lib.hid (mread_any y1.toNat p y2 y3 mx w4 (hA4.avoid (by simp)) (by omega) (hkeepm.out w4 HK4.out) (by omega))
      clear hA4 hk4 hby2 HB3 HK3
      simp only [bV]
      have hk256 := UInt8.toNat_lt y1
      generalize y1.toNat = k at *
      have hwk : IntKind.i64.wrap (k : Int) = (k : Int) := by rw [IntKind.wrap_i64]; omega
      generalize mreadS k y2 y3 = r at *
      obtain ⟨m, okb, z2, z3⟩ := r
      simp only [] at HR2 hsh
      go_wp2_with fail
      refine hmr.out.mono ?_
      rintro e w5 ⟨dv, lv, rfl, hM, hA5, hk5⟩
      simp only [] at hM hA5
      have hri := Lib.hid (fun W (hk : Keeps [] w5 W) (hkw : Keeps [] w W) => mright_any m dv lv mx W ((hM [] (by simp)).keep hk (by simp)) hsh (hkeepm.out W hkw))
      have HB5 := Lib.hid (hk5.blk HB4.out (by simp; omega))
      have HK5 : Hid (Keeps [] w w5) := HK4.out.trans hk5 (by intro q hq; simp at hq; right; omega)
      have h45 := hk5.size; have h04 := HK4.out.size; have h44 := HB4.out.lt
      obtain ⟨Aa, na, rfl, _⟩ := (hM [] (by simp)).1.len
      obtain ⟨Ba, ka, rfl, _⟩ := (hM [] (by simp)).2.len
      have HM5 := Lib.hid hM; have HA5 := Lib.hid hA5
      clear hM hA5 hk5 hmr HB4 HK4 hsh
      generalize mrightS m = mr at *
      have Hfin : Hid (∀ wz, Keeps [g0] w5 wz → MReadP (m, 0) w (.returned (.tuple #[.agg (mCell m (.slice Aa m.en.ds.length na) (.slice Ba m.log.length ka)).toArray, .int .i64 0])) wz) := fun wz hk =>
        ⟨_, _, rfl, fun M hM => ((HM5.out (g0 :: M) (by intro q hq; have := Hg0.out; rcases List.mem_cons.1 hq with rfl | hq; omega; have := hM q hq; omega)).keep hk (by simp)).avoid (fun q hq => .inl (List.mem_cons_of_mem _ hq)), (HK5.out.trans hk (by intro q hq; simp at hq; right; have := Hg0.out; omega) : Keeps [] w wz).below⟩
      clear HM5
      obtain ⟨kd, ⟨kind, ag, sh, seq, ep, ds, ser, fr, etg⟩, tag, code, nn, term, had, log, commit, len⟩ := m
      simp only [mCell, eCell, List.cons_append, List.nil_append] at hri Hfin ⊢
      cases okb with
      | false =>
        go_wp2_with (first | (refine wpList_store_blk rfl 68 (.tmp 8) (.tmp 33) rfl w5.heap.size 0 68 _ #[.int .i64 kd, .int .i64 kind, .int .i64 ag, .int .i64 sh, .int .i64 seq, .int .i64 ep, .slice Aa ds.length na, .string ser, .int .i64 fr, .int .i64 etg, .int .i64 tag, .int .i64 code, .int .u64 nn, .int .i64 term, .int .i64 had, .slice Ba log.length ka, .int .i64 commit, .int .i64 len] #[.int .i64 kd, .int .i64 kind, .int .i64 ag, .int .i64 sh, .int .i64 seq, .int .i64 ep, .slice Aa ds.length na, .string ser, .int .i64 fr, .int .i64 etg, .int .i64 tag, .int .i64 code, .int .u64 nn, .int .i64 term, .int .i64 had, .slice Ba log.length ka, .int .i64 commit, .int .i64 len] rfl rfl (Blk.new _ _ _) (by show 0 + 18 ≤ 18; omega) rfl (by kernel_rfl) rfl ?_; intro w6 hk6 hB6; have hkk : Keeps [] w5 w6 := ((Keeps.refl _ _).alloc _).trans hk6 (by intro q hq; simp at hq; right; omega); have HK6 := Lib.hid (HK5.out.trans hkk (by simp)); have HB6 := Lib.hid (hkk.blk HB5.out (by simp)); have HB8 := Lib.hid hB6; have Hkk := Lib.hid hkk; clear hk6 hB6) | (refine wpList_store_blk rfl 68 (.tmp 2) (.tmp 47) rfl g0 0 68 zeroR #[.int .i64 0, .int .i64 0, .int .i64 0, .int .i64 0, .int .i64 0, .int .i64 0, .slice none 0 0, .string ⟨#[]⟩, .int .i64 0, .int .i64 0, .int .i64 0, .int .i64 0, .int .u64 0, .int .i64 0, .int .i64 0, .slice none 0 0, .int .i64 0, .int .i64 0] #[.int .i64 0, .int .i64 0, .int .i64 0, .int .i64 0, .int .i64 0, .int .i64 0, .slice none 0 0, .string ⟨#[]⟩, .int .i64 0, .int .i64 0, .int .i64 0, .int .i64 0, .int .u64 0, .int .i64 0, .int .i64 0, .slice none 0 0, .int .i64 0, .int .i64 0] rfl rfl HB6.out (by show 0 + 18 ≤ 18; omega) rfl (by kernel_rfl) rfl ?_; intro wz hkz hBz; have Hkz := Lib.hid hkz; have HBz := Lib.hid hBz; clear hkz hBz))
        refine bodyPost_ret (results_cell2 rfl _ _ g0 68 #[.int .i64 0, .int .i64 0, .int .i64 0, .int .i64 0, .int .i64 0, .int .i64 0, .slice none 0 0, .string ⟨#[]⟩, .int .i64 0, .int .i64 0, .int .i64 0, .int .i64 0, .int .u64 0, .int .i64 0, .int .i64 0, .slice none 0 0, .int .i64 0, .int .i64 0] _ rfl HBz.out Tryz.underlying68 rfl (by kernel_rfl)) rfl ?_
        exact mbad (by rw [HR2.out, if_neg (by simp)]) HK6.out Hkz.out Hg0.out
      | true =>
        go_wp2_with (refine wpList_store_blk rfl 68 (.tmp 8) (.tmp 33) rfl w5.heap.size 0 68 _ #[.int .i64 kd, .int .i64 kind, .int .i64 ag, .int .i64 sh, .int .i64 seq, .int .i64 ep, .slice Aa ds.length na, .string ser, .int .i64 fr, .int .i64 etg, .int .i64 tag, .int .i64 code, .int .u64 nn, .int .i64 term, .int .i64 had, .slice Ba log.length ka, .int .i64 commit, .int .i64 len] #[.int .i64 kd, .int .i64 kind, .int .i64 ag, .int .i64 sh, .int .i64 seq, .int .i64 ep, .slice Aa ds.length na, .string ser, .int .i64 fr, .int .i64 etg, .int .i64 tag, .int .i64 code, .int .u64 nn, .int .i64 term, .int .i64 had, .slice Ba log.length ka, .int .i64 commit, .int .i64 len] rfl rfl (Blk.new _ _ _) (by show 0 + 18 ≤ 18; omega) rfl (by kernel_rfl) rfl ?_; intro w6 hk6 hB6; have hkk : Keeps [] w5 w6 := ((Keeps.refl _ _).alloc _).trans hk6 (by intro q hq; simp at hq; right; omega); have HK6 := Lib.hid (HK5.out.trans hkk (by simp)); have HB6 := Lib.hid (hkk.blk HB5.out (by simp)); have HB8 := Lib.hid hB6; have Hkk := Lib.hid hkk; clear hk6 hB6; have HA6 := Lib.hid ((HA5.out rfl).keep hkk (by simp) (by simp)))
        refine (done_any [] p z2 z3 w6 HA6.out).mono ?_
        rintro e w7 ⟨rfl, rfl⟩
        cases hd : (!z3 && z2.isEmpty) with
        | false =>
          go_wp2_with (refine wpList_store_blk rfl 68 (.tmp 2) (.tmp 47) rfl g0 0 68 zeroR #[.int .i64 0, .int .i64 0, .int .i64 0, .int .i64 0, .int .i64 0, .int .i64 0, .slice none 0 0, .string ⟨#[]⟩, .int .i64 0, .int .i64 0, .int .i64 0, .int .i64 0, .int .u64 0, .int .i64 0, .int .i64 0, .slice none 0 0, .int .i64 0, .int .i64 0] #[.int .i64 0, .int .i64 0, .int .i64 0, .int .i64 0, .int .i64 0, .int .i64 0, .slice none 0 0, .string ⟨#[]⟩, .int .i64 0, .int .i64 0, .int .i64 0, .int .i64 0, .int .u64 0, .int .i64 0, .int .i64 0, .slice none 0 0, .int .i64 0, .int .i64 0] rfl rfl HB6.out (by show 0 + 18 ≤ 18; omega) rfl (by kernel_rfl) rfl ?_; intro wz hkz hBz; have Hkz := Lib.hid hkz; have HBz := Lib.hid hBz; clear hkz hBz)
          refine bodyPost_ret (results_cell2 rfl _ _ g0 68 #[.int .i64 0, .int .i64 0, .int .i64 0, .int .i64 0, .int .i64 0, .int .i64 0, .slice none 0 0, .string ⟨#[]⟩, .int .i64 0, .int .i64 0, .int .i64 0, .int .i64 0, .int .u64 0, .int .i64 0, .int .i64 0, .slice none 0 0, .int .i64 0, .int .i64 0] _ rfl HBz.out Tryz.underlying68 rfl (by kernel_rfl)) rfl ?_
          exact mbad (by rw [HR2.out, if_neg (by simp [hd])]) HK6.out Hkz.out Hg0.out
        | true =>
          have hr6 := Lib.hid (hri.out w6 Hkk.out HK6.out)
          clear hri
          go_wp2_with (refine wpList_load_g rfl 68 (.tmp 8) rfl w5.heap.size 0 rfl _ _ (blk_range HB8.out) Tryz.underlying68 rfl (by kernel_rfl) ?_)
          refine hr6.out.mono ?_
          rintro e w7 ⟨rfl, hb7⟩
          have HK7 := Lib.hid (HK6.out.trans (Keeps.of_below (M := []) hb7) (by simp))
          have Hkk7 := Lib.hid (Hkk.out.trans (Keeps.of_below (M := []) hb7) (by simp))
          have HB7 := Lib.hid (HB6.out.below hb7 HB6.out.lt)
          have HB9 := Lib.hid (HB8.out.below hb7 HB8.out.lt)
          clear hb7 HK6 Hkk HB6 HB8 hr6
          by_cases hmz : mr = 0
          · subst hmz
            go_wp2_with (first | (refine wpList_load_mid rfl 68 (.tmp 8) rfl w5.heap.size 0 rfl _ _ (blk_range HB9.out) Tryz.underlying68 rfl (by kernel_rfl) ?_) | (refine wpList_store_blk rfl 68 (.tmp 2) (.tmp 48) rfl g0 0 68 zeroR #[.int .i64 kd, .int .i64 kind, .int .i64 ag, .int .i64 sh, .int .i64 seq, .int .i64 ep, .slice Aa ds.length na, .string ser, .int .i64 fr, .int .i64 etg, .int .i64 tag, .int .i64 code, .int .u64 nn, .int .i64 term, .int .i64 had, .slice Ba log.length ka, .int .i64 commit, .int .i64 len] #[.int .i64 kd, .int .i64 kind, .int .i64 ag, .int .i64 sh, .int .i64 seq, .int .i64 ep, .slice Aa ds.length na, .string ser, .int .i64 fr, .int .i64 etg, .int .i64 tag, .int .i64 code, .int .u64 nn, .int .i64 term, .int .i64 had, .slice Ba log.length ka, .int .i64 commit, .int .i64 len] rfl rfl HB7.out (by show 0 + 18 ≤ 18; omega) rfl (by kernel_rfl) rfl ?_; intro wz hkz hBz; have Hkz := Lib.hid hkz; have HBz := Lib.hid hBz; clear hkz hBz))
            refine bodyPost_ret (results_cell2 rfl _ _ g0 68 #[.int .i64 kd, .int .i64 kind, .int .i64 ag, .int .i64 sh, .int .i64 seq, .int .i64 ep, .slice Aa ds.length na, .string ser, .int .i64 fr, .int .i64 etg, .int .i64 tag, .int .i64 code, .int .u64 nn, .int .i64 term, .int .i64 had, .slice Ba log.length ka, .int .i64 commit, .int .i64 len] _ rfl HBz.out Tryz.underlying68 rfl (by kernel_rfl)) rfl ?_
            have := Hfin.out wz ((Hkk7.out.mono (by simp)).trans Hkz.out (by simp) : Keeps [g0] w5 wz)
            rw [HR2.out, if_pos (by simp [hd])]
            exact this
          · have hmn : ((mr : Int) != 0) = true := by simpa using hmz
            go_wp2_with (refine wpList_store_blk rfl 68 (.tmp 2) (.tmp 47) rfl g0 0 68 zeroR #[.int .i64 0, .int .i64 0, .int .i64 0, .int .i64 0, .int .i64 0, .int .i64 0, .slice none 0 0, .string ⟨#[]⟩, .int .i64 0, .int .i64 0, .int .i64 0, .int .i64 0, .int .u64 0, .int .i64 0, .int .i64 0, .slice none 0 0, .int .i64 0, .int .i64 0] #[.int .i64 0, .int .i64 0, .int .i64 0, .int .i64 0, .int .i64 0, .int .i64 0, .slice none 0 0, .string ⟨#[]⟩, .int .i64 0, .int .i64 0, .int .i64 0, .int .i64 0, .int .u64 0, .int .i64 0, .int .i64 0, .slice none 0 0, .int .i64 0, .int .i64 0] rfl rfl HB7.out (by show 0 + 18 ≤ 18; omega) rfl (by kernel_rfl) rfl ?_; intro wz hkz hBz; have Hkz := Lib.hid hkz; have HBz := Lib.hid hBz; clear hkz hBz)
            refine bodyPost_ret (results_cell2 rfl _ _ g0 68 #[.int .i64 0, .int .i64 0, .int .i64 0, .int .i64 0, .int .i64 0, .int .i64 0, .slice none 0 0, .string ⟨#[]⟩, .int .i64 0, .int .i64 0, .int .i64 0, .int .i64 0, .int .u64 0, .int .i64 0, .int .i64 0, .slice none 0 0, .int .i64 0, .int .i64 0] _ rfl HBz.out Tryz.underlying68 rfl (by kernel_rfl)) rfl ?_
            exact mbad (by rw [HR2.out, if_neg (by simp [hmz])]) HK7.out Hkz.out Hg0.out
    · have hnn : ((n : Int) != (l.length : Int)) = true := by simp; omega
      go_wp2_with (refine wpList_store_blk rfl 68 (.tmp 2) (.tmp 24) rfl g0 0 68 zeroR #[.int .i64 0, .int .i64 0, .int .i64 0, .int .i64 0, .int .i64 0, .int .i64 0, .slice none 0 0, .string ⟨#[]⟩, .int .i64 0, .int .i64 0, .int .i64 0, .int .i64 0, .int .u64 0, .int .i64 0, .int .i64 0, .slice none 0 0, .int .i64 0, .int .i64 0] #[.int .i64 0, .int .i64 0, .int .i64 0, .int .i64 0, .int .i64 0, .int .i64 0, .slice none 0 0, .string ⟨#[]⟩, .int .i64 0, .int .i64 0, .int .i64 0, .int .i64 0, .int .u64 0, .int .i64 0, .int .i64 0, .slice none 0 0, .int .i64 0, .int .i64 0] rfl rfl HB2.out (by show 0 + 18 ≤ 18; omega) rfl (by kernel_rfl) rfl ?_; intro wz hkz hBz; have Hkz := Lib.hid hkz; have HBz := Lib.hid hBz; clear hkz hBz)
      refine bodyPost_ret (results_cell2 rfl _ _ g0 68 #[.int .i64 0, .int .i64 0, .int .i64 0, .int .i64 0, .int .i64 0, .int .i64 0, .slice none 0 0, .string ⟨#[]⟩, .int .i64 0, .int .i64 0, .int .i64 0, .int .i64 0, .int .u64 0, .int .i64 0, .int .i64 0, .slice none 0 0, .int .i64 0, .int .i64 0] _ rfl HBz.out Tryz.underlying68 rfl (by kernel_rfl)) rfl ?_
      exact mbad (by rw [HR.out, if_pos hn]) HK2.out Hkz.out Hg0.out
end Go.Proofs.YtinnifhnabncfaaGreatDoor.Vi
end
/- The plain law of mail: a message written is read as itself. -/
section
namespace Go.Proofs.YtinnifhnabncfaaGreatDoor.Vi
open Go.RowKit Base Mem Tape Go.Shelf
theorem textS_blob {e : EntryD} (h : EOk e) (r : List UInt8) : textS (eBlob e ++ r) false = (bytesE e, r, false) := by
  have hb := bytesE_big h
  exact textS_put (bytesE e) r (by omega)
theorem getEs_put (r : List UInt8) : ∀ (es : List EntryD), (∀ e ∈ es, EOk e) → getEs es.length (es.flatMap eBlob ++ r) false = (some es, r, false)
  | [], _ => rfl
  | e :: es, h => by
    have he := h e (by simp)
    rw [List.length_cons, List.flatMap_cons, List.append_assoc, getEs, textS_blob he]
    rw [read_bytes e he.1 he.2.2 he.2.1]
    rw [if_neg (by simp)]
    rw [getEs_put r es (fun x hx => h x (List.mem_cons_of_mem _ hx))]
    rfl
theorem mgetS_put (r : List UInt8) (es : List EntryD) (h : ∀ e ∈ es, EOk e) (hl : es.length ≤ 128) : mgetS (putLog es ++ r) false = (some es, r, false) := by
  have hc : countS (putLog es ++ r) false 128 = (es.length, es.flatMap eBlob ++ r, false) := by
    unfold putLog
    rw [List.append_assoc]
    exact countS_put es.length _ 128 hl (by omega)
  unfold mgetS
  rw [hc]
  exact getEs_put r es h
def restL (m : MsgD) : List UInt8 :=
  if m.kd = 1 then eBlob m.en
  else if m.kd = 2 then Lib.uvarint m.tag.toNat ++ Lib.uvarint m.code.toNat ++ Lib.uvarint m.nn.toNat
  else if m.kd = 4 then Lib.uvarint m.term.toNat ++ Lib.uvarint m.had.toNat ++ putLog m.log
  else if m.kd = 5 then Lib.uvarint m.term.toNat ++ Lib.uvarint m.commit.toNat ++ putLog m.log
  else if m.kd = 6 then Lib.uvarint m.term.toNat ++ Lib.uvarint m.len.toNat
  else Lib.uvarint m.term.toNat
theorem bodyL_rest (m : MsgD) : bodyL m = UInt8.ofNat m.kd.toNat :: restL m := rfl
set_option maxHeartbeats 1000000 in
theorem read_rest (m : MsgD) (hok : MOk m) (hs : MShort m) (hwf : MWf m) : mreadS m.kd.toNat (restL m) false = (m, true, [], false) := by
  have hz : clearM m = zeroM := (sameM_iff _ _).1 hok.zero
  obtain ⟨k1, k6, _, t0, te0, h0, c0, l0, co0, co1, c1, l1, ll, ask, logs⟩ := hok
  obtain ⟨w1, w2, w3, w4, w5, w6, w7⟩ := hwf
  obtain ⟨s1, s2, s3⟩ := hs
  obtain ⟨kd, en, tag, code, nn, term, had, log, commit, len⟩ := m
  simp only [] at *
  have hlog : kd ≠ 1 → ∀ e ∈ log, EOk e := fun hk e he => ⟨logs hk e he, s3 e he, w7 e he⟩
  rcases (show kd = 1 ∨ kd = 2 ∨ kd = 3 ∨ kd = 4 ∨ kd = 5 ∨ kd = 6 by omega) with rfl | rfl | rfl | rfl | rfl | rfl
  · simp [clearM, zeroM] at hz
    obtain ⟨rfl, rfl, rfl, rfl, rfl, rfl, rfl, rfl⟩ := hz
    have hE : EOk en := ⟨ask rfl, s1, w6⟩
    have ht := textS_blob hE []
    rw [List.append_nil] at ht
    show mreadS 1 (eBlob en) false = _
    unfold mreadS
    rw [if_pos rfl, ht, read_bytes en hE.1 hE.2.2 hE.2.1]
    rfl
  · simp [clearM, zeroM] at hz
    obtain ⟨rfl, rfl, rfl, rfl, rfl, rfl⟩ := hz
    obtain ⟨tag, rfl⟩ := Int.eq_ofNat_of_zero_le t0
    obtain ⟨code, rfl⟩ := Int.eq_ofNat_of_zero_le co0
    obtain ⟨nn, rfl⟩ := Int.eq_ofNat_of_zero_le w4
    show mreadS 2 (Lib.uvarint tag ++ Lib.uvarint code ++ Lib.uvarint nn) false = _
    have e3 := numS_put nn [] (by omega)
    rw [List.append_nil] at e3
    simp only [mreadS]
    rw [if_neg (by omega), if_pos trivial, List.append_assoc, intS_put tag _ (by omega)]
    simp only []
    rw [countS_put code _ 255 (by omega) (by omega)]
    simp only []
    rw [e3]
    rfl
  · simp [clearM, zeroM] at hz
    obtain ⟨rfl, rfl, rfl, rfl, rfl, rfl, rfl, rfl⟩ := hz
    obtain ⟨term, rfl⟩ := Int.eq_ofNat_of_zero_le te0
    show mreadS 3 (Lib.uvarint term) false = _
    have e3 := intS_put term [] (by omega)
    rw [List.append_nil] at e3
    simp [mreadS, e3, zeroD]
  · simp [clearM, zeroM] at hz
    obtain ⟨rfl, rfl, rfl, rfl, rfl, rfl⟩ := hz
    obtain ⟨term, rfl⟩ := Int.eq_ofNat_of_zero_le te0
    obtain ⟨had, rfl⟩ := Int.eq_ofNat_of_zero_le h0
    have e3 := mgetS_put [] log (hlog (by decide)) ll
    rw [List.append_nil] at e3
    show mreadS 4 (Lib.uvarint term ++ Lib.uvarint had ++ putLog log) false = _
    simp [mreadS, List.append_assoc, intS_put term _ (show term ≤ 9223372036854775807 by omega), intS_put had _ (show had ≤ 9223372036854775807 by omega), e3, zeroD]
  · simp [clearM, zeroM] at hz
    obtain ⟨rfl, rfl, rfl, rfl, rfl, rfl⟩ := hz
    obtain ⟨term, rfl⟩ := Int.eq_ofNat_of_zero_le te0
    obtain ⟨commit, rfl⟩ := Int.eq_ofNat_of_zero_le c0
    have e3 := mgetS_put [] log (hlog (by decide)) ll
    rw [List.append_nil] at e3
    show mreadS 5 (Lib.uvarint term ++ Lib.uvarint commit ++ putLog log) false = _
    simp [mreadS, List.append_assoc, intS_put term _ (show term ≤ 9223372036854775807 by omega), countS_put commit _ 128 (by omega) (by omega), e3, zeroD]
  · simp [clearM, zeroM] at hz
    obtain ⟨rfl, rfl, rfl, rfl, rfl, rfl, rfl⟩ := hz
    obtain ⟨term, rfl⟩ := Int.eq_ofNat_of_zero_le te0
    obtain ⟨len, rfl⟩ := Int.eq_ofNat_of_zero_le l0
    have e3 := countS_put len [] 128 (by omega) (by omega)
    rw [List.append_nil] at e3
    show mreadS 6 (Lib.uvarint term ++ Lib.uvarint len) false = _
    simp [mreadS, intS_put term _ (show term ≤ 9223372036854775807 by omega), e3, zeroD]
/-- What is written is read. -/
theorem mread_put (m : MsgD) (hr : mrightS m = 0) (hs : MShort m) (hwf : MWf m) (hl : (bodyL m).length ≤ 65536) : mReadS (frameL (bodyL m)) = (m, 0) := by
  have hok := mright_ok hr
  have h := readF_put (bodyL m) [] hl
  rw [List.append_nil] at h
  have hb : byteS (bodyL m) false = (UInt8.ofNat m.kd.toNat, restL m, false) := by rw [bodyL_rest]; rfl
  have hk : (UInt8.ofNat m.kd.toNat).toNat = m.kd.toNat := by
    have := hok.k6
    rw [UInt8.toNat_ofNat']
    omega
  unfold mReadS
  rw [h]
  simp only []
  rw [if_neg (by simp), hb]
  simp only []
  rw [hk, read_rest m hok hs hwf]
  simp [hr]
/-- Bytes are equal where messages are. -/
theorem mbytes_same {a b : MsgD} (ha : mrightS a = 0) (hb : mrightS b = 0) (sa : MShort a) (sb : MShort b) (wa : MWf a) (wb : MWf b) (la : (bodyL a).length ≤ 65536) (lb : (bodyL b).length ≤ 65536) :
    frameL (bodyL a) = frameL (bodyL b) ↔ sameM a b = true := by
  rw [sameM_iff]
  constructor
  · intro h
    have h1 := mread_put a ha sa wa la
    rw [h, mread_put b hb sb wb lb] at h1
    injection h1 with h1 _
    exact h1.symm
  · rintro rfl; rfl
end Go.Proofs.YtinnifhnabncfaaGreatDoor.Vi
end
/- A tape's message is right, and its bytes are few. -/
section
namespace Go.Proofs.YtinnifhnabncfaaGreatDoor.Vi
open Go.RowKit Base Mem Tape Go.Shelf
theorem wf_zero : Wf zeroD := ⟨by simp [zeroD], by simp [zeroD], by simp [zeroD], by simp [zeroD]⟩
theorem logRight_zero : ∀ (l : List EntryD), (∀ e ∈ l, EntryOk e) → logRight l = 0
  | [], _ => rfl
  | e :: l, h => by
    rw [logRight, if_pos (entry_right (h e (by simp))).1]
    exact logRight_zero l (fun x hx => h x (List.mem_cons_of_mem _ hx))
theorem blob_len {e : EntryD} (h : EntryOk e) : (eBlob e).length ≤ 1210 := by
  have h1 := bytesE_len h
  have h2 := Lib.uvarint_length64 (x := (bytesE e).length) (by omega)
  unfold eBlob
  rw [List.length_append]
  omega
theorem blobs_len : ∀ (l : List EntryD), (∀ e ∈ l, EntryOk e) → (l.flatMap eBlob).length ≤ l.length * 1210
  | [], _ => by simp
  | e :: l, h => by
    have ih := blobs_len l (fun x hx => h x (List.mem_cons_of_mem _ hx))
    have h1 := blob_len (h e (by simp))
    rw [List.flatMap_cons, List.length_append, List.length_cons]
    omega
theorem msg_short {m : MsgD} (h : MsgOk m) : MShort m := by
  obtain ⟨he, hl, hl4, _⟩ := h
  refine ⟨?_, by omega, fun e hx => (entry_right (hl e hx)).2.1⟩
  rcases he with he | he
  · rw [he]; exact short_zero
  · exact (entry_right he).2.1
theorem msg_wf {m : MsgD} (h : MsgOk m) : MWf m := by
  obtain ⟨he, hl, hl4, h1, h2, h3, h4, h5, h6, h7, h8, _⟩ := h
  refine ⟨by omega, by omega, by omega, by omega, by omega, ?_, fun e hx => (entry_right (hl e hx)).2.2⟩
  rcases he with he | he
  · rw [he]; exact wf_zero
  · exact (entry_right he).2.2
theorem msg_right {m : MsgD} (h : MsgOk m) : mrightS m = 0 := by
  obtain ⟨he, hl, hl4, h1, h2, h3, h4, h5, h6, h7, h8, hz, _, hk1⟩ := h
  have hb : bad2 m = false := by simp [bad2]; omega
  unfold mrightS
  rw [if_neg (by rw [hz]; simp; omega), hb, if_neg (by simp), if_neg (by omega)]
  by_cases hk : m.kd = 1
  · rw [if_pos hk]; exact (entry_right (hk1 hk)).1
  · rw [if_neg hk]; exact logRight_zero _ hl
theorem msg_body {m : MsgD} (h : MsgOk m) : (bodyL m).length ≤ 65536 := by
  have hs := msg_wf h
  obtain ⟨he, hl, hl4, h1, h2, h3, h4, h5, h6, h7, h8, hz, _, hk1⟩ := h
  have b1 := blobs_len m.log hl
  have u1 := Lib.uvarint_length64 (x := m.tag.toNat) (by omega)
  have u2 := Lib.uvarint_length64 (x := m.code.toNat) (by omega)
  have u3 := Lib.uvarint_length64 (x := m.nn.toNat) (by omega)
  have u4 := Lib.uvarint_length64 (x := m.term.toNat) (by omega)
  have u5 := Lib.uvarint_length64 (x := m.had.toNat) (by omega)
  have u6 := Lib.uvarint_length64 (x := m.commit.toNat) (by omega)
  have u7 := Lib.uvarint_length64 (x := m.len.toNat) (by omega)
  have u8 := Lib.uvarint_length64 (x := m.log.length) (by omega)
  have hp : (putLog m.log).length ≤ 10 + 4 * 1210 := by unfold putLog; rw [List.length_append]; omega
  rw [bodyL_rest, List.length_cons]
  unfold restL
  split
  · rename_i hk
    have := blob_len (hk1 hk)
    omega
  all_goals (try split)
  all_goals (try split)
  all_goals (try split)
  all_goals (try split)
  all_goals (first | omega | (simp only [List.length_append]; omega))
end Go.Proofs.YtinnifhnabncfaaGreatDoor.Vi
end
/- A slice of numbers that came in; a tape made of it; its message. (Not together with Back, which has the first two by the same names.) -/
section
namespace Go.Proofs.YtinnifhnabncfaaGreatDoor.Vi
open Go.RowKit Base Mem Tape Go.Shelf
/-- A slice of numbers that came in. -/
def Nums (w : World) (A : Option Addr) (c : Nat) (l : List Int) : Prop := l.length ≤ c ∧ c ≤ 9223372036854775807 ∧ (0 < l.length → ∃ g off, A = some ⟨g, off, none⟩ ∧ g < w.heap.size ∧ ∀ (j : Nat) (x : Int), l[j]? = some x → w.cell? ⟨g, off + j, none⟩ = some (.int .i64 x))
theorem tape_new {w w1 : World} {A : Option Addr} {c : Nat} {l : List Int} (h : Nums w A c l) (hb : Below w.heap.size w w1) :
    TapeAt (w1.alloc (.cells #[.slice A l.length c, .int .i64 0] 31)) w1.heap.size ⟨l, w.heap.size⟩ 0 := by
  obtain ⟨h1, h2, h3⟩ := h
  refine ⟨Nat.zero_le _, Nat.le_trans h1 h2, hb.size, A, c, Blk.new w1 _ _, h1, fun h0 => ?_⟩
  obtain ⟨g, off, e, hg, hx⟩ := h3 h0
  exact ⟨g, off, e, hg, fun j x hj => ((below_new hb _).cell (p := ⟨g, off + j, none⟩) hg).trans (hx j x hj)⟩
/-- A tape's message, made new. -/
def TMsg (w : World) (e : Ending) (w' : World) : Prop := ∃ (m : MsgD) (dv lv : Value), e = .returned (.agg (mCell m dv lv).toArray) ∧ MsgOk m ∧ (∀ M, (∀ g ∈ M, g < w.heap.size) → MsgAt w' M m dv lv) ∧ Below w.heap.size w w'
theorem tmsg_any {w w1 : World} {A : Option Addr} {c : Nat} {l : List Int} (h : Nums w A c l) (hb : Below w.heap.size w w1) :
    Calls Tryz.prog 43 #[.pointer (some ⟨w1.heap.size, 0, none⟩)] (w1.alloc (.cells #[.slice A l.length c, .int .i64 0] 31)) fun e w' => TMsg w1 e w' := by
  refine (msg_any w1.heap.size ⟨l, w.heap.size⟩ 0 _ (tape_new h hb)).mono ?_
  rintro e w' ⟨m, dv, lv, k', rfl, hok, hD, _, hk⟩
  exact ⟨m, dv, lv, rfl, hok, fun M hM => hD M (fun g hg => by have := hM g hg; simp; omega), (((Keeps.refl (M := []) w1).alloc _).trans hk (by intro g hg; simp at hg; right; omega)).below⟩
end Go.Proofs.YtinnifhnabncfaaGreatDoor.Vi
end
/- Contract of hopperref4.MsgSame at equal messages. -/
section
namespace Go.Proofs.YtinnifhnabncfaaGreatDoor.Vi
open Go.RowKit Base Mem Tape Go.Shelf
set_option maxRecDepth 100000 in
set_option maxHeartbeats 4000000 in
theorem rmsame_eq (a : MsgD) (da la db lb : Value) (w : World) (ha : MsgAt w [] a da la) (hb : MsgAt w [] a db lb) (hd : a.en.ds.length ≤ 1048576) (hl : a.log.length ≤ 1048576 ∧ ∀ e ∈ a.log, e.ds.length ≤ 1048576) :
    Calls Tryz.prog 51 #[.agg (mCell a da la).toArray, .agg (mCell a db lb).toArray] w fun r w' => SamePost true w r w' := by
  have hse := Lib.hid (fun W (hk : Keeps [] w W) => rsame_eq da db a.en W (ha.1.keep hk (by simp)) (hb.1.keep hk (by simp)) hd)
  have hro := Lib.hid (fun W (hk : Keeps [] w W) => rlogs_eq la lb a.log W (ha.2.keep hk (by simp)) (hb.2.keep hk (by simp)) hl)
  obtain ⟨Aa, na, rfl, _⟩ := ha.1.len
  obtain ⟨Ab, nb, rfl, _⟩ := hb.1.len
  obtain ⟨Ba, ka, rfl, _⟩ := ha.2.len
  obtain ⟨Bb, kb, rfl, _⟩ := hb.2.len
  clear ha hb hd hl
  obtain ⟨kd, ⟨kind, ag, sh, seq, ep, ds, ser, fr, etg⟩, tag, code, nn, term, had, log, commit, len⟩ := a
  simp only [eVal] at hse
  simp only [] at hro
  generalize ds.length = dn at *
  generalize log.length = ln at *
  simp only [mCell, eCell, List.cons_append, List.nil_append]
  obtain ⟨w2, hw2⟩ : ∃ w2, w2 = (w.alloc (.cells #[.int .i64 kd, .int .i64 kind, .int .i64 ag, .int .i64 sh, .int .i64 seq, .int .i64 ep, .slice Aa dn na, .string ser, .int .i64 fr, .int .i64 etg, .int .i64 tag, .int .i64 code, .int .u64 nn, .int .i64 term, .int .i64 had, .slice Ba ln ka, .int .i64 commit, .int .i64 len] 68)).alloc (.cells #[.int .i64 kd, .int .i64 kind, .int .i64 ag, .int .i64 sh, .int .i64 seq, .int .i64 ep, .slice Ab dn nb, .string ser, .int .i64 fr, .int .i64 etg, .int .i64 tag, .int .i64 code, .int .u64 nn, .int .i64 term, .int .i64 had, .slice Bb ln kb, .int .i64 commit, .int .i64 len] 68) := ⟨_, rfl⟩
  have hk2 : Keeps [] w w2 := by rw [hw2]; exact ((Keeps.refl _ _).alloc _).alloc _
  have hBa : Blk w2 w.heap.size 68 #[.int .i64 kd, .int .i64 kind, .int .i64 ag, .int .i64 sh, .int .i64 seq, .int .i64 ep, .slice Aa dn na, .string ser, .int .i64 fr, .int .i64 etg, .int .i64 tag, .int .i64 code, .int .u64 nn, .int .i64 term, .int .i64 had, .slice Ba ln ka, .int .i64 commit, .int .i64 len] := by rw [hw2]; exact (Blk.new w _ _).below (below_new' _ _) (by simp)
  have hBb : Blk w2 (w.heap.size + 1) 68 #[.int .i64 kd, .int .i64 kind, .int .i64 ag, .int .i64 sh, .int .i64 seq, .int .i64 ep, .slice Ab dn nb, .string ser, .int .i64 fr, .int .i64 etg, .int .i64 tag, .int .i64 code, .int .u64 nn, .int .i64 term, .int .i64 had, .slice Bb ln kb, .int .i64 commit, .int .i64 len] := by
    have := Blk.new (w.alloc (.cells #[.int .i64 kd, .int .i64 kind, .int .i64 ag, .int .i64 sh, .int .i64 seq, .int .i64 ep, .slice Aa dn na, .string ser, .int .i64 fr, .int .i64 etg, .int .i64 tag, .int .i64 code, .int .u64 nn, .int .i64 term, .int .i64 had, .slice Ba ln ka, .int .i64 commit, .int .i64 len] 68)) 68 #[.int .i64 kd, .int .i64 kind, .int .i64 ag, .int .i64 sh, .int .i64 seq, .int .i64 ep, .slice Ab dn nb, .string ser, .int .i64 fr, .int .i64 etg, .int .i64 tag, .int .i64 code, .int .u64 nn, .int .i64 term, .int .i64 had, .slice Bb ln kb, .int .i64 commit, .int .i64 len]
    rw [hw2]; simpa using this
  have Hw2 := Lib.hid hw2; have HBa := Lib.hid hBa; have HBb := Lib.hid hBb; have Hk2 := Lib.hid hk2
  have Hs1 := Lib.hid (hse.out w2 hk2)
  clear hw2 hBa hBb hk2 hse
  show Calls Tryz.prog 51 #[.agg #[.int .i64 kd, .int .i64 kind, .int .i64 ag, .int .i64 sh, .int .i64 seq, .int .i64 ep, .slice Aa dn na, .string ser, .int .i64 fr, .int .i64 etg, .int .i64 tag, .int .i64 code, .int .u64 nn, .int .i64 term, .int .i64 had, .slice Ba ln ka, .int .i64 commit, .int .i64 len], .agg #[.int .i64 kd, .int .i64 kind, .int .i64 ag, .int .i64 sh, .int .i64 seq, .int .i64 ep, .slice Ab dn nb, .string ser, .int .i64 fr, .int .i64 etg, .int .i64 tag, .int .i64 code, .int .u64 nn, .int .i64 term, .int .i64 had, .slice Bb ln kb, .int .i64 commit, .int .i64 len]] w fun r w' => SamePost true w r w'
  go_enter Tryz.func51, Tryz.ntmps51
  go_wp2_with fail
  rw [← Hw2.out]
  have hg1 : w.heap.size + 1 < w2.heap.size := HBb.out.lt
  generalize hgs : w.heap.size = g at HBa HBb hg1 ⊢
  have Hgs := Lib.hid hgs
  clear Hw2 hgs
  refine Hs1.out.mono ?_
  rintro e w3 ⟨rfl, hb3⟩
  have HBa3 := Lib.hid (HBa.out.below hb3 (by omega)); have HBb3 := Lib.hid (HBb.out.below hb3 hg1)
  have Hk3 := Lib.hid (Hk2.out.trans (Keeps.of_below (M := []) hb3) (by simp))
  have hg3 : g + 1 < w3.heap.size := HBb3.out.lt
  clear hb3 Hs1 HBa HBb Hk2
  have Hro := Lib.hid (hro.out w3 Hk3.out)
  clear hro
  obtain ⟨q0, q1, q2, q3, q4, q5, q6, q7, q8, q9, qa, qb, qc, qd, qe, qf, qg, qh, _⟩ := blk18 HBa3.out
  obtain ⟨r0, r1, r2, r3, r4, r5, r6, r7, r8, r9, ra, rb, rc, rd, re, rf, rg, rh, _⟩ := blk18 HBb3.out
  go_wp2_with fail
  refine Hro.out.mono ?_
  rintro e w4 ⟨rfl, hb4⟩
  have HBa4 := Lib.hid (HBa3.out.below hb4 (by omega)); have HBb4 := Lib.hid (HBb3.out.below hb4 hg3)
  have Hk4 := Lib.hid (Hk3.out.trans (Keeps.of_below (M := []) hb4) (by simp))
  clear hb4 Hro HBa3 HBb3 Hk3 q0 q1 q2 q3 q4 q5 q6 q7 q8 q9 qa qb qc qd qe qf qg qh r0 r1 r2 r3 r4 r5 r6 r7 r8 r9 ra rb rc rd re rf rg rh
  obtain ⟨q0, q1, q2, q3, q4, q5, q6, q7, q8, q9, qa, qb, qc, qd, qe, qf, qg, qh, _⟩ := blk18 HBa4.out
  obtain ⟨r0, r1, r2, r3, r4, r5, r6, r7, r8, r9, ra, rb, rc, rd, re, rf, rg, rh, _⟩ := blk18 HBb4.out
  go_wp2_with fail
  go_ret
  exact ⟨rfl, Hk4.out.below⟩
end Go.Proofs.YtinnifhnabncfaaGreatDoor.Vi
end
/- Contract of hopperlaw6.known. -/
section
namespace Go.Proofs.YtinnifhnabncfaaGreatDoor.Vi
open Go.RowKit Base Mem Tape Go.Shelf
def m300 : MsgD := ⟨3, zeroD, 0, 0, 0, 300, 0, [], 0, 0⟩
theorem m300_right : mrightS m300 = 0 := by
  have hz : zeroS m300 = true := zeroS_of rfl
  unfold mrightS
  rw [hz]
  simp [m300, bad2, logRight]
theorem m300_short : MShort m300 := ⟨short_zero, by simp [m300], by simp [m300]⟩
theorem m300_wf : MWf m300 := ⟨by simp [m300], by simp [m300], by simp [m300], by simp [m300], by simp [m300], wf_zero, by simp [m300]⟩
theorem m300_len : (bodyL m300).length ≤ 65536 := by
  have u := Lib.uvarint_length64 (x := 300) (by omega)
  rw [bodyL_rest, List.length_cons, show restL m300 = Lib.uvarint 300 from rfl]
  omega
theorem zero_right : mrightS zeroM = 12 := by unfold mrightS; rw [if_pos (.inl (by simp [zeroM]))]
theorem zero_short : MShort zeroM := ⟨short_zero, by simp [zeroM], by simp [zeroM]⟩
theorem zero_wf : MWf zeroM := ⟨by simp [zeroM], by simp [zeroM], by simp [zeroM], by simp [zeroM], by simp [zeroM], wf_zero, by simp [zeroM]⟩
theorem mRead_nil : mReadS [] = (zeroM, 12) := rfl
set_option maxRecDepth 100000 in
set_option maxHeartbeats 1000000 in
theorem mknown_any (mx : Int) (w : World) (hm : w.cell? ⟨0, 0, none⟩ = some (.int .i64 mx)) :
    Calls Tryz.prog 49 #[] w fun e w' => SamePost true w e w' := by
  have hw0 : 0 < w.heap.size := by
    have := World.block_lt_of_cell? w _ hm
    simpa using this
  have hkeepm : Hid (∀ W, Keeps [] w W → W.cell? ⟨0, 0, none⟩ = some (.int .i64 mx)) := fun W hb => (hb.cell (p := ⟨0, 0, none⟩) hw0 (by simp)).trans hm
  have hb1 : Hid (∀ W, Keeps [] w W → Calls Tryz.prog 52 #[.agg #[.int .i64 3, .int .i64 0, .int .i64 0, .int .i64 0, .int .i64 0, .int .i64 0, .slice none 0 0, .string ⟨#[]⟩, .int .i64 0, .int .i64 0, .int .i64 0, .int .i64 0, .int .u64 0, .int .i64 300, .int .i64 0, .slice none 0 0, .int .i64 0, .int .i64 0]] W fun r w' => MBPost (frameL (bodyL m300), 0) W r w') := fun W hk => by
    have := mbytes_any m300 (.slice none 0 0) (.slice none 0 0) mx W ⟨Ds.nil _ _, Ens.nil _ _⟩ m300_short m300_wf (hkeepm.out W hk)
    rwa [show mbytesS m300 = (frameL (bodyL m300), 0) by unfold mbytesS; rw [if_pos m300_right, if_neg (by have := m300_len; omega)]] at this
  have hb2 : Hid (∀ W, Keeps [] w W → Calls Tryz.prog 52 #[.agg #[.int .i64 0, .int .i64 0, .int .i64 0, .int .i64 0, .int .i64 0, .int .i64 0, .slice none 0 0, .string ⟨#[]⟩, .int .i64 0, .int .i64 0, .int .i64 0, .int .i64 0, .int .u64 0, .int .i64 0, .int .i64 0, .slice none 0 0, .int .i64 0, .int .i64 0]] W fun r w' => MBPost ([], 12) W r w') := fun W hk => by
    have := mbytes_any zeroM (.slice none 0 0) (.slice none 0 0) mx W ⟨Ds.nil _ _, Ens.nil _ _⟩ zero_short zero_wf (hkeepm.out W hk)
    rwa [show mbytesS zeroM = ([], 12) by unfold mbytesS; rw [if_neg (by rw [zero_right]; decide), zero_right]] at this
  have hr1 : Hid (∀ W v, Keeps [] w W → Bs W [] v (frameL (bodyL m300)) → Calls Tryz.prog 53 #[v] W fun r w' => MReadP (m300, 0) W r w') := fun W v hk hB => by
    have := mRead_any v (frameL (bodyL m300)) mx W hB (by rw [frameL_len]; have := m300_len; have := Lib.uvarint_length64 (x := (bodyL m300).length) (by omega); omega) (hkeepm.out W hk)
    rwa [mread_put m300 m300_right m300_short m300_wf m300_len] at this
  have hr2 : Hid (∀ W, Keeps [] w W → Calls Tryz.prog 53 #[.slice none 0 0] W fun r w' => MReadP (zeroM, 12) W r w') := fun W hk => by
    have := mRead_any (.slice none 0 0) [] mx W (Bs.nil _ _) (by simp) (hkeepm.out W hk)
    rwa [mRead_nil] at this
  have hs : Hid (∀ W dv lv, MsgAt W [] m300 dv lv → Calls Tryz.prog 50 #[.agg (mCell m300 dv lv).toArray, .agg #[.int .i64 3, .int .i64 0, .int .i64 0, .int .i64 0, .int .i64 0, .int .i64 0, .slice none 0 0, .string ⟨#[]⟩, .int .i64 0, .int .i64 0, .int .i64 0, .int .i64 0, .int .u64 0, .int .i64 300, .int .i64 0, .slice none 0 0, .int .i64 0, .int .i64 0]] W fun r w' => SamePost true W r w') := fun W dv lv h => by
    have := msame_any m300 m300 dv lv (.slice none 0 0) (.slice none 0 0) W h ⟨Ds.nil _ _, Ens.nil _ _⟩ m300_short.cnt m300_short.cnt
    rwa [(sameM_iff m300 m300).2 rfl] at this
  have hri : Hid (∀ W, Keeps [] w W → Calls Tryz.prog 93 #[.agg #[.int .i64 3, .int .i64 0, .int .i64 0, .int .i64 0, .int .i64 0, .int .i64 0, .slice none 0 0, .string ⟨#[]⟩, .int .i64 0, .int .i64 0, .int .i64 0, .int .i64 0, .int .u64 0, .int .i64 300, .int .i64 0, .slice none 0 0, .int .i64 0, .int .i64 0]] W fun r w' => NumPost 0 W r w') := fun W hk => by
    have := mright_any m300 (.slice none 0 0) (.slice none 0 0) mx W ⟨Ds.nil _ _, Ens.nil _ _⟩ m300_short (hkeepm.out W hk)
    rwa [m300_right] at this
  clear hm
  generalize frameL (bodyL m300) = fb at *
  go_enter Tryz.func49, Tryz.ntmps49
  go_wp2_with (first | (refine wpList_store_blk rfl 68 (.tmp 1) (.tmp 10) rfl w.heap.size 0 68 _ #[.int .i64 3, .int .i64 0, .int .i64 0, .int .i64 0, .int .i64 0, .int .i64 0, .slice none 0 0, .string ⟨#[]⟩, .int .i64 0, .int .i64 0, .int .i64 0, .int .i64 0, .int .u64 0, .int .i64 300, .int .i64 0, .slice none 0 0, .int .i64 0, .int .i64 0] #[.int .i64 3, .int .i64 0, .int .i64 0, .int .i64 0, .int .i64 0, .int .i64 0, .slice none 0 0, .string ⟨#[]⟩, .int .i64 0, .int .i64 0, .int .i64 0, .int .i64 0, .int .u64 0, .int .i64 300, .int .i64 0, .slice none 0 0, .int .i64 0, .int .i64 0] rfl rfl (Blk.new _ _ _) (by show 0 + 18 ≤ 18; omega) rfl (by kernel_rfl) rfl ?_; intro w1 hk hB; have Hk1 : Hid (Keeps [] w w1) := ((Keeps.refl _ _).alloc _).trans hk (by intro q hq; simp at hq; right; omega); have HB1 := Lib.hid hB; clear hk hB) | (refine wpList_load_mid rfl 68 (.tmp 1) rfl w.heap.size 0 rfl _ _ (blk_range HB1.out) Tryz.underlying68 rfl (by kernel_rfl) ?_))
  refine (hb1.out w1 Hk1.out).mono ?_
  rintro e w2 ⟨A2, c2, rfl, hS2, hb⟩
  have HS2 := Lib.hid (hS2 [] (by simp))
  have Hk2 := Lib.hid (Hk1.out.trans (Keeps.of_below (M := []) hb) (by simp)); have HB2 := Lib.hid (HB1.out.below hb HB1.out.lt)
  clear hS2 hb Hk1 HB1 hb1
  simp only []
  go_wp2_with fail
  refine (hr1.out w2 _ Hk2.out HS2.out).mono ?_
  rintro e w3 ⟨dv, lv, rfl, hM, hb⟩
  have HM3 := Lib.hid (hM [] (by simp))
  obtain ⟨Aa, na, rfl, _⟩ := HM3.out.1.len
  obtain ⟨Ba, ka, rfl, _⟩ := HM3.out.2.len
  have Hk3 := Lib.hid (Hk2.out.trans (Keeps.of_below (M := []) hb) (by simp)); have HB3 := Lib.hid (HB2.out.below hb HB2.out.lt)
  clear hM hb Hk2 HB2 HS2 hr1
  simp only []
  go_wp2_with (refine wpList_store_blk rfl 68 (.tmp 4) (.tmp 19) rfl w3.heap.size 0 68 _ (mCell m300 (.slice Aa m300.en.ds.length na) (.slice Ba m300.log.length ka)).toArray (mCell m300 (.slice Aa m300.en.ds.length na) (.slice Ba m300.log.length ka)).toArray rfl rfl (Blk.new _ _ _) (by show 0 + 18 ≤ 18; omega) rfl (by kernel_rfl) rfl ?_; intro w4 hk hB; have Hk4 : Hid (Keeps [] w3 w4) := ((Keeps.refl _ _).alloc _).trans hk (by intro q hq; simp at hq; right; omega); have HB4 := Lib.hid hB; clear hk hB)
  have HM4 := Lib.hid (HM3.out.keep Hk4.out (by simp)); have HK4 := Lib.hid (Hk3.out.trans Hk4.out (by simp)); have HB4a := Lib.hid (Hk4.out.blk HB3.out (by simp))
  clear HM3 HB3 Hk4
  refine (hb2.out w4 HK4.out).mono ?_
  rintro e w5 ⟨A5, c5, rfl, _, hb⟩
  have HK5 := Lib.hid (HK4.out.trans (Keeps.of_below (M := []) hb) (by simp)); have HB5 := Lib.hid (HB4.out.below hb HB4.out.lt); have HB5a := Lib.hid (HB4a.out.below hb HB4a.out.lt)
  have HM5 := Lib.hid (HM4.out.keep (Keeps.of_below (M := []) hb) (by simp))
  clear hb HK4 HB4 HB4a HM4 hb2
  simp only []
  go_wp2_with fail
  refine (hr2.out w5 HK5.out).mono ?_
  rintro e w6 ⟨dz, lz, rfl, hM, hb⟩
  obtain ⟨Az, nz, rfl, _⟩ := (hM [] (by simp)).1.len
  obtain ⟨Bz, kz, rfl, _⟩ := (hM [] (by simp)).2.len
  have HK6 := Lib.hid (HK5.out.trans (Keeps.of_below (M := []) hb) (by simp)); have HB6 := Lib.hid (HB5.out.below hb HB5.out.lt); have HB6a := Lib.hid (HB5a.out.below hb HB5a.out.lt)
  have HM6 := Lib.hid (HM5.out.keep (Keeps.of_below (M := []) hb) (by simp))
  clear hM hb HK5 HB5 HB5a HM5 hr2
  simp only []
  go_wp2_with (first | (refine wpList_store_blk rfl 68 (.tmp 8) (.tmp 28) rfl w6.heap.size 0 68 _ (mCell zeroM (.slice Az zeroM.en.ds.length nz) (.slice Bz zeroM.log.length kz)).toArray (mCell zeroM (.slice Az zeroM.en.ds.length nz) (.slice Bz zeroM.log.length kz)).toArray rfl rfl (Blk.new _ _ _) (by show 0 + 18 ≤ 18; omega) rfl (by kernel_rfl) rfl ?_; intro w7 hk hB; have Hk7 : Hid (Keeps [] w6 w7) := ((Keeps.refl _ _).alloc _).trans hk (by intro q hq; simp at hq; right; omega); have HB7 := Lib.hid hB; clear hk hB) | (refine wpList_load_g rfl 68 (.tmp 4) rfl w3.heap.size 0 rfl _ _ (blk_range (Hk7.out.blk HB6.out (by simp) |> Lib.hid).out) Tryz.underlying68 rfl (by kernel_rfl) ?_) | (refine wpList_load_g rfl 68 (.tmp 1) rfl w.heap.size 0 rfl _ _ (blk_range (Hk7.out.blk HB6a.out (by simp) |> Lib.hid).out) Tryz.underlying68 rfl (by kernel_rfl) ?_))
  refine (hs.out w7 _ _ (HM6.out.keep Hk7.out (by simp))).mono ?_
  rintro e w8 ⟨rfl, hb⟩
  have HK8 := Lib.hid ((HK6.out.trans Hk7.out (by simp)).trans (Keeps.of_below (M := []) hb) (by simp)); have HB8 := Lib.hid ((Hk7.out.blk HB6a.out (by simp) : Blk w7 _ _ _).below hb (Hk7.out.blk HB6a.out (by simp) : Blk w7 _ _ _).lt)
  clear hb
  go_wp2_with (refine wpList_load_g rfl 68 (.tmp 1) rfl w.heap.size 0 rfl _ _ (blk_range HB8.out) Tryz.underlying68 rfl (by kernel_rfl) ?_)
  refine (hri.out w8 HK8.out).mono ?_
  rintro e w9 ⟨rfl, hb⟩
  have HK9 := Lib.hid (HK8.out.trans (Keeps.of_below (M := []) hb) (by simp))
  clear hb
  go_wp2
  go_ret
  exact ⟨rfl, HK9.out.below⟩
end Go.Proofs.YtinnifhnabncfaaGreatDoor.Vi
end
/- Words for a disk: a row of bytes that it owns; append onto such a row. -/
section
namespace Go.Proofs.YtinnifhnabncfaaGreatDoor.Vi
open Go.RowKit Base Mem
/-- v is a row of these bytes that nobody else writes: it starts its block. -/
def Row1 (w : World) (v : Value) (l : List UInt8) : Prop :=
  (v = .slice none 0 0 ∧ l = []) ∨ ∃ g cap cur, v = .slice (some ⟨g, 0, none⟩) l.length cap ∧ Blk w g 5 cur ∧ l.length ≤ cap ∧ cap ≤ cur.size ∧ cap ≤ maxLen ∧ ∀ (j : Nat) (x : UInt8), l[j]? = some x → cur[j]? = some (bV x)
section
variable {w w' : World} {M M' : List Nat} {v : Value} {l : List UInt8}
theorem Row1.nil (w : World) : Row1 w (.slice none 0 0) [] := Or.inl ⟨rfl, rfl⟩
theorem Row1.of_own {base n : Nat} (h : w.ownsRow base 5 1 v n (l.map bV)) : Row1 w v l := by
  obtain ⟨hl, h⟩ := h
  have hn : n = l.length := by simpa using hl.symm
  subst hn
  rcases h with ⟨rfl, h0⟩ | ⟨g, cap, cur, rfl, _, hg, hnc, hm, hs, ht⟩
  · exact Or.inl ⟨rfl, List.eq_nil_of_length_eq_zero h0⟩
  · refine Or.inr ⟨g, cap, cur, rfl, hg, hnc, by omega, hm, fun j x hj => ?_⟩
    have h1 : (l.map bV)[j]? = some (bV x) := by rw [List.getElem?_map, hj]; rfl
    rw [← ht, List.getElem?_take] at h1
    split at h1
    · simpa using h1
    · cases h1
theorem Row1.len (h : Row1 w v l) : ∃ A c, v = .slice A l.length c ∧ l.length ≤ c ∧ c ≤ maxLen := by
  rcases h with ⟨rfl, rfl⟩ | ⟨g, cap, cur, rfl, _, h1, _, h2, _⟩
  · exact ⟨none, 0, rfl, Nat.le_refl _, by unfold maxLen; omega⟩
  · exact ⟨_, cap, rfl, h1, h2⟩
theorem Row1.lt (h : Row1 w v l) {g : Nat} (hg : v.ownBlock = some g) : g < w.heap.size := by
  rcases h with ⟨rfl, rfl⟩ | ⟨g', cap, cur, rfl, hb, _⟩
  · simp [Value.ownBlock] at hg
  · simp [Value.ownBlock] at hg; subst hg; exact hb.lt
theorem Row1.bs (h : Row1 w v l) (hM : ∀ g, v.ownBlock = some g → g ∉ M) : Bs w M v l := by
  rcases h with ⟨rfl, rfl⟩ | ⟨g, cap, cur, rfl, hb, h1, h2, _, hx⟩
  · exact Bs.nil _ _
  · refine ⟨_, cap, rfl, h1, by simp, fun _ => ⟨g, 0, rfl, hb.lt, hM g rfl, fun j u hu => ?_⟩⟩
    rw [hb.cell, Nat.zero_add]
    rw [List.getElem?_map] at hu
    obtain ⟨x, hx1, rfl⟩ := Option.map_eq_some_iff.1 hu
    exact hx j x hx1
theorem Row1.keep (h : Row1 w v l) (k : Keeps M w w') (hM : ∀ g, v.ownBlock = some g → g ∉ M) : Row1 w' v l := by
  rcases h with ⟨rfl, rfl⟩ | ⟨g, cap, cur, rfl, hb, rest⟩
  · exact .nil _
  · exact Or.inr ⟨g, cap, cur, rfl, k.blk hb (hM g rfl), rest⟩
theorem Row1.cut {A : Option Addr} {c : Nat} (h : Row1 w (.slice A l.length c) l) (n : Nat) (hn : n ≤ l.length) : Row1 w (.slice A n n) (l.take n) := by
  rcases h with ⟨e, rfl⟩ | ⟨g, cap, cur, e, hb, h1, h2, h3, hx⟩
  · injection e with e1 e2 e3
    subst e1
    have h0 : n = 0 := by simpa using hn
    subst h0
    exact .nil _
  · injection e with e1 e2 e3
    subst e1
    refine Or.inr ⟨g, n, cur, ?_, hb, ?_, by omega, by omega, fun j x hj => hx j x ?_⟩
    · rw [List.length_take, Nat.min_eq_left hn]
    · rw [List.length_take]; omega
    · rw [List.getElem?_take] at hj
      split at hj
      · exact hj
      · cases hj
end
theorem blk_setCells1 {g : Nat} {t : TypeId} : ∀ (vs : List Value) (o : Nat) (w : World) (cur : Array Value), Blk w g t cur →
    ∃ cur', Blk (w.setCells g o vs) g t cur' ∧ cur'.size = cur.size ∧ (∀ j, j < o → cur'[j]? = cur[j]?) ∧ (∀ j u, vs[j]? = some u → o + j < cur.size → cur'[o + j]? = some u) ∧ Keeps [g] w (w.setCells g o vs)
  | [], o, w, cur, h => ⟨cur, h, rfl, fun _ _ => rfl, fun j u hu => by simp at hu, Keeps.refl _ _⟩
  | x :: vs, o, w, cur, h => by
    obtain ⟨cur', h1, h2, h3, h4, h5⟩ := blk_setCells1 vs (o + 1) (w.setCell ⟨g, o, none⟩ x) (cur.setIfInBounds o x) (h.set_ o x)
    rw [Array.size_setIfInBounds] at h2 h4
    refine ⟨cur', h1, h2, fun j hj => ?_, fun j u hu hs => ?_, ?_⟩
    · rw [h3 j (by omega), Array.getElem?_setIfInBounds_ne (by omega)]
    · cases j with
      | zero =>
        simp at hu
        subst hu
        rw [h3 (o + 0) (by omega), Nat.add_zero, Array.getElem?_setIfInBounds_self, if_pos (by omega)]
      | succ j =>
        have := h4 j u (by simpa using hu) (by omega)
        rwa [show o + (j + 1) = o + 1 + j by omega]
    · exact ((Keeps.refl [g] w).setCell (by simp) x).trans h5 (by simp)
set_option maxRecDepth 100000 in
theorem wpList_append_row1 {ops : Array Oper} {rest : List Oper} {o : Oper} {a : Act} {w : World} {Q : Exit → Act → World → Prop} (hgd : o.guard = none) (s x : Operand)
    (ho : o.op = .call { callee := .builtin .append, args := #[s, x], argTypes := #[36, 36] })
    (v : Value) (b l : List UInt8) (A : Option Addr) (c : Nat) (M : List Nat) (hs : a.eval s = v) (hr : Row1 w v b) (hx : a.eval x = .slice A l.length c) (hl : Bs w M (.slice A l.length c) l) (h0 : 0 < l.length) (hb : b.length + l.length ≤ 100000000)
    (h : ∀ v' w', Row1 w' v' (b ++ l) → Keeps v.ownBlock.toList w w' → (∀ g, v'.ownBlock = some g → v.ownBlock = some g ∨ w.heap.size ≤ g) → wpList Tryz.prog ops Q rest (a.put o.dst v') w') : wpList Tryz.prog ops Q (o :: rest) a w := by
  obtain ⟨i0, hi0, hz0, hz1, hz2⟩ := info_parts infoU8
  obtain ⟨A', c', e, hcc, _, hrd⟩ := hl
  obtain ⟨rfl⟩ : A' = A := by injection e with e _ _; exact e.symm
  obtain ⟨g, off, rfl, hg, _, hc⟩ := hrd h0
  have hn : (l.map bV).length = l.length * 1 := by simp
  have hca : ∀ j u, (l.map bV)[j]? = some u → w.cell? ((⟨g, off, none⟩ : Addr).add j) = some u := fun j u hu => by rw [addr_add]; exact hc j u hu
  rcases hr with ⟨rfl, rfl⟩ | ⟨gb, cap, cur, rfl, hB, h1, h2, h3, hx2⟩
  · refine wpList_append_grows w hgd s x _ ho 5 i0 _ 1 1 Tryz.underlying36 hi0 hz0 hz1 hz2 rfl (by omega) none 0 0 [] hs (fun _ => ⟨rfl, rfl⟩) rfl (fun b hb => by cases hb) ⟨g, off, none⟩ l.length c (l.map bV) hx hn hca (bV_one l) (by omega) (by unfold maxLen; omega) (by omega) ?_
    intro v' w' hown hgr
    have hown' : w'.ownsRow w.heap.size 5 1 v' l.length (l.map bV) := by simpa using hown
    exact h v' w' (Row1.of_own hown') ((Keeps.refl _ _).grown hgr (by simp)) (fun k hk => .inr (hown'.lt k hk).1)
  · have holds : ∀ j u, (b.map bV)[j]? = some u → w.cell? ⟨gb, 0 + j, none⟩ = some u := fun j u hu => by
      rw [hB.cell, Nat.zero_add]
      rw [List.getElem?_map] at hu
      obtain ⟨y, hy, rfl⟩ := Option.map_eq_some_iff.1 hu
      exact hx2 j y hy
    refine wpList_append_arg w hgd s x _ ho 5 i0 _ 1 1 Tryz.underlying36 hi0 hz0 hz1 hz2 rfl (by omega) gb 0 b.length cap (b.map bV) hs (by simp) holds ⟨g, off, none⟩ l.length c (l.map bV) hx hn hca (bV_one l) ?_ (by unfold maxLen; omega) (by omega) ?_ ?_
    · intro hroom j hj
      rw [List.length_map] at hj
      refine ⟨?_, hB.frozen _⟩
      rw [hB.cell, Array.getElem?_eq_getElem (by omega)]; rfl
    · intro hroom
      obtain ⟨cur', hB', hs', hlow, hin, hk⟩ := blk_setCells1 (l.map bV) (0 + b.length * 1) w cur hB
      refine h _ _ (Or.inr ⟨gb, cap, cur', ?_, hB', by rw [List.length_append]; omega, by omega, h3, fun j y hj => ?_⟩) (by simpa [Value.ownBlock] using hk) (fun k hk => .inl hk)
      · rw [List.length_append]
      · rcases Nat.lt_or_ge j b.length with hjb | hjb
        · rw [List.getElem?_append_left hjb] at hj
          rw [hlow j (by omega)]
          exact hx2 j y hj
        · rw [List.getElem?_append_right hjb] at hj
          have hjl : j - b.length < l.length := (List.getElem?_eq_some_iff.1 hj).1
          have := hin (j - b.length) (bV y) (by rw [List.getElem?_map, hj]; rfl) (by omega)
          rwa [show 0 + b.length * 1 + (j - b.length) = j by omega] at this
    · intro hgrow v' w' hown hgr
      have hown' : w'.ownsRow w.heap.size 5 1 v' (b.length + l.length) ((b ++ l).map bV) := by simpa using hown
      exact h v' w' (Row1.of_own hown') ((Keeps.refl _ _).grown hgr (by simp)) (fun k hk => .inr (hown'.lt k hk).1)
/-- A disk lies in block d: its bytes, how many of them last; it writes no other blocks than those of X. -/
def DkAt (w : World) (X : List Nat) (d : Nat) (b : List UInt8) (k : Nat) : Prop :=
  ∃ v, Blk w d 112 #[v, .int .i64 k] ∧ Row1 w v b ∧ d ∈ X ∧ (∀ g, v.ownBlock = some g → g ∈ X ∧ g ≠ d) ∧ k ≤ b.length ∧ b.length ≤ 1048576 ∧ ∀ g ∈ X, g < w.heap.size
/-- Blocks of X' are those of X, or new. -/
def Grows (X : List Nat) (w : World) (X' : List Nat) : Prop := ∀ g ∈ X', g ∈ X ∨ w.heap.size ≤ g
theorem Grows.refl (X : List Nat) (w : World) : Grows X w X := fun _ h => .inl h
theorem Grows.trans {X X' X'' : List Nat} {w w' : World} (h : Grows X w X') (k : Grows X' w' X'') (hs : w.heap.size ≤ w'.heap.size) : Grows X w X'' := fun g hg => by
  rcases k g hg with h1 | h1
  · exact h g h1
  · right; omega
theorem DkAt.lt {w : World} {X : List Nat} {d k : Nat} {b : List UInt8} (h : DkAt w X d b k) : d < w.heap.size := by obtain ⟨_, h, _⟩ := h; exact h.lt
theorem DkAt.le {w : World} {X : List Nat} {d k : Nat} {b : List UInt8} (h : DkAt w X d b k) : k ≤ b.length ∧ b.length ≤ 1048576 := by obtain ⟨_, _, _, _, _, h1, h2, _⟩ := h; exact ⟨h1, h2⟩
theorem DkAt.keep {w w' : World} {X M : List Nat} {d k : Nat} {b : List UInt8} (h : DkAt w X d b k) (hk : Keeps M w w') (hM : ∀ g ∈ X, g ∉ M) : DkAt w' X d b k := by
  obtain ⟨v, h1, h2, h3, h4, h5, h6, h7⟩ := h
  exact ⟨v, hk.blk h1 (hM d h3), h2.keep hk (fun g hg => hM g (h4 g hg).1), h3, h4, h5, h6, fun g hg => Nat.lt_of_lt_of_le (h7 g hg) hk.size⟩
theorem DkAt.keep0 {w w' : World} {X : List Nat} {d k : Nat} {b : List UInt8} (h : DkAt w X d b k) (hk : Keeps [] w w') : DkAt w' X d b k := h.keep hk (by simp)
end Go.Proofs.YtinnifhnabncfaaGreatDoor.Vi
end
/- The walk of hopperlaw6.MailBack. -/
section
namespace Go.Proofs.YtinnifhnabncfaaGreatDoor.Vi
open Go.RowKit Base Mem Tape Go.Shelf
theorem msg_body2 {m : MsgD} (h : MsgOk m) : (bodyL m).length ≤ 16000 := by
  have hs := msg_wf h
  obtain ⟨he, hl, hl4, h1, h2, h3, h4, h5, h6, h7, h8, hz, _, hk1⟩ := h
  have b1 := blobs_len m.log hl
  have u1 := Lib.uvarint_length64 (x := m.tag.toNat) (by omega)
  have u2 := Lib.uvarint_length64 (x := m.code.toNat) (by omega)
  have u3 := Lib.uvarint_length64 (x := m.nn.toNat) (by omega)
  have u4 := Lib.uvarint_length64 (x := m.term.toNat) (by omega)
  have u5 := Lib.uvarint_length64 (x := m.had.toNat) (by omega)
  have u6 := Lib.uvarint_length64 (x := m.commit.toNat) (by omega)
  have u7 := Lib.uvarint_length64 (x := m.len.toNat) (by omega)
  have u8 := Lib.uvarint_length64 (x := m.log.length) (by omega)
  have hp : (putLog m.log).length ≤ 10 + 4 * 1210 := by unfold putLog; rw [List.length_append]; omega
  rw [bodyL_rest, List.length_cons]
  unfold restL
  split
  · rename_i hk
    have := blob_len (hk1 hk)
    omega
  all_goals (try split)
  all_goals (try split)
  all_goals (try split)
  all_goals (try split)
  all_goals (first | omega | (simp only [List.length_append]; omega))

theorem uvarint_two {n : Nat} (h : n < 16384) : (Lib.uvarint n).length ≤ 2 := by
  by_cases h1 : 128 ≤ n
  · rw [Lib.uvarint_big h1, Lib.uvarint_small (by omega)]; simp
  · rw [Lib.uvarint_small (by omega)]; simp
theorem u8_xor_nat (a b : Nat) (ha : a < 256) (hb : b < 256) : bits .xor .u8 (a : Int) (b : Int) = ((a ^^^ b : Nat) : Int) := by
  have h : a ^^^ b < 256 := Nat.xor_lt_two_pow (n := 8) ha hb
  show IntKind.u8.wrap ((BitVec.ofInt 8 (a : Int) ^^^ BitVec.ofInt 8 (b : Int)).toNat : Int) = _
  rw [BitVec.toNat_xor, BitVec.ofInt_natCast, BitVec.ofInt_natCast, BitVec.toNat_ofNat, BitVec.toNat_ofNat, Nat.mod_eq_of_lt (by omega), Nat.mod_eq_of_lt (by omega), IntKind.wrap_u8]
  omega
theorem bk_bytes {m : MsgD} (h : MsgOk m) (dv lv : Value) (mx : Int) (w : World) (ha : MsgAt w [] m dv lv) (hm : w.cell? ⟨0, 0, none⟩ = some (.int .i64 mx)) :
    Calls Tryz.prog 52 #[.agg (mCell m dv lv).toArray] w fun r w' => MBPost (frameL (bodyL m), 0) w r w' := by
  have := mbytes_any m dv lv mx w ha (msg_short h) (msg_wf h) hm
  rwa [show mbytesS m = (frameL (bodyL m), 0) by unfold mbytesS; rw [if_pos (msg_right h), if_neg (by have := msg_body h; omega)]] at this
theorem Row1.set_ {w : World} {g cap : Nat} {l : List UInt8} (h : Row1 w (.slice (some ⟨g, 0, none⟩) l.length cap) l) (i : Nat) (hi : i < l.length) (y : UInt8) : Row1 (w.setCell ⟨g, i, none⟩ (bV y)) (.slice (some ⟨g, 0, none⟩) (l.set i y).length cap) (l.set i y) := by
  rcases h with ⟨e, _⟩ | ⟨g', cap', cur, e, hb, h1, h2, h3, hx⟩
  · cases e
  · injection e with e1 e2 e3
    injection e1 with e1
    injection e1 with e1 _ _
    subst e1 e3
    refine Or.inr ⟨g, cap, _, rfl, hb.set_ i (bV y), by simpa using h1, by simpa using h2, h3, fun j x hj => ?_⟩
    by_cases hij : i = j
    · subst hij
      rw [List.getElem?_set_self (by simpa using hi)] at hj
      injection hj with hj
      subst hj
      rw [Array.getElem?_setIfInBounds_self, if_pos (by omega)]
    · rw [List.getElem?_set_ne hij] at hj
      rw [Array.getElem?_setIfInBounds_ne hij]
      exact hx j x hj
theorem Bs.head {w : World} {M : List Nat} {A : Option Addr} {c : Nat} {l : List UInt8} (h : Bs w M (.slice A l.length c) l) (k : Nat) (hk : k ≤ l.length) : Bs w M (.slice A k c) (l.take k) := by
  obtain ⟨A', c', e, hcc, hl, hr⟩ := h
  injection e with e1 _ e3
  subst e1 e3
  show Rd _ _ _ _ (l.take k).length _
  rw [List.length_take, Nat.min_eq_left hk]
  refine ⟨_, c, rfl, by omega, by simp; omega, fun hn => ?_⟩
  obtain ⟨g, off, rfl, hg, hm, hx⟩ := hr (by omega)
  refine ⟨g, off, rfl, hg, hm, fun j u hu => hx j u ?_⟩
  rw [List.getElem?_map] at hu ⊢
  rw [List.getElem?_take] at hu
  split at hu
  · exact hu
  · cases hu
theorem msg_small {m : MsgD} (h : MsgOk m) : m.en.ds.length ≤ 1048576 ∧ m.log.length ≤ 1048576 ∧ ∀ e ∈ m.log, e.ds.length ≤ 1048576 := by
  obtain ⟨he, hl, hl4, _⟩ := h
  have h4 : ∀ e : EntryD, EntryOk e → e.ds.length ≤ 1048576 := fun e h => by
    obtain ⟨_, _, _, _, ⟨_, _, _, _, _, _, h⟩ | ⟨_, _, _, _, _, _, _, _, _, _, _, h, _⟩⟩ := h
    · rw [h]; simp
    · omega
  refine ⟨?_, by omega, fun e hm => h4 e (hl e hm)⟩
  rcases he with he | he
  · rw [he]; simp [zeroD]
  · exact h4 _ he
theorem bs_reads_in {w w8 : World} {A : Option Addr} {c : Nat} {l : List UInt8} (h : Bs w [] (.slice A l.length c) l) (hk : Keeps [] w w8) : Reads w8 w8.heap.size 1 A l.length (l.map bV) := by
  obtain ⟨A', c', e, _, h⟩ := (h.keep hk (by simp)).reads
  injection e with e1 _ _
  subst e1
  exact h
theorem own_some {w : World} {base : Nat} {v : Value} {l : List UInt8} (h : w.ownsRow base 5 1 v (0 + l.length) ([] ++ l.map bV)) (hl : 0 < l.length) : ∃ g cap, v = .slice (some ⟨g, 0, none⟩) l.length cap ∧ base ≤ g ∧ Row1 w (.slice (some ⟨g, 0, none⟩) l.length cap) l := by
  have h' : w.ownsRow base 5 1 v l.length (l.map bV) := by simpa using h
  have r := Row1.of_own h'
  obtain ⟨_, h⟩ := h'
  rcases h with ⟨rfl, h0⟩ | ⟨g, cap, cur, rfl, hb, _⟩
  · omega
  · exact ⟨g, cap, rfl, hb, r⟩
theorem Row1.cellAt {w : World} {g cap : Nat} {l : List UInt8} (h : Row1 w (.slice (some ⟨g, 0, none⟩) l.length cap) l) {i : Nat} {x : UInt8} (hi : l[i]? = some x) : w.cell? ⟨g, i, none⟩ = some (.int .u8 x.toNat) ∧ w.frozen? ⟨g, i, none⟩ = false := by
  rcases h with ⟨e, _⟩ | ⟨g', cap', cur, e, hb, h1, h2, h3, hx⟩
  · cases e
  · injection e with e1 e2 e3
    injection e1 with e1
    injection e1 with e1 _ _
    subst e1
    exact ⟨by rw [hb.cell, hx i x hi]; rfl, hb.frozen _⟩
theorem turn_bit (cc : UInt8) (bit : Int) : ∃ y : UInt8, y ≠ cc ∧ bits .xor .u8 (cc.toNat : Int) (2 ^ min (IntKind.u64.wrap (bits .and .i64 bit 7)).toNat 8 % 256) = (y.toNat : Int) := by
  obtain ⟨j, hj, hj8⟩ : ∃ j : Nat, bit % 8 = (j : Int) ∧ j < 8 := ⟨(bit % 8).toNat, by omega, by omega⟩
  have hw : IntKind.u64.wrap (j : Int) = (j : Int) := by rw [IntKind.wrap_u64]; omega
  rw [mask_7, hj, hw, Int.toNat_natCast, Nat.min_eq_left (by omega)]
  obtain ⟨p, hp, hp0, hp1⟩ : ∃ p : Nat, (2 ^ j % 256 : Int) = (p : Int) ∧ 0 < p ∧ p < 256 := by
    have : j = 0 ∨ j = 1 ∨ j = 2 ∨ j = 3 ∨ j = 4 ∨ j = 5 ∨ j = 6 ∨ j = 7 := by omega
    rcases this with rfl | rfl | rfl | rfl | rfl | rfl | rfl | rfl
    · exact ⟨1, by decide, by decide, by decide⟩
    · exact ⟨2, by decide, by decide, by decide⟩
    · exact ⟨4, by decide, by decide, by decide⟩
    · exact ⟨8, by decide, by decide, by decide⟩
    · exact ⟨16, by decide, by decide, by decide⟩
    · exact ⟨32, by decide, by decide, by decide⟩
    · exact ⟨64, by decide, by decide, by decide⟩
    · exact ⟨128, by decide, by decide, by decide⟩
  have hc := cc.toNat_lt
  rw [hp, u8_xor_nat _ _ (by omega) hp1]
  have hx : cc.toNat ^^^ p < 256 := Nat.xor_lt_two_pow (n := 8) (by omega) hp1
  have hn : (UInt8.ofNat (cc.toNat ^^^ p)).toNat = cc.toNat ^^^ p := by rw [UInt8.toNat_ofNat']; exact Nat.mod_eq_of_lt hx
  refine ⟨UInt8.ofNat (cc.toNat ^^^ p), fun h => ?_, by rw [hn]⟩
  rw [h] at hn
  have h2 : cc.toNat ^^^ (cc.toNat ^^^ p) = cc.toNat ^^^ cc.toNat := by rw [← hn]
  rw [← Nat.xor_assoc, Nat.xor_self, Nat.zero_xor] at h2
  omega
/-- A frame that is none is no message. -/
theorem mReadS_none {l : List UInt8} (h : readF l = none) : mReadS l = (zeroM, 12) := by unfold mReadS; rw [h]
set_option maxRecDepth 100000 in
set_option maxHeartbeats 8000000 in
theorem back6_walk (A1 : Option Addr) (c1 : Nat) (l1 : List Int) (at_ bit m : Int) (w : World) (ha : Nums w A1 c1 l1) (hm : w.cell? ⟨0, 0, none⟩ = some (.int .i64 m)) :
    Calls Tryz.prog 11 #[.slice A1 l1.length c1, .int .i64 at_, .int .i64 bit] w fun e w' => SamePost true w e w' := by
  have hw0 : 0 < w.heap.size := by
    have := World.block_lt_of_cell? w _ hm
    simpa using this
  have hkeepm : Hid (∀ W, Keeps [] w W → W.cell? ⟨0, 0, none⟩ = some (.int .i64 m)) := fun W hb => (hb.cell (p := ⟨0, 0, none⟩) hw0 (by simp)).trans hm
  have Ha := Lib.hid ha
  clear ha hm
  go_enter Tryz.func11, Tryz.ntmps11
  go_wp2_with fail
  refine (tmsg_any Ha.out (Below.refl _ w)).mono ?_
  rintro e w1 ⟨a, da, la, rfl, hao, haD, hb1⟩
  have Hao := Lib.hid hao; have HaD := Lib.hid (haD [] (by simp)); have Hk1 : Hid (Keeps [] w w1) := Keeps.of_below (M := []) hb1
  clear hao haD hb1
  obtain ⟨Aa, na, rfl, _⟩ := HaD.out.1.len
  obtain ⟨Ba, ka, rfl, _⟩ := HaD.out.2.len
  go_wp2_with (first | (refine wpList_store_blk rfl 68 (.tmp 7) (.tmp 20) rfl w1.heap.size 0 68 #[.int .i64 0, .int .i64 0, .int .i64 0, .int .i64 0, .int .i64 0, .int .i64 0, .slice none 0 0, .string ⟨#[]⟩, .int .i64 0, .int .i64 0, .int .i64 0, .int .i64 0, .int .u64 0, .int .i64 0, .int .i64 0, .slice none 0 0, .int .i64 0, .int .i64 0] (mCell a (.slice Aa a.en.ds.length na) (.slice Ba a.log.length ka)).toArray (mCell a (.slice Aa a.en.ds.length na) (.slice Ba a.log.length ka)).toArray rfl rfl (Blk.new w1 _ _) (by show 0 + 18 ≤ 18; omega) rfl (by kernel_rfl) rfl ?_; intro w2 hk2 hB2; have HB2 := Lib.hid hB2; have HK2 : Hid (Keeps [] w1 w2) := ((Keeps.refl _ _).alloc _).trans hk2 (by intro q hq; simp at hq; right; omega); clear hk2 hB2) | (refine wpList_load_mid rfl 68 (.tmp 7) rfl w1.heap.size 0 rfl _ _ (blk_range HB2.out) Tryz.underlying68 rfl (by kernel_rfl) ?_))
  have Hk2 := Lib.hid (Hk1.out.trans HK2.out (by simp)); have HaD2 := Lib.hid (HaD.out.keep HK2.out (by simp))
  clear Hk1 HK2 HaD
  refine (bk_bytes Hao.out _ _ m w2 HaD2.out (hkeepm.out w2 Hk2.out)).mono ?_
  rintro e w3 ⟨A3, c3, rfl, hS3, hb3⟩
  have HS3 := Lib.hid (hS3 [] (by simp))
  have Hk3 := Lib.hid (Hk2.out.trans (Keeps.of_below (M := []) hb3) (by simp))
  have HaD3 := Lib.hid (HaD2.out.keep (Keeps.of_below (M := []) hb3) (by simp))
  have HB3 := Lib.hid (HB2.out.below hb3 HB2.out.lt)
  clear hS3 hb3 HaD2 HB2 Hk2
  simp only []
  obtain ⟨fl, hfl⟩ : ∃ fl, Hid (frameL (bodyL a) = fl) := ⟨_, rfl⟩
  have hbd1 := msg_body2 Hao.out
  have hbd0 : 1 ≤ (bodyL a).length := by rw [bodyL_rest]; simp
  have hfl6 : 6 ≤ fl.length ∧ fl.length ≤ 20000 := by
    rw [← hfl.out, frameL_len]
    have h1 := Lib.uvarint_pos (bodyL a).length
    have h2 := uvarint_two (n := (bodyL a).length) (by omega)
    omega
  obtain ⟨hf6, hf7⟩ := hfl6
  rw [hfl.out] at HS3 ⊢
  have hread : Hid (mReadS fl = (a, 0)) := by
    show _ = _
    rw [← hfl.out]
    exact mread_put a (msg_right Hao.out) (msg_short Hao.out) (msg_wf Hao.out) (msg_body Hao.out)
  have hrd : Hid (∀ W v l, Keeps [] w W → Bs W [] v l → l.length ≤ 20000 → Calls Tryz.prog 53 #[v] W fun e w' => MReadP (mReadS l) W e w') := fun W v l hk hv hl => mRead_any v l m W hv (by omega) (hkeepm.out W hk)
  clear hbd1 hbd0
  go_wp2_with fail
  refine (hrd.out w3 _ fl Hk3.out HS3.out hf7).mono ?_
  rw [hread.out]
  rintro e w4 ⟨dv, lv, rfl, hD4, hb4⟩
  have HD4 := Lib.hid (hD4 [] (by simp))
  obtain ⟨Ac, nc, rfl, _⟩ := HD4.out.1.len
  obtain ⟨Bc, kc, rfl, _⟩ := HD4.out.2.len
  have Hk4 := Lib.hid (Hk3.out.trans (Keeps.of_below (M := []) hb4) (by simp))
  have HaD4 := Lib.hid (HaD3.out.keep (Keeps.of_below (M := []) hb4) (by simp))
  have HS4 := Lib.hid (HS3.out.keep (Keeps.of_below (M := []) hb4) (by simp))
  have HB4 := Lib.hid (HB3.out.below hb4 HB3.out.lt)
  clear hD4 hb4 HaD3 HB3 HS3 Hk3 hread
  simp only []
  have hsml := Lib.hid (msg_small Hao.out)
  have hf6i : (6 : Int) ≤ (fl.length : Int) := by omega
  have hd6 : decide ((fl.length : Int) < 6) = false := decide_eq_false (by omega)
  go_wp2_with (first | (refine wpList_store_blk rfl 68 (.tmp 10) (.tmp 29) rfl w4.heap.size 0 68 #[.int .i64 0, .int .i64 0, .int .i64 0, .int .i64 0, .int .i64 0, .int .i64 0, .slice none 0 0, .string ⟨#[]⟩, .int .i64 0, .int .i64 0, .int .i64 0, .int .i64 0, .int .u64 0, .int .i64 0, .int .i64 0, .slice none 0 0, .int .i64 0, .int .i64 0] (mCell a (.slice Ac a.en.ds.length nc) (.slice Bc a.log.length kc)).toArray (mCell a (.slice Ac a.en.ds.length nc) (.slice Bc a.log.length kc)).toArray rfl rfl (Blk.new w4 _ _) (by show 0 + 18 ≤ 18; omega) rfl (by kernel_rfl) rfl ?_; intro w5 hk5 hB5; have HB5 := Lib.hid hB5; have HK5 : Hid (Keeps [] w4 w5) := ((Keeps.refl _ _).alloc _).trans hk5 (by intro q hq; simp at hq; right; omega); clear hk5 hB5) | (rw [hd6]; refine wpList_load_g rfl 68 (.tmp 10) rfl w4.heap.size 0 rfl _ _ (blk_range HB5.out) Tryz.underlying68 rfl (by kernel_rfl) ?_) | (refine wpList_load_g rfl 68 (.tmp 10) rfl w4.heap.size 0 rfl _ _ (blk_range HB5.out) Tryz.underlying68 rfl (by kernel_rfl) ?_) | (refine wpList_load_g rfl 68 (.tmp 7) rfl w1.heap.size 0 rfl _ _ (blk_range (HK5.out.blk HB4.out (by simp))) Tryz.underlying68 rfl (by kernel_rfl) ?_) | fail)
  have Hk5 := Lib.hid (Hk4.out.trans HK5.out (by simp)); have HaD5 := Lib.hid (HaD4.out.keep HK5.out (by simp)); have HD5 := Lib.hid (HD4.out.keep HK5.out (by simp))
  have HS5 := Lib.hid (HS4.out.keep HK5.out (by simp))
  clear HD4 HaD4 HS4 HB4 Hk4 HK5
  refine (rmsame_eq a _ _ _ _ w5 HD5.out HaD5.out hsml.out.1 hsml.out.2).mono ?_
  rintro e w6 ⟨rfl, hb6⟩
  have Hk6 := Lib.hid (Hk5.out.trans (Keeps.of_below (M := []) hb6) (by simp)); have HS6 := Lib.hid (HS5.out.keep (Keeps.of_below (M := []) hb6) (by simp))
  clear hb6 HD5 HaD5 HS5 HB5 Hk5 hsml hd6
  obtain ⟨k, hk0, hk1⟩ : ∃ k : Nat, Hid (withinS at_ 0 ((fl.length : Int) - 1) = (k : Int)) ∧ k < fl.length := by
    have := within_bd at_ 0 ((fl.length : Int) - 1) (by omega)
    exact ⟨(withinS at_ 0 ((fl.length : Int) - 1)).toNat, by show _ = _; omega, by omega⟩
  have hki : (k : Int) ≤ (c3 : Int) := by
    obtain ⟨A', c', e, hc, _⟩ := HS6.out
    injection e with _ _ e3
    subst e3
    omega
  have hk00 : (0 : Int) ≤ (k : Int) := by omega
  have hwi := Lib.hid (fun W => within_any at_ 0 ((fl.length : Int) - 1) W (by omega) (by omega) (by omega))
  rw [hk0.out] at hwi
  have hcut : Hid (mReadS (fl.take k) = (zeroM, 12)) := by
    show _ = _
    rw [← hfl.out]
    exact mReadS_none (readF_cut _ (msg_body Hao.out) k (by rw [hfl.out]; exact hk1))
  go_wp2_with fail
  refine (hwi.out _).mono ?_
  rintro e wz ⟨rfl, rfl⟩
  go_wp2_with fail
  refine (hrd.out w6 _ (fl.take k) Hk6.out (HS6.out.head k (by omega)) (by rw [List.length_take]; omega)).mono ?_
  rw [hcut.out]
  rintro e w7 ⟨dz, lz, rfl, hD7, hb7⟩
  obtain ⟨Az, nz, rfl, _⟩ := (hD7 [] (by simp)).1.len
  obtain ⟨Bz, kz, rfl, _⟩ := (hD7 [] (by simp)).2.len
  have Hk7 := Lib.hid (Hk6.out.trans (Keeps.of_below (M := []) hb7) (by simp)); have HS7 := Lib.hid (HS6.out.keep (Keeps.of_below (M := []) hb7) (by simp))
  clear hD7 hb7 Hk6 HS6 hwi hcut hki hk00
  simp only []
  obtain ⟨i0, hi0, hz0, hz1, hz2⟩ := info_parts infoU8
  have Hi0 := Lib.hid hi0; have Hz0 := Lib.hid hz0; have Hz1 := Lib.hid hz1; have Hz2 := Lib.hid hz2
  clear hi0 hz0 hz1 hz2
  obtain ⟨g3, o3, hA3⟩ : ∃ g o, A3 = some ⟨g, o, none⟩ := by
    obtain ⟨A', c', e, _, _, hr⟩ := HS7.out
    injection e with e1 _ _
    subst e1
    obtain ⟨g, off, e, _⟩ := hr (by omega)
    exact ⟨g, off, e⟩
  subst hA3
  go_wp2_with (first | (refine wpList_store_blk rfl 68 (.tmp 12) (.tmp 57) rfl w7.heap.size 0 68 #[.int .i64 0, .int .i64 0, .int .i64 0, .int .i64 0, .int .i64 0, .int .i64 0, .slice none 0 0, .string ⟨#[]⟩, .int .i64 0, .int .i64 0, .int .i64 0, .int .i64 0, .int .u64 0, .int .i64 0, .int .i64 0, .slice none 0 0, .int .i64 0, .int .i64 0] (mCell zeroM (.slice Az zeroM.en.ds.length nz) (.slice Bz zeroM.log.length kz)).toArray (mCell zeroM (.slice Az zeroM.en.ds.length nz) (.slice Bz zeroM.log.length kz)).toArray rfl rfl (Blk.new w7 _ _) (by show 0 + 18 ≤ 18; omega) rfl (by kernel_rfl) rfl ?_; intro w8 hk8 hB8; have HK8 : Hid (Keeps [] w7 w8) := ((Keeps.refl _ _).alloc _).trans hk8 (by intro q hq; simp at hq; right; omega); clear hk8 hB8) | (at_builtin; refine wpList_append_any _ rfl (.tmp 59) (.tmp 60) _ rfl w8.heap.size 5 i0 _ 1 1 Tryz.underlying36 Hi0.out Hz0.out Hz1.out Hz2.out rfl (by omega) (.slice (some ⟨w8.heap.size, 0, none⟩) 0 0) 0 [] rfl (World.ownsRow_made w8 #[] 0 (Nat.le_refl _) (by unfold maxLen; omega) rfl) w8.heap.size (some ⟨g3, o3, none⟩) fl.length c3 (fl.map bV) rfl ((bs_reads_in HS7.out HK8.out).alloc (Nat.le_refl _) _) (bV_one fl) (by unfold maxLen; omega) (by omega) (by simp) ?_; intro v9 w9 hown9 hg9 hat9; obtain ⟨g9, cap9, rfl, hge9, hrow9⟩ := own_some hown9 (by omega); have HR9 := Lib.hid hrow9; have HB9 := Lib.hid (grown_empty hg9); clear hown9 hg9 hat9 hrow9) | fail)
  have Hk9 := Lib.hid ((Hk7.out.trans HK8.out (by simp)).trans (Keeps.of_below (M := []) HB9.out) (by simp))
  have hw9 : w.heap.size ≤ g9 := by have := (Hk7.out.trans HK8.out (by simp)).size; omega
  clear Hk7 HK8 HB9 HS7
  obtain ⟨k2, hk20, hk21⟩ : ∃ k : Nat, Hid (withinS at_ 0 ((fl.length : Int) - 3) = (k : Int)) ∧ k + 3 ≤ fl.length := by
    have := within_bd at_ 0 ((fl.length : Int) - 3) (by omega)
    exact ⟨(withinS at_ 0 ((fl.length : Int) - 3)).toNat, by show _ = _; omega, by omega⟩
  have hwi := Lib.hid (fun W => within_any at_ 0 ((fl.length : Int) - 3) W (by omega) (by omega) (by omega))
  rw [hk20.out] at hwi
  refine (hwi.out _).mono ?_
  rintro e wz ⟨rfl, rfl⟩
  clear hwi
  obtain ⟨cc, hcc⟩ : ∃ cc, fl[2 + k2]? = some cc := ⟨_, List.getElem?_eq_getElem (by omega)⟩
  obtain ⟨hce, hfz⟩ := HR9.out.cellAt hcc
  have hci : (2 : Int) + (k2 : Int) < (fl.length : Int) := by omega
  obtain ⟨y, hy1, hy2⟩ := turn_bit cc bit
  have Hy2 := Lib.hid hy2
  clear hy2
  have hbS : Hid (Bs (w9.setCell ⟨g9, 2 + k2, none⟩ (.int .u8 y.toNat)) [] (.slice (some ⟨g9, 0, none⟩) fl.length cap9) (fl.set (2 + k2) y)) := by
    have := (HR9.out.set_ (2 + k2) (by omega) y).bs (M := []) (by simp)
    rwa [List.length_set] at this
  have hkS : Hid (Keeps [] w (w9.setCell ⟨g9, 2 + k2, none⟩ (.int .u8 y.toNat))) := Hk9.out.setCell (.inr hw9) _
  have hturn : Hid (mReadS (fl.set (2 + k2) y) = (zeroM, 12)) := by
    show _ = _
    have hbd := msg_body2 Hao.out
    have h2 := uvarint_two (n := (bodyL a).length) (by omega)
    refine mReadS_none ?_
    rw [← hfl.out]
    exact readF_turn _ (msg_body Hao.out) (2 + k2) y (by omega) (by rw [hfl.out]; omega) (by rw [hfl.out, List.getD_eq_getElem?_getD, hcc]; exact Ne.symm hy1)
  go_wp2_with fail
  rw [Hy2.out]
  refine (hrd.out _ _ (fl.set (2 + k2) y) hkS.out hbS.out (by rw [List.length_set]; omega)).mono ?_
  rw [hturn.out]
  rintro e wA ⟨dz2, lz2, rfl, hDA, hbA⟩
  obtain ⟨Ay, ny, rfl, _⟩ := (hDA [] (by simp)).1.len
  obtain ⟨By, ky, rfl, _⟩ := (hDA [] (by simp)).2.len
  have HkA := Lib.hid (hkS.out.trans (Keeps.of_below (M := []) hbA) (by simp))
  clear hDA hbA Hk9 hkS hbS hturn Hy2 HR9 hce hfz hci
  simp only []
  go_wp2_with (first | (refine wpList_store_blk rfl 68 (.tmp 15) (.tmp 80) rfl wA.heap.size 0 68 #[.int .i64 0, .int .i64 0, .int .i64 0, .int .i64 0, .int .i64 0, .int .i64 0, .slice none 0 0, .string ⟨#[]⟩, .int .i64 0, .int .i64 0, .int .i64 0, .int .i64 0, .int .u64 0, .int .i64 0, .int .i64 0, .slice none 0 0, .int .i64 0, .int .i64 0] (mCell zeroM (.slice Ay zeroM.en.ds.length ny) (.slice By zeroM.log.length ky)).toArray (mCell zeroM (.slice Ay zeroM.en.ds.length ny) (.slice By zeroM.log.length ky)).toArray rfl rfl (Blk.new wA _ _) (by show 0 + 18 ≤ 18; omega) rfl (by kernel_rfl) rfl ?_; intro wB hkB hBB; have HKB : Hid (Keeps [] wA wB) := ((Keeps.refl _ _).alloc _).trans hkB (by intro q hq; simp at hq; right; omega); clear hkB hBB) | fail)
  have HkB := Lib.hid (HkA.out.trans HKB.out (by simp))
  refine (mknown_any m wB (hkeepm.out wB HkB.out)).mono ?_
  rintro e wC ⟨rfl, hbC⟩
  have HkC := Lib.hid (HkB.out.trans (Keeps.of_below (M := []) hbC) (by simp))
  clear hbC HkA HKB HkB
  go_wp2_with fail
  go_ret
  exact ⟨rfl, HkC.out.below⟩
end Go.Proofs.YtinnifhnabncfaaGreatDoor.Vi
end
