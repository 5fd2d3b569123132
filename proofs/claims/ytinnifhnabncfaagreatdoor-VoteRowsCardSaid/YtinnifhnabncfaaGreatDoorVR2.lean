/- Texts put together: PlF, Crc, CatLay, Cat, FrB, FrR, Dk1, Dk2, Lab1, DoorLay, Lab2, RowK, Lab3. -/
import Derived.Shelf.SlGeneric
import Derived.Shelf.Spec.SlicesGrow
import Derived.Test.YtinnifhnabncfaaGreatDoorProg
import Derived.ArgAppend
import Derived.Laws.IdiomCopy
import Derived.BigQuiet
import Derived.Shelf.SlLaysF0
import Derived.Shelf.SlLaysQ
import Derived.Shelf.SlLaysH0
import Derived.Ground.SlsfProg
import Derived.Ground.SlgqProg
import Derived.Ground.SlgfProg
import Derived.Deep.RegionHeld3
import Derived.Laws.Cover1
import Derived.Shelf.SlSortCmp.InsertionK
import Derived.Shelf.GgSortFunc.InsertionK
import Derived.Test.YtinnifhnabncfaaGreatDoorVR1
/- Plain words: sums of bytes; frames; a frame cut short or turned is none. -/
section
namespace Go.Proofs.YtinnifhnabncfaaGreatDoor.Vi
open Go.RowKit Base Mem
def crcStep (c : Nat) : Nat := (c / 2) ^^^ (3988292384 * (c % 2))
def crcN : Nat → Nat → Nat
  | 0, c => c
  | k + 1, c => crcN k (crcStep c)
def crcNext (c : Nat) (b : UInt8) : Nat := crcN 8 (c ^^^ b.toNat)
def crcOn (c : Nat) (l : List UInt8) : Nat := l.foldl crcNext c
/-- The sum of bytes. -/
def crcOf (l : List UInt8) : Nat := 4294967295 - crcOn 4294967295 l
theorem crcStep_lt {c : Nat} (h : c < 4294967296) : crcStep c < 4294967296 := by
  unfold crcStep
  exact Nat.xor_lt_two_pow (n := 32) (by omega) (by omega)
theorem crcStep_inj {a b : Nat} (ha : a < 4294967296) (hb : b < 4294967296) (h : crcStep a = crcStep b) : a = b := by
  unfold crcStep at h
  have hx : ∀ x y : Nat, x < 2147483648 → y < 2147483648 → x ^^^ 3988292384 = y → False := fun x y hx hy e => by
    have h1 : x ^^^ y < 2 ^ 31 := Nat.xor_lt_two_pow (n := 31) (by omega) (by omega)
    rw [← e, ← Nat.xor_assoc, Nat.xor_self, Nat.zero_xor] at h1
    omega
  rcases Nat.mod_two_eq_zero_or_one a with h0 | h0 <;> rcases Nat.mod_two_eq_zero_or_one b with h1 | h1
  · rw [h0, h1] at h; simp at h; omega
  · rw [h0, h1] at h; simp at h; exact (hx (b / 2) (a / 2) (by omega) (by omega) h.symm).elim
  · rw [h0, h1] at h; simp at h; exact (hx (a / 2) (b / 2) (by omega) (by omega) h).elim
  · rw [h0, h1, Nat.mul_one] at h
    have h2 : (a / 2 ^^^ 3988292384) ^^^ 3988292384 = (b / 2 ^^^ 3988292384) ^^^ 3988292384 := by rw [h]
    rw [Nat.xor_assoc, Nat.xor_self, Nat.xor_zero, Nat.xor_assoc, Nat.xor_self, Nat.xor_zero] at h2
    omega
theorem crcN_lt : ∀ (k : Nat) {c : Nat}, c < 4294967296 → crcN k c < 4294967296
  | 0, _, h => h
  | k + 1, _, h => crcN_lt k (crcStep_lt h)
theorem crcN_inj : ∀ (k : Nat) {a b : Nat}, a < 4294967296 → b < 4294967296 → crcN k a = crcN k b → a = b
  | 0, _, _, _, _, h => h
  | k + 1, _, _, ha, hb, h => crcStep_inj ha hb (crcN_inj k (crcStep_lt ha) (crcStep_lt hb) h)
theorem xor_byte_lt {c : Nat} (h : c < 4294967296) (b : UInt8) : c ^^^ b.toNat < 4294967296 :=
  Nat.xor_lt_two_pow (n := 32) h (Nat.lt_trans b.toNat_lt (by decide))
theorem crcNext_lt {c : Nat} (h : c < 4294967296) (b : UInt8) : crcNext c b < 4294967296 := crcN_lt 8 (xor_byte_lt h b)
theorem crcNext_inj {a b : Nat} (ha : a < 4294967296) (hb : b < 4294967296) (x : UInt8) (h : crcNext a x = crcNext b x) : a = b := by
  have h1 := crcN_inj 8 (xor_byte_lt ha x) (xor_byte_lt hb x) h
  have h2 : (a ^^^ x.toNat) ^^^ x.toNat = (b ^^^ x.toNat) ^^^ x.toNat := by rw [h1]
  rwa [Nat.xor_assoc, Nat.xor_self, Nat.xor_zero, Nat.xor_assoc, Nat.xor_self, Nat.xor_zero] at h2
theorem crcNext_byte {c : Nat} (hc : c < 4294967296) (x y : UInt8) (h : crcNext c x = crcNext c y) : x = y := by
  have h1 := crcN_inj 8 (xor_byte_lt hc x) (xor_byte_lt hc y) h
  have h2 : c ^^^ (c ^^^ x.toNat) = c ^^^ (c ^^^ y.toNat) := by rw [h1]
  rw [← Nat.xor_assoc, Nat.xor_self, Nat.zero_xor, ← Nat.xor_assoc, Nat.xor_self, Nat.zero_xor] at h2
  exact UInt8.toNat_inj.1 h2
theorem crcOn_lt : ∀ (l : List UInt8) {c : Nat}, c < 4294967296 → crcOn c l < 4294967296
  | [], _, h => h
  | x :: l, _, h => crcOn_lt l (crcNext_lt h x)
theorem crcOn_inj : ∀ (l : List UInt8) {a b : Nat}, a < 4294967296 → b < 4294967296 → crcOn a l = crcOn b l → a = b
  | [], _, _, _, _, h => h
  | x :: l, _, _, ha, hb, h => crcNext_inj ha hb x (crcOn_inj l (crcNext_lt ha x) (crcNext_lt hb x) h)
/-- One byte turned: another sum. -/
theorem crcOf_turn (p s : List UInt8) (x y : UInt8) (h : crcOf (p ++ x :: s) = crcOf (p ++ y :: s)) : x = y := by
  have hp := crcOn_lt p (c := 4294967295) (by decide)
  have h1 := crcOn_lt (p ++ x :: s) (c := 4294967295) (by decide)
  have h2 := crcOn_lt (p ++ y :: s) (c := 4294967295) (by decide)
  unfold crcOf at h
  have h3 : crcOn 4294967295 (p ++ x :: s) = crcOn 4294967295 (p ++ y :: s) := by omega
  unfold crcOn at h3 hp
  rw [List.foldl_append, List.foldl_append, List.foldl_cons, List.foldl_cons] at h3
  exact crcNext_byte hp x y (crcOn_inj s (crcNext_lt hp x) (crcNext_lt hp y) h3)
theorem crcOf_lt (l : List UInt8) : crcOf l < 4294967296 := by unfold crcOf; omega
/-- A sum's four bytes. -/
def leL (s : Nat) : List UInt8 := [UInt8.ofNat s, UInt8.ofNat (s / 256), UInt8.ofNat (s / 65536), UInt8.ofNat (s / 16777216)]
def unL (b : List UInt8) : Nat := (b.getD 0 0).toNat + 256 * (b.getD 1 0).toNat + 65536 * (b.getD 2 0).toNat + 16777216 * (b.getD 3 0).toNat
def frameL (l : List UInt8) : List UInt8 := Lib.uvarint l.length ++ (leL (crcOf l) ++ l)
/-- The frame at the front, and its bytes. -/
def readF (b : List UInt8) : Option (List UInt8 × Nat) :=
  if (getL b).2 = 0 ∨ 65536 < (getL b).1 ∨ b.length < (getL b).2 + 4 + (getL b).1 then none
  else if crcOf ((b.drop ((getL b).2 + 4)).take (getL b).1) = unL (b.drop (getL b).2) then some ((b.drop ((getL b).2 + 4)).take (getL b).1, (getL b).2 + 4 + (getL b).1) else none
theorem unL_leL (s : Nat) (h : s < 4294967296) (r : List UInt8) : unL (leL s ++ r) = s := by
  unfold unL leL
  simp
  omega
theorem leL_len (s : Nat) : (leL s).length = 4 := rfl
theorem frameL_len (l : List UInt8) : (frameL l).length = (Lib.uvarint l.length).length + 4 + l.length := by
  unfold frameL
  rw [List.length_append, List.length_append, leL_len]; omega
theorem readF_put (l r : List UInt8) (hl : l.length ≤ 65536) : readF (frameL l ++ r) = some (l, (frameL l).length) := by
  have h1 := Lib.uvarint_pos l.length
  have hg : getL (frameL l ++ r) = (l.length, (Lib.uvarint l.length).length) := by
    unfold frameL; rw [List.append_assoc]; exact getL_put _ _ (by omega)
  unfold readF
  rw [hg]
  simp only []
  rw [if_neg (by rw [List.length_append, frameL_len]; omega)]
  have hd : (frameL l ++ r).drop (Lib.uvarint l.length).length = leL (crcOf l) ++ (l ++ r) := by
    unfold frameL; rw [List.append_assoc, List.drop_left, List.append_assoc]
  have hx : ((frameL l ++ r).drop ((Lib.uvarint l.length).length + 4)).take l.length = l := by
    rw [← List.drop_drop, hd, show 4 = (leL (crcOf l)).length from rfl, List.drop_left, List.take_left]
  rw [hx, hd, unL_leL _ (crcOf_lt l), if_pos rfl, frameL_len]
theorem readF_cut (l : List UInt8) (hl : l.length ≤ 65536) (j : Nat) (hj : j < (frameL l).length) : readF ((frameL l).take j) = none := by
  have hfl := frameL_len l
  by_cases hs : j < (Lib.uvarint l.length).length
  · have hg : getL ((frameL l).take j) = (0, 0) := by
      unfold frameL getL
      rw [List.take_append_of_le_length (by omega)]
      exact getF_cut l.length 0 0 j hs (by decide) (by omega) (.inl rfl)
    unfold readF
    rw [hg]
    rfl
  · have hg : getL ((frameL l).take j) = (l.length, (Lib.uvarint l.length).length) := by
      unfold frameL
      rw [List.take_append, List.take_of_length_le (by omega)]
      exact getL_put _ _ (by omega)
    unfold readF
    rw [hg]
    simp only []
    rw [if_pos (.inr (.inr (by rw [List.length_take]; omega)))]
theorem set_split {l : List UInt8} {i : Nat} {y : UInt8} (hi : i < l.length) : l.set i y = l.take i ++ y :: l.drop (i + 1) := by
  rw [List.set_eq_take_append_cons_drop, if_pos hi]
theorem leL_turn (s : Nat) (h : s < 4294967296) (j : Nat) (hj : j < 4) (y : UInt8) (hy : (leL s).getD j 0 ≠ y) (r : List UInt8) : unL ((leL s).set j y ++ r) ≠ s := by
  intro he
  have hyl := y.toNat_lt
  unfold unL at he
  rcases j with _ | _ | _ | _ | j
  all_goals first | omega | skip
  all_goals
    apply hy
    apply UInt8.toNat_inj.1
    simp [leL] at he ⊢
    omega
/-- One byte turned behind the length: no frame. -/
theorem readF_turn (l : List UInt8) (hl : l.length ≤ 65536) (i : Nat) (y : UInt8) (h0 : (Lib.uvarint l.length).length ≤ i) (hi : i < (frameL l).length) (hy : (frameL l).getD i 0 ≠ y) :
    readF ((frameL l).set i y) = none := by
  have hfl := frameL_len l
  have h1 := Lib.uvarint_pos l.length
  have hset : (frameL l).set i y = Lib.uvarint l.length ++ (leL (crcOf l) ++ l).set (i - (Lib.uvarint l.length).length) y := by
    unfold frameL
    rw [List.set_append_right _ _ h0]
  have hg : getL ((frameL l).set i y) = (l.length, (Lib.uvarint l.length).length) := by
    rw [hset]; exact getL_put _ _ (by omega)
  unfold readF
  rw [hg]
  simp only []
  rw [if_neg (by rw [List.length_set, hfl]; omega)]
  rw [← List.drop_drop]
  have hd : ((frameL l).set i y).drop (Lib.uvarint l.length).length = (leL (crcOf l) ++ l).set (i - (Lib.uvarint l.length).length) y := by
    rw [hset, List.drop_left]
  rw [hd]
  obtain ⟨j, hj⟩ : ∃ j, j = i - (Lib.uvarint l.length).length := ⟨_, rfl⟩
  rw [← hj]
  have hgd : (frameL l).getD i 0 = (leL (crcOf l) ++ l).getD j 0 := by
    unfold frameL
    rw [List.getD_eq_getElem?_getD, List.getD_eq_getElem?_getD, List.getElem?_append_right h0, hj]
  rw [hgd] at hy
  by_cases hj4 : j < 4
  · rw [List.set_append_left _ _ (by rw [leL_len]; exact hj4)]
    have hx : (((leL (crcOf l)).set j y ++ l).drop 4).take l.length = l := by
      rw [show 4 = ((leL (crcOf l)).set j y).length by rw [List.length_set]; rfl, List.drop_left, List.take_length]
    rw [hx, if_neg]
    intro he
    refine leL_turn (crcOf l) (crcOf_lt l) j hj4 y ?_ l he.symm
    rwa [List.getD_eq_getElem?_getD, List.getElem?_append_left (by rw [leL_len]; exact hj4), ← List.getD_eq_getElem?_getD] at hy
  · rw [List.set_append_right _ _ (by rw [leL_len]; omega), leL_len]
    have hx : ((leL (crcOf l) ++ l.set (j - 4) y).drop 4).take l.length = l.set (j - 4) y := by
      rw [show 4 = (leL (crcOf l)).length from rfl, List.drop_left, List.take_of_length_le (by rw [List.length_set]; exact Nat.le_refl _)]
    rw [hx, unL_leL _ (crcOf_lt l), if_neg]
    intro he
    have hjl : j - 4 < l.length := by omega
    rw [set_split hjl] at he
    have hl2 : l = l.take (j - 4) ++ l[j - 4] :: l.drop (j - 4 + 1) := by
      conv => lhs; rw [← List.take_append_drop (j - 4) l, List.drop_eq_getElem_cons hjl]
    have he2 : crcOf (l.take (j - 4) ++ y :: l.drop (j - 4 + 1)) = crcOf (l.take (j - 4) ++ l[j - 4] :: l.drop (j - 4 + 1)) := by rw [← hl2]; exact he
    have := crcOf_turn _ _ _ _ he2
    apply hy
    
    rw [List.getD_eq_getElem?_getD, List.getElem?_append_right (by rw [leL_len]; omega), leL_len, List.getElem?_eq_getElem hjl, this]
    rfl
/-- The frames from the front on, and their bytes. -/
def scanF : Nat → List UInt8 → List (List UInt8) × Nat
  | 0, _ => ([], 0)
  | k + 1, b => match readF b with
    | none => ([], 0)
    | some (x, n) => (x :: (scanF k (b.drop n)).1, n + (scanF k (b.drop n)).2)
theorem scanF_put (t : List UInt8) (ht : readF t = none) : ∀ (rs : List (List UInt8)) (k : Nat), (∀ l ∈ rs, l.length ≤ 65536) → rs.length ≤ k → scanF k (rs.flatMap frameL ++ t) = (rs, (rs.flatMap frameL).length)
  | [], 0, _, _ => rfl
  | [], k + 1, _, _ => by rw [scanF, List.flatMap_nil, List.nil_append, ht]; rfl
  | l :: rs, 0, _, h => by simp at h
  | l :: rs, k + 1, hl, h => by
    have ih := scanF_put t ht rs k (fun x hx => hl x (List.mem_cons_of_mem _ hx)) (by simpa using h)
    rw [scanF, List.flatMap_cons, List.append_assoc, readF_put l _ (hl l (by simp))]
    simp only []
    rw [List.drop_left, ih, List.length_append]
end Go.Proofs.YtinnifhnabncfaaGreatDoor.Vi
end
/- Contracts of crc.Next, crc.on, crc.Of, and of a reader's Bad. -/
section
namespace Go.Proofs.YtinnifhnabncfaaGreatDoor.Vi
open Go.RowKit Base Mem
theorem bad_any (M : List Nat) (p : Nat) (l : List UInt8) (bad : Bool) (w : World) (h : RdAt w M p l bad) :
    Calls Tryz.prog 179 #[.pointer (some ⟨p, 0, none⟩)] w fun e w' => e = .returned (.bool bad) ∧ w = w' := by
  obtain ⟨hl, v, hb, hs⟩ := h
  have c1 : w.cell? ⟨p, 1, none⟩ = some (.bool bad) := hb.cell 1
  clear hb hs
  go_enter Tryz.func179, Tryz.ntmps179
  go_wp2
  go_ret
  exact ⟨rfl, rfl⟩
theorem u32_xor_nat (a b : Nat) (ha : a < 4294967296) (hb : b < 4294967296) : bits .xor .u32 (a : Int) (b : Int) = ((a ^^^ b : Nat) : Int) := by
  show IntKind.u32.wrap ((BitVec.ofInt 32 (a : Int) ^^^ BitVec.ofInt 32 (b : Int)).toNat : Int) = _
  have h : a ^^^ b < 4294967296 := Nat.xor_lt_two_pow (n := 32) ha hb
  rw [BitVec.toNat_xor, BitVec.ofInt_natCast, BitVec.ofInt_natCast, BitVec.toNat_ofNat, BitVec.toNat_ofNat, Nat.mod_eq_of_lt ha, Nat.mod_eq_of_lt hb, IntKind.wrap_u32]
  omega
theorem u32_and1 (a : Nat) (ha : a < 4294967296) : bits .and .u32 (a : Int) 1 = ((a % 2 : Nat) : Int) := by
  show IntKind.u32.wrap ((BitVec.ofInt 32 (a : Int) &&& BitVec.ofInt 32 1).toNat : Int) = _
  rw [BitVec.toNat_and, BitVec.ofInt_natCast, BitVec.toNat_ofNat, Nat.mod_eq_of_lt ha, show (BitVec.ofInt 32 1).toNat = 2 ^ 1 - 1 from rfl, Nat.and_two_pow_sub_one_eq_mod, IntKind.wrap_u32]
  omega
theorem crcN_snoc : ∀ (k c : Nat), crcN (k + 1) c = crcStep (crcN k c)
  | 0, c => rfl
  | k + 1, c => by rw [crcN, crcN_snoc k, crcN]
set_option maxRecDepth 100000 in
theorem crcnext_any (c : Nat) (x : UInt8) (w : World) (hc : c < 4294967296) :
    Calls Tryz.prog 203 #[.int .u32 c, bV x] w fun e w' => e = .returned (.int .u32 (crcNext c x)) ∧ w = w' := by
  have hx := x.toNat_lt
  have Hx : Hid (crcNext c x = crcN 8 (c ^^^ x.toNat)) := rfl
  have hxor := u32_xor_nat c x.toNat hc (by omega)
  have h0 := Lib.hid (xor_byte_lt hc x)
  have hcv : IntKind.u32.wrap (x.toNat : Int) = (x.toNat : Int) := by rw [IntKind.wrap_u32]; omega
  unfold bV
  generalize c ^^^ x.toNat = a at *
  generalize x.toNat = xn at *
  go_enter Tryz.func203, Tryz.ntmps203
  go_wp2_with fail
  go_loop [0, 10] (fun s i => ∃ k : Nat, i = .int .i64 k ∧ k ≤ 8 ∧ s = .int .u32 (crcN k a : Nat)) (fun _ i => 8 - (intOf i).toNat)
  case atStart => exact ⟨0, rfl, by omega, rfl⟩
  case round =>
    obtain ⟨k, rfl, hk, rfl⟩ := hrel
    have hlt := crcN_lt k h0.out
    have Hs := Lib.hid (crcN_snoc k a)
    generalize hb : crcN k a = b at *
    have Hb := Lib.hid hb
    clear hb
    by_cases h8 : k < 8
    · have hki : (k : Int) < 8 := by omega
      obtain ⟨q, hq⟩ : ∃ q, q = b / 2 := ⟨_, rfl⟩
      obtain ⟨p, hp⟩ : ∃ p, p = b % 2 := ⟨_, rfl⟩
      obtain ⟨r, hr⟩ : ∃ r, r = 3988292384 * p := ⟨_, rfl⟩
      have hand := u32_and1 b hlt
      have hmul : IntKind.u32.wrap (3988292384 * (p : Int)) = (r : Int) := by rw [IntKind.wrap_u32]; omega
      have hshr : (b : Int) / 2 = (q : Int) := by omega
      have hx2 := u32_xor_nat q r (by omega) (by omega)
      have Hst : Hid (crcN (k + 1) a = q ^^^ r) := by show _ = _; rw [Hs.out, hr, hq, hp]; rfl
      rw [← hp] at hand
      generalize q ^^^ r = nx at *
      clear hxor hcv Hs hq hp hr hlt
      go_wp2
      go_round
      case rel => exact ⟨k + 1, by go_num, by omega, by rw [Hst.out]⟩
      case measure => simp [intOf] <;> omega
    · obtain rfl : k = 8 := by omega
      clear hxor hcv
      go_wp2
      go_ret
      exact ⟨ret_int (by rw [Hx.out, Hb.out]), rfl⟩
theorem crcOn_snoc (c : Nat) (l : List UInt8) (x : UInt8) : crcOn c (l ++ [x]) = crcNext (crcOn c l) x := by
  unfold crcOn
  rw [List.foldl_append]; rfl
set_option maxRecDepth 100000 in
theorem crcon_any (c : Nat) (v : Value) (l : List UInt8) (w : World) (hc : c < 4294967296) (h : Bs w [] v l) (hl : l.length ≤ 4611686018427387904) :
    Calls Tryz.prog 186 #[.int .u32 c, v] w fun e w' => e = .returned (.int .u32 (crcOn c l)) ∧ w = w' := by
  obtain ⟨A, cp, rfl, hcp⟩ := h.len
  have Hh := Lib.hid h
  clear h
  go_enter Tryz.func186, Tryz.ntmps186
  go_wp2_with fail
  go_loopw [0, 9] (fun s i wr => ∃ k : Nat, i = .int .i64 k ∧ k ≤ l.length ∧ s = .int .u32 (crcOn c (l.take k) : Nat) ∧ wr = w) (fun _ i _ => l.length - (intOf i).toNat)
  case atStart => exact ⟨0, rfl, by omega, rfl, rfl⟩
  case round =>
    obtain ⟨k, rfl, hk, rfl, rfl⟩ := hrel
    have hlt := crcOn_lt (l.take k) hc
    by_cases h8 : k < l.length
    · have hki : (k : Int) < (l.length : Int) := by omega
      obtain ⟨g, off, _, e1, _, _, _, h1⟩ := Rd.at_ (fun b => [bV b]) 1 (fun _ => rfl) (xs := l) (show Rd wr [] 1 (.slice A l.length cp) l.length (l.flatMap fun b => [bV b]) by rw [← List.map_eq_flatMap]; exact Hh.out) h8
      obtain rfl : A = some ⟨g, off, none⟩ := by injection e1
      clear e1
      have c0 := h1 0 _ rfl
      rw [Nat.mul_one, Nat.add_zero] at c0
      have Hs : Hid (crcOn c (l.take (k + 1)) = crcNext (crcOn c (l.take k)) l[k]) := by show _ = _; rw [List.take_succ_eq_append_getElem h8, crcOn_snoc]
      generalize crcOn c (l.take k) = b at *
      have hnx := Lib.hid (crcnext_any b l[k] wr hlt)
      simp only [bV] at c0 hnx
      generalize crcNext b l[k] = nx at *
      generalize l[k].toNat = xn at *
      clear h1 hlt
      go_wp2_with fail
      refine hnx.out.mono ?_
      rintro e w' ⟨rfl, rfl⟩
      go_wp2
      go_roundw
      case rel => exact ⟨k + 1, by go_num, by omega, by rw [Hs.out], by first | trivial | rfl⟩
      case measure => simp [intOf] <;> omega
    · obtain rfl : k = l.length := by omega
      have Ht : Hid (crcOn c (l.take l.length) = crcOn c l) := by show _ = _; rw [List.take_length]
      go_wp2
      go_ret
      exact ⟨ret_int (by rw [Ht.out]), rfl⟩
theorem u32_not (b : Nat) (hb : b < 4294967296) : bits .xor .u32 4294967295 (b : Int) = ((4294967295 - b : Nat) : Int) := by
  have h1 : (BitVec.allOnes 32 ^^^ BitVec.ofNat 32 b).toNat = (~~~ (BitVec.ofNat 32 b)).toNat := by rw [BitVec.allOnes_xor]
  rw [BitVec.toNat_xor, BitVec.toNat_allOnes, BitVec.toNat_not, BitVec.toNat_ofNat, Nat.mod_eq_of_lt hb] at h1
  have h2 := u32_xor_nat 4294967295 b (by decide) hb
  rw [show (4294967295 ^^^ b : Nat) = 4294967295 - b from h1] at h2
  exact h2
theorem crcof_any (v : Value) (l : List UInt8) (w : World) (h : Bs w [] v l) (hl : l.length ≤ 4611686018427387904) :
    Calls Tryz.prog 154 #[v] w fun e w' => e = .returned (.int .u32 (crcOf l)) ∧ w = w' := by
  have hon := Lib.hid (crcon_any 4294967295 v l w (by decide) h hl)
  obtain ⟨A, cp, rfl, hcp⟩ := h.len
  have hlt := crcOn_lt l (c := 4294967295) (by decide)
  have Ho : Hid (crcOf l = 4294967295 - crcOn 4294967295 l) := rfl
  clear h
  generalize crcOn 4294967295 l = b at *
  go_enter Tryz.func154, Tryz.ntmps154
  go_wp2_with fail
  refine hon.out.mono ?_
  rintro e w' ⟨rfl, rfl⟩
  go_wp2
  go_ret
  refine ⟨ret_int ?_, rfl⟩
  rw [Ho.out, ← u32_not b hlt]
  rfl
end Go.Proofs.YtinnifhnabncfaaGreatDoor.Vi
end
/-
  DERIVED: THE SHELF's CONTRACTS AT THIS DUMP, IN PLAIN WORDS (tools/lay-plain.mjs out of 'YtinnifhnabncfaaGreatDoorCatLay0.lean', which tools/lay-shelf.mjs wrote): THE SAME DECLARATIONS UNDER THE SAME NAMES: 'import', 'namespace', 'open', 'def', 'theorem' AND NOTHING ELSE: no command of the shelf's: FOR A HAND-IN. Each laying: the table of numbers ('.._ren') and one theorem, a field a fact of the dump's own or the kernel's comparison; each contract: ONE APPLICATION.
-/
section
namespace Go.Proofs
open Go.Shelf
def Tryz.growU8_ren : Go.Shelf.Ren := ⟨fun | 4 => 187 | n => n, fun | 22 => 36 | 25 => 5 | 3 => 3 | 4 => 4 | 9 => 9 | 20 => 20 | 0 => 0 | n => n, fun | n => n⟩
theorem Tryz.growU8 : Go.Proofs.Lays8.n4 Tryz.prog Tryz.growU8_ren := {
  mixed := by kernel_rfl
  f4 := ⟨Tryz.f187.name, by decide, Tryz.func187.trans (congrArg some (by kernel_rfl))⟩
  t0 := Tryz.underlying0
  a0 := Tryz.isAgg0
  z0 := Tryz.sizeOf0
  v0 := Tryz.zeroValue0
  t3 := Tryz.underlying3
  a3 := Tryz.isAgg3
  z3 := Tryz.sizeOf3
  v3 := Tryz.zeroValue3
  t4 := Tryz.underlying4
  a4 := Tryz.isAgg4
  z4 := Tryz.sizeOf4
  v4 := Tryz.zeroValue4
  t9 := Tryz.underlying9
  a9 := Tryz.isAgg9
  z9 := Tryz.sizeOf9
  v9 := Tryz.zeroValue9
  t20 := Tryz.underlying20
  a20 := Tryz.isAgg20
  z20 := Tryz.sizeOf20
  v20 := Tryz.zeroValue20
  t22 := Tryz.underlying36
  a22 := Tryz.isAgg36
  z22 := Tryz.sizeOf36
  v22 := Tryz.zeroValue36 }
end Go.Proofs
end
/- Contracts of slices.Grow (at nil) and slices.Concat (of two) at bytes. -/
section
namespace Go.Proofs.YtinnifhnabncfaaGreatDoor.Vi
open Go.RowKit Base Mem Go.Shelf
def GrowPost (w : World) (e : Ending) (w' : World) : Prop := ∃ v, e = .returned v ∧ w'.ownsRow w.heap.size 5 1 v 0 [] ∧ Below w.heap.size w w'
theorem growB_any (n : Nat) (w : World) (hn : n ≤ 2097152) :
    Calls Tryz.prog 187 #[.slice none 0 0, .int .i64 n] w fun e w' => GrowPost w e w' := by
  obtain ⟨i0, hi0, hz0, hz1, hz2⟩ := info_parts infoU8
  by_cases h0 : n = 0
  · subst h0
    have h := Any8.slices_Grow_room Tryz.growU8 none 0 0 0 w (by omega) (by omega) (by omega) (by omega)
    refine Calls.mono h ?_
    rintro e w' ⟨rfl, rfl⟩
    exact ⟨_, rfl, World.ownsRow_nil _ _ _ _, Below.refl _ _⟩
  · have h := Any8.slices_Grow_grow Tryz.growU8 i0 _ hi0 hz0 (by omega) none 0 0 n [] w (by omega) (by omega) (by rw [hz2]; omega) (by omega) (by simp) (fun _ => rfl) (fun _ h => by cases h)
    refine Calls.mono h ?_
    rintro e w' ⟨rfl, rfl⟩
    have hge := grownCap_ge w (0 + n) 0 5
    have hle := grownCap_le_maxLen w (0 + n) 0 5 (by unfold maxLen; omega)
    refine ⟨_, rfl, ⟨by simp, .inr ⟨w.heap.size, _, _, rfl, Nat.le_refl _, heap_alloc_new _ _, Nat.zero_le _, hle, ?_, by simp⟩⟩, below_new (((Keeps.refl [] w).drew).below) _⟩
    simp only [Array.size_append, size_zeroCells, List.size_toArray, List.length_nil]
    have ht : Tryz.growU8_ren.t 25 = 5 := rfl
    rw [ht]
    show 0 + (0 + n - 0) * 1 + (_ - (0 + n)) * 1 = _
    omega
def CatPost (la lb : List UInt8) (w : World) (e : Ending) (w' : World) : Prop := ∃ v, e = .returned v ∧ w'.ownsRow w.heap.size 5 1 v (la.length + lb.length) ((la ++ lb).map bV) ∧ Below w.heap.size w w'
set_option maxRecDepth 100000 in
theorem concatB_any (gs : Nat) (va vb : Value) (la lb : List UInt8) (w : World) (ha : Bs w [] va la) (hb : Bs w [] vb lb) (hla : la.length ≤ 1048576) (hlb : lb.length ≤ 1048576)
    (hgs : gs < w.heap.size) (h0 : w.cell? ⟨gs, 0, none⟩ = some va) (h1 : w.cell? ⟨gs, 1, none⟩ = some vb) :
    Calls Tryz.prog 155 #[.slice (some ⟨gs, 0, none⟩) 2 2] w fun e w' => CatPost la lb w e w' := by
  have Ha := Lib.hid ha; have Hb := Lib.hid hb
  obtain ⟨Aa, ca, rfl, hca⟩ := ha.len
  obtain ⟨Ab, cb, rfl, hcb⟩ := hb.len
  obtain ⟨i0, hi0, hz0, hz1, hz2⟩ := info_parts infoU8
  have Hi0 := Lib.hid hi0; have Hz0 := Lib.hid hz0; have Hz1 := Lib.hid hz1; have Hz2 := Lib.hid hz2
  clear ha hb hi0 hz0 hz1 hz2
  go_enter Tryz.func155, Tryz.ntmps155
  go_wp2_with fail
  go_loopw [3, 11] (fun n j wr => ∃ x y q : Nat, n = .int .i64 y ∧ j = .int .i64 x ∧ x ≤ 2 ∧ Hid ((x = 0 → y = 0) ∧ (x = 1 → y = la.length) ∧ (x = 2 → y = la.length + lb.length)) ∧ wr = w.drewN q) (fun _ j _ => 2 - (intOf j).toNat)
  case atStart => exact ⟨0, 0, 0, rfl, rfl, by omega, ⟨by omega, by omega, by omega⟩, rfl⟩
  case round =>
    obtain ⟨x, y, q, rfl, rfl, hx, Hy, rfl⟩ := hrel
    rcases (show x = 0 ∨ x = 1 ∨ x = 2 by omega) with rfl | rfl | rfl
    · obtain rfl : y = 0 := Hy.out.1 rfl
      go_wp2
      go_roundw
      case rel => exact ⟨1, la.length, q, by go_num, by go_num, by omega, ⟨by omega, by omega, by omega⟩, rfl⟩
      case measure => simp [intOf]
    · obtain rfl : y = la.length := Hy.out.2.1 rfl
      go_wp2
      go_roundw
      case rel => exact ⟨2, la.length + lb.length, q, by go_num, by go_num, by omega, ⟨by omega, by omega, by omega⟩, rfl⟩
      case measure => simp [intOf]
    · obtain rfl : y = la.length + lb.length := Hy.out.2.2 rfl
      have hgr := Lib.hid (show Calls Tryz.prog 187 #[.slice none 0 0, .int .i64 ((la.length : Int) + lb.length)] (w.drewN q) (GrowPost (w.drewN q)) by
        have := growB_any (la.length + lb.length) (w.drewN q) (by omega)
        rwa [Int.natCast_add] at this)
      go_wp2_with fail
      refine hgr.out.mono ?_
      rintro e w1 ⟨v0, rfl, hown0, hb0⟩
      have Hown0 := Lib.hid (show w1.ownsRow w.heap.size 5 1 v0 0 [] from hown0)
      have Hb0 := Lib.hid (show Below w.heap.size w w1 from ⟨hb0.os, hb0.tape, hb0.output, hb0.size, hb0.block⟩)
      have k0 : w1.cell? ⟨gs, 0, none⟩ = some (.slice Aa la.length ca) := (Hb0.out.cell (p := ⟨gs, 0, none⟩) hgs).trans h0
      have k1 : w1.cell? ⟨gs, 1, none⟩ = some (.slice Ab lb.length cb) := (Hb0.out.cell (p := ⟨gs, 1, none⟩) hgs).trans h1
      clear hown0 hb0 Hy hgr
      go_wp2_with fail
      go_loopw [6, 27] (fun out j wr => ∃ x : Nat, j = .int .i64 x ∧ x ≤ 2 ∧ Hid (Below w.heap.size w wr) ∧ Hid ((x = 0 → wr.ownsRow w.heap.size 5 1 out 0 []) ∧ (x = 1 → wr.ownsRow w.heap.size 5 1 out la.length (la.map bV)) ∧ (x = 2 → wr.ownsRow w.heap.size 5 1 out (la.length + lb.length) ((la ++ lb).map bV)))) (fun _ j _ => 2 - (intOf j).toNat)
      case atStart => exact ⟨0, rfl, by omega, Hb0.out, ⟨fun _ => Hown0.out, by omega, by omega⟩⟩
      case round =>
        obtain ⟨x, rfl, hx, Hbr, Hor⟩ := hrel
        have k0 : wr.cell? ⟨gs, 0, none⟩ = some (.slice Aa la.length ca) := (Hbr.out.cell (p := ⟨gs, 0, none⟩) hgs).trans h0
        have k1 : wr.cell? ⟨gs, 1, none⟩ = some (.slice Ab lb.length cb) := (Hbr.out.cell (p := ⟨gs, 1, none⟩) hgs).trans h1
        rcases (show x = 0 ∨ x = 1 ∨ x = 2 by omega) with rfl | rfl | rfl
        · have Hown := Lib.hid (Hor.out.1 rfl)
          have Hrd := Lib.hid ((Ha.out.keep (Keeps.of_below (M := []) Hbr.out) (by simp)).reads)
          obtain ⟨A1, c1, e1, _, hrd⟩ := Hrd.out
          injection e1 with e1 _ e2
          subst e1 e2
          have Hrd2 := Lib.hid hrd
          clear hrd Hrd
          go_wp2_with (at_builtin; refine wpList_append_any _ rfl (.tmp 31) (.tmp 32) _ rfl w.heap.size 5 i0 _ 1 1 Tryz.underlying36 Hi0.out Hz0.out Hz1.out Hz2.out rfl (by omega) u6 0 [] rfl Hown.out wr.heap.size Aa la.length ca (la.map bV) rfl Hrd2.out (bV_one la) (by unfold maxLen; omega) (by omega) Hbr.out.size ?_)
          intro v' w4 hown4 hg4 hat4
          have Hown4 : Hid (w4.ownsRow w.heap.size 5 1 v' la.length (la.map bV)) := by show World.ownsRow _ _ _ _ _ _ _; simpa using hown4
          have Hb4 := Lib.hid (Hbr.out.grown hg4 Hbr.out.size (fun g hg => (Hown.out.lt g hg).1))
          clear hown4 hg4 hat4
          go_wp2
          go_roundw
          case rel => exact ⟨1, by go_num, by omega, Hb4, ⟨by omega, fun _ => Hown4.out, by omega⟩⟩
          case measure => simp [intOf]
        · have Hown := Lib.hid (Hor.out.2.1 rfl)
          have Hrd := Lib.hid ((Hb.out.keep (Keeps.of_below (M := []) Hbr.out) (by simp)).reads)
          obtain ⟨A1, c1, e1, _, hrd⟩ := Hrd.out
          injection e1 with e1 _ e2
          subst e1 e2
          have Hrd2 := Lib.hid hrd
          clear hrd Hrd
          go_wp2_with (at_builtin; refine wpList_append_any _ rfl (.tmp 31) (.tmp 32) _ rfl w.heap.size 5 i0 _ 1 1 Tryz.underlying36 Hi0.out Hz0.out Hz1.out Hz2.out rfl (by omega) u6 la.length (la.map bV) rfl Hown.out wr.heap.size Ab lb.length cb (lb.map bV) rfl Hrd2.out (bV_one lb) (by unfold maxLen; omega) (by omega) Hbr.out.size ?_)
          intro v' w4 hown4 hg4 hat4
          have Hown4 : Hid (w4.ownsRow w.heap.size 5 1 v' (la.length + lb.length) ((la ++ lb).map bV)) := by show World.ownsRow _ _ _ _ _ _ _; rw [List.map_append]; exact hown4
          have Hb4 := Lib.hid (Hbr.out.grown hg4 Hbr.out.size (fun g hg => (Hown.out.lt g hg).1))
          clear hown4 hg4 hat4
          go_wp2
          go_roundw
          case rel => exact ⟨2, by go_num, by omega, Hb4, ⟨by omega, by omega, fun _ => Hown4.out⟩⟩
          case measure => simp [intOf]
        · have hp : CatPost la lb w (.returned u6) wr := ⟨u6, rfl, Hor.out.2.2 rfl, Hbr.out⟩
          go_wp2
          go_ret
          exact hp
end Go.Proofs.YtinnifhnabncfaaGreatDoor.Vi
end
/- Contract of frame.Bytes. -/
section
namespace Go.Proofs.YtinnifhnabncfaaGreatDoor.Vi
open Go.RowKit Base Mem Go.Shelf
theorem own_more {w : World} {base base' : Nat} {e : TypeId} {size n : Nat} {v : Value} {xs : List Value} (h : w.ownsRow base e size v n xs) (hb : base' ≤ base) : w.ownsRow base' e size v n xs := by
  obtain ⟨hl, h⟩ := h
  refine ⟨hl, h.imp id ?_⟩
  rintro ⟨g, cap, cur, hv, hbg, rest⟩
  exact ⟨g, cap, cur, hv, Nat.le_trans hb hbg, rest⟩
def FrPost (l : List UInt8) (w : World) (e : Ending) (w' : World) : Prop := ∃ A c, e = .returned (.tuple #[.slice A (frameL l).length c, .int .i64 0]) ∧ (∀ M, (∀ g ∈ M, g < w.heap.size) → Bs w' M (.slice A (frameL l).length c) (frameL l)) ∧ Below w.heap.size w w'
theorem frame_long (v : Value) (l : List UInt8) (w : World) (h : Bs w [] v l) (hl : 65536 < l.length) :
    Calls Tryz.prog 99 #[v] w fun e w' => e = .returned (.tuple #[.slice none 0 0, .int .i64 3]) ∧ w = w' := by
  obtain ⟨A, c, rfl, _⟩ := h.len
  have hi : (65536 : Int) < (l.length : Int) := by omega
  clear h
  go_enter Tryz.func99, Tryz.ntmps99
  go_wp2
  go_ret2
  exact ⟨rfl, rfl⟩
set_option maxRecDepth 100000 in
set_option maxHeartbeats 1000000 in
theorem frame_any (v : Value) (l : List UInt8) (w : World) (h : Bs w [] v l) (hl : l.length ≤ 65536) :
    Calls Tryz.prog 99 #[v] w fun e w' => FrPost l w e w' := by
  obtain ⟨i0, hi0, hz0, hz1, hz2⟩ := info_parts infoU8
  have Hi0 := Lib.hid hi0; have Hz0 := Lib.hid hz0; have Hz1 := Lib.hid hz1; have Hz2 := Lib.hid hz2
  obtain ⟨A, c, rfl, hc⟩ := h.len
  have Hh := Lib.hid h
  have hput := put_any (.slice none 0 0) [] l.length w (Bs.nil _ _) (by omega) (by simp)
  rw [List.nil_append] at hput
  have Hput := Lib.hid hput
  have hul := Lib.uvarint_length64 (x := l.length) (by omega)
  have hup := Lib.uvarint_pos l.length
  have HF : Hid (frameL l = Lib.uvarint l.length ++ (leL (crcOf l) ++ l)) := rfl
  have hcr := Lib.hid (fun W (hk : Keeps [] w W) => crcof_any (.slice A l.length c) l W (h.keep hk (by simp)) (by omega))
  have hs := crcOf_lt l
  clear h hi0 hz0 hz1 hz2 hput
  generalize crcOf l = s at *
  generalize Lib.uvarint l.length = uv at *
  obtain ⟨n, hn⟩ : ∃ n, n = uv.length := ⟨_, rfl⟩
  have Hn := Lib.hid hn
  rw [← hn] at hul hup
  have hwl : IntKind.u64.wrap (l.length : Int) = (l.length : Int) := by rw [IntKind.wrap_u64]; omega
  have hli : decide ((65536 : Int) < (l.length : Int)) = false := decide_eq_false (by omega)
  clear hn
  go_enter Tryz.func99, Tryz.ntmps99
  go_wp2_with fail
  refine Hput.out.mono ?_
  rintro e w1 ⟨A1, rfl, hB1, hb1⟩
  obtain ⟨g1, o1, rfl⟩ := (hB1 [] (by simp)).some_ (by have := Hn.out; omega)
  rw [← Hn.out] at hB1 ⊢
  have HB1 := Lib.hid (hB1 [] (by simp)); have Hb1 := Lib.hid hb1
  have Hc1 := Lib.hid (hcr.out w1 (Keeps.of_below hb1))
  clear hB1 hb1 hcr Hput
  go_wp2_with fail
  refine Hc1.out.mono ?_
  rintro e w' ⟨rfl, rfl⟩
  clear Hc1
  go_wp2_with fail
  go_loopw [4, 16] (fun out i wr => ∃ x : Nat, i = .int .i64 x ∧ x ≤ 4 ∧ Hid ((x = 0 → out = .slice (some ⟨g1, o1, none⟩) n n ∧ Bs wr [] out uv) ∧ (0 < x → wr.ownsRow w.heap.size 5 1 out (n + x) ((uv ++ (leL s).take x).map bV))) ∧ Hid (Below w.heap.size w wr)) (fun _ i _ => 4 - (intOf i).toNat)
  case atStart => exact ⟨0, rfl, by omega, ⟨fun _ => ⟨rfl, HB1.out⟩, by omega⟩, Hb1.out⟩
  case round =>
    obtain ⟨x, rfl, hx, Hor, Hbr⟩ := hrel
    rcases (show x = 0 ∨ x = 1 ∨ x = 2 ∨ x = 3 ∨ x = 4 by omega) with rfl | rfl | rfl | rfl | rfl
    · have hone : Hid (bV (UInt8.ofNat (s)) = .int .u8 ((s : Int) % 256)) := by show _ = _; rw [bV_low]; try (congr 1)
      have Hrd := Lib.hid (reads_new wr 5 1 1 [.int .u8 ((s : Int) % 256)] rfl)
      obtain ⟨rfl, hB⟩ := Hor.out.1 rfl
      obtain ⟨_, _, eA, hg, _⟩ := (show ∃ g off, (some ⟨g1, o1, none⟩ : Option Addr) = some ⟨g, off, none⟩ ∧ g < wr.heap.size ∧ True by
        obtain ⟨A', c', e2, _, _, hr⟩ := hB
        injection e2 with e2 _ _
        subst e2
        obtain ⟨g', off', e3, hg', _, _⟩ := hr (by have := Hn.out; omega)
        exact ⟨g', off', e3, hg', trivial⟩)
      injection eA with eA
      injection eA with eg eo _
      subst eg eo
      have HBw := Lib.hid hB
      have Hcells : Hid (∀ (j : Nat) u, (uv.map bV)[j]? = some u → (wr.alloc (.cells #[.int .u8 ((s : Int) % 256)] 5)).cell? ⟨g1, o1 + j, none⟩ = some u) := fun j u hu => by
        obtain ⟨A', c', e2, _, _, hr⟩ := HBw.out
        injection e2 with e2 _ _
        subst e2
        obtain ⟨g', off', e3, hg', _, hx⟩ := hr (by have := Hn.out; omega)
        injection e3 with e3
        injection e3 with e3 e4 _
        subst e3 e4
        rw [World.cell?_alloc_lt wr _ ⟨g1, o1 + j, none⟩ hg]
        exact hx j u hu
      clear hB
      go_wp2_with (at_builtin; refine wpList_append_arg _ rfl (.tmp 19) (.tmp 25) _ rfl 5 i0 _ 1 1 Tryz.underlying36 Hi0.out Hz0.out Hz1.out Hz2.out rfl (by omega) g1 o1 n n (uv.map bV) rfl (by have := Hn.out; simp; omega) Hcells.out ⟨wr.heap.size, 0, none⟩ 1 1 [.int .u8 ((s : Int) % 256)] rfl rfl (fun j u hu => (Hrd.out.2 (by omega)).elim fun ad h => by obtain ⟨e, _, hx⟩ := h; injection e with e; subst e; exact hx j u hu) (by intro u hu; simp at hu; subst hu; rfl) (fun h => by omega) (by unfold maxLen; omega) (by omega) (fun h => by omega) (fun _ => ?_))
      intro v' w4 hown4 hg4
      have Hown4 : Hid (w4.ownsRow w.heap.size 5 1 v' (n + 1) ((uv ++ (leL s).take 1).map bV)) := by
        show World.ownsRow _ _ _ _ _ _ _
        have e : (uv ++ (leL s).take 1).map bV = uv.map bV ++ [.int .u8 ((s : Int) % 256)] := by rw [← hone.out]; simp [leL]
        rw [e]
        exact own_more (base' := w.heap.size) hown4 (by have := Hbr.out.size; simp; omega)
      have Hb4 : Hid (Below w.heap.size w w4) := (Hbr.out.alloc Hbr.out.size _).grown hg4 (by have := Hbr.out.size; simp; omega) (by simp)
      clear hown4 hg4
      go_wp2
      go_roundw
      case rel => exact ⟨1, by go_num, by omega, ⟨by omega, fun _ => Hown4.out⟩, Hb4⟩
      case measure => simp [intOf]
    · have hone : Hid (bV (UInt8.ofNat (s / 256)) = .int .u8 ((s : Int) / 256 % 256)) := by show _ = _; rw [bV_low]; try (congr 1)
      have Hrd := Lib.hid (reads_new wr 5 1 1 [.int .u8 ((s : Int) / 256 % 256)] rfl)
      have Hown3 := Lib.hid ((Hor.out.2 (by omega)).alloc (.cells #[.int .u8 ((s : Int) / 256 % 256)] 5))
      go_wp2_with (at_builtin; go_must (refine wpList_append_any _ rfl (.tmp 19) (.tmp 25) _ rfl w.heap.size 5 i0 _ 1 1 Tryz.underlying36 Hi0.out Hz0.out Hz1.out Hz2.out rfl (by omega) u4 (n + 1) ((uv ++ (leL s).take 1).map bV) rfl Hown3.out (wr.heap.size + 1) (some ⟨wr.heap.size, 0, none⟩) 1 1 [.int .u8 ((s : Int) / 256 % 256)] rfl Hrd.out (by intro u hu; simp at hu; subst hu; rfl) (by unfold maxLen; omega) (by omega) (by have := Hbr.out.size; simp; omega) ?_))
      intro v' w4 hown4 hg4 hat4
      have Hown4 : Hid (w4.ownsRow w.heap.size 5 1 v' (n + 2) ((uv ++ (leL s).take 2).map bV)) := by
        show World.ownsRow _ _ _ _ _ _ _
        have e : (uv ++ (leL s).take 2).map bV = (uv ++ (leL s).take 1).map bV ++ [.int .u8 ((s : Int) / 256 % 256)] := by rw [← hone.out]; simp [leL]
        rw [e]
        simpa [Nat.add_assoc] using hown4
      have Hb4 : Hid (Below w.heap.size w w4) := (Hbr.out.alloc Hbr.out.size _).grown hg4 (by have := Hbr.out.size; simp; omega) (fun g hg => ((Hor.out.2 (by omega)).lt g hg).1)
      clear hown4 hg4 hat4
      go_wp2
      go_roundw
      case rel => exact ⟨2, by go_num, by omega, ⟨by omega, fun _ => Hown4.out⟩, Hb4⟩
      case measure => simp [intOf]
    · have hone : Hid (bV (UInt8.ofNat (s / 65536)) = .int .u8 ((s : Int) / 65536 % 256)) := by show _ = _; rw [bV_low]; try (congr 1)
      have Hrd := Lib.hid (reads_new wr 5 1 1 [.int .u8 ((s : Int) / 65536 % 256)] rfl)
      have Hown3 := Lib.hid ((Hor.out.2 (by omega)).alloc (.cells #[.int .u8 ((s : Int) / 65536 % 256)] 5))
      go_wp2_with (at_builtin; go_must (refine wpList_append_any _ rfl (.tmp 19) (.tmp 25) _ rfl w.heap.size 5 i0 _ 1 1 Tryz.underlying36 Hi0.out Hz0.out Hz1.out Hz2.out rfl (by omega) u4 (n + 2) ((uv ++ (leL s).take 2).map bV) rfl Hown3.out (wr.heap.size + 1) (some ⟨wr.heap.size, 0, none⟩) 1 1 [.int .u8 ((s : Int) / 65536 % 256)] rfl Hrd.out (by intro u hu; simp at hu; subst hu; rfl) (by unfold maxLen; omega) (by omega) (by have := Hbr.out.size; simp; omega) ?_))
      intro v' w4 hown4 hg4 hat4
      have Hown4 : Hid (w4.ownsRow w.heap.size 5 1 v' (n + 3) ((uv ++ (leL s).take 3).map bV)) := by
        show World.ownsRow _ _ _ _ _ _ _
        have e : (uv ++ (leL s).take 3).map bV = (uv ++ (leL s).take 2).map bV ++ [.int .u8 ((s : Int) / 65536 % 256)] := by rw [← hone.out]; simp [leL]
        rw [e]
        simpa [Nat.add_assoc] using hown4
      have Hb4 : Hid (Below w.heap.size w w4) := (Hbr.out.alloc Hbr.out.size _).grown hg4 (by have := Hbr.out.size; simp; omega) (fun g hg => ((Hor.out.2 (by omega)).lt g hg).1)
      clear hown4 hg4 hat4
      go_wp2
      go_roundw
      case rel => exact ⟨3, by go_num, by omega, ⟨by omega, fun _ => Hown4.out⟩, Hb4⟩
      case measure => simp [intOf]
    · have hone : Hid (bV (UInt8.ofNat (s / 16777216)) = .int .u8 ((s : Int) / 16777216)) := by show _ = _; rw [bV_low]; congr 1; omega
      have Hrd := Lib.hid (reads_new wr 5 1 1 [.int .u8 ((s : Int) / 16777216)] rfl)
      have Hown3 := Lib.hid ((Hor.out.2 (by omega)).alloc (.cells #[.int .u8 ((s : Int) / 16777216)] 5))
      go_wp2_with (at_builtin; go_must (refine wpList_append_any _ rfl (.tmp 19) (.tmp 25) _ rfl w.heap.size 5 i0 _ 1 1 Tryz.underlying36 Hi0.out Hz0.out Hz1.out Hz2.out rfl (by omega) u4 (n + 3) ((uv ++ (leL s).take 3).map bV) rfl Hown3.out (wr.heap.size + 1) (some ⟨wr.heap.size, 0, none⟩) 1 1 [.int .u8 ((s : Int) / 16777216)] rfl Hrd.out (by intro u hu; simp at hu; subst hu; rfl) (by unfold maxLen; omega) (by omega) (by have := Hbr.out.size; simp; omega) ?_))
      intro v' w4 hown4 hg4 hat4
      have Hown4 : Hid (w4.ownsRow w.heap.size 5 1 v' (n + 4) ((uv ++ (leL s).take 4).map bV)) := by
        show World.ownsRow _ _ _ _ _ _ _
        have e : (uv ++ (leL s).take 4).map bV = (uv ++ (leL s).take 3).map bV ++ [.int .u8 ((s : Int) / 16777216)] := by rw [← hone.out]; simp [leL]
        rw [e]
        simpa [Nat.add_assoc] using hown4
      have Hb4 : Hid (Below w.heap.size w w4) := (Hbr.out.alloc Hbr.out.size _).grown hg4 (by have := Hbr.out.size; simp; omega) (fun g hg => ((Hor.out.2 (by omega)).lt g hg).1)
      clear hown4 hg4 hat4
      go_wp2
      go_roundw
      case rel => exact ⟨4, by go_num, by omega, ⟨by omega, fun _ => Hown4.out⟩, Hb4⟩
      case measure => simp [intOf]
    · have hown := Hor.out.2 (by omega)
      have hB4 : Bs wr [] u4 (uv ++ leL s) := by
        have := Rd.of_own (M := []) hown (by simp)
        have e : (leL s).take 4 = leL s := rfl
        rw [e] at this
        unfold Bs
        rw [List.length_append, ← Hn.out, leL_len]
        exact this
      obtain ⟨A4, c4, rfl, hc4⟩ := hB4.len
      have hl4 : (uv ++ leL s).length = n + 4 := by rw [List.length_append, ← Hn.out, leL_len]
      have hBl : Bs wr [] (.slice A l.length c) l := Hh.out.keep (Keeps.of_below (M := []) Hbr.out) (by simp)
      have hk : Keeps [] wr (wr.alloc (.cells #[.slice A4 (n + 4) c4, .slice A l.length c] 36)) := (Keeps.refl _ _).alloc _
      rw [hl4] at hB4
      have hBk := Blk.new wr 36 #[.slice A4 (n + 4) c4, .slice A l.length c]
      have hcat := Lib.hid (concatB_any wr.heap.size (.slice A4 (n + 4) c4) (.slice A l.length c) (uv ++ leL s) l _ (hB4.keep hk (by simp)) (hBl.keep hk (by simp)) (by rw [hl4]; omega) (by omega) hBk.lt (hBk.cell 0) (hBk.cell 1))
      have Hb5 := Lib.hid ((Keeps.of_below (M := []) Hbr.out).trans hk (by simp)).below
      have hfe : Hid (frameL l = (uv ++ leL s) ++ l) := by show _ = _; rw [HF.out, List.append_assoc]
      rw [hl4]
      clear hB4 hBl hk hBk hown hl4 hc4
      go_wp2_with fail
      refine hcat.out.mono ?_
      rintro e w6 ⟨v6, rfl, hown6, hb6⟩
      rw [← List.length_append, ← hfe.out] at hown6
      have hR6 : ∀ M, (∀ g ∈ M, g < w.heap.size) → Bs w6 M v6 (frameL l) := fun M hM => Rd.of_own hown6 (fun g hg => by have := hM g hg; have := Hb5.out.size; omega)
      obtain ⟨A6, c6, rfl, hc6⟩ := (hR6 [] (by simp)).len
      have hp : Hid (FrPost l w (.returned (.tuple #[.slice A6 (frameL l).length c6, .int .i64 0])) w6) := ⟨A6, c6, rfl, hR6, below_then Hb5.out hb6⟩
      clear hown6 hR6 hb6 hcat
      generalize (frameL l).length = fl at *
      go_wp2
      go_ret2
      exact hp.out
end Go.Proofs.YtinnifhnabncfaaGreatDoor.Vi
end
/- Contract of frame.Read. -/
section
namespace Go.Proofs.YtinnifhnabncfaaGreatDoor.Vi
open Go.RowKit Base Mem Go.Shelf
def FrRead (l : List UInt8) (w : World) (e : Ending) (w' : World) : Prop := match readF l with
  | none => e = .returned (.tuple #[.slice none 0 0, .int .i64 0, .bool false]) ∧ Below w.heap.size w w'
  | some (x, n) => ∃ A c, e = .returned (.tuple #[.slice A x.length c, .int .i64 n, .bool true]) ∧ (∀ M, (∀ g ∈ M, g < w.heap.size) → Bs w' M (.slice A x.length c) x) ∧ Below w.heap.size w w'
theorem u32_or_shift (a b k : Nat) (ha : a < 2 ^ k) (hk : k ≤ 24) (hb : b < 256) : bits .or .u32 (a : Int) ((b * 2 ^ k : Nat) : Int) = ((a + b * 2 ^ k : Nat) : Int) := by
  have hp : 2 ^ k ≤ 2 ^ 24 := Nat.pow_le_pow_right (by omega) hk
  have hb2 : b * 2 ^ k ≤ 255 * 2 ^ 24 := Nat.mul_le_mul (by omega) hp
  have hlt : a + b * 2 ^ k < 4294967296 := by omega
  show IntKind.u32.wrap ((BitVec.ofInt 32 (a : Int) ||| BitVec.ofInt 32 ((b * 2 ^ k : Nat) : Int)).toNat : Int) = _
  rw [BitVec.toNat_or, BitVec.ofInt_natCast, BitVec.ofInt_natCast, BitVec.toNat_ofNat, BitVec.toNat_ofNat, Nat.mod_eq_of_lt (by omega), Nat.mod_eq_of_lt (by omega), Nat.or_comm, nat_join k (b * 2 ^ k) a (Nat.mul_mod_left _ _) ha, IntKind.wrap_u32]
  omega
set_option maxRecDepth 100000 in
set_option maxHeartbeats 1000000 in
theorem framer_any (v : Value) (l : List UInt8) (w : World) (h : Bs w [] v l) (hl : l.length ≤ 4611686018427387000) :
    Calls Tryz.prog 101 #[v] w fun e w' => FrRead l w e w' := by
  have hg := Lib.hid (get_any v l w h (by omega))
  obtain ⟨A, c, rfl, hc⟩ := h.len
  have H := Lib.hid h
  obtain ⟨hk, hn⟩ := getL_le l
  have HC := Lib.hid (show readF l = (if (getL l).2 = 0 ∨ 65536 < (getL l).1 ∨ l.length < (getL l).2 + 4 + (getL l).1 then none
    else if crcOf ((l.drop ((getL l).2 + 4)).take (getL l).1) = unL (l.drop (getL l).2) then some ((l.drop ((getL l).2 + 4)).take (getL l).1, (getL l).2 + 4 + (getL l).1) else none) from rfl)
  have hnone : Hid (∀ q, readF l = none → FrRead l w (.returned (.tuple #[.slice none 0 0, .int .i64 0, .bool false])) (w.drewN q)) := fun q h => by
    unfold FrRead; rw [h]; exact ⟨rfl, ((Keeps.refl [] w).drewN q).below⟩
  clear h
  generalize (getL l).1 = n at *
  generalize (getL l).2 = k at *
  by_cases hk0 : k = 0
  · have hR := Lib.hid (fun q => hnone.out q (by rw [HC.out, if_pos (.inl hk0)]))
    subst hk0
    clear HC hnone
    go_enter Tryz.func101, Tryz.ntmps101
    go_wp2_with fail
    refine hg.out.mono ?_
    rintro e w1 ⟨rfl, q, rfl⟩
    go_wp2
    go_ret3
    exact hR.out q
  · have hkz : ((k : Int) == 0) = false := by simpa using hk0
    by_cases hn6 : 65536 < n
    · have hR := Lib.hid (fun q => hnone.out q (by rw [HC.out, if_pos (.inr (.inl hn6))]))
      have hni : (65536 : Int) < (n : Int) := by omega
      clear HC hnone
      go_enter Tryz.func101, Tryz.ntmps101
      go_wp2_with fail
      refine hg.out.mono ?_
      rintro e w1 ⟨rfl, q, rfl⟩
      go_wp2
      go_ret3
      exact hR.out q
    · have hni : decide ((65536 : Int) < (n : Int)) = false := decide_eq_false (by omega)
      have hwn : IntKind.i64.wrap (n : Int) = (n : Int) := by rw [IntKind.wrap_i64]; omega
      have hwk : IntKind.i64.wrap ((k : Int) + 4) = (k : Int) + 4 := by rw [IntKind.wrap_i64]; omega
      have hwkn : IntKind.i64.wrap ((k : Int) + 4 + (n : Int)) = (k : Int) + 4 + (n : Int) := by rw [IntKind.wrap_i64]; omega
      by_cases hlen : l.length < k + 4 + n
      · have hR := Lib.hid (fun q => hnone.out q (by rw [HC.out, if_pos (.inr (.inr hlen))]))
        have hli : (l.length : Int) < (k : Int) + 4 + (n : Int) := by omega
        clear HC hnone
        go_enter Tryz.func101, Tryz.ntmps101
        go_wp2_with fail
        refine hg.out.mono ?_
        rintro e w1 ⟨rfl, q, rfl⟩
        go_wp2
        go_ret3
        exact hR.out q
      · have hli : decide ((l.length : Int) < (k : Int) + 4 + (n : Int)) = false := decide_eq_false (by omega)
        have HT : Hid (readF l = if crcOf ((l.drop (k + 4)).take n) = unL (l.drop k) then some ((l.drop (k + 4)).take n, k + 4 + n) else none) := by
          show _ = _; rw [HC.out, if_neg (by omega)]
        obtain ⟨g, off, rfl⟩ := H.out.some_ (by omega)
        have hcell : ∀ j, (hj : j < l.length) → w.cell? ⟨g, off + j, none⟩ = some (.int .u8 (l[j]'hj).toNat) := fun j hj => by
          obtain ⟨A', c', e2, _, _, hr⟩ := H.out
          injection e2 with e2 _ _
          subst e2
          obtain ⟨g', off', e3, _, _, hx⟩ := hr (by omega)
          injection e3 with e3
          injection e3 with e3 e4 _
          subst e3 e4
          exact hx j _ (by rw [List.getElem?_map, List.getElem?_eq_getElem hj]; rfl)
        have hcg : g < w.heap.size := World.block_lt_of_cell? w _ (hcell 0 (by omega))
        have k0 := hcell k (by omega)
        have k1 := hcell (k + 1) (by omega)
        have k2 := hcell (k + 2) (by omega)
        have k3 := hcell (k + 3) (by omega)
        have hun : unL (l.drop k) = l[k].toNat + 256 * l[k + 1].toNat + 65536 * l[k + 2].toNat + 16777216 * l[k + 3].toNat := by
          unfold unL
          simp only [List.getD_eq_getElem?_getD, List.getElem?_drop, Nat.add_zero]
          rw [List.getElem?_eq_getElem (by omega), List.getElem?_eq_getElem (by omega), List.getElem?_eq_getElem (by omega), List.getElem?_eq_getElem (by omega)]
          rfl
        rw [hun] at HT
        have b0 := l[k].toNat_lt; have b1 := l[k + 1].toNat_lt; have b2 := l[k + 2].toNat_lt; have b3 := l[k + 3].toNat_lt
        generalize l[k].toNat = x0 at *
        generalize l[k + 1].toNat = x1 at *
        generalize l[k + 2].toNat = x2 at *
        generalize l[k + 3].toNat = x3 at *
        clear hcell hun HC hnone
        have Hk0 := Lib.hid k0; have Hk1 := Lib.hid k1; have Hk2 := Lib.hid k2; have Hk3 := Lib.hid k3
        clear k0 k1 k2 k3
        go_enter Tryz.func101, Tryz.ntmps101
        go_wp2_with fail
        refine hg.out.mono ?_
        rintro e w1 ⟨rfl, q, rfl⟩
        go_wp2_with fail
        go_loopw [7, 32] (fun s i wr => ∃ (x p : Nat), i = .int .i64 x ∧ x ≤ 4 ∧ s = .int .u32 p ∧ Hid ((x = 0 → p = 0) ∧ (x = 1 → p = x0) ∧ (x = 2 → p = x0 + x1 * 2 ^ 8) ∧ (x = 3 → p = x0 + x1 * 2 ^ 8 + x2 * 2 ^ 16) ∧ (x = 4 → p = x0 + x1 * 2 ^ 8 + x2 * 2 ^ 16 + x3 * 2 ^ 24)) ∧ wr = w.drewN q) (fun _ i _ => 4 - (intOf i).toNat)
        case atStart => exact ⟨0, 0, rfl, by omega, rfl, ⟨by omega, by omega, by omega, by omega, by omega⟩, rfl⟩
        case round =>
          obtain ⟨x, p, rfl, hx, rfl, Hp, rfl⟩ := hrel
          rcases (show x = 0 ∨ x = 1 ∨ x = 2 ∨ x = 3 ∨ x = 4 by omega) with rfl | rfl | rfl | rfl | rfl
          · have Hpv := Lib.hid (Hp.out.1 rfl)
            have c0 := Hk0.out
            have Hor : Hid (bits .or .u32 (p : Int) (x0 : Int) = ((p + x0 * 2 ^ 0 : Nat) : Int)) := by
              have := u32_or_shift p x0 0 (by have := Hpv.out; omega) (by omega) b0
              rw [show ((x0 * 2 ^ 0 : Nat) : Int) = (x0 : Int) by omega] at this
              exact this
            go_wp2_with fail
            exact ⟨⟨1, p + x0 * 2 ^ 0, by go_num, by omega, by first | rw [Hor.out] | (rw [← Hor.out]), ⟨by omega, fun _ => by have := Hpv.out; omega, by omega, by omega, by omega⟩, by first | trivial | rfl⟩, by simp [intOf]⟩
          · have Hpv := Lib.hid (Hp.out.2.1 rfl)
            have c0 := Hk1.out
            have Hor : Hid (bits .or .u32 (p : Int) ((x1 : Int) * 256) = ((p + x1 * 2 ^ 8 : Nat) : Int)) := by
              have := u32_or_shift p x1 8 (by have := Hpv.out; omega) (by omega) b1
              rw [show ((x1 * 2 ^ 8 : Nat) : Int) = ((x1 : Int) * 256) by omega] at this
              exact this
            go_wp2_with fail
            exact ⟨⟨2, p + x1 * 2 ^ 8, by go_num, by omega, by first | rw [Hor.out] | (rw [← Hor.out]), ⟨by omega, by omega, fun _ => by have := Hpv.out; omega, by omega, by omega⟩, by first | trivial | rfl⟩, by simp [intOf]⟩
          · have Hpv := Lib.hid (Hp.out.2.2.1 rfl)
            have c0 := Hk2.out
            have Hor : Hid (bits .or .u32 (p : Int) ((x2 : Int) * 65536) = ((p + x2 * 2 ^ 16 : Nat) : Int)) := by
              have := u32_or_shift p x2 16 (by have := Hpv.out; omega) (by omega) b2
              rw [show ((x2 * 2 ^ 16 : Nat) : Int) = ((x2 : Int) * 65536) by omega] at this
              exact this
            go_wp2_with fail
            exact ⟨⟨3, p + x2 * 2 ^ 16, by go_num, by omega, by first | rw [Hor.out] | (rw [← Hor.out]), ⟨by omega, by omega, by omega, fun _ => by have := Hpv.out; omega, by omega⟩, by first | trivial | rfl⟩, by simp [intOf]⟩
          · have Hpv := Lib.hid (Hp.out.2.2.2.1 rfl)
            have c0 := Hk3.out
            have Hor : Hid (bits .or .u32 (p : Int) ((x3 : Int) * 16777216) = ((p + x3 * 2 ^ 24 : Nat) : Int)) := by
              have := u32_or_shift p x3 24 (by have := Hpv.out; omega) (by omega) b3
              rw [show ((x3 * 2 ^ 24 : Nat) : Int) = ((x3 : Int) * 16777216) by omega] at this
              exact this
            go_wp2_with fail
            exact ⟨⟨4, p + x3 * 2 ^ 24, by go_num, by omega, by first | rw [Hor.out] | (rw [← Hor.out]), ⟨by omega, by omega, by omega, by omega, fun _ => by have := Hpv.out; omega⟩, by first | trivial | rfl⟩, by simp [intOf]⟩
          · have Hpv : Hid (p = x0 + 256 * x1 + 65536 * x2 + 16777216 * x3) := by have := Hp.out.2.2.2.2 rfl; show _ = _; omega
            have HX : Hid (readF l = if crcOf ((l.drop (k + 4)).take n) = p then some ((l.drop (k + 4)).take n, k + 4 + n) else none) := by show _ = _; rw [HT.out, Hpv.out]
            have hxl : ((l.drop (k + 4)).take n).length = n := by rw [List.length_take, List.length_drop]; omega
            have hki : (k : Int) + 4 ≤ (k : Int) + 4 + (n : Int) := by omega
            have hkc : (k : Int) + 4 + (n : Int) ≤ (c : Int) := by omega
            have hHq := H.out.keep (M' := []) ((Keeps.refl [] w).drewN q) (by simp)
            have hend : Hid (∀ (v' : Value) (W w' : World), W = w.drewN q → w'.ownsRow W.heap.size 5 1 v' n (((l.drop (k + 4)).take n).map bV) → Below W.heap.size W w' → ∃ A' c', v' = .slice A' n c' ∧ Calls Tryz.prog 154 #[v'] w' (fun e w'' => e = .returned (.int .u32 (crcOf ((l.drop (k + 4)).take n))) ∧ w' = w'') ∧ (crcOf ((l.drop (k + 4)).take n) = p → FrRead l w (.returned (.tuple #[v', .int .i64 ((k : Int) + 4 + (n : Int)), .bool true])) w') ∧ (¬ crcOf ((l.drop (k + 4)).take n) = p → FrRead l w (.returned (.tuple #[.slice none 0 0, .int .i64 0, .bool false])) w')) := by
              rintro v' W w' rfl hown hb
              have hB : ∀ M, (∀ g ∈ M, g < w.heap.size) → Bs w' M v' ((l.drop (k + 4)).take n) := fun M hM => by
                unfold Bs
                rw [hxl]
                exact Rd.of_own hown hM
              have hbw : Below w.heap.size w w' := ⟨hb.os, hb.tape, hb.output, hb.size, hb.block⟩
              obtain ⟨A', c', e, _⟩ := (hB [] (by simp)).len
              rw [hxl] at e
              refine ⟨A', c', e, crcof_any v' _ w' (hB [] (by simp)) (by omega), fun h => ?_, fun h => ?_⟩
              · unfold FrRead
                rw [HX.out, if_pos h]
                refine ⟨A', c', ?_, ?_, hbw⟩
                · rw [hxl, e, Int.natCast_add, Int.natCast_add]; rfl
                · rw [hxl, ← e]; exact hB
              · unfold FrRead
                rw [HX.out, if_neg h]
                exact ⟨rfl, hbw⟩
            clear Hk0 Hk1 Hk2 Hk3 Hp HT HX Hpv
            by_cases hck : c = k + 4
            · obtain rfl : n = 0 := by omega
              have hcl := Lib.hid (cloneU8 [] (.slice (some ⟨g, off, none⟩) 0 0) 0 [] (w.drewN q) ⟨_, 0, rfl, Nat.le_refl _, rfl, fun h => absurd h (by omega)⟩ (by simp) (by omega))
              rw [List.take_zero, List.map_nil] at hend
              generalize crcOf ([] : List UInt8) = cx at *
              go_wp2_with fail
              refine hcl.out.mono ?_
              rintro e w2 ⟨v', rfl, hown, hb⟩
              obtain ⟨A', c', rfl, hcr, hy, hno⟩ := hend.out v' _ w2 rfl hown hb
              have Hcr := Lib.hid hcr; have Hy := Lib.hid hy; have Hno := Lib.hid hno
              clear hown hb hcl hcr hy hno hend
              go_wp2_with fail
              refine Hcr.out.mono ?_
              rintro e w3 ⟨rfl, rfl⟩
              by_cases hcp : cx = p
              · have hne : ((cx : Int) != (p : Int)) = false := by simp [hcp]
                have hp := Lib.hid (Hy.out hcp)
                clear hcp Hy Hno
                go_wp2
                go_ret3
                exact hp.out
              · have hne : ((cx : Int) != (p : Int)) = true := by simp; omega
                have hp := Lib.hid (Hno.out hcp)
                clear hcp Hy Hno
                go_wp2
                go_ret3
                exact hp.out
            · have hpt := hHq.part (k + 4) n (by omega) (c - (k + 4)) (by omega) (some ⟨g, off + (k + 4), none⟩) (fun _ => rfl)
              unfold Bs at hpt
              rw [hxl] at hpt
              have hcl := Lib.hid (cloneU8 [] _ n _ (w.drewN q) hpt (bV_one _) (by omega))
              generalize (l.drop (k + 4)).take n = xs at *
              generalize crcOf xs = cx at *
              clear hpt hHq
              go_wp2_with fail
              refine hcl.out.mono ?_
              rintro e w2 ⟨v', rfl, hown, hb⟩
              obtain ⟨A', c', rfl, hcr, hy, hno⟩ := hend.out v' _ w2 rfl hown hb
              have Hcr := Lib.hid hcr; have Hy := Lib.hid hy; have Hno := Lib.hid hno
              clear hown hb hcl hcr hy hno hend
              go_wp2_with fail
              refine Hcr.out.mono ?_
              rintro e w3 ⟨rfl, rfl⟩
              by_cases hcp : cx = p
              · have hne : ((cx : Int) != (p : Int)) = false := by simp [hcp]
                have hp := Lib.hid (Hy.out hcp)
                clear hcp Hy Hno
                go_wp2
                go_ret3
                exact hp.out
              · have hne : ((cx : Int) != (p : Int)) = true := by simp; omega
                have hp := Lib.hid (Hno.out hcp)
                clear hcp Hy Hno
                go_wp2
                go_ret3
                exact hp.out
end Go.Proofs.YtinnifhnabncfaaGreatDoor.Vi
end
/- Words for a disk: a row of bytes that it owns; append onto such a row. -/
section
namespace Go.Proofs.YtinnifhnabncfaaGreatDoor.Vi
open Go.RowKit Base Mem
/-- v is a row of these bytes that nobody else writes: it starts its block. -/
def Row1 (w : World) (v : Value) (l : List UInt8) : Prop :=
  (v = .slice none 0 0 ∧ l = []) ∨ ∃ g cap cur, v = .slice (some ⟨g, 0, none⟩) l.length cap ∧ Blk w g 5 cur ∧ l.length ≤ cap ∧ cap ≤ cur.size ∧ cap ≤ maxLen ∧ ∀ (j : Nat) (x : UInt8), l[j]? = some x → cur[j]? = some (bV x)
section
variable {w w' : World} {M M' : List Nat} {v : Value} {l : List UInt8}
theorem Row1.nil (w : World) : Row1 w (.slice none 0 0) [] := Or.inl ⟨rfl, rfl⟩
theorem Row1.of_own {base n : Nat} (h : w.ownsRow base 5 1 v n (l.map bV)) : Row1 w v l := by
  obtain ⟨hl, h⟩ := h
  have hn : n = l.length := by simpa using hl.symm
  subst hn
  rcases h with ⟨rfl, h0⟩ | ⟨g, cap, cur, rfl, _, hg, hnc, hm, hs, ht⟩
  · exact Or.inl ⟨rfl, List.eq_nil_of_length_eq_zero h0⟩
  · refine Or.inr ⟨g, cap, cur, rfl, hg, hnc, by omega, hm, fun j x hj => ?_⟩
    have h1 : (l.map bV)[j]? = some (bV x) := by rw [List.getElem?_map, hj]; rfl
    rw [← ht, List.getElem?_take] at h1
    split at h1
    · simpa using h1
    · cases h1
theorem Row1.len (h : Row1 w v l) : ∃ A c, v = .slice A l.length c ∧ l.length ≤ c ∧ c ≤ maxLen := by
  rcases h with ⟨rfl, rfl⟩ | ⟨g, cap, cur, rfl, _, h1, _, h2, _⟩
  · exact ⟨none, 0, rfl, Nat.le_refl _, by unfold maxLen; omega⟩
  · exact ⟨_, cap, rfl, h1, h2⟩
theorem Row1.lt (h : Row1 w v l) {g : Nat} (hg : v.ownBlock = some g) : g < w.heap.size := by
  rcases h with ⟨rfl, rfl⟩ | ⟨g', cap, cur, rfl, hb, _⟩
  · simp [Value.ownBlock] at hg
  · simp [Value.ownBlock] at hg; subst hg; exact hb.lt
theorem Row1.bs (h : Row1 w v l) (hM : ∀ g, v.ownBlock = some g → g ∉ M) : Bs w M v l := by
  rcases h with ⟨rfl, rfl⟩ | ⟨g, cap, cur, rfl, hb, h1, h2, _, hx⟩
  · exact Bs.nil _ _
  · refine ⟨_, cap, rfl, h1, by simp, fun _ => ⟨g, 0, rfl, hb.lt, hM g rfl, fun j u hu => ?_⟩⟩
    rw [hb.cell, Nat.zero_add]
    rw [List.getElem?_map] at hu
    obtain ⟨x, hx1, rfl⟩ := Option.map_eq_some_iff.1 hu
    exact hx j x hx1
theorem Row1.keep (h : Row1 w v l) (k : Keeps M w w') (hM : ∀ g, v.ownBlock = some g → g ∉ M) : Row1 w' v l := by
  rcases h with ⟨rfl, rfl⟩ | ⟨g, cap, cur, rfl, hb, rest⟩
  · exact .nil _
  · exact Or.inr ⟨g, cap, cur, rfl, k.blk hb (hM g rfl), rest⟩
theorem Row1.cut {A : Option Addr} {c : Nat} (h : Row1 w (.slice A l.length c) l) (n : Nat) (hn : n ≤ l.length) : Row1 w (.slice A n n) (l.take n) := by
  rcases h with ⟨e, rfl⟩ | ⟨g, cap, cur, e, hb, h1, h2, h3, hx⟩
  · injection e with e1 e2 e3
    subst e1
    have h0 : n = 0 := by simpa using hn
    subst h0
    exact .nil _
  · injection e with e1 e2 e3
    subst e1
    refine Or.inr ⟨g, n, cur, ?_, hb, ?_, by omega, by omega, fun j x hj => hx j x ?_⟩
    · rw [List.length_take, Nat.min_eq_left hn]
    · rw [List.length_take]; omega
    · rw [List.getElem?_take] at hj
      split at hj
      · exact hj
      · cases hj
end
theorem blk_setCells1 {g : Nat} {t : TypeId} : ∀ (vs : List Value) (o : Nat) (w : World) (cur : Array Value), Blk w g t cur →
    ∃ cur', Blk (w.setCells g o vs) g t cur' ∧ cur'.size = cur.size ∧ (∀ j, j < o → cur'[j]? = cur[j]?) ∧ (∀ j u, vs[j]? = some u → o + j < cur.size → cur'[o + j]? = some u) ∧ Keeps [g] w (w.setCells g o vs)
  | [], o, w, cur, h => ⟨cur, h, rfl, fun _ _ => rfl, fun j u hu => by simp at hu, Keeps.refl _ _⟩
  | x :: vs, o, w, cur, h => by
    obtain ⟨cur', h1, h2, h3, h4, h5⟩ := blk_setCells1 vs (o + 1) (w.setCell ⟨g, o, none⟩ x) (cur.setIfInBounds o x) (h.set_ o x)
    rw [Array.size_setIfInBounds] at h2 h4
    refine ⟨cur', h1, h2, fun j hj => ?_, fun j u hu hs => ?_, ?_⟩
    · rw [h3 j (by omega), Array.getElem?_setIfInBounds_ne (by omega)]
    · cases j with
      | zero =>
        simp at hu
        subst hu
        rw [h3 (o + 0) (by omega), Nat.add_zero, Array.getElem?_setIfInBounds_self, if_pos (by omega)]
      | succ j =>
        have := h4 j u (by simpa using hu) (by omega)
        rwa [show o + (j + 1) = o + 1 + j by omega]
    · exact ((Keeps.refl [g] w).setCell (by simp) x).trans h5 (by simp)
set_option maxRecDepth 100000 in
theorem wpList_append_row1 {ops : Array Oper} {rest : List Oper} {o : Oper} {a : Act} {w : World} {Q : Exit → Act → World → Prop} (hgd : o.guard = none) (s x : Operand)
    (ho : o.op = .call { callee := .builtin .append, args := #[s, x], argTypes := #[36, 36] })
    (v : Value) (b l : List UInt8) (A : Option Addr) (c : Nat) (M : List Nat) (hs : a.eval s = v) (hr : Row1 w v b) (hx : a.eval x = .slice A l.length c) (hl : Bs w M (.slice A l.length c) l) (h0 : 0 < l.length) (hb : b.length + l.length ≤ 100000000)
    (h : ∀ v' w', Row1 w' v' (b ++ l) → Keeps v.ownBlock.toList w w' → (∀ g, v'.ownBlock = some g → v.ownBlock = some g ∨ w.heap.size ≤ g) → wpList Tryz.prog ops Q rest (a.put o.dst v') w') : wpList Tryz.prog ops Q (o :: rest) a w := by
  obtain ⟨i0, hi0, hz0, hz1, hz2⟩ := info_parts infoU8
  obtain ⟨A', c', e, hcc, _, hrd⟩ := hl
  obtain ⟨rfl⟩ : A' = A := by injection e with e _ _; exact e.symm
  obtain ⟨g, off, rfl, hg, _, hc⟩ := hrd h0
  have hn : (l.map bV).length = l.length * 1 := by simp
  have hca : ∀ j u, (l.map bV)[j]? = some u → w.cell? ((⟨g, off, none⟩ : Addr).add j) = some u := fun j u hu => by rw [addr_add]; exact hc j u hu
  rcases hr with ⟨rfl, rfl⟩ | ⟨gb, cap, cur, rfl, hB, h1, h2, h3, hx2⟩
  · refine wpList_append_grows w hgd s x _ ho 5 i0 _ 1 1 Tryz.underlying36 hi0 hz0 hz1 hz2 rfl (by omega) none 0 0 [] hs (fun _ => ⟨rfl, rfl⟩) rfl (fun b hb => by cases hb) ⟨g, off, none⟩ l.length c (l.map bV) hx hn hca (bV_one l) (by omega) (by unfold maxLen; omega) (by omega) ?_
    intro v' w' hown hgr
    have hown' : w'.ownsRow w.heap.size 5 1 v' l.length (l.map bV) := by simpa using hown
    exact h v' w' (Row1.of_own hown') ((Keeps.refl _ _).grown hgr (by simp)) (fun k hk => .inr (hown'.lt k hk).1)
  · have holds : ∀ j u, (b.map bV)[j]? = some u → w.cell? ⟨gb, 0 + j, none⟩ = some u := fun j u hu => by
      rw [hB.cell, Nat.zero_add]
      rw [List.getElem?_map] at hu
      obtain ⟨y, hy, rfl⟩ := Option.map_eq_some_iff.1 hu
      exact hx2 j y hy
    refine wpList_append_arg w hgd s x _ ho 5 i0 _ 1 1 Tryz.underlying36 hi0 hz0 hz1 hz2 rfl (by omega) gb 0 b.length cap (b.map bV) hs (by simp) holds ⟨g, off, none⟩ l.length c (l.map bV) hx hn hca (bV_one l) ?_ (by unfold maxLen; omega) (by omega) ?_ ?_
    · intro hroom j hj
      rw [List.length_map] at hj
      refine ⟨?_, hB.frozen _⟩
      rw [hB.cell, Array.getElem?_eq_getElem (by omega)]; rfl
    · intro hroom
      obtain ⟨cur', hB', hs', hlow, hin, hk⟩ := blk_setCells1 (l.map bV) (0 + b.length * 1) w cur hB
      refine h _ _ (Or.inr ⟨gb, cap, cur', ?_, hB', by rw [List.length_append]; omega, by omega, h3, fun j y hj => ?_⟩) (by simpa [Value.ownBlock] using hk) (fun k hk => .inl hk)
      · rw [List.length_append]
      · rcases Nat.lt_or_ge j b.length with hjb | hjb
        · rw [List.getElem?_append_left hjb] at hj
          rw [hlow j (by omega)]
          exact hx2 j y hj
        · rw [List.getElem?_append_right hjb] at hj
          have hjl : j - b.length < l.length := (List.getElem?_eq_some_iff.1 hj).1
          have := hin (j - b.length) (bV y) (by rw [List.getElem?_map, hj]; rfl) (by omega)
          rwa [show 0 + b.length * 1 + (j - b.length) = j by omega] at this
    · intro hgrow v' w' hown hgr
      have hown' : w'.ownsRow w.heap.size 5 1 v' (b.length + l.length) ((b ++ l).map bV) := by simpa using hown
      exact h v' w' (Row1.of_own hown') ((Keeps.refl _ _).grown hgr (by simp)) (fun k hk => .inr (hown'.lt k hk).1)
/-- A disk lies in block d: its bytes, how many of them last; it writes no other blocks than those of X. -/
def DkAt (w : World) (X : List Nat) (d : Nat) (b : List UInt8) (k : Nat) : Prop :=
  ∃ v, Blk w d 112 #[v, .int .i64 k] ∧ Row1 w v b ∧ d ∈ X ∧ (∀ g, v.ownBlock = some g → g ∈ X ∧ g ≠ d) ∧ k ≤ b.length ∧ b.length ≤ 1048576 ∧ ∀ g ∈ X, g < w.heap.size
/-- Blocks of X' are those of X, or new. -/
def Grows (X : List Nat) (w : World) (X' : List Nat) : Prop := ∀ g ∈ X', g ∈ X ∨ w.heap.size ≤ g
theorem Grows.refl (X : List Nat) (w : World) : Grows X w X := fun _ h => .inl h
theorem Grows.trans {X X' X'' : List Nat} {w w' : World} (h : Grows X w X') (k : Grows X' w' X'') (hs : w.heap.size ≤ w'.heap.size) : Grows X w X'' := fun g hg => by
  rcases k g hg with h1 | h1
  · exact h g h1
  · right; omega
theorem DkAt.lt {w : World} {X : List Nat} {d k : Nat} {b : List UInt8} (h : DkAt w X d b k) : d < w.heap.size := by obtain ⟨_, h, _⟩ := h; exact h.lt
theorem DkAt.le {w : World} {X : List Nat} {d k : Nat} {b : List UInt8} (h : DkAt w X d b k) : k ≤ b.length ∧ b.length ≤ 1048576 := by obtain ⟨_, _, _, _, _, h1, h2, _⟩ := h; exact ⟨h1, h2⟩
theorem DkAt.keep {w w' : World} {X M : List Nat} {d k : Nat} {b : List UInt8} (h : DkAt w X d b k) (hk : Keeps M w w') (hM : ∀ g ∈ X, g ∉ M) : DkAt w' X d b k := by
  obtain ⟨v, h1, h2, h3, h4, h5, h6, h7⟩ := h
  exact ⟨v, hk.blk h1 (hM d h3), h2.keep hk (fun g hg => hM g (h4 g hg).1), h3, h4, h5, h6, fun g hg => Nat.lt_of_lt_of_le (h7 g hg) hk.size⟩
theorem DkAt.keep0 {w w' : World} {X : List Nat} {d k : Nat} {b : List UInt8} (h : DkAt w X d b k) (hk : Keeps [] w w') : DkAt w' X d b k := h.keep hk (by simp)
end Go.Proofs.YtinnifhnabncfaaGreatDoor.Vi
end
/- Contracts of disk's functions. -/
section
namespace Go.Proofs.YtinnifhnabncfaaGreatDoor.Vi
open Go.RowKit Base Mem
theorem dknew_any (w : World) :
    Calls Tryz.prog 28 #[] w fun e w' => e = .returned (.pointer (some ⟨w.heap.size, 0, none⟩)) ∧ DkAt w' [w.heap.size] w.heap.size [] 0 ∧ Below w.heap.size w w' := by
  have hR : Hid (DkAt (w.alloc (.cells #[.slice none 0 0, .int .i64 0] 112)) [w.heap.size] w.heap.size [] 0) :=
    ⟨_, Blk.new w _ _, .nil _, by simp, by simp [Value.ownBlock], by simp, by simp, by simp⟩
  go_enter Tryz.func28, Tryz.ntmps28
  go_wp2
  go_ret
  exact ⟨rfl, hR.out, (Below.refl _ _).alloc (Nat.le_refl _) _⟩
section
variable {w : World} {X : List Nat} {d k : Nat} {b : List UInt8}
theorem dkwaits_any (w : World) (h : DkAt w X d b k) :
    Calls Tryz.prog 83 #[.pointer (some ⟨d, 0, none⟩)] w fun e w' => e = .returned (.int .i64 ((b.length : Int) - k)) ∧ ∃ q, w' = w.drewN q := by
  have hle := h.le
  obtain ⟨v, hb, hr, _⟩ := h
  obtain ⟨A, c, rfl, hc⟩ := hr.len
  have c0 := hb.cell 0; have c1 := hb.cell 1
  simp only [List.getElem?_toArray, List.getElem?_cons_succ, List.getElem?_cons_zero] at c0 c1
  clear hb hr
  go_enter Tryz.func83, Tryz.ntmps83
  go_wp2
  go_quiet (fail)
  go_wp2
  go_ret
  exact ⟨rfl, nq, rfl⟩
theorem dkall_any (w : World) (h : DkAt w X d b k) :
    Calls Tryz.prog 91 #[.pointer (some ⟨d, 0, none⟩)] w fun e w' => ∃ v, e = .returned v ∧ w'.ownsRow w.heap.size 5 1 v b.length (b.map bV) ∧ Below w.heap.size w w' := by
  have hle := h.le
  obtain ⟨v, hb, hr, _⟩ := h
  have hcl := Lib.hid (cloneU8 [] v b.length (b.map bV) w (hr.bs (by simp)) (bV_one b) (by omega))
  obtain ⟨A, c, rfl, hc⟩ := hr.len
  have c0 := hb.cell 0; have c1 := hb.cell 1
  simp only [List.getElem?_toArray, List.getElem?_cons_succ, List.getElem?_cons_zero] at c0 c1
  clear hb hr
  go_enter Tryz.func91, Tryz.ntmps91
  go_wp2_with fail
  refine hcl.out.mono ?_
  rintro e w1 ⟨v1, rfl, hown, hb1⟩
  have Hown := Lib.hid hown; have Hb1 := Lib.hid hb1
  clear hown hb1 hcl
  go_wp2
  go_ret
  exact ⟨v1, rfl, Hown.out, Hb1.out⟩
theorem dksync_any (w : World) (h : DkAt w X d b k) :
    Calls Tryz.prog 201 #[.pointer (some ⟨d, 0, none⟩)] w fun e w' => e = .returned (.tuple #[]) ∧ DkAt w' X d b b.length ∧ Keeps [d] w w' := by
  have hR : Hid (DkAt (w.setCell ⟨d, 1, none⟩ (.int .i64 b.length)) X d b b.length ∧ Keeps [d] w (w.setCell ⟨d, 1, none⟩ (.int .i64 b.length))) := by
    obtain ⟨v, h1, h2, h3, h4, h5, h6, h7⟩ := h
    have hk : Keeps [d] w (w.setCell ⟨d, 1, none⟩ (.int .i64 b.length)) := (Keeps.refl _ _).setCell (by simp) _
    exact ⟨⟨v, by simpa using h1.set_ 1 (.int .i64 b.length), h2.keep hk (fun g hg => by have := (h4 g hg).2; simpa using this), h3, h4, Nat.le_refl _, h6, fun g hg => Nat.lt_of_lt_of_le (h7 g hg) hk.size⟩, hk⟩
  have hle := h.le
  obtain ⟨v, hb, hr, _⟩ := h
  obtain ⟨A, c, rfl, hc⟩ := hr.len
  have c0 := hb.cell 0; have c1 := hb.cell 1; have f1 := hb.frozen 1
  simp only [List.getElem?_toArray, List.getElem?_cons_succ, List.getElem?_cons_zero] at c0 c1
  clear hb hr
  go_enter Tryz.func201, Tryz.ntmps201
  go_wp2
  go_end0
  exact ⟨rfl, hR.out.1, hR.out.2⟩
theorem dkcut_any (w : World) (h : DkAt w X d b k) (n : Nat) (hn : n ≤ b.length) :
    Calls Tryz.prog 84 #[.pointer (some ⟨d, 0, none⟩), .int .i64 n] w fun e w' => e = .returned (.bool true) ∧ DkAt w' X d (b.take n) n ∧ Keeps [d] w w' := by
  have hle := h.le
  obtain ⟨v, hb, hr, h3, h4, h5, h6, h7⟩ := h
  obtain ⟨A, c, rfl, hc, hcm⟩ := hr.len
  have hcut := hr.cut n hn
  have hown : ∀ g, Value.ownBlock (.slice A n n) = some g → Value.ownBlock (.slice A b.length c) = some g := fun g hg => by cases A <;> simp [Value.ownBlock] at hg ⊢ <;> exact hg
  have hR : Hid (DkAt ((w.setCell ⟨d, 0, none⟩ (.slice A n n)).setCell ⟨d, 1, none⟩ (.int .i64 n)) X d (b.take n) n ∧ Keeps [d] w ((w.setCell ⟨d, 0, none⟩ (.slice A n n)).setCell ⟨d, 1, none⟩ (.int .i64 n))) := by
    have hk : Keeps [d] w ((w.setCell ⟨d, 0, none⟩ (.slice A n n)).setCell ⟨d, 1, none⟩ (.int .i64 n)) := ((Keeps.refl _ _).setCell (by simp) _).setCell (by simp) _
    refine ⟨⟨.slice A n n, by simpa using (hb.set_ 0 (.slice A n n)).set_ 1 (.int .i64 n), hcut.keep hk (fun g hg => by have := (h4 g (hown g hg)).2; simpa using this), h3, fun g hg => h4 g (hown g hg), ?_, ?_, fun g hg => Nat.lt_of_lt_of_le (h7 g hg) hk.size⟩, hk⟩
    · rw [List.length_take]; omega
    · rw [List.length_take]; omega
  have hcl := Lib.hid (fun W => clipU8 A n c W (by omega))
  have c0 := hb.cell 0; have c1 := hb.cell 1; have f0 := hb.frozen 0; have f1 := hb.frozen 1
  simp only [List.getElem?_toArray, List.getElem?_cons_succ, List.getElem?_cons_zero] at c0 c1
  clear hb hr hcut hown h3 h4 h5 h6 h7
  have hni : (0 : Int) ≤ (n : Int) := by omega
  have hn2 : (n : Int) ≤ (b.length : Int) := by omega
  have hn3 : (n : Int) ≤ (c : Int) := by omega
  go_enter Tryz.func84, Tryz.ntmps84
  go_wp2_with fail
  refine (hcl.out _).mono ?_
  rintro e w1 ⟨rfl, rfl⟩
  go_wp2
  go_ret
  exact ⟨rfl, hR.out.1, hR.out.2⟩
def DaPost (X : List Nat) (d : Nat) (b l : List UInt8) (k : Nat) (w : World) (e : Ending) (w' : World) : Prop :=
  if b.length + l.length ≤ 1048576 then e = .returned (.int .i64 0) ∧ ∃ X', DkAt w' X' d (b ++ l) k ∧ Grows X w X' ∧ Keeps X w w'
  else e = .returned (.int .i64 24) ∧ w = w'
theorem dkappend_any (w : World) (h : DkAt w X d b k) (v : Value) (l : List UInt8) (M : List Nat) (hv : Bs w M v l) (h0 : 0 < l.length) (hl : l.length ≤ 10000000) :
    Calls Tryz.prog 200 #[.pointer (some ⟨d, 0, none⟩), v] w fun e w' => DaPost X d b l k w e w' := by
  have hle := h.le
  obtain ⟨v0, hb, hr, h3, h4, h5, h6, h7⟩ := h
  obtain ⟨A, c, rfl, hc, hcm⟩ := hr.len
  obtain ⟨A2, c2, rfl, hc2⟩ := hv.len
  have c0 := hb.cell 0; have c1 := hb.cell 1; have f0 := hb.frozen 0
  simp only [List.getElem?_toArray, List.getElem?_cons_succ, List.getElem?_cons_zero] at c0 c1
  by_cases hroom : b.length + l.length ≤ 1048576
  · have HP : Hid (∀ e w', DaPost X d b l k w e w' = (e = .returned (.int .i64 0) ∧ ∃ X', DkAt w' X' d (b ++ l) k ∧ Grows X w X' ∧ Keeps X w w')) := fun e w' => by unfold DaPost; rw [if_pos hroom]
    have hd0 : decide ((1048576 - (b.length : Int)) < (l.length : Int)) = false := decide_eq_false (by omega)
    have Hb := Lib.hid hb; have Hr := Lib.hid hr; have H3 := Lib.hid h3; have H4 := Lib.hid h4; have H7 := Lib.hid h7; have Hv := Lib.hid hv
    have hlt := hb.lt
    clear hb hr h3 h4 h7 hv
    go_enter Tryz.func200, Tryz.ntmps200
    go_wp2_with (at_builtin; refine wpList_append_row1 rfl (.tmp 18) (.tmp 19) rfl _ b l A2 c2 M rfl Hr.out rfl Hv.out h0 (by omega) ?_)
    intro v1 w1 hr1 hk1 ho1
    obtain ⟨A1, c1, rfl, _⟩ := hr1.len
    have Hr1 := Lib.hid hr1; have Hk1 := Lib.hid hk1; have Ho1 := Lib.hid ho1
    have hdn : ∀ g ∈ (Value.ownBlock (.slice A b.length c)).toList, g ≠ d := fun g hg => (H4.out g (by simpa using hg)).2
    have Hb1 := Lib.hid (hk1.blk Hb.out (fun hm => hdn d hm rfl))
    have f1 := Hb1.out.frozen 0
    have hd1 : w1.cell? ⟨d, 0, none⟩ = some (.slice A b.length c) := Hb1.out.cell 0
    have hR : Hid (∃ X', DkAt (w1.setCell ⟨d, 0, none⟩ (.slice A1 (b ++ l).length c1)) X' d (b ++ l) k ∧ Grows X w X' ∧ Keeps X w (w1.setCell ⟨d, 0, none⟩ (.slice A1 (b ++ l).length c1))) := by
      have hk2 : Keeps [d] w1 (w1.setCell ⟨d, 0, none⟩ (.slice A1 (b ++ l).length c1)) := (Keeps.refl _ _).setCell (by simp) _
      have hkX : Keeps X w (w1.setCell ⟨d, 0, none⟩ (.slice A1 (b ++ l).length c1)) := (Hk1.out.mono (M' := X) (fun g hg => .inl (H4.out g (by simpa using hg)).1)).trans hk2 (fun g hg => by simp at hg; subst hg; exact .inl H3.out)
      have hne : ∀ g, (Value.ownBlock (.slice A1 (b ++ l).length c1)) = some g → g ≠ d := fun g hg => by
        rcases Ho1.out g hg with h | h
        · exact (H4.out g h).2
        · omega
      have hXs : ∀ g ∈ X ++ (Value.ownBlock (.slice A1 (b ++ l).length c1)).toList, g < (w1.setCell ⟨d, 0, none⟩ (.slice A1 (b ++ l).length c1)).heap.size := fun g hg => by
        rcases List.mem_append.1 hg with h | h
        · exact Nat.lt_of_lt_of_le (H7.out g h) hkX.size
        · exact Nat.lt_of_lt_of_le (Hr1.out.lt (by simpa using h)) hk2.size
      refine ⟨X ++ (Value.ownBlock (.slice A1 (b ++ l).length c1)).toList, ⟨.slice A1 (b ++ l).length c1, by simpa using Hb1.out.set_ 0 (.slice A1 (b ++ l).length c1), Hr1.out.keep hk2 (fun g hg => by have := hne g hg; simpa using this), by simp [H3.out], fun g hg => ⟨List.mem_append_right _ (Option.mem_toList.2 hg), hne g hg⟩, by rw [List.length_append]; omega, by rw [List.length_append]; omega, hXs⟩, ?_, hkX⟩
      intro g hg
      rcases List.mem_append.1 hg with h | h
      · exact .inl h
      · rcases Ho1.out g (by simpa using h) with h | h
        · exact .inl (H4.out g h).1
        · exact .inr h
    have hP : Hid (DaPost X d b l k w (.returned (.int .i64 0)) (w1.setCell ⟨d, 0, none⟩ (.slice A1 (b ++ l).length c1))) := (HP.out _ _).symm ▸ ⟨rfl, hR.out⟩
    rw [List.length_append] at hP
    clear hr1 hk1 ho1 hdn HP hR
    go_wp2
    go_ret
    exact hP.out
  · have HP : Hid (DaPost X d b l k w (.returned (.int .i64 24)) w) := by unfold DaPost; rw [if_neg hroom]; exact ⟨rfl, rfl⟩
    have hd0 : decide ((1048576 - (b.length : Int)) < (l.length : Int)) = true := decide_eq_true (by omega)
    clear hb hr h3 h4 h7 hv
    go_enter Tryz.func200, Tryz.ntmps200
    go_wp2
    go_ret
    exact HP.out
/-- What lasts behind a crash that lets so many of those that wait last. -/
def crashK (b : List UInt8) (k : Nat) (keep : Int) : Nat := (max 0 (min keep ((b.length : Int) - k))).toNat
theorem dkcrash_any (w : World) (h : DkAt w X d b k) (keep : Int) :
    Calls Tryz.prog 35 #[.pointer (some ⟨d, 0, none⟩), .int .i64 keep] w fun e w' => e = .returned (.int .i64 ((b.length : Int) - k - crashK b k keep)) ∧ DkAt w' X d (b.take (k + crashK b k keep)) (k + crashK b k keep) ∧ Keeps [d] w w' := by
  have hle := h.le
  have hwt := Lib.hid (fun W (hk : Keeps [] w W) => dkwaits_any W (h.keep0 hk))
  have hK : Hid (max 0 (min keep ((b.length : Int) - k)) = (crashK b k keep : Int)) := by show _ = _; unfold crashK; omega
  have hKb : k + crashK b k keep ≤ b.length := by unfold crashK; omega
  have hct := Lib.hid (fun W (hk : Keeps [] w W) => dkcut_any W (h.keep0 hk) (k + crashK b k keep) hKb)
  generalize crashK b k keep = m at *
  obtain ⟨v, hb, _⟩ := h
  have c1 := hb.cell 1
  simp only [List.getElem?_toArray, List.getElem?_cons_succ, List.getElem?_cons_zero] at c1
  have hlt := hb.lt
  have HC : Hid (∀ q, (w.drewN q).cell? ⟨d, 1, none⟩ = some (.int .i64 k)) := fun q => c1
  clear hb
  go_enter Tryz.func35, Tryz.ntmps35
  go_wp2_with fail
  refine (hwt.out w (Keeps.refl _ _)).mono ?_
  rintro e w1 ⟨rfl, q1, rfl⟩
  have hm := hK.out
  have hwm : IntKind.i64.wrap ((m : Int)) = (m : Int) := by rw [IntKind.wrap_i64]; omega
  go_wp2_with fail
  refine (hwt.out (w.drewN q1) ((Keeps.refl _ _).drewN q1)).mono ?_
  rintro e w2 ⟨rfl, q2, rfl⟩
  have hc2 : (w.drewN (q1 + q2)).cell? ⟨d, 1, none⟩ = some (.int .i64 k) := c1
  go_wp2_with fail
  have hct2 := hct.out (w.drewN (q1 + q2)) ((Keeps.refl _ _).drewN _)
  rw [Int.natCast_add] at hct2
  refine hct2.mono ?_
  rintro e w3 ⟨rfl, hD, hk⟩
  have HD := Lib.hid hD; have Hk : Hid (Keeps [d] w w3) := ((Keeps.refl [d] w).drewN (q1 + q2)).trans hk (by simp)
  clear hD hk hct2
  go_wp2
  go_ret
  exact ⟨rfl, HD.out, Hk.out⟩
end
end Go.Proofs.YtinnifhnabncfaaGreatDoor.Vi
end
/- Contract of label.Name. -/
section
namespace Go.Proofs.YtinnifhnabncfaaGreatDoor.Vi
open Go.RowKit Base Mem
def charOk (c : UInt8) : Bool := (97 ≤ c.toNat && c.toNat ≤ 122) || (48 ≤ c.toNat && c.toNat ≤ 57) || c.toNat == 95
def nameOk (s : ByteArray) : Bool := decide (1 ≤ s.size) && decide (s.size ≤ 32) && (sB s).all charOk
theorem sB_len (s : ByteArray) : (sB s).length = s.size := rfl
set_option maxRecDepth 100000 in
set_option maxHeartbeats 1000000 in
theorem name_any (s : ByteArray) (w : World) : Calls Tryz.prog 228 #[.string s] w fun e w' => e = .returned (.bool (nameOk s)) ∧ w = w' := by
  have Hn : Hid (nameOk s = (decide (1 ≤ s.size) && decide (s.size ≤ 32) && (sB s).all charOk)) := rfl
  have hs0 : s.toList.length = s.size := by rw [ByteArray.toList_eq]; rfl
  by_cases h0 : s.size = 0
  · have hz : s.toList = [] := List.length_eq_zero_iff.1 (by rw [hs0, h0])
    have hz2 : s.toList.isEmpty = true := by rw [hz]; rfl
    have hR : Hid (nameOk s = false) := by show _ = _; rw [Hn.out]; simp [h0]
    rw [hR.out]
    go_enter Tryz.func228, Tryz.ntmps228
    go_wp2
    go_ret
    exact ⟨rfl, rfl⟩
  · have hz : s.toList ≠ [] := fun h => h0 (by rw [← hs0, h]; rfl)
    have hz2 : s.toList.isEmpty = false := by simpa using hz
    by_cases h32 : 32 < s.size
    · have hi : (32 : Int) < (s.size : Int) := by omega
      have hR : Hid (nameOk s = false) := by show _ = _; rw [Hn.out]; simp; omega
      rw [hR.out]
      go_enter Tryz.func228, Tryz.ntmps228
      go_wp2
      go_ret
      exact ⟨rfl, rfl⟩
    · have hi : decide ((32 : Int) < (s.size : Int)) = false := decide_eq_false (by omega)
      go_enter Tryz.func228, Tryz.ntmps228
      go_wp2_with fail
      go_loopw [14] (fun i wr => ∃ x : Nat, i = .int .i64 x ∧ x ≤ s.size ∧ Hid (((sB s).take x).all charOk = true) ∧ w = wr) (fun i _ => s.size - (intOf i).toNat)
      case atStart => exact ⟨0, rfl, by omega, rfl, rfl⟩
      case round =>
        obtain ⟨x, rfl, hx, Ht, rfl⟩ := hrel
        by_cases hlt : x < s.size
        · have hx1 : (x : Int) < (s.size : Int) := by omega
          have hxb : x < (sB s).length := hlt
          have hget : (sB s)[x] = s[x] := rfl
          have Hnx : Hid (((sB s).take (x + 1)).all charOk = charOk s[x]) := by
            show _ = _
            rw [List.take_succ_eq_append_getElem hxb, List.all_append, Ht.out, hget]; simp
          have Hall : Hid (charOk s[x] = false → nameOk s = false) := fun h => by
            rw [Hn.out]
            have : (sB s).all charOk = false := by
              rw [List.all_eq_false]
              exact ⟨(sB s)[x], List.getElem_mem _, by rw [hget, h]; simp⟩
            rw [this]; simp
          have Hch : Hid (charOk s[x] = ((decide (97 ≤ s[x].toNat) && decide (s[x].toNat ≤ 122)) || (decide (48 ≤ s[x].toNat) && decide (s[x].toNat ≤ 57)) || s[x].toNat == 95)) := rfl
          clear hget
          have Hny : Hid (charOk s[x] = true → ((sB s).take (x + 1)).all charOk = true) := fun h => Hnx.out.trans h
          clear Hnx
          go_wp2
          all_goals first
            | (go_roundw
               case rel =>
                 refine ⟨x + 1, by go_num, by omega, Hny.out ?_, trivial⟩
                 rw [Hch.out]
                 simp only [bne_eq_false_iff_eq, bne_iff_ne, ne_eq] at *
                 simp
                 omega
               case measure => simp [intOf] <;> omega)
            | (go_ret
               rw [Hall.out (by
                 rw [Hch.out]
                 simp only [bne_eq_false_iff_eq, bne_iff_ne, ne_eq] at *
                 simp
                 omega)]
               exact ⟨rfl, rfl⟩)
        · obtain rfl : x = s.size := by omega
          have hR : Hid (nameOk s = true) := by
            show _ = _
            rw [Hn.out]
            have := Ht.out
            rw [List.take_of_length_le (by rw [sB_len]; exact Nat.le_refl _)] at this
            rw [this]; simp; omega
          go_wp2
          go_ret
          rw [hR.out]
          exact ⟨rfl, rfl⟩
end Go.Proofs.YtinnifhnabncfaaGreatDoor.Vi
end
/-
  DERIVED: THE SHELF's CONTRACTS AT THIS DUMP, IN PLAIN WORDS (tools/lay-plain.mjs out of 'YtinnifhnabncfaaGreatDoorDoorLay0.lean', which tools/lay-shelf.mjs wrote): THE SAME DECLARATIONS UNDER THE SAME NAMES: 'import', 'namespace', 'open', 'def', 'theorem' AND NOTHING ELSE: no command of the shelf's: FOR A HAND-IN. Each laying: the table of numbers ('.._ren') and one theorem, a field a fact of the dump's own or the kernel's comparison; each contract: ONE APPLICATION.
-/
section
namespace Go.Proofs
open Go.Shelf
def Tryz.insLabel_ren : Go.Shelf.Ren := ⟨fun | 20 => 259 | n => n, fun | 24 => 215 | 22 => 168 | 3 => 3 | 25 => 254 | 4 => 4 | 0 => 0 | n => n, fun | n => n⟩
theorem Tryz.insLabel : Go.Proofs.SlLaysF0.n20 Tryz.prog Tryz.insLabel_ren := {
  mixed := by kernel_rfl
  f20 := ⟨Tryz.f259.name, by decide, Tryz.func259.trans (congrArg some (by kernel_rfl))⟩
  t0 := Tryz.underlying0
  a0 := Tryz.isAgg0
  z0 := Tryz.sizeOf0
  v0 := Tryz.zeroValue0
  t3 := Tryz.underlying3
  a3 := Tryz.isAgg3
  z3 := Tryz.sizeOf3
  v3 := Tryz.zeroValue3
  t4 := Tryz.underlying4
  a4 := Tryz.isAgg4
  z4 := Tryz.sizeOf4
  v4 := Tryz.zeroValue4
  t22 := Tryz.underlying168
  a22 := Tryz.isAgg168
  z22 := Tryz.sizeOf168
  v22 := Tryz.zeroValue168
  t25 := Tryz.underlying254
  a25 := Tryz.isAgg254
  z25 := Tryz.sizeOf254
  v25 := Tryz.zeroValue254 }
def Tryz.containsFuncDelta_ren : Go.Shelf.Ren := ⟨fun | 8 => 171 | 6 => 73 | n => n, fun | 22 => 24 | 23 => 86 | 25 => 109 | 4 => 4 | 3 => 3 | 0 => 0 | n => n, fun | n => n⟩
theorem Tryz.containsFuncDelta : Go.Proofs.SlLaysH0.n8 Tryz.prog Tryz.containsFuncDelta_ren := {
  mixed := by kernel_rfl
  f6 := ⟨Tryz.f73.name, by decide, Tryz.func73.trans (congrArg some (by kernel_rfl))⟩
  f8 := ⟨Tryz.f171.name, by decide, Tryz.func171.trans (congrArg some (by kernel_rfl))⟩
  t0 := Tryz.underlying0
  a0 := Tryz.isAgg0
  z0 := Tryz.sizeOf0
  v0 := Tryz.zeroValue0
  t3 := Tryz.underlying3
  a3 := Tryz.isAgg3
  z3 := Tryz.sizeOf3
  v3 := Tryz.zeroValue3
  t4 := Tryz.underlying4
  a4 := Tryz.isAgg4
  z4 := Tryz.sizeOf4
  v4 := Tryz.zeroValue4
  t22 := Tryz.underlying24
  a22 := Tryz.isAgg24
  z22 := Tryz.sizeOf24
  v22 := Tryz.zeroValue24
  t25 := Tryz.underlying109
  a25 := Tryz.isAgg109
  z25 := Tryz.sizeOf109
  v25 := Tryz.zeroValue109 }
def Tryz.indexFuncDelta_ren : Go.Shelf.Ren := ⟨fun | 6 => 73 | n => n, fun | 22 => 24 | 23 => 86 | 25 => 109 | 3 => 3 | 0 => 0 | 4 => 4 | n => n, fun | n => n⟩
theorem Tryz.indexFuncDelta : Go.Proofs.SlLaysH0.n6 Tryz.prog Tryz.indexFuncDelta_ren := {
  mixed := by kernel_rfl
  f6 := ⟨Tryz.f73.name, by decide, Tryz.func73.trans (congrArg some (by kernel_rfl))⟩
  t0 := Tryz.underlying0
  a0 := Tryz.isAgg0
  z0 := Tryz.sizeOf0
  v0 := Tryz.zeroValue0
  t3 := Tryz.underlying3
  a3 := Tryz.isAgg3
  z3 := Tryz.sizeOf3
  v3 := Tryz.zeroValue3
  t4 := Tryz.underlying4
  a4 := Tryz.isAgg4
  z4 := Tryz.sizeOf4
  v4 := Tryz.zeroValue4
  t22 := Tryz.underlying24
  a22 := Tryz.isAgg24
  z22 := Tryz.sizeOf24
  v22 := Tryz.zeroValue24
  t25 := Tryz.underlying109
  a25 := Tryz.isAgg109
  z25 := Tryz.sizeOf109
  v25 := Tryz.zeroValue109 }
def Tryz.equalDelta_ren : Go.Shelf.Ren := ⟨fun | 8 => 72 | n => n, fun | 22 => 24 | 24 => 86 | 4 => 4 | 3 => 3 | 0 => 0 | n => n, fun | n => n⟩
theorem Tryz.equalDelta : Go.Proofs.SlLaysQ.n8 Tryz.prog Tryz.equalDelta_ren := {
  mixed := by kernel_rfl
  f8 := ⟨Tryz.f72.name, by decide, Tryz.func72.trans (congrArg some (by kernel_rfl))⟩
  t0 := Tryz.underlying0
  a0 := Tryz.isAgg0
  z0 := Tryz.sizeOf0
  v0 := Tryz.zeroValue0
  t3 := Tryz.underlying3
  a3 := Tryz.isAgg3
  z3 := Tryz.sizeOf3
  v3 := Tryz.zeroValue3
  t4 := Tryz.underlying4
  a4 := Tryz.isAgg4
  z4 := Tryz.sizeOf4
  v4 := Tryz.zeroValue4
  t22 := Tryz.underlying24
  a22 := Tryz.isAgg24
  z22 := Tryz.sizeOf24
  v22 := Tryz.zeroValue24 }
end Go.Proofs
end
/- cmp.Compare at string; label.sorted$1; the sort of labels by insertion. -/
section
namespace Go.Proofs.YtinnifhnabncfaaGreatDoor.Vi
open Go.RowKit Base Mem Go.Sort Go.Shelf
structure LabD where
  name : ByteArray
  value : ByteArray
instance : Inhabited LabD := ⟨⟨⟨#[]⟩, ⟨#[]⟩⟩⟩
def labEnc (d : LabD) : List Value := [.string d.name, .string d.value]
def sLt (x y : ByteArray) : Bool := Op.bytesLess x.toList y.toList
def cmpS (x y : ByteArray) : Int := if sLt x y = true then -1 else if (!(sLt x y || x.toList == y.toList)) = true then 1 else 0
def cmpL (a b : LabD) : Int := cmpS a.name b.name
theorem nanStr (x : ByteArray) (w : World) : Calls Tryz.prog 192 #[.string x] w fun e w' => e = .returned (.bool false) ∧ w' = w := by
  go_enter Tryz.func192, Tryz.ntmps192
  go_wp2
  go_ret
  exact ⟨ret_bool (by simp), rfl⟩
theorem compStr (x y : ByteArray) (w : World) : Calls Tryz.prog 168 #[.string x, .string y] w fun e w' => e = .returned (.int .i64 (cmpS x y)) ∧ w' = w := by
  have hc := Lib.hid (fun x W => nanStr x W)
  have Hs : Hid (cmpS x y = if Op.bytesLess x.toList y.toList = true then -1 else if (!(Op.bytesLess x.toList y.toList || x.toList == y.toList)) = true then 1 else 0) := rfl
  by_cases h1 : Op.bytesLess x.toList y.toList = true
  · have hr : Hid (cmpS x y = -1) := by show _ = _; rw [Hs.out, if_pos h1]
    rw [hr.out]
    go_enter Tryz.func168, Tryz.ntmps168
    go_wp2_with (go_at_call 192; refine (hc.out _ _).mono ?_; rintro e w' ⟨rfl, rfl⟩)
    go_ret
    exact ⟨rfl, rfl⟩
  · have h1' : Op.bytesLess x.toList y.toList = false := by simpa using h1
    by_cases h2 : (x.toList == y.toList) = true
    · have hr : Hid (cmpS x y = 0) := by show _ = _; rw [Hs.out, if_neg h1, h1', h2]; rfl
      rw [hr.out]
      clear h1
      go_enter Tryz.func168, Tryz.ntmps168
      go_wp2_with (go_at_call 192; refine (hc.out _ _).mono ?_; rintro e w' ⟨rfl, rfl⟩)
      go_ret
      exact ⟨rfl, rfl⟩
    · have h2' : (x.toList == y.toList) = false := by simpa using h2
      have h2'' : ¬ x.toList = y.toList := by simpa using h2
      have hr : Hid (cmpS x y = 1) := by show _ = _; rw [Hs.out, if_neg h1, h1', h2']; rfl
      rw [hr.out]
      go_enter Tryz.func168, Tryz.ntmps168
      go_wp2_with (go_at_call 192; refine (hc.out _ _).mono ?_; rintro e w' ⟨rfl, rfl⟩)
      go_ret
      exact ⟨rfl, rfl⟩
theorem byName_any (a b : LabD) (w : World) : Calls Tryz.prog 231 #[.agg #[.string a.name, .string a.value], .agg #[.string b.name, .string b.value]] w fun e w' => e = .returned (.int .i64 (cmpL a b)) ∧ ∃ q os', w' = Sort.grow (w.drewN q) os' := by
  have hc := Lib.hid (fun x y W => compStr x y W)
  have hr : Hid (cmpL a b = cmpS a.name b.name) := rfl
  go_enter Tryz.func231, Tryz.ntmps231
  go_wp2_with fail
  refine (hc.out _ _ _).mono ?_
  rintro e w' ⟨rfl, rfl⟩
  go_wp2
  go_ret
  refine ⟨by rw [hr.out]; rfl, 0, #[.cells #[.string a.name, .string a.value] 215, .cells #[.string b.name, .string b.value] 215], ?_⟩
  simp only [Sort.alloc_eq_grow, Sort.grow_grow]
  rfl
theorem byName_lays (blk off size : Nat) (w : World) : CmpLays Tryz.prog 231 #[] labEnc 2 cmpL blk off size w := fun _ _ _ _ x y => byName_any x y _
/-- Labels by name, in the order of the sort. -/
def sortL (l : List LabD) : List LabD := (insertionSort (ltOf cmpL) l.toArray 0 l.length).toList
theorem ins_any (blk off cap : Nat) (l : List LabD) (w : World) (hH : HoldsK labEnc 2 w blk off l.toArray) (hblk : blk < w.heap.size) (hsz : l.length < 4611686018427387904) :
    Calls Tryz.prog 259 #[.slice (some ⟨blk, off, none⟩) l.length cap, .int .i64 0, .int .i64 l.length, .func (.func 231) #[] #[]] w fun e w' =>
      e = .returned (.tuple #[]) ∧ ∃ n os, w' = sortWorldK labEnc 2 w blk off n (sortL l).toArray os := by
  have eg : ∀ args w, (callFunc 231 args).run Tryz.prog w = .ok (.enter 231 args) w := enters_of Tryz.func231 (by kernel_rfl) rfl
  have h := AnyQ.insertionSortCmpFunc Tryz.insLabel 2 Tryz.isAgg215 Tryz.sizeOf215 labEnc (fun _ => rfl) (fun x v hv => by simp [labEnc] at hv; rcases hv with rfl | rfl <;> rfl) cmpL 231 #[] blk off cap 0 l.length l.toArray w eg (byName_lays blk off _ w) hH hblk (Nat.zero_le _) (by simp) (by simpa using hsz)
  simp only [List.size_toArray] at h
  exact h
end Go.Proofs.YtinnifhnabncfaaGreatDoor.Vi
end
/- Words for whole rows of things of k cells: a sorted row as a block (any element). -/
section
namespace Go.Proofs.YtinnifhnabncfaaGreatDoor.RowsK
open Go.RowKit Base Mem Go.Sort
variable {α : Type} [Inhabited α] (enc : α → List Value) (k : Nat) (hk : ∀ x, (enc x).length = k)
include hk
theorem flatK_list (h0 : 0 < k) (l : List α) : flatK enc k l.toArray = (l.flatMap enc).toArray := by
  refine ext_get! (by rw [size_flatK, List.size_toArray, List.size_toArray, flat_len enc k hk]) fun t ht => ?_
  have ht' : t < l.length * k := by simpa using ht
  have hdiv : t / k < l.length := Nat.div_lt_of_lt_mul (by rw [Nat.mul_comm]; exact ht')
  have hmod : t % k < k := Nat.mod_lt _ h0
  have hf := flat_at enc k hk l (t / k) (t % k) hdiv hmod
  rw [Nat.div_add_mod' t k] at hf
  have ht2 : t < (l.flatMap enc).length := by rw [flat_len enc k hk]; exact ht'
  have hm : t % k < (enc l[t / k]).length := by rw [hk]; exact hmod
  rw [List.getElem?_eq_getElem ht2, List.getElem?_eq_getElem hm] at hf
  injection hf with hf
  rw [get_flatK _ _ _ _ (by simpa using ht'), List.getElem!_toArray, List.getElem!_toArray, getElem!_pos (l.flatMap enc) t ht2, hf, getElem!_pos l (t / k) hdiv, getElem!_pos (enc l[t / k]) (t % k) hm]
theorem blk_holds (h0 : 0 < k) {w : World} {g : Nat} {t : TypeId} {l : List α} {rest : List Value} (h : Blk w g t (l.flatMap enc ++ rest).toArray) : HoldsK enc k w g 0 l.toArray := by
  intro j hj
  rw [flatK_list enc k hk h0] at hj ⊢
  have hj' : j < (l.flatMap enc).length := by simpa using hj
  rw [Nat.zero_add, h.cell, h.frozen]
  refine ⟨?_, rfl⟩
  rw [List.getElem?_toArray, List.getElem?_append_left hj', List.getElem!_toArray, getElem!_pos (l.flatMap enc) j hj', List.getElem?_eq_getElem hj']
  rfl
theorem blk_sorted (h0 : 0 < k) {w : World} {g : Nat} {t : TypeId} {l l' : List α} {rest : List Value} (h : Blk w g t (l.flatMap enc ++ rest).toArray) (hl : l'.length = l.length) (n : Nat) (os : Array Obj) :
    Blk (sortWorldK enc k w g 0 n l'.toArray os) g t (l'.flatMap enc ++ rest).toArray := by
  have hlt := h.lt
  unfold Blk at h ⊢
  have hp : (putRowK enc k (Sort.ahead w n) g 0 l'.toArray).heap[g]? = some (.cells (putCells id 0 (flatK enc k l'.toArray) (l.flatMap enc ++ rest).toArray) t (0, 0)) := by
    simp only [putRowK, putRow, mapBlock, Sort.ahead, Array.getElem?_modify, if_true, h, Option.map_some, onCells]
  have hs : g < (putRowK enc k (Sort.ahead w n) g 0 l'.toArray).heap.size := by simpa [putRowK, Sort.ahead] using hlt
  show ((putRowK enc k (Sort.ahead w n) g 0 l'.toArray).heap ++ os)[g]? = _
  rw [Array.getElem?_append_left hs, hp]
  congr 2
  rw [flatK_list enc k hk h0]
  have hz : l'.length * k = l.length * k := by rw [hl]
  have e1 := flat_len enc k hk l
  have e2 := flat_len enc k hk l'
  refine Array.ext_getElem? fun j => ?_
  simp only [putCells, Array.getElem?_mapIdx, List.getElem?_toArray, List.size_toArray, e2, Nat.zero_le, Nat.zero_add, Nat.sub_zero, true_and]
  by_cases hj : j < l'.length * k
  · have h1 : j < (l.flatMap enc).length := by rw [e1]; omega
    have h2 : j < (l'.flatMap enc).length := by rw [e2]; omega
    rw [List.getElem?_append_left h1, List.getElem?_append_left h2, List.getElem?_eq_getElem h1, List.getElem?_eq_getElem h2, Option.map_some, if_pos hj, List.getElem!_toArray, getElem!_pos (l'.flatMap enc) j h2]
    rfl
  · have h1 : (l.flatMap enc).length ≤ j := by rw [e1]; omega
    have h2 : (l'.flatMap enc).length ≤ j := by rw [e2]; omega
    rw [List.getElem?_append_right h1, List.getElem?_append_right h2, e1, e2, hz]
    simp only [if_neg (show ¬ j < l.length * k by omega)]
    exact Option.map_id'
omit hk in
theorem keeps_sorted (w : World) (g n : Nat) (d : Array α) (os : Array Obj) : Keeps [g] w (sortWorldK enc k w g 0 n d os) := by
  have hs : (putRowK enc k (Sort.ahead w n) g 0 d).heap.size = w.heap.size := by simp [putRowK, Sort.ahead]
  refine ⟨rfl, rfl, rfl, ?_, fun j hj hn => ?_⟩
  · show _ ≤ ((putRowK enc k (Sort.ahead w n) g 0 d).heap ++ os).size
    rw [Array.size_append, hs]; omega
  · show ((putRowK enc k (Sort.ahead w n) g 0 d).heap ++ os)[j]? = _
    rw [Array.getElem?_append_left (by omega)]
    have hne : g ≠ j := fun e => hn (by simp [e])
    simp [putRowK, putRow, mapBlock, Sort.ahead, Array.getElem?_modify, hne]
theorem own_blk {w : World} {base : Nat} {t : TypeId} {v : Value} {l : List α} (h : w.ownsRow base t k v l.length (l.flatMap enc)) (h0 : 0 < l.length) :
    ∃ g cap rest, v = .slice (some ⟨g, 0, none⟩) l.length cap ∧ base ≤ g ∧ l.length ≤ cap ∧ cap ≤ maxLen ∧ Blk w g t (l.flatMap enc ++ rest).toArray := by
  have _ := hk
  have _ : Inhabited α := inferInstance
  obtain ⟨_, h⟩ := h
  rcases h with ⟨_, hn⟩ | ⟨g, cap, cur, rfl, hb, hg, hnc, hcm, _, htk⟩
  · omega
  · refine ⟨g, cap, cur.toList.drop (l.length * k), rfl, hb, hnc, hcm, ?_⟩
    rw [← htk, List.take_append_drop]
    exact hg
omit [Inhabited α] in
theorem rd_of_blk {w : World} {t : TypeId} {g : Nat} {l : List α} {rest : List Value} {M : List Nat} (h : Blk w g t (l.flatMap enc ++ rest).toArray) (hg : g ∉ M) : Rd w M k (.slice (some ⟨g, 0, none⟩) l.length l.length) l.length (l.flatMap enc) :=
  ⟨_, _, rfl, Nat.le_refl _, flat_len enc k hk l, fun _ => ⟨g, 0, rfl, h.lt, hg, fun j u hu => by
    rw [Nat.zero_add, h.cell, List.getElem?_toArray, List.getElem?_append_left (List.getElem?_eq_some_iff.1 hu).1]; exact hu⟩⟩
end Go.Proofs.YtinnifhnabncfaaGreatDoor.RowsK
end
/- slices.SortStableFunc at labels (fewer than twenty); label.sorted. -/
section
namespace Go.Proofs.YtinnifhnabncfaaGreatDoor.Vi
open Go.RowKit Base Mem Go.Sort Go.Shelf
/-- v reads as these labels. -/
def Labs (w : World) (M : List Nat) (v : Value) (l : List LabD) : Prop := Rd w M 2 v l.length (l.flatMap labEnc)
theorem Labs.keep {w w' : World} {M M' : List Nat} {v : Value} {l : List LabD} (h : Labs w M v l) (k : Keeps M' w w') (hM : ∀ g ∈ M', g ∈ M ∨ w.heap.size ≤ g) : Labs w' M v l := Rd.keep h k hM
theorem Labs.len {w : World} {M : List Nat} {v : Value} {l : List LabD} (h : Labs w M v l) : ∃ A c, v = .slice A l.length c ∧ l.length ≤ c := by
  obtain ⟨A, c, rfl, hc, _⟩ := h
  exact ⟨A, c, rfl, hc⟩
theorem size_insInner (lt : LabD → LabD → Bool) (a : Nat) : ∀ (j : Nat) (d : Array LabD), (insInner lt a j d).size = d.size
  | 0, _ => rfl
  | j + 1, d => by
    unfold insInner
    split
    · rw [size_insInner lt a j]; simp [swp]
    · rfl
theorem size_insOuter (lt : LabD → LabD → Bool) (a b : Nat) : ∀ (n i : Nat) (d : Array LabD), b - i = n → (insOuter lt a b i d).size = d.size
  | 0, i, d, h => by unfold insOuter; rw [if_neg (by omega)]
  | n + 1, i, d, h => by
    unfold insOuter
    rw [if_pos (by omega), size_insOuter lt a b n (i + 1) _ (by omega), size_insInner]
theorem sortL_len (l : List LabD) : (sortL l).length = l.length := by
  unfold sortL insertionSort
  rw [Array.length_toList, size_insOuter _ _ _ _ _ _ rfl]
  simp
/-- What a sort of a row leaves. -/
def SoPost (g : Nat) (l : List LabD) (rest : List Value) (w : World) (e : Ending) (w' : World) : Prop :=
  e = .returned (.tuple #[]) ∧ Blk w' g 215 ((sortL l).flatMap labEnc ++ rest).toArray ∧ Keeps [g] w w'
theorem ins_blk (g cap : Nat) (l : List LabD) (rest : List Value) (w : World) (h : Blk w g 215 (l.flatMap labEnc ++ rest).toArray) (hsz : l.length < 4611686018427387904) :
    Calls Tryz.prog 259 #[.slice (some ⟨g, 0, none⟩) l.length cap, .int .i64 0, .int .i64 l.length, .func (.func 231) #[] #[]] w fun e w' => SoPost g l rest w e w' := by
  refine (ins_any g 0 cap l w (RowsK.blk_holds labEnc 2 (fun _ => rfl) (by omega) h) h.lt hsz).mono ?_
  rintro e w' ⟨rfl, n, os, rfl⟩
  exact ⟨rfl, RowsK.blk_sorted labEnc 2 (fun _ => rfl) (by omega) h (sortL_len l) n os, RowsK.keeps_sorted labEnc 2 w g n _ os⟩
set_option maxRecDepth 100000 in
theorem stable_any (g cap : Nat) (l : List LabD) (rest : List Value) (w : World) (h : Blk w g 215 (l.flatMap labEnc ++ rest).toArray) (hsz : l.length < 20) :
    Calls Tryz.prog 230 #[.slice (some ⟨g, 0, none⟩) l.length cap, .func (.func 231) #[] #[]] w fun e w' => SoPost g l rest w e w' := by
  have hi := Lib.hid (ins_blk g cap l rest w h (by omega))
  have hst : Hid (Calls Tryz.prog 251 #[.slice (some ⟨g, 0, none⟩) l.length cap, .int .i64 l.length, .func (.func 231) #[] #[]] w fun e w' => SoPost g l rest w e w') := by
    show Calls _ _ _ _ _
    have h1 : decide ((20 : Int) ≤ (l.length : Int)) = false := decide_eq_false (by omega)
    have h2 : decide ((20 : Int) < (l.length : Int)) = false := decide_eq_false (by omega)
    have h1' : ¬ (20 : Int) ≤ (l.length : Int) := by omega
    have h2' : ¬ (20 : Int) < (l.length : Int) := by omega
    clear h
    go_enter Tryz.func251, Tryz.ntmps251
    go_wp2_with fail
    go_loopw [7, 8] (fun a i wr => a = .int .i64 0 ∧ i = .int .i64 20 ∧ Hid (wr = w)) (fun _ i _ => 0)
    case atStart => exact ⟨rfl, rfl, rfl⟩
    case round =>
      obtain ⟨rfl, rfl, hww⟩ := hrel
      obtain rfl := hww.out
      go_wp2_with fail
      refine hi.out.mono ?_
      rintro e w' hp
      obtain ⟨rfl, hb, hk⟩ := id hp
      have Hp := Lib.hid hp
      clear hp hb hk
      go_wp2_with fail
      go_loopw [6] (fun i wr => i = .int .i64 20 ∧ Hid (wr = w')) (fun i _ => 0)
      case atStart => exact ⟨rfl, rfl⟩
      case round =>
        obtain ⟨rfl, hww⟩ := hrel
        obtain rfl := hww.out
        go_wp2
        go_end0
        exact Hp.out
  clear hi h
  go_enter Tryz.func230, Tryz.ntmps230
  go_wp2_with fail
  refine hst.out.mono ?_
  rintro e w' hp
  obtain ⟨rfl, hb, hk⟩ := id hp
  have Hp := Lib.hid hp
  clear hp hb hk
  go_wp2
  go_end0
  exact Hp.out
theorem ins_none (A : Option Addr) (cap : Nat) (w : World) :
    Calls Tryz.prog 230 #[.slice A 0 cap, .func (.func 231) #[] #[]] w fun e w' => e = .returned (.tuple #[]) ∧ w = w' := by
  have hi : Hid (∀ W, Calls Tryz.prog 259 #[.slice A 0 cap, .int .i64 0, .int .i64 0, .func (.func 231) #[] #[]] W fun e w' => e = .returned (.tuple #[]) ∧ W = w') := by
    show ∀ _, _
    intro W
    go_enter Tryz.func259, Tryz.ntmps259
    go_wp2_with fail
    go_loopw [8] (fun i wr => i = .int .i64 1 ∧ Hid (W = wr)) (fun i _ => 0)
    case atStart => exact ⟨rfl, rfl⟩
    case round =>
      obtain ⟨rfl, hww⟩ := hrel
      have Hw := hww
      go_wp2
      go_end0
      exact ⟨rfl, Hw.out⟩
  have hst : Hid (Calls Tryz.prog 251 #[.slice A 0 cap, .int .i64 0, .func (.func 231) #[] #[]] w fun e w' => e = .returned (.tuple #[]) ∧ w = w') := by
    show Calls _ _ _ _ _
    go_enter Tryz.func251, Tryz.ntmps251
    go_wp2_with fail
    go_loopw [7, 8] (fun a i wr => a = .int .i64 0 ∧ i = .int .i64 20 ∧ Hid (w = wr)) (fun _ i _ => 0)
    case atStart => exact ⟨rfl, rfl, rfl⟩
    case round =>
      obtain ⟨rfl, rfl, hww⟩ := hrel
      go_wp2_with fail
      refine (hi.out _).mono ?_
      rintro e w' ⟨rfl, rfl⟩
      go_wp2_with fail
      go_loopw [6] (fun i w2 => i = .int .i64 20 ∧ Hid (w = w2)) (fun i _ => 0)
      case atStart => exact ⟨rfl, hww.out⟩
      case round =>
        obtain ⟨rfl, hw2⟩ := hrel
        go_wp2
        go_end0
        exact ⟨rfl, hw2.out⟩
  clear hi
  go_enter Tryz.func230, Tryz.ntmps230
  go_wp2_with fail
  refine hst.out.mono ?_
  rintro e w' ⟨rfl, rfl⟩
  go_wp2
  go_end0
  exact ⟨rfl, rfl⟩
/-- What a call answers that makes labels. -/
def LabPost (l : List LabD) (w : World) (e : Ending) (w' : World) : Prop := ∃ A, e = .returned (.slice A l.length l.length) ∧ (∀ M, (∀ g ∈ M, g < w.heap.size) → Labs w' M (.slice A l.length l.length) l) ∧ Below w.heap.size w w'
theorem labEnc_one (l : List LabD) : ∀ u ∈ l.flatMap labEnc, u.oneCell' = true := by
  intro u hu
  obtain ⟨d, _, hd⟩ := List.mem_flatMap.1 hu
  simp [labEnc] at hd
  rcases hd with rfl | rfl <;> rfl
theorem sorted_any (v : Value) (l : List LabD) (w : World) (h : Labs w [] v l) (hl : l.length < 20) :
    Calls Tryz.prog 198 #[v] w fun e w' => LabPost (sortL l) w e w' := by
  have hc := Lib.hid (cloneLabel [] v l.length (l.flatMap labEnc) w h (labEnc_one l) (by omega))
  obtain ⟨A, c, rfl, hc2⟩ := h.len
  have Hnone := Lib.hid (fun A cap W => ins_none A cap W)
  clear h
  go_enter Tryz.func198, Tryz.ntmps198
  go_wp2_with fail
  refine hc.out.mono ?_
  rintro e w1 ⟨v1, rfl, hown, hb⟩
  have Hown := Lib.hid hown; have Hb := Lib.hid hb
  clear hown hb hc
  rcases Nat.eq_zero_or_pos l.length with h0 | h0
  · obtain rfl : l = [] := List.length_eq_zero_iff.1 h0
    obtain ⟨A1, c1, rfl⟩ : ∃ A c, v1 = .slice A 0 c := by
      obtain ⟨_, h⟩ := Hown.out
      rcases h with ⟨rfl, _⟩ | ⟨g, cap, cur, rfl, _⟩
      · exact ⟨_, _, rfl⟩
      · exact ⟨_, _, rfl⟩
    go_wp2_with fail
    refine (Hnone.out A1 c1 _).mono ?_
    rintro e w' ⟨rfl, rfl⟩
    go_wp2_with fail
    refine (clipLabel A1 0 c1 _ (by omega)).mono ?_
    rintro e w' ⟨rfl, rfl⟩
    have hs0 : sortL [] = [] := List.length_eq_zero_iff.1 (sortL_len [])
    have hp : Hid (LabPost (sortL []) w (.returned (.slice A1 0 0)) w1) := by
      show LabPost _ _ _ _
      rw [hs0]
      exact ⟨A1, rfl, fun M _ => ⟨A1, 0, rfl, Nat.le_refl _, rfl, fun h => absurd h (by simp)⟩, Hb.out⟩
    clear hs0
    go_wp2
    go_ret
    exact hp.out
  · obtain ⟨g, cap, rest, rfl, hg, hcap, hcm, hB⟩ := RowsK.own_blk labEnc 2 (fun _ => rfl) Hown.out h0
    have Hg := Lib.hid hg
    have hso := Lib.hid (stable_any g cap l rest w1 hB hl)
    clear hB hg
    go_wp2_with fail
    refine hso.out.mono ?_
    rintro e w2 ⟨rfl, hB2, hk2⟩
    have hp : Hid (LabPost (sortL l) w (.returned (.slice (some ⟨g, 0, none⟩) l.length l.length)) w2) := by
      refine ⟨some ⟨g, 0, none⟩, by rw [sortL_len], fun M hM => ?_, Hb.out.trans (hk2.belowB Hb.out.size (by intro x hx; simp at hx; subst hx; exact Hg.out))⟩
      exact RowsK.rd_of_blk labEnc 2 (fun _ => rfl) hB2 (fun hm => by have := hM _ hm; have := Hg.out; omega)
    clear hB2 hk2 hso
    go_wp2_with fail
    refine (clipLabel _ l.length cap _ hcap).mono ?_
    rintro e w' ⟨rfl, rfl⟩
    go_wp2
    go_ret
    exact hp.out
end Go.Proofs.YtinnifhnabncfaaGreatDoor.Vi
end
