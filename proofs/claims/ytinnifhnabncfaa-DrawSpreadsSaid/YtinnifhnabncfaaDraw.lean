/- The walks of package draw and of its reference: each returns what the plain functions of the text Spec say. -/
import Derived.Test.YtinnifhnabncfaaProg
import Derived.WalkKit
import Derived.Lib.Hide
import Derived.Handy
namespace Go.Proofs.Ytinnifhnabncfaa.Draw
open Go.RowKit

theorem ret_int {k : IntKind} {a b : Int} (h : a = b) : Ending.returned (.int k a) = .returned (.int k b) := by rw [h]
theorem ret_bool {a b : Bool} (h : a = b) : Ending.returned (.bool a) = .returned (.bool b) := by rw [h]

def nextS (s : Int) : Int := IntKind.u64.wrap (IntKind.u64.wrap (s * 6364136223846793005) + 1442695040888963407)
def inS (s n : Int) : Int := if 1 ≤ n ∧ n ≤ 2147483648 then (wrap64 (nextS s / 4294967296)).tmod n else 0
def backS (t a b : Int) : Int := if 1 ≤ a ∧ a ≤ b ∧ b ≤ 1099511627776 then min (a * 2 ^ t.toNat) b else 0
def waitS (s t a b : Int) : Int := if backS t a b = 0 then 0 else backS t a b + inS s (backS t a b / 2 + 1)

theorem inS_no {s n : Int} (h : ¬ (1 ≤ n ∧ n ≤ 2147483648)) : inS s n = 0 := if_neg h
theorem backS_no {t a b : Int} (h : ¬ (1 ≤ a ∧ a ≤ b ∧ b ≤ 1099511627776)) : backS t a b = 0 := if_neg h
theorem pow_up (a : Int) (k : Nat) : a * 2 ^ (k + 1) = a * 2 ^ k * 2 := by rw [Int.pow_succ, Int.mul_assoc]
theorem pow_le (a : Int) (h : 1 ≤ a) {k j : Nat} (hk : k ≤ j) : a * 2 ^ k ≤ a * 2 ^ j := by
  obtain ⟨d, rfl⟩ := Nat.le.dest hk
  clear hk
  induction d with
  | zero => simp
  | succ d ih => rw [← Nat.add_assoc, pow_up]; have : 0 ≤ a * 2 ^ (k + d) := Int.mul_nonneg (by omega) (by exact Int.pow_nonneg (by omega)); omega
theorem backS_pos {t a b : Int} (h : 1 ≤ a ∧ a ≤ b ∧ b ≤ 1099511627776) : 1 ≤ backS t a b ∧ backS t a b ≤ b := by
  unfold backS
  rw [if_pos h]
  have := pow_le a h.1 (Nat.zero_le t.toNat)
  simp at this
  omega

theorem next_any (s : Int) (w : World) :
    Calls Try.prog 18 #[.int .u64 s] w fun e w' => e = .returned (.int .u64 (nextS s)) ∧ w = w' := by
  go_enter Try.func18, Try.ntmps18
  go_wp2
  go_ret
  exact ⟨rfl, rfl⟩
theorem rnext_any (s : Int) (w : World) :
    Calls Try.prog 38 #[.int .u64 s] w fun e w' => e = .returned (.int .u64 (nextS s)) ∧ w = w' := by
  go_enter Try.func38, Try.ntmps38
  go_wp2
  go_ret
  exact ⟨rfl, rfl⟩
theorem in_any (s n : Int) (w : World) :
    Calls Try.prog 15 #[.int .u64 s, .int .i64 n] w fun e w' => e = .returned (.int .i64 (inS s n)) ∧ w = w' := by
  by_cases h : 1 ≤ n ∧ n ≤ 2147483648
  · have hi : inS s n = (wrap64 (nextS s / 4294967296)).tmod n := if_pos h
    have Hi := Lib.hid hi; clear hi
    go_enter Try.func15, Try.ntmps15
    go_wp2
    go_ret
    exact ⟨ret_int Hi.out.symm, rfl⟩
  · have Hi := Lib.hid (inS_no (s := s) h)
    have hd : n < 1 ∨ 2147483648 < n := by omega
    clear h
    rcases hd with hd | hd
    · go_enter Try.func15, Try.ntmps15
      go_wp2
      go_ret
      exact ⟨ret_int Hi.out.symm, rfl⟩
    · have : 1 ≤ n := by omega
      go_enter Try.func15, Try.ntmps15
      go_wp2
      go_ret
      exact ⟨ret_int Hi.out.symm, rfl⟩
theorem rin_any (s n : Int) (w : World) :
    Calls Try.prog 39 #[.int .u64 s, .int .i64 n] w fun e w' => e = .returned (.int .i64 (inS s n)) ∧ w = w' := by
  by_cases h : 1 ≤ n ∧ n ≤ 2147483648
  · have hi : inS s n = (wrap64 (nextS s / 4294967296)).tmod n := if_pos h
    have Hi := Lib.hid hi; clear hi
    go_enter Try.func39, Try.ntmps39
    go_wp2
    go_ret
    exact ⟨ret_int Hi.out.symm, rfl⟩
  · have Hi := Lib.hid (inS_no (s := s) h)
    have hd : n < 1 ∨ 2147483648 < n := by omega
    clear h
    rcases hd with hd | hd
    · go_enter Try.func39, Try.ntmps39
      go_wp2
      go_ret
      exact ⟨ret_int Hi.out.symm, rfl⟩
    · have : 1 ≤ n := by omega
      go_enter Try.func39, Try.ntmps39
      go_wp2
      go_ret
      exact ⟨ret_int Hi.out.symm, rfl⟩
theorem back_no (f : Nat) (hf : f = 17 ∨ f = 40) (t a b : Int) (w : World) (h : ¬ (1 ≤ a ∧ a ≤ b ∧ b ≤ 1099511627776)) :
    Calls Try.prog f #[.int .i64 t, .int .i64 a, .int .i64 b] w fun e w' => e = .returned (.int .i64 (backS t a b)) ∧ w = w' := by
  have Hi := Lib.hid (backS_no (t := t) h)
  have hd : a < 1 ∨ (1 ≤ a ∧ b < a) ∨ (1 ≤ a ∧ a ≤ b ∧ 1099511627776 < b) := by omega
  clear h
  rcases hf with rfl | rfl
  · rcases hd with h1 | ⟨h1, h2⟩ | ⟨h1, h2, h3⟩
    all_goals
      go_enter Try.func17, Try.ntmps17
      go_wp2
      go_ret
      exact ⟨ret_int Hi.out.symm, rfl⟩
  · rcases hd with h1 | ⟨h1, h2⟩ | ⟨h1, h2, h3⟩
    all_goals
      go_enter Try.func40, Try.ntmps40
      go_wp2
      go_ret
      exact ⟨ret_int Hi.out.symm, rfl⟩
theorem back_end {t a b x : Int} {k : Nat} (h : 1 ≤ a ∧ a ≤ b ∧ b ≤ 1099511627776) (hx : x = a * 2 ^ k) (hk : (k : Int) ≤ max t 0) (hend : t ≤ k ∨ b ≤ x) : min x b = backS t a b := by
  unfold backS
  rw [if_pos h]
  rcases hend with he | he
  · have : t.toNat = k := by omega
    rw [this, hx]
  · have := pow_le a h.1 (show k ≤ t.toNat by omega)
    omega
theorem back_yes (t a b : Int) (w : World) (h1 : 1 ≤ a) (h2 : a ≤ b) (h3 : b ≤ 1099511627776) (ht : t ≤ 9223372036854775807) :
    Calls Try.prog 17 #[.int .i64 t, .int .i64 a, .int .i64 b] w fun e w' => e = .returned (.int .i64 (backS t a b)) ∧ w = w' := by
  go_enter Try.func17, Try.ntmps17
  go_wp2
  go_loop [7, 8] (fun x i => ∃ (k : Nat) (y : Int), x = .int .i64 y ∧ i = .int .i64 k ∧ Hid (y = a * 2 ^ k) ∧ 1 ≤ y ∧ y < 2 * b ∧ (k : Int) ≤ max t 0) (fun _ i => t.toNat - (intOf i).toNat)
  case atStart => exact ⟨0, a, rfl, rfl, by show _ = _; simp, h1, by omega, by omega⟩
  case round =>
    obtain ⟨k, y, rfl, rfl, Hy, hy1, hy2, hk⟩ := hrel
    by_cases c1 : (k : Int) < t
    · by_cases c2 : y < b
      · go_wp2
        go_round
        case rel => exact ⟨k + 1, y * 2, rfl, by go_num, by show _ = _; rw [pow_up, Hy.out], by omega, by omega, by omega⟩
        case measure => simp [intOf]; omega
      · have He := Lib.hid (back_end ⟨h1, h2, h3⟩ Hy.out hk (.inr (by omega)))
        go_wp2
        all_goals
          go_ret
          exact ⟨ret_int (by have := He.out; omega), rfl⟩
    · have He := Lib.hid (back_end ⟨h1, h2, h3⟩ Hy.out hk (.inl (by omega)))
      go_wp2
      all_goals
        go_ret
        exact ⟨ret_int (by have := He.out; omega), rfl⟩
theorem rback_yes (t a b : Int) (w : World) (h1 : 1 ≤ a) (h2 : a ≤ b) (h3 : b ≤ 1099511627776) (ht : t ≤ 9223372036854775807) :
    Calls Try.prog 40 #[.int .i64 t, .int .i64 a, .int .i64 b] w fun e w' => e = .returned (.int .i64 (backS t a b)) ∧ w = w' := by
  go_enter Try.func40, Try.ntmps40
  go_wp2
  go_loop [7, 8] (fun x i => ∃ (k : Nat) (y : Int), x = .int .i64 y ∧ i = .int .i64 k ∧ Hid (y = min (a * 2 ^ k) b) ∧ 1 ≤ y ∧ y ≤ b ∧ (k : Int) ≤ max t 0) (fun _ i => t.toNat - (intOf i).toNat)
  case atStart => exact ⟨0, a, rfl, rfl, by show _ = _; simp; omega, h1, by omega, by omega⟩
  case round =>
    obtain ⟨k, y, rfl, rfl, Hy, hy1, hy2, hk⟩ := hrel
    by_cases c1 : (k : Int) < t
    · by_cases c2 : y < b
      · have Hz : Hid (min (2 * y) b = min (a * 2 ^ (k + 1)) b) := by
          have := Hy.out
          show _ = _
          rw [pow_up]; omega
        go_wp2
        go_round
        case rel => exact ⟨k + 1, _, rfl, by go_num, (by have := Hz.out; show _ = _; split <;> omega), by split <;> omega, by split <;> omega, by omega⟩
        case measure => simp [intOf]; omega
      · have He : Hid (y = backS t a b) := by
          have h4 := back_end ⟨h1, h2, h3⟩ (x := a * 2 ^ k) rfl hk (.inr (by have := Hy.out; omega))
          have := Hy.out; show _ = _; omega
        go_wp2
        go_ret
        exact ⟨ret_int He.out, rfl⟩
    · have He : Hid (y = backS t a b) := by
          have h4 := back_end ⟨h1, h2, h3⟩ (x := a * 2 ^ k) rfl hk (.inl (by omega))
          have := Hy.out; show _ = _; omega
      go_wp2
      go_ret
      exact ⟨ret_int He.out, rfl⟩
theorem back_any (t a b : Int) (w : World) (ht : t ≤ 9223372036854775807) :
    Calls Try.prog 17 #[.int .i64 t, .int .i64 a, .int .i64 b] w fun e w' => e = .returned (.int .i64 (backS t a b)) ∧ w = w' := by
  by_cases h : 1 ≤ a ∧ a ≤ b ∧ b ≤ 1099511627776
  · exact back_yes t a b w h.1 h.2.1 h.2.2 ht
  · exact back_no _ (.inl rfl) t a b w h
theorem rback_any (t a b : Int) (w : World) (ht : t ≤ 9223372036854775807) :
    Calls Try.prog 40 #[.int .i64 t, .int .i64 a, .int .i64 b] w fun e w' => e = .returned (.int .i64 (backS t a b)) ∧ w = w' := by
  by_cases h : 1 ≤ a ∧ a ≤ b ∧ b ≤ 1099511627776
  · exact rback_yes t a b w h.1 h.2.1 h.2.2 ht
  · exact back_no _ (.inr rfl) t a b w h
theorem inS_bd (s n : Int) (h : 1 ≤ n) : 0 ≤ inS s n ∧ inS s n < n := by
  unfold inS
  split
  · have h0 : 0 ≤ wrap64 (nextS s / 4294967296) := by
      have := IntKind.wrap_u64 (IntKind.u64.wrap (s * 6364136223846793005) + 1442695040888963407)
      unfold nextS
      rw [this]
      unfold wrap64
      omega
    rw [Int.tmod_eq_emod_of_nonneg h0]
    exact ⟨Int.emod_nonneg _ (by omega), Int.emod_lt_of_pos _ (by omega)⟩
  · omega
theorem back_cases (t a b : Int) : (backS t a b = 0) ∨ (1 ≤ backS t a b ∧ backS t a b ≤ 1099511627776) := by
  by_cases h : 1 ≤ a ∧ a ≤ b ∧ b ≤ 1099511627776
  · have := backS_pos (t := t) h; omega
  · exact .inl (backS_no h)
theorem wait_any (s t a b : Int) (w : World) (ht : t ≤ 9223372036854775807) :
    Calls Try.prog 16 #[.int .u64 s, .int .i64 t, .int .i64 a, .int .i64 b] w fun e w' => e = .returned (.int .i64 (waitS s t a b)) ∧ w = w' := by
  have hback := Lib.hid (back_any t a b w ht)
  have hw : Hid (waitS s t a b = if backS t a b = 0 then 0 else backS t a b + inS s (backS t a b / 2 + 1)) := rfl
  have hc := back_cases t a b
  generalize backS t a b = y at *
  rcases hc with h | ⟨h1, h2⟩
  · obtain rfl := h
    go_enter Try.func16, Try.ntmps16
    go_wp2_with (first | (go_at_call 17; refine hback.out.mono ?_; rintro e w' ⟨rfl, rfl⟩))
    go_ret
    exact ⟨ret_int (by rw [hw.out]; rfl), rfl⟩
  · have hb := inS_bd s (y / 2 + 1) (by omega)
    have hin := Lib.hid (in_any s (y / 2 + 1) w)
    have hw2 : Hid (waitS s t a b = y + inS s (y / 2 + 1)) := by have := hw.out; show _ = _; rw [this, if_neg (by omega)]
    clear hw
    generalize inS s (y / 2 + 1) = z at *
    go_enter Try.func16, Try.ntmps16
    go_wp2_with (first | (go_at_call 17; refine hback.out.mono ?_; rintro e w' ⟨rfl, rfl⟩) | (go_at_call 15; refine hin.out.mono ?_; rintro e w' ⟨rfl, rfl⟩))
    go_ret
    exact ⟨ret_int (by rw [hw2.out]), rfl⟩
theorem rwait_any (s t a b : Int) (w : World) (ht : t ≤ 9223372036854775807) :
    Calls Try.prog 41 #[.int .u64 s, .int .i64 t, .int .i64 a, .int .i64 b] w fun e w' => e = .returned (.int .i64 (waitS s t a b)) ∧ w = w' := by
  have hback := Lib.hid (rback_any t a b w ht)
  have hw : Hid (waitS s t a b = if backS t a b = 0 then 0 else backS t a b + inS s (backS t a b / 2 + 1)) := rfl
  have hc := back_cases t a b
  generalize backS t a b = y at *
  rcases hc with h | ⟨h1, h2⟩
  · obtain rfl := h
    go_enter Try.func41, Try.ntmps41
    go_wp2_with (first | (go_at_call 40; refine hback.out.mono ?_; rintro e w' ⟨rfl, rfl⟩))
    go_ret
    exact ⟨ret_int (by rw [hw.out]; rfl), rfl⟩
  · have hb := inS_bd s (y / 2 + 1) (by omega)
    have hin := Lib.hid (rin_any s (y / 2 + 1) w)
    have hw2 : Hid (waitS s t a b = y + inS s (y / 2 + 1)) := by have := hw.out; show _ = _; rw [this, if_neg (by omega)]
    clear hw
    generalize inS s (y / 2 + 1) = z at *
    go_enter Try.func41, Try.ntmps41
    go_wp2_with (first | (go_at_call 40; refine hback.out.mono ?_; rintro e w' ⟨rfl, rfl⟩) | (go_at_call 39; refine hin.out.mono ?_; rintro e w' ⟨rfl, rfl⟩))
    go_ret
    exact ⟨ret_int (by rw [hw2.out]), rfl⟩
end Go.Proofs.Ytinnifhnabncfaa.Draw
