/- Contract of varint.Get. -/
import Derived.Test.YtinnifhnabncfaaDoorVar2
import Derived.Test.YtinnifhnabncfaaDoorData
import Derived.Deep.DeepCutAuto
import Derived.Laws.BitsAllLaws
namespace Go.Proofs.YtinnifhnabncfaaDoor.Vi
open Go.RowKit Base Mem
/-- The number at the front, and its bytes; 0, 0: there is none. -/
def getF : Nat → Nat → List UInt8 → Nat × Nat
  | _, _, [] => (0, 0)
  | i, n, c :: r =>
    if 10 ≤ i then (0, 0)
    else if 18446744073709551616 ≤ c.toNat % 128 * 2 ^ (7 * i) then (0, 0)
    else if 128 ≤ c.toNat then getF (i + 1) (n + c.toNat % 128 * 2 ^ (7 * i)) r
    else if c.toNat = 0 ∧ 0 < i then (0, 0) else (n + c.toNat % 128 * 2 ^ (7 * i), i + 1)
theorem and127 : ∀ a : Fin 256, (a.val &&& 18446744073709551487) = a.val % 128 := by decide +kernel
theorem part_eq (c : Nat) (h : c < 256) : bits .andNot .u64 (c : Int) 128 = ((c % 128 : Nat) : Int) := by
  have := u64_andNot_nat c 128 (by omega) (by omega)
  rw [show (18446744073709551615 - 128 : Nat) = 18446744073709551487 from rfl, and127 ⟨c, h⟩] at this
  exact this
theorem or_eq (n p k : Nat) (hn : n < 2 ^ k) (hp : p * 2 ^ k < 18446744073709551616) (hn2 : n < 18446744073709551616) : bits .or .u64 (n : Int) ((p * 2 ^ k : Nat) : Int) = ((n + p * 2 ^ k : Nat) : Int) := by
  rw [u64_or_nat _ _ hn2 hp, Nat.or_comm, nat_join k (p * 2 ^ k) n (Nat.mul_mod_left _ _) hn, Nat.add_comm]
theorem cast_shl (p k : Nat) : (p : Int) * 2 ^ k = ((p * 2 ^ k : Nat) : Int) := by rw [Int.natCast_mul, Int.natCast_pow]; rfl
theorem shl_fit (p k : Nat) (h : p * 2 ^ k < 18446744073709551616) : IntKind.u64.wrap ((p : Int) * 2 ^ k) = ((p * 2 ^ k : Nat) : Int) := by
  rw [IntKind.wrap_u64, cast_shl]
  omega
theorem shr_fit (p k : Nat) : ((p * 2 ^ k : Nat) : Int) / 2 ^ k = (p : Int) := by
  rw [Int.natCast_mul, Int.natCast_pow]
  exact Int.mul_ediv_cancel _ (by exact_mod_cast Nat.ne_of_gt (Nat.two_pow_pos k))
theorem shl_lose (p k : Nat) (h : 18446744073709551616 ≤ p * 2 ^ k) : IntKind.u64.wrap ((p : Int) * 2 ^ k) / 2 ^ k ≠ (p : Int) := by
  intro he
  have hk : (0 : Nat) < 2 ^ k := Nat.two_pow_pos k
  rw [IntKind.wrap_u64, show ((p : Int) * 2 ^ k) = ((p * 2 ^ k : Nat) : Int) by rw [Int.natCast_mul, Int.natCast_pow]; rfl, show (18446744073709551616 : Int) = ((18446744073709551616 : Nat) : Int) from rfl, ← Int.natCast_emod, show ((2 : Int) ^ k) = ((2 ^ k : Nat) : Int) by rw [Int.natCast_pow]; rfl, ← Int.natCast_ediv] at he
  have he' : (p * 2 ^ k % 18446744073709551616) / 2 ^ k = p := by exact_mod_cast he
  have h1 : p * 2 ^ k % 18446744073709551616 < p * 2 ^ k := Nat.lt_of_lt_of_le (Nat.mod_lt _ (by omega)) h
  have h2 : (p * 2 ^ k % 18446744073709551616) / 2 ^ k < p := Nat.div_lt_of_lt_mul (by rw [Nat.mul_comm (2 ^ k) p]; exact h1)
  omega
def getL (l : List UInt8) : Nat × Nat := getF 0 0 l
set_option maxRecDepth 100000 in
theorem get_any (v : Value) (l : List UInt8) (w : World) (h : Bs w [] v l) (hl : l.length ≤ 4611686018427387904) :
    Calls Tryd.prog 68 #[v] w fun e w' => e = .returned (.tuple #[.int .u64 (getL l).1, .int .i64 (getL l).2]) ∧ ∃ q, w' = w.drewN q := by
  have H := Lib.hid h
  obtain ⟨A, c, rfl, hc⟩ := h.len
  clear h
  go_enter Tryd.func68, Tryd.ntmps68
  obtain ⟨m, hm⟩ : ∃ m, m = min l.length 10 := ⟨_, rfl⟩
  have hml : m ≤ l.length := by omega
  have hm10 : m ≤ 10 := by omega
  have Hm := Lib.hid hm
  go_upto_region 2 with (fail)
  go_cut [10, 11] (fun s t wx => s = .int .i64 m ∧ t = .int .i64 0 ∧ wx = w)
  case first =>
    by_cases h10 : l.length ≤ 10
    · obtain rfl : m = l.length := by omega
      clear hm Hm
      go_wp2_with fail
      all_goals go_meet
      all_goals first | exact ⟨rfl, rfl, rfl⟩ | (exfalso; omega)
    · obtain rfl : m = 10 := by omega
      clear hm Hm
      go_wp2_with fail
      all_goals go_meet
      all_goals first | exact ⟨rfl, rfl, rfl⟩ | (exfalso; omega)
  case rest =>
  obtain ⟨rfl, rfl, rfl⟩ := hcut
  clear hm
  go_wp2_with fail
  go_slots
  go_loopw [4, 11] (fun nn i wr => ∃ (x n q : Nat), nn = .int .u64 n ∧ i = .int .i64 x ∧ x ≤ m ∧ Hid (n < 2 ^ (7 * x)) ∧ Hid (getL l = getF x n (l.drop x)) ∧ wr = wc.drewN q) (fun _ i _ => m - (intOf i).toNat)
  case atStart => exact ⟨0, 0, 0, rfl, rfl, by omega, (show (0 : Nat) < 2 ^ (7 * 0) by omega), rfl, rfl⟩
  case round =>
    obtain ⟨x, n, q, rfl, rfl, hx, Hn, Hg, rfl⟩ := hrel
    by_cases hlm : x < m
    · have hlt : x < l.length := by omega
      obtain ⟨g, off, _, e1, _, hg, _, h1⟩ := Rd.at_ (fun b => [bV b]) 1 (fun _ => rfl) (xs := l) (show Rd (wc.drewN q) [] 1 (.slice A l.length c) l.length (l.flatMap fun b => [bV b]) by rw [← List.map_eq_flatMap]; exact H.out) hlt
      obtain rfl : A = some ⟨g, off, none⟩ := by injection e1
      clear e1
      have c0 := h1 0 _ rfl
      clear h1
      rw [Nat.mul_one, Nat.add_zero] at c0
      simp only [bV] at c0
      have hb := UInt8.toNat_lt (l[x])
      have hdrop : l.drop x = l[x] :: l.drop (x + 1) := List.drop_eq_getElem_cons hlt
      have Hst := Lib.hid (show getL l = (if 10 ≤ x then (0, 0)
        else if 18446744073709551616 ≤ l[x].toNat % 128 * 2 ^ (7 * x) then (0, 0)
        else if 128 ≤ l[x].toNat then getF (x + 1) (n + l[x].toNat % 128 * 2 ^ (7 * x)) (l.drop (x + 1))
        else if l[x].toNat = 0 ∧ 0 < x then (0, 0) else (n + l[x].toNat % 128 * 2 ^ (7 * x), x + 1)) by rw [Hg.out, hdrop]; rfl)
      generalize l[x].toNat = cb at *
      have hx1 : (x : Int) < (l.length : Int) := by omega
      have hx2 : (x : Int) < (m : Int) := by omega
      have hcb : (cb : Int) < 256 := by omega
      have hpe := part_eq cb (by omega)
      have hpl : cb % 128 < 128 := Nat.mod_lt _ (by omega)
      generalize cb % 128 = p at *
      have h7 : 7 * x = x * 7 := by omega
      rw [h7] at Hst Hn
      have h64 : (2 : Nat) ^ (x * 7) ≤ 2 ^ 63 := Nat.pow_le_pow_right (by omega) (by omega)
      have hn64 : n < 18446744073709551616 := Nat.lt_of_lt_of_le Hn.out (by omega)
      clear hdrop h7
      by_cases hbig : 18446744073709551616 ≤ p * 2 ^ (x * 7)
      · have hne := shl_lose p (x * 7) hbig
        have hbne : (IntKind.u64.wrap ((p : Int) * 2 ^ (x * 7)) / 2 ^ (x * 7) != (p : Int)) = true := by simpa using hne
        have hR : Hid (getL l = (0, 0)) := by show _ = _; rw [Hst.out, if_neg (by omega), if_pos hbig]
        clear hne hbig h64
        go_wp2
        go_ret2
        rw [hR.out]
        exact ⟨rfl, q, rfl⟩
      · have hs1 := shl_fit p (x * 7) (by omega)
        have hs2 := shr_fit p (x * 7)
        have hs3 := or_eq n p (x * 7) Hn.out (by omega) hn64
        have HT : Hid (getL l = (if 128 ≤ cb then getF (x + 1) (n + p * 2 ^ (x * 7)) (l.drop (x + 1)) else if cb = 0 ∧ 0 < x then (0, 0) else (n + p * 2 ^ (x * 7), x + 1))) := by show _ = _; rw [Hst.out, if_neg (by omega), if_neg hbig]
        have Hnn : Hid (n + p * 2 ^ (x * 7) < 2 ^ (7 * (x + 1))) := by
          show _ < _
          rw [show 7 * (x + 1) = x * 7 + 7 by omega, Nat.pow_add]
          have h1 := Hn.out
          have h2 : (p + 1) * 2 ^ (x * 7) ≤ 128 * 2 ^ (x * 7) := Nat.mul_le_mul_right _ (by omega)
          rw [Nat.add_mul] at h2
          have h3 : (2 : Nat) ^ 7 = 128 := rfl
          rw [h3, Nat.mul_comm _ 128]
          omega
        have Hfit := Lib.hid (show p * 2 ^ (x * 7) < 18446744073709551616 by omega)
        generalize hT : p * 2 ^ (x * 7) = T at hs1 hs2 hs3 HT Hnn Hfit
        clear hbig h64 Hst hT
        have hself : ((p : Int) != (p : Int)) = false := by simp
        by_cases hc128 : 128 ≤ cb
        · have hd : (128 : Int) ≤ (cb : Int) := by omega
          go_wp2
          go_roundw
          case rel => exact ⟨x + 1, n + T, q, rfl, by go_num, by omega, Hnn, by show _ = _; rw [HT.out, if_pos hc128], rfl⟩
          case measure => simp [intOf] <;> omega
        · have hd : (cb : Int) < 128 := by omega
          by_cases h0 : cb = 0 ∧ 0 < x
          · obtain ⟨h0, h1⟩ := h0
            have hR : Hid (getL l = (0, 0)) := by show _ = _; rw [HT.out, if_neg hc128, if_pos ⟨h0, h1⟩]
            have hcz : ((cb : Int) == 0) = true := by simp [h0]
            have hx0 : (0 : Int) < (x : Int) := by omega
            clear h0 HT
            go_wp2
            go_ret2
            rw [hR.out]
            exact ⟨rfl, q, rfl⟩
          · have hR : Hid (getL l = (n + T, x + 1)) := by show _ = _; rw [HT.out, if_neg hc128, if_neg h0]
            by_cases hz : cb = 0
            · have hcz : ((cb : Int) == 0) = true := by simp [hz]
              have hx0 : decide ((0 : Int) < (x : Int)) = false := decide_eq_false (by omega)
              have hx0' : ¬ 0 < x := by omega
              clear hz h0 HT
              go_wp2
              go_ret2
              rw [hR.out]
              exact ⟨by simp, q, rfl⟩
            · have hcz : ((cb : Int) == 0) = false := by simp; omega
              go_wp2
              go_ret2
              rw [hR.out]
              exact ⟨by simp, q, rfl⟩
    · obtain rfl : x = m := by omega
      have hR : Hid (getL l = (0, 0)) := by
        show _ = _
        rw [Hg.out]
        by_cases hl10 : l.length ≤ 10
        · rw [List.drop_eq_nil_of_le (by have := Hm.out; omega)]; rfl
        · have hm := Hm.out
          have hlt : x < l.length := by omega
          rw [List.drop_eq_getElem_cons hlt, getF, if_pos (by omega)]
      go_wp2
      go_ret2
      rw [hR.out]
      exact ⟨rfl, q, rfl⟩
end Go.Proofs.YtinnifhnabncfaaDoor.Vi
