/- Contract of varint.Cut. -/
import Derived.Test.YtinnifhnabncfaaDoorVar3
import Derived.Laws.BytesArg
namespace Go.Proofs.YtinnifhnabncfaaDoor.Vi
open Go.RowKit Base Mem
theorem pow_room (p k : Nat) (hk : k ≤ 63) (h : p * 2 ^ k < 18446744073709551616) : (p + 1) * 2 ^ k ≤ 18446744073709551616 := by
  have h1 : (18446744073709551616 : Nat) = 2 ^ (64 - k) * 2 ^ k := by rw [← Nat.pow_add, Nat.sub_add_cancel (by omega)]
  rw [h1] at h ⊢
  exact Nat.mul_le_mul_right _ (Nat.lt_of_mul_lt_mul_right h)
theorem getF_le : ∀ (l : List UInt8) (i n : Nat), n < 2 ^ (7 * i) → n < 18446744073709551616 → ((getF i n l).2 = 0 ∧ (getF i n l).1 = 0 ∨ (i < (getF i n l).2 ∧ (getF i n l).2 ≤ i + l.length)) ∧ (getF i n l).1 < 18446744073709551616
  | [], i, n, _, _ => by simp [getF]
  | c :: r, i, n, h1, h2 => by
    rw [getF]
    by_cases h10 : 10 ≤ i
    · rw [if_pos h10]; simp
    rw [if_neg h10]
    by_cases hb : 18446744073709551616 ≤ c.toNat % 128 * 2 ^ (7 * i)
    · rw [if_pos hb]; simp
    rw [if_neg hb]
    have hp := pow_room (c.toNat % 128) (7 * i) (by omega) (by omega)
    rw [Nat.add_mul, Nat.one_mul] at hp
    have hn : n + c.toNat % 128 * 2 ^ (7 * i) < 18446744073709551616 := by omega
    have hn2 : n + c.toNat % 128 * 2 ^ (7 * i) < 2 ^ (7 * (i + 1)) := by
      rw [show 7 * (i + 1) = 7 * i + 7 by omega, Nat.pow_add]
      have h3 : (c.toNat % 128 + 1) * 2 ^ (7 * i) ≤ 128 * 2 ^ (7 * i) := Nat.mul_le_mul_right _ (by omega)
      rw [Nat.add_mul] at h3
      have h4 : (2 : Nat) ^ 7 = 128 := rfl
      rw [h4, Nat.mul_comm _ 128]
      omega
    by_cases hc : 128 ≤ c.toNat
    · rw [if_pos hc]
      obtain ⟨h5, h6⟩ := getF_le r (i + 1) _ hn2 hn
      refine ⟨?_, h6⟩
      rw [List.length_cons]
      omega
    rw [if_neg hc]
    by_cases hz : c.toNat = 0 ∧ 0 < i
    · rw [if_pos hz]; simp
    · rw [if_neg hz]
      refine ⟨.inr ⟨by simp, by simp⟩, hn⟩
set_option maxRecDepth 100000 in
theorem getL_le (l : List UInt8) : (getL l).2 ≤ l.length ∧ (getL l).1 < 18446744073709551616 := by
  have := getF_le l 0 0 (by decide) (by decide)
  unfold getL
  omega
/-- The text at the front, and its bytes. -/
def cutL (l : List UInt8) : List UInt8 × Nat :=
  if (getL l).2 = 0 ∨ l.length - (getL l).2 < (getL l).1 then ([], 0) else ((l.drop (getL l).2).take (getL l).1, (getL l).2 + (getL l).1)
set_option maxRecDepth 100000 in
theorem conv_bytes {w : World} {M : List Nat} {A : Option Addr} {l : List UInt8} {c : Nat} (h : Bs w M (.slice A l.length c) l) :
    (convert 32 9 (.slice A l.length c)).run Tryd.prog w = .ok (.string ⟨l.toArray⟩) w := by
  obtain ⟨A', c', he, _, _, hr⟩ := h
  injection he with h1 h2 h3
  subst h1
  by_cases h0 : 0 < l.length
  · obtain ⟨g, off, rfl, _, _, hx⟩ := hr h0
    have := run_convert_bytes_arg (P := Tryd.prog) w 32 5 Tryd.underlying32 Tryd.underlying5 g off l.length c (l.map fun b => (b.toNat : Int)) (by simp) (fun i hi => by
      rw [hx i (bV l[i]) (by simp [hi])]
      simp [bV, List.getD, hi]) 9 Tryd.underlying9
    rw [this]
    congr 3
    simp only [strOfNums, List.map_map]
    congr 1
    rw [show (fun n : Int => UInt8.ofNat n.toNat) ∘ (fun b : UInt8 => (b.toNat : Int)) = id from by funext b; simp]
    simp
  · obtain rfl : l = [] := List.length_eq_zero_iff.1 (by omega)
    rw [run_convert_bytes_string w _ _ 5 _ _ c Tryd.underlying32 Tryd.underlying5 Tryd.underlying9]
    cases A <;> simp [Conv.bytesToString, loadCells]
    all_goals rfl
/-- A part of bytes. -/
theorem Bs.part {w : World} {M : List Nat} {g off c : Nat} {l : List UInt8} (h : Bs w M (.slice (some ⟨g, off, none⟩) l.length c) l) (k n : Nat) (hk : k + n ≤ l.length) (c' : Nat) (hc : n ≤ c') (a : Option Addr) (ha : 0 < n → a = some ⟨g, off + k, none⟩) :
    Bs w M (.slice a ((l.drop k).take n).length c') ((l.drop k).take n) := by
  obtain ⟨A', c'', he, _, _, hr⟩ := h
  injection he with h1 h2 h3
  subst h1
  have hlen : ((l.drop k).take n).length = n := by rw [List.length_take, List.length_drop]; omega
  refine ⟨a, c', rfl, by omega, by simp, fun hn => ?_⟩
  obtain ⟨g', off', e, hg, hm, hx⟩ := hr (by omega)
  injection e with e
  injection e with e1 e2 _
  subst e1 e2
  refine ⟨g, off + k, ha (by omega), hg, hm, fun j u hu => ?_⟩
  have hj : j < n := by have := (List.getElem?_eq_some_iff.1 hu).1; rw [List.length_map, hlen] at this; exact this
  rw [Nat.add_assoc]
  refine hx (k + j) u ?_
  rw [List.getElem?_map] at hu ⊢
  rw [List.getElem?_take_of_lt hj, List.getElem?_drop] at hu
  exact hu
set_option maxRecDepth 100000 in
theorem cut_any (v : Value) (l : List UInt8) (w : World) (h : Bs w [] v l) (hl : l.length ≤ 4611686018427387904) :
    Calls Tryd.prog 54 #[v] w fun e w' => e = .returned (.tuple #[.string ⟨(cutL l).1.toArray⟩, .int .i64 (cutL l).2]) ∧ ∃ q, w' = w.drewN q := by
  have hg := Lib.hid (get_any v l w h hl)
  obtain ⟨A, c, rfl, hc⟩ := h.len
  have H := Lib.hid h
  obtain ⟨hk, hn⟩ := getL_le l
  have HC := Lib.hid (show cutL l = (if (getL l).2 = 0 ∨ l.length - (getL l).2 < (getL l).1 then ([], 0) else ((l.drop (getL l).2).take (getL l).1, (getL l).2 + (getL l).1)) from rfl)
  clear h
  generalize (getL l).1 = n at *
  generalize (getL l).2 = k at *
  go_enter Tryd.func54, Tryd.ntmps54
  go_wp2_with fail
  refine hg.out.mono ?_
  rintro e w1 ⟨rfl, q, rfl⟩
  by_cases hk0 : k = 0
  · have hR : Hid (cutL l = ([], 0)) := by show _ = _; rw [HC.out, if_pos (.inl hk0)]
    subst hk0
    clear hg HC
    go_wp2
    go_ret2
    rw [hR.out]
    exact ⟨rfl, q, rfl⟩
  · have hkz : ((k : Int) == 0) = false := by simpa using hk0
    by_cases hgt : l.length - k < n
    · have hR : Hid (cutL l = ([], 0)) := by show _ = _; rw [HC.out, if_pos (.inr hgt)]
      have hgi : (l.length : Int) - (k : Int) < (n : Int) := by omega
      have hgj : (0 : Int) ≤ (l.length : Int) - (k : Int) := by omega
      clear hg HC
      go_wp2
      go_ret2
      rw [hR.out]
      exact ⟨rfl, q, rfl⟩
    · have hR : Hid (cutL l = ((l.drop k).take n, k + n)) := by show _ = _; rw [HC.out, if_neg (by omega)]
      have hgi : decide ((l.length : Int) - (k : Int) < (n : Int)) = false := decide_eq_false (by omega)
      have hgj : (0 : Int) ≤ (l.length : Int) - (k : Int) := by omega
      have hkn : (k : Int) + (n : Int) ≤ (l.length : Int) := by omega
      clear hg HC
      have hl0 : 0 < l.length := by omega
      obtain ⟨g, off, rfl⟩ : ∃ g off, A = some ⟨g, off, none⟩ := by
        obtain ⟨A', c', he, _, _, hr⟩ := H.out
        injection he with h1 h2 h3
        subst h1
        obtain ⟨g, off, e, _⟩ := hr hl0
        exact ⟨g, off, e⟩
      by_cases hck : c = k
      · obtain rfl : n = 0 := by omega
        have hp : Bs (w.drewN q) [] (.slice (some ⟨g, off, none⟩) ([] : List UInt8).length 0) [] := ⟨_, 0, rfl, Nat.le_refl _, rfl, fun h => absurd h (by simp)⟩
        have hcv := conv_bytes hp
        rw [List.length_nil] at hcv
        rw [List.take_zero] at hR
        clear hp
        go_wp2
        go_ret2
        rw [hR.out]
        exact ⟨by simp, q, rfl⟩
      · have hp := (H.out.keep (M' := []) ((Keeps.refl [] w).drewN q) (by simp)).part k n (by omega) (c - k) (by omega) (some ⟨g, off + k, none⟩) (fun _ => rfl)
        have hlen : ((l.drop k).take n).length = n := by rw [List.length_take, List.length_drop]; omega
        have hcv := conv_bytes hp
        rw [hlen] at hcv
        clear hp hlen
        go_wp2
        go_ret2
        rw [hR.out]
        exact ⟨by simp, q, rfl⟩
end Go.Proofs.YtinnifhnabncfaaDoor.Vi
