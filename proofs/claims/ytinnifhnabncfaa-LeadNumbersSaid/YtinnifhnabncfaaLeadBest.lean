/- The walk of LeadBest. -/
import Derived.Test.YtinnifhnabncfaaLeadTwice
import Derived.Test.YtinnifhnabncfaaTape4
namespace Go.Proofs.Ytinnifhnabncfaa.Lead
open Go.RowKit Base Mem Tape
/-- The vote behind i promises, of the nodes 0 to i - 1; the highest term that was told, the length of its row. -/
structure Bs (k : Int) (i : Nat) (had : Int) (most : Nat) (s : VoteD) : Prop where
  nodes : s.nodes = k
  n : s.n = i
  prom : s.prom = List.replicate i true ++ List.replicate (8 - i) false
  small : Small s.best
  st : (i = 0 ∧ had = -1 ∧ most = 0) ∨ (0 < i ∧ s.had = had ∧ s.best.length = most)
theorem prom_get {i : Nat} (hi : i < 8) : (List.replicate i true ++ List.replicate (8 - i) false).getD i false = false ∧ (List.replicate i true ++ List.replicate (8 - i) false).set i true = List.replicate (i + 1) true ++ List.replicate (8 - (i + 1)) false := by
  rcases (show i = 0 ∨ i = 1 ∨ i = 2 ∨ i = 3 ∨ i = 4 ∨ i = 5 ∨ i = 6 ∨ i = 7 by omega) with rfl | rfl | rfl | rfl | rfl | rfl | rfl | rfl <;> exact ⟨rfl, rfl⟩
theorem Bs.step {k : Int} {i : Nat} {had : Int} {most : Nat} {s : VoteD} (h : Bs k i had most s) (h8 : k ≤ 8) (hi : (i : Int) ≤ k / 2) (hk : (i : Int) < k) (t : Int) (l : List EntryD) (hl : Small l) (ht : 0 ≤ t) :
    promiseS s i t l = (decide ((i : Int) + 1 = k / 2 + 1), (promiseS s i t l).2) ∧
      (had < t ∨ (t = had ∧ most < l.length) → Bs k (i + 1) t l.length (promiseS s i t l).2) ∧
      (t < had ∨ (t = had ∧ l.length ≤ most) → Bs k (i + 1) had most (promiseS s i t l).2) := by
  obtain ⟨hn, hnn, hp, hsm, hs⟩ := h
  have hi8 : i < 8 := by omega
  obtain ⟨g1, g2⟩ := prom_get hi8
  have hc : (0 : Int) ≤ (i : Int) ∧ (i : Int) < s.nodes ∧ s.prom.getD ((i : Int).toNat) false = false := by
    rw [hp, Int.toNat_natCast, hn]; exact ⟨by omega, hk, g1⟩
  have hw : wonS s = false := by unfold wonS; rw [hn, hnn]; simp; omega
  have hw2 : wonS (taken s i) = decide ((i : Int) + 1 = k / 2 + 1) := by
    unfold wonS taken; simp only []; rw [hn, hnn, decide_eq_decide]; omega
  have hpr : promiseS s i t l = if better s t l then (wonS (taken s i), { taken s i with had := t, best := l }) else (wonS (taken s i), taken s i) := by
    unfold promiseS; rw [if_pos hc, hw, Int.toNat_natCast]; rfl
  have hb : better s t l = decide (s.n = 0 ∨ s.had < t ∨ t = s.had ∧ s.best.length < l.length) := rfl
  refine ⟨?_, ?_, ?_⟩
  · rw [hpr]; split <;> simp only [hw2]
  · intro hc
    have hbt : better s t l = true := by rw [hb]; simp only [decide_eq_true_eq]; rcases hs with ⟨h0, _, _⟩ | ⟨h0, h1, h2⟩ <;> omega
    rw [hpr, if_pos hbt]
    exact ⟨hn, by simp only [taken]; omega, by simp only [taken]; rw [hp]; exact g2, hl, .inr ⟨by omega, rfl, rfl⟩⟩
  · intro hc
    have hbt : ¬ (better s t l = true) := by rw [hb]; simp only [decide_eq_true_eq]; rcases hs with ⟨h0, _, _⟩ | ⟨h0, h1, h2⟩ <;> omega
    rw [hpr, if_neg hbt]
    refine ⟨hn, by simp only [taken]; omega, by simp only [taken]; rw [hp]; exact g2, hsm, .inr ⟨by omega, ?_⟩⟩
    rcases hs with ⟨h0, _, _⟩ | ⟨h0, h1, h2⟩
    · omega
    · exact ⟨h1, h2⟩
theorem ok_small {l : List EntryD} (h : ∀ e ∈ l, EntryOk e) (hl : l.length ≤ 1048576) : Small l := by
  refine ⟨hl, fun e he => ?_⟩
  obtain ⟨_, _, _, _, h | h⟩ := h e he
  · rw [h.2.2.2.2.2.2]; simp
  · have := h.2.2.2.2.2.2.2.2.2.2.2.1; omega
def BsR (w wr : World) (k : Int) (i : Nat) (had : Int) (most : Nat) (bv bt : Nat) (L : TapeL) : Prop := ∃ (s : VoteD) (kt : Nat), Bs k i had most s ∧ VoteAt wr [bt] bv s ∧ TapeAt wr bt L kt ∧ Below w.heap.size w wr
set_option maxRecDepth 100000 in
set_option maxHeartbeats 1000000 in
theorem best_walk (A : Option Addr) (c : Nat) (l : List Int) (n : Int) (w : World) (hlc : l.length ≤ c) (hmx : c ≤ 9223372036854775807)
    (hl : 0 < l.length → ∃ g off, A = some ⟨g, off, none⟩ ∧ g < w.heap.size ∧ ∀ (j : Nat) (x : Int), l[j]? = some x → w.cell? ⟨g, off + j, none⟩ = some (.int .i64 x)) :
    Calls Try.prog 9 #[.slice A l.length c, .int .i64 n] w fun e w' => e = .returned (.bool true) ∧ Below w.heap.size w w' := by
  obtain ⟨hw1, hw2⟩ := within_bd n 0 6 (by omega)
  have hw := Lib.hid (within_any n 0 6 w (by omega) (by omega) (by omega))
  generalize withinS n 0 6 = q at *
  have Hl := Lib.hid hl; have Hmx := Lib.hid hmx
  clear hl hmx
  go_enter Try.func9, Try.ntmps9
  go_wp2_with fail
  refine hw.out.mono ?_
  rintro e w' ⟨rfl, rfl⟩
  go_wp2_with fail
  refine (new_yes 5 (1 + q) w (by omega) (by omega)).mono ?_
  rintro e w1 ⟨rfl, hv, hb, hlt⟩
  have hne := fun W => vote_neq_nil (w := W) ⟨w.heap.size, 0, none⟩
  go_wp2_with fail
  obtain ⟨k, hk⟩ : ∃ k, k = 1 + q := ⟨_, rfl⟩
  have hk1 : 1 ≤ k := by omega
  have hk8 : k ≤ 8 := by omega
  have hR : BsR w (w1.alloc (.cells #[.slice A l.length c, .int .i64 0] 44)) k 0 (-1) 0 w.heap.size w1.heap.size ⟨l, w.heap.size⟩ := by
    refine ⟨newVote 5 (1 + q), 0, ⟨hk.symm, rfl, rfl, ⟨Nat.zero_le _, by intro e he; cases he⟩, .inl ⟨rfl, rfl, rfl⟩⟩, (hv [w1.heap.size]).keep (M' := []) ((Keeps.refl _ _).alloc _) (by simp) (by simp), ⟨Nat.zero_le _, Nat.le_trans hlc Hmx.out, hb.size, A, c, Blk.new w1 _ _, hlc, fun h => ?_⟩, below_new hb _⟩
    obtain ⟨g, off, e, hg, hx⟩ := Hl.out h
    exact ⟨g, off, e, hg, fun j x hj => ((below_new hb _).cell (p := ⟨g, off + j, none⟩) hg).trans (hx j x hj)⟩
  have hbt : w.heap.size < w1.heap.size := hlt
  generalize (w1.alloc (.cells #[.slice A l.length c, .int .i64 0] 44)) = W at *
  rw [← hk]
  obtain ⟨bv, hbv⟩ : ∃ b, b = w.heap.size := ⟨_, rfl⟩
  obtain ⟨bt, hbt2⟩ : ∃ b, b = w1.heap.size := ⟨_, rfl⟩
  have hB : (⟨l, w.heap.size⟩ : TapeL).B = bv := hbv.symm
  generalize (⟨l, w.heap.size⟩ : TapeL) = L at *
  rw [← hbv, ← hbt2] at hR ⊢
  rw [← hbv] at hne
  have hlt2 : bv < bt := by omega
  have hwbv : w.heap.size ≤ bv := by omega
  have HR := Lib.hid hR; have HB := Lib.hid hB
  clear hR hB hv hb hlt hbt hbv hbt2 hk hw1 hw2
  go_wp2_with fail
  go_loopw [8, 9, 10, 11] (fun cn hd ms i wr => ∃ (x : Nat) (had : Int) (most : Nat), cn = .int .i64 x ∧ hd = .int .i64 had ∧ ms = .int .i64 most ∧ i = .int .i64 x ∧ (x : Int) ≤ k / 2 + 1 ∧ Hid (BsR w wr k x had most bv bt L)) (fun _ _ _ i _ => 20 - (intOf i).toNat)
  case atStart => exact ⟨0, -1, 0, rfl, rfl, rfl, rfl, by omega, HR.out⟩
  case round =>
    obtain ⟨x, had, most, rfl, rfl, rfl, rfl, hx, HRx⟩ := hrel
    obtain ⟨s, kt, hs, hv, hT, hb⟩ := HRx.out
    have Hs := Lib.hid hs; have Hv := Lib.hid hv; have HT := Lib.hid hT; have Hb := Lib.hid hb
    clear hs hv hT hb HR HRx
    by_cases hlt : (x : Int) ≤ k / 2
    · have hxk : (x : Int) < k := by omega
      have d1 : decide ((x : Int) < k) = true := by simp; omega
      have d2 : decide ((x : Int) ≤ k / 2) = true := by simp; omega
      go_wp2_with fail
      refine (next_any bt L kt 5 _ HT.out).mono ?_
      rintro e w2 ⟨t, k2, rfl, ht0, _, hT2, hK2⟩
      have Hv2 := Lib.hid (Hv.out.keep hK2 (by simp; omega) (by simp))
      have HT2 := Lib.hid hT2
      have Hb2 := Lib.hid (Hb.out.trans (hK2.belowB Hb.out.size (by simp; omega)))
      clear hT2 hK2
      go_wp2_with fail
      refine (log_any bt L k2 4 _ HT2.out (by omega) (by omega)).mono ?_
      rintro e w3 ⟨lv, ll, k3, rfl, hok, hlen, hens, hT3, hK3⟩
      have Hsm := Lib.hid (ok_small hok (by omega))
      have Hens := Lib.hid (hens [bv, bt] (by have := Hv2.out.lt; have := HT2.out.lt; simp; omega))
      have Hv3 := Lib.hid (Hv2.out.keep hK3 (by simp; omega) (by simp))
      have HT3 := Lib.hid hT3
      have Hb3 := Lib.hid (Hb2.out.trans (hK3.belowB Hb2.out.size (by simp; omega)))
      clear hok hens hT3 hK3
      obtain ⟨Al, cl, hlv, hcl⟩ := Hens.out.len
      subst hlv
      have hll : ll.length ≤ 4 := by omega
      obtain ⟨q1, q2, q3⟩ := Hs.out.step hk8 hlt hxk t ll Hsm.out ht0
      have hnod : s.nodes ≤ 8 := by rw [Hs.out.nodes]; exact hk8
      have hsn := Hs.out.n
      go_wp2_with fail
      refine (promise_any [bt] bv s x t _ ll _ Hv3.out (by simpa using HT3.out.lt) Hens.out Hsm.out hnod (by omega) (by omega)).mono ?_
      rw [q1]
      generalize (promiseS s x t ll).2 = s' at *
      rintro e w4 ⟨rfl, hv4, hK4⟩
      have Hv4 := Lib.hid hv4
      have HT4 := Lib.hid (HT3.out.keep2 hK4 (by intro g hg; simp at hg; have := HB.out; omega))
      have Hb4 := Lib.hid (Hb3.out.trans (hK4.belowB Hb3.out.size (by simp; omega)))
      have Q2 := Lib.hid q2; have Q3 := Lib.hid q3
      clear q1 q2 q3 hv4 hK4 hsn hnod
      have hcase : had < t ∨ (t = had ∧ most < ll.length) ∨ t < had ∨ (t = had ∧ ll.length ≤ most) := by omega
      have heq : ((x : Int) + 1 == k / 2 + 1) = decide ((x : Int) + 1 = k / 2 + 1) := rfl
      have hx9 : (x : Int) ≤ 8 := by omega
      rcases hcase with hc | ⟨hc, hc2⟩ | hc | ⟨hc, hc2⟩
      · have Hs4 : Hid (Bs k (x + 1) t ll.length s') := Q2.out (.inl hc)
        have hbl : s'.best.length = ll.length := by rcases Hs4.out.st with ⟨h, _⟩ | ⟨_, _, h⟩; omega; exact h
        have hbs := Hs4.out.small
        have Hbs := Lib.hid hbs
        have Hbl := Lib.hid hbl
        clear hbs hbl
        have d3 : ∀ W, (binOp .neq 4 (.bool (decide ((x : Int) + 1 = k / 2 + 1))) (.bool ((x : Int) + 1 == k / 2 + 1))).run Try.prog W = .ok (.bool false) W := fun W => by rw [heq]; cases decide ((x : Int) + 1 = k / 2 + 1) <;> kernel_rfl
        go_wp2_with fail
        refine (best_any [bt] bv s' _ Hv4.out Hbs.out).mono ?_
        rw [Hbl.out]
        rintro e w5 ⟨Ab, rfl, _, hb5⟩
        have Hv5 := Lib.hid (Hv4.out.keep (Keeps.of_below (M := []) hb5) (by simp) (by simp))
        have HT5 := Lib.hid (HT4.out.keep2 (Keeps.of_below (M := []) hb5) (by simp))
        have Hb5 := Lib.hid (below_then Hb4.out hb5)
        have HR5 : Hid (BsR w w5 k (x + 1) t ll.length bv bt L) := ⟨s', k3, Hs4.out, Hv5.out, HT5.out, Hb5.out⟩
        clear hb5
        go_wp2
        go_roundw
        case rel => exact ⟨x + 1, t, ll.length, by go_num, rfl, rfl, by go_num, by omega, HR5⟩
        case measure => simp [intOf] <;> omega
      · have Hs4 : Hid (Bs k (x + 1) t ll.length s') := Q2.out (.inr ⟨hc, hc2⟩)
        have e1 : (t == had) = true := by simpa using hc
        have e2 : t ≤ had := by omega
        clear hc
        have hbl : s'.best.length = ll.length := by rcases Hs4.out.st with ⟨h, _⟩ | ⟨_, _, h⟩; omega; exact h
        have hbs := Hs4.out.small
        have Hbs := Lib.hid hbs
        have Hbl := Lib.hid hbl
        clear hbs hbl
        have d3 : ∀ W, (binOp .neq 4 (.bool (decide ((x : Int) + 1 = k / 2 + 1))) (.bool ((x : Int) + 1 == k / 2 + 1))).run Try.prog W = .ok (.bool false) W := fun W => by rw [heq]; cases decide ((x : Int) + 1 = k / 2 + 1) <;> kernel_rfl
        go_wp2_with fail
        refine (best_any [bt] bv s' _ Hv4.out Hbs.out).mono ?_
        rw [Hbl.out]
        rintro e w5 ⟨Ab, rfl, _, hb5⟩
        have Hv5 := Lib.hid (Hv4.out.keep (Keeps.of_below (M := []) hb5) (by simp) (by simp))
        have HT5 := Lib.hid (HT4.out.keep2 (Keeps.of_below (M := []) hb5) (by simp))
        have Hb5 := Lib.hid (below_then Hb4.out hb5)
        have HR5 : Hid (BsR w w5 k (x + 1) t ll.length bv bt L) := ⟨s', k3, Hs4.out, Hv5.out, HT5.out, Hb5.out⟩
        clear hb5
        go_wp2
        go_roundw
        case rel => exact ⟨x + 1, t, ll.length, by go_num, rfl, rfl, by go_num, by omega, HR5⟩
        case measure => simp [intOf] <;> omega
      · have Hs4 : Hid (Bs k (x + 1) had most s') := Q3.out (.inl hc)
        have e1 : (t == had) = false := by simp; omega
        have hbl : s'.best.length = most := by rcases Hs4.out.st with ⟨h, _⟩ | ⟨_, _, h⟩; omega; exact h
        have hbs := Hs4.out.small
        have Hbs := Lib.hid hbs
        have Hbl := Lib.hid hbl
        clear hbs hbl
        have d3 : ∀ W, (binOp .neq 4 (.bool (decide ((x : Int) + 1 = k / 2 + 1))) (.bool ((x : Int) + 1 == k / 2 + 1))).run Try.prog W = .ok (.bool false) W := fun W => by rw [heq]; cases decide ((x : Int) + 1 = k / 2 + 1) <;> kernel_rfl
        go_wp2_with fail
        refine (best_any [bt] bv s' _ Hv4.out Hbs.out).mono ?_
        rw [Hbl.out]
        rintro e w5 ⟨Ab, rfl, _, hb5⟩
        have Hv5 := Lib.hid (Hv4.out.keep (Keeps.of_below (M := []) hb5) (by simp) (by simp))
        have HT5 := Lib.hid (HT4.out.keep2 (Keeps.of_below (M := []) hb5) (by simp))
        have Hb5 := Lib.hid (below_then Hb4.out hb5)
        have HR5 : Hid (BsR w w5 k (x + 1) had most bv bt L) := ⟨s', k3, Hs4.out, Hv5.out, HT5.out, Hb5.out⟩
        clear hb5
        go_wp2
        go_roundw
        case rel => exact ⟨x + 1, had, most, by go_num, rfl, rfl, by go_num, by omega, HR5⟩
        case measure => simp [intOf] <;> omega
      · have Hs4 : Hid (Bs k (x + 1) had most s') := Q3.out (.inr ⟨hc, hc2⟩)
        have e1 : (t == had) = true := by simpa using hc
        have e2 : t ≤ had := by omega
        clear hc
        have hbl : s'.best.length = most := by rcases Hs4.out.st with ⟨h, _⟩ | ⟨_, _, h⟩; omega; exact h
        have hbs := Hs4.out.small
        have Hbs := Lib.hid hbs
        have Hbl := Lib.hid hbl
        clear hbs hbl
        have d3 : ∀ W, (binOp .neq 4 (.bool (decide ((x : Int) + 1 = k / 2 + 1))) (.bool ((x : Int) + 1 == k / 2 + 1))).run Try.prog W = .ok (.bool false) W := fun W => by rw [heq]; cases decide ((x : Int) + 1 = k / 2 + 1) <;> kernel_rfl
        go_wp2_with fail
        refine (best_any [bt] bv s' _ Hv4.out Hbs.out).mono ?_
        rw [Hbl.out]
        rintro e w5 ⟨Ab, rfl, _, hb5⟩
        have Hv5 := Lib.hid (Hv4.out.keep (Keeps.of_below (M := []) hb5) (by simp) (by simp))
        have HT5 := Lib.hid (HT4.out.keep2 (Keeps.of_below (M := []) hb5) (by simp))
        have Hb5 := Lib.hid (below_then Hb4.out hb5)
        have HR5 : Hid (BsR w w5 k (x + 1) had most bv bt L) := ⟨s', k3, Hs4.out, Hv5.out, HT5.out, Hb5.out⟩
        clear hb5
        go_wp2
        go_roundw
        case rel => exact ⟨x + 1, had, most, by go_num, rfl, rfl, by go_num, by omega, HR5⟩
        case measure => simp [intOf] <;> omega
    · have hxe : (x : Int) = k / 2 + 1 := by omega
      have hst := Hs.out.st
      have hx0 : 0 < x := by omega
      have hnod := Hs.out.nodes
      have hsn := Hs.out.n
      have hpr := Hs.out.prom
      have hw0 : wonS s = true := by unfold wonS; rw [hnod, hsn]; simp; omega
      have hp0 : promiseS s 0 99 [] = (false, s) := by
        unfold promiseS
        rw [if_neg]
        rw [hpr]
        obtain ⟨y, rfl⟩ : ∃ y, x = y + 1 := ⟨x - 1, by omega⟩
        simp [List.replicate_succ]
      have hwon := won_any [bt] bv s wr Hv.out (by omega) (by omega)
      rw [show decide (s.nodes < 2 * s.n) = true from hw0] at hwon
      have Hwon := Lib.hid hwon; have Hp0 := Lib.hid hp0
      have hsb : s.nodes ≤ 8 ∧ 0 ≤ s.n ∧ s.n ≤ 8 := by omega
      have Hsb := Lib.hid hsb
      have d2 : decide ((x : Int) ≤ k / 2) = false := by simp; omega
      clear hst hpr hw0 hwon hp0 hnod hsn hsb hxe
      by_cases hxk : (x : Int) < k
      all_goals
        go_wp2_with fail
        refine Hwon.out.mono ?_
        rintro e w2 ⟨rfl, nq, rfl⟩
        have Hv2 := Lib.hid (Hv.out.drewN nq)
        have HT2 := Lib.hid (HT.out.drewN nq)
        have Hb2 := Lib.hid (Hb.out.trans (Keeps.belowB ((Keeps.refl [] wr).drewN nq) Hb.out.size (by simp)))
        go_wp2_with fail
        refine (prom_calls 0 99 Hv2.out HT2.out.lt Hsb.out.1 Hsb.out.2.1 Hsb.out.2.2).mono ?_
        rw [Hp0.out]
        rintro e w3 ⟨rfl, _, hK3⟩
        have Hb3 := Lib.hid (Hb2.out.trans (hK3.out.belowB Hb2.out.size (by simp; omega)))
        clear hK3
        go_wp2_with fail
        refine (known_walk w3).mono ?_
        rintro e w5 ⟨rfl, hb5⟩
        have Hb5 := Lib.hid (below_then Hb3.out hb5)
        clear hb5
        go_wp2
        go_ret
        exact ⟨rfl, Hb5.out⟩
end Go.Proofs.Ytinnifhnabncfaa.Lead
