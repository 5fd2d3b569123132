/- Contract of (*lead.Vote).Accepted. -/
import Derived.Test.YtinnifhnabncfaaLeadD
import Derived.Test.YtinnifhnabncfaaShelf
import Derived.Sort.OwnSortedInts
namespace Go.Proofs.Ytinnifhnabncfaa.Lead
open Go.RowKit Base Mem
def accS (s : VoteD) (fr n : Int) : List Int := if 0 ≤ fr ∧ fr < s.nodes then s.acc.set fr.toNat (max (s.acc.getD fr.toNat 0) n) else s.acc
def medS (l : List Int) (k : Nat) : Int := ((l.take k).mergeSort fun x y => decide (x ≤ y)).getD ((k - 1) / 2) 0
theorem acc_rd {w : World} {M : List Nat} {b k : Nat} {s : VoteD} (h : VoteAt w M b s) (hk : k ≤ 8) : Rd w [] 1 (.slice (some ⟨b, 10, none⟩) k 8) k ((s.acc.take k).map (Value.int .i64)) := by
  obtain ⟨bv, he, hlt, hfr, c0, c1, cp, ca, c18, c19, c20⟩ := h.cells
  refine ⟨_, 8, rfl, hk, by rw [List.length_map, List.length_take, h.l2]; omega, fun _ => ⟨b, 10, rfl, hlt, by simp, fun j u hu => ?_⟩⟩
  rw [List.getElem?_map, List.getElem?_take] at hu
  split at hu
  · rename_i hj
    have hj8 : j < s.acc.length := by rw [h.l2]; omega
    rw [ca j (by omega), List.getD_eq_getElem?_getD]
    rw [List.getElem?_eq_getElem hj8] at hu ⊢
    simpa using hu
  · simp at hu
theorem own_form {w : World} {base : Nat} {e : TypeId} {v : Value} {n : Nat} {xs : List Value} (h : w.ownsRow base e 1 v n xs) (hn : 0 < n) :
    ∃ g cap cur, v = .slice (some ⟨g, 0, none⟩) n cap ∧ base ≤ g ∧ w.heap[g]? = some (.cells cur e (0, 0)) ∧ n ≤ cap ∧ cap ≤ maxLen ∧ cur.size = cap * 1 ∧ cur.toList.take n = xs := by
  obtain ⟨hl, h⟩ := h
  rcases h with ⟨_, h0⟩ | ⟨g, cap, cur, h1, h2, h3, h4, h5, h6, h7⟩
  · omega
  · exact ⟨g, cap, cur, h1, h2, h3, h4, h5, h6, by rw [Nat.mul_one] at h7; exact h7⟩
theorem own_cell {w : World} {base g n c j : Nat} {e : TypeId} {xs : List Value} {u : Value} (h : w.ownsRow base e 1 (.slice (some ⟨g, 0, none⟩) n c) n xs) (hu : xs[j]? = some u) : w.cell? ⟨g, j, none⟩ = some u := by
  have := h.cells (g := g) rfl j u hu
  rwa [addr_add, Nat.zero_add] at this
theorem med_at {l : List Int} {k : Nat} (h : (k - 1) / 2 < (l.take k).length) : (((l.take k).mergeSort fun x y => decide (x ≤ y)).map (Value.int .i64))[(k - 1) / 2]? = some (.int .i64 (medS l k)) := by
  have h2 : (k - 1) / 2 < ((l.take k).mergeSort fun x y => decide (x ≤ y)).length := by rw [List.length_mergeSort]; exact h
  unfold medS
  rw [List.getElem?_map, List.getD_eq_getElem?_getD, List.getElem?_eq_getElem h2]
  rfl
set_option maxRecDepth 100000 in
theorem accepted_in (M : List Nat) (b : Nat) (s s1 : VoteD) (i k : Nat) (n : Int) (w : World) (h : VoteAt w M b s) (hi : i < k) (hk1 : 0 < k) (hk8 : k ≤ 8) (hs : s.nodes = k) (hs1' : s1 = { s with acc := s.acc.set i (max (s.acc.getD i 0) n) }) :
    Calls Try.prog 32 #[.pointer (some ⟨b, 0, none⟩), .int .i64 i, .int .i64 n] w fun e w' => e = .returned (.int .i64 (medS s1.acc k)) ∧ VoteAt w' M b s1 ∧ Keeps [b] w w' := by
  obtain ⟨bv, he, hlt, hfr, c0, c1, cp, ca, c18, c19, c20⟩ := h.cells
  have hca := ca i (by omega)
  have hfr1 := hfr (10 + i)
  have hi8 : (i : Int) < 8 := by omega
  have hnd := Lib.hid (node_any M b s i w h)
  have Hd : Hid (decide (0 ≤ (i : Int) ∧ (i : Int) < s.nodes) = true) := by show _ = _; simp; omega
  have He := Lib.hid he; have H := Lib.hid h; have Hs := Lib.hid hs
  have hgd : s.acc.getD i 0 = s.acc[i]?.getD 0 := List.getD_eq_getElem?_getD ..
  rw [hgd] at hca hs1'
  have hs1 : s1.nodes = k := by rw [hs1']; exact hs
  have Hs1' := Lib.hid hs1'
  clear he cp ca hfr h hs hgd hs1' c1 c0 c18 c19 c20
  go_enter Try.func32, Try.ntmps32
  go_wp2_with (go_at_call 50; refine hnd.out.mono ?_; rintro e w' ⟨rfl, rfl⟩; rw [Hd.out])
  go_region
  have hv : VoteAt ((w.setCell ⟨b, 10 + i, none⟩ (.int .i64 (max (s.acc[i]?.getD 0) n))).drew) M b s1 := by rw [Hs1'.out]; exact (H.out.set_acc (by omega) _).drewN 1
  have hW : Keeps [b] w ((w.setCell ⟨b, 10 + i, none⟩ (.int .i64 (max (s.acc[i]?.getD 0) n))).drew) := ((Keeps.refl _ _).setCell (by simp) _).drew
  generalize ((w.setCell ⟨b, 10 + i, none⟩ (.int .i64 (max (s.acc[i]?.getD 0) n))).drew) = W at *
  have hcl := cloneInt [] (.slice (some ⟨b, 10, none⟩) k 8) k ((s1.acc.take k).map (Value.int .i64)) W.drew (acc_rd (hv.drewN 1) hk8) (ints_oneCell _ _) (by omega)
  have Hcl := Lib.hid hcl; have HW := Lib.hid hW; have Hv := Lib.hid hv
  have hl1 : (s1.acc.take k).length = k := by rw [List.length_take, hv.l2]; omega
  obtain ⟨bv1, _, hlt1, _, _, e1, _, _, _, _, _⟩ := hv.cells
  rw [hs1] at e1
  clear hcl hW hv
  generalize hL : s1.acc.take k = L at *
  have HL := Lib.hid hL; have Hl1 := Lib.hid hl1
  clear hL hl1
  have hk9 : (k : Int) ≤ 8 := by omega
  obtain ⟨j, hj⟩ : ∃ j, j = (k - 1) / 2 := ⟨_, rfl⟩
  have hidx : ((k : Int) - 1) / 2 = (j : Int) := by omega
  have hjk : j < k := by omega
  have Hj := Lib.hid hj
  clear hj
  go_wp2
  go_region_with ((go_at_call 52; refine Hcl.out.mono ?_; rintro e w2 ⟨v2, rfl, hown, hb2⟩; have Hown := Lib.hid (show w2.ownsRow W.heap.size 3 1 v2 k (L.map (Value.int .i64)) from hown); have Hb2 := Lib.hid (show Below W.heap.size W w2 from ⟨hb2.os, hb2.tape, hb2.output, hb2.size, hb2.block⟩); clear hown hb2))
  all_goals
    obtain ⟨g, cap, cur, rfl, hg0, hblk, hkc, hcm, hcur, htk⟩ := own_form Hown.out hk1
    have hgl : g < w2.heap.size := (Array.getElem?_eq_some_iff.1 hblk).1
    have hsort := Lib.hid (Try.slices_Sort_int g 0 cap L w2 (holds_of_blockI hblk (by rw [Hl1.out]; simpa using htk)) hgl (by rw [Hl1.out]; omega))
    rw [Hl1.out] at hsort
    have hso := fun (n : Nat) (os : Array Obj) => ownsRow_sortedI (n := n) (os := os) (ss := L) (ts := L.mergeSort fun x y => decide (x ≤ y)) (List.length_mergeSort L) hg0 hblk (by rw [Hl1.out]; exact hkc) hcm hcur
    have Hso := Lib.hid hso
    have hkp : Keeps [] W w2 := Keeps.of_below Hb2.out
    have Hkp := Lib.hid hkp
    have Hg0 := Lib.hid hg0
    have c1' : w2.cell? ⟨b, 1, none⟩ = some (.int .i64 k) := by rw [Hb2.out.cell (p := ⟨b, 1, none⟩) hlt1]; exact e1
    have hne : g ≠ b := by omega
    clear hblk htk hkc hcm hcur hso hkp hg0
    go_wp2_with (go_at_call 53; refine hsort.out.mono ?_; rintro e w3 ⟨rfl, nn, os, rfl⟩; have hrow := Hso.out nn os; have hgr := grownBy_sortedI (w := w2) (g := g) (n := nn) (os := os) ((L.mergeSort fun x y => decide (x ≤ y)).toArray); generalize (Sort.grow (Sort.putRow (Value.int .i64) (Sort.ahead w2 nn) g 0 ((L.mergeSort fun x y => decide (x ≤ y)).toArray)) os) = w3 at *; rw [Hl1.out] at hrow; have c1'' : w3.cell? ⟨b, 1, none⟩ = some (.int .i64 k) := hgr.cell c1' (by simpa using Ne.symm hne); have hcc : w3.cell? ⟨g, j, none⟩ = some (.int .i64 (medS s1.acc k)) := own_cell hrow (by rw [← HL.out, Hj.out]; exact med_at (by rw [HL.out, Hl1.out]; omega)); have Hgr := Lib.hid hgr; clear hgr hrow)
    go_ret
    have hk3 := Hkp.out.grown Hgr.out (fun x hx => by injection hx with hx; right; rw [← hx]; exact Hg0.out)
    exact ⟨rfl, Hv.out.keep hk3 (by simp) (by simp), HW.out.trans hk3 (by simp)⟩
set_option maxRecDepth 100000 in
theorem accepted_out (M : List Nat) (b : Nat) (s1 : VoteD) (k : Nat) (fr n : Int) (w : World) (h : VoteAt w M b s1) (hi : ¬ (0 ≤ fr ∧ fr < k)) (hk1 : 0 < k) (hk8 : k ≤ 8) (hs1 : s1.nodes = k) :
    Calls Try.prog 32 #[.pointer (some ⟨b, 0, none⟩), .int .i64 fr, .int .i64 n] w fun e w' => e = .returned (.int .i64 (medS s1.acc k)) ∧ VoteAt w' M b s1 ∧ Keeps [b] w w' := by
  obtain ⟨bv, he, hlt, hfr, c0, c1, cp, ca, c18, c19, c20⟩ := h.cells
  have hnd := Lib.hid (node_any M b s1 fr w h)
  have Hd : Hid (decide (0 ≤ fr ∧ fr < s1.nodes) = false) := by show _ = _; simp; omega
  have hv := h
  have hW : Keeps [b] w w := Keeps.refl _ _
  clear he cp ca hfr h c1 c0 c18 c19 c20 hi
  obtain ⟨W, hWw⟩ : ∃ W, W = w := ⟨_, rfl⟩
  go_enter Try.func32, Try.ntmps32
  go_wp2_with (go_at_call 50; refine hnd.out.mono ?_; rintro e w' ⟨rfl, rfl⟩; rw [Hd.out])
  subst hWw
  have hcl := cloneInt [] (.slice (some ⟨b, 10, none⟩) k 8) k ((s1.acc.take k).map (Value.int .i64)) W.drew (acc_rd (hv.drewN 1) hk8) (ints_oneCell _ _) (by omega)
  have Hcl := Lib.hid hcl; have HW := Lib.hid hW; have Hv := Lib.hid hv
  have hl1 : (s1.acc.take k).length = k := by rw [List.length_take, hv.l2]; omega
  obtain ⟨bv1, _, hlt1, _, _, e1, _, _, _, _, _⟩ := hv.cells
  rw [hs1] at e1
  clear hcl hW hv
  generalize hL : s1.acc.take k = L at *
  have HL := Lib.hid hL; have Hl1 := Lib.hid hl1
  clear hL hl1
  have hk9 : (k : Int) ≤ 8 := by omega
  obtain ⟨j, hj⟩ : ∃ j, j = (k - 1) / 2 := ⟨_, rfl⟩
  have hidx : ((k : Int) - 1) / 2 = (j : Int) := by omega
  have hjk : j < k := by omega
  have Hj := Lib.hid hj
  clear hj
  go_wp2
  go_region_with ((go_at_call 52; refine Hcl.out.mono ?_; rintro e w2 ⟨v2, rfl, hown, hb2⟩; have Hown := Lib.hid (show w2.ownsRow W.heap.size 3 1 v2 k (L.map (Value.int .i64)) from hown); have Hb2 := Lib.hid (show Below W.heap.size W w2 from ⟨hb2.os, hb2.tape, hb2.output, hb2.size, hb2.block⟩); clear hown hb2))
  all_goals
    obtain ⟨g, cap, cur, rfl, hg0, hblk, hkc, hcm, hcur, htk⟩ := own_form Hown.out hk1
    have hgl : g < w2.heap.size := (Array.getElem?_eq_some_iff.1 hblk).1
    have hsort := Lib.hid (Try.slices_Sort_int g 0 cap L w2 (holds_of_blockI hblk (by rw [Hl1.out]; simpa using htk)) hgl (by rw [Hl1.out]; omega))
    rw [Hl1.out] at hsort
    have hso := fun (n : Nat) (os : Array Obj) => ownsRow_sortedI (n := n) (os := os) (ss := L) (ts := L.mergeSort fun x y => decide (x ≤ y)) (List.length_mergeSort L) hg0 hblk (by rw [Hl1.out]; exact hkc) hcm hcur
    have Hso := Lib.hid hso
    have hkp : Keeps [] W w2 := Keeps.of_below Hb2.out
    have Hkp := Lib.hid hkp
    have Hg0 := Lib.hid hg0
    have c1' : w2.cell? ⟨b, 1, none⟩ = some (.int .i64 k) := by rw [Hb2.out.cell (p := ⟨b, 1, none⟩) hlt1]; exact e1
    have hne : g ≠ b := by omega
    clear hblk htk hkc hcm hcur hso hkp hg0
    go_wp2_with (go_at_call 53; refine hsort.out.mono ?_; rintro e w3 ⟨rfl, nn, os, rfl⟩; have hrow := Hso.out nn os; have hgr := grownBy_sortedI (w := w2) (g := g) (n := nn) (os := os) ((L.mergeSort fun x y => decide (x ≤ y)).toArray); generalize (Sort.grow (Sort.putRow (Value.int .i64) (Sort.ahead w2 nn) g 0 ((L.mergeSort fun x y => decide (x ≤ y)).toArray)) os) = w3 at *; rw [Hl1.out] at hrow; have c1'' : w3.cell? ⟨b, 1, none⟩ = some (.int .i64 k) := hgr.cell c1' (by simpa using Ne.symm hne); have hcc : w3.cell? ⟨g, j, none⟩ = some (.int .i64 (medS s1.acc k)) := own_cell hrow (by rw [← HL.out, Hj.out]; exact med_at (by rw [HL.out, Hl1.out]; omega)); have Hgr := Lib.hid hgr; clear hgr hrow)
    go_ret
    have hk3 := Hkp.out.grown Hgr.out (fun x hx => by injection hx with hx; right; rw [← hx]; exact Hg0.out)
    exact ⟨rfl, Hv.out.keep hk3 (by simp) (by simp), HW.out.trans hk3 (by simp)⟩
theorem accepted_any (M : List Nat) (b : Nat) (s : VoteD) (fr n : Int) (w : World) (h : VoteAt w M b s) (h1 : 1 ≤ s.nodes) (h8 : s.nodes ≤ 8) :
    Calls Try.prog 32 #[.pointer (some ⟨b, 0, none⟩), .int .i64 fr, .int .i64 n] w fun e w' => e = .returned (.int .i64 (medS (accS s fr n) s.nodes.toNat)) ∧ VoteAt w' M b { s with acc := accS s fr n } ∧ Keeps [b] w w' := by
  have hk : s.nodes = (s.nodes.toNat : Int) := by omega
  unfold accS
  by_cases hf : 0 ≤ fr ∧ fr < s.nodes
  · rw [if_pos hf]
    obtain ⟨i, rfl⟩ := Int.eq_ofNat_of_zero_le hf.1
    rw [Int.toNat_natCast]
    exact accepted_in M b s _ i _ n w h (by omega) (by omega) (by omega) hk rfl
  · rw [if_neg hf]
    exact accepted_out M b s _ fr n w h (by rw [← hk]; exact hf) (by omega) (by omega) hk
end Go.Proofs.Ytinnifhnabncfaa.Lead
