/- Texts put together: Dk1, Dk2, Msg3, Msg4, Msg5, Tape4, Msg6, MGet, Msg7, Msg8, Msg9, MsgA, PlV, Scan, Wal1. -/
import Derived.Laws.IdiomCopy
import Derived.Deep.RegionHeld3
import Derived.Laws.IdiomStrings
import Derived.Test.YtdaceeijifjpeaaGreatDoorRT4
import Derived.Test.YtdaceeijifjpeaaGreatDoorRT5
set_option linter.unusedVariables false
set_option linter.unusedSimpArgs false
section
namespace Go.Proofs.YtdaceeijifjpeaaGreatDoor.Vi
open Go.RowKit Base Mem
/-- v is a row of these bytes that nobody else writes: it starts its block. -/
def Row1 (w : World) (v : Value) (l : List UInt8) : Prop :=
 (v = .slice none 0 0 ∧ l = []) ∨ ∃ g cap cur, v = .slice (some ⟨g, 0, none⟩) l.length cap ∧ Blk w g 5 cur ∧ l.length ≤ cap ∧ cap ≤ cur.size ∧ cap ≤ maxLen ∧ ∀ (j : Nat) (x : UInt8), l[j]? = some x → cur[j]? = some (bV x)
section
variable {w w' : World} {M M' : List Nat} {v : Value} {l : List UInt8}
theorem Row1.nil (w : World) : Row1 w (.slice none 0 0) [] := Or.inl ⟨rfl, rfl⟩
theorem Row1.of_own {base n : Nat} (h : w.ownsRow base 5 1 v n (l.map bV)) : Row1 w v l := by
 obtain ⟨hl, h⟩ := h
 have hn : n = l.length := by simpa using hl.symm
 subst hn
 rcases h with ⟨rfl, h0⟩ | ⟨g, cap, cur, rfl, _, hg, hnc, hm, hs, ht⟩
 ·exact Or.inl ⟨rfl, List.eq_nil_of_length_eq_zero h0⟩
 ·refine Or.inr ⟨g, cap, cur, rfl, hg, hnc, by omega, hm, fun j x hj => ?_⟩
  have h1 : (l.map bV)[j]? = some (bV x) := by rw [List.getElem?_map, hj]; rfl
  rw [← ht, List.getElem?_take] at h1
  split at h1
  ·simpa using h1
  ·cases h1
theorem Row1.len (h : Row1 w v l) : ∃ A c, v = .slice A l.length c ∧ l.length ≤ c ∧ c ≤ maxLen := by
 rcases h with ⟨rfl, rfl⟩ | ⟨g, cap, cur, rfl, _, h1, _, h2, _⟩
 ·exact ⟨none, 0, rfl, Nat.le_refl _, by unfold maxLen; omega⟩
 ·exact ⟨_, cap, rfl, h1, h2⟩
theorem Row1.lt (h : Row1 w v l) {g : Nat} (hg : v.ownBlock = some g) : g < w.heap.size := by
 rcases h with ⟨rfl, rfl⟩ | ⟨g', cap, cur, rfl, hb, _⟩
 ·simp [Value.ownBlock] at hg
 ·simp [Value.ownBlock] at hg; subst hg; exact hb.lt
theorem Row1.bs (h : Row1 w v l) (hM : ∀ g, v.ownBlock = some g → g ∉ M) : Bs w M v l := by
 rcases h with ⟨rfl, rfl⟩ | ⟨g, cap, cur, rfl, hb, h1, h2, _, hx⟩
 ·exact Bs.nil _ _
 ·refine ⟨_, cap, rfl, h1, by simp, fun _ => ⟨g, 0, rfl, hb.lt, hM g rfl, fun j u hu => ?_⟩⟩
  rw [hb.cell, Nat.zero_add]
  rw [List.getElem?_map] at hu
  obtain ⟨x, hx1, rfl⟩ := Option.map_eq_some_iff.1 hu
  exact hx j x hx1
theorem Row1.keep (h : Row1 w v l) (k : Keeps M w w') (hM : ∀ g, v.ownBlock = some g → g ∉ M) : Row1 w' v l := by
 rcases h with ⟨rfl, rfl⟩ | ⟨g, cap, cur, rfl, hb, rest⟩
 ·exact .nil _
 ·exact Or.inr ⟨g, cap, cur, rfl, k.blk hb (hM g rfl), rest⟩
theorem Row1.cut {A : Option Addr} {c : Nat} (h : Row1 w (.slice A l.length c) l) (n : Nat) (hn : n ≤ l.length) : Row1 w (.slice A n n) (l.take n) := by
 rcases h with ⟨e, rfl⟩ | ⟨g, cap, cur, e, hb, h1, h2, h3, hx⟩
 ·injection e with e1 e2 e3
  subst e1
  have h0 : n = 0 := by simpa using hn
  subst h0
  exact .nil _
 ·injection e with e1 e2 e3
  subst e1
  refine Or.inr ⟨g, n, cur, ?_, hb, ?_, by omega, by omega, fun j x hj => hx j x ?_⟩
  ·rw [List.length_take, Nat.min_eq_left hn]
  ·rw [List.length_take]; omega
  ·rw [List.getElem?_take] at hj
   split at hj
   ·exact hj
   ·cases hj
end
theorem blk_setCells1 {g : Nat} {t : TypeId} : ∀ (vs : List Value) (o : Nat) (w : World) (cur : Array Value), Blk w g t cur →
  ∃ cur', Blk (w.setCells g o vs) g t cur' ∧ cur'.size = cur.size ∧ (∀ j, j < o → cur'[j]? = cur[j]?) ∧ (∀ j u, vs[j]? = some u → o + j < cur.size → cur'[o + j]? = some u) ∧ Keeps [g] w (w.setCells g o vs)
 | [], o, w, cur, h => ⟨cur, h, rfl, fun _ _ => rfl, fun j u hu => by simp at hu, Keeps.refl _ _⟩
 | x :: vs, o, w, cur, h => by
  obtain ⟨cur', h1, h2, h3, h4, h5⟩ := blk_setCells1 vs (o + 1) (w.setCell ⟨g, o, none⟩ x) (cur.setIfInBounds o x) (h.set_ o x)
  rw [Array.size_setIfInBounds] at h2 h4
  refine ⟨cur', h1, h2, fun j hj => ?_, fun j u hu hs => ?_, ?_⟩
  ·rw [h3 j (by omega), Array.getElem?_setIfInBounds_ne (by omega)]
  ·cases j with
   | zero =>
    simp at hu
    subst hu
    rw [h3 (o + 0) (by omega), Nat.add_zero, Array.getElem?_setIfInBounds_self, if_pos (by omega)]
   | succ j =>
    have := h4 j u (by simpa using hu) (by omega)
    rwa [show o + (j + 1) = o + 1 + j by omega]
  ·exact ((Keeps.refl [g] w).setCell (by simp) x).trans h5 (by simp)
set_option maxRecDepth 100000 in
theorem wpList_append_row1 {ops : Array Oper} {rest : List Oper} {o : Oper} {a : Act} {w : World} {Q : Exit → Act → World → Prop} (hgd : o.guard = none) (s x : Operand)
  (ho : o.op = .call { callee := .builtin .append, args := #[s, x], argTypes := #[73, 73] })
  (v : Value) (b l : List UInt8) (A : Option Addr) (c : Nat) (M : List Nat) (hs : a.eval s = v) (hr : Row1 w v b) (hx : a.eval x = .slice A l.length c) (hl : Bs w M (.slice A l.length c) l) (h0 : 0 < l.length) (hb : b.length + l.length ≤ 100000000)
  (h : ∀ v' w', Row1 w' v' (b ++ l) → Keeps v.ownBlock.toList w w' → (∀ g, v'.ownBlock = some g → v.ownBlock = some g ∨ w.heap.size ≤ g) → wpList Tryz.prog ops Q rest (a.put o.dst v') w') : wpList Tryz.prog ops Q (o :: rest) a w := by
 obtain ⟨i0, hi0, hz0, hz1, hz2⟩ := info_parts infoU8
 obtain ⟨A', c', e, hcc, _, hrd⟩ := hl
 obtain ⟨rfl⟩ : A' = A := by injection e with e _ _; exact e.symm
 obtain ⟨g, off, rfl, hg, _, hc⟩ := hrd h0
 have hn : (l.map bV).length = l.length * 1 := by simp
 have hca : ∀ j u, (l.map bV)[j]? = some u → w.cell? ((⟨g, off, none⟩ : Addr).add j) = some u := fun j u hu => by rw [addr_add]; exact hc j u hu
 rcases hr with ⟨rfl, rfl⟩ | ⟨gb, cap, cur, rfl, hB, h1, h2, h3, hx2⟩
 ·refine wpList_append_grows w hgd s x _ ho 5 i0 _ 1 1 Tryz.underlying73 hi0 hz0 hz1 hz2 rfl (by omega) none 0 0 [] hs (fun _ => ⟨rfl, rfl⟩) rfl (fun b hb => by cases hb) ⟨g, off, none⟩ l.length c (l.map bV) hx hn hca (bV_one l) (by omega) (by unfold maxLen; omega) (by omega) ?_
  intro v' w' hown hgr
  have hown' : w'.ownsRow w.heap.size 5 1 v' l.length (l.map bV) := by simpa using hown
  exact h v' w' (Row1.of_own hown') ((Keeps.refl _ _).grown hgr (by simp)) (fun k hk => .inr (hown'.lt k hk).1)
 ·have holds : ∀ j u, (b.map bV)[j]? = some u → w.cell? ⟨gb, 0 + j, none⟩ = some u := fun j u hu => by
   rw [hB.cell, Nat.zero_add]
   rw [List.getElem?_map] at hu
   obtain ⟨y, hy, rfl⟩ := Option.map_eq_some_iff.1 hu
   exact hx2 j y hy
  refine wpList_append_arg w hgd s x _ ho 5 i0 _ 1 1 Tryz.underlying73 hi0 hz0 hz1 hz2 rfl (by omega) gb 0 b.length cap (b.map bV) hs (by simp) holds ⟨g, off, none⟩ l.length c (l.map bV) hx hn hca (bV_one l) ?_ (by unfold maxLen; omega) (by omega) ?_ ?_
  ·intro hroom j hj
   rw [List.length_map] at hj
   refine ⟨?_, hB.frozen _⟩
   rw [hB.cell, Array.getElem?_eq_getElem (by omega)]; rfl
  ·intro hroom
   obtain ⟨cur', hB', hs', hlow, hin, hk⟩ := blk_setCells1 (l.map bV) (0 + b.length * 1) w cur hB
   refine h _ _ (Or.inr ⟨gb, cap, cur', ?_, hB', by rw [List.length_append]; omega, by omega, h3, fun j y hj => ?_⟩) (by simpa [Value.ownBlock] using hk) (fun k hk => .inl hk)
   ·rw [List.length_append]
   ·rcases Nat.lt_or_ge j b.length with hjb | hjb
    ·rw [List.getElem?_append_left hjb] at hj
     rw [hlow j (by omega)]
     exact hx2 j y hj
    ·rw [List.getElem?_append_right hjb] at hj
     have hjl : j - b.length < l.length := (List.getElem?_eq_some_iff.1 hj).1
     have := hin (j - b.length) (bV y) (by rw [List.getElem?_map, hj]; rfl) (by omega)
     rwa [show 0 + b.length * 1 + (j - b.length) = j by omega] at this
  ·intro hgrow v' w' hown hgr
   have hown' : w'.ownsRow w.heap.size 5 1 v' (b.length + l.length) ((b ++ l).map bV) := by simpa using hown
   exact h v' w' (Row1.of_own hown') ((Keeps.refl _ _).grown hgr (by simp)) (fun k hk => .inr (hown'.lt k hk).1)
/-- A disk lies in block d: its bytes, how many of them last; it writes no other blocks than those of X. -/
def DkAt (w : World) (X : List Nat) (d : Nat) (b : List UInt8) (k : Nat) : Prop :=
 ∃ v, Blk w d 75 #[v, .int .i64 k] ∧ Row1 w v b ∧ d ∈ X ∧ (∀ g, v.ownBlock = some g → g ∈ X ∧ g ≠ d) ∧ k ≤ b.length ∧ b.length ≤ 1048576 ∧ ∀ g ∈ X, g < w.heap.size
/-- Blocks of X' are those of X, or new. -/
def Grows (X : List Nat) (w : World) (X' : List Nat) : Prop := ∀ g ∈ X', g ∈ X ∨ w.heap.size ≤ g
theorem Grows.refl (X : List Nat) (w : World) : Grows X w X := fun _ h => .inl h
theorem Grows.trans {X X' X'' : List Nat} {w w' : World} (h : Grows X w X') (k : Grows X' w' X'') (hs : w.heap.size ≤ w'.heap.size) : Grows X w X'' := fun g hg => by
 rcases k g hg with h1 | h1
 ·exact h g h1
 ·right; omega
theorem DkAt.lt {w : World} {X : List Nat} {d k : Nat} {b : List UInt8} (h : DkAt w X d b k) : d < w.heap.size := by obtain ⟨_, h, _⟩ := h; exact h.lt
theorem DkAt.le {w : World} {X : List Nat} {d k : Nat} {b : List UInt8} (h : DkAt w X d b k) : k ≤ b.length ∧ b.length ≤ 1048576 := by obtain ⟨_, _, _, _, _, h1, h2, _⟩ := h; exact ⟨h1, h2⟩
theorem DkAt.keep {w w' : World} {X M : List Nat} {d k : Nat} {b : List UInt8} (h : DkAt w X d b k) (hk : Keeps M w w') (hM : ∀ g ∈ X, g ∉ M) : DkAt w' X d b k := by
 obtain ⟨v, h1, h2, h3, h4, h5, h6, h7⟩ := h
 exact ⟨v, hk.blk h1 (hM d h3), h2.keep hk (fun g hg => hM g (h4 g hg).1), h3, h4, h5, h6, fun g hg => Nat.lt_of_lt_of_le (h7 g hg) hk.size⟩
theorem DkAt.keep0 {w w' : World} {X : List Nat} {d k : Nat} {b : List UInt8} (h : DkAt w X d b k) (hk : Keeps [] w w') : DkAt w' X d b k := h.keep hk (by simp)
theorem dknew_any (w : World) :
  Calls Tryz.prog 8 #[] w fun e w' => e = .returned (.pointer (some ⟨w.heap.size, 0, none⟩)) ∧ DkAt w' [w.heap.size] w.heap.size [] 0 ∧ Below w.heap.size w w' := by
 have hR : Hid (DkAt (w.alloc (.cells #[.slice none 0 0, .int .i64 0] 75)) [w.heap.size] w.heap.size [] 0) :=
  ⟨_, Blk.new w _ _, .nil _, by simp, by simp [Value.ownBlock], by simp, by simp, by simp⟩
 go_enter Tryz.func8, Tryz.ntmps8
 go_wp2
 go_ret
 exact ⟨rfl, hR.out, (Below.refl _ _).alloc (Nat.le_refl _) _⟩
section
variable {w : World} {X : List Nat} {d k : Nat} {b : List UInt8}
theorem dkwaits_any (w : World) (h : DkAt w X d b k) :
  Calls Tryz.prog 49 #[.pointer (some ⟨d, 0, none⟩)] w fun e w' => e = .returned (.int .i64 ((b.length : Int) - k)) ∧ ∃ q, w' = w.drewN q := by
 have hle := h.le
 obtain ⟨v, hb, hr, _⟩ := h
 obtain ⟨A, c, rfl, hc⟩ := hr.len
 have c0 := hb.cell 0; have c1 := hb.cell 1
 simp only [List.getElem?_toArray, List.getElem?_cons_succ, List.getElem?_cons_zero] at c0 c1
 clear hb hr
 go_enter Tryz.func49, Tryz.ntmps49
 go_wp2
 go_quiet (fail)
 go_wp2
 go_ret
 exact ⟨rfl, nq, rfl⟩
theorem dkall_any (w : World) (h : DkAt w X d b k) :
  Calls Tryz.prog 61 #[.pointer (some ⟨d, 0, none⟩)] w fun e w' => ∃ v, e = .returned v ∧ w'.ownsRow w.heap.size 5 1 v b.length (b.map bV) ∧ Below w.heap.size w w' := by
 have hle := h.le
 obtain ⟨v, hb, hr, _⟩ := h
 have hcl := Lib.hid (cloneU8 [] v b.length (b.map bV) w (hr.bs (by simp)) (bV_one b) (by omega))
 obtain ⟨A, c, rfl, hc⟩ := hr.len
 have c0 := hb.cell 0; have c1 := hb.cell 1
 simp only [List.getElem?_toArray, List.getElem?_cons_succ, List.getElem?_cons_zero] at c0 c1
 clear hb hr
 go_enter Tryz.func61, Tryz.ntmps61
 go_wp2_with fail
 refine hcl.out.mono ?_
 rintro e w1 ⟨v1, rfl, hown, hb1⟩
 have Hown := Lib.hid hown; have Hb1 := Lib.hid hb1
 clear hown hb1 hcl
 go_wp2
 go_ret
 exact ⟨v1, rfl, Hown.out, Hb1.out⟩
theorem dksync_any (w : World) (h : DkAt w X d b k) :
  Calls Tryz.prog 193 #[.pointer (some ⟨d, 0, none⟩)] w fun e w' => e = .returned (.tuple #[]) ∧ DkAt w' X d b b.length ∧ Keeps [d] w w' := by
 have hR : Hid (DkAt (w.setCell ⟨d, 1, none⟩ (.int .i64 b.length)) X d b b.length ∧ Keeps [d] w (w.setCell ⟨d, 1, none⟩ (.int .i64 b.length))) := by
  obtain ⟨v, h1, h2, h3, h4, h5, h6, h7⟩ := h
  have hk : Keeps [d] w (w.setCell ⟨d, 1, none⟩ (.int .i64 b.length)) := (Keeps.refl _ _).setCell (by simp) _
  exact ⟨⟨v, by simpa using h1.set_ 1 (.int .i64 b.length), h2.keep hk (fun g hg => by have := (h4 g hg).2; simpa using this), h3, h4, Nat.le_refl _, h6, fun g hg => Nat.lt_of_lt_of_le (h7 g hg) hk.size⟩, hk⟩
 have hle := h.le
 obtain ⟨v, hb, hr, _⟩ := h
 obtain ⟨A, c, rfl, hc⟩ := hr.len
 have c0 := hb.cell 0; have c1 := hb.cell 1; have f1 := hb.frozen 1
 simp only [List.getElem?_toArray, List.getElem?_cons_succ, List.getElem?_cons_zero] at c0 c1
 clear hb hr
 go_enter Tryz.func193, Tryz.ntmps193
 go_wp2
 go_end0
 exact ⟨rfl, hR.out.1, hR.out.2⟩
theorem dkcut_any (w : World) (h : DkAt w X d b k) (n : Nat) (hn : n ≤ b.length) :
  Calls Tryz.prog 50 #[.pointer (some ⟨d, 0, none⟩), .int .i64 n] w fun e w' => e = .returned (.bool true) ∧ DkAt w' X d (b.take n) n ∧ Keeps [d] w w' := by
 have hle := h.le
 obtain ⟨v, hb, hr, h3, h4, h5, h6, h7⟩ := h
 obtain ⟨A, c, rfl, hc, hcm⟩ := hr.len
 have hcut := hr.cut n hn
 have hown : ∀ g, Value.ownBlock (.slice A n n) = some g → Value.ownBlock (.slice A b.length c) = some g := fun g hg => by cases A <;> simp [Value.ownBlock] at hg ⊢ <;> exact hg
 have hR : Hid (DkAt ((w.setCell ⟨d, 0, none⟩ (.slice A n n)).setCell ⟨d, 1, none⟩ (.int .i64 n)) X d (b.take n) n ∧ Keeps [d] w ((w.setCell ⟨d, 0, none⟩ (.slice A n n)).setCell ⟨d, 1, none⟩ (.int .i64 n))) := by
  have hk : Keeps [d] w ((w.setCell ⟨d, 0, none⟩ (.slice A n n)).setCell ⟨d, 1, none⟩ (.int .i64 n)) := ((Keeps.refl _ _).setCell (by simp) _).setCell (by simp) _
  refine ⟨⟨.slice A n n, by simpa using (hb.set_ 0 (.slice A n n)).set_ 1 (.int .i64 n), hcut.keep hk (fun g hg => by have := (h4 g (hown g hg)).2; simpa using this), h3, fun g hg => h4 g (hown g hg), ?_, ?_, fun g hg => Nat.lt_of_lt_of_le (h7 g hg) hk.size⟩, hk⟩
  ·rw [List.length_take]; omega
  ·rw [List.length_take]; omega
 have hcl := Lib.hid (fun W => clipU8 A n c W (by omega))
 have c0 := hb.cell 0; have c1 := hb.cell 1; have f0 := hb.frozen 0; have f1 := hb.frozen 1
 simp only [List.getElem?_toArray, List.getElem?_cons_succ, List.getElem?_cons_zero] at c0 c1
 clear hb hr hcut hown h3 h4 h5 h6 h7
 have hni : (0 : Int) ≤ (n : Int) := by omega
 have hn2 : (n : Int) ≤ (b.length : Int) := by omega
 have hn3 : (n : Int) ≤ (c : Int) := by omega
 go_enter Tryz.func50, Tryz.ntmps50
 go_wp2_with fail
 refine (hcl.out _).mono ?_
 rintro e w1 ⟨rfl, rfl⟩
 go_wp2
 go_ret
 exact ⟨rfl, hR.out.1, hR.out.2⟩
def DaPost (X : List Nat) (d : Nat) (b l : List UInt8) (k : Nat) (w : World) (e : Ending) (w' : World) : Prop :=
 if b.length + l.length ≤ 1048576 then e = .returned (.int .i64 0) ∧ ∃ X', DkAt w' X' d (b ++ l) k ∧ Grows X w X' ∧ Keeps X w w'
 else e = .returned (.int .i64 24) ∧ w = w'
theorem dkappend_any (w : World) (h : DkAt w X d b k) (v : Value) (l : List UInt8) (M : List Nat) (hv : Bs w M v l) (h0 : 0 < l.length) (hl : l.length ≤ 10000000) :
  Calls Tryz.prog 192 #[.pointer (some ⟨d, 0, none⟩), v] w fun e w' => DaPost X d b l k w e w' := by
 have hle := h.le
 obtain ⟨v0, hb, hr, h3, h4, h5, h6, h7⟩ := h
 obtain ⟨A, c, rfl, hc, hcm⟩ := hr.len
 obtain ⟨A2, c2, rfl, hc2⟩ := hv.len
 have c0 := hb.cell 0; have c1 := hb.cell 1; have f0 := hb.frozen 0
 simp only [List.getElem?_toArray, List.getElem?_cons_succ, List.getElem?_cons_zero] at c0 c1
 by_cases hroom : b.length + l.length ≤ 1048576
 ·have HP : Hid (∀ e w', DaPost X d b l k w e w' = (e = .returned (.int .i64 0) ∧ ∃ X', DkAt w' X' d (b ++ l) k ∧ Grows X w X' ∧ Keeps X w w')) := fun e w' => by unfold DaPost; rw [if_pos hroom]
  have hd0 : decide ((1048576 - (b.length : Int)) < (l.length : Int)) = false := decide_eq_false (by omega)
  have Hb := Lib.hid hb; have Hr := Lib.hid hr; have H3 := Lib.hid h3; have H4 := Lib.hid h4; have H7 := Lib.hid h7; have Hv := Lib.hid hv
  have hlt := hb.lt
  clear hb hr h3 h4 h7 hv
  go_enter Tryz.func192, Tryz.ntmps192
  go_wp2_with (at_builtin; refine wpList_append_row1 rfl (.tmp 18) (.tmp 19) rfl _ b l A2 c2 M rfl Hr.out rfl Hv.out h0 (by omega) ?_)
  intro v1 w1 hr1 hk1 ho1
  obtain ⟨A1, c1, rfl, _⟩ := hr1.len
  have Hr1 := Lib.hid hr1; have Hk1 := Lib.hid hk1; have Ho1 := Lib.hid ho1
  have hdn : ∀ g ∈ (Value.ownBlock (.slice A b.length c)).toList, g ≠ d := fun g hg => (H4.out g (by simpa using hg)).2
  have Hb1 := Lib.hid (hk1.blk Hb.out (fun hm => hdn d hm rfl))
  have f1 := Hb1.out.frozen 0
  have hd1 : w1.cell? ⟨d, 0, none⟩ = some (.slice A b.length c) := Hb1.out.cell 0
  have hR : Hid (∃ X', DkAt (w1.setCell ⟨d, 0, none⟩ (.slice A1 (b ++ l).length c1)) X' d (b ++ l) k ∧ Grows X w X' ∧ Keeps X w (w1.setCell ⟨d, 0, none⟩ (.slice A1 (b ++ l).length c1))) := by
   have hk2 : Keeps [d] w1 (w1.setCell ⟨d, 0, none⟩ (.slice A1 (b ++ l).length c1)) := (Keeps.refl _ _).setCell (by simp) _
   have hkX : Keeps X w (w1.setCell ⟨d, 0, none⟩ (.slice A1 (b ++ l).length c1)) := (Hk1.out.mono (M' := X) (fun g hg => .inl (H4.out g (by simpa using hg)).1)).trans hk2 (fun g hg => by simp at hg; subst hg; exact .inl H3.out)
   have hne : ∀ g, (Value.ownBlock (.slice A1 (b ++ l).length c1)) = some g → g ≠ d := fun g hg => by
    rcases Ho1.out g hg with h | h
    ·exact (H4.out g h).2
    ·omega
   have hXs : ∀ g ∈ X ++ (Value.ownBlock (.slice A1 (b ++ l).length c1)).toList, g < (w1.setCell ⟨d, 0, none⟩ (.slice A1 (b ++ l).length c1)).heap.size := fun g hg => by
    rcases List.mem_append.1 hg with h | h
    ·exact Nat.lt_of_lt_of_le (H7.out g h) hkX.size
    ·exact Nat.lt_of_lt_of_le (Hr1.out.lt (by simpa using h)) hk2.size
   refine ⟨X ++ (Value.ownBlock (.slice A1 (b ++ l).length c1)).toList, ⟨.slice A1 (b ++ l).length c1, by simpa using Hb1.out.set_ 0 (.slice A1 (b ++ l).length c1), Hr1.out.keep hk2 (fun g hg => by have := hne g hg; simpa using this), by simp [H3.out], fun g hg => ⟨List.mem_append_right _ (Option.mem_toList.2 hg), hne g hg⟩, by rw [List.length_append]; omega, by rw [List.length_append]; omega, hXs⟩, ?_, hkX⟩
   intro g hg
   rcases List.mem_append.1 hg with h | h
   ·exact .inl h
   ·rcases Ho1.out g (by simpa using h) with h | h
    ·exact .inl (H4.out g h).1
    ·exact .inr h
  have hP : Hid (DaPost X d b l k w (.returned (.int .i64 0)) (w1.setCell ⟨d, 0, none⟩ (.slice A1 (b ++ l).length c1))) := (HP.out _ _).symm ▸ ⟨rfl, hR.out⟩
  rw [List.length_append] at hP
  clear hr1 hk1 ho1 hdn HP hR
  go_wp2
  go_ret
  exact hP.out
 ·have HP : Hid (DaPost X d b l k w (.returned (.int .i64 24)) w) := by unfold DaPost; rw [if_neg hroom]; exact ⟨rfl, rfl⟩
  have hd0 : decide ((1048576 - (b.length : Int)) < (l.length : Int)) = true := decide_eq_true (by omega)
  clear hb hr h3 h4 h7 hv
  go_enter Tryz.func192, Tryz.ntmps192
  go_wp2
  go_ret
  exact HP.out
/-- What lasts behind a crash that lets so many of those that wait last. -/
def crashK (b : List UInt8) (k : Nat) (keep : Int) : Nat := (max 0 (min keep ((b.length : Int) - k))).toNat
theorem dkcrash_any (w : World) (h : DkAt w X d b k) (keep : Int) :
  Calls Tryz.prog 18 #[.pointer (some ⟨d, 0, none⟩), .int .i64 keep] w fun e w' => e = .returned (.int .i64 ((b.length : Int) - k - crashK b k keep)) ∧ DkAt w' X d (b.take (k + crashK b k keep)) (k + crashK b k keep) ∧ Keeps [d] w w' := by
 have hle := h.le
 have hwt := Lib.hid (fun W (hk : Keeps [] w W) => dkwaits_any W (h.keep0 hk))
 have hK : Hid (max 0 (min keep ((b.length : Int) - k)) = (crashK b k keep : Int)) := by show _ = _; unfold crashK; omega
 have hKb : k + crashK b k keep ≤ b.length := by unfold crashK; omega
 have hct := Lib.hid (fun W (hk : Keeps [] w W) => dkcut_any W (h.keep0 hk) (k + crashK b k keep) hKb)
 generalize crashK b k keep = m at *
 obtain ⟨v, hb, _⟩ := h
 have c1 := hb.cell 1
 simp only [List.getElem?_toArray, List.getElem?_cons_succ, List.getElem?_cons_zero] at c1
 have hlt := hb.lt
 have HC : Hid (∀ q, (w.drewN q).cell? ⟨d, 1, none⟩ = some (.int .i64 k)) := fun q => c1
 clear hb
 go_enter Tryz.func18, Tryz.ntmps18
 go_wp2_with fail
 refine (hwt.out w (Keeps.refl _ _)).mono ?_
 rintro e w1 ⟨rfl, q1, rfl⟩
 have hm := hK.out
 have hwm : IntKind.i64.wrap ((m : Int)) = (m : Int) := by rw [IntKind.wrap_i64]; omega
 go_wp2_with fail
 refine (hwt.out (w.drewN q1) ((Keeps.refl _ _).drewN q1)).mono ?_
 rintro e w2 ⟨rfl, q2, rfl⟩
 have hc2 : (w.drewN (q1 + q2)).cell? ⟨d, 1, none⟩ = some (.int .i64 k) := c1
 go_wp2_with fail
 have hct2 := hct.out (w.drewN (q1 + q2)) ((Keeps.refl _ _).drewN _)
 rw [Int.natCast_add] at hct2
 refine hct2.mono ?_
 rintro e w3 ⟨rfl, hD, hk⟩
 have HD := Lib.hid hD; have Hk : Hid (Keeps [d] w w3) := ((Keeps.refl [d] w).drewN (q1 + q2)).trans hk (by simp)
 clear hD hk hct2
 go_wp2
 go_ret
 exact ⟨rfl, HD.out, Hk.out⟩
end
end Go.Proofs.YtdaceeijifjpeaaGreatDoor.Vi
end
section
namespace Go.Proofs.YtdaceeijifjpeaaGreatDoor.Vi
open Go.RowKit Base Mem Go.Shelf
def bad2 (m : MsgD) : Bool := decide (m.tag < 0) || decide (m.term < 0) || decide (m.had < 0) || decide (m.commit < 0) || decide (m.len < 0) || decide (m.code < 0) || decide (255 < m.code) || decide (128 < m.commit) || decide (128 < m.len)
/-- Why a row of entries may not be. -/
def logRight : List EntryD → Nat
 | [] => 0
 | e :: r => if rightE e = 0 then logRight r else rightE e
def mrightS (m : MsgD) : Nat :=
 if m.kd < 1 ∨ 6 < m.kd ∨ zeroS m = false then 12
 else if bad2 m = true then 1
 else if 128 < m.log.length then 3
 else if m.kd = 1 then rightE m.en else logRight m.log
/-- Its texts are short. -/
def MShort (m : MsgD) : Prop := Short m.en ∧ m.log.length ≤ 4611686018427387904 ∧ ∀ e ∈ m.log, Short e
theorem MShort.cnt {m : MsgD} (h : MShort m) : MCnt m := ⟨h.1.2.2, h.2.1, fun e he => (h.2.2 e he).2.2⟩
set_option maxRecDepth 100000 in
set_option maxHeartbeats 2000000 in
theorem mright_any (m : MsgD) (dv lv : Value) (mx : Int) (w : World) (ha : MsgAt w [] m dv lv) (hs : MShort m) (hm : w.cell? ⟨0, 0, none⟩ = some (.int .i64 mx)) :
  Calls Tryz.prog 38 #[.agg (mCell m dv lv).toArray] w fun r w' => NumPost (mrightS m) w r w' := by
 have hw0 : 0 < w.heap.size := by
  have := World.block_lt_of_cell? w _ hm
  simpa using this
 have hkeepm : Hid (∀ W, Keeps [] w W → W.cell? ⟨0, 0, none⟩ = some (.int .i64 mx)) := fun W hb => (hb.cell (p := ⟨0, 0, none⟩) hw0 (by simp)).trans hm
 have hz := Lib.hid (fun W (hk : Keeps [] w W) => mzero_any m dv lv W (ha.keep hk (by simp)) hs.cnt)
 have hri := Lib.hid (fun W (hk : Keeps [] w W) => eright_any m.en dv mx W (ha.1.keep hk (by simp)) hs.1 (hkeepm.out W hk))
 have HM : Hid (mrightS m = if m.kd < 1 ∨ 6 < m.kd ∨ zeroS m = false then 12 else if bad2 m = true then 1 else if 128 < m.log.length then 3 else if m.kd = 1 then rightE m.en else logRight m.log) := rfl
 have HB2 : Hid (bad2 m = (decide (m.tag < 0) || decide (m.term < 0) || decide (m.had < 0) || decide (m.commit < 0) || decide (m.len < 0) || decide (m.code < 0) || decide (255 < m.code) || decide (128 < m.commit) || decide (128 < m.len))) := rfl
 have Hl := Lib.hid ha.2
 have Hsl := Lib.hid hs.2.2
 have hll := hs.2.1
 obtain ⟨Aa, na, rfl, _⟩ := ha.1.len
 obtain ⟨Ba, ka, rfl, _⟩ := ha.2.len
 clear ha hs hm
 generalize mrightS m = R at *
 generalize bad2 m = b2 at *
 generalize zeroS m = z at *
 obtain ⟨kd, ⟨kind, ag, sh, seq, ep, ds, ser, fr, etg⟩, tag, code, nn, term, had, log, commit, len⟩ := m
 simp only [] at HM HB2 Hl Hsl hll hri
 simp only [mCell, eCell, List.cons_append, List.nil_append] at hz hri ⊢
 generalize rightE ⟨kind, ag, sh, seq, ep, ds, ser, fr, etg⟩ = re at *
 obtain ⟨w2, hw2⟩ : ∃ w2, w2 = w.alloc (.cells #[.int .i64 kd, .int .i64 kind, .int .i64 ag, .int .i64 sh, .int .i64 seq, .int .i64 ep, .slice Aa ds.length na, .string ser, .int .i64 fr, .int .i64 etg, .int .i64 tag, .int .i64 code, .int .u64 nn, .int .i64 term, .int .i64 had, .slice Ba log.length ka, .int .i64 commit, .int .i64 len] 37) := ⟨_, rfl⟩
 have hk2 : Keeps [] w w2 := by rw [hw2]; exact (Keeps.refl _ _).alloc _
 have hBa : Blk w2 w.heap.size 37 #[.int .i64 kd, .int .i64 kind, .int .i64 ag, .int .i64 sh, .int .i64 seq, .int .i64 ep, .slice Aa ds.length na, .string ser, .int .i64 fr, .int .i64 etg, .int .i64 tag, .int .i64 code, .int .u64 nn, .int .i64 term, .int .i64 had, .slice Ba log.length ka, .int .i64 commit, .int .i64 len] := by rw [hw2]; exact Blk.new w _ _
 have Hw2 := Lib.hid hw2; have HBa := Lib.hid hBa; have Hk2 := Lib.hid hk2
 clear hw2 hBa hk2
 show Calls Tryz.prog 38 #[.agg #[.int .i64 kd, .int .i64 kind, .int .i64 ag, .int .i64 sh, .int .i64 seq, .int .i64 ep, .slice Aa ds.length na, .string ser, .int .i64 fr, .int .i64 etg, .int .i64 tag, .int .i64 code, .int .u64 nn, .int .i64 term, .int .i64 had, .slice Ba log.length ka, .int .i64 commit, .int .i64 len]] w fun r w' => NumPost R w r w'
 go_enter Tryz.func38, Tryz.ntmps38
 go_upto_region 1 with (fail)
 rw [← Hw2.out]
 have hg2 : w.heap.size < w2.heap.size := HBa.out.lt
 generalize hgs : w.heap.size = g at HBa hg2 ⊢
 have Hgs := Lib.hid hgs
 clear Hw2 hgs
 obtain ⟨q0, q1, q2, q3, q4, q5, q6, q7, q8, q9, qa, qb, qc, qd, qe, qf, qg, qh, qz⟩ := blk18 HBa.out
 by_cases h1 : kd < 1
 ·obtain rfl : R = 12 := by rw [HM.out, if_pos (.inl h1)]
  go_wp2
  go_ret
  exact ⟨rfl, Hk2.out.below⟩
 have h1d : decide (kd < 1) = false := decide_eq_false h1
 by_cases h6 : 6 < kd
 ·obtain rfl : R = 12 := by rw [HM.out, if_pos (.inr (.inl h6))]
  go_wp2
  go_ret
  exact ⟨rfl, Hk2.out.below⟩
 have h6d : decide (6 < kd) = false := decide_eq_false h6
 have Hz2 := Lib.hid (hz.out w2 Hk2.out)
 have HR := Lib.hid (blk_range HBa.out)
 clear q0 q1 q2 q3 q4 q5 q6 q7 q8 q9 qa qb qc qd qe qf qg qh qz
 obtain ⟨q0, _⟩ := blk18 HBa.out
 go_wp2_with (refine wpList_load_g rfl 37 (.tmp 1) rfl g 0 rfl _ _ HR.out Tryz.underlying37 rfl (by kernel_rfl) ?_)
 refine Hz2.out.mono ?_
 rintro e w3 ⟨rfl, hb3⟩
 have HB3 := Lib.hid (HBa.out.below hb3 hg2)
 have Hk3 := Lib.hid (Hk2.out.trans (Keeps.of_below (M := []) hb3) (by simp))
 have hg3 : g < w3.heap.size := HB3.out.lt
 clear hb3 Hz2 hz HBa Hk2 hg2 q0
 obtain ⟨q0, q1, q2, q3, q4, q5, q6, q7, q8, q9, qa, qb, qc, qd, qe, qf, qg, qh, qz⟩ := blk18 HB3.out
 cases z with
 | false =>
  obtain rfl : R = 12 := by rw [HM.out, if_pos (.inr (.inr rfl))]
  go_wp2
  go_ret
  exact ⟨rfl, Hk3.out.below⟩
 | true =>
  have HM2 : Hid (R = if b2 = true then 1 else if 128 < log.length then 3 else if kd = 1 then re else logRight log) := by show _ = _; rw [HM.out, if_neg (by simp; omega)]
  clear HM
  go_upto_region 3 with (fail)
  go_cut [20] (fun s wx => s = .bool b2 ∧ wx = w3)
  case first =>
   clear hri Hl Hsl hkeepm HM2 hll
   cases c0 : (decide (tag < 0)) with
   | true =>
    obtain rfl : b2 = true := by rw [HB2.out, c0]; simp
    clear HB2
    go_wp2_with fail
    go_meet
    exact ⟨rfl, rfl⟩
   | false =>
    cases c1 : (decide (term < 0)) with
    | true =>
     obtain rfl : b2 = true := by rw [HB2.out, c0, c1]; simp
     clear HB2
     go_wp2_with fail
     go_meet
     exact ⟨rfl, rfl⟩
    | false =>
     cases c2 : (decide (had < 0)) with
     | true =>
      obtain rfl : b2 = true := by rw [HB2.out, c0, c1, c2]; simp
      clear HB2
      go_wp2_with fail
      go_meet
      exact ⟨rfl, rfl⟩
     | false =>
      cases c3 : (decide (commit < 0)) with
      | true =>
       obtain rfl : b2 = true := by rw [HB2.out, c0, c1, c2, c3]; simp
       clear HB2
       go_wp2_with fail
       go_meet
       exact ⟨rfl, rfl⟩
      | false =>
       cases c4 : (decide (len < 0)) with
       | true =>
        obtain rfl : b2 = true := by rw [HB2.out, c0, c1, c2, c3, c4]; simp
        clear HB2
        go_wp2_with fail
        go_meet
        exact ⟨rfl, rfl⟩
       | false =>
        cases c5 : (decide (code < 0)) with
        | true =>
         obtain rfl : b2 = true := by rw [HB2.out, c0, c1, c2, c3, c4, c5]; simp
         clear HB2
         go_wp2_with fail
         go_meet
         exact ⟨rfl, rfl⟩
        | false =>
         cases c6 : (decide (255 < code)) with
         | true =>
          obtain rfl : b2 = true := by rw [HB2.out, c0, c1, c2, c3, c4, c5, c6]; simp
          clear HB2
          go_wp2_with fail
          go_meet
          exact ⟨rfl, rfl⟩
         | false =>
          cases c7 : (decide (128 < commit)) with
          | true =>
           obtain rfl : b2 = true := by rw [HB2.out, c0, c1, c2, c3, c4, c5, c6, c7]; simp
           clear HB2
           go_wp2_with fail
           go_meet
           exact ⟨rfl, rfl⟩
          | false =>
           cases c8 : (decide (128 < len)) with
           | true =>
            obtain rfl : b2 = true := by rw [HB2.out, c0, c1, c2, c3, c4, c5, c6, c7, c8]; simp
            clear HB2
            go_wp2_with fail
            go_meet
            exact ⟨rfl, rfl⟩
           | false =>
            obtain rfl : b2 = false := by rw [HB2.out, c0, c1, c2, c3, c4, c5, c6, c7, c8]; rfl
            clear HB2
            go_wp2_with fail
            go_meet
            exact ⟨rfl, rfl⟩
  case rest =>
   obtain ⟨rfl, rfl⟩ := hcut
   clear HB2
   cases b2 with
   | true =>
    obtain rfl : R = 1 := by rw [HM2.out, if_pos rfl]
    go_wp2
    go_ret
    exact ⟨rfl, Hk3.out.below⟩
   | false =>
    by_cases hL : 128 < log.length
    ·obtain rfl : R = 3 := by rw [HM2.out, if_neg (by simp), if_pos hL]
     have hLi : (128 : Int) < (log.length : Int) := by omega
     clear HM2
     go_wp2
     go_ret
     exact ⟨rfl, Hk3.out.below⟩
    ·have hLi : decide ((128 : Int) < (log.length : Int)) = false := decide_eq_false (by omega)
     have HM3 : Hid (R = if kd = 1 then re else logRight log) := by show _ = _; rw [HM2.out, if_neg (by simp), if_neg hL]
     clear HM2
     by_cases hk1 : kd = 1
     ·obtain rfl : R = re := by rw [HM3.out, if_pos hk1]
      have hkd : (kd == 1) = true := by simpa using hk1
      have Hr := Lib.hid (hri.out wc Hk3.out)
      clear HM3 hk1 hri
      go_wp2_with fail
      refine Hr.out.mono ?_
      rintro e w4 ⟨rfl, hb4⟩
      have Hb4 := Lib.hid (below_then Hk3.out.below hb4)
      clear hb4
      go_wp2
      go_ret
      exact ⟨rfl, Hb4.out⟩
     ·have hkd : (kd == 1) = false := by simpa using hk1
      have HM4 : Hid (R = logRight (log.drop 0)) := by show _ = _; rw [HM3.out, if_neg hk1]; rfl
      clear HM3 hk1 hri
      go_wp2_with fail
      go_loopw [79] (fun i wr => ∃ x : Nat, i = .int .i64 x ∧ x ≤ log.length ∧ Hid (R = logRight (log.drop x)) ∧ Hid (Keeps [] w wr)) (fun i _ => log.length - (intOf i).toNat)
      case atStart => exact ⟨0, rfl, by omega, HM4, Hk3.out⟩
      case round =>
       obtain ⟨x, rfl, hx, HR, Hkr⟩ := hrel
       by_cases hlt : x < log.length
       ·have hx1 : (x : Int) < (log.length : Int) := by omega
        have HR2 : Hid (R = if rightE log[x] = 0 then logRight (log.drop (x + 1)) else rightE log[x]) := by show _ = _; rw [HR.out, List.drop_eq_getElem_cons hlt]; rfl
        obtain ⟨gl, ol, _, dl, e1, _, _, hDl, hcl⟩ := ens_at (Hl.out.keep Hkr.out (by simp)) hlt
        injection e1 with e1 _ e9
        subst e1
        clear e9
        have hre := Lib.hid (fun W (hk : Keeps [] wr W) => eright_any log[x] dl mx W (hDl.keep hk (by simp)) (Hsl.out _ (List.getElem_mem _)) (hkeepm.out W (Hkr.out.trans hk (by simp))))
        obtain ⟨Dl, nl, rfl, _⟩ := hDl.len
        have a0 := hcl 0 _ rfl; have a1 := hcl 1 _ rfl; have a2 := hcl 2 _ rfl; have a3 := hcl 3 _ rfl; have a4 := hcl 4 _ rfl; have a5 := hcl 5 _ rfl; have a6 := hcl 6 _ rfl; have a7 := hcl 7 _ rfl; have a8 := hcl 8 _ rfl
        rw [Nat.add_zero] at a0
        clear hcl hDl q0 q1 q2 q3 q4 q5 q6 q7 q8 q9 qa qb qc qd qe qf qg qh qz
        generalize log[x] = ee at *
        generalize rightE ee = rr at *
        obtain ⟨kind', ag', sh', seq', ep', ds', ser', fr', etg'⟩ := ee
        simp only [eCell] at hre
        simp only [] at a0 a1 a2 a3 a4 a5 a6 a7 a8
        have Hre := Lib.hid (hre.out (wr.alloc (.cells #[.int .i64 kind', .int .i64 ag', .int .i64 sh', .int .i64 seq', .int .i64 ep', .slice Dl ds'.length nl, .string ser', .int .i64 fr', .int .i64 etg'] 33)) ((Keeps.refl _ _).alloc _))
        have Hka := Lib.hid (Hkr.out.alloc (.cells #[.int .i64 kind', .int .i64 ag', .int .i64 sh', .int .i64 seq', .int .i64 ep', .slice Dl ds'.length nl, .string ser', .int .i64 fr', .int .i64 etg'] 33))
        clear hre
        go_wp2_with fail
        refine Hre.out.mono ?_
        rintro e w4 ⟨rfl, hb4⟩
        have Hk4 := Lib.hid (Hka.out.trans (Keeps.of_below (M := []) hb4) (by simp))
        clear hb4 Hre Hka a0 a1 a2 a3 a4 a5 a6 a7 a8
        by_cases hrr : rr = 0
        ·have HR3 : Hid (R = logRight (log.drop (x + 1))) := by show _ = _; rw [HR2.out, if_pos hrr]
         have hrn : ((rr : Int) != 0) = false := by simp [hrr]
         clear HR2 hrr
         go_wp2
         go_roundw
         case rel => exact ⟨x + 1, by go_num, by omega, HR3, Hk4⟩
         case measure => simp [intOf] <;> omega
        ·obtain rfl : R = rr := by rw [HR2.out, if_neg hrr]
         have hrn : ((R : Int) != 0) = true := by simpa using hrr
         clear HR2 hrr
         go_wp2
         go_ret
         exact ⟨rfl, Hk4.out.below⟩
       ·obtain rfl : x = log.length := by omega
        obtain rfl : R = 0 := by rw [HR.out, List.drop_length]; rfl
        go_wp2
        go_ret
        exact ⟨rfl, Hkr.out.below⟩
theorem logRight_all {l : List EntryD} (h : logRight l = 0) : ∀ e ∈ l, rightE e = 0 := by
 induction l with
 | nil => simp
 | cons e l ih =>
  unfold logRight at h
  intro x hx
  by_cases he : rightE e = 0
  ·rw [if_pos he] at h
   rcases List.mem_cons.1 hx with rfl | hx
   ·exact he
   ·exact ih h x hx
  ·rw [if_neg he] at h; exact absurd h he
structure MOk (m : MsgD) : Prop where
 k1 : 1 ≤ m.kd
 k6 : m.kd ≤ 6
 zero : zeroS m = true
 tag0 : 0 ≤ m.tag
 term0 : 0 ≤ m.term
 had0 : 0 ≤ m.had
 com0 : 0 ≤ m.commit
 len0 : 0 ≤ m.len
 code0 : 0 ≤ m.code
 code1 : m.code ≤ 255
 com1 : m.commit ≤ 128
 len1 : m.len ≤ 128
 logl : m.log.length ≤ 128
 ask : m.kd = 1 → rightE m.en = 0
 logs : m.kd ≠ 1 → ∀ e ∈ m.log, rightE e = 0

end Go.Proofs.YtdaceeijifjpeaaGreatDoor.Vi
end
section
namespace Go.Proofs.YtdaceeijifjpeaaGreatDoor.Tape
open Go.RowKit Base Mem

end Go.Proofs.YtdaceeijifjpeaaGreatDoor.Tape
end
section
namespace Go.Proofs.YtdaceeijifjpeaaGreatDoor.Vi
open Go.RowKit Base Mem Tape Go.Shelf
theorem rowsEq_iff : ∀ (a b : List EntryD), rowsEq a b = true ↔ a = b
 | [], [] => by simp [rowsEq, Lib.allEq]
 | [], _ :: _ => by simp [rowsEq, Lib.allEq]
 | _ :: _, [] => by simp [rowsEq, Lib.allEq]
 | x :: xs, y :: ys => by
  have ih := rowsEq_iff xs ys
  unfold rowsEq at ih ⊢
  rw [Lib.allEq, Bool.and_eq_true, sameE_iff, ih, List.cons.injEq]
theorem sameM_iff (a b : MsgD) : sameM a b = true ↔ a = b := by
 obtain ⟨a0, a1, a2, a3, a4, a5, a6, a7, a8, a9⟩ := a
 obtain ⟨b0, b1, b2, b3, b4, b5, b6, b7, b8, b9⟩ := b
 simp only [sameM, Bool.and_eq_true, sameE_iff, rowsEq_iff, beq_iff_eq, MsgD.mk.injEq]
 constructor
 ·rintro ⟨⟨h1, h2⟩, ⟨⟨⟨⟨⟨⟨⟨h3, h4⟩, h5⟩, h6⟩, h7⟩, h8⟩, h9⟩, h10⟩⟩
  exact ⟨h3, h1, h4, h5, h6, h7, h8, h2, h9, h10⟩
 ·rintro ⟨h3, h1, h4, h5, h6, h7, h8, h2, h9, h10⟩
  exact ⟨⟨h1, h2⟩, ⟨⟨⟨⟨⟨⟨⟨h3, h4⟩, h5⟩, h6⟩, h7⟩, h8⟩, h9⟩, h10⟩⟩
theorem zeroS_of {m : MsgD} (h : clearM m = zeroM) : zeroS m = true := by
 unfold zeroS
 rw [h]
 exact (sameM_iff _ _).2 rfl
def zero18 : Array Value := #[.int .i64 0, .int .i64 0, .int .i64 0, .int .i64 0, .int .i64 0, .int .i64 0, .slice none 0 0, .string ⟨#[]⟩, .int .i64 0, .int .i64 0, .int .i64 0, .int .i64 0, .int .u64 0, .int .i64 0, .int .i64 0, .slice none 0 0, .int .i64 0, .int .i64 0]
structure StM (w0 w : World) (b : Nat) (L : TapeL) (k g0 g1 : Nat) (c1 : Array Value) : Prop where
 tape : TapeAt w b L k
 keeps : Keeps [b] w0 w
 b0 : Blk w g0 37 zero18
 b1 : Blk w g1 37 c1
 lt0 : b < g0
 lt1 : g0 < g1
 old : w0.heap.size ≤ g0
theorem StM.keep {w0 w w' : World} {b : Nat} {L : TapeL} {k k' g0 g1 : Nat} {c1 : Array Value} (h : StM w0 w b L k g0 g1 c1) (hT : TapeAt w' b L k') (hk : Keeps [b] w w') : StM w0 w' b L k' g0 g1 c1 := by
 have := h.lt0; have := h.lt1; have := h.old
 exact ⟨hT, h.keeps.trans hk (by simp), hk.blk h.b0 (by simp; omega), hk.blk h.b1 (by simp; omega), h.lt0, h.lt1, h.old⟩
theorem StM.in1 {w0 w w' : World} {b : Nat} {L : TapeL} {k g0 g1 : Nat} {c1 c2 : Array Value} (h : StM w0 w b L k g0 g1 c1) (hk : Keeps [g1] w w') (hB : Blk w' g1 37 c2) : StM w0 w' b L k g0 g1 c2 := by
 have := h.lt0; have := h.lt1; have := h.old
 exact ⟨h.tape.keep hk (by intro g hg; simp at hg; omega), h.keeps.trans hk (by intro g hg; simp at hg; right; omega), hk.blk h.b0 (by simp; omega), hB, h.lt0, h.lt1, h.old⟩
theorem StM.set {w0 w : World} {b : Nat} {L : TapeL} {k g0 g1 : Nat} {c1 : Array Value} (h : StM w0 w b L k g0 g1 c1) (i : Nat) (v : Value) : StM w0 (w.setCell ⟨g1, i, none⟩ v) b L k g0 g1 (c1.setIfInBounds i v) :=
 h.in1 ((Keeps.refl _ _).setCell (by simp) v) (h.b1.set_ i v)
/-- Behind stores into the message's own block. -/
theorem MsgAt.in1 {w w' : World} {g1 : Nat} {m : MsgD} {dv lv : Value} (h : ∀ M, (∀ g ∈ M, g ≤ g1) → MsgAt w M m dv lv) (hk : Keeps [g1] w w') : ∀ M, (∀ g ∈ M, g ≤ g1) → MsgAt w' M m dv lv := fun M hM =>
 ((h (g1 :: M) (by intro g hg; rcases List.mem_cons.1 hg with rfl | hg; omega; exact hM g hg)).keep hk (by simp)).avoid (fun g hg => .inl (List.mem_cons_of_mem _ hg))
end Go.Proofs.YtdaceeijifjpeaaGreatDoor.Vi
end
section
namespace Go.Proofs.YtdaceeijifjpeaaGreatDoor.Vi
open Go.RowKit Base Mem Go.Shelf
def preE (acc : List EntryD) : Option (List EntryD) × List UInt8 × Bool → Option (List EntryD) × List UInt8 × Bool
 | (none, s) => (none, s)
 | (some es, s) => (some (acc ++ es), s)
/-- So many entries from the front; none: one of them is none. -/
def getEs : Nat → List UInt8 → Bool → Option (List EntryD) × List UInt8 × Bool
 | 0, l, b => (some [], l, b)
 | k + 1, l, b => if (textS l b).2.2 = true ∨ (readE (textS l b).1).2 ≠ 0 then (none, (textS l b).2) else preE [(readE (textS l b).1).1] (getEs k (textS l b).2.1 (textS l b).2.2)
def mgetS (l : List UInt8) (b : Bool) : Option (List EntryD) × List UInt8 × Bool := getEs (countS l b 128).1 (countS l b 128).2.1 (countS l b 128).2.2
def MGetPost (M : List Nat) (p : Nat) (R : Option (List EntryD) × List UInt8 × Bool) (w : World) (e : Ending) (w' : World) : Prop := match R with
 | (none, _) => e = .returned (.tuple #[.slice none 0 0, .bool false]) ∧ Keeps [p] w w'
 | (some es, l', b') => ∃ v, e = .returned (.tuple #[v, .bool (!b')]) ∧ (∀ M', (∀ g ∈ M', g < w.heap.size) → Ens w' M' v es) ∧ RdAt w' M p l' b' ∧ Keeps [p] w w'
theorem preE_nil (R : Option (List EntryD) × List UInt8 × Bool) : preE [] R = R := by
 obtain ⟨_ | es, s⟩ := R <;> rfl
theorem preE_pre (a b : List EntryD) (R : Option (List EntryD) × List UInt8 × Bool) : preE a (preE b R) = preE (a ++ b) R := by
 obtain ⟨_ | es, s⟩ := R
 ·rfl
 ·simp [preE]
theorem infoEntry2 : (Tryz.prog.info? 33).map (fun i => (i.zero, i.size, i.bytes)) = some (some (.agg #[.int .i64 0, .int .i64 0, .int .i64 0, .int .i64 0, .int .i64 0, .slice none 0 0, .string ByteArray.empty, .int .i64 0, .int .i64 0]), 9, 96) := by kernel_rfl
/-- A text turned to bytes. -/
theorem bytes_of (w : World) (s : List UInt8) : ∃ c W, (convert 9 73 (.string ⟨s.toArray⟩)).run Tryz.prog w = .ok (.slice (some ⟨w.heap.size, 0, none⟩) s.length c) W ∧ Keeps [] w W ∧ w.heap.size < W.heap.size ∧ ∀ M, (∀ g ∈ M, g < w.heap.size) → Bs W M (.slice (some ⟨w.heap.size, 0, none⟩) s.length c) s := by
 have hge := grownCap_ge w s.length 0 5
 have hw2 : Keeps [] w (w.drew.alloc (.cells (bytesRow ⟨s.toArray⟩ (grownCap w s.length 0 5)) 5 ((bytesRow ⟨s.toArray⟩ (grownCap w s.length 0 5)).size, (bytesRow ⟨s.toArray⟩ (grownCap w s.length 0 5)).size + 1))) := (Keeps.refl [] w).drew.alloc _
 refine ⟨_, _, run_bytes_of_string w _ _ 5 ⟨s.toArray⟩ Tryz.underlying9 Tryz.underlying73 Tryz.underlying5, hw2, by show w.heap.size < (w.drew.alloc _).heap.size; simp, fun M hM => ⟨_, _, rfl, hge, by simp, fun h0 => ⟨w.heap.size, 0, rfl, by show w.heap.size < (w.drew.alloc _).heap.size; simp, fun hm => by have := hM _ hm; omega, fun j u hu => ?_⟩⟩⟩
 rw [cell_of_row _ w.heap.size (0 + j) _ _ _ (heap_alloc_new w.drew _), Nat.zero_add]
 unfold bytesRow
 have hj : j < s.length := by have := (List.getElem?_eq_some_iff.1 hu).1; simpa using this
 rw [List.getElem?_map] at hu
 rw [Array.getElem?_append_left (by simpa using hj), Array.getElem?_map, List.getElem?_toArray]
 exact hu
set_option maxRecDepth 100000 in
set_option maxHeartbeats 1000000 in
theorem mget_any (M : List Nat) (p : Nat) (l : List UInt8) (b : Bool) (m : Int) (w : World) (h : RdAt w M p l b) (hl : l.length < 4294967281) (hm : w.cell? ⟨0, 0, none⟩ = some (.int .i64 m)) (hp0 : p ≠ 0) :
  Calls Tryz.prog 108 #[.pointer (some ⟨p, 0, none⟩)] w fun e w' => MGetPost M p (mgetS l b) w e w' := by
 have hw0 : 0 < w.heap.size := by
  have := World.block_lt_of_cell? w _ hm
  simpa using this
 have hkeepm : Hid (∀ W, Keeps [p] w W → W.cell? ⟨0, 0, none⟩ = some (.int .i64 m)) := fun W hb => (hb.cell (p := ⟨0, 0, none⟩) hw0 (by simp; omega)).trans hm
 have hpw := h.lt
 have hct := Lib.hid (count_any M p l b 128 (by omega) w h)
 have HS : Hid (mgetS l b = getEs (countS l b 128).1 (countS l b 128).2.1 (countS l b 128).2.2) := rfl
 have hcl := countS_len l b 128
 have hcm := countS_most l b 128
 obtain ⟨i0, hi0, hz0, hz1, hz2⟩ := info_parts infoEntry2
 have Hi0 := Lib.hid hi0; have Hz0 := Lib.hid hz0; have Hz1 := Lib.hid hz1; have Hz2 := Lib.hid hz2
 clear h hm hi0 hz0 hz1 hz2
 generalize mgetS l b = R at *
 generalize countS l b 128 = c at *
 obtain ⟨n, c2, c3⟩ := c
 simp only [] at hct HS hcl hcm
 go_enter Tryz.func108, Tryz.ntmps108
 go_wp2_with fail
 refine hct.out.mono ?_
 rintro e w1 ⟨rfl, hA1, hk1⟩
 have HA1 := Lib.hid hA1; have Hk1 := Lib.hid hk1
 clear hA1 hk1 hct
 go_wp2_with fail
 go_loopw [4, 9] (fun out i wr => ∃ (x : Nat) (qs : List (EntryD × Value)) (lx : List UInt8) (bx : Bool), i = .int .i64 x ∧ x ≤ n ∧ qs.length = x ∧ lx.length ≤ l.length ∧ Hid (R = preE (qs.map (·.1)) (getEs (n - x) lx bx)) ∧ Hid (wr.ownsRow w.heap.size 33 9 out qs.length (qs.flatMap eCell)) ∧ Hid (DsOwn w wr out qs) ∧ Hid (RdAt wr (out.ownBlock.toList ++ M) p lx bx) ∧ Hid (Keeps [p] w wr)) (fun _ i _ => n - (intOf i).toNat)
 case atStart => exact ⟨0, [], c2, c3, rfl, by omega, rfl, hcl, (show R = preE [] _ by rw [preE_nil]; exact HS.out), World.ownsRow_nil _ _ _ _, (show DsOwn _ _ _ _ from by intro q hq; cases hq), HA1.out, Hk1.out⟩
 case round =>
  obtain ⟨x, qs, lx, bx, rfl, hx, hql, hlx, HR, Hown, Hds, HA, Hk⟩ := hrel
  by_cases hlt : x < n
  ·have hx1 : (x : Int) < (n : Int) := by omega
   have HST : Hid (R = preE (qs.map (·.1)) (if (textS lx bx).2.2 = true ∨ (readE (textS lx bx).1).2 ≠ 0 then (none, (textS lx bx).2) else preE [(readE (textS lx bx).1).1] (getEs (n - (x + 1)) (textS lx bx).2.1 (textS lx bx).2.2))) := by
    show _ = _
    rw [HR.out, show n - x = (n - (x + 1)) + 1 by omega]; rfl
   have htl := textS_len lx bx
   have htx := Lib.hid (rtext_any (u4.ownBlock.toList ++ M) p lx bx wr HA.out)
   generalize textS lx bx = t at *
   obtain ⟨t1, t2, t3⟩ := t
   simp only [] at HST htl htx
   go_wp2_with fail
   refine htx.out.mono ?_
   rintro e w3 ⟨rfl, hA3, hk3⟩
   obtain ⟨cc, w4, cv, hk4, hsz4, hB4⟩ := bytes_of w3 t1
   have hK4 : Keeps [p] w w4 := (Hk.out.trans hk3 (by simp)).trans hk4 (by simp)
   have HA4 := Lib.hid (hA3.keep hk4 (by simp) (by simp))
   have Hk34 := Lib.hid (hk3.trans hk4 (by simp))
   have hrd := Lib.hid (eread_any _ t1 m w4 (hB4 [] (by simp)) (by omega) (hkeepm.out _ hK4))
   have HK4 := Lib.hid hK4
   have hsh := readH_short t1 (by omega)
   clear hA3 hk3 hk4 hB4 htx hK4 hsz4
   generalize readE t1 = r at *
   obtain ⟨re, rn⟩ := r
   simp only [] at HST hrd
   go_wp2_with fail
   refine hrd.out.mono ?_
   rintro e w5 ⟨dv, rfl, hD5, hb5⟩
   obtain ⟨Ad, cd, rfl, _⟩ := (hD5 [] (by simp)).len
   have HA5 := Lib.hid (HA4.out.keep (Keeps.of_below (M := []) hb5) (by simp) (by simp))
   have HK5 := Lib.hid (HK4.out.trans (Keeps.of_below (M := []) hb5) (by simp))
   have Hk35 := Lib.hid (Hk34.out.trans (Keeps.of_below (M := []) hb5) (by simp))
   have HD5 := Lib.hid (fun M hM => hD5 M (fun g hg => Nat.lt_of_lt_of_le (hM g hg) Hk34.out.size) : ∀ M, (∀ g ∈ M, g < wr.heap.size) → Ds w5 M (.slice Ad re.ds.length cd) re.ds)
   clear hD5 hb5 hrd cv hsh
   have Hsh := Lib.hid (⟨hql, hlx⟩ : _ ∧ _)
   obtain ⟨w6, hw6⟩ : ∃ w6, w6 = w5.alloc (.cells (eCell (re, .slice Ad re.ds.length cd)).toArray 33) := ⟨_, rfl⟩
   have hk6 : Keeps [] w5 w6 := by rw [hw6]; exact (Keeps.refl _ _).alloc _
   have hB6 : Blk w6 w5.heap.size 33 (eCell (re, .slice Ad re.ds.length cd)).toArray := by rw [hw6]; exact Blk.new w5 _ _
   have HA6 := Lib.hid (HA5.out.keep hk6 (by simp) (by simp)); have HK6 := Lib.hid (HK5.out.trans hk6 (by simp)); have Hk36 := Lib.hid (Hk35.out.trans hk6 (by simp))
   have HD6 : Hid (∀ M, (∀ g ∈ M, g < wr.heap.size) → Ds w6 M (.slice Ad re.ds.length cd) re.ds) := fun M hM => (HD5.out M hM).keep hk6 (by simp)
   have hbad := Lib.hid (bad_any (u4.ownBlock.toList ++ M) p t2 t3 w6 HA6.out)
   have Hw6 := Lib.hid hw6; have HB6 := Lib.hid hB6
   clear hk6 hw6 hB6 HA5 HK5 Hk35 HD5 HA4 HK4 Hk34
   obtain ⟨kind, ag, sh, seq, ep, ds, ser, fr, tag⟩ := re
   simp only [eCell] at Hw6 HB6 HD6 ⊢
   go_wp2_with fail
   rw [← Hw6.out]
   obtain ⟨q0, q1, q2, q3, q4, q5, q6, q7, q8, qf⟩ := blk9 HB6.out
   refine hbad.out.mono ?_
   rintro e w' ⟨rfl, rfl⟩
   clear hbad Hw6
   cases t3 with
   | true =>
    have hp : Hid (MGetPost M p R w (.returned (.tuple #[.slice none 0 0, .bool false])) w6) := by
     show MGetPost _ _ _ _ _ _
     rw [HST.out, if_pos (.inl rfl)]
     exact ⟨rfl, HK6.out⟩
    go_wp2
    go_ret2
    exact hp.out
   | false =>
    by_cases hrn : rn = 0
    ·have HST2 : Hid (R = preE (qs.map (·.1) ++ [⟨kind, ag, sh, seq, ep, ds, ser, fr, tag⟩]) (getEs (n - (x + 1)) t2 false)) := by
      show _ = _
      rw [HST.out, if_neg (by simp [hrn]), preE_pre]
     have hnn : ((rn : Int) != 0) = false := by simp [hrn]
     have hlt0 := Lib.hid Hown.out.lt
     have Hown6 := Lib.hid ((own_keep (Hown.out) Hk36.out (by simp; exact hpw)).alloc (.cells #[.int .i64 kind, .int .i64 ag, .int .i64 sh, .int .i64 seq, .int .i64 ep, .slice Ad ds.length cd, .string ser, .int .i64 fr, .int .i64 tag] 33))
     have hz6 : w.heap.size ≤ w6.heap.size := HK6.out.size
     have hm1 : qs.length + 1 ≤ maxLen := by unfold maxLen; omega
     have hm2 : (qs.length + 1) * 96 ≤ 140737488355328 := by omega
     have hb0 : w.heap.size ≤ (w6.alloc (.cells #[.int .i64 kind, .int .i64 ag, .int .i64 sh, .int .i64 seq, .int .i64 ep, .slice Ad ds.length cd, .string ser, .int .i64 fr, .int .i64 tag] 33)).heap.size := by simp; omega
     have Hm1 := Lib.hid hm1; have Hm2 := Lib.hid hm2; have Hb0 := Lib.hid hb0
     clear hm1 hm2 hb0 HST hrn
     go_wp2_with (at_builtin; go_must (refine wpList_append_any _ rfl (.tmp 24) (.tmp 26) _ rfl w.heap.size 33 i0 _ 9 96 Tryz.underlying35 Hi0.out Hz0.out Hz1.out Hz2.out rfl (by omega) u4 qs.length (qs.flatMap eCell) rfl Hown6.out (w6.heap.size + 1) (some ⟨w6.heap.size, 0, none⟩) 1 1 [.int .i64 kind, .int .i64 ag, .int .i64 sh, .int .i64 seq, .int .i64 ep, .slice Ad ds.length cd, .string ser, .int .i64 fr, .int .i64 tag] rfl (reads_new _ _ _ _ _ rfl) (by intro u hu; simp at hu; rcases hu with rfl | rfl | rfl | rfl | rfl | rfl | rfl | rfl | rfl <;> rfl) Hm1.out Hm2.out Hb0.out ?_))
     intro v8 w8 hown8 hg8 hat8
     have hpo : p ∉ u4.ownBlock.toList := fun hm => by have := (hlt0.out p (by simpa using hm)).1; omega
     have kg : Keeps u4.ownBlock.toList (w6.alloc (.cells #[.int .i64 kind, .int .i64 ag, .int .i64 sh, .int .i64 seq, .int .i64 ep, .slice Ad ds.length cd, .string ser, .int .i64 fr, .int .i64 tag] 33)) w8 := (Keeps.refl _ _).grown hg8 (fun g hg => .inl (by simpa using hg))
     have h1 := HA6.out.keep (M' := []) ((Keeps.refl _ _).alloc (.cells #[.int .i64 kind, .int .i64 ag, .int .i64 sh, .int .i64 seq, .int .i64 ep, .slice Ad ds.length cd, .string ser, .int .i64 fr, .int .i64 tag] 33)) (by simp) (by simp)
     have h2 := h1.avoid (M' := v8.ownBlock.toList ++ (u4.ownBlock.toList ++ M)) (fun g hg => by
      rcases List.mem_append.1 hg with h | h
      ·rcases hat8 with h5 | h5
       ·exact .inl (List.mem_append_left _ (by rw [h5] at h; exact h))
       ·rw [h5] at h; simp at h; exact .inr (by simp; omega)
      ·exact .inl h)
     have H8 := Lib.hid ((h2.keep kg (fun g hg => .inl (List.mem_append_right _ (List.mem_append_left _ hg))) hpo).avoid (M' := v8.ownBlock.toList ++ M) (fun g hg => by
      rcases List.mem_append.1 hg with h | h
      ·exact .inl (List.mem_append_left _ h)
      ·exact .inl (List.mem_append_right _ (List.mem_append_right _ h))))
     have Hk8 : Hid (Keeps [p] w w8) := (HK6.out.alloc _).grown hg8 (fun g hg => .inr (hlt0.out g hg).1)
     have Hds8 : Hid (DsOwn w w8 v8 (qs ++ [(⟨kind, ag, sh, seq, ep, ds, ser, fr, tag⟩, .slice Ad ds.length cd)])) :=
      dsOwn_stepK Hds.out Hk36.out (by simp; exact hpw) (fun g hg => (hlt0.out g hg).2) Hk.out.size HD6.out hg8 (by simpa using hat8)
     have Hown8 : Hid (w8.ownsRow w.heap.size 33 9 v8 (qs ++ [((⟨kind, ag, sh, seq, ep, ds, ser, fr, tag⟩ : EntryD), Value.slice Ad ds.length cd)]).length ((qs ++ [((⟨kind, ag, sh, seq, ep, ds, ser, fr, tag⟩ : EntryD), Value.slice Ad ds.length cd)]).flatMap eCell)) := by
      show World.ownsRow _ _ _ _ _ _ _
      rw [List.length_append, List.flatMap_append]
      simpa [eCell, hql] using hown8
     have HR8 : Hid (R = preE ((qs ++ [((⟨kind, ag, sh, seq, ep, ds, ser, fr, tag⟩ : EntryD), Value.slice Ad ds.length cd)]).map (·.1)) (getEs (n - (x + 1)) t2 false)) := by
      show _ = _
      rw [List.map_append]
      exact HST2.out
     clear hown8 hg8 hat8 kg h1 h2 hpo
     go_wp2
     go_roundw
     case rel => exact ⟨x + 1, _, t2, false, by go_num, by omega, by simp; omega, by omega, HR8, Hown8, Hds8, H8, Hk8⟩
     case measure => simp [intOf] <;> omega
    ·have hp : Hid (MGetPost M p R w (.returned (.tuple #[.slice none 0 0, .bool false])) w6) := by
      show MGetPost _ _ _ _ _ _
      rw [HST.out, if_pos (.inr hrn)]
      exact ⟨rfl, HK6.out⟩
     have hnn : ((rn : Int) != 0) = true := by simpa using hrn
     clear HST hrn
     go_wp2
     go_ret2
     exact hp.out
  ·obtain rfl : x = n := by omega
   have HRx : Hid (R = (some (qs.map (·.1)), lx, bx)) := by
    show _ = _
    rw [HR.out, Nat.sub_self]
    simp [getEs, preE]
   have hbad := Lib.hid (bad_any (u4.ownBlock.toList ++ M) p lx bx wr HA.out)
   have hp : Hid (MGetPost M p R w (.returned (.tuple #[u4, .bool (!bx)])) wr) := by
    show MGetPost _ _ _ _ _ _
    rw [HRx.out]
    exact ⟨u4, rfl, fun M' hM => ⟨qs, rfl, Rd.of_own Hown.out hM, fun q hq => Hds.out q hq M' (fun g hg => .inl (hM g hg))⟩, HA.out.avoid (fun g hg => .inl (List.mem_append_right _ hg)), Hk.out⟩
   go_wp2_with fail
   refine hbad.out.mono ?_
   rintro e w' ⟨rfl, rfl⟩
   go_wp2
   go_ret2
   exact hp.out
def zeroR : Array Value := #[.int .i64 0, .int .i64 0, .int .i64 0, .int .i64 0, .int .i64 0, .int .i64 0, .slice none 0 0, .string ⟨#[]⟩, .int .i64 0, .int .i64 0, .int .i64 0, .int .i64 0, .int .u64 0, .int .i64 0, .int .i64 0, .slice none 0 0, .int .i64 0, .int .i64 0]
structure RmAt (w0 w : World) (p g0 g6 : Nat) (c : Array Value) : Prop where
 keeps : Keeps [p] w0 w
 b0 : Blk w g0 37 zeroR
 b6 : Blk w g6 37 c
 o0 : w0.heap.size ≤ g0
 o1 : g0 < g6
 op : p < g0
theorem RmAt.step {w0 w w' : World} {p g0 g6 : Nat} {c : Array Value} (h : RmAt w0 w p g0 g6 c) (hk : Keeps [p] w w') : RmAt w0 w' p g0 g6 c := by
 have := h.o0; have := h.o1; have := h.op
 exact ⟨h.keeps.trans hk (by simp), hk.blk h.b0 (by simp; omega), hk.blk h.b6 (by simp; omega), h.o0, h.o1, h.op⟩
theorem RmAt.in6 {w0 w w' : World} {p g0 g6 : Nat} {c c' : Array Value} (h : RmAt w0 w p g0 g6 c) (hk : Keeps [g6] w w') (hB : Blk w' g6 37 c') : RmAt w0 w' p g0 g6 c' := by
 have := h.o0; have := h.o1; have := h.op
 exact ⟨h.keeps.trans hk (by intro g hg; simp at hg; right; omega), hk.blk h.b0 (by simp; omega), hB, h.o0, h.o1, h.op⟩
theorem RmAt.set {w0 w : World} {p g0 g6 : Nat} {c : Array Value} (h : RmAt w0 w p g0 g6 c) (i : Nat) (v : Value) : RmAt w0 (w.setCell ⟨g6, i, none⟩ v) p g0 g6 (c.setIfInBounds i v) :=
 h.in6 ((Keeps.refl _ _).setCell (by simp) v) (h.b6.set_ i v)

end Go.Proofs.YtdaceeijifjpeaaGreatDoor.Vi
end
section
namespace Go.Proofs.YtdaceeijifjpeaaGreatDoor.Vi
open Go.RowKit Base Mem Tape Go.Shelf
theorem textS_blob {e : EntryD} (h : EOk e) (r : List UInt8) : textS (eBlob e ++ r) false = (bytesE e, r, false) := by
 have hb := bytesE_big h
 exact textS_put (bytesE e) r (by omega)
theorem getEs_put (r : List UInt8) : ∀ (es : List EntryD), (∀ e ∈ es, EOk e) → getEs es.length (es.flatMap eBlob ++ r) false = (some es, r, false)
 | [], _ => rfl
 | e :: es, h => by
  have he := h e (by simp)
  rw [List.length_cons, List.flatMap_cons, List.append_assoc, getEs, textS_blob he]
  rw [read_bytes e he.1 he.2.2 he.2.1]
  rw [if_neg (by simp)]
  rw [getEs_put r es (fun x hx => h x (List.mem_cons_of_mem _ hx))]
  rfl
theorem mgetS_put (r : List UInt8) (es : List EntryD) (h : ∀ e ∈ es, EOk e) (hl : es.length ≤ 128) : mgetS (putLog es ++ r) false = (some es, r, false) := by
 have hc : countS (putLog es ++ r) false 128 = (es.length, es.flatMap eBlob ++ r, false) := by
  unfold putLog
  rw [List.append_assoc]
  exact countS_put es.length _ 128 hl (by omega)
 unfold mgetS
 rw [hc]
 exact getEs_put r es h
theorem blob_len {e : EntryD} (h : EntryOk e) : (eBlob e).length ≤ 1210 := by
 have h1 := bytesE_len h
 have h2 := Lib.uvarint_length64 (x := (bytesE e).length) (by omega)
 unfold eBlob
 rw [List.length_append]
 omega
theorem blobs_len : ∀ (l : List EntryD), (∀ e ∈ l, EntryOk e) → (l.flatMap eBlob).length ≤ l.length * 1210
 | [], _ => by simp
 | e :: l, h => by
  have ih := blobs_len l (fun x hx => h x (List.mem_cons_of_mem _ hx))
  have h1 := blob_len (h e (by simp))
  rw [List.flatMap_cons, List.length_append, List.length_cons]
  omega
theorem readF_bd {l x : List UInt8} {n : Nat} (h : readF l = some (x, n)) : 5 ≤ n ∧ n ≤ l.length ∧ x.length ≤ 65536 ∧ x.length ≤ n := by
 unfold readF at h
 have h0 := (getL_le l).1
 split at h
 ·cases h
 ·rename_i hc
  split at h
  ·injection h with h
   injection h with h1 h2
   subst h1 h2
   rw [List.length_take, List.length_drop]
   omega
  ·cases h
theorem scanF_step {f : Nat} {l : List UInt8} (h : l.length ≤ f) : scanF f l = match readF l with
  | none => ([], 0)
  | some (x, n) => (x :: (scanF (f - 1) (l.drop n)).1, n + (scanF (f - 1) (l.drop n)).2) := by
 cases f with
 | zero =>
  cases hr : readF l with
  | none => rfl
  | some p =>
   obtain ⟨x, n⟩ := p
   have := readF_bd hr
   omega
 | succ f => rfl
/-- All frames from the front on, and their bytes. -/
def scanS (l : List UInt8) : List (List UInt8) × Nat := scanF l.length l
theorem scanF_bd : ∀ (f : Nat) (l : List UInt8), (scanF f l).2 ≤ l.length ∧ (∀ x ∈ (scanF f l).1, x.length ≤ 65536) ∧ (scanF f l).1.length * 5 ≤ l.length
 | 0, l => by simp [scanF]
 | f + 1, l => by
  rw [scanF]
  cases hr : readF l with
  | none => simp
  | some p =>
   obtain ⟨x, n⟩ := p
   obtain ⟨h1, h2, h3, h4⟩ := readF_bd hr
   obtain ⟨a, b, c⟩ := scanF_bd f (l.drop n)
   rw [List.length_drop] at a c
   refine ⟨by simp only []; omega, fun y hy => ?_, by simp only [List.length_cons]; omega⟩
   rcases List.mem_cons.1 hy with rfl | hy
   ·exact h3
   ·exact b y hy
theorem scanS_bd (l : List UInt8) : (scanS l).2 ≤ l.length ∧ (∀ x ∈ (scanS l).1, x.length ≤ 65536) ∧ (scanS l).1.length * 5 ≤ l.length := scanF_bd _ _
theorem readF_nil : readF [] = none := by decide
theorem frames_len (rs : List (List UInt8)) : rs.length ≤ (rs.flatMap frameL).length := by
 induction rs with
 | nil => simp
 | cons x rs ih => rw [List.flatMap_cons, List.length_append, List.length_cons, frameL_len]; omega
theorem scanS_put (rs : List (List UInt8)) (h : ∀ l ∈ rs, l.length ≤ 65536) : scanS (rs.flatMap frameL) = (rs, (rs.flatMap frameL).length) := by
 have := scanF_put [] readF_nil rs (rs.flatMap frameL).length h (frames_len rs)
 rw [List.append_nil] at this
 exact this
/-- A replica's word. -/
structure WordD where
 t : Nat
 h : Nat
 log : List EntryD
/-- It may be written. -/
def WOk (x : WordD) : Prop := x.t ≤ 9223372036854775807 ∧ x.h ≤ 9223372036854775807 ∧ x.log.length ≤ 128 ∧ ∀ e ∈ x.log, EOk e
def recL (x : WordD) : List UInt8 := ([] ++ Lib.uvarint x.t) ++ Lib.uvarint x.h ++ putLog x.log
/-- The word that a record is, if it is one. -/
def readV (b : List UInt8) : Option WordD :=
 match mgetS (intS (intS b false).2.1 (intS b false).2.2).2.1 (intS (intS b false).2.1 (intS b false).2.2).2.2 with
 | (none, _) => none
 | (some es, l, bad) => if bad = false ∧ l.isEmpty = true then some ⟨(intS b false).1, (intS (intS b false).2.1 (intS b false).2.2).1, es⟩ else none
theorem getEs_ok : ∀ (n : Nat) (l : List UInt8) (b : Bool) (es : List EntryD) (r : List UInt8 × Bool), l.length < 4294967281 → getEs n l b = (some es, r) → es.length = n ∧ ∀ e ∈ es, EOk e
 | 0, l, b, es, r, _, h => by
  simp only [getEs] at h
  injection h with h _
  injection h with h
  subst h
  simp
 | n + 1, l, b, es, r, hl, h => by
  rw [getEs] at h
  split at h
  ·injection h with h _; cases h
  ·rename_i hc
   have ht := textS_len l b
   have ih := getEs_ok n (textS l b).2.1 (textS l b).2.2
   have hs := readH_short (textS l b).1 (by omega)
   generalize textS l b = t at *
   obtain ⟨t1, t2, t3⟩ := t
   simp only [] at *
   rcases hg : getEs n t2 t3 with ⟨_ | es', r'⟩
   ·rw [hg] at h; simp [preE] at h
   ·rw [hg] at h
    simp only [preE] at h
    injection h with h1 h2
    injection h1 with h1
    obtain ⟨i1, i2⟩ := ih es' r' (by omega) hg
    subst h1
    refine ⟨by simp; omega, fun e he => ?_⟩
    rcases List.mem_append.1 he with he | he
    ·simp at he
     subst he
     have h0 : (readE t1).2 = 0 := by
      rcases Nat.eq_zero_or_pos (readE t1).2 with h | h
      ·exact h
      ·exact absurd (.inr (by omega)) hc
     unfold readE at h0 ⊢
     split at h0
     ·rename_i hcc
      rw [if_pos hcc]
      exact ⟨hcc.2, hs.1, hs.2.2⟩
     ·cases h0
    ·exact i2 e he
theorem readV_ok {b : List UInt8} {x : WordD} (hl : b.length < 4294967281) (h : readV b = some x) : WOk x := by
 unfold readV at h
 have h1 := intS_lt b false
 have l1 := intS_len b false
 generalize intS b false = p at *
 obtain ⟨p1, p2, p3⟩ := p
 simp only [] at *
 have h2 := intS_lt p2 p3
 have l2 := intS_len p2 p3
 generalize intS p2 p3 = q at *
 obtain ⟨q1, q2, q3⟩ := q
 simp only [] at *
 rcases hg : mgetS q2 q3 with ⟨_ | es, l, bad⟩
 ·rw [hg] at h; cases h
 ·rw [hg] at h
  simp only [] at h
  split at h
  ·injection h with h
   subst h
   unfold mgetS at hg
   have hm := countS_most q2 q3 128
   have lc := countS_len q2 q3 128
   obtain ⟨a, b⟩ := getEs_ok _ _ _ _ _ (by omega) hg
   exact ⟨h1, h2, by simp only []; omega, b⟩
  ·cases h
theorem readV_put {x : WordD} (h : WOk x) : readV (recL x) = some x := by
 obtain ⟨h1, h2, h3, h4⟩ := h
 have e1 : intS (recL x) false = (x.t, Lib.uvarint x.h ++ putLog x.log, false) := by
  unfold recL
  rw [List.nil_append, List.append_assoc]
  exact intS_put _ _ h1
 unfold readV
 rw [e1]
 simp only []
 rw [intS_put _ _ h2]
 simp only []
 have := mgetS_put [] x.log h4 h3
 rw [List.append_nil] at this
 rw [this]
 simp
/-- The last word of some records. -/
def lastV (x : WordD) (rs : List (List UInt8)) : WordD := rs.foldl (fun x b => (readV b).getD x) x
def word0 : WordD := ⟨0, 0, []⟩
theorem word0_ok : WOk word0 := ⟨by simp [word0], by simp [word0], by simp [word0], by simp [word0]⟩
theorem lastV_snoc (x y : WordD) (rs : List (List UInt8)) (h : WOk y) : lastV x (rs ++ [recL y]) = y := by
 unfold lastV
 rw [List.foldl_append]
 simp [readV_put h]
end Go.Proofs.YtdaceeijifjpeaaGreatDoor.Vi
end
section
namespace Go.Proofs.YtdaceeijifjpeaaGreatDoor.Vi
open Go.RowKit Base Mem
theorem rdOwn_one {w w1 w2 : World} {out v' dv : Value} {o : Obj} {size n : Nat} {xs : List Value}
  (h : ∀ M', (∀ g ∈ M', g < w.heap.size ∨ out.ownBlock = some g) → Rd w1 M' size dv n xs)
  (hg : (w1.alloc o).grownBy w2 out.ownBlock) (hat : v'.ownBlock = out.ownBlock ∨ v'.ownBlock = some (w1.heap.size + 1)) (M' : List Nat) (hM : ∀ g ∈ M', g < w.heap.size ∨ v'.ownBlock = some g) : Rd w2 M' size dv n xs := by
 have h1 := h (out.ownBlock.toList ++ M'.filter (fun g => decide (g < w.heap.size))) (by
  intro g hg
  rcases List.mem_append.1 hg with h1 | h1
  ·right; simpa using h1
  ·left; simpa using (List.mem_filter.1 h1).2)
 have h2 : Rd (w1.alloc o) (out.ownBlock.toList ++ M'.filter (fun g => decide (g < w.heap.size))) size dv n xs := h1.keep (M' := []) ((Keeps.refl _ _).alloc o) (by simp)
 have h3 : Rd (w1.alloc o) (out.ownBlock.toList ++ M') size dv n xs := h2.avoid (by
  intro g hg
  rcases List.mem_append.1 hg with h1 | h1
  ·exact .inl (List.mem_append_left _ h1)
  ·rcases hM g h1 with h4 | h4
   ·exact .inl (List.mem_append_right _ (List.mem_filter.2 ⟨h1, by simpa using h4⟩))
   ·rcases hat with h5 | h5
    ·exact .inl (List.mem_append_left _ (by rw [h5] at h4; simpa using h4))
    ·rw [h5] at h4; injection h4 with h4; right; simp; omega)
 have h4 : Keeps out.ownBlock.toList (w1.alloc o) w2 := (Keeps.refl _ _).grown hg (fun g hg => .inl (by simpa using hg))
 exact (h3.keep h4 (fun g hg => .inl (List.mem_append_left _ hg))).avoid (fun g hg => .inl (List.mem_append_right _ hg))
/-- The rows that a row of the call's own holds lie in blocks that are neither old nor the row's. -/
def BsOwn (w wr : World) (out : Value) (qs : List (List UInt8 × Value)) : Prop := ∀ q ∈ qs, ∀ M', (∀ g ∈ M', g < w.heap.size ∨ out.ownBlock = some g) → Bs wr M' q.2 q.1
theorem bsOwn_step {w wr w1 w2 : World} {out v' dv' : Value} {o : Obj} {qs : List (List UInt8 × Value)} {e : List UInt8} (hds : BsOwn w wr out qs) (hb1 : Below wr.heap.size wr w1) (hlt : ∀ g, out.ownBlock = some g → g < wr.heap.size) (hw : w.heap.size ≤ wr.heap.size)
  (hnew : ∀ M', (∀ g ∈ M', g < wr.heap.size) → Bs w1 M' dv' e)
  (hg : (w1.alloc o).grownBy w2 out.ownBlock) (hat : v'.ownBlock = out.ownBlock ∨ v'.ownBlock = some (w1.heap.size + 1)) : BsOwn w w2 v' (qs ++ [(e, dv')]) := by
 intro q hq M' hM
 rcases List.mem_append.1 hq with h1 | h1
 ·exact rdOwn_one (fun M'' hM'' => Rd.keep (M' := []) (hds q h1 M'' hM'') (Keeps.of_below hb1) (by simp)) hg hat M' hM
 ·simp at h1
  subst h1
  exact rdOwn_one (fun M'' hM'' => hnew M'' (fun g hg => by rcases hM'' g hg with h | h; omega; exact hlt g h)) hg hat M' hM
/-- v reads as these rows of bytes. -/
def Bss (w : World) (M : List Nat) (v : Value) (rs : List (List UInt8)) : Prop :=
 ∃ qs : List (List UInt8 × Value), qs.map (·.1) = rs ∧ Rd w M 1 v qs.length (qs.map (·.2)) ∧ ∀ q ∈ qs, Bs w M q.2 q.1
theorem Bss.keep {w w' : World} {M M' : List Nat} {v : Value} {rs : List (List UInt8)} (h : Bss w M v rs) (k : Keeps M' w w') (hM : ∀ g ∈ M', g ∈ M ∨ w.heap.size ≤ g) : Bss w' M v rs := by
 obtain ⟨ps, hl, hr, hd⟩ := h
 exact ⟨ps, hl, hr.keep k hM, fun p hp => (hd p hp).keep k hM⟩
theorem Bss.len {w : World} {M : List Nat} {v : Value} {rs : List (List UInt8)} (h : Bss w M v rs) : ∃ A c, v = .slice A rs.length c ∧ rs.length ≤ c := by
 obtain ⟨ps, rfl, ⟨A, c, rfl, hc, _⟩, _⟩ := h
 exact ⟨A, c, by simp, by simpa using hc⟩
theorem Bss.at_ {w : World} {M : List Nat} {v : Value} {rs : List (List UInt8)} (h : Bss w M v rs) {k : Nat} (hk : k < rs.length) :
  ∃ g off cap bv, v = .slice (some ⟨g, off, none⟩) rs.length cap ∧ g < w.heap.size ∧ g ∉ M ∧ w.cell? ⟨g, off + k, none⟩ = some bv ∧ Bs w M bv rs[k] := by
 obtain ⟨ps, rfl, ⟨A, c, rfl, hc, _, hr⟩, hd⟩ := h
 have hk' : k < ps.length := by simpa using hk
 obtain ⟨g, off, rfl, hg, hm, hx⟩ := hr (by omega)
 exact ⟨g, off, c, ps[k].2, by simp, hg, hm, hx k _ (by rw [List.getElem?_map, List.getElem?_eq_getElem hk']; rfl), by simpa using hd ps[k] (List.getElem_mem _)⟩
theorem Bs.tail {w : World} {M : List Nat} {A : Option Addr} {c : Nat} {l : List UInt8} (h : Bs w M (.slice A l.length c) l) (a : Nat) (ha : a ≤ l.length) : Bs w M (.slice (if c = a then A else A.map (·.add a)) (l.length - a) (c - a)) (l.drop a) := by
 obtain ⟨A', c', e, hcc, hl, hr⟩ := h
 injection e with e1 _ e3
 subst e1 e3
 show Rd _ _ _ _ (l.drop a).length _
 rw [List.length_drop]
 refine ⟨_, c - a, rfl, by omega, by simp, fun hn => ?_⟩
 obtain ⟨g, off, rfl, hg, hm, hx⟩ := hr (by omega)
 rw [if_neg (by omega)]
 refine ⟨g, off + a, by simp [addr_add], hg, hm, fun j u hu => ?_⟩
 rw [Nat.add_assoc]
 refine hx (a + j) u ?_
 rw [List.getElem?_map] at hu ⊢
 rw [List.getElem?_drop] at hu
 exact hu
def ScPost (R : List (List UInt8) × Nat) (w : World) (e : Ending) (w' : World) : Prop :=
 ∃ v, e = .returned (.tuple #[v, .int .i64 R.2]) ∧ (∀ M, (∀ g ∈ M, g < w.heap.size) → Bss w' M v R.1) ∧ Below w.heap.size w w'
theorem infoB : (Tryz.prog.info? 73).map (fun i => (i.zero, i.size, i.bytes)) = some (some (.slice none 0 0), 1, 24) := by kernel_rfl
set_option maxRecDepth 100000 in
set_option maxHeartbeats 1000000 in
theorem scan_any (v : Value) (l : List UInt8) (w : World) (h : Bs w [] v l) (hl : l.length ≤ 100000000) :
  Calls Tryz.prog 105 #[v] w fun e w' => ScPost (scanS l) w e w' := by
 obtain ⟨i0, hi0, hz0, hz1, hz2⟩ := info_parts infoB
 have Hi0 := Lib.hid hi0; have Hz0 := Lib.hid hz0; have Hz1 := Lib.hid hz1; have Hz2 := Lib.hid hz2
 have H := Lib.hid h
 obtain ⟨A, c, rfl, hc⟩ := h.len
 have HS : Hid (scanS l = scanF l.length l) := rfl
 clear h hi0 hz0 hz1 hz2
 generalize scanS l = R at *
 obtain ⟨rs, rn⟩ := R
 go_enter Tryz.func105, Tryz.ntmps105
 go_wp2_with fail
 go_loopw [4, 5] (fun out ai wr => ∃ (a f : Nat) (qs : List (List UInt8 × Value)), ai = .int .i64 a ∧ a ≤ l.length ∧ l.length - a ≤ f ∧ qs.length * 5 ≤ a ∧ Hid ((rs, rn) = (qs.map (·.1) ++ (scanF f (l.drop a)).1, a + (scanF f (l.drop a)).2)) ∧ Hid (wr.ownsRow w.heap.size 73 1 out qs.length (qs.map (·.2))) ∧ Hid (BsOwn w wr out qs) ∧ Hid (Below w.heap.size w wr)) (fun _ ai _ => l.length - (intOf ai).toNat)
 case atStart => exact ⟨0, l.length, [], rfl, by omega, by omega, by simp, (by show _ = _; rw [HS.out]; simp), World.ownsRow_nil _ _ _ _, (show BsOwn _ _ _ _ from by intro q hq; cases hq), Below.refl _ _⟩
 case round =>
  obtain ⟨a, f, qs, rfl, ha, hf, hq5, HR, Hown, Hds, Hb⟩ := hrel
  have hai : (a : Int) ≤ (l.length : Int) := by omega
  have hstep := scanF_step (f := f) (l := l.drop a) (by rw [List.length_drop]; exact hf)
  have HBr := Lib.hid (H.out.keep (Keeps.of_below (M := []) Hb.out) (by simp))
  have hdl : (l.drop a).length = l.length - a := List.length_drop
  have HBn : Hid (¬ c = a → Bs wr [] (.slice (A.map (·.add a)) (l.length - a) (c - a)) (l.drop a)) := fun hn => by
   have := HBr.out.tail a ha
   rwa [if_neg hn] at this
  have HBe : Hid (c = a → Bs wr [] (.slice A (l.length - a) 0) (l.drop a)) := fun he => by
   have := HBr.out.tail a ha
   rwa [if_pos he, he, Nat.sub_self] at this
  have hf2 : Hid (∀ v, Bs wr [] v (l.drop a) → Calls Tryz.prog 132 #[v] wr fun e w' => FrRead (l.drop a) wr e w') := fun v hv => framer_any v (l.drop a) wr hv (by omega)
  have hac : (a : Int) ≤ (c : Int) := by omega
  have hbd := Lib.hid (fun x n (h : readF (l.drop a) = some (x, n)) => readF_bd h)
  rw [hdl] at hbd
  have HSt := Lib.hid hstep
  clear hstep HBr hdl
  have HF : Hid (∀ e W, FrRead (l.drop a) wr e W → (readF (l.drop a) = none ∧ e = .returned (.tuple #[.slice none 0 0, .int .i64 0, .bool false]) ∧ Below wr.heap.size wr W) ∨ (∃ x n, readF (l.drop a) = some (x, n) ∧ ∃ A c, e = .returned (.tuple #[.slice A x.length c, .int .i64 n, .bool true]) ∧ (∀ M, (∀ g ∈ M, g < wr.heap.size) → Bs W M (.slice A x.length c) x) ∧ Below wr.heap.size wr W)) := fun e W h => by
   unfold FrRead at h
   cases hr : readF (l.drop a) with
   | none => rw [hr] at h; exact .inl ⟨rfl, h⟩
   | some p => obtain ⟨x, n⟩ := p; rw [hr] at h; exact .inr ⟨x, n, rfl, h⟩
  go_wp2_with fail
  ·refine Calls.mono (by first | exact hf2.out _ (HBn.out (by assumption)) | exact hf2.out _ (HBe.out (by assumption)) | exact hf2.out _ (HBe.out rfl)) ?_
   intro e w3 hpost
   rcases HF.out _ _ hpost with ⟨hr, rfl, hb3⟩ | ⟨x, n, hr, A3, c3, rfl, hB3, hb3⟩
   ·have hp : Hid (ScPost (rs, rn) w (.returned (.tuple #[u4, .int .i64 a])) w3) := by
     have h1 := HSt.out
     rw [hr] at h1
     simp only [] at h1
     have h2 := HR.out
     rw [h1] at h2
     simp only [List.append_nil, Nat.add_zero] at h2
     rw [h2]
     refine ⟨u4, rfl, fun M hM => ⟨qs, rfl, ?_, fun q hq => (Hds.out q hq M (fun g hg => .inl (hM g hg))).keep (Keeps.of_below (M := []) hb3) (by simp)⟩, below_then Hb.out hb3⟩
     exact (Rd.of_own Hown.out hM).keep (Keeps.of_below (M := []) hb3) (by simp)
    clear hb3 hpost
    obtain ⟨Ao, co, e0⟩ : ∃ Ao co, u4 = .slice Ao qs.length co := by
     rcases Hown.out.2 with ⟨h, h'⟩ | ⟨g, cap, cur, h, _⟩
     ·exact ⟨none, 0, by rw [h, h']⟩
     ·exact ⟨_, _, h⟩
    subst e0
    go_wp2
    go_ret2
    exact hp.out
   ·obtain ⟨h5, hnl, hx6, hxn⟩ := hbd.out x n hr
    exfalso; omega
  ·refine Calls.mono (by first | exact hf2.out _ (HBn.out (by assumption)) | exact hf2.out _ (HBe.out (by assumption)) | exact hf2.out _ (HBe.out rfl)) ?_
   intro e w3 hpost
   rcases HF.out _ _ hpost with ⟨hr, rfl, hb3⟩ | ⟨x, n, hr, A3, c3, rfl, hB3, hb3⟩
   ·have hp : Hid (ScPost (rs, rn) w (.returned (.tuple #[u4, .int .i64 a])) w3) := by
     have h1 := HSt.out
     rw [hr] at h1
     simp only [] at h1
     have h2 := HR.out
     rw [h1] at h2
     simp only [List.append_nil, Nat.add_zero] at h2
     rw [h2]
     refine ⟨u4, rfl, fun M hM => ⟨qs, rfl, ?_, fun q hq => (Hds.out q hq M (fun g hg => .inl (hM g hg))).keep (Keeps.of_below (M := []) hb3) (by simp)⟩, below_then Hb.out hb3⟩
     exact (Rd.of_own Hown.out hM).keep (Keeps.of_below (M := []) hb3) (by simp)
    clear hb3 hpost
    obtain ⟨Ao, co, e0⟩ : ∃ Ao co, u4 = .slice Ao qs.length co := by
     rcases Hown.out.2 with ⟨h, h'⟩ | ⟨g, cap, cur, h, _⟩
     ·exact ⟨none, 0, by rw [h, h']⟩
     ·exact ⟨_, _, h⟩
    subst e0
    go_wp2
    go_ret2
    exact hp.out
   ·obtain ⟨h5, hnl, hx6, hxn⟩ := hbd.out x n hr
    have hown1 := Lib.hid ((own_below Hown.out hb3).alloc (.cells #[.slice A3 x.length c3] 73))
    have HB3 := Lib.hid hB3; have Hb3 := Lib.hid hb3
    clear hb3 hB3 hpost
    have hq6 : qs.length ≤ 20000000 := by omega
    simp only []
    go_wp2_with (at_builtin; refine wpList_append_any _ rfl (.tmp 21) (.tmp 23) _ rfl w.heap.size 73 i0 _ 1 24 Tryz.underlying109 Hi0.out Hz0.out Hz1.out Hz2.out rfl (by omega) u4 qs.length (qs.map (·.2)) rfl hown1.out (w3.heap.size + 1) (some ⟨w3.heap.size, 0, none⟩) 1 1 [.slice A3 x.length c3] rfl (reads_new _ _ _ _ _ rfl) ?_ ?_ ?_ ?_ ?_)
    ·intro u hu; simp at hu; subst hu; rfl
    ·unfold maxLen; omega
    ·omega
    ·have := Hb.out.size; have := Hb3.out.size; simp; omega
    ·intro v2 w2 hown2 hg2 hat2
     have hlt0 : ∀ g, u4.ownBlock = some g → w.heap.size ≤ g ∧ g < wr.heap.size := Hown.out.lt
     have R1 := Lib.hid (bsOwn_step (e := x) Hds.out Hb3.out (fun g hg => (hlt0 g hg).2) Hb.out.size HB3.out hg2 hat2)
     have R2 := Lib.hid (below_step Hb.out Hb3.out hg2 (fun g hg => (hlt0 g hg).1))
     have R3 : Hid (w2.ownsRow w.heap.size 73 1 v2 (qs ++ [(x, Value.slice A3 x.length c3)]).length ((qs ++ [(x, Value.slice A3 x.length c3)]).map (·.2))) := by
      show World.ownsRow _ _ _ _ _ _ _
      rw [List.map_append, List.length_append]
      simpa using hown2
     have R4 : Hid ((rs, rn) = ((qs ++ [(x, Value.slice A3 x.length c3)]).map (·.1) ++ (scanF (f - 1) (l.drop (a + n))).1, (a + n) + (scanF (f - 1) (l.drop (a + n))).2)) := by
      show _ = _
      have h1 := HSt.out
      rw [hr] at h1
      simp only [List.drop_drop] at h1
      rw [HR.out, h1]
      simp [Nat.add_assoc]
     clear hown2 hg2 hat2 hlt0 hown1 HB3
     go_wp2
     go_roundw
     case rel => exact ⟨a + n, f - 1, qs ++ [(x, .slice A3 x.length c3)], by go_num, by omega, by omega, by simp; omega, R4, R3, R1, R2.out⟩
     case measure => simp [intOf] <;> omega
/-- A log lies in block p, its disk in d. -/
def LgAt (w : World) (p : Nat) (Y : List Nat) (d : Nat) (b : List UInt8) (k n : Nat) : Prop :=
 Blk w p 172 #[.pointer (some ⟨d, 0, none⟩), .int .i64 n] ∧ DkAt w Y d b k ∧ p ∉ Y ∧ n ≤ b.length
theorem LgAt.keep {w w' : World} {M Y : List Nat} {p d k n : Nat} {b : List UInt8} (h : LgAt w p Y d b k n) (hk : Keeps M w w') (hM : ∀ g ∈ p :: Y, g ∉ M) : LgAt w' p Y d b k n :=
 ⟨hk.blk h.1 (hM p (by simp)), h.2.1.keep hk (fun g hg => hM g (by simp [hg])), h.2.2⟩
theorem LgAt.keep0 {w w' : World} {Y : List Nat} {p d k n : Nat} {b : List UInt8} (h : LgAt w p Y d b k n) (hk : Keeps [] w w') : LgAt w' p Y d b k n := h.keep hk (by simp)
theorem DkAt.inX {w : World} {X : List Nat} {d k : Nat} {b : List UInt8} (h : DkAt w X d b k) : d ∈ X := by obtain ⟨_, _, _, h, _⟩ := h; exact h
theorem DkAt.old {w : World} {X : List Nat} {d k : Nat} {b : List UInt8} (h : DkAt w X d b k) : ∀ g ∈ X, g < w.heap.size := by obtain ⟨_, _, _, _, _, _, _, h⟩ := h; exact h
theorem Bss.avoid {w : World} {M M' : List Nat} {v : Value} {rs : List (List UInt8)} (h : Bss w M v rs) (hM : ∀ g ∈ M', g ∈ M ∨ w.heap.size ≤ g) : Bss w M' v rs := by
 obtain ⟨ps, hl, hr, hd⟩ := h
 exact ⟨ps, hl, hr.avoid hM, fun p hp => (hd p hp).avoid hM⟩
def WoPost (Y : List Nat) (d : Nat) (b : List UInt8) (w : World) (e : Ending) (w' : World) : Prop :=
 ∃ p v, e = .returned (.tuple #[.pointer (some ⟨p, 0, none⟩), v]) ∧ w.heap.size ≤ p ∧ LgAt w' p Y d (b.take (scanS b).2) (scanS b).2 (scanS b).1.length ∧ (∀ M, (∀ g ∈ M, g < w.heap.size) → Bss w' (p :: M) v (scanS b).1) ∧ Keeps Y w w'
set_option maxRecDepth 100000 in
theorem wopen_any (Y : List Nat) (d k : Nat) (b : List UInt8) (w : World) (h : DkAt w Y d b k) :
  Calls Tryz.prog 63 #[.pointer (some ⟨d, 0, none⟩)] w fun e w' => WoPost Y d b w e w' := by
 have hle := h.le
 have H := Lib.hid h
 have hall := Lib.hid (dkall_any w h)
 obtain ⟨hs1, _, hs3⟩ := scanS_bd b
 have hsc : Hid (∀ W v, Bs W [] v b → Calls Tryz.prog 105 #[v] W fun e w' => ScPost (scanS b) W e w') := fun W v hv => scan_any v b W hv (by omega)
 have HP : Hid (∀ e W, WoPost Y d b w e W = ∃ p v, e = .returned (.tuple #[.pointer (some ⟨p, 0, none⟩), v]) ∧ w.heap.size ≤ p ∧ LgAt W p Y d (b.take (scanS b).2) (scanS b).2 (scanS b).1.length ∧ (∀ M, (∀ g ∈ M, g < w.heap.size) → Bss W (p :: M) v (scanS b).1) ∧ Keeps Y w W) := fun _ _ => rfl
 have hdY := h.inX
 have hN : Hid ((scanS b).1.length ≤ (scanS b).2) := by
  have : ∀ (f : Nat) (l : List UInt8), (scanF f l).1.length ≤ (scanF f l).2 := by
   intro f
   induction f with
   | zero => intro l; simp [scanF]
   | succ f ih =>
    intro l
    rw [scanF]
    cases hr : readF l with
    | none => simp
    | some p =>
     obtain ⟨x, n⟩ := p
     have := readF_bd hr
     have := ih (l.drop n)
     simp only [List.length_cons]; omega
  exact this _ _
 clear h
 generalize scanS b = R at *
 obtain ⟨rs, n⟩ := R
 simp only [] at hs1 hs3 HP hN
 go_enter Tryz.func63, Tryz.ntmps63
 go_wp2_with fail
 refine hall.out.mono ?_
 rintro e w1 ⟨v1, rfl, hown, hb1⟩
 have HB1 : Hid (Bs w1 [] v1 b) := by
  have := Rd.of_own (M := []) hown (by simp)
  exact this
 have Hk1 := Lib.hid (Keeps.of_below (M := []) hb1)
 clear hown hb1 hall
 go_wp2_with fail
 refine (hsc.out _ _ HB1.out).mono ?_
 rintro e w2 ⟨v2, rfl, hbs, hb2⟩
 have Hk2 := Lib.hid (Hk1.out.trans (Keeps.of_below (M := []) hb2) (by simp))
 have Hbs := Lib.hid (fun (M : List Nat) (hM : ∀ g ∈ M, g < w.heap.size) => hbs M (fun g hg => Nat.lt_of_lt_of_le (hM g hg) Hk1.out.size))
 clear hbs hb2 Hk1 HB1 hsc
 simp only []
 go_wp2_with fail
 refine (dkcut_any w2 (H.out.keep0 Hk2.out) n hs1).mono ?_
 rintro e w3 ⟨rfl, hD, hk3⟩
 have Hk3 : Hid (Keeps Y w w3) := (Hk2.out.mono (M' := Y) (by simp)).trans hk3 (fun g hg => by simp at hg; subst hg; exact .inl hdY)
 have hdw := H.out.lt
 have HB3 := Lib.hid (fun (M : List Nat) (hM : ∀ g ∈ M, g < w.heap.size) => ((Hbs.out (d :: M) (fun g hg => by rcases List.mem_cons.1 hg with rfl | hg; exact hdw; exact hM g hg)).keep hk3 (fun g hg => .inl (by simp at hg; simp [hg]))).avoid (M' := M) (fun g hg => .inl (by simp [hg])))
 have HD := Lib.hid hD
 have hlen : (b.take n).length = n := by rw [List.length_take]; omega
 have hR : Hid (WoPost Y d b w (.returned (.tuple #[.pointer (some ⟨w3.heap.size, 0, none⟩), v2])) (w3.alloc (.cells #[.pointer (some ⟨d, 0, none⟩), .int .i64 rs.length] 172))) := by
  show WoPost _ _ _ _ _ _
  have hka : Keeps [] w3 (w3.alloc (.cells #[.pointer (some ⟨d, 0, none⟩), .int .i64 rs.length] 172)) := (Keeps.refl _ _).alloc _
  rw [HP.out]
  refine ⟨w3.heap.size, v2, rfl, Hk3.out.size, ⟨Blk.new w3 _ _, HD.out.keep0 hka, fun hm => by have := HD.out.old _ hm; omega, by rw [hlen]; exact hN.out⟩, fun M hM => ?_, Hk3.out.trans hka (by simp)⟩
  exact ((HB3.out M hM).avoid (M' := w3.heap.size :: M) (fun g hg => by rcases List.mem_cons.1 hg with rfl | hg; exact .inr (Nat.le_refl _); exact .inl hg)).keep hka (by simp)
 obtain ⟨A2, c2, rfl, _⟩ := (HB3.out [] (by simp)).len
 clear hD hk3
 go_wp2
 go_ret2
 exact hR.out
def WaPost (p : Nat) (Y : List Nat) (d : Nat) (b l : List UInt8) (k n : Nat) (sync : Bool) (w : World) (e : Ending) (w' : World) : Prop :=
 if l.length ≤ 65536 ∧ b.length + (frameL l).length ≤ 1048576 then e = .returned (.int .i64 0) ∧ ∃ Y', LgAt w' p Y' d (b ++ frameL l) (if sync = true then b.length + (frameL l).length else k) (n + 1) ∧ Grows Y w Y' ∧ Keeps (p :: Y) w w'
 else ∃ c : Int, e = .returned (.int .i64 c) ∧ c ≠ 0 ∧ Keeps [] w w'
set_option maxRecDepth 100000 in
theorem wappend_any (p : Nat) (Y : List Nat) (d k n : Nat) (b : List UInt8) (w : World) (h : LgAt w p Y d b k n) (v : Value) (l : List UInt8) (hv : Bs w [] v l) :
  Calls Tryz.prog 140 #[.pointer (some ⟨p, 0, none⟩), v] w fun e w' => WaPost p Y d b l k n false w e w' := by
 have hle := h.2.1.le
 have hfl := frameL_len l
 have hnb := h.2.2.2
 have H := Lib.hid h
 have hp := h.1.lt
 by_cases hlong : 65536 < l.length
 ·have HP : Hid (∀ e W, (∃ c : Int, e = .returned (.int .i64 c) ∧ c ≠ 0 ∧ Keeps [] w W) → WaPost p Y d b l k n false w e W) := fun e W h => by unfold WaPost; rw [if_neg (by omega)]; exact h
  have hf := Lib.hid (frame_long v l w hv hlong)
  obtain ⟨A, c, rfl, _⟩ := hv.len
  clear h hv
  go_enter Tryz.func140, Tryz.ntmps140
  go_wp2_with fail
  refine hf.out.mono ?_
  rintro e w1 ⟨rfl, rfl⟩
  go_wp2
  go_ret
  exact HP.out _ _ ⟨3, rfl, by omega, Keeps.refl _ _⟩
 ·have hf := Lib.hid (frame_any v l w hv (by omega))
  obtain ⟨A, c, rfl, _⟩ := hv.len
  have hul := Lib.uvarint_length64 (x := l.length) (by omega)
  clear hv h
  have HP : Hid (∀ e W, (b.length + (frameL l).length ≤ 1048576 → e = .returned (.int .i64 0) ∧ ∃ Y', LgAt W p Y' d (b ++ frameL l) k (n + 1) ∧ Grows Y w Y' ∧ Keeps (p :: Y) w W) → (¬ b.length + (frameL l).length ≤ 1048576 → ∃ c : Int, e = .returned (.int .i64 c) ∧ c ≠ 0 ∧ Keeps [] w W) → WaPost p Y d b l k n false w e W) := fun e W h1 h2 => by
   unfold WaPost
   by_cases hr : b.length + (frameL l).length ≤ 1048576
   ·rw [if_pos ⟨by omega, hr⟩]; exact h1 hr
   ·rw [if_neg (by omega)]; exact h2 hr
  have HFr : Hid (∀ e W, FrPost l w e W → ∃ A c, e = .returned (.tuple #[.slice A (frameL l).length c, .int .i64 0]) ∧ (∀ M, (∀ g ∈ M, g < w.heap.size) → Bs W M (.slice A (frameL l).length c) (frameL l)) ∧ Below w.heap.size w W) := fun _ _ h => h
  generalize frameL l = x at *
  have hx5 : 5 ≤ x.length := by have := Lib.uvarint_pos l.length; omega
  have hx6 : x.length ≤ 65600 := by omega
  clear hfl hul
  go_enter Tryz.func140, Tryz.ntmps140
  go_wp2_with fail
  refine hf.out.mono ?_
  intro e w1 hfp
  obtain ⟨A1, c1, rfl, hB, hb1⟩ := HFr.out _ _ hfp
  have Hk1 := Lib.hid (Keeps.of_below (M := []) hb1)
  have HB := Lib.hid (hB [] (by simp))
  have HL1 := Lib.hid (H.out.keep0 Hk1.out)
  have q0 := HL1.out.1.cell 0
  simp only [List.getElem?_toArray, List.getElem?_cons_zero] at q0
  clear hB hb1 hf
  simp only []
  go_wp2_with fail
  refine (dkappend_any w1 HL1.out.2.1 _ x [] HB.out (by omega) (by omega)).mono ?_
  intro e w2 hpost
  by_cases hr : b.length + x.length ≤ 1048576
  ·unfold DaPost at hpost
   rw [if_pos hr] at hpost
   obtain ⟨rfl, Y', hD, hG, hK⟩ := hpost
   have hB2 : Blk w2 p 172 #[.pointer (some ⟨d, 0, none⟩), .int .i64 n] := hK.blk HL1.out.1 HL1.out.2.2.1
   have q1 := hB2.cell 1
   have f1 := hB2.frozen 1
   simp only [List.getElem?_toArray, List.getElem?_cons_succ, List.getElem?_cons_zero] at q1
   have hR : Hid (WaPost p Y d b l k n false w (.returned (.int .i64 0)) (w2.setCell ⟨p, 1, none⟩ (.int .i64 ((n : Int) + 1)))) := by
    refine HP.out _ _ (fun _ => ⟨rfl, Y', ?_, ?_, ?_⟩) (fun h => absurd hr h)
    ·have hk3 : Keeps [p] w2 (w2.setCell ⟨p, 1, none⟩ (.int .i64 ((n : Int) + 1))) := (Keeps.refl _ _).setCell (by simp) _
     have hpY : p ∉ Y' := fun hm => by
      rcases hG p hm with h | h
      ·exact HL1.out.2.2.1 h
      ·have := Hk1.out.size; omega
     refine ⟨?_, hD.keep hk3 (fun g hg => by rintro hm; simp at hm; subst hm; exact hpY hg), hpY, by rw [List.length_append]; omega⟩
     have := hB2.set_ 1 (.int .i64 ((n : Int) + 1))
     simpa using this
    ·intro g hg
     rcases hG g hg with h | h
     ·exact .inl h
     ·exact .inr (Nat.le_trans Hk1.out.size h)
    ·exact (((Hk1.out.mono (M' := p :: Y) (by simp)).trans hK (fun g hg => .inl (by simp [hg]))).setCell (by simp) _)
   clear hD hG hK hB2
   go_wp2
   go_ret
   exact hR.out
  ·unfold DaPost at hpost
   rw [if_neg hr] at hpost
   obtain ⟨rfl, rfl⟩ := hpost
   have hR : Hid (WaPost p Y d b l k n false w (.returned (.int .i64 24)) w1) := HP.out _ _ (fun h => absurd h hr) (fun _ => ⟨24, rfl, by omega, Hk1.out⟩)
   go_wp2
   go_ret
   exact hR.out
theorem wsync_any (p : Nat) (Y : List Nat) (d k n : Nat) (b : List UInt8) (w : World) (h : LgAt w p Y d b k n) :
  Calls Tryz.prog 141 #[.pointer (some ⟨p, 0, none⟩)] w fun e w' => e = .returned (.tuple #[]) ∧ LgAt w' p Y d b b.length n ∧ Keeps Y w w' := by
 have H := Lib.hid h
 have q0 := h.1.cell 0
 simp only [List.getElem?_toArray, List.getElem?_cons_zero] at q0
 have hs := Lib.hid (dksync_any w h.2.1)
 have hp := h.1.lt
 clear h
 go_enter Tryz.func141, Tryz.ntmps141
 go_wp2_with fail
 refine hs.out.mono ?_
 rintro e w1 ⟨rfl, hD, hk⟩
 have hR : Hid (LgAt w1 p Y d b b.length n ∧ Keeps Y w w1) := ⟨⟨hk.blk H.out.1 (by simp; rintro rfl; exact H.out.2.2.1 H.out.2.1.inX), hD, H.out.2.2⟩, hk.mono (fun g hg => by simp at hg; subst hg; exact .inl H.out.2.1.inX)⟩
 clear hD hk
 go_wp2
 go_end0
 exact ⟨rfl, hR.out⟩
set_option maxRecDepth 100000 in
theorem wwrite_any (p : Nat) (Y : List Nat) (d k n : Nat) (b : List UInt8) (w : World) (h : LgAt w p Y d b k n) (v : Value) (l : List UInt8) (hv : Bs w [] v l) :
  Calls Tryz.prog 112 #[.pointer (some ⟨p, 0, none⟩), v] w fun e w' => WaPost p Y d b l k n true w e w' := by
 have ha := Lib.hid (wappend_any p Y d k n b w h v l hv)
 obtain ⟨A, c, rfl, _⟩ := hv.len
 have hlen : (b ++ frameL l).length = b.length + (frameL l).length := List.length_append
 clear h hv
 by_cases hr : l.length ≤ 65536 ∧ b.length + (frameL l).length ≤ 1048576
 ·have HP : Hid (∀ e W, (e = .returned (.int .i64 0) ∧ ∃ Y', LgAt W p Y' d (b ++ frameL l) (b.length + (frameL l).length) (n + 1) ∧ Grows Y w Y' ∧ Keeps (p :: Y) w W) → WaPost p Y d b l k n true w e W) := fun e W h => by unfold WaPost; rw [if_pos hr]; exact h
  have HA : Hid (∀ e W, WaPost p Y d b l k n false w e W → (e = .returned (.int .i64 0) ∧ ∃ Y', LgAt W p Y' d (b ++ frameL l) k (n + 1) ∧ Grows Y w Y' ∧ Keeps (p :: Y) w W)) := fun e W h => by unfold WaPost at h; rw [if_pos hr] at h; exact h
  go_enter Tryz.func112, Tryz.ntmps112
  go_wp2_with fail
  refine ha.out.mono ?_
  intro e w1 hpost
  obtain ⟨rfl, Y', hL, hG, hK⟩ := HA.out _ _ hpost
  have HL := Lib.hid hL; have HG := Lib.hid hG; have HK := Lib.hid hK
  clear hL hG hK hpost
  go_wp2_with fail
  refine (wsync_any p Y' d k (n + 1) _ w1 HL.out).mono ?_
  rintro e w2 ⟨rfl, hL2, hk2⟩
  have hR : Hid (WaPost p Y d b l k n true w (.returned (.int .i64 0)) w2) := by
   refine HP.out _ _ ⟨rfl, Y', by rw [← hlen]; exact hL2, HG.out, HK.out.trans hk2 (fun g hg => ?_)⟩
   rcases HG.out g hg with h | h
   ·exact .inl (by simp [h])
   ·exact .inr h
  clear hL2 hk2
  go_wp2
  go_ret
  exact hR.out
 ·have HP : Hid (∀ e W, (∃ c : Int, e = .returned (.int .i64 c) ∧ c ≠ 0 ∧ Keeps [] w W) → WaPost p Y d b l k n true w e W) := fun e W h => by unfold WaPost; rw [if_neg hr]; exact h
  have HA : Hid (∀ e W, WaPost p Y d b l k n false w e W → ∃ c : Int, e = .returned (.int .i64 c) ∧ c ≠ 0 ∧ Keeps [] w W) := fun e W h => by unfold WaPost at h; rw [if_neg hr] at h; exact h
  go_enter Tryz.func112, Tryz.ntmps112
  go_wp2_with fail
  refine ha.out.mono ?_
  intro e w1 hpost
  obtain ⟨x, rfl, hx, hk⟩ := HA.out _ _ hpost
  have hR : Hid (WaPost p Y d b l k n true w (.returned (.int .i64 x)) w1) := HP.out _ _ ⟨x, rfl, hx, hk⟩
  have hx0 : (x == 0) = false := by simpa using hx
  clear hpost hk
  go_wp2
  go_ret
  exact hR.out
end Go.Proofs.YtdaceeijifjpeaaGreatDoor.Vi
end
