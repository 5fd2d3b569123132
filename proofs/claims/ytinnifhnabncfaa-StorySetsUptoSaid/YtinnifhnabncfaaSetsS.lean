/- story.Story: its state; New, Add, Acked, Refused, Reads. -/
import Derived.Test.YtinnifhnabncfaaSets9
namespace Go.Proofs.Ytinnifhnabncfaa.Sets
open Go.RowKit Base Mem Go.Shelf Go.Lib
theorem own_apart {M : List Nat} {w w1 : World} {base : Nat} {e : TypeId} {size n : Nat} {v : Value} {xs : List Value} (h : w.ownsRow base e size v n xs) (hk : Keeps M w w1) (hM : ∀ g, v.ownBlock = some g → g ∉ M) : w1.ownsRow base e size v n xs := by
  obtain ⟨hl, h⟩ := h
  refine ⟨hl, ?_⟩
  rcases h with h | ⟨g, cap, cur, hv, hb, hg, rest⟩
  · exact .inl h
  · exact .inr ⟨g, cap, cur, hv, hb, (hk.block g (Array.getElem?_eq_some_iff.1 hg).1 (hM g (by rw [hv]; rfl))).trans hg, rest⟩
/-- A story lies in block p: acked, refused, reads; all of it is of the call's own, from block base on. -/
def StAt (w : World) (base p : Nat) (rb : Option Nat) (ac re : List IdentD) (rd : List Int) : Prop :=
  base ≤ p ∧ ∃ va vr vn, Blk w p 113 #[va, vr, vn] ∧ (∀ M, (∀ g ∈ M, g < base ∨ g = p ∨ vn.ownBlock = some g) → Ids w M va ac ∧ Ids w M vr re) ∧ w.ownsRow base 22 1 vn rd.length (rd.map (Value.int .u64)) ∧ (∀ g, vn.ownBlock = some g → g ≠ p ∧ g < w.heap.size) ∧ vn.ownBlock = rb
section
variable {w w' : World} {base p : Nat} {rb : Option Nat} {ac re : List IdentD} {rd : List Int}
theorem StAt.lt (h : StAt w base p rb ac re rd) : p < w.heap.size := by obtain ⟨_, _, _, _, hB, _⟩ := h; exact hB.lt
theorem StAt.keep (h : StAt w base p rb ac re rd) (k : Keeps [] w w') : StAt w' base p rb ac re rd := by
  obtain ⟨h0, va, vr, vn, hB, hI, ho, hn, hrb⟩ := h
  exact ⟨h0, va, vr, vn, k.blk hB (by simp), fun M hM => ⟨(hI M hM).1.keep k (by simp), (hI M hM).2.keep k (by simp)⟩, own_apart ho k (by simp), fun g hg => ⟨(hn g hg).1, Nat.lt_of_lt_of_le (hn g hg).2 k.size⟩, hrb⟩
/-- A new row is stored as what was acked. -/
theorem StAt.set0 (h : StAt w base p rb ac re rd) {w3 : World} {v : Value} {l : List IdentD} (hb : Below w.heap.size w w3) (hv : ∀ M, (∀ g ∈ M, g < w.heap.size) → Ids w3 M v l) : StAt (w3.setCell ⟨p, 0, none⟩ v) base p rb l re rd := by
  have hlt := h.lt
  have k := Keeps.of_below (M := []) hb
  obtain ⟨h0, va, vr, vn, hB, hI, ho, hn, hrb⟩ := h
  have ks : Keeps [p] w3 (w3.setCell ⟨p, 0, none⟩ v) := (Keeps.refl _ _).setCell (by simp) _
  refine ⟨h0, v, vr, vn, by simpa using (k.blk hB (by simp)).set_ 0 v, fun M hM => ⟨?_, ?_⟩, own_apart (own_apart ho k (by simp)) ks (fun g hg hm => (hn g hg).1 (by simpa using hm)), fun g hg => ⟨(hn g hg).1, Nat.lt_of_lt_of_le (hn g hg).2 (Nat.le_trans k.size ks.size)⟩, hrb⟩
  · refine ((hv (p :: M) (by intro g hg; rcases List.mem_cons.1 hg with rfl | hg; exact hlt; rcases hM g hg with h | h | h; omega; omega; exact (hn g h).2)).keep ks (fun g hg => .inl (by simp at hg; simp [hg]))).avoid (fun g hg => .inl (List.mem_cons_of_mem _ hg))
  · exact (((hI (p :: M) (by intro g hg; rcases List.mem_cons.1 hg with rfl | hg; exact .inr (.inl rfl); exact hM g hg)).2.keep k (by simp)).keep ks (fun g hg => .inl (by simp at hg; simp [hg]))).avoid (fun g hg => .inl (List.mem_cons_of_mem _ hg))
theorem StAt.set1 (h : StAt w base p rb ac re rd) {w3 : World} {v : Value} {l : List IdentD} (hb : Below w.heap.size w w3) (hv : ∀ M, (∀ g ∈ M, g < w.heap.size) → Ids w3 M v l) : StAt (w3.setCell ⟨p, 1, none⟩ v) base p rb ac l rd := by
  have hlt := h.lt
  have k := Keeps.of_below (M := []) hb
  obtain ⟨h0, va, vr, vn, hB, hI, ho, hn, hrb⟩ := h
  have ks : Keeps [p] w3 (w3.setCell ⟨p, 1, none⟩ v) := (Keeps.refl _ _).setCell (by simp) _
  refine ⟨h0, va, v, vn, by simpa using (k.blk hB (by simp)).set_ 1 v, fun M hM => ⟨?_, ?_⟩, own_apart (own_apart ho k (by simp)) ks (fun g hg hm => (hn g hg).1 (by simpa using hm)), fun g hg => ⟨(hn g hg).1, Nat.lt_of_lt_of_le (hn g hg).2 (Nat.le_trans k.size ks.size)⟩, hrb⟩
  · exact (((hI (p :: M) (by intro g hg; rcases List.mem_cons.1 hg with rfl | hg; exact .inr (.inl rfl); exact hM g hg)).1.keep k (by simp)).keep ks (fun g hg => .inl (by simp at hg; simp [hg]))).avoid (fun g hg => .inl (List.mem_cons_of_mem _ hg))
  · refine ((hv (p :: M) (by intro g hg; rcases List.mem_cons.1 hg with rfl | hg; exact hlt; rcases hM g hg with h | h | h; omega; omega; exact (hn g h).2)).keep ks (fun g hg => .inl (by simp at hg; simp [hg]))).avoid (fun g hg => .inl (List.mem_cons_of_mem _ hg))
/-- A number is put onto what was read. -/
theorem StAt.set2 (h : StAt w base p rb ac re rd) (hbase : base ≤ w.heap.size) {w3 : World} {va vr vn v : Value} {n : Int} (hvn : Blk w p 113 #[va, vr, vn]) (hown : w3.ownsRow base 22 1 v (rd.length + 1) (rd.map (Value.int .u64) ++ [.int .u64 n])) (hg : w.grownBy w3 vn.ownBlock) (hat : v.ownBlock = vn.ownBlock ∨ v.ownBlock = some w.heap.size) : StAt (w3.setCell ⟨p, 2, none⟩ v) base p v.ownBlock ac re (rd ++ [n]) := by
  have hlt := h.lt
  obtain ⟨h0, va', vr', vn', hB, hI, ho, hn, hrb⟩ := h
  have e : #[va', vr', vn'] = #[va, vr, vn] := by unfold Blk at hB hvn; rw [hB] at hvn; injection hvn with h; injection h
  injection e with e; injection e with e1 e2; injection e2 with e2 e3; injection e3 with e3 _
  subst e1 e2 e3
  have k : Keeps vn'.ownBlock.toList w w3 := (Keeps.refl _ _).grown hg (fun g hg => .inl (by simpa using hg))
  have ks : Keeps [p] w3 (w3.setCell ⟨p, 2, none⟩ v) := (Keeps.refl _ _).setCell (by simp) _
  have hpn : p ∉ vn'.ownBlock.toList := fun hm => (hn p (by simpa using hm)).1 rfl
  have hvb : ∀ g, v.ownBlock = some g → g ≠ p ∧ g < w3.heap.size := by
    intro g hgv
    rcases hat with h | h
    · rw [h] at hgv; exact ⟨(hn g hgv).1, Nat.lt_of_lt_of_le (hn g hgv).2 k.size⟩
    · have hl := (hown.lt g hgv).2
      rw [h] at hgv; injection hgv with hgv
      exact ⟨by omega, hl⟩
  have hIds : ∀ M, (∀ g ∈ M, g < base ∨ g = p ∨ v.ownBlock = some g) → ∀ x l, (∀ M, (∀ g ∈ M, g < base ∨ g = p ∨ vn'.ownBlock = some g) → Ids w M x l) → Ids (w3.setCell ⟨p, 2, none⟩ v) M x l := by
    intro M hM x l hx
    have h1 := hx (p :: (vn'.ownBlock.toList ++ M.filter (fun g => decide (g < base ∨ g = p)))) (by
      intro g hg
      rcases List.mem_cons.1 hg with rfl | hg
      · exact .inr (.inl rfl)
      rcases List.mem_append.1 hg with hg | hg
      · exact .inr (.inr (by simpa using hg))
      · have := (List.mem_filter.1 hg).2
        simp at this
        rcases this with h | h
        · exact .inl h
        · exact .inr (.inl h))
    have h2 : Ids w (p :: (vn'.ownBlock.toList ++ M)) x l := h1.avoid (by
      intro g hg
      rcases List.mem_cons.1 hg with rfl | hg
      · exact .inl (by simp)
      rcases List.mem_append.1 hg with hg | hg
      · exact .inl (by simp; exact .inr (.inl (by simpa using hg)))
      · rcases hM g hg with h | h | h
        · exact .inl (by simp; exact .inr (.inr ⟨hg, .inl h⟩))
        · exact .inl (by simp [h])
        · rcases hat with h5 | h5
          · exact .inl (by simp; exact .inr (.inl (by rw [← h5]; exact h)))
          · rw [h5] at h; injection h with h; exact .inr (by omega))
    refine ((h2.keep k (fun g hg => .inl (by simp; exact .inr (.inl (by simpa using hg))))).keep ks (fun g hg => .inl (by simp at hg; simp [hg]))).avoid (fun g hg => .inl (by simp [hg]))
  refine ⟨h0, va', vr', v, by simpa using (k.blk hB hpn).set_ 2 v, fun M hM => ⟨hIds M hM _ _ (fun M h => (hI M h).1), hIds M hM _ _ (fun M h => (hI M h).2)⟩, ?_, fun g hg => ⟨(hvb g hg).1, Nat.lt_of_lt_of_le (hvb g hg).2 ks.size⟩, rfl⟩
  refine own_apart ?_ ks (fun g hg hm => (hvb g hg).1 (by simpa using hm))
  simpa using hown
end
theorem new_any (w : World) : Calls Try.prog 62 #[] w fun e w' => e = .returned (.pointer (some ⟨w.heap.size, 0, none⟩)) ∧ StAt w' w.heap.size w.heap.size none [] [] [] ∧ Below w.heap.size w w' := by
  have hS : Hid (StAt (w.alloc (.cells #[.slice none 0 0, .slice none 0 0, .slice none 0 0] 113)) w.heap.size w.heap.size none [] [] [] ∧ Below w.heap.size w (w.alloc (.cells #[.slice none 0 0, .slice none 0 0, .slice none 0 0] 113))) := by
    refine ⟨⟨Nat.le_refl _, _, _, _, Blk.new w _ _, fun M _ => ⟨?_, ?_⟩, World.ownsRow_nil _ _ _ _, (fun g hg => by cases hg), rfl⟩, (Below.refl _ _).alloc (Nat.le_refl _) _⟩
    · exact ⟨none, 0, rfl, Nat.le_refl _, rfl, fun h => absurd h (by simp)⟩
    · exact ⟨none, 0, rfl, Nat.le_refl _, rfl, fun h => absurd h (by simp)⟩
  go_enter Try.func62, Try.ntmps62
  go_wp2
  go_ret
  exact ⟨rfl, hS.out.1, hS.out.2⟩
def AddPost (base p : Nat) (rb : Option Nat) (ac re : List IdentD) (rd : List Int) (w : World) (e : Ending) (w' : World) : Prop :=
  e = .returned (.tuple #[]) ∧ (∃ rb', StAt w' base p rb' ac re rd ∧ (rb' = rb ∨ ∃ g, w.heap.size ≤ g ∧ rb' = some g)) ∧ Keeps (p :: rb.toList) w w'
def actV (k a b n : Int) (s : ByteArray) : Value := .agg #[.int .i64 k, .int .i64 a, .int .i64 b, .int .i64 n, .string s]
def evV (why nd code : Int) (x : IdentD) (n bag : Int) : Value := .agg #[.int .i64 why, .int .i64 nd, .int .i64 code, .int .i64 x.ag, .int .i64 x.sh, .int .i64 x.seq, .int .u64 n, .int .i64 bag]
theorem add_off (base p : Nat) (rb : Option Nat) (ac re : List IdentD) (rd : List Int) (k a b n : Int) (s : ByteArray) (why nd code : Int) (x : IdentD) (nn bag : Int) (w : World) (h : StAt w base p rb ac re rd) (hk : k ≠ 2) :
    Calls Try.prog 63 #[.pointer (some ⟨p, 0, none⟩), actV k a b n s, evV why nd code x nn bag] w fun e w' => AddPost base p rb ac re rd w e w' := by
  have hd : (k != 2) = true := by simpa using hk
  obtain ⟨x1, x2, x3⟩ := x
  have hS : Hid (∀ o1 o2 q, AddPost base p rb ac re rd w (.returned (.tuple #[])) (((w.alloc o1).alloc o2).drewN q)) := fun o1 o2 q =>
    ⟨rfl, ⟨rb, h.keep ((((Keeps.refl _ _).alloc o1).alloc o2).drewN q), .inl rfl⟩, ((((Keeps.refl _ _).alloc o1).alloc o2).drewN q)⟩
  clear h hk
  simp only [actV, evV]
  go_enter Try.func63, Try.ntmps63
  go_wp2
  go_end0
  exact hS.out _ _ 0
end Go.Proofs.Ytinnifhnabncfaa.Sets
