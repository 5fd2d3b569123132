/- hopperlaw22.known: chapter 22's runs. -/
import Derived.Test.YtinnifhnabncfaaSetsU
namespace Go.Proofs.Ytinnifhnabncfaa.Sets
open Go.RowKit Base Mem Go.Shelf Go.Lib
theorem uni_nil : uni [] = [] := by simp [uni, ded]
theorem uni_one (x : IdentD) : uni [x] = [x] := sorted_ext _ _ (uni_sorted _) (by simp) fun y => by rw [uni_mem]
theorem uni_twice (x : IdentD) : uni ([x] ++ [x]) = [x] := by
  have := uni_self [x]
  rw [uni_one] at this
  exact this
theorem uni_two : uni ([⟨2, 0, 1⟩] ++ [⟨2, 0, 1⟩, ⟨0, 0, 0⟩]) = [⟨0, 0, 0⟩, ⟨2, 0, 1⟩] :=
  sorted_ext _ _ (uni_sorted _) (by decide) fun y => by
    rw [uni_mem]
    simp only [List.cons_append, List.nil_append, List.mem_cons, List.not_mem_nil, or_false]
    constructor
    · rintro (h | h | h) <;> simp [h]
    · rintro (h | h) <;> simp [h]
/-- The runs' state: the story in block p, an ident in block q. -/
structure KSt (w0 W : World) (p q : Nat) (rb : Option Nat) (ac re : List IdentD) (rd : List Int) : Prop where
  st : StAt W p p rb ac re rd
  id : Blk W q 58 #[.int .i64 2, .int .i64 0, .int .i64 1]
  lt : p < q
  ne : ∀ g, rb = some g → g ≠ q
  lo : ∀ g, rb = some g → p ≤ g
  below : Below p w0 W
section
variable {w0 W W' : World} {p q : Nat} {rb : Option Nat} {ac re ac' re' : List IdentD} {rd rd' : List Int}
theorem KSt.keep (h : KSt w0 W p q rb ac re rd) (k : Keeps [] W W') : KSt w0 W' p q rb ac re rd :=
  ⟨h.st.keep k, k.blk h.id (by simp), h.lt, h.ne, h.lo, h.below.trans (k.belowB (Nat.le_of_lt h.st.lt) (by simp))⟩
theorem kst_add {args : Array Value} (h : KSt w0 W p q rb ac re rd) (hc : Calls Try.prog 63 args W fun e w' => AddPost p p rb ac' re' rd' W e w') :
    Calls Try.prog 63 args W fun e w' => e = .returned (.tuple #[]) ∧ ∃ rb', KSt w0 w' p q rb' ac' re' rd' := by
  refine hc.mono ?_
  rintro e w' ⟨rfl, ⟨rb', hst, hrb⟩, hk⟩
  have hq : q < W.heap.size := h.id.lt
  refine ⟨rfl, rb', hst, hk.blk h.id ?_, h.lt, ?_, ?_, h.below.trans (hk.belowB (Nat.le_of_lt h.st.lt) ?_)⟩
  · intro hm
    rcases List.mem_cons.1 hm with hm | hm
    · have := h.lt; omega
    · exact h.ne q (by simpa using hm) rfl
  · intro g hg
    rcases hrb with h1 | ⟨g', h2, h1⟩
    · exact h.ne g (h1 ▸ hg)
    · rw [h1] at hg; injection hg with hg; omega
  · intro g hg
    rcases hrb with h1 | ⟨g', h2, h1⟩
    · exact h.lo g (h1 ▸ hg)
    · rw [h1] at hg; injection hg with hg; have := h.lt; omega
  · intro g hg
    rcases List.mem_cons.1 hg with hg | hg
    · omega
    · exact h.lo g (by simpa using hg)
end
def KnownPost (w : World) (e : Ending) (w' : World) : Prop := e = .returned (.bool true) ∧ Below w.heap.size w w'
theorem nil_ids (w : World) : Ids w [] (.slice none 0 0) [] := ⟨none, 0, rfl, Nat.le_refl _, rfl, fun h => absurd h (by simp)⟩
set_option maxRecDepth 100000 in
set_option maxHeartbeats 1000000 in
theorem known_any (w : World) : Calls Try.prog 37 #[] w fun e w' => KnownPost w e w' := by
  go_enter Try.func37, Try.ntmps37
  go_wp2_with fail
  refine (new_any w).mono ?_
  rintro e w1 ⟨rfl, hS, hb⟩
  have hpq := hS.lt
  have k1 : Keeps [] w1 (w1.alloc (.cells #[.int .i64 2, .int .i64 0, .int .i64 1] 58)) := (Keeps.refl [] w1).alloc _
  have H0 := Lib.hid (show KSt w (w1.alloc (.cells #[.int .i64 2, .int .i64 0, .int .i64 1] 58)) w.heap.size w1.heap.size none [] [] [] from
    ⟨hS.keep k1, Blk.new w1 _ _, hpq, (fun g hg => by cases hg), (fun g hg => by cases hg), hb.trans (k1.belowB hb.size (by simp))⟩)
  clear hS hb k1
  have Hpost := Lib.hid (fun (W : World) (h : Below w.heap.size w W) => (show KnownPost w (.returned (.bool true)) W from ⟨rfl, h⟩))
  go_wp2_with fail
  refine (kst_add H0.out (add_off _ _ _ [] [] [] 3 0 0 0 ⟨#[]⟩ 0 0 1 ⟨2, 0, 1⟩ 0 0 _ H0.out.st (by decide))).mono ?_
  rintro e w2 ⟨rfl, rb2, h2⟩
  generalize hp : w.heap.size = p at *
  generalize hq : w1.heap.size = q at *
  have H2 := Lib.hid h2
  clear h2 H0 hpq
  have i0 : ∀ {W : World} {rb ac re rd}, KSt w W p q rb ac re rd → W.cell? ⟨q, 0, none⟩ = some (.int .i64 2) ∧ W.cell? ⟨q, 1, none⟩ = some (.int .i64 0) ∧ W.cell? ⟨q, 2, none⟩ = some (.int .i64 1) := fun h => ⟨h.id.cell 0, h.id.cell 1, h.id.cell 2⟩
  have I0 := Lib.hid (fun (W : World) rb ac re rd (h : KSt w W p q rb ac re rd) => i0 h)
  clear i0
  go_wp2_with fail
  refine (acked_any _ _ _ _ _ _ _ H2.out.st (by simp)).mono ?_
  rintro e w3 ⟨v3, rfl, ho, hb⟩
  have H3 := Lib.hid (H2.out.keep (Keeps.of_below (M := []) hb))
  obtain ⟨A3, c3, rfl⟩ := own_sl ho
  obtain ⟨e0, e1, e2⟩ := I0.out _ _ _ _ _ H3.out
  clear ho hb H2
  go_wp2_with fail
  refine (kst_add H3.out (add_acked _ _ _ _ _ _ 0 0 0 ⟨#[]⟩ 0 2 ⟨2, 0, 1⟩ 0 0 _ H3.out.st (.inr rfl) (by simp))).mono ?_
  rintro e w4 ⟨rfl, rb4, h4⟩
  rw [List.nil_append, uni_one] at h4
  have H4 := Lib.hid h4
  clear h4 H3 e0 e1 e2
  obtain ⟨e0, e1, e2⟩ := I0.out _ _ _ _ _ H4.out
  go_wp2_with fail
  refine (kst_add H4.out (add_acked _ _ _ _ _ _ 0 0 0 ⟨#[]⟩ 0 1 ⟨2, 0, 1⟩ 0 0 _ H4.out.st (.inl rfl) (by simp))).mono ?_
  rintro e w5 ⟨rfl, rb5, h5⟩
  rw [uni_twice] at h5
  have H5 := Lib.hid h5
  clear h5 H4 e0 e1 e2
  go_wp2_with fail
  refine (kst_add H5.out (add_value _ _ _ _ _ _ 0 0 0 ⟨#[]⟩ 0 ⟨0, 0, 0⟩ 7 0 _ H5.out.st (Nat.le_of_lt H5.out.st.lt) (by simp))).mono ?_
  rintro e w6 ⟨rfl, rb6, h6⟩
  have H6 := Lib.hid h6
  clear h6 H5
  go_wp2_with fail
  refine (kst_add H6.out (add_refused _ _ _ _ _ _ 0 0 1 ⟨#[]⟩ 0 ⟨0, 0, 3⟩ 0 0 _ H6.out.st (by simp))).mono ?_
  rintro e w7 ⟨rfl, rb7, h7⟩
  rw [List.nil_append, uni_one] at h7
  have H7 := Lib.hid h7
  clear h7 H6
  go_wp2_with fail
  refine (acked_any _ _ _ _ _ _ _ H7.out.st (by simp)).mono ?_
  rintro e w8 ⟨v8, rfl, ho, hb⟩
  have H8 := Lib.hid (H7.out.keep (Keeps.of_below (M := []) hb))
  obtain ⟨A8, c8, rfl⟩ := own_sl ho
  clear ho hb H7
  simp only [List.length_cons, List.length_nil]
  go_wp2_with fail
  refine (reads_any _ _ _ _ _ _ _ H8.out.st (by simp)).mono ?_
  rintro e w9 ⟨v9, rfl, ho, hb⟩
  have H9 := Lib.hid (H8.out.keep (Keeps.of_below (M := []) hb))
  obtain ⟨A9, c9, rfl⟩ := own_sl ho
  clear ho hb H8
  simp only [List.length_cons, List.length_nil, List.nil_append]
  go_wp2_with fail
  refine (reads_any _ _ _ _ _ _ _ H9.out.st (by simp)).mono ?_
  rintro e w10 ⟨v10, rfl, ho, hb⟩
  have H10 := Lib.hid (H9.out.keep (Keeps.of_below (M := []) hb))
  obtain ⟨A10, c10, rfl, _, _, hr⟩ := own_rd ho
  obtain ⟨g10, o10, rfl, _, _, hx⟩ := hr (by simp)
  have x0 := hx 0 _ rfl
  clear ho hb H9 hr hx
  rw [Nat.add_zero] at x0
  simp only [List.length_cons, List.length_nil, List.nil_append]
  go_wp2_with fail
  refine (refused_any _ _ _ _ _ _ _ H10.out.st (by simp)).mono ?_
  rintro e w11 ⟨v11, rfl, ho, hb⟩
  have H11 := Lib.hid (H10.out.keep (Keeps.of_below (M := []) hb))
  obtain ⟨A11, c11, rfl⟩ := own_sl ho
  clear ho hb H10 x0
  simp only [List.length_cons, List.length_nil, List.nil_append]
  go_wp2_with fail
  refine (within_any _ _ [] [] _ (nil_ids _) (nil_ids _) (by simp) (by simp)).mono ?_
  rintro e w12 ⟨rfl, hb⟩
  have H12 := Lib.hid (H11.out.keep (Keeps.of_below (M := []) hb))
  clear hb H11
  obtain ⟨e0, e1, e2⟩ := I0.out _ _ _ _ _ H12.out
  have hb12 := Blk.new w12 58 #[.int .i64 2, .int .i64 0, .int .i64 1]
  have id12 := Lib.hid (ids_of_blk (l := [⟨2, 0, 1⟩]) (rest := []) (M := []) hb12 (by simp))
  clear hb12
  go_wp2_with fail
  refine (within_any _ _ [⟨2, 0, 1⟩] [] _ id12.out (nil_ids _) (by simp) (by simp)).mono ?_
  rintro e w13 ⟨rfl, hb⟩
  have H13 := Lib.hid ((H12.out.keep ((Keeps.refl [] w12).alloc _)).keep (Keeps.of_below (M := []) hb))
  clear hb H12 id12 e0 e1 e2
  obtain ⟨e0, e1, e2⟩ := I0.out _ _ _ _ _ H13.out
  have hk13 := (Keeps.refl [] w13).alloc (.cells #[.int .i64 2, .int .i64 0, .int .i64 1] 58)
  obtain ⟨a0, a1, a2⟩ := I0.out _ _ _ _ _ (H13.out.keep hk13)
  have hA := Blk.new w13 58 #[.int .i64 2, .int .i64 0, .int .i64 1]
  have hB := Blk.new (w13.alloc (.cells #[.int .i64 2, .int .i64 0, .int .i64 1] 58)) 58 #[.int .i64 2, .int .i64 0, .int .i64 1, .int .i64 0, .int .i64 0, .int .i64 0]
  have hk14 := (Keeps.refl [] (w13.alloc (.cells #[.int .i64 2, .int .i64 0, .int .i64 1] 58))).alloc (.cells #[.int .i64 2, .int .i64 0, .int .i64 1, .int .i64 0, .int .i64 0, .int .i64 0] 58)
  have H14 := Lib.hid ((H13.out.keep hk13).keep hk14)
  have hIa := ids_of_blk (l := [⟨2, 0, 1⟩]) (rest := []) (M := []) (hk14.blk hA (by simp)) (by simp)
  have hsz : (w13.alloc (.cells #[.int .i64 2, .int .i64 0, .int .i64 1] 58)).heap.size = w13.heap.size + 1 := by simp
  rw [hsz] at hB
  have hIb := ids_of_blk (l := [⟨2, 0, 1⟩, ⟨0, 0, 0⟩]) (rest := []) (M := []) hB (by simp)
  have hU := Lib.hid (union_any _ _ _ _ _ hIa hIb (by simp) (by simp))
  clear hA hB hIa hIb hk13 hk14 hsz
  go_wp2_with fail
  refine hU.out.mono ?_
  rintro e w15 ⟨v15, rfl, hI, hb⟩
  have H15 := Lib.hid (H14.out.keep (Keeps.of_below (M := []) hb))
  obtain ⟨A15, c15, rfl, _⟩ := (hI [] (by simp)).len
  rw [uni_two]
  have hp15 := Lib.hid (Hpost.out _ H15.out.below)
  clear hI hb hU H13 H14 a0 a1 a2 e0 e1 e2
  simp only [List.length_cons, List.length_nil]
  go_wp2
  go_ret
  exact hp15.out
end Go.Proofs.Ytinnifhnabncfaa.Sets
