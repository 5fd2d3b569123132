/- Texts put together: Msg6, MGet, Msg7. -/
import Derived.Laws.IdiomStrings
import Derived.Test.YtinnifhnabncfaaGreatDoorMN3
import Derived.Test.YtinnifhnabncfaaGreatDoorMN4
import Derived.Test.YtinnifhnabncfaaGreatDoorMN5
set_option linter.unusedVariables false
set_option linter.unusedSimpArgs false
section
namespace Go.Proofs.YtinnifhnabncfaaGreatDoor.Vi
open Go.RowKit Base Mem Tape Go.Shelf
theorem rowsEq_iff : ∀ (a b : List EntryD), rowsEq a b = true ↔ a = b
 | [], [] => by simp [rowsEq, Lib.allEq]
 | [], _ :: _ => by simp [rowsEq, Lib.allEq]
 | _ :: _, [] => by simp [rowsEq, Lib.allEq]
 | x :: xs, y :: ys => by
  have ih := rowsEq_iff xs ys
  unfold rowsEq at ih ⊢
  rw [Lib.allEq, Bool.and_eq_true, sameE_iff, ih, List.cons.injEq]
theorem sameM_iff (a b : MsgD) : sameM a b = true ↔ a = b := by
 obtain ⟨a0, a1, a2, a3, a4, a5, a6, a7, a8, a9⟩ := a
 obtain ⟨b0, b1, b2, b3, b4, b5, b6, b7, b8, b9⟩ := b
 simp only [sameM, Bool.and_eq_true, sameE_iff, rowsEq_iff, beq_iff_eq, MsgD.mk.injEq]
 constructor
 ·rintro ⟨⟨h1, h2⟩, ⟨⟨⟨⟨⟨⟨⟨h3, h4⟩, h5⟩, h6⟩, h7⟩, h8⟩, h9⟩, h10⟩⟩
  exact ⟨h3, h1, h4, h5, h6, h7, h8, h2, h9, h10⟩
 ·rintro ⟨h3, h1, h4, h5, h6, h7, h8, h2, h9, h10⟩
  exact ⟨⟨h1, h2⟩, ⟨⟨⟨⟨⟨⟨⟨h3, h4⟩, h5⟩, h6⟩, h7⟩, h8⟩, h9⟩, h10⟩⟩
theorem zeroS_of {m : MsgD} (h : clearM m = zeroM) : zeroS m = true := by
 unfold zeroS
 rw [h]
 exact (sameM_iff _ _).2 rfl
def zero18 : Array Value := #[.int .i64 0, .int .i64 0, .int .i64 0, .int .i64 0, .int .i64 0, .int .i64 0, .slice none 0 0, .string ⟨#[]⟩, .int .i64 0, .int .i64 0, .int .i64 0, .int .i64 0, .int .u64 0, .int .i64 0, .int .i64 0, .slice none 0 0, .int .i64 0, .int .i64 0]
structure StM (w0 w : World) (b : Nat) (L : TapeL) (k g0 g1 : Nat) (c1 : Array Value) : Prop where
 tape : TapeAt w b L k
 keeps : Keeps [b] w0 w
 b0 : Blk w g0 68 zero18
 b1 : Blk w g1 68 c1
 lt0 : b < g0
 lt1 : g0 < g1
 old : w0.heap.size ≤ g0
theorem StM.keep {w0 w w' : World} {b : Nat} {L : TapeL} {k k' g0 g1 : Nat} {c1 : Array Value} (h : StM w0 w b L k g0 g1 c1) (hT : TapeAt w' b L k') (hk : Keeps [b] w w') : StM w0 w' b L k' g0 g1 c1 := by
 have := h.lt0; have := h.lt1; have := h.old
 exact ⟨hT, h.keeps.trans hk (by simp), hk.blk h.b0 (by simp; omega), hk.blk h.b1 (by simp; omega), h.lt0, h.lt1, h.old⟩
theorem StM.in1 {w0 w w' : World} {b : Nat} {L : TapeL} {k g0 g1 : Nat} {c1 c2 : Array Value} (h : StM w0 w b L k g0 g1 c1) (hk : Keeps [g1] w w') (hB : Blk w' g1 68 c2) : StM w0 w' b L k g0 g1 c2 := by
 have := h.lt0; have := h.lt1; have := h.old
 exact ⟨h.tape.keep hk (by intro g hg; simp at hg; omega), h.keeps.trans hk (by intro g hg; simp at hg; right; omega), hk.blk h.b0 (by simp; omega), hB, h.lt0, h.lt1, h.old⟩
theorem StM.set {w0 w : World} {b : Nat} {L : TapeL} {k g0 g1 : Nat} {c1 : Array Value} (h : StM w0 w b L k g0 g1 c1) (i : Nat) (v : Value) : StM w0 (w.setCell ⟨g1, i, none⟩ v) b L k g0 g1 (c1.setIfInBounds i v) :=
 h.in1 ((Keeps.refl _ _).setCell (by simp) v) (h.b1.set_ i v)
theorem stm_next {w0 w : World} {b : Nat} {L : TapeL} {k g0 g1 : Nat} {c1 : Array Value} (h : StM w0 w b L k g0 g1 c1) (n : Int) (hn : 1 ≤ n) :
  Calls Tryz.prog 62 #[.pointer (some ⟨b, 0, none⟩), .int .i64 n] w fun e w' => ∃ (v : Int) (k' : Nat), e = .returned (.int .i64 v) ∧ (0 ≤ v ∧ v < n) ∧ Hid (StM w0 w' b L k' g0 g1 c1) ∧ Hid (Keeps [b] w w') :=
 (next_any b L k n w h.tape).mono fun _ _ ⟨v, k', he, h0, h1, hT, hk⟩ => ⟨v, k', he, ⟨h0, h1 hn⟩, h.keep hT hk, hk⟩
theorem stm_entry {w0 w : World} {b : Nat} {L : TapeL} {k g0 g1 : Nat} {c1 : Array Value} (h : StM w0 w b L k g0 g1 c1) :
  Calls Tryz.prog 16 #[.pointer (some ⟨b, 0, none⟩)] w fun e w' => ∃ (en : EntryD) (A : Option Addr) (c k' : Nat), e = .returned (.agg (eCell (en, .slice A en.ds.length c)).toArray) ∧ Hid (EntryOk en) ∧ Hid (∀ M, (∀ g ∈ M, g ≤ g1) → Ds w' M (.slice A en.ds.length c) en.ds) ∧ Hid (StM w0 w' b L k' g0 g1 c1) :=
 (entry_any b L k w h.tape).mono fun _ _ ⟨en, dv, k', he, hok, hD, hT, hk⟩ => by
  obtain ⟨A, c, rfl, _⟩ := (hD [] (by simp)).len
  exact ⟨en, A, c, k', he, hok, fun M hM => hD M (fun g hg => Nat.lt_of_le_of_lt (hM g hg) h.b1.lt), h.keep hT hk⟩
theorem stm_log {w0 w : World} {b : Nat} {L : TapeL} {k g0 g1 : Nat} {c1 : Array Value} (h : StM w0 w b L k g0 g1 c1) :
  Calls Tryz.prog 80 #[.pointer (some ⟨b, 0, none⟩), .int .i64 4] w fun e w' => ∃ (l : List EntryD) (A : Option Addr) (c k' : Nat), e = .returned (.slice A l.length c) ∧ Hid ((∀ en ∈ l, EntryOk en) ∧ l.length ≤ 4) ∧ Hid (∀ M, (∀ g ∈ M, g ≤ g1) → Ens w' M (.slice A l.length c) l) ∧ Hid (StM w0 w' b L k' g0 g1 c1) :=
 (log_any b L k 4 w h.tape (by omega) (by omega)).mono fun _ _ ⟨v, l, k', he, hok, hl, hE, hT, hk⟩ => by
  obtain ⟨A, c, rfl, _⟩ := (hE [] (by simp)).len
  exact ⟨l, A, c, k', he, ⟨hok, by omega⟩, fun M hM => hE M (fun g hg => Nat.lt_of_le_of_lt (hM g hg) h.b1.lt), h.keep hT hk⟩
/-- A tape's message. -/
def MsgOk (m : MsgD) : Prop := (m.en = zeroD ∨ EntryOk m.en) ∧ (∀ e ∈ m.log, EntryOk e) ∧ m.log.length ≤ 4 ∧ (1 ≤ m.kd ∧ m.kd ≤ 6) ∧ (0 ≤ m.tag ∧ m.tag < 100) ∧ (0 ≤ m.code ∧ m.code < 100) ∧ (0 ≤ m.nn ∧ m.nn < 100) ∧ (0 ≤ m.term ∧ m.term < 100) ∧ (0 ≤ m.had ∧ m.had < 100) ∧ (0 ≤ m.commit ∧ m.commit < 100) ∧ (0 ≤ m.len ∧ m.len < 100) ∧ zeroS m = true ∧ (m.kd ≠ 1 → m.en = zeroD) ∧ (m.kd = 1 → EntryOk m.en)
def MsgPost (b : Nat) (L : TapeL) (w : World) (e : Ending) (w' : World) : Prop := ∃ (m : MsgD) (dv lv : Value) (k' : Nat), e = .returned (.agg (mCell m dv lv).toArray) ∧ MsgOk m ∧ (∀ M, (∀ g ∈ M, g < w.heap.size) → MsgAt w' M m dv lv) ∧ TapeAt w' b L k' ∧ Keeps [b] w w'
theorem msg_fin {w w5 w7 : World} {b : Nat} {L : TapeL} {k g0 g1 : Nat} {c1 : Array Value} (h : StM w w5 b L k g0 g1 c1) (hk : Keeps [g0] w5 w7) (m : MsgD) (dv lv : Value) (hc : c1 = (mCell m dv lv).toArray) (hok : MsgOk m)
  (hD : ∀ M, (∀ g ∈ M, g ≤ g1) → MsgAt w5 M m dv lv) : MsgPost b L w (.returned (.agg c1)) w7 := by
 have := h.lt0; have := h.lt1; have := h.old
 refine ⟨m, dv, lv, k, by rw [hc], hok, fun M hM => ?_, h.tape.keep hk (by intro g hg; simp at hg; omega), h.keeps.trans hk (by intro g hg; simp at hg; right; omega)⟩
 exact ((hD (g0 :: M) (by intro g hg; rcases List.mem_cons.1 hg with rfl | hg; omega; have := hM g hg; omega)).keep hk (by simp)).avoid (fun g hg => .inl (List.mem_cons_of_mem _ hg))
/-- Behind stores into the message's own block. -/
theorem MsgAt.in1 {w w' : World} {g1 : Nat} {m : MsgD} {dv lv : Value} (h : ∀ M, (∀ g ∈ M, g ≤ g1) → MsgAt w M m dv lv) (hk : Keeps [g1] w w') : ∀ M, (∀ g ∈ M, g ≤ g1) → MsgAt w' M m dv lv := fun M hM =>
 ((h (g1 :: M) (by intro g hg; rcases List.mem_cons.1 hg with rfl | hg; omega; exact hM g hg)).keep hk (by simp)).avoid (fun g hg => .inl (List.mem_cons_of_mem _ hg))
set_option maxRecDepth 100000 in
set_option maxHeartbeats 400000 in
theorem msg_any (b : Nat) (L : TapeL) (k : Nat) (w : World) (h : TapeAt w b L k) :
  Calls Tryz.prog 43 #[.pointer (some ⟨b, 0, none⟩)] w fun e w' => MsgPost b L w e w' := by
 have hbw := h.lt
 have H := Lib.hid h
 clear h
 go_enter Tryz.func43, Tryz.ntmps43
 go_upto_region 1 with (fail)
 have hT0 : TapeAt (w.alloc (.cells zero18 68)) b L k := H.out.keep (M' := []) ((Keeps.refl _ _).alloc _) (by simp)
 have hB0 : Blk (w.alloc (.cells zero18 68)) w.heap.size 68 zero18 := Blk.new w _ _
 have hK0 : Keeps [b] w (w.alloc (.cells zero18 68)) := (Keeps.refl _ _).alloc _
 have hsz : w.heap.size < (w.alloc (.cells zero18 68)).heap.size := by simp
 obtain ⟨w1, hw1⟩ : ∃ w1, w1 = w.alloc (.cells #[.int .i64 0, .int .i64 0, .int .i64 0, .int .i64 0, .int .i64 0, .int .i64 0, .slice none 0 0, .string ⟨#[]⟩, .int .i64 0, .int .i64 0, .int .i64 0, .int .i64 0, .int .u64 0, .int .i64 0, .int .i64 0, .slice none 0 0, .int .i64 0, .int .i64 0] 68) := ⟨_, rfl⟩
 rw [← hw1]
 rw [show (w.alloc (.cells zero18 68)) = w1 from hw1.symm] at hT0 hB0 hK0 hsz
 generalize hg0 : w.heap.size = g0 at *
 have hbg : b < g0 := hbw
 have HT0 := Lib.hid hT0; have HB0 := Lib.hid hB0; have HK0 := Lib.hid hK0; have Hg0 := Lib.hid hg0
 clear hw1 hT0 hB0 hK0 hg0 H
 go_wp2_with fail
 refine (next_any b L k 6 w1 HT0.out).mono ?_
 rintro e w2 ⟨v, k2, rfl, hv0, hv1, hT2, hK2⟩
 have hv2 := hv1 (by omega)
 have HT2 := Lib.hid hT2; have HK2 := Lib.hid (HK0.out.trans hK2 (by simp)); have HB2 := Lib.hid (hK2.blk HB0.out (by simp; omega))
 have hg2 : g0 < w2.heap.size := HB2.out.lt
 clear hv1 hT2 hK2 HT0 HB0 HK0 hsz
 go_wp2_with (refine wpList_store_blk rfl 68 (.tmp 3) (.tmp 8) rfl w2.heap.size 0 68 _ #[.int .i64 (1 + v), .int .i64 0, .int .i64 0, .int .i64 0, .int .i64 0, .int .i64 0, .slice none 0 0, .string ⟨#[]⟩, .int .i64 0, .int .i64 0, .int .i64 0, .int .i64 0, .int .u64 0, .int .i64 0, .int .i64 0, .slice none 0 0, .int .i64 0, .int .i64 0] #[.int .i64 (1 + v), .int .i64 0, .int .i64 0, .int .i64 0, .int .i64 0, .int .i64 0, .slice none 0 0, .string ⟨#[]⟩, .int .i64 0, .int .i64 0, .int .i64 0, .int .i64 0, .int .u64 0, .int .i64 0, .int .i64 0, .slice none 0 0, .int .i64 0, .int .i64 0] rfl rfl (Blk.new _ _ _) (by show 0 + 18 ≤ 18; omega) rfl (by kernel_rfl) rfl ?_; intro w3 hk3 hB3; have Hk3 := Lib.hid hk3; have HB3 := Lib.hid hB3; clear hk3 hB3)
 have H3 : Hid (StM w w3 b L k2 g0 w2.heap.size #[.int .i64 (1 + v), .int .i64 0, .int .i64 0, .int .i64 0, .int .i64 0, .int .i64 0, .slice none 0 0, .string ⟨#[]⟩, .int .i64 0, .int .i64 0, .int .i64 0, .int .i64 0, .int .u64 0, .int .i64 0, .int .i64 0, .slice none 0 0, .int .i64 0, .int .i64 0]) := by
  have ha : Keeps [w2.heap.size] w2 w3 := ((Keeps.refl _ _).alloc _).trans Hk3.out (by simp)
  exact ⟨HT2.out.keep ha (by intro x hx; simp at hx; omega), HK2.out.trans ha (by intro x hx; simp at hx; right; have := Hg0.out; omega), ha.blk HB2.out (by simp; omega), HB3.out, hbg, hg2, by have := Hg0.out; omega⟩
 generalize w2.heap.size = g1 at *
 generalize hkd : 1 + v = kd at *
 have hk1 : 1 ≤ kd := by omega
 have hk6 : kd ≤ 6 := by omega
 clear Hk3 HB3 hkd hv0 hv2 HT2 HK2 HB2 hg2
 refine (stm_next H3.out 12 (by omega)).mono ?_
 rintro e w4 ⟨tm, k4, rfl, ⟨ht0, ht1⟩, H4, _⟩
 clear H3
 obtain rfl | rfl | rfl | rfl | rfl | rfl : kd = 1 ∨ kd = 2 ∨ kd = 3 ∨ kd = 4 ∨ kd = 5 ∨ kd = 6 := by omega
 ·clear hk1 hk6
  obtain ⟨q0, q1, q2, q3, q4, q5, q6, q7, q8, q9, qa, qb, qc, qd, qe, qf, qg, qh, qz⟩ := blk18 H4.out.b1
  go_wp2_with fail
  refine (stm_entry H4.out).mono ?_
  rintro e w5 ⟨en, Ae, ce, k5, rfl, Hok, Hde, H5⟩
  clear q0 q1 q2 q3 q4 q5 q6 q7 q8 q9 qa qb qc qd qe qf qg qh qz
  go_wp2_with (first | (refine wpList_store_blk rfl 26 (.tmp 22) (.tmp 21) rfl g1 1 68 #[.int .i64 1, .int .i64 0, .int .i64 0, .int .i64 0, .int .i64 0, .int .i64 0, .slice none 0 0, .string ⟨#[]⟩, .int .i64 0, .int .i64 0, .int .i64 0, .int .i64 0, .int .u64 0, .int .i64 0, .int .i64 0, .slice none 0 0, .int .i64 0, .int .i64 0] #[.int .i64 1, .int .i64 en.kind, .int .i64 en.ag, .int .i64 en.sh, .int .i64 en.seq, .int .i64 en.ep, .slice Ae en.ds.length ce, .string en.ser, .int .i64 en.fr, .int .i64 en.tag, .int .i64 0, .int .i64 0, .int .u64 0, .int .i64 0, .int .i64 0, .slice none 0 0, .int .i64 0, .int .i64 0] (eCell (en, .slice Ae en.ds.length ce)).toArray rfl rfl H5.out.b1 (by show 1 + 9 ≤ 18; omega) rfl (by kernel_rfl) rfl ?_; intro w9 hk9 hB9; have HS9 := Lib.hid (H5.out.in1 hk9 hB9); have Hk9 := Lib.hid hk9; clear hk9 hB9) | (refine wpList_load_mid rfl 68 (.tmp 3) rfl g1 0 rfl _ _ (blk_range HS9.out.b1) Tryz.underlying68 rfl (by kernel_rfl) ?_) | (refine wpList_store_blk rfl 68 (.tmp 2) (.tmp 59) rfl g0 0 68 zero18 #[.int .i64 1, .int .i64 en.kind, .int .i64 en.ag, .int .i64 en.sh, .int .i64 en.seq, .int .i64 en.ep, .slice Ae en.ds.length ce, .string en.ser, .int .i64 en.fr, .int .i64 en.tag, .int .i64 0, .int .i64 0, .int .u64 0, .int .i64 0, .int .i64 0, .slice none 0 0, .int .i64 0, .int .i64 0] #[.int .i64 1, .int .i64 en.kind, .int .i64 en.ag, .int .i64 en.sh, .int .i64 en.seq, .int .i64 en.ep, .slice Ae en.ds.length ce, .string en.ser, .int .i64 en.fr, .int .i64 en.tag, .int .i64 0, .int .i64 0, .int .u64 0, .int .i64 0, .int .i64 0, .slice none 0 0, .int .i64 0, .int .i64 0] rfl rfl HS9.out.b0 (by show 0 + 18 ≤ 18; omega) rfl (by kernel_rfl) rfl ?_; intro wz hkz hBz; have Hkz := Lib.hid hkz; have HBz := Lib.hid hBz; clear hkz hBz))
  refine bodyPost_ret (results_cell1 rfl _ _ g0 68 #[.int .i64 1, .int .i64 en.kind, .int .i64 en.ag, .int .i64 en.sh, .int .i64 en.seq, .int .i64 en.ep, .slice Ae en.ds.length ce, .string en.ser, .int .i64 en.fr, .int .i64 en.tag, .int .i64 0, .int .i64 0, .int .u64 0, .int .i64 0, .int .i64 0, .slice none 0 0, .int .i64 0, .int .i64 0] _ rfl HBz.out Tryz.underlying68 rfl (by kernel_rfl)) rfl ?_
  exact msg_fin HS9.out Hkz.out ⟨1, en, 0, 0, 0, 0, 0, [], 0, 0⟩ (.slice Ae en.ds.length ce) (.slice none 0 0) rfl ⟨.inr Hok.out, by simp, by simp, ⟨by show (1 : Int) ≤ 1; omega, by show 1 ≤ (6 : Int); omega⟩, ⟨by show (0 : Int) ≤ 0; omega, by show 0 < (100 : Int); omega⟩, ⟨by show (0 : Int) ≤ 0; omega, by show 0 < (100 : Int); omega⟩, ⟨by show (0 : Int) ≤ 0; omega, by show 0 < (100 : Int); omega⟩, ⟨by show (0 : Int) ≤ 0; omega, by show 0 < (100 : Int); omega⟩, ⟨by show (0 : Int) ≤ 0; omega, by show 0 < (100 : Int); omega⟩, ⟨by show (0 : Int) ≤ 0; omega, by show 0 < (100 : Int); omega⟩, ⟨by show (0 : Int) ≤ 0; omega, by show 0 < (100 : Int); omega⟩, zeroS_of rfl, fun h => absurd rfl h, fun _ => Hok.out⟩ (fun M hM => MsgAt.in1 (m := ⟨1, en, 0, 0, 0, 0, 0, [], 0, 0⟩) (dv := .slice Ae en.ds.length ce) (lv := .slice none 0 0) (fun M hM => ⟨Hde.out M hM, Ens.nil _ _⟩) Hk9.out M hM)
 ·clear hk1 hk6
  obtain ⟨q0, q1, q2, q3, q4, q5, q6, q7, q8, q9, qa, qb, qc, qd, qe, qf, qg, qh, qz⟩ := blk18 H4.out.b1
  go_wp2_with fail
  refine (stm_next H4.out 20 (by omega)).mono ?_
  rintro e w5 ⟨tg, k5, rfl, ⟨htg0, htg1⟩, H5, KK5⟩
  go_wp2_with fail
  refine (stm_next H5.out 9 (by omega)).mono ?_
  rintro e w6 ⟨cd, k6, rfl, ⟨hcd0, hcd1⟩, H6, KK6⟩
  go_wp2_with fail
  refine (stm_next H6.out 99 (by omega)).mono ?_
  rintro e w7 ⟨nn, k7, rfl, ⟨hnn0, hnn1⟩, H7, KK7⟩
  clear q0 q1 q2 q3 q4 q5 q6 q7 q8 q9 qa qb qc qd qe qf qg qh qz
  have hwn : IntKind.u64.wrap nn = nn := by rw [IntKind.wrap_u64]; omega
  obtain ⟨q0, q1, q2, q3, q4, q5, q6, q7, q8, q9, qa, qb, qc, qd, qe, qf, qg, qh, qz⟩ := blk18 H7.out.b1
  obtain ⟨w9, hw9⟩ : ∃ w9, w9 = (((w7.setCell ⟨g1, 10, none⟩ (.int .i64 tg)).setCell ⟨g1, 11, none⟩ (.int .i64 cd)).setCell ⟨g1, 12, none⟩ (.int .u64 nn)) := ⟨_, rfl⟩
  have hk9 : Keeps [g1] w7 w9 := by rw [hw9]; exact (((Keeps.refl _ _).setCell (by simp) _).setCell (by simp) _).setCell (by simp) _
  have hS9 : StM w w9 b L k7 g0 g1 #[.int .i64 2, .int .i64 0, .int .i64 0, .int .i64 0, .int .i64 0, .int .i64 0, .slice none 0 0, .string ⟨#[]⟩, .int .i64 0, .int .i64 0, .int .i64 tg, .int .i64 cd, .int .u64 nn, .int .i64 0, .int .i64 0, .slice none 0 0, .int .i64 0, .int .i64 0] := by rw [hw9]; exact (by simpa using (((H7.out.set 10 (.int .i64 tg)).set 11 (.int .i64 cd)).set 12 (.int .u64 nn)) : StM w _ b L k7 g0 g1 _)
  have HS9 := Lib.hid hS9; have Hw9 := Lib.hid hw9; have Hk9 := Lib.hid hk9
  clear hw9 hk9 hS9
  go_upto_region 15 with (fail)
  rw [← Hw9.out]
  clear Hw9 q0 q1 q2 q3 q4 q5 q6 q7 q8 q9 qa qb qc qd qe qf qg qh qz
  go_wp2_with (first | (refine wpList_load_mid rfl 68 (.tmp 3) rfl g1 0 rfl _ _ (blk_range HS9.out.b1) Tryz.underlying68 rfl (by kernel_rfl) ?_) | (refine wpList_store_blk rfl 68 (.tmp 2) (.tmp 59) rfl g0 0 68 zero18 #[.int .i64 2, .int .i64 0, .int .i64 0, .int .i64 0, .int .i64 0, .int .i64 0, .slice none 0 0, .string ⟨#[]⟩, .int .i64 0, .int .i64 0, .int .i64 tg, .int .i64 cd, .int .u64 nn, .int .i64 0, .int .i64 0, .slice none 0 0, .int .i64 0, .int .i64 0] #[.int .i64 2, .int .i64 0, .int .i64 0, .int .i64 0, .int .i64 0, .int .i64 0, .slice none 0 0, .string ⟨#[]⟩, .int .i64 0, .int .i64 0, .int .i64 tg, .int .i64 cd, .int .u64 nn, .int .i64 0, .int .i64 0, .slice none 0 0, .int .i64 0, .int .i64 0] rfl rfl HS9.out.b0 (by show 0 + 18 ≤ 18; omega) rfl (by kernel_rfl) rfl ?_; intro wz hkz hBz; have Hkz := Lib.hid hkz; have HBz := Lib.hid hBz; clear hkz hBz))
  refine bodyPost_ret (results_cell1 rfl _ _ g0 68 #[.int .i64 2, .int .i64 0, .int .i64 0, .int .i64 0, .int .i64 0, .int .i64 0, .slice none 0 0, .string ⟨#[]⟩, .int .i64 0, .int .i64 0, .int .i64 tg, .int .i64 cd, .int .u64 nn, .int .i64 0, .int .i64 0, .slice none 0 0, .int .i64 0, .int .i64 0] _ rfl HBz.out Tryz.underlying68 rfl (by kernel_rfl)) rfl ?_
  exact msg_fin HS9.out Hkz.out ⟨2, ⟨0, 0, 0, 0, 0, [], ByteArray.empty, 0, 0⟩, tg, cd, nn, 0, 0, [], 0, 0⟩ (.slice none 0 0) (.slice none 0 0) rfl ⟨.inl rfl, by simp, by simp, ⟨by show (1 : Int) ≤ 2; omega, by show 2 ≤ (6 : Int); omega⟩, ⟨by show (0 : Int) ≤ tg; omega, by show tg < (100 : Int); omega⟩, ⟨by show (0 : Int) ≤ cd; omega, by show cd < (100 : Int); omega⟩, ⟨by show (0 : Int) ≤ nn; omega, by show nn < (100 : Int); omega⟩, ⟨by show (0 : Int) ≤ 0; omega, by show 0 < (100 : Int); omega⟩, ⟨by show (0 : Int) ≤ 0; omega, by show 0 < (100 : Int); omega⟩, ⟨by show (0 : Int) ≤ 0; omega, by show 0 < (100 : Int); omega⟩, ⟨by show (0 : Int) ≤ 0; omega, by show 0 < (100 : Int); omega⟩, zeroS_of rfl, fun _ => rfl, fun h => absurd h (by show ¬ ((2 : Int) = 1); decide)⟩ (fun M hM => ⟨Ds.nil _ _, Ens.nil _ _⟩)
 ·clear hk1 hk6
  obtain ⟨q0, q1, q2, q3, q4, q5, q6, q7, q8, q9, qa, qb, qc, qd, qe, qf, qg, qh, qz⟩ := blk18 H4.out.b1
  obtain ⟨w9, hw9⟩ : ∃ w9, w9 = (w4.setCell ⟨g1, 13, none⟩ (.int .i64 tm)) := ⟨_, rfl⟩
  have hk9 : Keeps [g1] w4 w9 := by rw [hw9]; exact (Keeps.refl _ _).setCell (by simp) _
  have hS9 : StM w w9 b L k4 g0 g1 #[.int .i64 3, .int .i64 0, .int .i64 0, .int .i64 0, .int .i64 0, .int .i64 0, .slice none 0 0, .string ⟨#[]⟩, .int .i64 0, .int .i64 0, .int .i64 0, .int .i64 0, .int .u64 0, .int .i64 tm, .int .i64 0, .slice none 0 0, .int .i64 0, .int .i64 0] := by rw [hw9]; exact (by simpa using (H4.out.set 13 (.int .i64 tm)) : StM w _ b L k4 g0 g1 _)
  have HS9 := Lib.hid hS9; have Hw9 := Lib.hid hw9; have Hk9 := Lib.hid hk9
  clear hw9 hk9 hS9
  go_upto_region 15 with (fail)
  rw [← Hw9.out]
  clear Hw9 q0 q1 q2 q3 q4 q5 q6 q7 q8 q9 qa qb qc qd qe qf qg qh qz
  go_wp2_with (first | (refine wpList_load_mid rfl 68 (.tmp 3) rfl g1 0 rfl _ _ (blk_range HS9.out.b1) Tryz.underlying68 rfl (by kernel_rfl) ?_) | (refine wpList_store_blk rfl 68 (.tmp 2) (.tmp 59) rfl g0 0 68 zero18 #[.int .i64 3, .int .i64 0, .int .i64 0, .int .i64 0, .int .i64 0, .int .i64 0, .slice none 0 0, .string ⟨#[]⟩, .int .i64 0, .int .i64 0, .int .i64 0, .int .i64 0, .int .u64 0, .int .i64 tm, .int .i64 0, .slice none 0 0, .int .i64 0, .int .i64 0] #[.int .i64 3, .int .i64 0, .int .i64 0, .int .i64 0, .int .i64 0, .int .i64 0, .slice none 0 0, .string ⟨#[]⟩, .int .i64 0, .int .i64 0, .int .i64 0, .int .i64 0, .int .u64 0, .int .i64 tm, .int .i64 0, .slice none 0 0, .int .i64 0, .int .i64 0] rfl rfl HS9.out.b0 (by show 0 + 18 ≤ 18; omega) rfl (by kernel_rfl) rfl ?_; intro wz hkz hBz; have Hkz := Lib.hid hkz; have HBz := Lib.hid hBz; clear hkz hBz))
  refine bodyPost_ret (results_cell1 rfl _ _ g0 68 #[.int .i64 3, .int .i64 0, .int .i64 0, .int .i64 0, .int .i64 0, .int .i64 0, .slice none 0 0, .string ⟨#[]⟩, .int .i64 0, .int .i64 0, .int .i64 0, .int .i64 0, .int .u64 0, .int .i64 tm, .int .i64 0, .slice none 0 0, .int .i64 0, .int .i64 0] _ rfl HBz.out Tryz.underlying68 rfl (by kernel_rfl)) rfl ?_
  exact msg_fin HS9.out Hkz.out ⟨3, ⟨0, 0, 0, 0, 0, [], ByteArray.empty, 0, 0⟩, 0, 0, 0, tm, 0, [], 0, 0⟩ (.slice none 0 0) (.slice none 0 0) rfl ⟨.inl rfl, by simp, by simp, ⟨by show (1 : Int) ≤ 3; omega, by show 3 ≤ (6 : Int); omega⟩, ⟨by show (0 : Int) ≤ 0; omega, by show 0 < (100 : Int); omega⟩, ⟨by show (0 : Int) ≤ 0; omega, by show 0 < (100 : Int); omega⟩, ⟨by show (0 : Int) ≤ 0; omega, by show 0 < (100 : Int); omega⟩, ⟨by show (0 : Int) ≤ tm; omega, by show tm < (100 : Int); omega⟩, ⟨by show (0 : Int) ≤ 0; omega, by show 0 < (100 : Int); omega⟩, ⟨by show (0 : Int) ≤ 0; omega, by show 0 < (100 : Int); omega⟩, ⟨by show (0 : Int) ≤ 0; omega, by show 0 < (100 : Int); omega⟩, zeroS_of rfl, fun _ => rfl, fun h => absurd h (by show ¬ ((3 : Int) = 1); decide)⟩ (fun M hM => ⟨Ds.nil _ _, Ens.nil _ _⟩)
 ·clear hk1 hk6
  obtain ⟨q0, q1, q2, q3, q4, q5, q6, q7, q8, q9, qa, qb, qc, qd, qe, qf, qg, qh, qz⟩ := blk18 H4.out.b1
  go_wp2_with fail
  refine (stm_next H4.out 12 (by omega)).mono ?_
  rintro e w5 ⟨hd, k5, rfl, ⟨hhd0, hhd1⟩, H5, KK5⟩
  clear q0 q1 q2 q3 q4 q5 q6 q7 q8 q9 qa qb qc qd qe qf qg qh qz
  go_wp2_with fail
  refine (stm_log H5.out).mono ?_
  rintro e w6 ⟨lg, Ba, ka, k6, rfl, Hlo, Hle, H6⟩
  obtain ⟨q0, q1, q2, q3, q4, q5, q6, q7, q8, q9, qa, qb, qc, qd, qe, qf, qg, qh, qz⟩ := blk18 H6.out.b1
  obtain ⟨w9, hw9⟩ : ∃ w9, w9 = (((w6.setCell ⟨g1, 13, none⟩ (.int .i64 tm)).setCell ⟨g1, 14, none⟩ (.int .i64 hd)).setCell ⟨g1, 15, none⟩ (.slice Ba lg.length ka)) := ⟨_, rfl⟩
  have hk9 : Keeps [g1] w6 w9 := by rw [hw9]; exact (((Keeps.refl _ _).setCell (by simp) _).setCell (by simp) _).setCell (by simp) _
  have hS9 : StM w w9 b L k6 g0 g1 #[.int .i64 4, .int .i64 0, .int .i64 0, .int .i64 0, .int .i64 0, .int .i64 0, .slice none 0 0, .string ⟨#[]⟩, .int .i64 0, .int .i64 0, .int .i64 0, .int .i64 0, .int .u64 0, .int .i64 tm, .int .i64 hd, .slice Ba lg.length ka, .int .i64 0, .int .i64 0] := by rw [hw9]; exact (by simpa using (((H6.out.set 13 (.int .i64 tm)).set 14 (.int .i64 hd)).set 15 (.slice Ba lg.length ka)) : StM w _ b L k6 g0 g1 _)
  have HS9 := Lib.hid hS9; have Hw9 := Lib.hid hw9; have Hk9 := Lib.hid hk9
  clear hw9 hk9 hS9
  go_upto_region 15 with (fail)
  rw [← Hw9.out]
  clear Hw9 q0 q1 q2 q3 q4 q5 q6 q7 q8 q9 qa qb qc qd qe qf qg qh qz
  go_wp2_with (first | (refine wpList_load_mid rfl 68 (.tmp 3) rfl g1 0 rfl _ _ (blk_range HS9.out.b1) Tryz.underlying68 rfl (by kernel_rfl) ?_) | (refine wpList_store_blk rfl 68 (.tmp 2) (.tmp 59) rfl g0 0 68 zero18 #[.int .i64 4, .int .i64 0, .int .i64 0, .int .i64 0, .int .i64 0, .int .i64 0, .slice none 0 0, .string ⟨#[]⟩, .int .i64 0, .int .i64 0, .int .i64 0, .int .i64 0, .int .u64 0, .int .i64 tm, .int .i64 hd, .slice Ba lg.length ka, .int .i64 0, .int .i64 0] #[.int .i64 4, .int .i64 0, .int .i64 0, .int .i64 0, .int .i64 0, .int .i64 0, .slice none 0 0, .string ⟨#[]⟩, .int .i64 0, .int .i64 0, .int .i64 0, .int .i64 0, .int .u64 0, .int .i64 tm, .int .i64 hd, .slice Ba lg.length ka, .int .i64 0, .int .i64 0] rfl rfl HS9.out.b0 (by show 0 + 18 ≤ 18; omega) rfl (by kernel_rfl) rfl ?_; intro wz hkz hBz; have Hkz := Lib.hid hkz; have HBz := Lib.hid hBz; clear hkz hBz))
  refine bodyPost_ret (results_cell1 rfl _ _ g0 68 #[.int .i64 4, .int .i64 0, .int .i64 0, .int .i64 0, .int .i64 0, .int .i64 0, .slice none 0 0, .string ⟨#[]⟩, .int .i64 0, .int .i64 0, .int .i64 0, .int .i64 0, .int .u64 0, .int .i64 tm, .int .i64 hd, .slice Ba lg.length ka, .int .i64 0, .int .i64 0] _ rfl HBz.out Tryz.underlying68 rfl (by kernel_rfl)) rfl ?_
  exact msg_fin HS9.out Hkz.out ⟨4, ⟨0, 0, 0, 0, 0, [], ByteArray.empty, 0, 0⟩, 0, 0, 0, tm, hd, lg, 0, 0⟩ (.slice none 0 0) (.slice Ba lg.length ka) rfl ⟨.inl rfl, Hlo.out.1, Hlo.out.2, ⟨by show (1 : Int) ≤ 4; omega, by show 4 ≤ (6 : Int); omega⟩, ⟨by show (0 : Int) ≤ 0; omega, by show 0 < (100 : Int); omega⟩, ⟨by show (0 : Int) ≤ 0; omega, by show 0 < (100 : Int); omega⟩, ⟨by show (0 : Int) ≤ 0; omega, by show 0 < (100 : Int); omega⟩, ⟨by show (0 : Int) ≤ tm; omega, by show tm < (100 : Int); omega⟩, ⟨by show (0 : Int) ≤ hd; omega, by show hd < (100 : Int); omega⟩, ⟨by show (0 : Int) ≤ 0; omega, by show 0 < (100 : Int); omega⟩, ⟨by show (0 : Int) ≤ 0; omega, by show 0 < (100 : Int); omega⟩, zeroS_of rfl, fun _ => rfl, fun h => absurd h (by show ¬ ((4 : Int) = 1); decide)⟩ (fun M hM => MsgAt.in1 (m := ⟨4, ⟨0, 0, 0, 0, 0, [], ByteArray.empty, 0, 0⟩, 0, 0, 0, tm, hd, lg, 0, 0⟩) (dv := .slice none 0 0) (lv := .slice Ba lg.length ka) (fun M hM => ⟨Ds.nil _ _, Hle.out M hM⟩) Hk9.out M hM)
 ·clear hk1 hk6
  obtain ⟨q0, q1, q2, q3, q4, q5, q6, q7, q8, q9, qa, qb, qc, qd, qe, qf, qg, qh, qz⟩ := blk18 H4.out.b1
  go_wp2_with fail
  refine (stm_log H4.out).mono ?_
  rintro e w5 ⟨lg, Ba, ka, k5, rfl, Hlo, Hle, H5⟩
  clear q0 q1 q2 q3 q4 q5 q6 q7 q8 q9 qa qb qc qd qe qf qg qh qz
  go_wp2_with fail
  refine (stm_next H5.out 5 (by omega)).mono ?_
  rintro e w6 ⟨cm, k6, rfl, ⟨hcm0, hcm1⟩, H6, KK6⟩
  obtain ⟨q0, q1, q2, q3, q4, q5, q6, q7, q8, q9, qa, qb, qc, qd, qe, qf, qg, qh, qz⟩ := blk18 H6.out.b1
  obtain ⟨w9, hw9⟩ : ∃ w9, w9 = (((w6.setCell ⟨g1, 13, none⟩ (.int .i64 tm)).setCell ⟨g1, 15, none⟩ (.slice Ba lg.length ka)).setCell ⟨g1, 16, none⟩ (.int .i64 cm)) := ⟨_, rfl⟩
  have hk9 : Keeps [g1] w6 w9 := by rw [hw9]; exact (((Keeps.refl _ _).setCell (by simp) _).setCell (by simp) _).setCell (by simp) _
  have hS9 : StM w w9 b L k6 g0 g1 #[.int .i64 5, .int .i64 0, .int .i64 0, .int .i64 0, .int .i64 0, .int .i64 0, .slice none 0 0, .string ⟨#[]⟩, .int .i64 0, .int .i64 0, .int .i64 0, .int .i64 0, .int .u64 0, .int .i64 tm, .int .i64 0, .slice Ba lg.length ka, .int .i64 cm, .int .i64 0] := by rw [hw9]; exact (by simpa using (((H6.out.set 13 (.int .i64 tm)).set 15 (.slice Ba lg.length ka)).set 16 (.int .i64 cm)) : StM w _ b L k6 g0 g1 _)
  have HS9 := Lib.hid hS9; have Hw9 := Lib.hid hw9; have Hk9 := Lib.hid hk9
  clear hw9 hk9 hS9
  go_upto_region 15 with (fail)
  rw [← Hw9.out]
  clear Hw9 q0 q1 q2 q3 q4 q5 q6 q7 q8 q9 qa qb qc qd qe qf qg qh qz
  go_wp2_with (first | (refine wpList_load_mid rfl 68 (.tmp 3) rfl g1 0 rfl _ _ (blk_range HS9.out.b1) Tryz.underlying68 rfl (by kernel_rfl) ?_) | (refine wpList_store_blk rfl 68 (.tmp 2) (.tmp 59) rfl g0 0 68 zero18 #[.int .i64 5, .int .i64 0, .int .i64 0, .int .i64 0, .int .i64 0, .int .i64 0, .slice none 0 0, .string ⟨#[]⟩, .int .i64 0, .int .i64 0, .int .i64 0, .int .i64 0, .int .u64 0, .int .i64 tm, .int .i64 0, .slice Ba lg.length ka, .int .i64 cm, .int .i64 0] #[.int .i64 5, .int .i64 0, .int .i64 0, .int .i64 0, .int .i64 0, .int .i64 0, .slice none 0 0, .string ⟨#[]⟩, .int .i64 0, .int .i64 0, .int .i64 0, .int .i64 0, .int .u64 0, .int .i64 tm, .int .i64 0, .slice Ba lg.length ka, .int .i64 cm, .int .i64 0] rfl rfl HS9.out.b0 (by show 0 + 18 ≤ 18; omega) rfl (by kernel_rfl) rfl ?_; intro wz hkz hBz; have Hkz := Lib.hid hkz; have HBz := Lib.hid hBz; clear hkz hBz))
  refine bodyPost_ret (results_cell1 rfl _ _ g0 68 #[.int .i64 5, .int .i64 0, .int .i64 0, .int .i64 0, .int .i64 0, .int .i64 0, .slice none 0 0, .string ⟨#[]⟩, .int .i64 0, .int .i64 0, .int .i64 0, .int .i64 0, .int .u64 0, .int .i64 tm, .int .i64 0, .slice Ba lg.length ka, .int .i64 cm, .int .i64 0] _ rfl HBz.out Tryz.underlying68 rfl (by kernel_rfl)) rfl ?_
  exact msg_fin HS9.out Hkz.out ⟨5, ⟨0, 0, 0, 0, 0, [], ByteArray.empty, 0, 0⟩, 0, 0, 0, tm, 0, lg, cm, 0⟩ (.slice none 0 0) (.slice Ba lg.length ka) rfl ⟨.inl rfl, Hlo.out.1, Hlo.out.2, ⟨by show (1 : Int) ≤ 5; omega, by show 5 ≤ (6 : Int); omega⟩, ⟨by show (0 : Int) ≤ 0; omega, by show 0 < (100 : Int); omega⟩, ⟨by show (0 : Int) ≤ 0; omega, by show 0 < (100 : Int); omega⟩, ⟨by show (0 : Int) ≤ 0; omega, by show 0 < (100 : Int); omega⟩, ⟨by show (0 : Int) ≤ tm; omega, by show tm < (100 : Int); omega⟩, ⟨by show (0 : Int) ≤ 0; omega, by show 0 < (100 : Int); omega⟩, ⟨by show (0 : Int) ≤ cm; omega, by show cm < (100 : Int); omega⟩, ⟨by show (0 : Int) ≤ 0; omega, by show 0 < (100 : Int); omega⟩, zeroS_of rfl, fun _ => rfl, fun h => absurd h (by show ¬ ((5 : Int) = 1); decide)⟩ (fun M hM => MsgAt.in1 (m := ⟨5, ⟨0, 0, 0, 0, 0, [], ByteArray.empty, 0, 0⟩, 0, 0, 0, tm, 0, lg, cm, 0⟩) (dv := .slice none 0 0) (lv := .slice Ba lg.length ka) (fun M hM => ⟨Ds.nil _ _, (Hle.out (b :: M) (by intro x hx; rcases List.mem_cons.1 hx with rfl | hx; have := H5.out.lt0; have := H5.out.lt1; omega; exact hM x hx)).keep KK6.out (by simp) |>.avoid (fun g hg => .inl (List.mem_cons_of_mem _ hg))⟩) Hk9.out M hM)
 ·clear hk1 hk6
  obtain ⟨q0, q1, q2, q3, q4, q5, q6, q7, q8, q9, qa, qb, qc, qd, qe, qf, qg, qh, qz⟩ := blk18 H4.out.b1
  go_wp2_with fail
  refine (stm_next H4.out 6 (by omega)).mono ?_
  rintro e w5 ⟨ln, k5, rfl, ⟨hln0, hln1⟩, H5, KK5⟩
  clear q0 q1 q2 q3 q4 q5 q6 q7 q8 q9 qa qb qc qd qe qf qg qh qz
  obtain ⟨q0, q1, q2, q3, q4, q5, q6, q7, q8, q9, qa, qb, qc, qd, qe, qf, qg, qh, qz⟩ := blk18 H5.out.b1
  obtain ⟨w9, hw9⟩ : ∃ w9, w9 = ((w5.setCell ⟨g1, 13, none⟩ (.int .i64 tm)).setCell ⟨g1, 17, none⟩ (.int .i64 ln)) := ⟨_, rfl⟩
  have hk9 : Keeps [g1] w5 w9 := by rw [hw9]; exact ((Keeps.refl _ _).setCell (by simp) _).setCell (by simp) _
  have hS9 : StM w w9 b L k5 g0 g1 #[.int .i64 6, .int .i64 0, .int .i64 0, .int .i64 0, .int .i64 0, .int .i64 0, .slice none 0 0, .string ⟨#[]⟩, .int .i64 0, .int .i64 0, .int .i64 0, .int .i64 0, .int .u64 0, .int .i64 tm, .int .i64 0, .slice none 0 0, .int .i64 0, .int .i64 ln] := by rw [hw9]; exact (by simpa using ((H5.out.set 13 (.int .i64 tm)).set 17 (.int .i64 ln)) : StM w _ b L k5 g0 g1 _)
  have HS9 := Lib.hid hS9; have Hw9 := Lib.hid hw9; have Hk9 := Lib.hid hk9
  clear hw9 hk9 hS9
  go_upto_region 15 with (fail)
  rw [← Hw9.out]
  clear Hw9 q0 q1 q2 q3 q4 q5 q6 q7 q8 q9 qa qb qc qd qe qf qg qh qz
  go_wp2_with (first | (refine wpList_load_mid rfl 68 (.tmp 3) rfl g1 0 rfl _ _ (blk_range HS9.out.b1) Tryz.underlying68 rfl (by kernel_rfl) ?_) | (refine wpList_store_blk rfl 68 (.tmp 2) (.tmp 59) rfl g0 0 68 zero18 #[.int .i64 6, .int .i64 0, .int .i64 0, .int .i64 0, .int .i64 0, .int .i64 0, .slice none 0 0, .string ⟨#[]⟩, .int .i64 0, .int .i64 0, .int .i64 0, .int .i64 0, .int .u64 0, .int .i64 tm, .int .i64 0, .slice none 0 0, .int .i64 0, .int .i64 ln] #[.int .i64 6, .int .i64 0, .int .i64 0, .int .i64 0, .int .i64 0, .int .i64 0, .slice none 0 0, .string ⟨#[]⟩, .int .i64 0, .int .i64 0, .int .i64 0, .int .i64 0, .int .u64 0, .int .i64 tm, .int .i64 0, .slice none 0 0, .int .i64 0, .int .i64 ln] rfl rfl HS9.out.b0 (by show 0 + 18 ≤ 18; omega) rfl (by kernel_rfl) rfl ?_; intro wz hkz hBz; have Hkz := Lib.hid hkz; have HBz := Lib.hid hBz; clear hkz hBz))
  refine bodyPost_ret (results_cell1 rfl _ _ g0 68 #[.int .i64 6, .int .i64 0, .int .i64 0, .int .i64 0, .int .i64 0, .int .i64 0, .slice none 0 0, .string ⟨#[]⟩, .int .i64 0, .int .i64 0, .int .i64 0, .int .i64 0, .int .u64 0, .int .i64 tm, .int .i64 0, .slice none 0 0, .int .i64 0, .int .i64 ln] _ rfl HBz.out Tryz.underlying68 rfl (by kernel_rfl)) rfl ?_
  exact msg_fin HS9.out Hkz.out ⟨6, ⟨0, 0, 0, 0, 0, [], ByteArray.empty, 0, 0⟩, 0, 0, 0, tm, 0, [], 0, ln⟩ (.slice none 0 0) (.slice none 0 0) rfl ⟨.inl rfl, by simp, by simp, ⟨by show (1 : Int) ≤ 6; omega, by show 6 ≤ (6 : Int); omega⟩, ⟨by show (0 : Int) ≤ 0; omega, by show 0 < (100 : Int); omega⟩, ⟨by show (0 : Int) ≤ 0; omega, by show 0 < (100 : Int); omega⟩, ⟨by show (0 : Int) ≤ 0; omega, by show 0 < (100 : Int); omega⟩, ⟨by show (0 : Int) ≤ tm; omega, by show tm < (100 : Int); omega⟩, ⟨by show (0 : Int) ≤ 0; omega, by show 0 < (100 : Int); omega⟩, ⟨by show (0 : Int) ≤ 0; omega, by show 0 < (100 : Int); omega⟩, ⟨by show (0 : Int) ≤ ln; omega, by show ln < (100 : Int); omega⟩, zeroS_of rfl, fun _ => rfl, fun h => absurd h (by show ¬ ((6 : Int) = 1); decide)⟩ (fun M hM => ⟨Ds.nil _ _, Ens.nil _ _⟩)
end Go.Proofs.YtinnifhnabncfaaGreatDoor.Vi
end
section
namespace Go.Proofs.YtinnifhnabncfaaGreatDoor.Vi
open Go.RowKit Base Mem Go.Shelf
def preE (acc : List EntryD) : Option (List EntryD) × List UInt8 × Bool → Option (List EntryD) × List UInt8 × Bool
 | (none, s) => (none, s)
 | (some es, s) => (some (acc ++ es), s)
/-- So many entries from the front; none: one of them is none. -/
def getEs : Nat → List UInt8 → Bool → Option (List EntryD) × List UInt8 × Bool
 | 0, l, b => (some [], l, b)
 | k + 1, l, b => if (textS l b).2.2 = true ∨ (readE (textS l b).1).2 ≠ 0 then (none, (textS l b).2) else preE [(readE (textS l b).1).1] (getEs k (textS l b).2.1 (textS l b).2.2)
def mgetS (l : List UInt8) (b : Bool) : Option (List EntryD) × List UInt8 × Bool := getEs (countS l b 128).1 (countS l b 128).2.1 (countS l b 128).2.2
def MGetPost (M : List Nat) (p : Nat) (R : Option (List EntryD) × List UInt8 × Bool) (w : World) (e : Ending) (w' : World) : Prop := match R with
 | (none, _) => e = .returned (.tuple #[.slice none 0 0, .bool false]) ∧ Keeps [p] w w'
 | (some es, l', b') => ∃ v, e = .returned (.tuple #[v, .bool (!b')]) ∧ (∀ M', (∀ g ∈ M', g < w.heap.size) → Ens w' M' v es) ∧ RdAt w' M p l' b' ∧ Keeps [p] w w'
theorem preE_nil (R : Option (List EntryD) × List UInt8 × Bool) : preE [] R = R := by
 obtain ⟨_ | es, s⟩ := R <;> rfl
theorem preE_pre (a b : List EntryD) (R : Option (List EntryD) × List UInt8 × Bool) : preE a (preE b R) = preE (a ++ b) R := by
 obtain ⟨_ | es, s⟩ := R
 ·rfl
 ·simp [preE]
theorem infoEntry2 : (Tryz.prog.info? 26).map (fun i => (i.zero, i.size, i.bytes)) = some (some (.agg #[.int .i64 0, .int .i64 0, .int .i64 0, .int .i64 0, .int .i64 0, .slice none 0 0, .string ByteArray.empty, .int .i64 0, .int .i64 0]), 9, 96) := by kernel_rfl
/-- A text turned to bytes. -/
theorem bytes_of (w : World) (s : List UInt8) : ∃ c W, (convert 9 36 (.string ⟨s.toArray⟩)).run Tryz.prog w = .ok (.slice (some ⟨w.heap.size, 0, none⟩) s.length c) W ∧ Keeps [] w W ∧ w.heap.size < W.heap.size ∧ ∀ M, (∀ g ∈ M, g < w.heap.size) → Bs W M (.slice (some ⟨w.heap.size, 0, none⟩) s.length c) s := by
 have hge := grownCap_ge w s.length 0 5
 have hw2 : Keeps [] w (w.drew.alloc (.cells (bytesRow ⟨s.toArray⟩ (grownCap w s.length 0 5)) 5 ((bytesRow ⟨s.toArray⟩ (grownCap w s.length 0 5)).size, (bytesRow ⟨s.toArray⟩ (grownCap w s.length 0 5)).size + 1))) := (Keeps.refl [] w).drew.alloc _
 refine ⟨_, _, run_bytes_of_string w _ _ 5 ⟨s.toArray⟩ Tryz.underlying9 Tryz.underlying36 Tryz.underlying5, hw2, by show w.heap.size < (w.drew.alloc _).heap.size; simp, fun M hM => ⟨_, _, rfl, hge, by simp, fun h0 => ⟨w.heap.size, 0, rfl, by show w.heap.size < (w.drew.alloc _).heap.size; simp, fun hm => by have := hM _ hm; omega, fun j u hu => ?_⟩⟩⟩
 rw [cell_of_row _ w.heap.size (0 + j) _ _ _ (heap_alloc_new w.drew _), Nat.zero_add]
 unfold bytesRow
 have hj : j < s.length := by have := (List.getElem?_eq_some_iff.1 hu).1; simpa using this
 rw [List.getElem?_map] at hu
 rw [Array.getElem?_append_left (by simpa using hj), Array.getElem?_map, List.getElem?_toArray]
 exact hu
set_option maxRecDepth 100000 in
set_option maxHeartbeats 1000000 in
theorem mget_any (M : List Nat) (p : Nat) (l : List UInt8) (b : Bool) (m : Int) (w : World) (h : RdAt w M p l b) (hl : l.length < 4294967281) (hm : w.cell? ⟨0, 0, none⟩ = some (.int .i64 m)) (hp0 : p ≠ 0) :
  Calls Tryz.prog 137 #[.pointer (some ⟨p, 0, none⟩)] w fun e w' => MGetPost M p (mgetS l b) w e w' := by
 have hw0 : 0 < w.heap.size := by
  have := World.block_lt_of_cell? w _ hm
  simpa using this
 have hkeepm : Hid (∀ W, Keeps [p] w W → W.cell? ⟨0, 0, none⟩ = some (.int .i64 m)) := fun W hb => (hb.cell (p := ⟨0, 0, none⟩) hw0 (by simp; omega)).trans hm
 have hpw := h.lt
 have hct := Lib.hid (count_any M p l b 128 (by omega) w h)
 have HS : Hid (mgetS l b = getEs (countS l b 128).1 (countS l b 128).2.1 (countS l b 128).2.2) := rfl
 have hcl := countS_len l b 128
 have hcm := countS_most l b 128
 obtain ⟨i0, hi0, hz0, hz1, hz2⟩ := info_parts infoEntry2
 have Hi0 := Lib.hid hi0; have Hz0 := Lib.hid hz0; have Hz1 := Lib.hid hz1; have Hz2 := Lib.hid hz2
 clear h hm hi0 hz0 hz1 hz2
 generalize mgetS l b = R at *
 generalize countS l b 128 = c at *
 obtain ⟨n, c2, c3⟩ := c
 simp only [] at hct HS hcl hcm
 go_enter Tryz.func137, Tryz.ntmps137
 go_wp2_with fail
 refine hct.out.mono ?_
 rintro e w1 ⟨rfl, hA1, hk1⟩
 have HA1 := Lib.hid hA1; have Hk1 := Lib.hid hk1
 clear hA1 hk1 hct
 go_wp2_with fail
 go_loopw [4, 9] (fun out i wr => ∃ (x : Nat) (qs : List (EntryD × Value)) (lx : List UInt8) (bx : Bool), i = .int .i64 x ∧ x ≤ n ∧ qs.length = x ∧ lx.length ≤ l.length ∧ Hid (R = preE (qs.map (·.1)) (getEs (n - x) lx bx)) ∧ Hid (wr.ownsRow w.heap.size 26 9 out qs.length (qs.flatMap eCell)) ∧ Hid (DsOwn w wr out qs) ∧ Hid (RdAt wr (out.ownBlock.toList ++ M) p lx bx) ∧ Hid (Keeps [p] w wr)) (fun _ i _ => n - (intOf i).toNat)
 case atStart => exact ⟨0, [], c2, c3, rfl, by omega, rfl, hcl, (show R = preE [] _ by rw [preE_nil]; exact HS.out), World.ownsRow_nil _ _ _ _, (show DsOwn _ _ _ _ from by intro q hq; cases hq), HA1.out, Hk1.out⟩
 case round =>
  obtain ⟨x, qs, lx, bx, rfl, hx, hql, hlx, HR, Hown, Hds, HA, Hk⟩ := hrel
  by_cases hlt : x < n
  ·have hx1 : (x : Int) < (n : Int) := by omega
   have HST : Hid (R = preE (qs.map (·.1)) (if (textS lx bx).2.2 = true ∨ (readE (textS lx bx).1).2 ≠ 0 then (none, (textS lx bx).2) else preE [(readE (textS lx bx).1).1] (getEs (n - (x + 1)) (textS lx bx).2.1 (textS lx bx).2.2))) := by
    show _ = _
    rw [HR.out, show n - x = (n - (x + 1)) + 1 by omega]; rfl
   have htl := textS_len lx bx
   have htx := Lib.hid (rtext_any (u4.ownBlock.toList ++ M) p lx bx wr HA.out)
   generalize textS lx bx = t at *
   obtain ⟨t1, t2, t3⟩ := t
   simp only [] at HST htl htx
   go_wp2_with fail
   refine htx.out.mono ?_
   rintro e w3 ⟨rfl, hA3, hk3⟩
   obtain ⟨cc, w4, cv, hk4, hsz4, hB4⟩ := bytes_of w3 t1
   have hK4 : Keeps [p] w w4 := (Hk.out.trans hk3 (by simp)).trans hk4 (by simp)
   have HA4 := Lib.hid (hA3.keep hk4 (by simp) (by simp))
   have Hk34 := Lib.hid (hk3.trans hk4 (by simp))
   have hrd := Lib.hid (eread_any _ t1 m w4 (hB4 [] (by simp)) (by omega) (hkeepm.out _ hK4))
   have HK4 := Lib.hid hK4
   have hsh := readH_short t1 (by omega)
   clear hA3 hk3 hk4 hB4 htx hK4 hsz4
   generalize readE t1 = r at *
   obtain ⟨re, rn⟩ := r
   simp only [] at HST hrd
   go_wp2_with fail
   refine hrd.out.mono ?_
   rintro e w5 ⟨dv, rfl, hD5, hb5⟩
   obtain ⟨Ad, cd, rfl, _⟩ := (hD5 [] (by simp)).len
   have HA5 := Lib.hid (HA4.out.keep (Keeps.of_below (M := []) hb5) (by simp) (by simp))
   have HK5 := Lib.hid (HK4.out.trans (Keeps.of_below (M := []) hb5) (by simp))
   have Hk35 := Lib.hid (Hk34.out.trans (Keeps.of_below (M := []) hb5) (by simp))
   have HD5 := Lib.hid (fun M hM => hD5 M (fun g hg => Nat.lt_of_lt_of_le (hM g hg) Hk34.out.size) : ∀ M, (∀ g ∈ M, g < wr.heap.size) → Ds w5 M (.slice Ad re.ds.length cd) re.ds)
   clear hD5 hb5 hrd cv hsh
   have Hsh := Lib.hid (⟨hql, hlx⟩ : _ ∧ _)
   obtain ⟨w6, hw6⟩ : ∃ w6, w6 = w5.alloc (.cells (eCell (re, .slice Ad re.ds.length cd)).toArray 26) := ⟨_, rfl⟩
   have hk6 : Keeps [] w5 w6 := by rw [hw6]; exact (Keeps.refl _ _).alloc _
   have hB6 : Blk w6 w5.heap.size 26 (eCell (re, .slice Ad re.ds.length cd)).toArray := by rw [hw6]; exact Blk.new w5 _ _
   have HA6 := Lib.hid (HA5.out.keep hk6 (by simp) (by simp)); have HK6 := Lib.hid (HK5.out.trans hk6 (by simp)); have Hk36 := Lib.hid (Hk35.out.trans hk6 (by simp))
   have HD6 : Hid (∀ M, (∀ g ∈ M, g < wr.heap.size) → Ds w6 M (.slice Ad re.ds.length cd) re.ds) := fun M hM => (HD5.out M hM).keep hk6 (by simp)
   have hbad := Lib.hid (bad_any (u4.ownBlock.toList ++ M) p t2 t3 w6 HA6.out)
   have Hw6 := Lib.hid hw6; have HB6 := Lib.hid hB6
   clear hk6 hw6 hB6 HA5 HK5 Hk35 HD5 HA4 HK4 Hk34
   obtain ⟨kind, ag, sh, seq, ep, ds, ser, fr, tag⟩ := re
   simp only [eCell] at Hw6 HB6 HD6 ⊢
   go_wp2_with fail
   rw [← Hw6.out]
   obtain ⟨q0, q1, q2, q3, q4, q5, q6, q7, q8, qf⟩ := blk9 HB6.out
   refine hbad.out.mono ?_
   rintro e w' ⟨rfl, rfl⟩
   clear hbad Hw6
   cases t3 with
   | true =>
    have hp : Hid (MGetPost M p R w (.returned (.tuple #[.slice none 0 0, .bool false])) w6) := by
     show MGetPost _ _ _ _ _ _
     rw [HST.out, if_pos (.inl rfl)]
     exact ⟨rfl, HK6.out⟩
    go_wp2
    go_ret2
    exact hp.out
   | false =>
    by_cases hrn : rn = 0
    ·have HST2 : Hid (R = preE (qs.map (·.1) ++ [⟨kind, ag, sh, seq, ep, ds, ser, fr, tag⟩]) (getEs (n - (x + 1)) t2 false)) := by
      show _ = _
      rw [HST.out, if_neg (by simp [hrn]), preE_pre]
     have hnn : ((rn : Int) != 0) = false := by simp [hrn]
     have hlt0 := Lib.hid Hown.out.lt
     have Hown6 := Lib.hid ((own_keep (Hown.out) Hk36.out (by simp; exact hpw)).alloc (.cells #[.int .i64 kind, .int .i64 ag, .int .i64 sh, .int .i64 seq, .int .i64 ep, .slice Ad ds.length cd, .string ser, .int .i64 fr, .int .i64 tag] 26))
     have hz6 : w.heap.size ≤ w6.heap.size := HK6.out.size
     have hm1 : qs.length + 1 ≤ maxLen := by unfold maxLen; omega
     have hm2 : (qs.length + 1) * 96 ≤ 140737488355328 := by omega
     have hb0 : w.heap.size ≤ (w6.alloc (.cells #[.int .i64 kind, .int .i64 ag, .int .i64 sh, .int .i64 seq, .int .i64 ep, .slice Ad ds.length cd, .string ser, .int .i64 fr, .int .i64 tag] 26)).heap.size := by simp; omega
     have Hm1 := Lib.hid hm1; have Hm2 := Lib.hid hm2; have Hb0 := Lib.hid hb0
     clear hm1 hm2 hb0 HST hrn
     go_wp2_with (at_builtin; go_must (refine wpList_append_any _ rfl (.tmp 24) (.tmp 26) _ rfl w.heap.size 26 i0 _ 9 96 Tryz.underlying52 Hi0.out Hz0.out Hz1.out Hz2.out rfl (by omega) u4 qs.length (qs.flatMap eCell) rfl Hown6.out (w6.heap.size + 1) (some ⟨w6.heap.size, 0, none⟩) 1 1 [.int .i64 kind, .int .i64 ag, .int .i64 sh, .int .i64 seq, .int .i64 ep, .slice Ad ds.length cd, .string ser, .int .i64 fr, .int .i64 tag] rfl (reads_new _ _ _ _ _ rfl) (by intro u hu; simp at hu; rcases hu with rfl | rfl | rfl | rfl | rfl | rfl | rfl | rfl | rfl <;> rfl) Hm1.out Hm2.out Hb0.out ?_))
     intro v8 w8 hown8 hg8 hat8
     have hpo : p ∉ u4.ownBlock.toList := fun hm => by have := (hlt0.out p (by simpa using hm)).1; omega
     have kg : Keeps u4.ownBlock.toList (w6.alloc (.cells #[.int .i64 kind, .int .i64 ag, .int .i64 sh, .int .i64 seq, .int .i64 ep, .slice Ad ds.length cd, .string ser, .int .i64 fr, .int .i64 tag] 26)) w8 := (Keeps.refl _ _).grown hg8 (fun g hg => .inl (by simpa using hg))
     have h1 := HA6.out.keep (M' := []) ((Keeps.refl _ _).alloc (.cells #[.int .i64 kind, .int .i64 ag, .int .i64 sh, .int .i64 seq, .int .i64 ep, .slice Ad ds.length cd, .string ser, .int .i64 fr, .int .i64 tag] 26)) (by simp) (by simp)
     have h2 := h1.avoid (M' := v8.ownBlock.toList ++ (u4.ownBlock.toList ++ M)) (fun g hg => by
      rcases List.mem_append.1 hg with h | h
      ·rcases hat8 with h5 | h5
       ·exact .inl (List.mem_append_left _ (by rw [h5] at h; exact h))
       ·rw [h5] at h; simp at h; exact .inr (by simp; omega)
      ·exact .inl h)
     have H8 := Lib.hid ((h2.keep kg (fun g hg => .inl (List.mem_append_right _ (List.mem_append_left _ hg))) hpo).avoid (M' := v8.ownBlock.toList ++ M) (fun g hg => by
      rcases List.mem_append.1 hg with h | h
      ·exact .inl (List.mem_append_left _ h)
      ·exact .inl (List.mem_append_right _ (List.mem_append_right _ h))))
     have Hk8 : Hid (Keeps [p] w w8) := (HK6.out.alloc _).grown hg8 (fun g hg => .inr (hlt0.out g hg).1)
     have Hds8 : Hid (DsOwn w w8 v8 (qs ++ [(⟨kind, ag, sh, seq, ep, ds, ser, fr, tag⟩, .slice Ad ds.length cd)])) :=
      dsOwn_stepK Hds.out Hk36.out (by simp; exact hpw) (fun g hg => (hlt0.out g hg).2) Hk.out.size HD6.out hg8 (by simpa using hat8)
     have Hown8 : Hid (w8.ownsRow w.heap.size 26 9 v8 (qs ++ [((⟨kind, ag, sh, seq, ep, ds, ser, fr, tag⟩ : EntryD), Value.slice Ad ds.length cd)]).length ((qs ++ [((⟨kind, ag, sh, seq, ep, ds, ser, fr, tag⟩ : EntryD), Value.slice Ad ds.length cd)]).flatMap eCell)) := by
      show World.ownsRow _ _ _ _ _ _ _
      rw [List.length_append, List.flatMap_append]
      simpa [eCell, hql] using hown8
     have HR8 : Hid (R = preE ((qs ++ [((⟨kind, ag, sh, seq, ep, ds, ser, fr, tag⟩ : EntryD), Value.slice Ad ds.length cd)]).map (·.1)) (getEs (n - (x + 1)) t2 false)) := by
      show _ = _
      rw [List.map_append]
      exact HST2.out
     clear hown8 hg8 hat8 kg h1 h2 hpo
     go_wp2
     go_roundw
     case rel => exact ⟨x + 1, _, t2, false, by go_num, by omega, by simp; omega, by omega, HR8, Hown8, Hds8, H8, Hk8⟩
     case measure => simp [intOf] <;> omega
    ·have hp : Hid (MGetPost M p R w (.returned (.tuple #[.slice none 0 0, .bool false])) w6) := by
      show MGetPost _ _ _ _ _ _
      rw [HST.out, if_pos (.inr hrn)]
      exact ⟨rfl, HK6.out⟩
     have hnn : ((rn : Int) != 0) = true := by simpa using hrn
     clear HST hrn
     go_wp2
     go_ret2
     exact hp.out
  ·obtain rfl : x = n := by omega
   have HRx : Hid (R = (some (qs.map (·.1)), lx, bx)) := by
    show _ = _
    rw [HR.out, Nat.sub_self]
    simp [getEs, preE]
   have hbad := Lib.hid (bad_any (u4.ownBlock.toList ++ M) p lx bx wr HA.out)
   have hp : Hid (MGetPost M p R w (.returned (.tuple #[u4, .bool (!bx)])) wr) := by
    show MGetPost _ _ _ _ _ _
    rw [HRx.out]
    exact ⟨u4, rfl, fun M' hM => ⟨qs, rfl, Rd.of_own Hown.out hM, fun q hq => Hds.out q hq M' (fun g hg => .inl (hM g hg))⟩, HA.out.avoid (fun g hg => .inl (List.mem_append_right _ hg)), Hk.out⟩
   go_wp2_with fail
   refine hbad.out.mono ?_
   rintro e w' ⟨rfl, rfl⟩
   go_wp2
   go_ret2
   exact hp.out
end Go.Proofs.YtinnifhnabncfaaGreatDoor.Vi
end
section
namespace Go.Proofs.YtinnifhnabncfaaGreatDoor.Vi
open Go.RowKit Base Mem Go.Shelf
def zeroR : Array Value := #[.int .i64 0, .int .i64 0, .int .i64 0, .int .i64 0, .int .i64 0, .int .i64 0, .slice none 0 0, .string ⟨#[]⟩, .int .i64 0, .int .i64 0, .int .i64 0, .int .i64 0, .int .u64 0, .int .i64 0, .int .i64 0, .slice none 0 0, .int .i64 0, .int .i64 0]
/-- A message and whether it is one, from a reader. -/
def mreadS (k : Nat) (l : List UInt8) (b : Bool) : MsgD × Bool × List UInt8 × Bool :=
 if k = 1 then (⟨1, (readE (textS l b).1).1, 0, 0, 0, 0, 0, [], 0, 0⟩, decide ((readE (textS l b).1).2 = 0), (textS l b).2)
 else if k = 2 then
  let a := intS l b
  let c := countS a.2.1 a.2.2 255
  let n := numS c.2.1 c.2.2
  (⟨2, ⟨0, 0, 0, 0, 0, [], ⟨#[]⟩, 0, 0⟩, a.1, c.1, n.1, 0, 0, [], 0, 0⟩, true, n.2)
 else if k = 4 then
  let t := intS l b
  let h := intS t.2.1 t.2.2
  let g := mgetS h.2.1 h.2.2
  (⟨4, ⟨0, 0, 0, 0, 0, [], ⟨#[]⟩, 0, 0⟩, 0, 0, 0, t.1, h.1, g.1.getD [], 0, 0⟩, g.1.isSome && !g.2.2, g.2)
 else if k = 5 then
  let t := intS l b
  let c := countS t.2.1 t.2.2 128
  let g := mgetS c.2.1 c.2.2
  (⟨5, ⟨0, 0, 0, 0, 0, [], ⟨#[]⟩, 0, 0⟩, 0, 0, 0, t.1, 0, g.1.getD [], c.1, 0⟩, g.1.isSome && !g.2.2, g.2)
 else if k = 6 then
  let t := intS l b
  let c := countS t.2.1 t.2.2 128
  (⟨6, ⟨0, 0, 0, 0, 0, [], ⟨#[]⟩, 0, 0⟩, 0, 0, 0, t.1, 0, [], 0, c.1⟩, true, c.2)
 else (⟨k, ⟨0, 0, 0, 0, 0, [], ⟨#[]⟩, 0, 0⟩, 0, 0, 0, (intS l b).1, 0, [], 0, 0⟩, true, (intS l b).2)
def MRd (p : Nat) (R : MsgD × Bool × List UInt8 × Bool) (w : World) (e : Ending) (w' : World) : Prop := ∃ dv lv, e = .returned (.tuple #[.agg (mCell R.1 dv lv).toArray, .bool R.2.1]) ∧ (∀ M, (∀ g ∈ M, g < w.heap.size) → MsgAt w' M R.1 dv lv) ∧ (R.2.1 = true → RdAt w' [] p R.2.2.1 R.2.2.2) ∧ Keeps [p] w w'
structure RmAt (w0 w : World) (p g0 g6 : Nat) (c : Array Value) : Prop where
 keeps : Keeps [p] w0 w
 b0 : Blk w g0 68 zeroR
 b6 : Blk w g6 68 c
 o0 : w0.heap.size ≤ g0
 o1 : g0 < g6
 op : p < g0
theorem RmAt.step {w0 w w' : World} {p g0 g6 : Nat} {c : Array Value} (h : RmAt w0 w p g0 g6 c) (hk : Keeps [p] w w') : RmAt w0 w' p g0 g6 c := by
 have := h.o0; have := h.o1; have := h.op
 exact ⟨h.keeps.trans hk (by simp), hk.blk h.b0 (by simp; omega), hk.blk h.b6 (by simp; omega), h.o0, h.o1, h.op⟩
theorem RmAt.in6 {w0 w w' : World} {p g0 g6 : Nat} {c c' : Array Value} (h : RmAt w0 w p g0 g6 c) (hk : Keeps [g6] w w') (hB : Blk w' g6 68 c') : RmAt w0 w' p g0 g6 c' := by
 have := h.o0; have := h.o1; have := h.op
 exact ⟨h.keeps.trans hk (by intro g hg; simp at hg; right; omega), hk.blk h.b0 (by simp; omega), hB, h.o0, h.o1, h.op⟩
theorem RmAt.set {w0 w : World} {p g0 g6 : Nat} {c : Array Value} (h : RmAt w0 w p g0 g6 c) (i : Nat) (v : Value) : RmAt w0 (w.setCell ⟨g6, i, none⟩ v) p g0 g6 (c.setIfInBounds i v) :=
 h.in6 ((Keeps.refl _ _).setCell (by simp) v) (h.b6.set_ i v)
theorem RmAt.pin {w0 w : World} {p g0 g6 : Nat} {c : Array Value} (h : RmAt w0 w p g0 g6 c) : p ∉ [g6] := by
 have := h.o1; have := h.op; simp; omega
theorem mrd_fin {w w9 wz : World} {p g0 g6 : Nat} {c : Array Value} {bv : Value} (h : RmAt w w9 p g0 g6 c) (hk : Keeps [g0] w9 wz) (R : MsgD × Bool × List UInt8 × Bool) (dv lv : Value) (hc : c = (mCell R.1 dv lv).toArray) (hb : bv = .bool R.2.1)
  (hD : ∀ M, (∀ g ∈ M, g ≤ g6) → MsgAt w9 M R.1 dv lv) (hrd : R.2.1 = true → RdAt w9 [g6, g0] p R.2.2.1 R.2.2.2) : MRd p R w (.returned (.tuple #[.agg c, bv])) wz := by
 have := h.o0; have := h.o1; have := h.op
 refine ⟨dv, lv, by rw [hc, hb], fun M hM => ?_, fun ht => ((hrd ht).keep hk (by simp) (by simp; omega)).avoid (by simp), h.keeps.trans hk (by intro g hg; simp at hg; right; omega)⟩
 exact ((hD (g0 :: M) (by intro g hg; rcases List.mem_cons.1 hg with rfl | hg; omega; have := hM g hg; omega)).keep hk (by simp)).avoid (fun g hg => .inl (List.mem_cons_of_mem _ hg))
theorem msg_in6 {w w' : World} {g1 : Nat} {m : MsgD} {dv lv : Value} (h : ∀ M, (∀ g ∈ M, g ≤ g1) → MsgAt w M m dv lv) (hk : Keeps [g1] w w') : ∀ M, (∀ g ∈ M, g ≤ g1) → MsgAt w' M m dv lv := fun M hM =>
 ((h (g1 :: M) (by intro g hg; rcases List.mem_cons.1 hg with rfl | hg; omega; exact hM g hg)).keep hk (by simp)).avoid (fun g hg => .inl (List.mem_cons_of_mem _ hg))
set_option maxRecDepth 100000 in
set_option maxHeartbeats 600000 in
theorem mread_1 (p : Nat) (l : List UInt8) (b : Bool) (mx : Int) (w : World) (h : RdAt w [] p l b) (hl : l.length < 4294967281) (hm : w.cell? ⟨0, 0, none⟩ = some (.int .i64 mx)) (hp0 : p ≠ 0) :
  Calls Tryz.prog 103 #[.pointer (some ⟨p, 0, none⟩), .int .i64 1] w fun e w' => MRd p (mreadS 1 l b) w e w' := by
 have hw0 : 0 < w.heap.size := by
  have := World.block_lt_of_cell? w _ hm
  simpa using this
 have hkeepm : Hid (∀ W, Keeps [p] w W → W.cell? ⟨0, 0, none⟩ = some (.int .i64 mx)) := fun W hb => (hb.cell (p := ⟨0, 0, none⟩) hw0 (by simp; omega)).trans hm
 have H := Lib.hid h
 have hpw := h.lt
 have _ := hl
 clear h hm
 have HR : Hid (mreadS 1 l b = (⟨1, (readE (textS l b).1).1, 0, 0, 0, 0, 0, [], 0, 0⟩, decide ((readE (textS l b).1).2 = 0), (textS l b).2)) := rfl
 generalize mreadS 1 l b = R at *
 go_enter Tryz.func103, Tryz.ntmps103
 go_upto_region 1 with (fail)
 obtain ⟨w1, hw1⟩ : ∃ w1, w1 = w.alloc (.cells #[.int .i64 0, .int .i64 0, .int .i64 0, .int .i64 0, .int .i64 0, .int .i64 0, .slice none 0 0, .string ⟨#[]⟩, .int .i64 0, .int .i64 0, .int .i64 0, .int .i64 0, .int .u64 0, .int .i64 0, .int .i64 0, .slice none 0 0, .int .i64 0, .int .i64 0] 68) := ⟨_, rfl⟩
 rw [← hw1]
 have hK1 : Keeps [] w w1 := by rw [hw1]; exact (Keeps.refl _ _).alloc _
 have hB1 : Blk w1 w.heap.size 68 zeroR := by rw [hw1]; exact Blk.new w _ _
 obtain ⟨g0, hg0⟩ : ∃ g0, g0 = w.heap.size := ⟨_, rfl⟩
 rw [← hg0] at hB1 ⊢
 have hg1 : g0 < w1.heap.size := hB1.lt
 have hpg : p < g0 := by omega
 have HK1 := Lib.hid hK1; have HB1 := Lib.hid hB1; have Hg0 := Lib.hid hg0
 clear hw1 hK1 hB1 hg0
 go_wp2_with (refine wpList_store_blk rfl 68 (.tmp 6) (.tmp 11) rfl w1.heap.size 0 68 _ #[.int .i64 1, .int .i64 0, .int .i64 0, .int .i64 0, .int .i64 0, .int .i64 0, .slice none 0 0, .string ⟨#[]⟩, .int .i64 0, .int .i64 0, .int .i64 0, .int .i64 0, .int .u64 0, .int .i64 0, .int .i64 0, .slice none 0 0, .int .i64 0, .int .i64 0] #[.int .i64 1, .int .i64 0, .int .i64 0, .int .i64 0, .int .i64 0, .int .i64 0, .slice none 0 0, .string ⟨#[]⟩, .int .i64 0, .int .i64 0, .int .i64 0, .int .i64 0, .int .u64 0, .int .i64 0, .int .i64 0, .slice none 0 0, .int .i64 0, .int .i64 0] rfl rfl (Blk.new _ _ _) (by show 0 + 18 ≤ 18; omega) rfl (by kernel_rfl) rfl ?_; intro w2 hk2 hB2; have Hk2 := Lib.hid hk2; have HB2 := Lib.hid hB2; clear hk2 hB2)
 have hA2 : Keeps [w1.heap.size] w1 w2 := ((Keeps.refl _ _).alloc _).trans Hk2.out (by simp)
 have H2 : Hid (RmAt w w2 p g0 w1.heap.size #[.int .i64 1, .int .i64 0, .int .i64 0, .int .i64 0, .int .i64 0, .int .i64 0, .slice none 0 0, .string ⟨#[]⟩, .int .i64 0, .int .i64 0, .int .i64 0, .int .i64 0, .int .u64 0, .int .i64 0, .int .i64 0, .slice none 0 0, .int .i64 0, .int .i64 0]) :=
  ⟨(HK1.out.trans hA2 (by intro x hx; simp at hx; right; have := HK1.out.size; omega) : Keeps [] w w2).mono (by simp), hA2.blk HB1.out (by simp; omega), HB2.out, by have := Hg0.out; omega, hg1, hpg⟩
 have HA2 : Hid (RdAt w2 [w1.heap.size, g0] p l b) :=
  (((H.out.avoid (M' := [w1.heap.size, g0]) (by intro x hx; right; have := HK1.out.size; have := Hg0.out; simp at hx; omega)).keep HK1.out (by simp) (by simp)).keep hA2 (by simp) (by simp; omega))
 generalize w1.heap.size = g6 at *
 clear hA2 Hk2 HB2 HB1 HK1 H hg1
 have hc := Lib.hid (rtext_any [g6, g0] p l b w2 HA2.out)
 have hn2 := textS_len l b
 generalize textS l b = t at *
 obtain ⟨t1, t2, t3⟩ := t
 simp only [] at HR hc hn2
 refine hc.out.mono ?_
 rintro e w3 ⟨rfl, hA3, hk3⟩
 obtain ⟨cc, w4, cv, hk4, hsz4, hB4⟩ := bytes_of w3 t1
 have H4 := Lib.hid (H2.out.step (hk3.trans hk4 (by simp)))
 have HA4 := Lib.hid (hA3.keep hk4 (by simp) (by simp))
 have hrd := Lib.hid (eread_any _ t1 mx w4 (hB4 [] (by simp)) (by omega) (hkeepm.out _ H4.out.keeps))
 have h64 := H4.out.b6.lt
 clear hA3 hk3 hk4 hB4 hc H2 HA2
 generalize readE t1 = r at *
 obtain ⟨re, rn⟩ := r
 simp only [] at HR hrd
 go_wp2_with fail
 refine hrd.out.mono ?_
 rintro e w5 ⟨dv, rfl, hD5, hb5⟩
 obtain ⟨Ad, cd, rfl, _⟩ := (hD5 [] (by simp)).len
 have H5 := Lib.hid (H4.out.step (Keeps.of_below (M := [p]) hb5))
 have HA5 := Lib.hid (HA4.out.keep (Keeps.of_below (M := []) hb5) (by simp) (by simp))
 have HD5 := Lib.hid (fun M (hM : ∀ g ∈ M, g ≤ g6) => hD5 M (fun x hx => Nat.lt_of_le_of_lt (hM x hx) h64))
 clear hD5 hb5 hrd cv H4 HA4 hsz4 h64
 go_wp2_with (first | (refine wpList_store_blk rfl 26 (.tmp 8) (.tmp 20) rfl w5.heap.size 0 26 _ (eCell (re, .slice Ad re.ds.length cd)).toArray (eCell (re, .slice Ad re.ds.length cd)).toArray rfl rfl (Blk.new _ _ _) (by show 0 + 9 ≤ 9; omega) rfl (by kernel_rfl) rfl ?_; intro w6 hk6 hB6; have hkk : Keeps [] w5 w6 := ((Keeps.refl _ _).alloc _).trans hk6 (by intro x hx; simp at hx; right; omega); have H6 := Lib.hid (H5.out.step (hkk.mono (by simp))); have HA6 := Lib.hid (HA5.out.keep hkk (by simp) (by simp)); have HD6 := Lib.hid (fun M (hM : ∀ g ∈ M, g ≤ g6) => (HD5.out M hM).keep hkk (by simp)); have HB6 := Lib.hid hB6; clear hk6 hB6 hkk) | (refine wpList_load_mid rfl 26 (.tmp 8) rfl w5.heap.size 0 rfl _ _ (blk_range HB6.out) Tryz.underlying26 rfl (by kernel_rfl) ?_) | (refine wpList_store_blk rfl 26 (.tmp 23) (.tmp 22) rfl g6 1 68 #[.int .i64 1, .int .i64 0, .int .i64 0, .int .i64 0, .int .i64 0, .int .i64 0, .slice none 0 0, .string ⟨#[]⟩, .int .i64 0, .int .i64 0, .int .i64 0, .int .i64 0, .int .u64 0, .int .i64 0, .int .i64 0, .slice none 0 0, .int .i64 0, .int .i64 0] #[.int .i64 1, .int .i64 re.kind, .int .i64 re.ag, .int .i64 re.sh, .int .i64 re.seq, .int .i64 re.ep, .slice Ad re.ds.length cd, .string re.ser, .int .i64 re.fr, .int .i64 re.tag, .int .i64 0, .int .i64 0, .int .u64 0, .int .i64 0, .int .i64 0, .slice none 0 0, .int .i64 0, .int .i64 0] (eCell (re, .slice Ad re.ds.length cd)).toArray rfl rfl H6.out.b6 (by show 1 + 9 ≤ 18; omega) rfl (by kernel_rfl) rfl ?_; intro w7 hk7 hB7; have H7 := Lib.hid (H6.out.in6 hk7 hB7); have HA7 := Lib.hid (HA6.out.keep hk7 (by simp) H6.out.pin); have Hk7 := Lib.hid hk7; clear hk7 hB7) | (refine wpList_load_mid rfl 68 (.tmp 6) rfl g6 0 rfl _ _ (blk_range H7.out.b6) Tryz.underlying68 rfl (by kernel_rfl) ?_) | (refine wpList_store_blk rfl 68 (.tmp 4) (.tmp 24) rfl g0 0 68 zeroR #[.int .i64 1, .int .i64 re.kind, .int .i64 re.ag, .int .i64 re.sh, .int .i64 re.seq, .int .i64 re.ep, .slice Ad re.ds.length cd, .string re.ser, .int .i64 re.fr, .int .i64 re.tag, .int .i64 0, .int .i64 0, .int .u64 0, .int .i64 0, .int .i64 0, .slice none 0 0, .int .i64 0, .int .i64 0] #[.int .i64 1, .int .i64 re.kind, .int .i64 re.ag, .int .i64 re.sh, .int .i64 re.seq, .int .i64 re.ep, .slice Ad re.ds.length cd, .string re.ser, .int .i64 re.fr, .int .i64 re.tag, .int .i64 0, .int .i64 0, .int .u64 0, .int .i64 0, .int .i64 0, .slice none 0 0, .int .i64 0, .int .i64 0] rfl rfl H7.out.b0 (by show 0 + 18 ≤ 18; omega) rfl (by kernel_rfl) rfl ?_; intro wz hkz hBz; have Hkz := Lib.hid hkz; have HBz := Lib.hid hBz; clear hkz hBz))
 refine bodyPost_ret (results_cell2 rfl _ _ g0 68 #[.int .i64 1, .int .i64 re.kind, .int .i64 re.ag, .int .i64 re.sh, .int .i64 re.seq, .int .i64 re.ep, .slice Ad re.ds.length cd, .string re.ser, .int .i64 re.fr, .int .i64 re.tag, .int .i64 0, .int .i64 0, .int .u64 0, .int .i64 0, .int .i64 0, .slice none 0 0, .int .i64 0, .int .i64 0] _ rfl HBz.out Tryz.underlying68 rfl (by kernel_rfl)) rfl ?_
 exact mrd_fin H7.out Hkz.out R (.slice Ad re.ds.length cd) (.slice none 0 0) (by rw [HR.out]; rfl) (by rw [HR.out]; show Value.bool _ = Value.bool _; congr 1; rw [Bool.eq_iff_iff]; simp) (fun M hM => by rw [HR.out]; exact (msg_in6 (m := _) (dv := .slice Ad re.ds.length cd) (lv := .slice none 0 0) (fun M hM => ⟨HD6.out M hM, Ens.nil _ _⟩) Hk7.out M hM)) (fun ht => by rw [HR.out] at ht ⊢; exact HA7.out)
set_option maxRecDepth 100000 in
set_option maxHeartbeats 600000 in
theorem mread_2 (p : Nat) (l : List UInt8) (b : Bool) (mx : Int) (w : World) (h : RdAt w [] p l b) (hl : l.length < 4294967281) (hm : w.cell? ⟨0, 0, none⟩ = some (.int .i64 mx)) (hp0 : p ≠ 0) :
  Calls Tryz.prog 103 #[.pointer (some ⟨p, 0, none⟩), .int .i64 2] w fun e w' => MRd p (mreadS 2 l b) w e w' := by
 have hw0 : 0 < w.heap.size := by
  have := World.block_lt_of_cell? w _ hm
  simpa using this
 have hkeepm : Hid (∀ W, Keeps [p] w W → W.cell? ⟨0, 0, none⟩ = some (.int .i64 mx)) := fun W hb => (hb.cell (p := ⟨0, 0, none⟩) hw0 (by simp; omega)).trans hm
 have H := Lib.hid h
 have hpw := h.lt
 have _ := hl
 clear h hm
 have HR : Hid (mreadS 2 l b = (⟨2, ⟨0, 0, 0, 0, 0, [], ⟨#[]⟩, 0, 0⟩, (intS l b).1, (countS (intS l b).2.1 (intS l b).2.2 255).1, (numS (countS (intS l b).2.1 (intS l b).2.2 255).2.1 (countS (intS l b).2.1 (intS l b).2.2 255).2.2).1, 0, 0, [], 0, 0⟩, true, (numS (countS (intS l b).2.1 (intS l b).2.2 255).2.1 (countS (intS l b).2.1 (intS l b).2.2 255).2.2).2)) := rfl
 generalize mreadS 2 l b = R at *
 go_enter Tryz.func103, Tryz.ntmps103
 go_upto_region 1 with (fail)
 obtain ⟨w1, hw1⟩ : ∃ w1, w1 = w.alloc (.cells #[.int .i64 0, .int .i64 0, .int .i64 0, .int .i64 0, .int .i64 0, .int .i64 0, .slice none 0 0, .string ⟨#[]⟩, .int .i64 0, .int .i64 0, .int .i64 0, .int .i64 0, .int .u64 0, .int .i64 0, .int .i64 0, .slice none 0 0, .int .i64 0, .int .i64 0] 68) := ⟨_, rfl⟩
 rw [← hw1]
 have hK1 : Keeps [] w w1 := by rw [hw1]; exact (Keeps.refl _ _).alloc _
 have hB1 : Blk w1 w.heap.size 68 zeroR := by rw [hw1]; exact Blk.new w _ _
 obtain ⟨g0, hg0⟩ : ∃ g0, g0 = w.heap.size := ⟨_, rfl⟩
 rw [← hg0] at hB1 ⊢
 have hg1 : g0 < w1.heap.size := hB1.lt
 have hpg : p < g0 := by omega
 have HK1 := Lib.hid hK1; have HB1 := Lib.hid hB1; have Hg0 := Lib.hid hg0
 clear hw1 hK1 hB1 hg0
 go_wp2_with (refine wpList_store_blk rfl 68 (.tmp 6) (.tmp 11) rfl w1.heap.size 0 68 _ #[.int .i64 2, .int .i64 0, .int .i64 0, .int .i64 0, .int .i64 0, .int .i64 0, .slice none 0 0, .string ⟨#[]⟩, .int .i64 0, .int .i64 0, .int .i64 0, .int .i64 0, .int .u64 0, .int .i64 0, .int .i64 0, .slice none 0 0, .int .i64 0, .int .i64 0] #[.int .i64 2, .int .i64 0, .int .i64 0, .int .i64 0, .int .i64 0, .int .i64 0, .slice none 0 0, .string ⟨#[]⟩, .int .i64 0, .int .i64 0, .int .i64 0, .int .i64 0, .int .u64 0, .int .i64 0, .int .i64 0, .slice none 0 0, .int .i64 0, .int .i64 0] rfl rfl (Blk.new _ _ _) (by show 0 + 18 ≤ 18; omega) rfl (by kernel_rfl) rfl ?_; intro w2 hk2 hB2; have Hk2 := Lib.hid hk2; have HB2 := Lib.hid hB2; clear hk2 hB2)
 have hA2 : Keeps [w1.heap.size] w1 w2 := ((Keeps.refl _ _).alloc _).trans Hk2.out (by simp)
 have H2 : Hid (RmAt w w2 p g0 w1.heap.size #[.int .i64 2, .int .i64 0, .int .i64 0, .int .i64 0, .int .i64 0, .int .i64 0, .slice none 0 0, .string ⟨#[]⟩, .int .i64 0, .int .i64 0, .int .i64 0, .int .i64 0, .int .u64 0, .int .i64 0, .int .i64 0, .slice none 0 0, .int .i64 0, .int .i64 0]) :=
  ⟨(HK1.out.trans hA2 (by intro x hx; simp at hx; right; have := HK1.out.size; omega) : Keeps [] w w2).mono (by simp), hA2.blk HB1.out (by simp; omega), HB2.out, by have := Hg0.out; omega, hg1, hpg⟩
 have HA2 : Hid (RdAt w2 [w1.heap.size, g0] p l b) :=
  (((H.out.avoid (M' := [w1.heap.size, g0]) (by intro x hx; right; have := HK1.out.size; have := Hg0.out; simp at hx; omega)).keep HK1.out (by simp) (by simp)).keep hA2 (by simp) (by simp; omega))
 generalize w1.heap.size = g6 at *
 clear hA2 Hk2 HB2 HB1 HK1 H hg1
 have hc := Lib.hid (rint_any [g6, g0] p l b w2 HA2.out)
 have hn2 := intS_len l b
 generalize intS l b = t at *
 obtain ⟨a1, a2, a3⟩ := t
 simp only [] at HR hc hn2
 refine hc.out.mono ?_
 rintro e w3 ⟨rfl, hA, hk⟩
 have H3 := Lib.hid (H2.out.step hk); have HA3 := Lib.hid hA
 clear hA hk hc H2 HA2
 go_wp2_with fail
 have hc := Lib.hid (count_any [g6, g0] p a2 a3 255 (by omega) w3 HA3.out)
 have hn3 := countS_len a2 a3 255
 generalize countS a2 a3 255 = t at *
 obtain ⟨c1, c2, c3⟩ := t
 simp only [] at HR hc hn3
 refine hc.out.mono ?_
 rintro e w4 ⟨rfl, hA, hk⟩
 have H4 := Lib.hid (H3.out.step hk); have HA4 := Lib.hid hA
 clear hA hk hc H3 HA3
 go_wp2_with fail
 have hc := Lib.hid (number_any [g6, g0] p c2 c3 w4 HA4.out)
 have hn4 := numS_len c2 c3
 generalize numS c2 c3 = t at *
 obtain ⟨n1, n2, n3⟩ := t
 simp only [] at HR hc hn4
 refine hc.out.mono ?_
 rintro e w5 ⟨rfl, hA, hk⟩
 have H5 := Lib.hid (H4.out.step hk); have HA5 := Lib.hid hA
 clear hA hk hc H4 HA4
 obtain ⟨q0, q1, q2, q3, q4, q5, q6, q7, q8, q9, qa, qb, qc, qd, qe, qf, qg, qh, qz⟩ := blk18 H5.out.b6
 obtain ⟨w6, hw⟩ : ∃ w', w' = (((w5.setCell ⟨g6, 10, none⟩ (.int .i64 a1)).setCell ⟨g6, 11, none⟩ (.int .i64 c1)).setCell ⟨g6, 12, none⟩ (.int .u64 n1)) := ⟨_, rfl⟩
 have hk : Keeps [g6] w5 w6 := by rw [hw]; exact (((Keeps.refl _ _).setCell (by simp) _).setCell (by simp) _).setCell (by simp) _
 have H6 : Hid (RmAt w w6 p g0 g6 #[.int .i64 2, .int .i64 0, .int .i64 0, .int .i64 0, .int .i64 0, .int .i64 0, .slice none 0 0, .string ⟨#[]⟩, .int .i64 0, .int .i64 0, .int .i64 a1, .int .i64 c1, .int .u64 n1, .int .i64 0, .int .i64 0, .slice none 0 0, .int .i64 0, .int .i64 0]) := by show RmAt _ _ _ _ _ _; rw [hw]; exact (by simpa using (((H5.out.set 10 (.int .i64 a1)).set 11 (.int .i64 c1)).set 12 (.int .u64 n1)) : RmAt w _ p g0 g6 _)
 have HA6 := Lib.hid (HA5.out.keep hk (by simp) H5.out.pin)
 have Hk6 := Lib.hid hk
 have Hw := Lib.hid hw
 clear hk hw
 go_upto_region 10 with (fail)
 rw [← Hw.out]
 clear Hw q0 q1 q2 q3 q4 q5 q6 q7 q8 q9 qa qb qc qd qe qf qg qh qz H5
 go_wp2_with (first | (refine wpList_load_mid rfl 68 (.tmp 6) rfl g6 0 rfl _ _ (blk_range H6.out.b6) Tryz.underlying68 rfl (by kernel_rfl) ?_) | (refine wpList_store_blk rfl 68 (.tmp 4) (.tmp 38) rfl g0 0 68 zeroR #[.int .i64 2, .int .i64 0, .int .i64 0, .int .i64 0, .int .i64 0, .int .i64 0, .slice none 0 0, .string ⟨#[]⟩, .int .i64 0, .int .i64 0, .int .i64 a1, .int .i64 c1, .int .u64 n1, .int .i64 0, .int .i64 0, .slice none 0 0, .int .i64 0, .int .i64 0] #[.int .i64 2, .int .i64 0, .int .i64 0, .int .i64 0, .int .i64 0, .int .i64 0, .slice none 0 0, .string ⟨#[]⟩, .int .i64 0, .int .i64 0, .int .i64 a1, .int .i64 c1, .int .u64 n1, .int .i64 0, .int .i64 0, .slice none 0 0, .int .i64 0, .int .i64 0] rfl rfl H6.out.b0 (by show 0 + 18 ≤ 18; omega) rfl (by kernel_rfl) rfl ?_; intro wz hkz hBz; have Hkz := Lib.hid hkz; have HBz := Lib.hid hBz; clear hkz hBz))
 refine bodyPost_ret (results_cell2 rfl _ _ g0 68 #[.int .i64 2, .int .i64 0, .int .i64 0, .int .i64 0, .int .i64 0, .int .i64 0, .slice none 0 0, .string ⟨#[]⟩, .int .i64 0, .int .i64 0, .int .i64 a1, .int .i64 c1, .int .u64 n1, .int .i64 0, .int .i64 0, .slice none 0 0, .int .i64 0, .int .i64 0] _ rfl HBz.out Tryz.underlying68 rfl (by kernel_rfl)) rfl ?_
 exact mrd_fin H6.out Hkz.out R (.slice none 0 0) (.slice none 0 0) (by rw [HR.out]; rfl) (by rw [HR.out]; rfl) (fun M hM => by rw [HR.out]; exact ⟨Ds.nil _ _, Ens.nil _ _⟩) (fun ht => by rw [HR.out] at ht ⊢; exact HA6.out)
set_option maxRecDepth 100000 in
set_option maxHeartbeats 600000 in
theorem mread_4 (p : Nat) (l : List UInt8) (b : Bool) (mx : Int) (w : World) (h : RdAt w [] p l b) (hl : l.length < 4294967281) (hm : w.cell? ⟨0, 0, none⟩ = some (.int .i64 mx)) (hp0 : p ≠ 0) :
  Calls Tryz.prog 103 #[.pointer (some ⟨p, 0, none⟩), .int .i64 4] w fun e w' => MRd p (mreadS 4 l b) w e w' := by
 have hw0 : 0 < w.heap.size := by
  have := World.block_lt_of_cell? w _ hm
  simpa using this
 have hkeepm : Hid (∀ W, Keeps [p] w W → W.cell? ⟨0, 0, none⟩ = some (.int .i64 mx)) := fun W hb => (hb.cell (p := ⟨0, 0, none⟩) hw0 (by simp; omega)).trans hm
 have H := Lib.hid h
 have hpw := h.lt
 have _ := hl
 clear h hm
 have HR : Hid (mreadS 4 l b = (⟨4, ⟨0, 0, 0, 0, 0, [], ⟨#[]⟩, 0, 0⟩, 0, 0, 0, (intS l b).1, (intS (intS l b).2.1 (intS l b).2.2).1, (mgetS (intS (intS l b).2.1 (intS l b).2.2).2.1 (intS (intS l b).2.1 (intS l b).2.2).2.2).1.getD [], 0, 0⟩, (mgetS (intS (intS l b).2.1 (intS l b).2.2).2.1 (intS (intS l b).2.1 (intS l b).2.2).2.2).1.isSome && !(mgetS (intS (intS l b).2.1 (intS l b).2.2).2.1 (intS (intS l b).2.1 (intS l b).2.2).2.2).2.2, (mgetS (intS (intS l b).2.1 (intS l b).2.2).2.1 (intS (intS l b).2.1 (intS l b).2.2).2.2).2)) := rfl
 generalize mreadS 4 l b = R at *
 go_enter Tryz.func103, Tryz.ntmps103
 go_upto_region 1 with (fail)
 obtain ⟨w1, hw1⟩ : ∃ w1, w1 = w.alloc (.cells #[.int .i64 0, .int .i64 0, .int .i64 0, .int .i64 0, .int .i64 0, .int .i64 0, .slice none 0 0, .string ⟨#[]⟩, .int .i64 0, .int .i64 0, .int .i64 0, .int .i64 0, .int .u64 0, .int .i64 0, .int .i64 0, .slice none 0 0, .int .i64 0, .int .i64 0] 68) := ⟨_, rfl⟩
 rw [← hw1]
 have hK1 : Keeps [] w w1 := by rw [hw1]; exact (Keeps.refl _ _).alloc _
 have hB1 : Blk w1 w.heap.size 68 zeroR := by rw [hw1]; exact Blk.new w _ _
 obtain ⟨g0, hg0⟩ : ∃ g0, g0 = w.heap.size := ⟨_, rfl⟩
 rw [← hg0] at hB1 ⊢
 have hg1 : g0 < w1.heap.size := hB1.lt
 have hpg : p < g0 := by omega
 have HK1 := Lib.hid hK1; have HB1 := Lib.hid hB1; have Hg0 := Lib.hid hg0
 clear hw1 hK1 hB1 hg0
 go_wp2_with (refine wpList_store_blk rfl 68 (.tmp 6) (.tmp 11) rfl w1.heap.size 0 68 _ #[.int .i64 4, .int .i64 0, .int .i64 0, .int .i64 0, .int .i64 0, .int .i64 0, .slice none 0 0, .string ⟨#[]⟩, .int .i64 0, .int .i64 0, .int .i64 0, .int .i64 0, .int .u64 0, .int .i64 0, .int .i64 0, .slice none 0 0, .int .i64 0, .int .i64 0] #[.int .i64 4, .int .i64 0, .int .i64 0, .int .i64 0, .int .i64 0, .int .i64 0, .slice none 0 0, .string ⟨#[]⟩, .int .i64 0, .int .i64 0, .int .i64 0, .int .i64 0, .int .u64 0, .int .i64 0, .int .i64 0, .slice none 0 0, .int .i64 0, .int .i64 0] rfl rfl (Blk.new _ _ _) (by show 0 + 18 ≤ 18; omega) rfl (by kernel_rfl) rfl ?_; intro w2 hk2 hB2; have Hk2 := Lib.hid hk2; have HB2 := Lib.hid hB2; clear hk2 hB2)
 have hA2 : Keeps [w1.heap.size] w1 w2 := ((Keeps.refl _ _).alloc _).trans Hk2.out (by simp)
 have H2 : Hid (RmAt w w2 p g0 w1.heap.size #[.int .i64 4, .int .i64 0, .int .i64 0, .int .i64 0, .int .i64 0, .int .i64 0, .slice none 0 0, .string ⟨#[]⟩, .int .i64 0, .int .i64 0, .int .i64 0, .int .i64 0, .int .u64 0, .int .i64 0, .int .i64 0, .slice none 0 0, .int .i64 0, .int .i64 0]) :=
  ⟨(HK1.out.trans hA2 (by intro x hx; simp at hx; right; have := HK1.out.size; omega) : Keeps [] w w2).mono (by simp), hA2.blk HB1.out (by simp; omega), HB2.out, by have := Hg0.out; omega, hg1, hpg⟩
 have HA2 : Hid (RdAt w2 [w1.heap.size, g0] p l b) :=
  (((H.out.avoid (M' := [w1.heap.size, g0]) (by intro x hx; right; have := HK1.out.size; have := Hg0.out; simp at hx; omega)).keep HK1.out (by simp) (by simp)).keep hA2 (by simp) (by simp; omega))
 generalize w1.heap.size = g6 at *
 clear hA2 Hk2 HB2 HB1 HK1 H hg1
 have hc := Lib.hid (rint_any [g6, g0] p l b w2 HA2.out)
 have hn2 := intS_len l b
 generalize intS l b = t at *
 obtain ⟨t1, t2, t3⟩ := t
 simp only [] at HR hc hn2
 refine hc.out.mono ?_
 rintro e w3 ⟨rfl, hA, hk⟩
 have H3 := Lib.hid (H2.out.step hk); have HA3 := Lib.hid hA
 clear hA hk hc H2 HA2
 obtain ⟨q0, q1, q2, q3, q4, q5, q6, q7, q8, q9, qa, qb, qc, qd, qe, qf, qg, qh, qz⟩ := blk18 H3.out.b6
 obtain ⟨w4, hw⟩ : ∃ w', w' = (w3.setCell ⟨g6, 13, none⟩ (.int .i64 t1)) := ⟨_, rfl⟩
 have hk : Keeps [g6] w3 w4 := by rw [hw]; exact (Keeps.refl _ _).setCell (by simp) _
 have H4 : Hid (RmAt w w4 p g0 g6 #[.int .i64 4, .int .i64 0, .int .i64 0, .int .i64 0, .int .i64 0, .int .i64 0, .slice none 0 0, .string ⟨#[]⟩, .int .i64 0, .int .i64 0, .int .i64 0, .int .i64 0, .int .u64 0, .int .i64 t1, .int .i64 0, .slice none 0 0, .int .i64 0, .int .i64 0]) := by show RmAt _ _ _ _ _ _; rw [hw]; exact (by simpa using (H3.out.set 13 (.int .i64 t1)) : RmAt w _ p g0 g6 _)
 have HA4 := Lib.hid (HA3.out.keep hk (by simp) H3.out.pin)
 have Hk4 := Lib.hid hk
 have Hw := Lib.hid hw
 clear hk hw
 go_upto_region 12 with (fail)
 rw [← Hw.out]
 clear Hw q0 q1 q2 q3 q4 q5 q6 q7 q8 q9 qa qb qc qd qe qf qg qh qz H3
 go_wp2_with fail
 have hc := Lib.hid (rint_any [g6, g0] p t2 t3 w4 HA4.out)
 have hn4 := intS_len t2 t3
 generalize intS t2 t3 = t at *
 obtain ⟨c1, c2, c3⟩ := t
 simp only [] at HR hc hn4
 refine hc.out.mono ?_
 rintro e w5 ⟨rfl, hA, hk⟩
 have H5 := Lib.hid (H4.out.step hk); have HA5 := Lib.hid hA
 clear hA hk hc H4 HA4
 obtain ⟨q0, q1, q2, q3, q4, q5, q6, q7, q8, q9, qa, qb, qc, qd, qe, qf, qg, qh, qz⟩ := blk18 H5.out.b6
 obtain ⟨w6, hw⟩ : ∃ w', w' = (w5.setCell ⟨g6, 14, none⟩ (.int .i64 c1)) := ⟨_, rfl⟩
 have hk : Keeps [g6] w5 w6 := by rw [hw]; exact (Keeps.refl _ _).setCell (by simp) _
 have H6 : Hid (RmAt w w6 p g0 g6 #[.int .i64 4, .int .i64 0, .int .i64 0, .int .i64 0, .int .i64 0, .int .i64 0, .slice none 0 0, .string ⟨#[]⟩, .int .i64 0, .int .i64 0, .int .i64 0, .int .i64 0, .int .u64 0, .int .i64 t1, .int .i64 c1, .slice none 0 0, .int .i64 0, .int .i64 0]) := by show RmAt _ _ _ _ _ _; rw [hw]; exact (by simpa using (H5.out.set 14 (.int .i64 c1)) : RmAt w _ p g0 g6 _)
 have HA6 := Lib.hid (HA5.out.keep hk (by simp) H5.out.pin)
 have Hk6 := Lib.hid hk
 have Hw := Lib.hid hw
 clear hk hw
 go_upto_region 15 with (fail)
 rw [← Hw.out]
 clear Hw q0 q1 q2 q3 q4 q5 q6 q7 q8 q9 qa qb qc qd qe qf qg qh qz H5
 have hg := Lib.hid (mget_any [g6, g0] p c2 c3 mx w6 HA6.out (by omega) (hkeepm.out w6 H6.out.keeps) hp0)
 have h66 := H6.out.b6.lt
 generalize mgetS c2 c3 = g at *
 obtain ⟨_ | es, x2, x3⟩ := g
 ·simp only [MGetPost] at hg
  simp only [Option.getD, Option.isSome, Bool.false_and] at HR
  go_wp2_with fail
  refine hg.out.mono ?_
  rintro e w7 ⟨rfl, hk⟩
  have H7 := Lib.hid (H6.out.step hk)
  clear hk hg H6 HA6
  obtain ⟨q0, q1, q2, q3, q4, q5, q6, q7, q8, q9, qa, qb, qc, qd, qe, qf, qg, qh, qz⟩ := blk18 H7.out.b6
  obtain ⟨w8, hw⟩ : ∃ w', w' = (w7.setCell ⟨g6, 15, none⟩ (.slice none 0 0)) := ⟨_, rfl⟩
  have hk : Keeps [g6] w7 w8 := by rw [hw]; exact (Keeps.refl _ _).setCell (by simp) _
  have H8 : Hid (RmAt w w8 p g0 g6 #[.int .i64 4, .int .i64 0, .int .i64 0, .int .i64 0, .int .i64 0, .int .i64 0, .slice none 0 0, .string ⟨#[]⟩, .int .i64 0, .int .i64 0, .int .i64 0, .int .i64 0, .int .u64 0, .int .i64 t1, .int .i64 c1, .slice none 0 0, .int .i64 0, .int .i64 0]) := by show RmAt _ _ _ _ _ _; rw [hw]; exact (by simpa using (H7.out.set 15 (.slice none 0 0)) : RmAt w _ p g0 g6 _)
  have Hk8 := Lib.hid hk
  have Hw := Lib.hid hw
  clear hk hw
  go_upto_region 21 with (fail)
  rw [← Hw.out]
  clear Hw q0 q1 q2 q3 q4 q5 q6 q7 q8 q9 qa qb qc qd qe qf qg qh qz H7
  go_wp2_with (first | (refine wpList_load_mid rfl 68 (.tmp 6) rfl g6 0 rfl _ _ (blk_range H8.out.b6) Tryz.underlying68 rfl (by kernel_rfl) ?_) | (refine wpList_store_blk rfl 68 (.tmp 4) (.tmp 70) rfl g0 0 68 zeroR #[.int .i64 4, .int .i64 0, .int .i64 0, .int .i64 0, .int .i64 0, .int .i64 0, .slice none 0 0, .string ⟨#[]⟩, .int .i64 0, .int .i64 0, .int .i64 0, .int .i64 0, .int .u64 0, .int .i64 t1, .int .i64 c1, .slice none 0 0, .int .i64 0, .int .i64 0] #[.int .i64 4, .int .i64 0, .int .i64 0, .int .i64 0, .int .i64 0, .int .i64 0, .slice none 0 0, .string ⟨#[]⟩, .int .i64 0, .int .i64 0, .int .i64 0, .int .i64 0, .int .u64 0, .int .i64 t1, .int .i64 c1, .slice none 0 0, .int .i64 0, .int .i64 0] rfl rfl H8.out.b0 (by show 0 + 18 ≤ 18; omega) rfl (by kernel_rfl) rfl ?_; intro wz hkz hBz; have Hkz := Lib.hid hkz; have HBz := Lib.hid hBz; clear hkz hBz))
  refine bodyPost_ret (results_cell2 rfl _ _ g0 68 #[.int .i64 4, .int .i64 0, .int .i64 0, .int .i64 0, .int .i64 0, .int .i64 0, .slice none 0 0, .string ⟨#[]⟩, .int .i64 0, .int .i64 0, .int .i64 0, .int .i64 0, .int .u64 0, .int .i64 t1, .int .i64 c1, .slice none 0 0, .int .i64 0, .int .i64 0] _ rfl HBz.out Tryz.underlying68 rfl (by kernel_rfl)) rfl ?_
  exact mrd_fin H8.out Hkz.out R (.slice none 0 0) (.slice none 0 0) (by rw [HR.out]; rfl) (by rw [HR.out]; rfl) (fun M hM => by rw [HR.out]; exact ⟨Ds.nil _ _, Ens.nil _ _⟩) (fun ht => by rw [HR.out] at ht ⊢; exact absurd ht (by simp))
 ·simp only [MGetPost] at hg
  simp only [Option.getD, Option.isSome, Bool.true_and] at HR
  go_wp2_with fail
  refine hg.out.mono ?_
  rintro e w7 ⟨v, rfl, hE, hA, hk⟩
  obtain ⟨Ba, ka, rfl, _⟩ := (hE [] (by simp)).len
  have HE := Lib.hid (fun M (hM : ∀ g ∈ M, g ≤ g6) => hE M (fun x hx => Nat.lt_of_le_of_lt (hM x hx) h66))
  have H7 := Lib.hid (H6.out.step hk); have HA7 := Lib.hid hA
  clear hk hg H6 HA6 hE hA
  obtain ⟨q0, q1, q2, q3, q4, q5, q6, q7, q8, q9, qa, qb, qc, qd, qe, qf, qg, qh, qz⟩ := blk18 H7.out.b6
  obtain ⟨w8, hw⟩ : ∃ w', w' = (w7.setCell ⟨g6, 15, none⟩ (.slice Ba es.length ka)) := ⟨_, rfl⟩
  have hk : Keeps [g6] w7 w8 := by rw [hw]; exact (Keeps.refl _ _).setCell (by simp) _
  have H8 : Hid (RmAt w w8 p g0 g6 #[.int .i64 4, .int .i64 0, .int .i64 0, .int .i64 0, .int .i64 0, .int .i64 0, .slice none 0 0, .string ⟨#[]⟩, .int .i64 0, .int .i64 0, .int .i64 0, .int .i64 0, .int .u64 0, .int .i64 t1, .int .i64 c1, .slice Ba es.length ka, .int .i64 0, .int .i64 0]) := by show RmAt _ _ _ _ _ _; rw [hw]; exact (by simpa using (H7.out.set 15 (.slice Ba es.length ka)) : RmAt w _ p g0 g6 _)
  have HA8 := Lib.hid (HA7.out.keep hk (by simp) H7.out.pin)
  have Hk8 := Lib.hid hk
  have Hw := Lib.hid hw
  clear hk hw
  go_upto_region 21 with (fail)
  rw [← Hw.out]
  clear Hw q0 q1 q2 q3 q4 q5 q6 q7 q8 q9 qa qb qc qd qe qf qg qh qz H7
  go_wp2_with (first | (refine wpList_load_mid rfl 68 (.tmp 6) rfl g6 0 rfl _ _ (blk_range H8.out.b6) Tryz.underlying68 rfl (by kernel_rfl) ?_) | (refine wpList_store_blk rfl 68 (.tmp 4) (.tmp 70) rfl g0 0 68 zeroR #[.int .i64 4, .int .i64 0, .int .i64 0, .int .i64 0, .int .i64 0, .int .i64 0, .slice none 0 0, .string ⟨#[]⟩, .int .i64 0, .int .i64 0, .int .i64 0, .int .i64 0, .int .u64 0, .int .i64 t1, .int .i64 c1, .slice Ba es.length ka, .int .i64 0, .int .i64 0] #[.int .i64 4, .int .i64 0, .int .i64 0, .int .i64 0, .int .i64 0, .int .i64 0, .slice none 0 0, .string ⟨#[]⟩, .int .i64 0, .int .i64 0, .int .i64 0, .int .i64 0, .int .u64 0, .int .i64 t1, .int .i64 c1, .slice Ba es.length ka, .int .i64 0, .int .i64 0] rfl rfl H8.out.b0 (by show 0 + 18 ≤ 18; omega) rfl (by kernel_rfl) rfl ?_; intro wz hkz hBz; have Hkz := Lib.hid hkz; have HBz := Lib.hid hBz; clear hkz hBz))
  refine bodyPost_ret (results_cell2 rfl _ _ g0 68 #[.int .i64 4, .int .i64 0, .int .i64 0, .int .i64 0, .int .i64 0, .int .i64 0, .slice none 0 0, .string ⟨#[]⟩, .int .i64 0, .int .i64 0, .int .i64 0, .int .i64 0, .int .u64 0, .int .i64 t1, .int .i64 c1, .slice Ba es.length ka, .int .i64 0, .int .i64 0] _ rfl HBz.out Tryz.underlying68 rfl (by kernel_rfl)) rfl ?_
  exact mrd_fin H8.out Hkz.out R (.slice none 0 0) (.slice Ba es.length ka) (by rw [HR.out]; rfl) (by rw [HR.out]; rfl) (fun M hM => by rw [HR.out]; exact (msg_in6 (m := _) (dv := .slice none 0 0) (lv := .slice Ba es.length ka) (fun M hM => ⟨Ds.nil _ _, HE.out M hM⟩) Hk8.out M hM)) (fun ht => by rw [HR.out] at ht ⊢; exact HA8.out)
set_option maxRecDepth 100000 in
set_option maxHeartbeats 600000 in
theorem mread_5 (p : Nat) (l : List UInt8) (b : Bool) (mx : Int) (w : World) (h : RdAt w [] p l b) (hl : l.length < 4294967281) (hm : w.cell? ⟨0, 0, none⟩ = some (.int .i64 mx)) (hp0 : p ≠ 0) :
  Calls Tryz.prog 103 #[.pointer (some ⟨p, 0, none⟩), .int .i64 5] w fun e w' => MRd p (mreadS 5 l b) w e w' := by
 have hw0 : 0 < w.heap.size := by
  have := World.block_lt_of_cell? w _ hm
  simpa using this
 have hkeepm : Hid (∀ W, Keeps [p] w W → W.cell? ⟨0, 0, none⟩ = some (.int .i64 mx)) := fun W hb => (hb.cell (p := ⟨0, 0, none⟩) hw0 (by simp; omega)).trans hm
 have H := Lib.hid h
 have hpw := h.lt
 have _ := hl
 clear h hm
 have HR : Hid (mreadS 5 l b = (⟨5, ⟨0, 0, 0, 0, 0, [], ⟨#[]⟩, 0, 0⟩, 0, 0, 0, (intS l b).1, 0, (mgetS (countS (intS l b).2.1 (intS l b).2.2 128).2.1 (countS (intS l b).2.1 (intS l b).2.2 128).2.2).1.getD [], (countS (intS l b).2.1 (intS l b).2.2 128).1, 0⟩, (mgetS (countS (intS l b).2.1 (intS l b).2.2 128).2.1 (countS (intS l b).2.1 (intS l b).2.2 128).2.2).1.isSome && !(mgetS (countS (intS l b).2.1 (intS l b).2.2 128).2.1 (countS (intS l b).2.1 (intS l b).2.2 128).2.2).2.2, (mgetS (countS (intS l b).2.1 (intS l b).2.2 128).2.1 (countS (intS l b).2.1 (intS l b).2.2 128).2.2).2)) := rfl
 generalize mreadS 5 l b = R at *
 go_enter Tryz.func103, Tryz.ntmps103
 go_upto_region 1 with (fail)
 obtain ⟨w1, hw1⟩ : ∃ w1, w1 = w.alloc (.cells #[.int .i64 0, .int .i64 0, .int .i64 0, .int .i64 0, .int .i64 0, .int .i64 0, .slice none 0 0, .string ⟨#[]⟩, .int .i64 0, .int .i64 0, .int .i64 0, .int .i64 0, .int .u64 0, .int .i64 0, .int .i64 0, .slice none 0 0, .int .i64 0, .int .i64 0] 68) := ⟨_, rfl⟩
 rw [← hw1]
 have hK1 : Keeps [] w w1 := by rw [hw1]; exact (Keeps.refl _ _).alloc _
 have hB1 : Blk w1 w.heap.size 68 zeroR := by rw [hw1]; exact Blk.new w _ _
 obtain ⟨g0, hg0⟩ : ∃ g0, g0 = w.heap.size := ⟨_, rfl⟩
 rw [← hg0] at hB1 ⊢
 have hg1 : g0 < w1.heap.size := hB1.lt
 have hpg : p < g0 := by omega
 have HK1 := Lib.hid hK1; have HB1 := Lib.hid hB1; have Hg0 := Lib.hid hg0
 clear hw1 hK1 hB1 hg0
 go_wp2_with (refine wpList_store_blk rfl 68 (.tmp 6) (.tmp 11) rfl w1.heap.size 0 68 _ #[.int .i64 5, .int .i64 0, .int .i64 0, .int .i64 0, .int .i64 0, .int .i64 0, .slice none 0 0, .string ⟨#[]⟩, .int .i64 0, .int .i64 0, .int .i64 0, .int .i64 0, .int .u64 0, .int .i64 0, .int .i64 0, .slice none 0 0, .int .i64 0, .int .i64 0] #[.int .i64 5, .int .i64 0, .int .i64 0, .int .i64 0, .int .i64 0, .int .i64 0, .slice none 0 0, .string ⟨#[]⟩, .int .i64 0, .int .i64 0, .int .i64 0, .int .i64 0, .int .u64 0, .int .i64 0, .int .i64 0, .slice none 0 0, .int .i64 0, .int .i64 0] rfl rfl (Blk.new _ _ _) (by show 0 + 18 ≤ 18; omega) rfl (by kernel_rfl) rfl ?_; intro w2 hk2 hB2; have Hk2 := Lib.hid hk2; have HB2 := Lib.hid hB2; clear hk2 hB2)
 have hA2 : Keeps [w1.heap.size] w1 w2 := ((Keeps.refl _ _).alloc _).trans Hk2.out (by simp)
 have H2 : Hid (RmAt w w2 p g0 w1.heap.size #[.int .i64 5, .int .i64 0, .int .i64 0, .int .i64 0, .int .i64 0, .int .i64 0, .slice none 0 0, .string ⟨#[]⟩, .int .i64 0, .int .i64 0, .int .i64 0, .int .i64 0, .int .u64 0, .int .i64 0, .int .i64 0, .slice none 0 0, .int .i64 0, .int .i64 0]) :=
  ⟨(HK1.out.trans hA2 (by intro x hx; simp at hx; right; have := HK1.out.size; omega) : Keeps [] w w2).mono (by simp), hA2.blk HB1.out (by simp; omega), HB2.out, by have := Hg0.out; omega, hg1, hpg⟩
 have HA2 : Hid (RdAt w2 [w1.heap.size, g0] p l b) :=
  (((H.out.avoid (M' := [w1.heap.size, g0]) (by intro x hx; right; have := HK1.out.size; have := Hg0.out; simp at hx; omega)).keep HK1.out (by simp) (by simp)).keep hA2 (by simp) (by simp; omega))
 generalize w1.heap.size = g6 at *
 clear hA2 Hk2 HB2 HB1 HK1 H hg1
 have hc := Lib.hid (rint_any [g6, g0] p l b w2 HA2.out)
 have hn2 := intS_len l b
 generalize intS l b = t at *
 obtain ⟨t1, t2, t3⟩ := t
 simp only [] at HR hc hn2
 refine hc.out.mono ?_
 rintro e w3 ⟨rfl, hA, hk⟩
 have H3 := Lib.hid (H2.out.step hk); have HA3 := Lib.hid hA
 clear hA hk hc H2 HA2
 obtain ⟨q0, q1, q2, q3, q4, q5, q6, q7, q8, q9, qa, qb, qc, qd, qe, qf, qg, qh, qz⟩ := blk18 H3.out.b6
 obtain ⟨w4, hw⟩ : ∃ w', w' = (w3.setCell ⟨g6, 13, none⟩ (.int .i64 t1)) := ⟨_, rfl⟩
 have hk : Keeps [g6] w3 w4 := by rw [hw]; exact (Keeps.refl _ _).setCell (by simp) _
 have H4 : Hid (RmAt w w4 p g0 g6 #[.int .i64 5, .int .i64 0, .int .i64 0, .int .i64 0, .int .i64 0, .int .i64 0, .slice none 0 0, .string ⟨#[]⟩, .int .i64 0, .int .i64 0, .int .i64 0, .int .i64 0, .int .u64 0, .int .i64 t1, .int .i64 0, .slice none 0 0, .int .i64 0, .int .i64 0]) := by show RmAt _ _ _ _ _ _; rw [hw]; exact (by simpa using (H3.out.set 13 (.int .i64 t1)) : RmAt w _ p g0 g6 _)
 have HA4 := Lib.hid (HA3.out.keep hk (by simp) H3.out.pin)
 have Hk4 := Lib.hid hk
 have Hw := Lib.hid hw
 clear hk hw
 go_upto_region 12 with (fail)
 rw [← Hw.out]
 clear Hw q0 q1 q2 q3 q4 q5 q6 q7 q8 q9 qa qb qc qd qe qf qg qh qz H3
 go_wp2_with fail
 have hc := Lib.hid (count_any [g6, g0] p t2 t3 128 (by omega) w4 HA4.out)
 have hn4 := countS_len t2 t3 128
 generalize countS t2 t3 128 = t at *
 obtain ⟨c1, c2, c3⟩ := t
 simp only [] at HR hc hn4
 refine hc.out.mono ?_
 rintro e w5 ⟨rfl, hA, hk⟩
 have H5 := Lib.hid (H4.out.step hk); have HA5 := Lib.hid hA
 clear hA hk hc H4 HA4
 obtain ⟨q0, q1, q2, q3, q4, q5, q6, q7, q8, q9, qa, qb, qc, qd, qe, qf, qg, qh, qz⟩ := blk18 H5.out.b6
 obtain ⟨w6, hw⟩ : ∃ w', w' = (w5.setCell ⟨g6, 16, none⟩ (.int .i64 c1)) := ⟨_, rfl⟩
 have hk : Keeps [g6] w5 w6 := by rw [hw]; exact (Keeps.refl _ _).setCell (by simp) _
 have H6 : Hid (RmAt w w6 p g0 g6 #[.int .i64 5, .int .i64 0, .int .i64 0, .int .i64 0, .int .i64 0, .int .i64 0, .slice none 0 0, .string ⟨#[]⟩, .int .i64 0, .int .i64 0, .int .i64 0, .int .i64 0, .int .u64 0, .int .i64 t1, .int .i64 0, .slice none 0 0, .int .i64 c1, .int .i64 0]) := by show RmAt _ _ _ _ _ _; rw [hw]; exact (by simpa using (H5.out.set 16 (.int .i64 c1)) : RmAt w _ p g0 g6 _)
 have HA6 := Lib.hid (HA5.out.keep hk (by simp) H5.out.pin)
 have Hk6 := Lib.hid hk
 have Hw := Lib.hid hw
 clear hk hw
 go_upto_region 18 with (fail)
 rw [← Hw.out]
 clear Hw q0 q1 q2 q3 q4 q5 q6 q7 q8 q9 qa qb qc qd qe qf qg qh qz H5
 have hg := Lib.hid (mget_any [g6, g0] p c2 c3 mx w6 HA6.out (by omega) (hkeepm.out w6 H6.out.keeps) hp0)
 have h66 := H6.out.b6.lt
 generalize mgetS c2 c3 = g at *
 obtain ⟨_ | es, x2, x3⟩ := g
 ·simp only [MGetPost] at hg
  simp only [Option.getD, Option.isSome, Bool.false_and] at HR
  go_wp2_with fail
  refine hg.out.mono ?_
  rintro e w7 ⟨rfl, hk⟩
  have H7 := Lib.hid (H6.out.step hk)
  clear hk hg H6 HA6
  obtain ⟨q0, q1, q2, q3, q4, q5, q6, q7, q8, q9, qa, qb, qc, qd, qe, qf, qg, qh, qz⟩ := blk18 H7.out.b6
  obtain ⟨w8, hw⟩ : ∃ w', w' = (w7.setCell ⟨g6, 15, none⟩ (.slice none 0 0)) := ⟨_, rfl⟩
  have hk : Keeps [g6] w7 w8 := by rw [hw]; exact (Keeps.refl _ _).setCell (by simp) _
  have H8 : Hid (RmAt w w8 p g0 g6 #[.int .i64 5, .int .i64 0, .int .i64 0, .int .i64 0, .int .i64 0, .int .i64 0, .slice none 0 0, .string ⟨#[]⟩, .int .i64 0, .int .i64 0, .int .i64 0, .int .i64 0, .int .u64 0, .int .i64 t1, .int .i64 0, .slice none 0 0, .int .i64 c1, .int .i64 0]) := by show RmAt _ _ _ _ _ _; rw [hw]; exact (by simpa using (H7.out.set 15 (.slice none 0 0)) : RmAt w _ p g0 g6 _)
  have Hk8 := Lib.hid hk
  have Hw := Lib.hid hw
  clear hk hw
  go_upto_region 21 with (fail)
  rw [← Hw.out]
  clear Hw q0 q1 q2 q3 q4 q5 q6 q7 q8 q9 qa qb qc qd qe qf qg qh qz H7
  go_wp2_with (first | (refine wpList_load_mid rfl 68 (.tmp 6) rfl g6 0 rfl _ _ (blk_range H8.out.b6) Tryz.underlying68 rfl (by kernel_rfl) ?_) | (refine wpList_store_blk rfl 68 (.tmp 4) (.tmp 70) rfl g0 0 68 zeroR #[.int .i64 5, .int .i64 0, .int .i64 0, .int .i64 0, .int .i64 0, .int .i64 0, .slice none 0 0, .string ⟨#[]⟩, .int .i64 0, .int .i64 0, .int .i64 0, .int .i64 0, .int .u64 0, .int .i64 t1, .int .i64 0, .slice none 0 0, .int .i64 c1, .int .i64 0] #[.int .i64 5, .int .i64 0, .int .i64 0, .int .i64 0, .int .i64 0, .int .i64 0, .slice none 0 0, .string ⟨#[]⟩, .int .i64 0, .int .i64 0, .int .i64 0, .int .i64 0, .int .u64 0, .int .i64 t1, .int .i64 0, .slice none 0 0, .int .i64 c1, .int .i64 0] rfl rfl H8.out.b0 (by show 0 + 18 ≤ 18; omega) rfl (by kernel_rfl) rfl ?_; intro wz hkz hBz; have Hkz := Lib.hid hkz; have HBz := Lib.hid hBz; clear hkz hBz))
  refine bodyPost_ret (results_cell2 rfl _ _ g0 68 #[.int .i64 5, .int .i64 0, .int .i64 0, .int .i64 0, .int .i64 0, .int .i64 0, .slice none 0 0, .string ⟨#[]⟩, .int .i64 0, .int .i64 0, .int .i64 0, .int .i64 0, .int .u64 0, .int .i64 t1, .int .i64 0, .slice none 0 0, .int .i64 c1, .int .i64 0] _ rfl HBz.out Tryz.underlying68 rfl (by kernel_rfl)) rfl ?_
  exact mrd_fin H8.out Hkz.out R (.slice none 0 0) (.slice none 0 0) (by rw [HR.out]; rfl) (by rw [HR.out]; rfl) (fun M hM => by rw [HR.out]; exact ⟨Ds.nil _ _, Ens.nil _ _⟩) (fun ht => by rw [HR.out] at ht ⊢; exact absurd ht (by simp))
 ·simp only [MGetPost] at hg
  simp only [Option.getD, Option.isSome, Bool.true_and] at HR
  go_wp2_with fail
  refine hg.out.mono ?_
  rintro e w7 ⟨v, rfl, hE, hA, hk⟩
  obtain ⟨Ba, ka, rfl, _⟩ := (hE [] (by simp)).len
  have HE := Lib.hid (fun M (hM : ∀ g ∈ M, g ≤ g6) => hE M (fun x hx => Nat.lt_of_le_of_lt (hM x hx) h66))
  have H7 := Lib.hid (H6.out.step hk); have HA7 := Lib.hid hA
  clear hk hg H6 HA6 hE hA
  obtain ⟨q0, q1, q2, q3, q4, q5, q6, q7, q8, q9, qa, qb, qc, qd, qe, qf, qg, qh, qz⟩ := blk18 H7.out.b6
  obtain ⟨w8, hw⟩ : ∃ w', w' = (w7.setCell ⟨g6, 15, none⟩ (.slice Ba es.length ka)) := ⟨_, rfl⟩
  have hk : Keeps [g6] w7 w8 := by rw [hw]; exact (Keeps.refl _ _).setCell (by simp) _
  have H8 : Hid (RmAt w w8 p g0 g6 #[.int .i64 5, .int .i64 0, .int .i64 0, .int .i64 0, .int .i64 0, .int .i64 0, .slice none 0 0, .string ⟨#[]⟩, .int .i64 0, .int .i64 0, .int .i64 0, .int .i64 0, .int .u64 0, .int .i64 t1, .int .i64 0, .slice Ba es.length ka, .int .i64 c1, .int .i64 0]) := by show RmAt _ _ _ _ _ _; rw [hw]; exact (by simpa using (H7.out.set 15 (.slice Ba es.length ka)) : RmAt w _ p g0 g6 _)
  have HA8 := Lib.hid (HA7.out.keep hk (by simp) H7.out.pin)
  have Hk8 := Lib.hid hk
  have Hw := Lib.hid hw
  clear hk hw
  go_upto_region 21 with (fail)
  rw [← Hw.out]
  clear Hw q0 q1 q2 q3 q4 q5 q6 q7 q8 q9 qa qb qc qd qe qf qg qh qz H7
  go_wp2_with (first | (refine wpList_load_mid rfl 68 (.tmp 6) rfl g6 0 rfl _ _ (blk_range H8.out.b6) Tryz.underlying68 rfl (by kernel_rfl) ?_) | (refine wpList_store_blk rfl 68 (.tmp 4) (.tmp 70) rfl g0 0 68 zeroR #[.int .i64 5, .int .i64 0, .int .i64 0, .int .i64 0, .int .i64 0, .int .i64 0, .slice none 0 0, .string ⟨#[]⟩, .int .i64 0, .int .i64 0, .int .i64 0, .int .i64 0, .int .u64 0, .int .i64 t1, .int .i64 0, .slice Ba es.length ka, .int .i64 c1, .int .i64 0] #[.int .i64 5, .int .i64 0, .int .i64 0, .int .i64 0, .int .i64 0, .int .i64 0, .slice none 0 0, .string ⟨#[]⟩, .int .i64 0, .int .i64 0, .int .i64 0, .int .i64 0, .int .u64 0, .int .i64 t1, .int .i64 0, .slice Ba es.length ka, .int .i64 c1, .int .i64 0] rfl rfl H8.out.b0 (by show 0 + 18 ≤ 18; omega) rfl (by kernel_rfl) rfl ?_; intro wz hkz hBz; have Hkz := Lib.hid hkz; have HBz := Lib.hid hBz; clear hkz hBz))
  refine bodyPost_ret (results_cell2 rfl _ _ g0 68 #[.int .i64 5, .int .i64 0, .int .i64 0, .int .i64 0, .int .i64 0, .int .i64 0, .slice none 0 0, .string ⟨#[]⟩, .int .i64 0, .int .i64 0, .int .i64 0, .int .i64 0, .int .u64 0, .int .i64 t1, .int .i64 0, .slice Ba es.length ka, .int .i64 c1, .int .i64 0] _ rfl HBz.out Tryz.underlying68 rfl (by kernel_rfl)) rfl ?_
  exact mrd_fin H8.out Hkz.out R (.slice none 0 0) (.slice Ba es.length ka) (by rw [HR.out]; rfl) (by rw [HR.out]; rfl) (fun M hM => by rw [HR.out]; exact (msg_in6 (m := _) (dv := .slice none 0 0) (lv := .slice Ba es.length ka) (fun M hM => ⟨Ds.nil _ _, HE.out M hM⟩) Hk8.out M hM)) (fun ht => by rw [HR.out] at ht ⊢; exact HA8.out)
set_option maxRecDepth 100000 in
set_option maxHeartbeats 600000 in
theorem mread_6 (p : Nat) (l : List UInt8) (b : Bool) (mx : Int) (w : World) (h : RdAt w [] p l b) (hl : l.length < 4294967281) (hm : w.cell? ⟨0, 0, none⟩ = some (.int .i64 mx)) (hp0 : p ≠ 0) :
  Calls Tryz.prog 103 #[.pointer (some ⟨p, 0, none⟩), .int .i64 6] w fun e w' => MRd p (mreadS 6 l b) w e w' := by
 have hw0 : 0 < w.heap.size := by
  have := World.block_lt_of_cell? w _ hm
  simpa using this
 have hkeepm : Hid (∀ W, Keeps [p] w W → W.cell? ⟨0, 0, none⟩ = some (.int .i64 mx)) := fun W hb => (hb.cell (p := ⟨0, 0, none⟩) hw0 (by simp; omega)).trans hm
 have H := Lib.hid h
 have hpw := h.lt
 have _ := hl
 clear h hm
 have HR : Hid (mreadS 6 l b = (⟨6, ⟨0, 0, 0, 0, 0, [], ⟨#[]⟩, 0, 0⟩, 0, 0, 0, (intS l b).1, 0, [], 0, (countS (intS l b).2.1 (intS l b).2.2 128).1⟩, true, (countS (intS l b).2.1 (intS l b).2.2 128).2)) := rfl
 generalize mreadS 6 l b = R at *
 go_enter Tryz.func103, Tryz.ntmps103
 go_upto_region 1 with (fail)
 obtain ⟨w1, hw1⟩ : ∃ w1, w1 = w.alloc (.cells #[.int .i64 0, .int .i64 0, .int .i64 0, .int .i64 0, .int .i64 0, .int .i64 0, .slice none 0 0, .string ⟨#[]⟩, .int .i64 0, .int .i64 0, .int .i64 0, .int .i64 0, .int .u64 0, .int .i64 0, .int .i64 0, .slice none 0 0, .int .i64 0, .int .i64 0] 68) := ⟨_, rfl⟩
 rw [← hw1]
 have hK1 : Keeps [] w w1 := by rw [hw1]; exact (Keeps.refl _ _).alloc _
 have hB1 : Blk w1 w.heap.size 68 zeroR := by rw [hw1]; exact Blk.new w _ _
 obtain ⟨g0, hg0⟩ : ∃ g0, g0 = w.heap.size := ⟨_, rfl⟩
 rw [← hg0] at hB1 ⊢
 have hg1 : g0 < w1.heap.size := hB1.lt
 have hpg : p < g0 := by omega
 have HK1 := Lib.hid hK1; have HB1 := Lib.hid hB1; have Hg0 := Lib.hid hg0
 clear hw1 hK1 hB1 hg0
 go_wp2_with (refine wpList_store_blk rfl 68 (.tmp 6) (.tmp 11) rfl w1.heap.size 0 68 _ #[.int .i64 6, .int .i64 0, .int .i64 0, .int .i64 0, .int .i64 0, .int .i64 0, .slice none 0 0, .string ⟨#[]⟩, .int .i64 0, .int .i64 0, .int .i64 0, .int .i64 0, .int .u64 0, .int .i64 0, .int .i64 0, .slice none 0 0, .int .i64 0, .int .i64 0] #[.int .i64 6, .int .i64 0, .int .i64 0, .int .i64 0, .int .i64 0, .int .i64 0, .slice none 0 0, .string ⟨#[]⟩, .int .i64 0, .int .i64 0, .int .i64 0, .int .i64 0, .int .u64 0, .int .i64 0, .int .i64 0, .slice none 0 0, .int .i64 0, .int .i64 0] rfl rfl (Blk.new _ _ _) (by show 0 + 18 ≤ 18; omega) rfl (by kernel_rfl) rfl ?_; intro w2 hk2 hB2; have Hk2 := Lib.hid hk2; have HB2 := Lib.hid hB2; clear hk2 hB2)
 have hA2 : Keeps [w1.heap.size] w1 w2 := ((Keeps.refl _ _).alloc _).trans Hk2.out (by simp)
 have H2 : Hid (RmAt w w2 p g0 w1.heap.size #[.int .i64 6, .int .i64 0, .int .i64 0, .int .i64 0, .int .i64 0, .int .i64 0, .slice none 0 0, .string ⟨#[]⟩, .int .i64 0, .int .i64 0, .int .i64 0, .int .i64 0, .int .u64 0, .int .i64 0, .int .i64 0, .slice none 0 0, .int .i64 0, .int .i64 0]) :=
  ⟨(HK1.out.trans hA2 (by intro x hx; simp at hx; right; have := HK1.out.size; omega) : Keeps [] w w2).mono (by simp), hA2.blk HB1.out (by simp; omega), HB2.out, by have := Hg0.out; omega, hg1, hpg⟩
 have HA2 : Hid (RdAt w2 [w1.heap.size, g0] p l b) :=
  (((H.out.avoid (M' := [w1.heap.size, g0]) (by intro x hx; right; have := HK1.out.size; have := Hg0.out; simp at hx; omega)).keep HK1.out (by simp) (by simp)).keep hA2 (by simp) (by simp; omega))
 generalize w1.heap.size = g6 at *
 clear hA2 Hk2 HB2 HB1 HK1 H hg1
 have hc := Lib.hid (rint_any [g6, g0] p l b w2 HA2.out)
 have hn2 := intS_len l b
 generalize intS l b = t at *
 obtain ⟨t1, t2, t3⟩ := t
 simp only [] at HR hc hn2
 refine hc.out.mono ?_
 rintro e w3 ⟨rfl, hA, hk⟩
 have H3 := Lib.hid (H2.out.step hk); have HA3 := Lib.hid hA
 clear hA hk hc H2 HA2
 obtain ⟨q0, q1, q2, q3, q4, q5, q6, q7, q8, q9, qa, qb, qc, qd, qe, qf, qg, qh, qz⟩ := blk18 H3.out.b6
 obtain ⟨w4, hw⟩ : ∃ w', w' = (w3.setCell ⟨g6, 13, none⟩ (.int .i64 t1)) := ⟨_, rfl⟩
 have hk : Keeps [g6] w3 w4 := by rw [hw]; exact (Keeps.refl _ _).setCell (by simp) _
 have H4 : Hid (RmAt w w4 p g0 g6 #[.int .i64 6, .int .i64 0, .int .i64 0, .int .i64 0, .int .i64 0, .int .i64 0, .slice none 0 0, .string ⟨#[]⟩, .int .i64 0, .int .i64 0, .int .i64 0, .int .i64 0, .int .u64 0, .int .i64 t1, .int .i64 0, .slice none 0 0, .int .i64 0, .int .i64 0]) := by show RmAt _ _ _ _ _ _; rw [hw]; exact (by simpa using (H3.out.set 13 (.int .i64 t1)) : RmAt w _ p g0 g6 _)
 have HA4 := Lib.hid (HA3.out.keep hk (by simp) H3.out.pin)
 have Hk4 := Lib.hid hk
 have Hw := Lib.hid hw
 clear hk hw
 go_upto_region 12 with (fail)
 rw [← Hw.out]
 clear Hw q0 q1 q2 q3 q4 q5 q6 q7 q8 q9 qa qb qc qd qe qf qg qh qz H3
 go_wp2_with fail
 have hc := Lib.hid (count_any [g6, g0] p t2 t3 128 (by omega) w4 HA4.out)
 have hn4 := countS_len t2 t3 128
 generalize countS t2 t3 128 = t at *
 obtain ⟨c1, c2, c3⟩ := t
 simp only [] at HR hc hn4
 refine hc.out.mono ?_
 rintro e w5 ⟨rfl, hA, hk⟩
 have H5 := Lib.hid (H4.out.step hk); have HA5 := Lib.hid hA
 clear hA hk hc H4 HA4
 obtain ⟨q0, q1, q2, q3, q4, q5, q6, q7, q8, q9, qa, qb, qc, qd, qe, qf, qg, qh, qz⟩ := blk18 H5.out.b6
 obtain ⟨w6, hw⟩ : ∃ w', w' = (w5.setCell ⟨g6, 17, none⟩ (.int .i64 c1)) := ⟨_, rfl⟩
 have hk : Keeps [g6] w5 w6 := by rw [hw]; exact (Keeps.refl _ _).setCell (by simp) _
 have H6 : Hid (RmAt w w6 p g0 g6 #[.int .i64 6, .int .i64 0, .int .i64 0, .int .i64 0, .int .i64 0, .int .i64 0, .slice none 0 0, .string ⟨#[]⟩, .int .i64 0, .int .i64 0, .int .i64 0, .int .i64 0, .int .u64 0, .int .i64 t1, .int .i64 0, .slice none 0 0, .int .i64 0, .int .i64 c1]) := by show RmAt _ _ _ _ _ _; rw [hw]; exact (by simpa using (H5.out.set 17 (.int .i64 c1)) : RmAt w _ p g0 g6 _)
 have HA6 := Lib.hid (HA5.out.keep hk (by simp) H5.out.pin)
 have Hk6 := Lib.hid hk
 have Hw := Lib.hid hw
 clear hk hw
 go_upto_region 21 with (fail)
 rw [← Hw.out]
 clear Hw q0 q1 q2 q3 q4 q5 q6 q7 q8 q9 qa qb qc qd qe qf qg qh qz H5
 go_wp2_with (first | (refine wpList_load_mid rfl 68 (.tmp 6) rfl g6 0 rfl _ _ (blk_range H6.out.b6) Tryz.underlying68 rfl (by kernel_rfl) ?_) | (refine wpList_store_blk rfl 68 (.tmp 4) (.tmp 70) rfl g0 0 68 zeroR #[.int .i64 6, .int .i64 0, .int .i64 0, .int .i64 0, .int .i64 0, .int .i64 0, .slice none 0 0, .string ⟨#[]⟩, .int .i64 0, .int .i64 0, .int .i64 0, .int .i64 0, .int .u64 0, .int .i64 t1, .int .i64 0, .slice none 0 0, .int .i64 0, .int .i64 c1] #[.int .i64 6, .int .i64 0, .int .i64 0, .int .i64 0, .int .i64 0, .int .i64 0, .slice none 0 0, .string ⟨#[]⟩, .int .i64 0, .int .i64 0, .int .i64 0, .int .i64 0, .int .u64 0, .int .i64 t1, .int .i64 0, .slice none 0 0, .int .i64 0, .int .i64 c1] rfl rfl H6.out.b0 (by show 0 + 18 ≤ 18; omega) rfl (by kernel_rfl) rfl ?_; intro wz hkz hBz; have Hkz := Lib.hid hkz; have HBz := Lib.hid hBz; clear hkz hBz))
 refine bodyPost_ret (results_cell2 rfl _ _ g0 68 #[.int .i64 6, .int .i64 0, .int .i64 0, .int .i64 0, .int .i64 0, .int .i64 0, .slice none 0 0, .string ⟨#[]⟩, .int .i64 0, .int .i64 0, .int .i64 0, .int .i64 0, .int .u64 0, .int .i64 t1, .int .i64 0, .slice none 0 0, .int .i64 0, .int .i64 c1] _ rfl HBz.out Tryz.underlying68 rfl (by kernel_rfl)) rfl ?_
 exact mrd_fin H6.out Hkz.out R (.slice none 0 0) (.slice none 0 0) (by rw [HR.out]; rfl) (by rw [HR.out]; rfl) (fun M hM => by rw [HR.out]; exact ⟨Ds.nil _ _, Ens.nil _ _⟩) (fun ht => by rw [HR.out] at ht ⊢; exact HA6.out)
set_option maxRecDepth 100000 in
set_option maxHeartbeats 600000 in
theorem mread_o (k : Nat) (p : Nat) (l : List UInt8) (b : Bool) (mx : Int) (w : World) (h : RdAt w [] p l b) (hl : l.length < 4294967281) (hm : w.cell? ⟨0, 0, none⟩ = some (.int .i64 mx)) (hp0 : p ≠ 0) (hk1 : k ≠ 1) (hk2 : k ≠ 2) (hk4 : k ≠ 4) (hk5 : k ≠ 5) (hk6 : k ≠ 6) :
  Calls Tryz.prog 103 #[.pointer (some ⟨p, 0, none⟩), .int .i64 k] w fun e w' => MRd p (mreadS k l b) w e w' := by
 have hw0 : 0 < w.heap.size := by
  have := World.block_lt_of_cell? w _ hm
  simpa using this
 have hkeepm : Hid (∀ W, Keeps [p] w W → W.cell? ⟨0, 0, none⟩ = some (.int .i64 mx)) := fun W hb => (hb.cell (p := ⟨0, 0, none⟩) hw0 (by simp; omega)).trans hm
 have H := Lib.hid h
 have hpw := h.lt
 have _ := hl
 clear h hm
 have HR : Hid (mreadS k l b = (⟨k, ⟨0, 0, 0, 0, 0, [], ⟨#[]⟩, 0, 0⟩, 0, 0, 0, (intS l b).1, 0, [], 0, 0⟩, true, (intS l b).2)) := by show _ = _; unfold mreadS; rw [if_neg hk1, if_neg hk2, if_neg hk4, if_neg hk5, if_neg hk6]
 have hd1 : ((k : Int) == 1) = false := by simp; omega
 have hd2 : ((k : Int) == 2) = false := by simp; omega
 have hd4 : ((k : Int) == 4) = false := by simp; omega
 have hd5 : ((k : Int) == 5) = false := by simp; omega
 have hd6 : ((k : Int) == 6) = false := by simp; omega
 clear hk1 hk2 hk4 hk5 hk6
 generalize mreadS k l b = R at *
 go_enter Tryz.func103, Tryz.ntmps103
 go_upto_region 1 with (fail)
 obtain ⟨w1, hw1⟩ : ∃ w1, w1 = w.alloc (.cells #[.int .i64 0, .int .i64 0, .int .i64 0, .int .i64 0, .int .i64 0, .int .i64 0, .slice none 0 0, .string ⟨#[]⟩, .int .i64 0, .int .i64 0, .int .i64 0, .int .i64 0, .int .u64 0, .int .i64 0, .int .i64 0, .slice none 0 0, .int .i64 0, .int .i64 0] 68) := ⟨_, rfl⟩
 rw [← hw1]
 have hK1 : Keeps [] w w1 := by rw [hw1]; exact (Keeps.refl _ _).alloc _
 have hB1 : Blk w1 w.heap.size 68 zeroR := by rw [hw1]; exact Blk.new w _ _
 obtain ⟨g0, hg0⟩ : ∃ g0, g0 = w.heap.size := ⟨_, rfl⟩
 rw [← hg0] at hB1 ⊢
 have hg1 : g0 < w1.heap.size := hB1.lt
 have hpg : p < g0 := by omega
 have HK1 := Lib.hid hK1; have HB1 := Lib.hid hB1; have Hg0 := Lib.hid hg0
 clear hw1 hK1 hB1 hg0
 go_wp2_with (refine wpList_store_blk rfl 68 (.tmp 6) (.tmp 11) rfl w1.heap.size 0 68 _ #[.int .i64 k, .int .i64 0, .int .i64 0, .int .i64 0, .int .i64 0, .int .i64 0, .slice none 0 0, .string ⟨#[]⟩, .int .i64 0, .int .i64 0, .int .i64 0, .int .i64 0, .int .u64 0, .int .i64 0, .int .i64 0, .slice none 0 0, .int .i64 0, .int .i64 0] #[.int .i64 k, .int .i64 0, .int .i64 0, .int .i64 0, .int .i64 0, .int .i64 0, .slice none 0 0, .string ⟨#[]⟩, .int .i64 0, .int .i64 0, .int .i64 0, .int .i64 0, .int .u64 0, .int .i64 0, .int .i64 0, .slice none 0 0, .int .i64 0, .int .i64 0] rfl rfl (Blk.new _ _ _) (by show 0 + 18 ≤ 18; omega) rfl (by kernel_rfl) rfl ?_; intro w2 hk2 hB2; have Hk2 := Lib.hid hk2; have HB2 := Lib.hid hB2; clear hk2 hB2)
 have hA2 : Keeps [w1.heap.size] w1 w2 := ((Keeps.refl _ _).alloc _).trans Hk2.out (by simp)
 have H2 : Hid (RmAt w w2 p g0 w1.heap.size #[.int .i64 k, .int .i64 0, .int .i64 0, .int .i64 0, .int .i64 0, .int .i64 0, .slice none 0 0, .string ⟨#[]⟩, .int .i64 0, .int .i64 0, .int .i64 0, .int .i64 0, .int .u64 0, .int .i64 0, .int .i64 0, .slice none 0 0, .int .i64 0, .int .i64 0]) :=
  ⟨(HK1.out.trans hA2 (by intro x hx; simp at hx; right; have := HK1.out.size; omega) : Keeps [] w w2).mono (by simp), hA2.blk HB1.out (by simp; omega), HB2.out, by have := Hg0.out; omega, hg1, hpg⟩
 have HA2 : Hid (RdAt w2 [w1.heap.size, g0] p l b) :=
  (((H.out.avoid (M' := [w1.heap.size, g0]) (by intro x hx; right; have := HK1.out.size; have := Hg0.out; simp at hx; omega)).keep HK1.out (by simp) (by simp)).keep hA2 (by simp) (by simp; omega))
 generalize w1.heap.size = g6 at *
 clear hA2 Hk2 HB2 HB1 HK1 H hg1
 have hc := Lib.hid (rint_any [g6, g0] p l b w2 HA2.out)
 have hn2 := intS_len l b
 generalize intS l b = t at *
 obtain ⟨t1, t2, t3⟩ := t
 simp only [] at HR hc hn2
 refine hc.out.mono ?_
 rintro e w3 ⟨rfl, hA, hk⟩
 have H3 := Lib.hid (H2.out.step hk); have HA3 := Lib.hid hA
 clear hA hk hc H2 HA2
 obtain ⟨q0, q1, q2, q3, q4, q5, q6, q7, q8, q9, qa, qb, qc, qd, qe, qf, qg, qh, qz⟩ := blk18 H3.out.b6
 obtain ⟨w4, hw⟩ : ∃ w', w' = (w3.setCell ⟨g6, 13, none⟩ (.int .i64 t1)) := ⟨_, rfl⟩
 have hk : Keeps [g6] w3 w4 := by rw [hw]; exact (Keeps.refl _ _).setCell (by simp) _
 have H4 : Hid (RmAt w w4 p g0 g6 #[.int .i64 k, .int .i64 0, .int .i64 0, .int .i64 0, .int .i64 0, .int .i64 0, .slice none 0 0, .string ⟨#[]⟩, .int .i64 0, .int .i64 0, .int .i64 0, .int .i64 0, .int .u64 0, .int .i64 t1, .int .i64 0, .slice none 0 0, .int .i64 0, .int .i64 0]) := by show RmAt _ _ _ _ _ _; rw [hw]; exact (by simpa using (H3.out.set 13 (.int .i64 t1)) : RmAt w _ p g0 g6 _)
 have HA4 := Lib.hid (HA3.out.keep hk (by simp) H3.out.pin)
 have Hk4 := Lib.hid hk
 have Hw := Lib.hid hw
 clear hk hw
 go_upto_region 12 with (fail)
 rw [← Hw.out]
 clear Hw q0 q1 q2 q3 q4 q5 q6 q7 q8 q9 qa qb qc qd qe qf qg qh qz H3
 go_upto_region 21 with (fail)
 go_wp2_with (first | (refine wpList_load_mid rfl 68 (.tmp 6) rfl g6 0 rfl _ _ (blk_range H4.out.b6) Tryz.underlying68 rfl (by kernel_rfl) ?_) | (refine wpList_store_blk rfl 68 (.tmp 4) (.tmp 70) rfl g0 0 68 zeroR #[.int .i64 k, .int .i64 0, .int .i64 0, .int .i64 0, .int .i64 0, .int .i64 0, .slice none 0 0, .string ⟨#[]⟩, .int .i64 0, .int .i64 0, .int .i64 0, .int .i64 0, .int .u64 0, .int .i64 t1, .int .i64 0, .slice none 0 0, .int .i64 0, .int .i64 0] #[.int .i64 k, .int .i64 0, .int .i64 0, .int .i64 0, .int .i64 0, .int .i64 0, .slice none 0 0, .string ⟨#[]⟩, .int .i64 0, .int .i64 0, .int .i64 0, .int .i64 0, .int .u64 0, .int .i64 t1, .int .i64 0, .slice none 0 0, .int .i64 0, .int .i64 0] rfl rfl H4.out.b0 (by show 0 + 18 ≤ 18; omega) rfl (by kernel_rfl) rfl ?_; intro wz hkz hBz; have Hkz := Lib.hid hkz; have HBz := Lib.hid hBz; clear hkz hBz))
 refine bodyPost_ret (results_cell2 rfl _ _ g0 68 #[.int .i64 k, .int .i64 0, .int .i64 0, .int .i64 0, .int .i64 0, .int .i64 0, .slice none 0 0, .string ⟨#[]⟩, .int .i64 0, .int .i64 0, .int .i64 0, .int .i64 0, .int .u64 0, .int .i64 t1, .int .i64 0, .slice none 0 0, .int .i64 0, .int .i64 0] _ rfl HBz.out Tryz.underlying68 rfl (by kernel_rfl)) rfl ?_
 exact mrd_fin H4.out Hkz.out R (.slice none 0 0) (.slice none 0 0) (by rw [HR.out]; rfl) (by rw [HR.out]; rfl) (fun M hM => by rw [HR.out]; exact ⟨Ds.nil _ _, Ens.nil _ _⟩) (fun ht => by rw [HR.out] at ht ⊢; exact HA4.out)
theorem mread_any (k : Nat) (p : Nat) (l : List UInt8) (b : Bool) (mx : Int) (w : World) (h : RdAt w [] p l b) (hl : l.length < 4294967281) (hm : w.cell? ⟨0, 0, none⟩ = some (.int .i64 mx)) (hp0 : p ≠ 0) :
  Calls Tryz.prog 103 #[.pointer (some ⟨p, 0, none⟩), .int .i64 k] w fun e w' => MRd p (mreadS k l b) w e w' := by
 by_cases h1 : k = 1
 ·subst h1; exact mread_1 p l b mx w h hl hm hp0
 by_cases h2 : k = 2
 ·subst h2; exact mread_2 p l b mx w h hl hm hp0
 by_cases h4 : k = 4
 ·subst h4; exact mread_4 p l b mx w h hl hm hp0
 by_cases h5 : k = 5
 ·subst h5; exact mread_5 p l b mx w h hl hm hp0
 by_cases h6 : k = 6
 ·subst h6; exact mread_6 p l b mx w h hl hm hp0
 exact mread_o k p l b mx w h hl hm hp0 h1 h2 h4 h5 h6
end Go.Proofs.YtinnifhnabncfaaGreatDoor.Vi
end
