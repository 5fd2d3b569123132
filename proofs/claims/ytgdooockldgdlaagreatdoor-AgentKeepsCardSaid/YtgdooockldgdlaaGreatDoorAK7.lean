/- Texts put together: Dk2, MPut, EqF, Msg1, Msg2, Msg3, Msg4, Msg5, StB, Tape4, Msg6, MGet, Msg7, Msg8, Msg9, MsgA, PlV, Scan. -/
import Derived.Deep.MidRow
import Derived.Deep.RegionHeld3
import Derived.Laws.IdiomStrings
import Derived.Test.YtgdooockldgdlaaGreatDoorAK4
import Derived.Test.YtgdooockldgdlaaGreatDoorAK5
set_option linter.unusedVariables false
set_option linter.unusedSimpArgs false
section
namespace Go.Proofs.YtgdooockldgdlaaGreatDoor.Vi
open Go.RowKit Base Mem
theorem dknew_any (w : World) :
  Calls Tryz.prog 17 #[] w fun e w' => e = .returned (.pointer (some ⟨w.heap.size, 0, none⟩)) ∧ DkAt w' [w.heap.size] w.heap.size [] 0 ∧ Below w.heap.size w w' := by
 have hR : Hid (DkAt (w.alloc (.cells #[.slice none 0 0, .int .i64 0] 127)) [w.heap.size] w.heap.size [] 0) :=
  ⟨_, Blk.new w _ _, .nil _, by simp, by simp [Value.ownBlock], by simp, by simp, by simp⟩
 go_enter Tryz.func17, Tryz.ntmps17
 go_wp2
 go_ret
 exact ⟨rfl, hR.out, (Below.refl _ _).alloc (Nat.le_refl _) _⟩
section
variable {w : World} {X : List Nat} {d k : Nat} {b : List UInt8}
theorem dkwaits_any (w : World) (h : DkAt w X d b k) :
  Calls Tryz.prog 28 #[.pointer (some ⟨d, 0, none⟩)] w fun e w' => e = .returned (.int .i64 ((b.length : Int) - k)) ∧ ∃ q, w' = w.drewN q := by
 have hle := h.le
 obtain ⟨v, hb, hr, _⟩ := h
 obtain ⟨A, c, rfl, hc⟩ := hr.len
 have c0 := hb.cell 0; have c1 := hb.cell 1
 simp only [List.getElem?_toArray, List.getElem?_cons_succ, List.getElem?_cons_zero] at c0 c1
 clear hb hr
 go_enter Tryz.func28, Tryz.ntmps28
 go_wp2
 go_quiet (fail)
 go_wp2
 go_ret
 exact ⟨rfl, nq, rfl⟩
theorem dkall_any (w : World) (h : DkAt w X d b k) :
  Calls Tryz.prog 101 #[.pointer (some ⟨d, 0, none⟩)] w fun e w' => ∃ v, e = .returned v ∧ w'.ownsRow w.heap.size 5 1 v b.length (b.map bV) ∧ Below w.heap.size w w' := by
 have hle := h.le
 obtain ⟨v, hb, hr, _⟩ := h
 have hcl := Lib.hid (cloneU8 [] v b.length (b.map bV) w (hr.bs (by simp)) (bV_one b) (by omega))
 obtain ⟨A, c, rfl, hc⟩ := hr.len
 have c0 := hb.cell 0; have c1 := hb.cell 1
 simp only [List.getElem?_toArray, List.getElem?_cons_succ, List.getElem?_cons_zero] at c0 c1
 clear hb hr
 go_enter Tryz.func101, Tryz.ntmps101
 go_wp2_with fail
 refine hcl.out.mono ?_
 rintro e w1 ⟨v1, rfl, hown, hb1⟩
 have Hown := Lib.hid hown; have Hb1 := Lib.hid hb1
 clear hown hb1 hcl
 go_wp2
 go_ret
 exact ⟨v1, rfl, Hown.out, Hb1.out⟩
theorem dksync_any (w : World) (h : DkAt w X d b k) :
  Calls Tryz.prog 123 #[.pointer (some ⟨d, 0, none⟩)] w fun e w' => e = .returned (.tuple #[]) ∧ DkAt w' X d b b.length ∧ Keeps [d] w w' := by
 have hR : Hid (DkAt (w.setCell ⟨d, 1, none⟩ (.int .i64 b.length)) X d b b.length ∧ Keeps [d] w (w.setCell ⟨d, 1, none⟩ (.int .i64 b.length))) := by
  obtain ⟨v, h1, h2, h3, h4, h5, h6, h7⟩ := h
  have hk : Keeps [d] w (w.setCell ⟨d, 1, none⟩ (.int .i64 b.length)) := (Keeps.refl _ _).setCell (by simp) _
  exact ⟨⟨v, by simpa using h1.set_ 1 (.int .i64 b.length), h2.keep hk (fun g hg => by have := (h4 g hg).2; simpa using this), h3, h4, Nat.le_refl _, h6, fun g hg => Nat.lt_of_lt_of_le (h7 g hg) hk.size⟩, hk⟩
 have hle := h.le
 obtain ⟨v, hb, hr, _⟩ := h
 obtain ⟨A, c, rfl, hc⟩ := hr.len
 have c0 := hb.cell 0; have c1 := hb.cell 1; have f1 := hb.frozen 1
 simp only [List.getElem?_toArray, List.getElem?_cons_succ, List.getElem?_cons_zero] at c0 c1
 clear hb hr
 go_enter Tryz.func123, Tryz.ntmps123
 go_wp2
 go_end0
 exact ⟨rfl, hR.out.1, hR.out.2⟩
theorem dkcut_any (w : World) (h : DkAt w X d b k) (n : Nat) (hn : n ≤ b.length) :
  Calls Tryz.prog 72 #[.pointer (some ⟨d, 0, none⟩), .int .i64 n] w fun e w' => e = .returned (.bool true) ∧ DkAt w' X d (b.take n) n ∧ Keeps [d] w w' := by
 have hle := h.le
 obtain ⟨v, hb, hr, h3, h4, h5, h6, h7⟩ := h
 obtain ⟨A, c, rfl, hc, hcm⟩ := hr.len
 have hcut := hr.cut n hn
 have hown : ∀ g, Value.ownBlock (.slice A n n) = some g → Value.ownBlock (.slice A b.length c) = some g := fun g hg => by cases A <;> simp [Value.ownBlock] at hg ⊢ <;> exact hg
 have hR : Hid (DkAt ((w.setCell ⟨d, 0, none⟩ (.slice A n n)).setCell ⟨d, 1, none⟩ (.int .i64 n)) X d (b.take n) n ∧ Keeps [d] w ((w.setCell ⟨d, 0, none⟩ (.slice A n n)).setCell ⟨d, 1, none⟩ (.int .i64 n))) := by
  have hk : Keeps [d] w ((w.setCell ⟨d, 0, none⟩ (.slice A n n)).setCell ⟨d, 1, none⟩ (.int .i64 n)) := ((Keeps.refl _ _).setCell (by simp) _).setCell (by simp) _
  refine ⟨⟨.slice A n n, by simpa using (hb.set_ 0 (.slice A n n)).set_ 1 (.int .i64 n), hcut.keep hk (fun g hg => by have := (h4 g (hown g hg)).2; simpa using this), h3, fun g hg => h4 g (hown g hg), ?_, ?_, fun g hg => Nat.lt_of_lt_of_le (h7 g hg) hk.size⟩, hk⟩
  ·rw [List.length_take]; omega
  ·rw [List.length_take]; omega
 have hcl := Lib.hid (fun W => clipU8 A n c W (by omega))
 have c0 := hb.cell 0; have c1 := hb.cell 1; have f0 := hb.frozen 0; have f1 := hb.frozen 1
 simp only [List.getElem?_toArray, List.getElem?_cons_succ, List.getElem?_cons_zero] at c0 c1
 clear hb hr hcut hown h3 h4 h5 h6 h7
 have hni : (0 : Int) ≤ (n : Int) := by omega
 have hn2 : (n : Int) ≤ (b.length : Int) := by omega
 have hn3 : (n : Int) ≤ (c : Int) := by omega
 go_enter Tryz.func72, Tryz.ntmps72
 go_wp2_with fail
 refine (hcl.out _).mono ?_
 rintro e w1 ⟨rfl, rfl⟩
 go_wp2
 go_ret
 exact ⟨rfl, hR.out.1, hR.out.2⟩
def DaPost (X : List Nat) (d : Nat) (b l : List UInt8) (k : Nat) (w : World) (e : Ending) (w' : World) : Prop :=
 if b.length + l.length ≤ 1048576 then e = .returned (.int .i64 0) ∧ ∃ X', DkAt w' X' d (b ++ l) k ∧ Grows X w X' ∧ Keeps X w w'
 else e = .returned (.int .i64 24) ∧ w = w'
theorem dkappend_any (w : World) (h : DkAt w X d b k) (v : Value) (l : List UInt8) (M : List Nat) (hv : Bs w M v l) (h0 : 0 < l.length) (hl : l.length ≤ 10000000) :
  Calls Tryz.prog 107 #[.pointer (some ⟨d, 0, none⟩), v] w fun e w' => DaPost X d b l k w e w' := by
 have hle := h.le
 obtain ⟨v0, hb, hr, h3, h4, h5, h6, h7⟩ := h
 obtain ⟨A, c, rfl, hc, hcm⟩ := hr.len
 obtain ⟨A2, c2, rfl, hc2⟩ := hv.len
 have c0 := hb.cell 0; have c1 := hb.cell 1; have f0 := hb.frozen 0
 simp only [List.getElem?_toArray, List.getElem?_cons_succ, List.getElem?_cons_zero] at c0 c1
 by_cases hroom : b.length + l.length ≤ 1048576
 ·have HP : Hid (∀ e w', DaPost X d b l k w e w' = (e = .returned (.int .i64 0) ∧ ∃ X', DkAt w' X' d (b ++ l) k ∧ Grows X w X' ∧ Keeps X w w')) := fun e w' => by unfold DaPost; rw [if_pos hroom]
  have hd0 : decide ((1048576 - (b.length : Int)) < (l.length : Int)) = false := decide_eq_false (by omega)
  have Hb := Lib.hid hb; have Hr := Lib.hid hr; have H3 := Lib.hid h3; have H4 := Lib.hid h4; have H7 := Lib.hid h7; have Hv := Lib.hid hv
  have hlt := hb.lt
  clear hb hr h3 h4 h7 hv
  go_enter Tryz.func107, Tryz.ntmps107
  go_wp2_with (at_builtin; refine wpList_append_row1 rfl (.tmp 18) (.tmp 19) rfl _ b l A2 c2 M rfl Hr.out rfl Hv.out h0 (by omega) ?_)
  intro v1 w1 hr1 hk1 ho1
  obtain ⟨A1, c1, rfl, _⟩ := hr1.len
  have Hr1 := Lib.hid hr1; have Hk1 := Lib.hid hk1; have Ho1 := Lib.hid ho1
  have hdn : ∀ g ∈ (Value.ownBlock (.slice A b.length c)).toList, g ≠ d := fun g hg => (H4.out g (by simpa using hg)).2
  have Hb1 := Lib.hid (hk1.blk Hb.out (fun hm => hdn d hm rfl))
  have f1 := Hb1.out.frozen 0
  have hd1 : w1.cell? ⟨d, 0, none⟩ = some (.slice A b.length c) := Hb1.out.cell 0
  have hR : Hid (∃ X', DkAt (w1.setCell ⟨d, 0, none⟩ (.slice A1 (b ++ l).length c1)) X' d (b ++ l) k ∧ Grows X w X' ∧ Keeps X w (w1.setCell ⟨d, 0, none⟩ (.slice A1 (b ++ l).length c1))) := by
   have hk2 : Keeps [d] w1 (w1.setCell ⟨d, 0, none⟩ (.slice A1 (b ++ l).length c1)) := (Keeps.refl _ _).setCell (by simp) _
   have hkX : Keeps X w (w1.setCell ⟨d, 0, none⟩ (.slice A1 (b ++ l).length c1)) := (Hk1.out.mono (M' := X) (fun g hg => .inl (H4.out g (by simpa using hg)).1)).trans hk2 (fun g hg => by simp at hg; subst hg; exact .inl H3.out)
   have hne : ∀ g, (Value.ownBlock (.slice A1 (b ++ l).length c1)) = some g → g ≠ d := fun g hg => by
    rcases Ho1.out g hg with h | h
    ·exact (H4.out g h).2
    ·omega
   have hXs : ∀ g ∈ X ++ (Value.ownBlock (.slice A1 (b ++ l).length c1)).toList, g < (w1.setCell ⟨d, 0, none⟩ (.slice A1 (b ++ l).length c1)).heap.size := fun g hg => by
    rcases List.mem_append.1 hg with h | h
    ·exact Nat.lt_of_lt_of_le (H7.out g h) hkX.size
    ·exact Nat.lt_of_lt_of_le (Hr1.out.lt (by simpa using h)) hk2.size
   refine ⟨X ++ (Value.ownBlock (.slice A1 (b ++ l).length c1)).toList, ⟨.slice A1 (b ++ l).length c1, by simpa using Hb1.out.set_ 0 (.slice A1 (b ++ l).length c1), Hr1.out.keep hk2 (fun g hg => by have := hne g hg; simpa using this), by simp [H3.out], fun g hg => ⟨List.mem_append_right _ (Option.mem_toList.2 hg), hne g hg⟩, by rw [List.length_append]; omega, by rw [List.length_append]; omega, hXs⟩, ?_, hkX⟩
   intro g hg
   rcases List.mem_append.1 hg with h | h
   ·exact .inl h
   ·rcases Ho1.out g (by simpa using h) with h | h
    ·exact .inl (H4.out g h).1
    ·exact .inr h
  have hP : Hid (DaPost X d b l k w (.returned (.int .i64 0)) (w1.setCell ⟨d, 0, none⟩ (.slice A1 (b ++ l).length c1))) := (HP.out _ _).symm ▸ ⟨rfl, hR.out⟩
  rw [List.length_append] at hP
  clear hr1 hk1 ho1 hdn HP hR
  go_wp2
  go_ret
  exact hP.out
 ·have HP : Hid (DaPost X d b l k w (.returned (.int .i64 24)) w) := by unfold DaPost; rw [if_neg hroom]; exact ⟨rfl, rfl⟩
  have hd0 : decide ((1048576 - (b.length : Int)) < (l.length : Int)) = true := decide_eq_true (by omega)
  clear hb hr h3 h4 h7 hv
  go_enter Tryz.func107, Tryz.ntmps107
  go_wp2
  go_ret
  exact HP.out
/-- What lasts behind a crash that lets so many of those that wait last. -/
def crashK (b : List UInt8) (k : Nat) (keep : Int) : Nat := (max 0 (min keep ((b.length : Int) - k))).toNat
theorem dkcrash_any (w : World) (h : DkAt w X d b k) (keep : Int) :
  Calls Tryz.prog 31 #[.pointer (some ⟨d, 0, none⟩), .int .i64 keep] w fun e w' => e = .returned (.int .i64 ((b.length : Int) - k - crashK b k keep)) ∧ DkAt w' X d (b.take (k + crashK b k keep)) (k + crashK b k keep) ∧ Keeps [d] w w' := by
 have hle := h.le
 have hwt := Lib.hid (fun W (hk : Keeps [] w W) => dkwaits_any W (h.keep0 hk))
 have hK : Hid (max 0 (min keep ((b.length : Int) - k)) = (crashK b k keep : Int)) := by show _ = _; unfold crashK; omega
 have hKb : k + crashK b k keep ≤ b.length := by unfold crashK; omega
 have hct := Lib.hid (fun W (hk : Keeps [] w W) => dkcut_any W (h.keep0 hk) (k + crashK b k keep) hKb)
 generalize crashK b k keep = m at *
 obtain ⟨v, hb, _⟩ := h
 have c1 := hb.cell 1
 simp only [List.getElem?_toArray, List.getElem?_cons_succ, List.getElem?_cons_zero] at c1
 have hlt := hb.lt
 have HC : Hid (∀ q, (w.drewN q).cell? ⟨d, 1, none⟩ = some (.int .i64 k)) := fun q => c1
 clear hb
 go_enter Tryz.func31, Tryz.ntmps31
 go_wp2_with fail
 refine (hwt.out w (Keeps.refl _ _)).mono ?_
 rintro e w1 ⟨rfl, q1, rfl⟩
 have hm := hK.out
 have hwm : IntKind.i64.wrap ((m : Int)) = (m : Int) := by rw [IntKind.wrap_i64]; omega
 go_wp2_with fail
 refine (hwt.out (w.drewN q1) ((Keeps.refl _ _).drewN q1)).mono ?_
 rintro e w2 ⟨rfl, q2, rfl⟩
 have hc2 : (w.drewN (q1 + q2)).cell? ⟨d, 1, none⟩ = some (.int .i64 k) := c1
 go_wp2_with fail
 have hct2 := hct.out (w.drewN (q1 + q2)) ((Keeps.refl _ _).drewN _)
 rw [Int.natCast_add] at hct2
 refine hct2.mono ?_
 rintro e w3 ⟨rfl, hD, hk⟩
 have HD := Lib.hid hD; have Hk : Hid (Keeps [d] w w3) := ((Keeps.refl [d] w).drewN (q1 + q2)).trans hk (by simp)
 clear hD hk hct2
 go_wp2
 go_ret
 exact ⟨rfl, HD.out, Hk.out⟩
end
end Go.Proofs.YtgdooockldgdlaaGreatDoor.Vi
end
section
namespace Go.Proofs.YtgdooockldgdlaaGreatDoor.Vi
open Go.RowKit Base Mem Go.Shelf
theorem ens_at {w : World} {M : List Nat} {v : Value} {l : List EntryD} (h : Ens w M v l) {k : Nat} (hk : k < l.length) :
  ∃ g off cap dv, v = .slice (some ⟨g, off, none⟩) l.length cap ∧ g < w.heap.size ∧ g ∉ M ∧ Ds w M dv l[k].ds ∧ ∀ j u, (eCell (l[k], dv))[j]? = some u → w.cell? ⟨g, off + k * 9 + j, none⟩ = some u := by
 obtain ⟨ps, rfl, hr, hd⟩ := h
 have hk' : k < ps.length := by simpa using hk
 obtain ⟨g, off, cap, e, _, hg, hm, hx⟩ := Rd.at_ eCell 9 (fun _ => rfl) hr hk'
 refine ⟨g, off, cap, ps[k].2, by simpa using e, hg, hm, ?_, ?_⟩
 ·simpa using hd ps[k] (List.getElem_mem _)
 ·simpa using hx
def rowsEq (a b : List EntryD) : Bool := Lib.allEq sameE a b
/-- No row of an entry is too long to be counted. -/
def Cnt (l : List EntryD) : Prop := l.length ≤ 4611686018427387904 ∧ ∀ e ∈ l, e.ds.length ≤ 4611686018427387904
instance : Inhabited EntryD := ⟨⟨0, 0, 0, 0, 0, [], ⟨#[]⟩, 0, 0⟩⟩
theorem allEq_drop (a b : List EntryD) (x : Nat) (hx : x < a.length) (hy : x < b.length) : Lib.allEq sameE (a.drop x) (b.drop x) = (sameE a[x] b[x] && Lib.allEq sameE (a.drop (x + 1)) (b.drop (x + 1))) := by
 rw [List.drop_eq_getElem_cons hx, List.drop_eq_getElem_cons hy]
 rfl
set_option maxRecDepth 100000 in
set_option maxHeartbeats 1000000 in
theorem eqfunc_any (va vb : Value) (a b : List EntryD) (w : World) (ha : Ens w [] va a) (hb : Ens w [] vb b) (ca : Cnt a) (cb : Cnt b) :
  Calls Tryz.prog 269 #[va, vb, .func (.func 228) #[] #[]] w fun e w' => SamePost (rowsEq a b) w e w' := by
 have Ha := Lib.hid ha; have Hb := Lib.hid hb
 obtain ⟨Aa, ka, rfl, hka⟩ := ha.len
 obtain ⟨Ab, kb, rfl, hkb⟩ := hb.len
 have ha2 := ca.1; have hb2 := cb.1
 have Hca := Lib.hid ca.2; have Hcb := Lib.hid cb.2
 clear ha hb ca cb
 by_cases hne : a.length = b.length
 ·have hbn : ((a.length : Int) != (b.length : Int)) = false := by simp [hne]
  have Hne := Lib.hid hne
  have hHr : Hid (rowsEq a b = Lib.allEq sameE (a.drop 0) (b.drop 0)) := rfl
  clear hne
  go_enter Tryz.func269, Tryz.ntmps269
  go_wp2_with fail
  go_loopw [17] (fun i wr => ∃ x : Nat, i = .int .i64 x ∧ x ≤ a.length ∧ Hid (rowsEq a b = Lib.allEq sameE (a.drop x) (b.drop x)) ∧ Hid (Below w.heap.size w wr)) (fun i _ => a.length - (intOf i).toNat)
  case atStart => exact ⟨0, rfl, by omega, hHr, Below.refl _ _⟩
  case round =>
   obtain ⟨x, rfl, hx, Hq, Hbr⟩ := hrel
   by_cases hlt : x < a.length
   ·have hx1 : (x : Int) < (a.length : Int) := by omega
    have hx0 : (0 : Int) ≤ (x : Int) := by omega
    have hxb : x < b.length := by have := Hne.out; omega
    have hx2 : (x : Int) < (b.length : Int) := by omega
    have HQ2 : Hid (rowsEq a b = (sameE a[x] b[x] && Lib.allEq sameE (a.drop (x + 1)) (b.drop (x + 1)))) := by show _ = _; rw [Hq.out, allEq_drop a b x hlt hxb]
    obtain ⟨ga, oa, _, da, e1, _, _, hDa, hca⟩ := ens_at (Ha.out.keep (Keeps.of_below (M := []) Hbr.out) (by simp)) hlt
    obtain ⟨gb, ob, _, db, e2, _, _, hDb, hcb⟩ := ens_at (Hb.out.keep (Keeps.of_below (M := []) Hbr.out) (by simp)) hxb
    injection e1 with e1 _ e9
    injection e2 with e2 _ e8
    subst e1 e2
    clear e9 e8
    have hsm := Lib.hid (fun W (hk : Keeps [] wr W) => same_any a[x] b[x] da db W (hDa.keep hk (by simp)) (hDb.keep hk (by simp)) (Hca.out _ (List.getElem_mem _)) (Hcb.out _ (List.getElem_mem _)))
    obtain ⟨Da, na, rfl, _⟩ := hDa.len
    obtain ⟨Db, nb, rfl, _⟩ := hDb.len
    have a0 := hca 0 _ rfl; have a1 := hca 1 _ rfl; have a2 := hca 2 _ rfl; have a3 := hca 3 _ rfl; have a4 := hca 4 _ rfl; have a5 := hca 5 _ rfl; have a6 := hca 6 _ rfl; have a7 := hca 7 _ rfl; have a8 := hca 8 _ rfl
    have b0 := hcb 0 _ rfl; have b1 := hcb 1 _ rfl; have b2 := hcb 2 _ rfl; have b3 := hcb 3 _ rfl; have b4 := hcb 4 _ rfl; have b5 := hcb 5 _ rfl; have b6 := hcb 6 _ rfl; have b7 := hcb 7 _ rfl; have b8 := hcb 8 _ rfl
    rw [Nat.add_zero] at a0 b0
    clear hca hcb hDa hDb
    generalize a[x] = ea at *
    generalize b[x] = eb at *
    generalize sameE ea eb = sm at *
    obtain ⟨kind, ag, sh, seq, ep, ds, ser, fr, tag⟩ := ea
    obtain ⟨kind', ag', sh', seq', ep', ds', ser', fr', tag'⟩ := eb
    simp only [eCell] at hsm
    simp only [] at a0 a1 a2 a3 a4 a5 a6 a7 a8 b0 b1 b2 b3 b4 b5 b6 b7 b8
    obtain ⟨w1, hw1⟩ : ∃ w1, w1 = wr.alloc (.cells #[.int .i64 kind, .int .i64 ag, .int .i64 sh, .int .i64 seq, .int .i64 ep, .slice Da ds.length na, .string ser, .int .i64 fr, .int .i64 tag] 33) := ⟨_, rfl⟩
    have hk1 : Keeps [] wr w1 := by rw [hw1]; exact (Keeps.refl _ _).alloc _
    have HB1 := Lib.hid (show Blk w1 wr.heap.size 33 #[.int .i64 kind, .int .i64 ag, .int .i64 sh, .int .i64 seq, .int .i64 ep, .slice Da ds.length na, .string ser, .int .i64 fr, .int .i64 tag] by rw [hw1]; exact Blk.new wr _ _)
    have hgb : gb < wr.heap.size := World.block_lt_of_cell? wr _ b0
    have c0 := (hk1.cell (p := ⟨gb, ob + x * 9, none⟩) hgb (by simp)).trans b0
    have c1 := (hk1.cell (p := ⟨gb, ob + x * 9 + 1, none⟩) hgb (by simp)).trans b1
    have c2 := (hk1.cell (p := ⟨gb, ob + x * 9 + 2, none⟩) hgb (by simp)).trans b2
    have c3 := (hk1.cell (p := ⟨gb, ob + x * 9 + 3, none⟩) hgb (by simp)).trans b3
    have c4 := (hk1.cell (p := ⟨gb, ob + x * 9 + 4, none⟩) hgb (by simp)).trans b4
    have c5 := (hk1.cell (p := ⟨gb, ob + x * 9 + 5, none⟩) hgb (by simp)).trans b5
    have c6 := (hk1.cell (p := ⟨gb, ob + x * 9 + 6, none⟩) hgb (by simp)).trans b6
    have c7 := (hk1.cell (p := ⟨gb, ob + x * 9 + 7, none⟩) hgb (by simp)).trans b7
    have c8 := (hk1.cell (p := ⟨gb, ob + x * 9 + 8, none⟩) hgb (by simp)).trans b8
    have Hw1 := Lib.hid hw1; have Hk1 := Lib.hid hk1
    have Hs1 := Lib.hid (hsm.out (w1.alloc (.cells #[.int .i64 kind', .int .i64 ag', .int .i64 sh', .int .i64 seq', .int .i64 ep', .slice Db ds'.length nb, .string ser', .int .i64 fr', .int .i64 tag'] 33)) (hk1.alloc _))
    clear hw1 hk1 hsm b0 b1 b2 b3 b4 b5 b6 b7 b8 hgb
    go_upto_region 6 with (fail)
    rw [← Hw1.out]
    clear a0 a1 a2 a3 a4 a5 a6 a7 a8
    generalize wr.heap.size = g1 at *
    have hg1 : g1 < w1.heap.size := HB1.out.lt
    obtain ⟨w2, hw2⟩ : ∃ w2, w2 = w1.alloc (.cells #[.int .i64 kind', .int .i64 ag', .int .i64 sh', .int .i64 seq', .int .i64 ep', .slice Db ds'.length nb, .string ser', .int .i64 fr', .int .i64 tag'] 33) := ⟨_, rfl⟩
    have hB2 : Blk w2 w1.heap.size 33 #[.int .i64 kind', .int .i64 ag', .int .i64 sh', .int .i64 seq', .int .i64 ep', .slice Db ds'.length nb, .string ser', .int .i64 fr', .int .i64 tag'] := by rw [hw2]; exact Blk.new w1 _ _
    have hB1 : Blk w2 g1 33 #[.int .i64 kind, .int .i64 ag, .int .i64 sh, .int .i64 seq, .int .i64 ep, .slice Da ds.length na, .string ser, .int .i64 fr, .int .i64 tag] := by rw [hw2]; exact HB1.out.below (below_new' _ _) hg1
    have Hb2 : Hid (Below w.heap.size w w2) := by rw [hw2]; exact ((Keeps.of_below (M := []) Hbr.out).trans (Hk1.out.alloc _) (by simp)).below
    rw [← hw2] at Hs1
    have HB2 := Lib.hid hB2; have HB1 := Lib.hid hB1; have Hw2 := Lib.hid hw2
    clear hB2 hB1 hw2
    go_upto_region 7 with (fail)
    rw [← Hw2.out]
    clear c0 c1 c2 c3 c4 c5 c6 c7 c8
    generalize w1.heap.size = g2 at *
    obtain ⟨q0, q1, q2, q3, q4, q5, q6, q7, q8, qf⟩ := blk9 HB1.out
    obtain ⟨r0, r1, r2, r3, r4, r5, r6, r7, r8, rf⟩ := blk9 HB2.out
    go_wp2_with fail
    refine Hs1.out.mono ?_
    rintro e w3 ⟨rfl, hb3⟩
    have Hb3 := Lib.hid (below_then Hb2.out hb3)
    clear hb3 Hs1 q0 q1 q2 q3 q4 q5 q6 q7 q8 qf r0 r1 r2 r3 r4 r5 r6 r7 r8 rf
    cases sm with
    | true =>
     have HQ3 : Hid (rowsEq a b = Lib.allEq sameE (a.drop (x + 1)) (b.drop (x + 1))) := by show _ = _; rw [HQ2.out]; rfl
     clear HQ2
     go_wp2
     go_roundw
     case rel => exact ⟨x + 1, by go_num, by omega, HQ3, Hb3⟩
     case measure => simp [intOf] <;> omega
    | false =>
     have hR : Hid (rowsEq a b = false) := by show _ = _; rw [HQ2.out]; rfl
     clear HQ2
     go_wp2
     go_ret
     exact ⟨ret_bool hR.out.symm, Hb3.out⟩
   ·obtain rfl : x = a.length := by omega
    have hR : Hid (rowsEq a b = true) := by
     show _ = _
     rw [Hq.out, List.drop_length, List.drop_eq_nil_of_le (by have := Hne.out; omega)]
     rfl
    go_wp2
    go_ret
    exact ⟨ret_bool hR.out.symm, Hbr.out⟩
 ·have hR : Hid (rowsEq a b = false) := Lib.allEq_len sameE a b hne
  have hbn : ((a.length : Int) != (b.length : Int)) = true := by simp; omega
  rw [hR.out]
  clear hne
  go_enter Tryz.func269, Tryz.ntmps269
  go_wp2
  go_ret
  exact ⟨rfl, Below.refl _ _⟩
theorem rows_any (va vb : Value) (a b : List EntryD) (w : World) (ha : Ens w [] va a) (hb : Ens w [] vb b) (ca : Cnt a) (cb : Cnt b) :
  Calls Tryz.prog 229 #[va, vb] w fun e w' => SamePost (rowsEq a b) w e w' := by
 have h := Lib.hid (eqfunc_any va vb a b w ha hb ca cb)
 obtain ⟨Aa, ka, rfl, hka⟩ := ha.len
 obtain ⟨Ab, kb, rfl, hkb⟩ := hb.len
 clear ha hb ca cb
 generalize rowsEq a b = R at *
 go_enter Tryz.func229, Tryz.ntmps229
 go_wp2_with fail
 refine h.out.mono ?_
 rintro e w' ⟨rfl, hb⟩
 have Hb := Lib.hid hb
 clear hb
 go_wp2
 go_ret
 exact ⟨rfl, Hb.out⟩
structure MsgD where
 kd : Int
 en : EntryD
 tag : Int
 code : Int
 nn : Int
 term : Int
 had : Int
 log : List EntryD
 commit : Int
 len : Int
def mCell (m : MsgD) (dv lv : Value) : List Value := .int .i64 m.kd :: (eCell (m.en, dv) ++ [.int .i64 m.tag, .int .i64 m.code, .int .u64 m.nn, .int .i64 m.term, .int .i64 m.had, lv, .int .i64 m.commit, .int .i64 m.len])
/-- A message's slices read as its deltas and its row. -/
def MsgAt (w : World) (M : List Nat) (m : MsgD) (dv lv : Value) : Prop := Ds w M dv m.en.ds ∧ Ens w M lv m.log
theorem MsgAt.keep {w w' : World} {M M' : List Nat} {m : MsgD} {dv lv : Value} (h : MsgAt w M m dv lv) (k : Keeps M' w w') (hM : ∀ g ∈ M', g ∈ M ∨ w.heap.size ≤ g) : MsgAt w' M m dv lv := ⟨h.1.keep k hM, h.2.keep k hM⟩
theorem MsgAt.avoid {w : World} {M M' : List Nat} {m : MsgD} {dv lv : Value} (h : MsgAt w M m dv lv) (hM : ∀ g ∈ M', g ∈ M ∨ w.heap.size ≤ g) : MsgAt w M' m dv lv := ⟨h.1.avoid hM, h.2.avoid hM⟩
def MCnt (m : MsgD) : Prop := m.en.ds.length ≤ 4611686018427387904 ∧ Cnt m.log
theorem blk18 {w : World} {g : Nat} {t : TypeId} {c0 c1 c2 c3 c4 c5 c6 c7 c8 c9 ca cb cc cd ce cf cg ch : Value} (h : Blk w g t #[c0, c1, c2, c3, c4, c5, c6, c7, c8, c9, ca, cb, cc, cd, ce, cf, cg, ch]) :
  w.cell? ⟨g, 0, none⟩ = some c0 ∧ w.cell? ⟨g, 1, none⟩ = some c1 ∧ w.cell? ⟨g, 2, none⟩ = some c2 ∧ w.cell? ⟨g, 3, none⟩ = some c3 ∧ w.cell? ⟨g, 4, none⟩ = some c4 ∧ w.cell? ⟨g, 5, none⟩ = some c5 ∧ w.cell? ⟨g, 6, none⟩ = some c6 ∧ w.cell? ⟨g, 7, none⟩ = some c7 ∧ w.cell? ⟨g, 8, none⟩ = some c8 ∧ w.cell? ⟨g, 9, none⟩ = some c9 ∧ w.cell? ⟨g, 10, none⟩ = some ca ∧ w.cell? ⟨g, 11, none⟩ = some cb ∧ w.cell? ⟨g, 12, none⟩ = some cc ∧ w.cell? ⟨g, 13, none⟩ = some cd ∧ w.cell? ⟨g, 14, none⟩ = some ce ∧ w.cell? ⟨g, 15, none⟩ = some cf ∧ w.cell? ⟨g, 16, none⟩ = some cg ∧ w.cell? ⟨g, 17, none⟩ = some ch ∧ (∀ i, w.frozen? ⟨g, i, none⟩ = false) :=
 ⟨h.cell 0, h.cell 1, h.cell 2, h.cell 3, h.cell 4, h.cell 5, h.cell 6, h.cell 7, h.cell 8, h.cell 9, h.cell 10, h.cell 11, h.cell 12, h.cell 13, h.cell 14, h.cell 15, h.cell 16, h.cell 17, h.frozen⟩
/-- Are messages the same? -/
def sameM (a b : MsgD) : Bool := sameE a.en b.en && rowsEq a.log b.log && (a.kd == b.kd && a.tag == b.tag && a.code == b.code && a.nn == b.nn && a.term == b.term && a.had == b.had && a.commit == b.commit && a.len == b.len)
set_option maxRecDepth 100000 in
set_option maxHeartbeats 2000000 in
theorem msame_any (a b : MsgD) (da la db lb : Value) (w : World) (ha : MsgAt w [] a da la) (hb : MsgAt w [] b db lb) (ca : MCnt a) (cb : MCnt b) :
  Calls Tryz.prog 175 #[.agg (mCell a da la).toArray, .agg (mCell b db lb).toArray] w fun r w' => SamePost (sameM a b) w r w' := by
 have hse := Lib.hid (fun W (hk : Keeps [] w W) => same_any a.en b.en da db W (ha.1.keep hk (by simp)) (hb.1.keep hk (by simp)) ca.1 cb.1)
 have hro := Lib.hid (fun W (hk : Keeps [] w W) => rows_any la lb a.log b.log W (ha.2.keep hk (by simp)) (hb.2.keep hk (by simp)) ca.2 cb.2)
 have HS : Hid (sameM a b = (sameE a.en b.en && rowsEq a.log b.log && (a.kd == b.kd && a.tag == b.tag && a.code == b.code && a.nn == b.nn && a.term == b.term && a.had == b.had && a.commit == b.commit && a.len == b.len))) := rfl
 obtain ⟨Aa, na, rfl, _⟩ := ha.1.len
 obtain ⟨Ab, nb, rfl, _⟩ := hb.1.len
 obtain ⟨Ba, ka, rfl, _⟩ := ha.2.len
 obtain ⟨Bb, kb, rfl, _⟩ := hb.2.len
 generalize sameM a b = R at *
 generalize sameE a.en b.en = s1 at *
 generalize rowsEq a.log b.log = s2 at *
 clear ha hb ca cb
 obtain ⟨kd, ⟨kind, ag, sh, seq, ep, ds, ser, fr, etg⟩, tag, code, nn, term, had, log, commit, len⟩ := a
 obtain ⟨kdz, ⟨kindz, agz, shz, seqz, epz, dsz, serz, frz, etgz⟩, tagz, codez, nnz, termz, hadz, logz, commitz, lenz⟩ := b
 simp only [eCell] at hse
 simp only [] at HS hro
 generalize ds.length = dn at *
 generalize dsz.length = dnz at *
 generalize log.length = ln at *
 generalize logz.length = lnz at *
 simp only [mCell, eCell, List.cons_append, List.nil_append]
 obtain ⟨w2, hw2⟩ : ∃ w2, w2 = (w.alloc (.cells #[.int .i64 kd, .int .i64 kind, .int .i64 ag, .int .i64 sh, .int .i64 seq, .int .i64 ep, .slice Aa dn na, .string ser, .int .i64 fr, .int .i64 etg, .int .i64 tag, .int .i64 code, .int .u64 nn, .int .i64 term, .int .i64 had, .slice Ba ln ka, .int .i64 commit, .int .i64 len] 59)).alloc (.cells #[.int .i64 kdz, .int .i64 kindz, .int .i64 agz, .int .i64 shz, .int .i64 seqz, .int .i64 epz, .slice Ab dnz nb, .string serz, .int .i64 frz, .int .i64 etgz, .int .i64 tagz, .int .i64 codez, .int .u64 nnz, .int .i64 termz, .int .i64 hadz, .slice Bb lnz kb, .int .i64 commitz, .int .i64 lenz] 59) := ⟨_, rfl⟩
 have hk2 : Keeps [] w w2 := by rw [hw2]; exact ((Keeps.refl _ _).alloc _).alloc _
 have hBa : Blk w2 w.heap.size 59 #[.int .i64 kd, .int .i64 kind, .int .i64 ag, .int .i64 sh, .int .i64 seq, .int .i64 ep, .slice Aa dn na, .string ser, .int .i64 fr, .int .i64 etg, .int .i64 tag, .int .i64 code, .int .u64 nn, .int .i64 term, .int .i64 had, .slice Ba ln ka, .int .i64 commit, .int .i64 len] := by rw [hw2]; exact (Blk.new w _ _).below (below_new' _ _) (by simp)
 have hBb : Blk w2 (w.heap.size + 1) 59 #[.int .i64 kdz, .int .i64 kindz, .int .i64 agz, .int .i64 shz, .int .i64 seqz, .int .i64 epz, .slice Ab dnz nb, .string serz, .int .i64 frz, .int .i64 etgz, .int .i64 tagz, .int .i64 codez, .int .u64 nnz, .int .i64 termz, .int .i64 hadz, .slice Bb lnz kb, .int .i64 commitz, .int .i64 lenz] := by
  have := Blk.new (w.alloc (.cells #[.int .i64 kd, .int .i64 kind, .int .i64 ag, .int .i64 sh, .int .i64 seq, .int .i64 ep, .slice Aa dn na, .string ser, .int .i64 fr, .int .i64 etg, .int .i64 tag, .int .i64 code, .int .u64 nn, .int .i64 term, .int .i64 had, .slice Ba ln ka, .int .i64 commit, .int .i64 len] 59)) 59 #[.int .i64 kdz, .int .i64 kindz, .int .i64 agz, .int .i64 shz, .int .i64 seqz, .int .i64 epz, .slice Ab dnz nb, .string serz, .int .i64 frz, .int .i64 etgz, .int .i64 tagz, .int .i64 codez, .int .u64 nnz, .int .i64 termz, .int .i64 hadz, .slice Bb lnz kb, .int .i64 commitz, .int .i64 lenz]
  rw [hw2]; simpa using this
 have Hw2 := Lib.hid hw2; have HBa := Lib.hid hBa; have HBb := Lib.hid hBb; have Hk2 := Lib.hid hk2
 have Hs1 := Lib.hid (hse.out w2 hk2)
 clear hw2 hBa hBb hk2 hse
 show Calls Tryz.prog 175 #[.agg #[.int .i64 kd, .int .i64 kind, .int .i64 ag, .int .i64 sh, .int .i64 seq, .int .i64 ep, .slice Aa dn na, .string ser, .int .i64 fr, .int .i64 etg, .int .i64 tag, .int .i64 code, .int .u64 nn, .int .i64 term, .int .i64 had, .slice Ba ln ka, .int .i64 commit, .int .i64 len], .agg #[.int .i64 kdz, .int .i64 kindz, .int .i64 agz, .int .i64 shz, .int .i64 seqz, .int .i64 epz, .slice Ab dnz nb, .string serz, .int .i64 frz, .int .i64 etgz, .int .i64 tagz, .int .i64 codez, .int .u64 nnz, .int .i64 termz, .int .i64 hadz, .slice Bb lnz kb, .int .i64 commitz, .int .i64 lenz]] w fun r w' => SamePost R w r w'
 go_enter Tryz.func175, Tryz.ntmps175
 go_upto_region 1 with (fail)
 rw [← Hw2.out]
 have hg1 : w.heap.size + 1 < w2.heap.size := HBb.out.lt
 generalize hgs : w.heap.size = g at HBa HBb hg1 ⊢
 have Hgs := Lib.hid hgs
 clear Hw2 hgs
 obtain ⟨q0, q1, q2, q3, q4, q5, q6, q7, q8, q9, qa, qb, qc, qd, qe, qf, qg, qh, _⟩ := blk18 HBa.out
 obtain ⟨r0, r1, r2, r3, r4, r5, r6, r7, r8, r9, ra, rb, rc, rd, re, rf, rg, rh, _⟩ := blk18 HBb.out
 go_wp2_with fail
 refine Hs1.out.mono ?_
 rintro e w3 ⟨rfl, hb3⟩
 have HBa3 := Lib.hid (HBa.out.below hb3 (by omega)); have HBb3 := Lib.hid (HBb.out.below hb3 hg1)
 have Hk3 := Lib.hid (Hk2.out.trans (Keeps.of_below (M := []) hb3) (by simp))
 have hg3 : g + 1 < w3.heap.size := HBb3.out.lt
 clear hb3 Hs1 HBa HBb Hk2 q0 q1 q2 q3 q4 q5 q6 q7 q8 q9 qa qb qc qd qe qf qg qh r0 r1 r2 r3 r4 r5 r6 r7 r8 r9 ra rb rc rd re rf rg rh
 cases s1 with
 | false =>
  obtain rfl : R = false := by rw [HS.out]; simp
  go_wp2
  go_ret
  exact ⟨rfl, Hk3.out.below⟩
 | true =>
  have Hro := Lib.hid (hro.out w3 Hk3.out)
  clear hro
  obtain ⟨q0, q1, q2, q3, q4, q5, q6, q7, q8, q9, qa, qb, qc, qd, qe, qf, qg, qh, _⟩ := blk18 HBa3.out
  obtain ⟨r0, r1, r2, r3, r4, r5, r6, r7, r8, r9, ra, rb, rc, rd, re, rf, rg, rh, _⟩ := blk18 HBb3.out
  go_wp2_with fail
  refine Hro.out.mono ?_
  rintro e w4 ⟨rfl, hb4⟩
  have HBa4 := Lib.hid (HBa3.out.below hb4 (by omega)); have HBb4 := Lib.hid (HBb3.out.below hb4 hg3)
  have Hk4 := Lib.hid (Hk3.out.trans (Keeps.of_below (M := []) hb4) (by simp))
  clear hb4 Hro HBa3 HBb3 Hk3 q0 q1 q2 q3 q4 q5 q6 q7 q8 q9 qa qb qc qd qe qf qg qh r0 r1 r2 r3 r4 r5 r6 r7 r8 r9 ra rb rc rd re rf rg rh
  cases s2 with
  | false =>
   obtain rfl : R = false := by rw [HS.out]; simp
   go_wp2
   go_ret
   exact ⟨rfl, Hk4.out.below⟩
  | true =>
   obtain ⟨q0, q1, q2, q3, q4, q5, q6, q7, q8, q9, qa, qb, qc, qd, qe, qf, qg, qh, _⟩ := blk18 HBa4.out
   obtain ⟨r0, r1, r2, r3, r4, r5, r6, r7, r8, r9, ra, rb, rc, rd, re, rf, rg, rh, _⟩ := blk18 HBb4.out
   cases h0 : (kd == kdz) with
   | false =>
    obtain rfl : R = false := by rw [HS.out, h0]; simp
    clear HS
    go_wp2
    go_ret
    exact ⟨rfl, Hk4.out.below⟩
   | true =>
    cases h1 : (tag == tagz) with
    | false =>
     obtain rfl : R = false := by rw [HS.out, h0, h1]; simp
     clear HS
     go_wp2
     go_ret
     exact ⟨rfl, Hk4.out.below⟩
    | true =>
     cases h2 : (code == codez) with
     | false =>
      obtain rfl : R = false := by rw [HS.out, h0, h1, h2]; simp
      clear HS
      go_wp2
      go_ret
      exact ⟨rfl, Hk4.out.below⟩
     | true =>
      cases h3 : (nn == nnz) with
      | false =>
       obtain rfl : R = false := by rw [HS.out, h0, h1, h2, h3]; simp
       clear HS
       go_wp2
       go_ret
       exact ⟨rfl, Hk4.out.below⟩
      | true =>
       cases h4 : (term == termz) with
       | false =>
        obtain rfl : R = false := by rw [HS.out, h0, h1, h2, h3, h4]; simp
        clear HS
        go_wp2
        go_ret
        exact ⟨rfl, Hk4.out.below⟩
       | true =>
        cases h5 : (had == hadz) with
        | false =>
         obtain rfl : R = false := by rw [HS.out, h0, h1, h2, h3, h4, h5]; simp
         clear HS
         go_wp2
         go_ret
         exact ⟨rfl, Hk4.out.below⟩
        | true =>
         cases h6 : (commit == commitz) with
         | false =>
          obtain rfl : R = false := by rw [HS.out, h0, h1, h2, h3, h4, h5, h6]; simp
          clear HS
          go_wp2
          go_ret
          exact ⟨rfl, Hk4.out.below⟩
         | true =>
          cases h7 : (len == lenz) with
          | false =>
           obtain rfl : R = false := by rw [HS.out, h0, h1, h2, h3, h4, h5, h6, h7]; simp
           clear HS
           go_wp2
           go_ret
           exact ⟨rfl, Hk4.out.below⟩
          | true =>
           obtain rfl : R = true := by rw [HS.out, h0, h1, h2, h3, h4, h5, h6, h7]; simp
           clear HS
           go_wp2
           go_ret
           exact ⟨rfl, Hk4.out.below⟩
def zeroM : MsgD := ⟨0, zeroD, 0, 0, 0, 0, 0, [], 0, 0⟩
/-- A message without what its kind has. -/
def clearM (m : MsgD) : MsgD :=
 if m.kd = 1 then { m with kd := 0, en := zeroD }
 else if m.kd = 2 then { m with kd := 0, tag := 0, code := 0, nn := 0 }
 else if m.kd = 3 then { m with kd := 0, term := 0 }
 else if m.kd = 4 then { m with kd := 0, term := 0, had := 0, log := [] }
 else if m.kd = 5 then { m with kd := 0, term := 0, log := [], commit := 0 }
 else if m.kd = 6 then { m with kd := 0, term := 0, len := 0 }
 else { m with kd := 0 }
def zeroS (m : MsgD) : Bool := sameM (clearM m) zeroM
theorem blk_range {w : World} {g : Nat} {T : TypeId} {cs : Array Value} (h : Blk w g T cs) : w.rangeAt g 0 cs.toList := fun j v hj => by
 rw [Nat.zero_add, h.cell j]; simpa using hj
theorem wpList_load_g {P : Program} {ops : Array Oper} {rest : List Oper} {op : Oper} {a : Act} {w : World} {Q : Exit → Act → World → Prop} (hw : Region.wanted op (yielded ops a.tmps) = true) (ty : TypeId) (x : Operand) (ho : op.op = .load ty x)
  (b o : Nat) (hx : a.eval x = .pointer (some ⟨b, o, none⟩)) (cs : List Value) (d : TypeDesc) (hc : w.rangeAt b o cs)
  (hu : P.underlying ty = some d) (hd : d.isRow = true) (hi : (P.info? ty).map (·.size) = some cs.length)
  (h : wpList P ops Q rest (a.put op.dst (.agg cs.toArray)) w) : wpList P ops Q (op :: rest) a w := by
 simp only [wpList]
 rw [if_pos hw]
 exact .inl (wp_load_mid ty x ho b o hx cs d hc hu hd hi h)
theorem cnt_nil : Cnt [] := ⟨by simp, by simp⟩
set_option maxRecDepth 100000 in
set_option maxHeartbeats 2000000 in
theorem mzero_0 (m : MsgD) (dv lv : Value) (w : World) (ha : MsgAt w [] m dv lv) (ca : MCnt m) (g1 : ¬ m.kd = 1) (g2 : ¬ m.kd = 2) (g3 : ¬ m.kd = 3) (g4 : ¬ m.kd = 4) (g5 : ¬ m.kd = 5) (g6 : ¬ m.kd = 6) :
  Calls Tryz.prog 120 #[.agg (mCell m dv lv).toArray] w fun r w' => SamePost (zeroS m) w r w' := by
 have hsm := Lib.hid (fun (m' : MsgD) (d' l' : Value) W (h : MsgAt W [] m' d' l') (c : MCnt m') => msame_any m' zeroM d' l' (.slice none 0 0) (.slice none 0 0) W h ⟨Ds.nil _ _, Ens.nil _ _⟩ c ⟨by simp [zeroM, zeroD], cnt_nil⟩)
 have HZ : Hid (∀ m', m' = clearM m → sameM m' zeroM = zeroS m) := fun m' h => by subst h; rfl
 have hav := ha.avoid (M' := [w.heap.size]) (by simp)
 obtain ⟨Aa, na, rfl, _⟩ := ha.1.len
 obtain ⟨Ba, ka, rfl, _⟩ := ha.2.len
 have Hca := Lib.hid ca
 generalize zeroS m = R at *
 clear ha ca
 obtain ⟨kd, ⟨kind, ag, sh, seq, ep, ds, ser, fr, etg⟩, tag, code, nn, term, had, log, commit, len⟩ := m
 simp only [mCell, eCell, List.cons_append, List.nil_append]
 simp only [MsgAt] at hav
 generalize hdn : ds.length = dn at *
 generalize hln : log.length = ln at *
 have Hdn := Lib.hid hdn; have Hln := Lib.hid hln
 clear hdn hln
 obtain ⟨w2, hw2⟩ : ∃ w2, w2 = w.alloc (.cells #[.int .i64 kd, .int .i64 kind, .int .i64 ag, .int .i64 sh, .int .i64 seq, .int .i64 ep, .slice Aa dn na, .string ser, .int .i64 fr, .int .i64 etg, .int .i64 tag, .int .i64 code, .int .u64 nn, .int .i64 term, .int .i64 had, .slice Ba ln ka, .int .i64 commit, .int .i64 len] 59) := ⟨_, rfl⟩
 have hk2 : Keeps [] w w2 := by rw [hw2]; exact (Keeps.refl _ _).alloc _
 have hBa : Blk w2 w.heap.size 59 #[.int .i64 kd, .int .i64 kind, .int .i64 ag, .int .i64 sh, .int .i64 seq, .int .i64 ep, .slice Aa dn na, .string ser, .int .i64 fr, .int .i64 etg, .int .i64 tag, .int .i64 code, .int .u64 nn, .int .i64 term, .int .i64 had, .slice Ba ln ka, .int .i64 commit, .int .i64 len] := by rw [hw2]; exact Blk.new w _ _
 have Hw2 := Lib.hid hw2; have HBa := Lib.hid hBa; have Hk2 := Lib.hid hk2
 have Hd2 := Lib.hid (hav.1.keep hk2 (by simp)); have Hl2 := Lib.hid (hav.2.keep hk2 (by simp))
 clear hw2 hBa hk2 hav
 show Calls Tryz.prog 120 #[.agg #[.int .i64 kd, .int .i64 kind, .int .i64 ag, .int .i64 sh, .int .i64 seq, .int .i64 ep, .slice Aa dn na, .string ser, .int .i64 fr, .int .i64 etg, .int .i64 tag, .int .i64 code, .int .u64 nn, .int .i64 term, .int .i64 had, .slice Ba ln ka, .int .i64 commit, .int .i64 len]] w fun r w' => SamePost R w r w'
 go_enter Tryz.func120, Tryz.ntmps120
 go_upto_region 1 with (fail)
 rw [← Hw2.out]
 generalize hgs : w.heap.size = g at HBa Hd2 Hl2 ⊢
 have Hgs := Lib.hid hgs
 clear Hw2 hgs
 obtain ⟨q0, q1, q2, q3, q4, q5, q6, q7, q8, q9, qa, qb, qc, qd, qe, qf, qg, qh, qz⟩ := blk18 HBa.out
 simp only [] at g1 g2 g3 g4 g5 g6
 have h1 : (kd == 1) = false := by simpa using g1
 have h2 : (kd == 2) = false := by simpa using g2
 have h3 : (kd == 3) = false := by simpa using g3
 have h4 : (kd == 4) = false := by simpa using g4
 have h5 : (kd == 5) = false := by simpa using g5
 have h6 : (kd == 6) = false := by simpa using g6
 obtain ⟨w5, hw5⟩ : ∃ w5, w5 = (w2.setCell ⟨g, 0, none⟩ (.int .i64 0)) := ⟨_, rfl⟩
 have hk : Keeps [g] w2 w5 := by rw [hw5]; exact (Keeps.refl _ _).setCell (by simp) _
 have hB5 : Blk w5 g 59 #[.int .i64 0, .int .i64 kind, .int .i64 ag, .int .i64 sh, .int .i64 seq, .int .i64 ep, .slice Aa dn na, .string ser, .int .i64 fr, .int .i64 etg, .int .i64 tag, .int .i64 code, .int .u64 nn, .int .i64 term, .int .i64 had, .slice Ba ln ka, .int .i64 commit, .int .i64 len] := by rw [hw5]; exact (by simpa using (HBa.out.set_ 0 (.int .i64 0)) : Blk _ g _ _)
 have hS := hsm.out ⟨0, ⟨kind, ag, sh, seq, ep, ds, ser, fr, etg⟩, tag, code, nn, term, had, log, commit, len⟩ (.slice Aa dn na) (.slice Ba ln ka) w5 ⟨(Hd2.out.keep hk (by simp)).avoid (by simp), (Hl2.out.keep hk (by simp)).avoid (by simp)⟩ ⟨Hca.out.1, Hca.out.2⟩
 rw [HZ.out ⟨0, ⟨kind, ag, sh, seq, ep, ds, ser, fr, etg⟩, tag, code, nn, term, had, log, commit, len⟩ (by simp [clearM, *])] at hS
 simp only [mCell, eCell, zeroM, zeroD, List.cons_append, List.nil_append] at hS
 have HS := Lib.hid (show Calls Tryz.prog 175 #[.agg #[.int .i64 0, .int .i64 kind, .int .i64 ag, .int .i64 sh, .int .i64 seq, .int .i64 ep, .slice Aa dn na, .string ser, .int .i64 fr, .int .i64 etg, .int .i64 tag, .int .i64 code, .int .u64 nn, .int .i64 term, .int .i64 had, .slice Ba ln ka, .int .i64 commit, .int .i64 len], .agg #[.int .i64 0, .int .i64 0, .int .i64 0, .int .i64 0, .int .i64 0, .int .i64 0, .slice none 0 0, .string ⟨#[]⟩, .int .i64 0, .int .i64 0, .int .i64 0, .int .i64 0, .int .u64 0, .int .i64 0, .int .i64 0, .slice none 0 0, .int .i64 0, .int .i64 0]] w5 fun r w' => SamePost R w5 r w' from hS)
 have Hbw := Lib.hid (Hk2.out.trans hk (by intro x hx; simp at hx; right; have := Hgs.out; omega)).below
 have Hw5 := Lib.hid hw5; have HB5 := Lib.hid hB5
 clear hk hw5 hB5 hS hsm HZ
 go_upto_region 15 with (fail)
 rw [← Hw5.out]
 clear q0 q1 q2 q3 q4 q5 q6 q7 q8 q9 qa qb qc qd qe qf qg qh qz
 have HR := Lib.hid (blk_range HB5.out)
 go_wp2_with (refine wpList_load_mid rfl 59 (.tmp 1) rfl g 0 rfl _ _ HR.out Tryz.underlying59 rfl (by kernel_rfl) ?_)
 refine HS.out.mono ?_
 rintro e w6 ⟨rfl, hb6⟩
 have Hb6 := Lib.hid (below_then Hbw.out hb6)
 clear hb6
 go_wp2
 go_ret
 exact ⟨rfl, Hb6.out⟩
set_option maxRecDepth 100000 in
set_option maxHeartbeats 2000000 in
theorem mzero_1 (m : MsgD) (dv lv : Value) (w : World) (ha : MsgAt w [] m dv lv) (ca : MCnt m) (hk0 : m.kd = 1) :
  Calls Tryz.prog 120 #[.agg (mCell m dv lv).toArray] w fun r w' => SamePost (zeroS m) w r w' := by
 have hsm := Lib.hid (fun (m' : MsgD) (d' l' : Value) W (h : MsgAt W [] m' d' l') (c : MCnt m') => msame_any m' zeroM d' l' (.slice none 0 0) (.slice none 0 0) W h ⟨Ds.nil _ _, Ens.nil _ _⟩ c ⟨by simp [zeroM, zeroD], cnt_nil⟩)
 have HZ : Hid (∀ m', m' = clearM m → sameM m' zeroM = zeroS m) := fun m' h => by subst h; rfl
 have hav := ha.avoid (M' := [w.heap.size]) (by simp)
 obtain ⟨Aa, na, rfl, _⟩ := ha.1.len
 obtain ⟨Ba, ka, rfl, _⟩ := ha.2.len
 have Hca := Lib.hid ca
 generalize zeroS m = R at *
 clear ha ca
 obtain ⟨kd, ⟨kind, ag, sh, seq, ep, ds, ser, fr, etg⟩, tag, code, nn, term, had, log, commit, len⟩ := m
 simp only [mCell, eCell, List.cons_append, List.nil_append]
 simp only [MsgAt] at hav
 generalize hdn : ds.length = dn at *
 generalize hln : log.length = ln at *
 have Hdn := Lib.hid hdn; have Hln := Lib.hid hln
 clear hdn hln
 obtain ⟨w2, hw2⟩ : ∃ w2, w2 = w.alloc (.cells #[.int .i64 kd, .int .i64 kind, .int .i64 ag, .int .i64 sh, .int .i64 seq, .int .i64 ep, .slice Aa dn na, .string ser, .int .i64 fr, .int .i64 etg, .int .i64 tag, .int .i64 code, .int .u64 nn, .int .i64 term, .int .i64 had, .slice Ba ln ka, .int .i64 commit, .int .i64 len] 59) := ⟨_, rfl⟩
 have hk2 : Keeps [] w w2 := by rw [hw2]; exact (Keeps.refl _ _).alloc _
 have hBa : Blk w2 w.heap.size 59 #[.int .i64 kd, .int .i64 kind, .int .i64 ag, .int .i64 sh, .int .i64 seq, .int .i64 ep, .slice Aa dn na, .string ser, .int .i64 fr, .int .i64 etg, .int .i64 tag, .int .i64 code, .int .u64 nn, .int .i64 term, .int .i64 had, .slice Ba ln ka, .int .i64 commit, .int .i64 len] := by rw [hw2]; exact Blk.new w _ _
 have Hw2 := Lib.hid hw2; have HBa := Lib.hid hBa; have Hk2 := Lib.hid hk2
 have Hd2 := Lib.hid (hav.1.keep hk2 (by simp)); have Hl2 := Lib.hid (hav.2.keep hk2 (by simp))
 clear hw2 hBa hk2 hav
 show Calls Tryz.prog 120 #[.agg #[.int .i64 kd, .int .i64 kind, .int .i64 ag, .int .i64 sh, .int .i64 seq, .int .i64 ep, .slice Aa dn na, .string ser, .int .i64 fr, .int .i64 etg, .int .i64 tag, .int .i64 code, .int .u64 nn, .int .i64 term, .int .i64 had, .slice Ba ln ka, .int .i64 commit, .int .i64 len]] w fun r w' => SamePost R w r w'
 go_enter Tryz.func120, Tryz.ntmps120
 go_upto_region 1 with (fail)
 rw [← Hw2.out]
 generalize hgs : w.heap.size = g at HBa Hd2 Hl2 ⊢
 have Hgs := Lib.hid hgs
 clear Hw2 hgs
 obtain ⟨q0, q1, q2, q3, q4, q5, q6, q7, q8, q9, qa, qb, qc, qd, qe, qf, qg, qh, qz⟩ := blk18 HBa.out
 simp only [] at hk0
 subst hk0
 obtain ⟨w5, hw5⟩ : ∃ w5, w5 = ((((((((((w2.setCell ⟨g, 1, none⟩ (.int .i64 0)).setCell ⟨g, 2, none⟩ (.int .i64 0)).setCell ⟨g, 3, none⟩ (.int .i64 0)).setCell ⟨g, 4, none⟩ (.int .i64 0)).setCell ⟨g, 5, none⟩ (.int .i64 0)).setCell ⟨g, 6, none⟩ (.slice none 0 0)).setCell ⟨g, 7, none⟩ (.string ⟨#[]⟩)).setCell ⟨g, 8, none⟩ (.int .i64 0)).setCell ⟨g, 9, none⟩ (.int .i64 0)).setCell ⟨g, 0, none⟩ (.int .i64 0)) := ⟨_, rfl⟩
 have hk : Keeps [g] w2 w5 := by rw [hw5]; exact ((((((((((Keeps.refl _ _).setCell (by simp) _).setCell (by simp) _).setCell (by simp) _).setCell (by simp) _).setCell (by simp) _).setCell (by simp) _).setCell (by simp) _).setCell (by simp) _).setCell (by simp) _).setCell (by simp) _
 have hB5 : Blk w5 g 59 #[.int .i64 0, .int .i64 0, .int .i64 0, .int .i64 0, .int .i64 0, .int .i64 0, .slice none 0 0, .string ⟨#[]⟩, .int .i64 0, .int .i64 0, .int .i64 tag, .int .i64 code, .int .u64 nn, .int .i64 term, .int .i64 had, .slice Ba ln ka, .int .i64 commit, .int .i64 len] := by rw [hw5]; exact (by simpa using ((((((((((HBa.out.set_ 1 (.int .i64 0)).set_ 2 (.int .i64 0)).set_ 3 (.int .i64 0)).set_ 4 (.int .i64 0)).set_ 5 (.int .i64 0)).set_ 6 (.slice none 0 0)).set_ 7 (.string ⟨#[]⟩)).set_ 8 (.int .i64 0)).set_ 9 (.int .i64 0)).set_ 0 (.int .i64 0)) : Blk _ g _ _)
 have hS := hsm.out ⟨0, zeroD, tag, code, nn, term, had, log, commit, len⟩ (.slice none 0 0) (.slice Ba ln ka) w5 ⟨Ds.nil _ _, (Hl2.out.keep hk (by simp)).avoid (by simp)⟩ ⟨by simp [zeroD], Hca.out.2⟩
 rw [HZ.out ⟨0, zeroD, tag, code, nn, term, had, log, commit, len⟩ (by simp [clearM])] at hS
 simp only [mCell, eCell, zeroM, zeroD, List.cons_append, List.nil_append] at hS
 have HS := Lib.hid (show Calls Tryz.prog 175 #[.agg #[.int .i64 0, .int .i64 0, .int .i64 0, .int .i64 0, .int .i64 0, .int .i64 0, .slice none 0 0, .string ⟨#[]⟩, .int .i64 0, .int .i64 0, .int .i64 tag, .int .i64 code, .int .u64 nn, .int .i64 term, .int .i64 had, .slice Ba ln ka, .int .i64 commit, .int .i64 len], .agg #[.int .i64 0, .int .i64 0, .int .i64 0, .int .i64 0, .int .i64 0, .int .i64 0, .slice none 0 0, .string ⟨#[]⟩, .int .i64 0, .int .i64 0, .int .i64 0, .int .i64 0, .int .u64 0, .int .i64 0, .int .i64 0, .slice none 0 0, .int .i64 0, .int .i64 0]] w5 fun r w' => SamePost R w5 r w' from hS)
 have Hbw := Lib.hid (Hk2.out.trans hk (by intro x hx; simp at hx; right; have := Hgs.out; omega)).below
 have Hw5 := Lib.hid hw5; have HB5 := Lib.hid hB5
 clear hk hw5 hB5 hS hsm HZ
 go_upto_region 15 with (fail)
 rw [← Hw5.out]
 clear q0 q1 q2 q3 q4 q5 q6 q7 q8 q9 qa qb qc qd qe qf qg qh qz
 have HR := Lib.hid (blk_range HB5.out)
 go_wp2_with (refine wpList_load_mid rfl 59 (.tmp 1) rfl g 0 rfl _ _ HR.out Tryz.underlying59 rfl (by kernel_rfl) ?_)
 refine HS.out.mono ?_
 rintro e w6 ⟨rfl, hb6⟩
 have Hb6 := Lib.hid (below_then Hbw.out hb6)
 clear hb6
 go_wp2
 go_ret
 exact ⟨rfl, Hb6.out⟩
set_option maxRecDepth 100000 in
set_option maxHeartbeats 2000000 in
theorem mzero_2 (m : MsgD) (dv lv : Value) (w : World) (ha : MsgAt w [] m dv lv) (ca : MCnt m) (hk0 : m.kd = 2) :
  Calls Tryz.prog 120 #[.agg (mCell m dv lv).toArray] w fun r w' => SamePost (zeroS m) w r w' := by
 have hsm := Lib.hid (fun (m' : MsgD) (d' l' : Value) W (h : MsgAt W [] m' d' l') (c : MCnt m') => msame_any m' zeroM d' l' (.slice none 0 0) (.slice none 0 0) W h ⟨Ds.nil _ _, Ens.nil _ _⟩ c ⟨by simp [zeroM, zeroD], cnt_nil⟩)
 have HZ : Hid (∀ m', m' = clearM m → sameM m' zeroM = zeroS m) := fun m' h => by subst h; rfl
 have hav := ha.avoid (M' := [w.heap.size]) (by simp)
 obtain ⟨Aa, na, rfl, _⟩ := ha.1.len
 obtain ⟨Ba, ka, rfl, _⟩ := ha.2.len
 have Hca := Lib.hid ca
 generalize zeroS m = R at *
 clear ha ca
 obtain ⟨kd, ⟨kind, ag, sh, seq, ep, ds, ser, fr, etg⟩, tag, code, nn, term, had, log, commit, len⟩ := m
 simp only [mCell, eCell, List.cons_append, List.nil_append]
 simp only [MsgAt] at hav
 generalize hdn : ds.length = dn at *
 generalize hln : log.length = ln at *
 have Hdn := Lib.hid hdn; have Hln := Lib.hid hln
 clear hdn hln
 obtain ⟨w2, hw2⟩ : ∃ w2, w2 = w.alloc (.cells #[.int .i64 kd, .int .i64 kind, .int .i64 ag, .int .i64 sh, .int .i64 seq, .int .i64 ep, .slice Aa dn na, .string ser, .int .i64 fr, .int .i64 etg, .int .i64 tag, .int .i64 code, .int .u64 nn, .int .i64 term, .int .i64 had, .slice Ba ln ka, .int .i64 commit, .int .i64 len] 59) := ⟨_, rfl⟩
 have hk2 : Keeps [] w w2 := by rw [hw2]; exact (Keeps.refl _ _).alloc _
 have hBa : Blk w2 w.heap.size 59 #[.int .i64 kd, .int .i64 kind, .int .i64 ag, .int .i64 sh, .int .i64 seq, .int .i64 ep, .slice Aa dn na, .string ser, .int .i64 fr, .int .i64 etg, .int .i64 tag, .int .i64 code, .int .u64 nn, .int .i64 term, .int .i64 had, .slice Ba ln ka, .int .i64 commit, .int .i64 len] := by rw [hw2]; exact Blk.new w _ _
 have Hw2 := Lib.hid hw2; have HBa := Lib.hid hBa; have Hk2 := Lib.hid hk2
 have Hd2 := Lib.hid (hav.1.keep hk2 (by simp)); have Hl2 := Lib.hid (hav.2.keep hk2 (by simp))
 clear hw2 hBa hk2 hav
 show Calls Tryz.prog 120 #[.agg #[.int .i64 kd, .int .i64 kind, .int .i64 ag, .int .i64 sh, .int .i64 seq, .int .i64 ep, .slice Aa dn na, .string ser, .int .i64 fr, .int .i64 etg, .int .i64 tag, .int .i64 code, .int .u64 nn, .int .i64 term, .int .i64 had, .slice Ba ln ka, .int .i64 commit, .int .i64 len]] w fun r w' => SamePost R w r w'
 go_enter Tryz.func120, Tryz.ntmps120
 go_upto_region 1 with (fail)
 rw [← Hw2.out]
 generalize hgs : w.heap.size = g at HBa Hd2 Hl2 ⊢
 have Hgs := Lib.hid hgs
 clear Hw2 hgs
 obtain ⟨q0, q1, q2, q3, q4, q5, q6, q7, q8, q9, qa, qb, qc, qd, qe, qf, qg, qh, qz⟩ := blk18 HBa.out
 simp only [] at hk0
 subst hk0
 obtain ⟨w5, hw5⟩ : ∃ w5, w5 = ((((w2.setCell ⟨g, 10, none⟩ (.int .i64 0)).setCell ⟨g, 11, none⟩ (.int .i64 0)).setCell ⟨g, 12, none⟩ (.int .u64 0)).setCell ⟨g, 0, none⟩ (.int .i64 0)) := ⟨_, rfl⟩
 have hk : Keeps [g] w2 w5 := by rw [hw5]; exact ((((Keeps.refl _ _).setCell (by simp) _).setCell (by simp) _).setCell (by simp) _).setCell (by simp) _
 have hB5 : Blk w5 g 59 #[.int .i64 0, .int .i64 kind, .int .i64 ag, .int .i64 sh, .int .i64 seq, .int .i64 ep, .slice Aa dn na, .string ser, .int .i64 fr, .int .i64 etg, .int .i64 0, .int .i64 0, .int .u64 0, .int .i64 term, .int .i64 had, .slice Ba ln ka, .int .i64 commit, .int .i64 len] := by rw [hw5]; exact (by simpa using ((((HBa.out.set_ 10 (.int .i64 0)).set_ 11 (.int .i64 0)).set_ 12 (.int .u64 0)).set_ 0 (.int .i64 0)) : Blk _ g _ _)
 have hS := hsm.out ⟨0, ⟨kind, ag, sh, seq, ep, ds, ser, fr, etg⟩, 0, 0, 0, term, had, log, commit, len⟩ (.slice Aa dn na) (.slice Ba ln ka) w5 ⟨(Hd2.out.keep hk (by simp)).avoid (by simp), (Hl2.out.keep hk (by simp)).avoid (by simp)⟩ ⟨Hca.out.1, Hca.out.2⟩
 rw [HZ.out ⟨0, ⟨kind, ag, sh, seq, ep, ds, ser, fr, etg⟩, 0, 0, 0, term, had, log, commit, len⟩ (by simp [clearM])] at hS
 simp only [mCell, eCell, zeroM, zeroD, List.cons_append, List.nil_append] at hS
 have HS := Lib.hid (show Calls Tryz.prog 175 #[.agg #[.int .i64 0, .int .i64 kind, .int .i64 ag, .int .i64 sh, .int .i64 seq, .int .i64 ep, .slice Aa dn na, .string ser, .int .i64 fr, .int .i64 etg, .int .i64 0, .int .i64 0, .int .u64 0, .int .i64 term, .int .i64 had, .slice Ba ln ka, .int .i64 commit, .int .i64 len], .agg #[.int .i64 0, .int .i64 0, .int .i64 0, .int .i64 0, .int .i64 0, .int .i64 0, .slice none 0 0, .string ⟨#[]⟩, .int .i64 0, .int .i64 0, .int .i64 0, .int .i64 0, .int .u64 0, .int .i64 0, .int .i64 0, .slice none 0 0, .int .i64 0, .int .i64 0]] w5 fun r w' => SamePost R w5 r w' from hS)
 have Hbw := Lib.hid (Hk2.out.trans hk (by intro x hx; simp at hx; right; have := Hgs.out; omega)).below
 have Hw5 := Lib.hid hw5; have HB5 := Lib.hid hB5
 clear hk hw5 hB5 hS hsm HZ
 go_upto_region 15 with (fail)
 rw [← Hw5.out]
 clear q0 q1 q2 q3 q4 q5 q6 q7 q8 q9 qa qb qc qd qe qf qg qh qz
 have HR := Lib.hid (blk_range HB5.out)
 go_wp2_with (refine wpList_load_mid rfl 59 (.tmp 1) rfl g 0 rfl _ _ HR.out Tryz.underlying59 rfl (by kernel_rfl) ?_)
 refine HS.out.mono ?_
 rintro e w6 ⟨rfl, hb6⟩
 have Hb6 := Lib.hid (below_then Hbw.out hb6)
 clear hb6
 go_wp2
 go_ret
 exact ⟨rfl, Hb6.out⟩
set_option maxRecDepth 100000 in
set_option maxHeartbeats 2000000 in
theorem mzero_3 (m : MsgD) (dv lv : Value) (w : World) (ha : MsgAt w [] m dv lv) (ca : MCnt m) (hk0 : m.kd = 3) :
  Calls Tryz.prog 120 #[.agg (mCell m dv lv).toArray] w fun r w' => SamePost (zeroS m) w r w' := by
 have hsm := Lib.hid (fun (m' : MsgD) (d' l' : Value) W (h : MsgAt W [] m' d' l') (c : MCnt m') => msame_any m' zeroM d' l' (.slice none 0 0) (.slice none 0 0) W h ⟨Ds.nil _ _, Ens.nil _ _⟩ c ⟨by simp [zeroM, zeroD], cnt_nil⟩)
 have HZ : Hid (∀ m', m' = clearM m → sameM m' zeroM = zeroS m) := fun m' h => by subst h; rfl
 have hav := ha.avoid (M' := [w.heap.size]) (by simp)
 obtain ⟨Aa, na, rfl, _⟩ := ha.1.len
 obtain ⟨Ba, ka, rfl, _⟩ := ha.2.len
 have Hca := Lib.hid ca
 generalize zeroS m = R at *
 clear ha ca
 obtain ⟨kd, ⟨kind, ag, sh, seq, ep, ds, ser, fr, etg⟩, tag, code, nn, term, had, log, commit, len⟩ := m
 simp only [mCell, eCell, List.cons_append, List.nil_append]
 simp only [MsgAt] at hav
 generalize hdn : ds.length = dn at *
 generalize hln : log.length = ln at *
 have Hdn := Lib.hid hdn; have Hln := Lib.hid hln
 clear hdn hln
 obtain ⟨w2, hw2⟩ : ∃ w2, w2 = w.alloc (.cells #[.int .i64 kd, .int .i64 kind, .int .i64 ag, .int .i64 sh, .int .i64 seq, .int .i64 ep, .slice Aa dn na, .string ser, .int .i64 fr, .int .i64 etg, .int .i64 tag, .int .i64 code, .int .u64 nn, .int .i64 term, .int .i64 had, .slice Ba ln ka, .int .i64 commit, .int .i64 len] 59) := ⟨_, rfl⟩
 have hk2 : Keeps [] w w2 := by rw [hw2]; exact (Keeps.refl _ _).alloc _
 have hBa : Blk w2 w.heap.size 59 #[.int .i64 kd, .int .i64 kind, .int .i64 ag, .int .i64 sh, .int .i64 seq, .int .i64 ep, .slice Aa dn na, .string ser, .int .i64 fr, .int .i64 etg, .int .i64 tag, .int .i64 code, .int .u64 nn, .int .i64 term, .int .i64 had, .slice Ba ln ka, .int .i64 commit, .int .i64 len] := by rw [hw2]; exact Blk.new w _ _
 have Hw2 := Lib.hid hw2; have HBa := Lib.hid hBa; have Hk2 := Lib.hid hk2
 have Hd2 := Lib.hid (hav.1.keep hk2 (by simp)); have Hl2 := Lib.hid (hav.2.keep hk2 (by simp))
 clear hw2 hBa hk2 hav
 show Calls Tryz.prog 120 #[.agg #[.int .i64 kd, .int .i64 kind, .int .i64 ag, .int .i64 sh, .int .i64 seq, .int .i64 ep, .slice Aa dn na, .string ser, .int .i64 fr, .int .i64 etg, .int .i64 tag, .int .i64 code, .int .u64 nn, .int .i64 term, .int .i64 had, .slice Ba ln ka, .int .i64 commit, .int .i64 len]] w fun r w' => SamePost R w r w'
 go_enter Tryz.func120, Tryz.ntmps120
 go_upto_region 1 with (fail)
 rw [← Hw2.out]
 generalize hgs : w.heap.size = g at HBa Hd2 Hl2 ⊢
 have Hgs := Lib.hid hgs
 clear Hw2 hgs
 obtain ⟨q0, q1, q2, q3, q4, q5, q6, q7, q8, q9, qa, qb, qc, qd, qe, qf, qg, qh, qz⟩ := blk18 HBa.out
 simp only [] at hk0
 subst hk0
 obtain ⟨w5, hw5⟩ : ∃ w5, w5 = ((w2.setCell ⟨g, 13, none⟩ (.int .i64 0)).setCell ⟨g, 0, none⟩ (.int .i64 0)) := ⟨_, rfl⟩
 have hk : Keeps [g] w2 w5 := by rw [hw5]; exact ((Keeps.refl _ _).setCell (by simp) _).setCell (by simp) _
 have hB5 : Blk w5 g 59 #[.int .i64 0, .int .i64 kind, .int .i64 ag, .int .i64 sh, .int .i64 seq, .int .i64 ep, .slice Aa dn na, .string ser, .int .i64 fr, .int .i64 etg, .int .i64 tag, .int .i64 code, .int .u64 nn, .int .i64 0, .int .i64 had, .slice Ba ln ka, .int .i64 commit, .int .i64 len] := by rw [hw5]; exact (by simpa using ((HBa.out.set_ 13 (.int .i64 0)).set_ 0 (.int .i64 0)) : Blk _ g _ _)
 have hS := hsm.out ⟨0, ⟨kind, ag, sh, seq, ep, ds, ser, fr, etg⟩, tag, code, nn, 0, had, log, commit, len⟩ (.slice Aa dn na) (.slice Ba ln ka) w5 ⟨(Hd2.out.keep hk (by simp)).avoid (by simp), (Hl2.out.keep hk (by simp)).avoid (by simp)⟩ ⟨Hca.out.1, Hca.out.2⟩
 rw [HZ.out ⟨0, ⟨kind, ag, sh, seq, ep, ds, ser, fr, etg⟩, tag, code, nn, 0, had, log, commit, len⟩ (by simp [clearM])] at hS
 simp only [mCell, eCell, zeroM, zeroD, List.cons_append, List.nil_append] at hS
 have HS := Lib.hid (show Calls Tryz.prog 175 #[.agg #[.int .i64 0, .int .i64 kind, .int .i64 ag, .int .i64 sh, .int .i64 seq, .int .i64 ep, .slice Aa dn na, .string ser, .int .i64 fr, .int .i64 etg, .int .i64 tag, .int .i64 code, .int .u64 nn, .int .i64 0, .int .i64 had, .slice Ba ln ka, .int .i64 commit, .int .i64 len], .agg #[.int .i64 0, .int .i64 0, .int .i64 0, .int .i64 0, .int .i64 0, .int .i64 0, .slice none 0 0, .string ⟨#[]⟩, .int .i64 0, .int .i64 0, .int .i64 0, .int .i64 0, .int .u64 0, .int .i64 0, .int .i64 0, .slice none 0 0, .int .i64 0, .int .i64 0]] w5 fun r w' => SamePost R w5 r w' from hS)
 have Hbw := Lib.hid (Hk2.out.trans hk (by intro x hx; simp at hx; right; have := Hgs.out; omega)).below
 have Hw5 := Lib.hid hw5; have HB5 := Lib.hid hB5
 clear hk hw5 hB5 hS hsm HZ
 go_upto_region 15 with (fail)
 rw [← Hw5.out]
 clear q0 q1 q2 q3 q4 q5 q6 q7 q8 q9 qa qb qc qd qe qf qg qh qz
 have HR := Lib.hid (blk_range HB5.out)
 go_wp2_with (refine wpList_load_mid rfl 59 (.tmp 1) rfl g 0 rfl _ _ HR.out Tryz.underlying59 rfl (by kernel_rfl) ?_)
 refine HS.out.mono ?_
 rintro e w6 ⟨rfl, hb6⟩
 have Hb6 := Lib.hid (below_then Hbw.out hb6)
 clear hb6
 go_wp2
 go_ret
 exact ⟨rfl, Hb6.out⟩
set_option maxRecDepth 100000 in
set_option maxHeartbeats 2000000 in
theorem mzero_4 (m : MsgD) (dv lv : Value) (w : World) (ha : MsgAt w [] m dv lv) (ca : MCnt m) (hk0 : m.kd = 4) :
  Calls Tryz.prog 120 #[.agg (mCell m dv lv).toArray] w fun r w' => SamePost (zeroS m) w r w' := by
 have hsm := Lib.hid (fun (m' : MsgD) (d' l' : Value) W (h : MsgAt W [] m' d' l') (c : MCnt m') => msame_any m' zeroM d' l' (.slice none 0 0) (.slice none 0 0) W h ⟨Ds.nil _ _, Ens.nil _ _⟩ c ⟨by simp [zeroM, zeroD], cnt_nil⟩)
 have HZ : Hid (∀ m', m' = clearM m → sameM m' zeroM = zeroS m) := fun m' h => by subst h; rfl
 have hav := ha.avoid (M' := [w.heap.size]) (by simp)
 obtain ⟨Aa, na, rfl, _⟩ := ha.1.len
 obtain ⟨Ba, ka, rfl, _⟩ := ha.2.len
 have Hca := Lib.hid ca
 generalize zeroS m = R at *
 clear ha ca
 obtain ⟨kd, ⟨kind, ag, sh, seq, ep, ds, ser, fr, etg⟩, tag, code, nn, term, had, log, commit, len⟩ := m
 simp only [mCell, eCell, List.cons_append, List.nil_append]
 simp only [MsgAt] at hav
 generalize hdn : ds.length = dn at *
 generalize hln : log.length = ln at *
 have Hdn := Lib.hid hdn; have Hln := Lib.hid hln
 clear hdn hln
 obtain ⟨w2, hw2⟩ : ∃ w2, w2 = w.alloc (.cells #[.int .i64 kd, .int .i64 kind, .int .i64 ag, .int .i64 sh, .int .i64 seq, .int .i64 ep, .slice Aa dn na, .string ser, .int .i64 fr, .int .i64 etg, .int .i64 tag, .int .i64 code, .int .u64 nn, .int .i64 term, .int .i64 had, .slice Ba ln ka, .int .i64 commit, .int .i64 len] 59) := ⟨_, rfl⟩
 have hk2 : Keeps [] w w2 := by rw [hw2]; exact (Keeps.refl _ _).alloc _
 have hBa : Blk w2 w.heap.size 59 #[.int .i64 kd, .int .i64 kind, .int .i64 ag, .int .i64 sh, .int .i64 seq, .int .i64 ep, .slice Aa dn na, .string ser, .int .i64 fr, .int .i64 etg, .int .i64 tag, .int .i64 code, .int .u64 nn, .int .i64 term, .int .i64 had, .slice Ba ln ka, .int .i64 commit, .int .i64 len] := by rw [hw2]; exact Blk.new w _ _
 have Hw2 := Lib.hid hw2; have HBa := Lib.hid hBa; have Hk2 := Lib.hid hk2
 have Hd2 := Lib.hid (hav.1.keep hk2 (by simp)); have Hl2 := Lib.hid (hav.2.keep hk2 (by simp))
 clear hw2 hBa hk2 hav
 show Calls Tryz.prog 120 #[.agg #[.int .i64 kd, .int .i64 kind, .int .i64 ag, .int .i64 sh, .int .i64 seq, .int .i64 ep, .slice Aa dn na, .string ser, .int .i64 fr, .int .i64 etg, .int .i64 tag, .int .i64 code, .int .u64 nn, .int .i64 term, .int .i64 had, .slice Ba ln ka, .int .i64 commit, .int .i64 len]] w fun r w' => SamePost R w r w'
 go_enter Tryz.func120, Tryz.ntmps120
 go_upto_region 1 with (fail)
 rw [← Hw2.out]
 generalize hgs : w.heap.size = g at HBa Hd2 Hl2 ⊢
 have Hgs := Lib.hid hgs
 clear Hw2 hgs
 obtain ⟨q0, q1, q2, q3, q4, q5, q6, q7, q8, q9, qa, qb, qc, qd, qe, qf, qg, qh, qz⟩ := blk18 HBa.out
 simp only [] at hk0
 subst hk0
 obtain ⟨w5, hw5⟩ : ∃ w5, w5 = ((((w2.setCell ⟨g, 13, none⟩ (.int .i64 0)).setCell ⟨g, 14, none⟩ (.int .i64 0)).setCell ⟨g, 15, none⟩ (.slice none 0 0)).setCell ⟨g, 0, none⟩ (.int .i64 0)) := ⟨_, rfl⟩
 have hk : Keeps [g] w2 w5 := by rw [hw5]; exact ((((Keeps.refl _ _).setCell (by simp) _).setCell (by simp) _).setCell (by simp) _).setCell (by simp) _
 have hB5 : Blk w5 g 59 #[.int .i64 0, .int .i64 kind, .int .i64 ag, .int .i64 sh, .int .i64 seq, .int .i64 ep, .slice Aa dn na, .string ser, .int .i64 fr, .int .i64 etg, .int .i64 tag, .int .i64 code, .int .u64 nn, .int .i64 0, .int .i64 0, .slice none 0 0, .int .i64 commit, .int .i64 len] := by rw [hw5]; exact (by simpa using ((((HBa.out.set_ 13 (.int .i64 0)).set_ 14 (.int .i64 0)).set_ 15 (.slice none 0 0)).set_ 0 (.int .i64 0)) : Blk _ g _ _)
 have hS := hsm.out ⟨0, ⟨kind, ag, sh, seq, ep, ds, ser, fr, etg⟩, tag, code, nn, 0, 0, [], commit, len⟩ (.slice Aa dn na) (.slice none 0 0) w5 ⟨(Hd2.out.keep hk (by simp)).avoid (by simp), Ens.nil _ _⟩ ⟨Hca.out.1, cnt_nil⟩
 rw [HZ.out ⟨0, ⟨kind, ag, sh, seq, ep, ds, ser, fr, etg⟩, tag, code, nn, 0, 0, [], commit, len⟩ (by simp [clearM])] at hS
 simp only [mCell, eCell, zeroM, zeroD, List.cons_append, List.nil_append] at hS
 have HS := Lib.hid (show Calls Tryz.prog 175 #[.agg #[.int .i64 0, .int .i64 kind, .int .i64 ag, .int .i64 sh, .int .i64 seq, .int .i64 ep, .slice Aa dn na, .string ser, .int .i64 fr, .int .i64 etg, .int .i64 tag, .int .i64 code, .int .u64 nn, .int .i64 0, .int .i64 0, .slice none 0 0, .int .i64 commit, .int .i64 len], .agg #[.int .i64 0, .int .i64 0, .int .i64 0, .int .i64 0, .int .i64 0, .int .i64 0, .slice none 0 0, .string ⟨#[]⟩, .int .i64 0, .int .i64 0, .int .i64 0, .int .i64 0, .int .u64 0, .int .i64 0, .int .i64 0, .slice none 0 0, .int .i64 0, .int .i64 0]] w5 fun r w' => SamePost R w5 r w' from hS)
 have Hbw := Lib.hid (Hk2.out.trans hk (by intro x hx; simp at hx; right; have := Hgs.out; omega)).below
 have Hw5 := Lib.hid hw5; have HB5 := Lib.hid hB5
 clear hk hw5 hB5 hS hsm HZ
 go_upto_region 15 with (fail)
 rw [← Hw5.out]
 clear q0 q1 q2 q3 q4 q5 q6 q7 q8 q9 qa qb qc qd qe qf qg qh qz
 have HR := Lib.hid (blk_range HB5.out)
 go_wp2_with (refine wpList_load_mid rfl 59 (.tmp 1) rfl g 0 rfl _ _ HR.out Tryz.underlying59 rfl (by kernel_rfl) ?_)
 refine HS.out.mono ?_
 rintro e w6 ⟨rfl, hb6⟩
 have Hb6 := Lib.hid (below_then Hbw.out hb6)
 clear hb6
 go_wp2
 go_ret
 exact ⟨rfl, Hb6.out⟩
set_option maxRecDepth 100000 in
set_option maxHeartbeats 2000000 in
theorem mzero_5 (m : MsgD) (dv lv : Value) (w : World) (ha : MsgAt w [] m dv lv) (ca : MCnt m) (hk0 : m.kd = 5) :
  Calls Tryz.prog 120 #[.agg (mCell m dv lv).toArray] w fun r w' => SamePost (zeroS m) w r w' := by
 have hsm := Lib.hid (fun (m' : MsgD) (d' l' : Value) W (h : MsgAt W [] m' d' l') (c : MCnt m') => msame_any m' zeroM d' l' (.slice none 0 0) (.slice none 0 0) W h ⟨Ds.nil _ _, Ens.nil _ _⟩ c ⟨by simp [zeroM, zeroD], cnt_nil⟩)
 have HZ : Hid (∀ m', m' = clearM m → sameM m' zeroM = zeroS m) := fun m' h => by subst h; rfl
 have hav := ha.avoid (M' := [w.heap.size]) (by simp)
 obtain ⟨Aa, na, rfl, _⟩ := ha.1.len
 obtain ⟨Ba, ka, rfl, _⟩ := ha.2.len
 have Hca := Lib.hid ca
 generalize zeroS m = R at *
 clear ha ca
 obtain ⟨kd, ⟨kind, ag, sh, seq, ep, ds, ser, fr, etg⟩, tag, code, nn, term, had, log, commit, len⟩ := m
 simp only [mCell, eCell, List.cons_append, List.nil_append]
 simp only [MsgAt] at hav
 generalize hdn : ds.length = dn at *
 generalize hln : log.length = ln at *
 have Hdn := Lib.hid hdn; have Hln := Lib.hid hln
 clear hdn hln
 obtain ⟨w2, hw2⟩ : ∃ w2, w2 = w.alloc (.cells #[.int .i64 kd, .int .i64 kind, .int .i64 ag, .int .i64 sh, .int .i64 seq, .int .i64 ep, .slice Aa dn na, .string ser, .int .i64 fr, .int .i64 etg, .int .i64 tag, .int .i64 code, .int .u64 nn, .int .i64 term, .int .i64 had, .slice Ba ln ka, .int .i64 commit, .int .i64 len] 59) := ⟨_, rfl⟩
 have hk2 : Keeps [] w w2 := by rw [hw2]; exact (Keeps.refl _ _).alloc _
 have hBa : Blk w2 w.heap.size 59 #[.int .i64 kd, .int .i64 kind, .int .i64 ag, .int .i64 sh, .int .i64 seq, .int .i64 ep, .slice Aa dn na, .string ser, .int .i64 fr, .int .i64 etg, .int .i64 tag, .int .i64 code, .int .u64 nn, .int .i64 term, .int .i64 had, .slice Ba ln ka, .int .i64 commit, .int .i64 len] := by rw [hw2]; exact Blk.new w _ _
 have Hw2 := Lib.hid hw2; have HBa := Lib.hid hBa; have Hk2 := Lib.hid hk2
 have Hd2 := Lib.hid (hav.1.keep hk2 (by simp)); have Hl2 := Lib.hid (hav.2.keep hk2 (by simp))
 clear hw2 hBa hk2 hav
 show Calls Tryz.prog 120 #[.agg #[.int .i64 kd, .int .i64 kind, .int .i64 ag, .int .i64 sh, .int .i64 seq, .int .i64 ep, .slice Aa dn na, .string ser, .int .i64 fr, .int .i64 etg, .int .i64 tag, .int .i64 code, .int .u64 nn, .int .i64 term, .int .i64 had, .slice Ba ln ka, .int .i64 commit, .int .i64 len]] w fun r w' => SamePost R w r w'
 go_enter Tryz.func120, Tryz.ntmps120
 go_upto_region 1 with (fail)
 rw [← Hw2.out]
 generalize hgs : w.heap.size = g at HBa Hd2 Hl2 ⊢
 have Hgs := Lib.hid hgs
 clear Hw2 hgs
 obtain ⟨q0, q1, q2, q3, q4, q5, q6, q7, q8, q9, qa, qb, qc, qd, qe, qf, qg, qh, qz⟩ := blk18 HBa.out
 simp only [] at hk0
 subst hk0
 obtain ⟨w5, hw5⟩ : ∃ w5, w5 = ((((w2.setCell ⟨g, 13, none⟩ (.int .i64 0)).setCell ⟨g, 15, none⟩ (.slice none 0 0)).setCell ⟨g, 16, none⟩ (.int .i64 0)).setCell ⟨g, 0, none⟩ (.int .i64 0)) := ⟨_, rfl⟩
 have hk : Keeps [g] w2 w5 := by rw [hw5]; exact ((((Keeps.refl _ _).setCell (by simp) _).setCell (by simp) _).setCell (by simp) _).setCell (by simp) _
 have hB5 : Blk w5 g 59 #[.int .i64 0, .int .i64 kind, .int .i64 ag, .int .i64 sh, .int .i64 seq, .int .i64 ep, .slice Aa dn na, .string ser, .int .i64 fr, .int .i64 etg, .int .i64 tag, .int .i64 code, .int .u64 nn, .int .i64 0, .int .i64 had, .slice none 0 0, .int .i64 0, .int .i64 len] := by rw [hw5]; exact (by simpa using ((((HBa.out.set_ 13 (.int .i64 0)).set_ 15 (.slice none 0 0)).set_ 16 (.int .i64 0)).set_ 0 (.int .i64 0)) : Blk _ g _ _)
 have hS := hsm.out ⟨0, ⟨kind, ag, sh, seq, ep, ds, ser, fr, etg⟩, tag, code, nn, 0, had, [], 0, len⟩ (.slice Aa dn na) (.slice none 0 0) w5 ⟨(Hd2.out.keep hk (by simp)).avoid (by simp), Ens.nil _ _⟩ ⟨Hca.out.1, cnt_nil⟩
 rw [HZ.out ⟨0, ⟨kind, ag, sh, seq, ep, ds, ser, fr, etg⟩, tag, code, nn, 0, had, [], 0, len⟩ (by simp [clearM])] at hS
 simp only [mCell, eCell, zeroM, zeroD, List.cons_append, List.nil_append] at hS
 have HS := Lib.hid (show Calls Tryz.prog 175 #[.agg #[.int .i64 0, .int .i64 kind, .int .i64 ag, .int .i64 sh, .int .i64 seq, .int .i64 ep, .slice Aa dn na, .string ser, .int .i64 fr, .int .i64 etg, .int .i64 tag, .int .i64 code, .int .u64 nn, .int .i64 0, .int .i64 had, .slice none 0 0, .int .i64 0, .int .i64 len], .agg #[.int .i64 0, .int .i64 0, .int .i64 0, .int .i64 0, .int .i64 0, .int .i64 0, .slice none 0 0, .string ⟨#[]⟩, .int .i64 0, .int .i64 0, .int .i64 0, .int .i64 0, .int .u64 0, .int .i64 0, .int .i64 0, .slice none 0 0, .int .i64 0, .int .i64 0]] w5 fun r w' => SamePost R w5 r w' from hS)
 have Hbw := Lib.hid (Hk2.out.trans hk (by intro x hx; simp at hx; right; have := Hgs.out; omega)).below
 have Hw5 := Lib.hid hw5; have HB5 := Lib.hid hB5
 clear hk hw5 hB5 hS hsm HZ
 go_upto_region 15 with (fail)
 rw [← Hw5.out]
 clear q0 q1 q2 q3 q4 q5 q6 q7 q8 q9 qa qb qc qd qe qf qg qh qz
 have HR := Lib.hid (blk_range HB5.out)
 go_wp2_with (refine wpList_load_mid rfl 59 (.tmp 1) rfl g 0 rfl _ _ HR.out Tryz.underlying59 rfl (by kernel_rfl) ?_)
 refine HS.out.mono ?_
 rintro e w6 ⟨rfl, hb6⟩
 have Hb6 := Lib.hid (below_then Hbw.out hb6)
 clear hb6
 go_wp2
 go_ret
 exact ⟨rfl, Hb6.out⟩
set_option maxRecDepth 100000 in
set_option maxHeartbeats 2000000 in
theorem mzero_6 (m : MsgD) (dv lv : Value) (w : World) (ha : MsgAt w [] m dv lv) (ca : MCnt m) (hk0 : m.kd = 6) :
  Calls Tryz.prog 120 #[.agg (mCell m dv lv).toArray] w fun r w' => SamePost (zeroS m) w r w' := by
 have hsm := Lib.hid (fun (m' : MsgD) (d' l' : Value) W (h : MsgAt W [] m' d' l') (c : MCnt m') => msame_any m' zeroM d' l' (.slice none 0 0) (.slice none 0 0) W h ⟨Ds.nil _ _, Ens.nil _ _⟩ c ⟨by simp [zeroM, zeroD], cnt_nil⟩)
 have HZ : Hid (∀ m', m' = clearM m → sameM m' zeroM = zeroS m) := fun m' h => by subst h; rfl
 have hav := ha.avoid (M' := [w.heap.size]) (by simp)
 obtain ⟨Aa, na, rfl, _⟩ := ha.1.len
 obtain ⟨Ba, ka, rfl, _⟩ := ha.2.len
 have Hca := Lib.hid ca
 generalize zeroS m = R at *
 clear ha ca
 obtain ⟨kd, ⟨kind, ag, sh, seq, ep, ds, ser, fr, etg⟩, tag, code, nn, term, had, log, commit, len⟩ := m
 simp only [mCell, eCell, List.cons_append, List.nil_append]
 simp only [MsgAt] at hav
 generalize hdn : ds.length = dn at *
 generalize hln : log.length = ln at *
 have Hdn := Lib.hid hdn; have Hln := Lib.hid hln
 clear hdn hln
 obtain ⟨w2, hw2⟩ : ∃ w2, w2 = w.alloc (.cells #[.int .i64 kd, .int .i64 kind, .int .i64 ag, .int .i64 sh, .int .i64 seq, .int .i64 ep, .slice Aa dn na, .string ser, .int .i64 fr, .int .i64 etg, .int .i64 tag, .int .i64 code, .int .u64 nn, .int .i64 term, .int .i64 had, .slice Ba ln ka, .int .i64 commit, .int .i64 len] 59) := ⟨_, rfl⟩
 have hk2 : Keeps [] w w2 := by rw [hw2]; exact (Keeps.refl _ _).alloc _
 have hBa : Blk w2 w.heap.size 59 #[.int .i64 kd, .int .i64 kind, .int .i64 ag, .int .i64 sh, .int .i64 seq, .int .i64 ep, .slice Aa dn na, .string ser, .int .i64 fr, .int .i64 etg, .int .i64 tag, .int .i64 code, .int .u64 nn, .int .i64 term, .int .i64 had, .slice Ba ln ka, .int .i64 commit, .int .i64 len] := by rw [hw2]; exact Blk.new w _ _
 have Hw2 := Lib.hid hw2; have HBa := Lib.hid hBa; have Hk2 := Lib.hid hk2
 have Hd2 := Lib.hid (hav.1.keep hk2 (by simp)); have Hl2 := Lib.hid (hav.2.keep hk2 (by simp))
 clear hw2 hBa hk2 hav
 show Calls Tryz.prog 120 #[.agg #[.int .i64 kd, .int .i64 kind, .int .i64 ag, .int .i64 sh, .int .i64 seq, .int .i64 ep, .slice Aa dn na, .string ser, .int .i64 fr, .int .i64 etg, .int .i64 tag, .int .i64 code, .int .u64 nn, .int .i64 term, .int .i64 had, .slice Ba ln ka, .int .i64 commit, .int .i64 len]] w fun r w' => SamePost R w r w'
 go_enter Tryz.func120, Tryz.ntmps120
 go_upto_region 1 with (fail)
 rw [← Hw2.out]
 generalize hgs : w.heap.size = g at HBa Hd2 Hl2 ⊢
 have Hgs := Lib.hid hgs
 clear Hw2 hgs
 obtain ⟨q0, q1, q2, q3, q4, q5, q6, q7, q8, q9, qa, qb, qc, qd, qe, qf, qg, qh, qz⟩ := blk18 HBa.out
 simp only [] at hk0
 subst hk0
 obtain ⟨w5, hw5⟩ : ∃ w5, w5 = (((w2.setCell ⟨g, 13, none⟩ (.int .i64 0)).setCell ⟨g, 17, none⟩ (.int .i64 0)).setCell ⟨g, 0, none⟩ (.int .i64 0)) := ⟨_, rfl⟩
 have hk : Keeps [g] w2 w5 := by rw [hw5]; exact (((Keeps.refl _ _).setCell (by simp) _).setCell (by simp) _).setCell (by simp) _
 have hB5 : Blk w5 g 59 #[.int .i64 0, .int .i64 kind, .int .i64 ag, .int .i64 sh, .int .i64 seq, .int .i64 ep, .slice Aa dn na, .string ser, .int .i64 fr, .int .i64 etg, .int .i64 tag, .int .i64 code, .int .u64 nn, .int .i64 0, .int .i64 had, .slice Ba ln ka, .int .i64 commit, .int .i64 0] := by rw [hw5]; exact (by simpa using (((HBa.out.set_ 13 (.int .i64 0)).set_ 17 (.int .i64 0)).set_ 0 (.int .i64 0)) : Blk _ g _ _)
 have hS := hsm.out ⟨0, ⟨kind, ag, sh, seq, ep, ds, ser, fr, etg⟩, tag, code, nn, 0, had, log, commit, 0⟩ (.slice Aa dn na) (.slice Ba ln ka) w5 ⟨(Hd2.out.keep hk (by simp)).avoid (by simp), (Hl2.out.keep hk (by simp)).avoid (by simp)⟩ ⟨Hca.out.1, Hca.out.2⟩
 rw [HZ.out ⟨0, ⟨kind, ag, sh, seq, ep, ds, ser, fr, etg⟩, tag, code, nn, 0, had, log, commit, 0⟩ (by simp [clearM])] at hS
 simp only [mCell, eCell, zeroM, zeroD, List.cons_append, List.nil_append] at hS
 have HS := Lib.hid (show Calls Tryz.prog 175 #[.agg #[.int .i64 0, .int .i64 kind, .int .i64 ag, .int .i64 sh, .int .i64 seq, .int .i64 ep, .slice Aa dn na, .string ser, .int .i64 fr, .int .i64 etg, .int .i64 tag, .int .i64 code, .int .u64 nn, .int .i64 0, .int .i64 had, .slice Ba ln ka, .int .i64 commit, .int .i64 0], .agg #[.int .i64 0, .int .i64 0, .int .i64 0, .int .i64 0, .int .i64 0, .int .i64 0, .slice none 0 0, .string ⟨#[]⟩, .int .i64 0, .int .i64 0, .int .i64 0, .int .i64 0, .int .u64 0, .int .i64 0, .int .i64 0, .slice none 0 0, .int .i64 0, .int .i64 0]] w5 fun r w' => SamePost R w5 r w' from hS)
 have Hbw := Lib.hid (Hk2.out.trans hk (by intro x hx; simp at hx; right; have := Hgs.out; omega)).below
 have Hw5 := Lib.hid hw5; have HB5 := Lib.hid hB5
 clear hk hw5 hB5 hS hsm HZ
 go_upto_region 15 with (fail)
 rw [← Hw5.out]
 clear q0 q1 q2 q3 q4 q5 q6 q7 q8 q9 qa qb qc qd qe qf qg qh qz
 have HR := Lib.hid (blk_range HB5.out)
 go_wp2_with (refine wpList_load_mid rfl 59 (.tmp 1) rfl g 0 rfl _ _ HR.out Tryz.underlying59 rfl (by kernel_rfl) ?_)
 refine HS.out.mono ?_
 rintro e w6 ⟨rfl, hb6⟩
 have Hb6 := Lib.hid (below_then Hbw.out hb6)
 clear hb6
 go_wp2
 go_ret
 exact ⟨rfl, Hb6.out⟩
theorem mzero_any (m : MsgD) (dv lv : Value) (w : World) (ha : MsgAt w [] m dv lv) (ca : MCnt m) :
  Calls Tryz.prog 120 #[.agg (mCell m dv lv).toArray] w fun r w' => SamePost (zeroS m) w r w' := by
 by_cases g1 : m.kd = 1
 ·exact mzero_1 m dv lv w ha ca g1
 by_cases g2 : m.kd = 2
 ·exact mzero_2 m dv lv w ha ca g2
 by_cases g3 : m.kd = 3
 ·exact mzero_3 m dv lv w ha ca g3
 by_cases g4 : m.kd = 4
 ·exact mzero_4 m dv lv w ha ca g4
 by_cases g5 : m.kd = 5
 ·exact mzero_5 m dv lv w ha ca g5
 by_cases g6 : m.kd = 6
 ·exact mzero_6 m dv lv w ha ca g6
 exact mzero_0 m dv lv w ha ca g1 g2 g3 g4 g5 g6
def bad2 (m : MsgD) : Bool := decide (m.tag < 0) || decide (m.term < 0) || decide (m.had < 0) || decide (m.commit < 0) || decide (m.len < 0) || decide (m.code < 0) || decide (255 < m.code) || decide (128 < m.commit) || decide (128 < m.len)
/-- Why a row of entries may not be. -/
def logRight : List EntryD → Nat
 | [] => 0
 | e :: r => if rightE e = 0 then logRight r else rightE e
def mrightS (m : MsgD) : Nat :=
 if m.kd < 1 ∨ 6 < m.kd ∨ zeroS m = false then 12
 else if bad2 m = true then 1
 else if 128 < m.log.length then 3
 else if m.kd = 1 then rightE m.en else logRight m.log
/-- Its texts are short. -/
def MShort (m : MsgD) : Prop := Short m.en ∧ m.log.length ≤ 4611686018427387904 ∧ ∀ e ∈ m.log, Short e
theorem MShort.cnt {m : MsgD} (h : MShort m) : MCnt m := ⟨h.1.2.2, h.2.1, fun e he => (h.2.2 e he).2.2⟩
set_option maxRecDepth 100000 in
set_option maxHeartbeats 2000000 in
theorem mright_any (m : MsgD) (dv lv : Value) (mx : Int) (w : World) (ha : MsgAt w [] m dv lv) (hs : MShort m) (hm : w.cell? ⟨0, 0, none⟩ = some (.int .i64 mx)) :
  Calls Tryz.prog 68 #[.agg (mCell m dv lv).toArray] w fun r w' => NumPost (mrightS m) w r w' := by
 have hw0 : 0 < w.heap.size := by
  have := World.block_lt_of_cell? w _ hm
  simpa using this
 have hkeepm : Hid (∀ W, Keeps [] w W → W.cell? ⟨0, 0, none⟩ = some (.int .i64 mx)) := fun W hb => (hb.cell (p := ⟨0, 0, none⟩) hw0 (by simp)).trans hm
 have hz := Lib.hid (fun W (hk : Keeps [] w W) => mzero_any m dv lv W (ha.keep hk (by simp)) hs.cnt)
 have hri := Lib.hid (fun W (hk : Keeps [] w W) => eright_any m.en dv mx W (ha.1.keep hk (by simp)) hs.1 (hkeepm.out W hk))
 have HM : Hid (mrightS m = if m.kd < 1 ∨ 6 < m.kd ∨ zeroS m = false then 12 else if bad2 m = true then 1 else if 128 < m.log.length then 3 else if m.kd = 1 then rightE m.en else logRight m.log) := rfl
 have HB2 : Hid (bad2 m = (decide (m.tag < 0) || decide (m.term < 0) || decide (m.had < 0) || decide (m.commit < 0) || decide (m.len < 0) || decide (m.code < 0) || decide (255 < m.code) || decide (128 < m.commit) || decide (128 < m.len))) := rfl
 have Hl := Lib.hid ha.2
 have Hsl := Lib.hid hs.2.2
 have hll := hs.2.1
 obtain ⟨Aa, na, rfl, _⟩ := ha.1.len
 obtain ⟨Ba, ka, rfl, _⟩ := ha.2.len
 clear ha hs hm
 generalize mrightS m = R at *
 generalize bad2 m = b2 at *
 generalize zeroS m = z at *
 obtain ⟨kd, ⟨kind, ag, sh, seq, ep, ds, ser, fr, etg⟩, tag, code, nn, term, had, log, commit, len⟩ := m
 simp only [] at HM HB2 Hl Hsl hll hri
 simp only [mCell, eCell, List.cons_append, List.nil_append] at hz hri ⊢
 generalize rightE ⟨kind, ag, sh, seq, ep, ds, ser, fr, etg⟩ = re at *
 obtain ⟨w2, hw2⟩ : ∃ w2, w2 = w.alloc (.cells #[.int .i64 kd, .int .i64 kind, .int .i64 ag, .int .i64 sh, .int .i64 seq, .int .i64 ep, .slice Aa ds.length na, .string ser, .int .i64 fr, .int .i64 etg, .int .i64 tag, .int .i64 code, .int .u64 nn, .int .i64 term, .int .i64 had, .slice Ba log.length ka, .int .i64 commit, .int .i64 len] 59) := ⟨_, rfl⟩
 have hk2 : Keeps [] w w2 := by rw [hw2]; exact (Keeps.refl _ _).alloc _
 have hBa : Blk w2 w.heap.size 59 #[.int .i64 kd, .int .i64 kind, .int .i64 ag, .int .i64 sh, .int .i64 seq, .int .i64 ep, .slice Aa ds.length na, .string ser, .int .i64 fr, .int .i64 etg, .int .i64 tag, .int .i64 code, .int .u64 nn, .int .i64 term, .int .i64 had, .slice Ba log.length ka, .int .i64 commit, .int .i64 len] := by rw [hw2]; exact Blk.new w _ _
 have Hw2 := Lib.hid hw2; have HBa := Lib.hid hBa; have Hk2 := Lib.hid hk2
 clear hw2 hBa hk2
 show Calls Tryz.prog 68 #[.agg #[.int .i64 kd, .int .i64 kind, .int .i64 ag, .int .i64 sh, .int .i64 seq, .int .i64 ep, .slice Aa ds.length na, .string ser, .int .i64 fr, .int .i64 etg, .int .i64 tag, .int .i64 code, .int .u64 nn, .int .i64 term, .int .i64 had, .slice Ba log.length ka, .int .i64 commit, .int .i64 len]] w fun r w' => NumPost R w r w'
 go_enter Tryz.func68, Tryz.ntmps68
 go_upto_region 1 with (fail)
 rw [← Hw2.out]
 have hg2 : w.heap.size < w2.heap.size := HBa.out.lt
 generalize hgs : w.heap.size = g at HBa hg2 ⊢
 have Hgs := Lib.hid hgs
 clear Hw2 hgs
 obtain ⟨q0, q1, q2, q3, q4, q5, q6, q7, q8, q9, qa, qb, qc, qd, qe, qf, qg, qh, qz⟩ := blk18 HBa.out
 by_cases h1 : kd < 1
 ·obtain rfl : R = 12 := by rw [HM.out, if_pos (.inl h1)]
  go_wp2
  go_ret
  exact ⟨rfl, Hk2.out.below⟩
 have h1d : decide (kd < 1) = false := decide_eq_false h1
 by_cases h6 : 6 < kd
 ·obtain rfl : R = 12 := by rw [HM.out, if_pos (.inr (.inl h6))]
  go_wp2
  go_ret
  exact ⟨rfl, Hk2.out.below⟩
 have h6d : decide (6 < kd) = false := decide_eq_false h6
 have Hz2 := Lib.hid (hz.out w2 Hk2.out)
 have HR := Lib.hid (blk_range HBa.out)
 clear q0 q1 q2 q3 q4 q5 q6 q7 q8 q9 qa qb qc qd qe qf qg qh qz
 obtain ⟨q0, _⟩ := blk18 HBa.out
 go_wp2_with (refine wpList_load_g rfl 59 (.tmp 1) rfl g 0 rfl _ _ HR.out Tryz.underlying59 rfl (by kernel_rfl) ?_)
 refine Hz2.out.mono ?_
 rintro e w3 ⟨rfl, hb3⟩
 have HB3 := Lib.hid (HBa.out.below hb3 hg2)
 have Hk3 := Lib.hid (Hk2.out.trans (Keeps.of_below (M := []) hb3) (by simp))
 have hg3 : g < w3.heap.size := HB3.out.lt
 clear hb3 Hz2 hz HBa Hk2 hg2 q0
 obtain ⟨q0, q1, q2, q3, q4, q5, q6, q7, q8, q9, qa, qb, qc, qd, qe, qf, qg, qh, qz⟩ := blk18 HB3.out
 cases z with
 | false =>
  obtain rfl : R = 12 := by rw [HM.out, if_pos (.inr (.inr rfl))]
  go_wp2
  go_ret
  exact ⟨rfl, Hk3.out.below⟩
 | true =>
  have HM2 : Hid (R = if b2 = true then 1 else if 128 < log.length then 3 else if kd = 1 then re else logRight log) := by show _ = _; rw [HM.out, if_neg (by simp; omega)]
  clear HM
  go_upto_region 3 with (fail)
  go_cut [20] (fun s wx => s = .bool b2 ∧ wx = w3)
  case first =>
   clear hri Hl Hsl hkeepm HM2 hll
   cases c0 : (decide (tag < 0)) with
   | true =>
    obtain rfl : b2 = true := by rw [HB2.out, c0]; simp
    clear HB2
    go_wp2_with fail
    go_meet
    exact ⟨rfl, rfl⟩
   | false =>
    cases c1 : (decide (term < 0)) with
    | true =>
     obtain rfl : b2 = true := by rw [HB2.out, c0, c1]; simp
     clear HB2
     go_wp2_with fail
     go_meet
     exact ⟨rfl, rfl⟩
    | false =>
     cases c2 : (decide (had < 0)) with
     | true =>
      obtain rfl : b2 = true := by rw [HB2.out, c0, c1, c2]; simp
      clear HB2
      go_wp2_with fail
      go_meet
      exact ⟨rfl, rfl⟩
     | false =>
      cases c3 : (decide (commit < 0)) with
      | true =>
       obtain rfl : b2 = true := by rw [HB2.out, c0, c1, c2, c3]; simp
       clear HB2
       go_wp2_with fail
       go_meet
       exact ⟨rfl, rfl⟩
      | false =>
       cases c4 : (decide (len < 0)) with
       | true =>
        obtain rfl : b2 = true := by rw [HB2.out, c0, c1, c2, c3, c4]; simp
        clear HB2
        go_wp2_with fail
        go_meet
        exact ⟨rfl, rfl⟩
       | false =>
        cases c5 : (decide (code < 0)) with
        | true =>
         obtain rfl : b2 = true := by rw [HB2.out, c0, c1, c2, c3, c4, c5]; simp
         clear HB2
         go_wp2_with fail
         go_meet
         exact ⟨rfl, rfl⟩
        | false =>
         cases c6 : (decide (255 < code)) with
         | true =>
          obtain rfl : b2 = true := by rw [HB2.out, c0, c1, c2, c3, c4, c5, c6]; simp
          clear HB2
          go_wp2_with fail
          go_meet
          exact ⟨rfl, rfl⟩
         | false =>
          cases c7 : (decide (128 < commit)) with
          | true =>
           obtain rfl : b2 = true := by rw [HB2.out, c0, c1, c2, c3, c4, c5, c6, c7]; simp
           clear HB2
           go_wp2_with fail
           go_meet
           exact ⟨rfl, rfl⟩
          | false =>
           cases c8 : (decide (128 < len)) with
           | true =>
            obtain rfl : b2 = true := by rw [HB2.out, c0, c1, c2, c3, c4, c5, c6, c7, c8]; simp
            clear HB2
            go_wp2_with fail
            go_meet
            exact ⟨rfl, rfl⟩
           | false =>
            obtain rfl : b2 = false := by rw [HB2.out, c0, c1, c2, c3, c4, c5, c6, c7, c8]; rfl
            clear HB2
            go_wp2_with fail
            go_meet
            exact ⟨rfl, rfl⟩
  case rest =>
   obtain ⟨rfl, rfl⟩ := hcut
   clear HB2
   cases b2 with
   | true =>
    obtain rfl : R = 1 := by rw [HM2.out, if_pos rfl]
    go_wp2
    go_ret
    exact ⟨rfl, Hk3.out.below⟩
   | false =>
    by_cases hL : 128 < log.length
    ·obtain rfl : R = 3 := by rw [HM2.out, if_neg (by simp), if_pos hL]
     have hLi : (128 : Int) < (log.length : Int) := by omega
     clear HM2
     go_wp2
     go_ret
     exact ⟨rfl, Hk3.out.below⟩
    ·have hLi : decide ((128 : Int) < (log.length : Int)) = false := decide_eq_false (by omega)
     have HM3 : Hid (R = if kd = 1 then re else logRight log) := by show _ = _; rw [HM2.out, if_neg (by simp), if_neg hL]
     clear HM2
     by_cases hk1 : kd = 1
     ·obtain rfl : R = re := by rw [HM3.out, if_pos hk1]
      have hkd : (kd == 1) = true := by simpa using hk1
      have Hr := Lib.hid (hri.out wc Hk3.out)
      clear HM3 hk1 hri
      go_wp2_with fail
      refine Hr.out.mono ?_
      rintro e w4 ⟨rfl, hb4⟩
      have Hb4 := Lib.hid (below_then Hk3.out.below hb4)
      clear hb4
      go_wp2
      go_ret
      exact ⟨rfl, Hb4.out⟩
     ·have hkd : (kd == 1) = false := by simpa using hk1
      have HM4 : Hid (R = logRight (log.drop 0)) := by show _ = _; rw [HM3.out, if_neg hk1]; rfl
      clear HM3 hk1 hri
      go_wp2_with fail
      go_loopw [79] (fun i wr => ∃ x : Nat, i = .int .i64 x ∧ x ≤ log.length ∧ Hid (R = logRight (log.drop x)) ∧ Hid (Keeps [] w wr)) (fun i _ => log.length - (intOf i).toNat)
      case atStart => exact ⟨0, rfl, by omega, HM4, Hk3.out⟩
      case round =>
       obtain ⟨x, rfl, hx, HR, Hkr⟩ := hrel
       by_cases hlt : x < log.length
       ·have hx1 : (x : Int) < (log.length : Int) := by omega
        have HR2 : Hid (R = if rightE log[x] = 0 then logRight (log.drop (x + 1)) else rightE log[x]) := by show _ = _; rw [HR.out, List.drop_eq_getElem_cons hlt]; rfl
        obtain ⟨gl, ol, _, dl, e1, _, _, hDl, hcl⟩ := ens_at (Hl.out.keep Hkr.out (by simp)) hlt
        injection e1 with e1 _ e9
        subst e1
        clear e9
        have hre := Lib.hid (fun W (hk : Keeps [] wr W) => eright_any log[x] dl mx W (hDl.keep hk (by simp)) (Hsl.out _ (List.getElem_mem _)) (hkeepm.out W (Hkr.out.trans hk (by simp))))
        obtain ⟨Dl, nl, rfl, _⟩ := hDl.len
        have a0 := hcl 0 _ rfl; have a1 := hcl 1 _ rfl; have a2 := hcl 2 _ rfl; have a3 := hcl 3 _ rfl; have a4 := hcl 4 _ rfl; have a5 := hcl 5 _ rfl; have a6 := hcl 6 _ rfl; have a7 := hcl 7 _ rfl; have a8 := hcl 8 _ rfl
        rw [Nat.add_zero] at a0
        clear hcl hDl q0 q1 q2 q3 q4 q5 q6 q7 q8 q9 qa qb qc qd qe qf qg qh qz
        generalize log[x] = ee at *
        generalize rightE ee = rr at *
        obtain ⟨kind', ag', sh', seq', ep', ds', ser', fr', etg'⟩ := ee
        simp only [eCell] at hre
        simp only [] at a0 a1 a2 a3 a4 a5 a6 a7 a8
        have Hre := Lib.hid (hre.out (wr.alloc (.cells #[.int .i64 kind', .int .i64 ag', .int .i64 sh', .int .i64 seq', .int .i64 ep', .slice Dl ds'.length nl, .string ser', .int .i64 fr', .int .i64 etg'] 33)) ((Keeps.refl _ _).alloc _))
        have Hka := Lib.hid (Hkr.out.alloc (.cells #[.int .i64 kind', .int .i64 ag', .int .i64 sh', .int .i64 seq', .int .i64 ep', .slice Dl ds'.length nl, .string ser', .int .i64 fr', .int .i64 etg'] 33))
        clear hre
        go_wp2_with fail
        refine Hre.out.mono ?_
        rintro e w4 ⟨rfl, hb4⟩
        have Hk4 := Lib.hid (Hka.out.trans (Keeps.of_below (M := []) hb4) (by simp))
        clear hb4 Hre Hka a0 a1 a2 a3 a4 a5 a6 a7 a8
        by_cases hrr : rr = 0
        ·have HR3 : Hid (R = logRight (log.drop (x + 1))) := by show _ = _; rw [HR2.out, if_pos hrr]
         have hrn : ((rr : Int) != 0) = false := by simp [hrr]
         clear HR2 hrr
         go_wp2
         go_roundw
         case rel => exact ⟨x + 1, by go_num, by omega, HR3, Hk4⟩
         case measure => simp [intOf] <;> omega
        ·obtain rfl : R = rr := by rw [HR2.out, if_neg hrr]
         have hrn : ((R : Int) != 0) = true := by simpa using hrr
         clear HR2 hrr
         go_wp2
         go_ret
         exact ⟨rfl, Hk4.out.below⟩
       ·obtain rfl : x = log.length := by omega
        obtain rfl : R = 0 := by rw [HR.out, List.drop_length]; rfl
        go_wp2
        go_ret
        exact ⟨rfl, Hkr.out.below⟩
structure MOk (m : MsgD) : Prop where
 k1 : 1 ≤ m.kd
 k6 : m.kd ≤ 6
 zero : zeroS m = true
 tag0 : 0 ≤ m.tag
 term0 : 0 ≤ m.term
 had0 : 0 ≤ m.had
 com0 : 0 ≤ m.commit
 len0 : 0 ≤ m.len
 code0 : 0 ≤ m.code
 code1 : m.code ≤ 255
 com1 : m.commit ≤ 128
 len1 : m.len ≤ 128
 logl : m.log.length ≤ 128
 ask : m.kd = 1 → rightE m.en = 0
 logs : m.kd ≠ 1 → ∀ e ∈ m.log, rightE e = 0

end Go.Proofs.YtgdooockldgdlaaGreatDoor.Vi
end
section
namespace Go.Proofs.YtgdooockldgdlaaGreatDoor.Vi
open Go.RowKit Base Mem
def setAll : Array Value → Nat → List Value → Array Value
 | cs, _, [] => cs
 | cs, o, v :: r => setAll (cs.setIfInBounds o v) (o + 1) r
theorem setAll_list : ∀ (vs : List Value) (o : Nat) (cs : Array Value), o + vs.length ≤ cs.size → (setAll cs o vs).toList = cs.toList.take o ++ (vs ++ cs.toList.drop (o + vs.length))
 | [], o, cs, _ => by simp [setAll]
 | v :: r, o, cs, h => by
  have hl : o < cs.toList.length := by simp at h ⊢; omega
  rw [setAll, setAll_list r (o + 1) _ (by simp at h ⊢; omega), Array.toList_setIfInBounds, List.drop_set_of_lt (by omega), List.take_add_one, List.take_set_of_le (Nat.le_refl _), List.getElem?_set_self hl]
  rw [List.append_assoc, List.length_cons, Nat.add_comm r.length 1, ← Nat.add_assoc]
  rfl
theorem blk_setCells {g : Nat} {t : TypeId} : ∀ (vs : List Value) (o : Nat) (w : World) (cs : Array Value), Blk w g t cs → Blk (w.setCells g o vs) g t (setAll cs o vs)
 | [], _, _, _, h => h
 | v :: r, o, _, _, h => blk_setCells r (o + 1) _ _ (h.set_ o v)
theorem keeps_setCells {M : List Nat} {a : World} {g : Nat} (hg : g ∈ M ∨ a.heap.size ≤ g) : ∀ (vs : List Value) (o : Nat) (w : World), Keeps M a w → Keeps M a (w.setCells g o vs)
 | [], _, _, h => h
 | v :: r, o, _, h => keeps_setCells hg r (o + 1) _ (h.setCell hg v)
theorem there_blk {w : World} {g : Nat} {t : TypeId} {cs : Array Value} (h : Blk w g t cs) {o n : Nat} (hn : o + n ≤ cs.size) : w.there g o n := fun j hj =>
 ⟨by rw [h.cell, Array.getElem?_eq_getElem (by omega)]; rfl, h.frozen _⟩
theorem wpList_store_blk {P : Program} {ops : Array Oper} {rest : List Oper} {op : Oper} {a : Act} {w : World} {Q : Exit → Act → World → Prop} (hgd : op.guard = none) (ty : TypeId) (x y : Operand) (ho : op.op = .store ty x y)
  (g o : Nat) (T : TypeId) (c0 c1 cells : Array Value) (hx : a.eval x = .pointer (some ⟨g, o, none⟩)) (hy : a.eval y = .agg cells)
  (hB : Blk w g T c0) (hn : o + cells.size ≤ c0.size) (hc : c1.toList = c0.toList.take o ++ (cells.toList ++ c0.toList.drop (o + cells.toList.length))) (hi : (P.info? ty).map (·.size) = some cells.size) (h1 : cells.toList.all (·.oneCell') = true)
  (h : ∀ w', Keeps [g] w w' → Blk w' g T c1 → wpList P ops Q rest (a.put op.dst undef) w') : wpList P ops Q (op :: rest) a w :=
 wpList_store_mid hgd ty x y ho g o cells hx hy (there_blk hB hn) hi (by rw [← Array.all_toList]; exact h1) (h _ (keeps_setCells (by simp) _ _ _ (Keeps.refl _ _)) (by have := blk_setCells cells.toList o _ _ hB; rwa [show setAll c0 o cells.toList = c1 from Array.toList_inj.1 ((setAll_list _ _ _ (by simpa using hn)).trans hc.symm)] at this))
theorem results_cell1 {P : Program} {fn : Func} {t : Tmp} {ty : TypeId} (h : fn.results = #[.cell t ty]) (tmps : Array Value) (w : World) (g : Nat) (T : TypeId) (cs : Array Value) (d : TypeDesc)
  (ht : tmps.getD t undef = .pointer (some ⟨g, 0, none⟩)) (hB : Blk w g T cs) (hu : P.underlying ty = some d) (hd : d.isRow = true) (hi : (P.info? ty).map (·.size) = some cs.size) :
  (results fn tmps).run P w = .ok (.agg cs) w := by
 have hl := run_loadVar_mid (P := P) w g 0 ty cs.toList d (blk_range hB) hu hd (by simpa using hi)
 have ht' : tmps[t]?.getD undef = .pointer (some ⟨g, 0, none⟩) := by simpa using ht
 simp [results, h, ht', asAddr, hl]
theorem results_cell2 {P : Program} {fn : Func} {t u : Tmp} {ty : TypeId} (h : fn.results = #[.cell t ty, .tmp u]) (tmps : Array Value) (w : World) (g : Nat) (T : TypeId) (cs : Array Value) (d : TypeDesc)
  (ht : tmps.getD t undef = .pointer (some ⟨g, 0, none⟩)) (hB : Blk w g T cs) (hu : P.underlying ty = some d) (hd : d.isRow = true) (hi : (P.info? ty).map (·.size) = some cs.size) :
  (results fn tmps).run P w = .ok (.tuple #[.agg cs, tmps.getD u undef]) w := by
 have hl := run_loadVar_mid (P := P) w g 0 ty cs.toList d (blk_range hB) hu hd (by simpa using hi)
 have ht' : tmps[t]?.getD undef = .pointer (some ⟨g, 0, none⟩) := by simpa using ht
 simp [results, h, ht', asAddr, hl]
end Go.Proofs.YtgdooockldgdlaaGreatDoor.Vi
end
section
namespace Go.Proofs.YtgdooockldgdlaaGreatDoor.Tape
open Go.RowKit Base Mem

end Go.Proofs.YtgdooockldgdlaaGreatDoor.Tape
end
section
namespace Go.Proofs.YtgdooockldgdlaaGreatDoor.Vi
open Go.RowKit Base Mem Tape Go.Shelf
def zero18 : Array Value := #[.int .i64 0, .int .i64 0, .int .i64 0, .int .i64 0, .int .i64 0, .int .i64 0, .slice none 0 0, .string ⟨#[]⟩, .int .i64 0, .int .i64 0, .int .i64 0, .int .i64 0, .int .u64 0, .int .i64 0, .int .i64 0, .slice none 0 0, .int .i64 0, .int .i64 0]
structure StM (w0 w : World) (b : Nat) (L : TapeL) (k g0 g1 : Nat) (c1 : Array Value) : Prop where
 tape : TapeAt w b L k
 keeps : Keeps [b] w0 w
 b0 : Blk w g0 59 zero18
 b1 : Blk w g1 59 c1
 lt0 : b < g0
 lt1 : g0 < g1
 old : w0.heap.size ≤ g0
theorem StM.keep {w0 w w' : World} {b : Nat} {L : TapeL} {k k' g0 g1 : Nat} {c1 : Array Value} (h : StM w0 w b L k g0 g1 c1) (hT : TapeAt w' b L k') (hk : Keeps [b] w w') : StM w0 w' b L k' g0 g1 c1 := by
 have := h.lt0; have := h.lt1; have := h.old
 exact ⟨hT, h.keeps.trans hk (by simp), hk.blk h.b0 (by simp; omega), hk.blk h.b1 (by simp; omega), h.lt0, h.lt1, h.old⟩
theorem StM.in1 {w0 w w' : World} {b : Nat} {L : TapeL} {k g0 g1 : Nat} {c1 c2 : Array Value} (h : StM w0 w b L k g0 g1 c1) (hk : Keeps [g1] w w') (hB : Blk w' g1 59 c2) : StM w0 w' b L k g0 g1 c2 := by
 have := h.lt0; have := h.lt1; have := h.old
 exact ⟨h.tape.keep hk (by intro g hg; simp at hg; omega), h.keeps.trans hk (by intro g hg; simp at hg; right; omega), hk.blk h.b0 (by simp; omega), hB, h.lt0, h.lt1, h.old⟩
theorem StM.set {w0 w : World} {b : Nat} {L : TapeL} {k g0 g1 : Nat} {c1 : Array Value} (h : StM w0 w b L k g0 g1 c1) (i : Nat) (v : Value) : StM w0 (w.setCell ⟨g1, i, none⟩ v) b L k g0 g1 (c1.setIfInBounds i v) :=
 h.in1 ((Keeps.refl _ _).setCell (by simp) v) (h.b1.set_ i v)
/-- Behind stores into the message's own block. -/
theorem MsgAt.in1 {w w' : World} {g1 : Nat} {m : MsgD} {dv lv : Value} (h : ∀ M, (∀ g ∈ M, g ≤ g1) → MsgAt w M m dv lv) (hk : Keeps [g1] w w') : ∀ M, (∀ g ∈ M, g ≤ g1) → MsgAt w' M m dv lv := fun M hM =>
 ((h (g1 :: M) (by intro g hg; rcases List.mem_cons.1 hg with rfl | hg; omega; exact hM g hg)).keep hk (by simp)).avoid (fun g hg => .inl (List.mem_cons_of_mem _ hg))
end Go.Proofs.YtgdooockldgdlaaGreatDoor.Vi
end
section
namespace Go.Proofs.YtgdooockldgdlaaGreatDoor.Vi
open Go.RowKit Base Mem Go.Shelf

def zeroR : Array Value := #[.int .i64 0, .int .i64 0, .int .i64 0, .int .i64 0, .int .i64 0, .int .i64 0, .slice none 0 0, .string ⟨#[]⟩, .int .i64 0, .int .i64 0, .int .i64 0, .int .i64 0, .int .u64 0, .int .i64 0, .int .i64 0, .slice none 0 0, .int .i64 0, .int .i64 0]
structure RmAt (w0 w : World) (p g0 g6 : Nat) (c : Array Value) : Prop where
 keeps : Keeps [p] w0 w
 b0 : Blk w g0 59 zeroR
 b6 : Blk w g6 59 c
 o0 : w0.heap.size ≤ g0
 o1 : g0 < g6
 op : p < g0
theorem RmAt.step {w0 w w' : World} {p g0 g6 : Nat} {c : Array Value} (h : RmAt w0 w p g0 g6 c) (hk : Keeps [p] w w') : RmAt w0 w' p g0 g6 c := by
 have := h.o0; have := h.o1; have := h.op
 exact ⟨h.keeps.trans hk (by simp), hk.blk h.b0 (by simp; omega), hk.blk h.b6 (by simp; omega), h.o0, h.o1, h.op⟩
theorem RmAt.in6 {w0 w w' : World} {p g0 g6 : Nat} {c c' : Array Value} (h : RmAt w0 w p g0 g6 c) (hk : Keeps [g6] w w') (hB : Blk w' g6 59 c') : RmAt w0 w' p g0 g6 c' := by
 have := h.o0; have := h.o1; have := h.op
 exact ⟨h.keeps.trans hk (by intro g hg; simp at hg; right; omega), hk.blk h.b0 (by simp; omega), hB, h.o0, h.o1, h.op⟩
theorem RmAt.set {w0 w : World} {p g0 g6 : Nat} {c : Array Value} (h : RmAt w0 w p g0 g6 c) (i : Nat) (v : Value) : RmAt w0 (w.setCell ⟨g6, i, none⟩ v) p g0 g6 (c.setIfInBounds i v) :=
 h.in6 ((Keeps.refl _ _).setCell (by simp) v) (h.b6.set_ i v)

end Go.Proofs.YtgdooockldgdlaaGreatDoor.Vi
end
section
namespace Go.Proofs.YtgdooockldgdlaaGreatDoor.Vi
open Go.RowKit Base Mem Tape Go.Shelf


theorem readF_bd {l x : List UInt8} {n : Nat} (h : readF l = some (x, n)) : 5 ≤ n ∧ n ≤ l.length ∧ x.length ≤ 65536 ∧ x.length ≤ n := by
 unfold readF at h
 have h0 := (getL_le l).1
 split at h
 ·cases h
 ·rename_i hc
  split at h
  ·injection h with h
   injection h with h1 h2
   subst h1 h2
   rw [List.length_take, List.length_drop]
   omega
  ·cases h
theorem scanF_step {f : Nat} {l : List UInt8} (h : l.length ≤ f) : scanF f l = match readF l with
  | none => ([], 0)
  | some (x, n) => (x :: (scanF (f - 1) (l.drop n)).1, n + (scanF (f - 1) (l.drop n)).2) := by
 cases f with
 | zero =>
  cases hr : readF l with
  | none => rfl
  | some p =>
   obtain ⟨x, n⟩ := p
   have := readF_bd hr
   omega
 | succ f => rfl
/-- All frames from the front on, and their bytes. -/
def scanS (l : List UInt8) : List (List UInt8) × Nat := scanF l.length l
theorem scanF_bd : ∀ (f : Nat) (l : List UInt8), (scanF f l).2 ≤ l.length ∧ (∀ x ∈ (scanF f l).1, x.length ≤ 65536) ∧ (scanF f l).1.length * 5 ≤ l.length
 | 0, l => by simp [scanF]
 | f + 1, l => by
  rw [scanF]
  cases hr : readF l with
  | none => simp
  | some p =>
   obtain ⟨x, n⟩ := p
   obtain ⟨h1, h2, h3, h4⟩ := readF_bd hr
   obtain ⟨a, b, c⟩ := scanF_bd f (l.drop n)
   rw [List.length_drop] at a c
   refine ⟨by simp only []; omega, fun y hy => ?_, by simp only [List.length_cons]; omega⟩
   rcases List.mem_cons.1 hy with rfl | hy
   ·exact h3
   ·exact b y hy
theorem scanS_bd (l : List UInt8) : (scanS l).2 ≤ l.length ∧ (∀ x ∈ (scanS l).1, x.length ≤ 65536) ∧ (scanS l).1.length * 5 ≤ l.length := scanF_bd _ _
theorem readF_nil : readF [] = none := by decide
theorem frames_len (rs : List (List UInt8)) : rs.length ≤ (rs.flatMap frameL).length := by
 induction rs with
 | nil => simp
 | cons x rs ih => rw [List.flatMap_cons, List.length_append, List.length_cons, frameL_len]; omega
/-- A replica's word. -/
structure WordD where
 t : Nat
 h : Nat
 log : List EntryD
end Go.Proofs.YtgdooockldgdlaaGreatDoor.Vi
end
section
namespace Go.Proofs.YtgdooockldgdlaaGreatDoor.Vi
open Go.RowKit Base Mem
theorem rdOwn_one {w w1 w2 : World} {out v' dv : Value} {o : Obj} {size n : Nat} {xs : List Value}
  (h : ∀ M', (∀ g ∈ M', g < w.heap.size ∨ out.ownBlock = some g) → Rd w1 M' size dv n xs)
  (hg : (w1.alloc o).grownBy w2 out.ownBlock) (hat : v'.ownBlock = out.ownBlock ∨ v'.ownBlock = some (w1.heap.size + 1)) (M' : List Nat) (hM : ∀ g ∈ M', g < w.heap.size ∨ v'.ownBlock = some g) : Rd w2 M' size dv n xs := by
 have h1 := h (out.ownBlock.toList ++ M'.filter (fun g => decide (g < w.heap.size))) (by
  intro g hg
  rcases List.mem_append.1 hg with h1 | h1
  ·right; simpa using h1
  ·left; simpa using (List.mem_filter.1 h1).2)
 have h2 : Rd (w1.alloc o) (out.ownBlock.toList ++ M'.filter (fun g => decide (g < w.heap.size))) size dv n xs := h1.keep (M' := []) ((Keeps.refl _ _).alloc o) (by simp)
 have h3 : Rd (w1.alloc o) (out.ownBlock.toList ++ M') size dv n xs := h2.avoid (by
  intro g hg
  rcases List.mem_append.1 hg with h1 | h1
  ·exact .inl (List.mem_append_left _ h1)
  ·rcases hM g h1 with h4 | h4
   ·exact .inl (List.mem_append_right _ (List.mem_filter.2 ⟨h1, by simpa using h4⟩))
   ·rcases hat with h5 | h5
    ·exact .inl (List.mem_append_left _ (by rw [h5] at h4; simpa using h4))
    ·rw [h5] at h4; injection h4 with h4; right; simp; omega)
 have h4 : Keeps out.ownBlock.toList (w1.alloc o) w2 := (Keeps.refl _ _).grown hg (fun g hg => .inl (by simpa using hg))
 exact (h3.keep h4 (fun g hg => .inl (List.mem_append_left _ hg))).avoid (fun g hg => .inl (List.mem_append_right _ hg))
/-- The rows that a row of the call's own holds lie in blocks that are neither old nor the row's. -/
def BsOwn (w wr : World) (out : Value) (qs : List (List UInt8 × Value)) : Prop := ∀ q ∈ qs, ∀ M', (∀ g ∈ M', g < w.heap.size ∨ out.ownBlock = some g) → Bs wr M' q.2 q.1
theorem bsOwn_step {w wr w1 w2 : World} {out v' dv' : Value} {o : Obj} {qs : List (List UInt8 × Value)} {e : List UInt8} (hds : BsOwn w wr out qs) (hb1 : Below wr.heap.size wr w1) (hlt : ∀ g, out.ownBlock = some g → g < wr.heap.size) (hw : w.heap.size ≤ wr.heap.size)
  (hnew : ∀ M', (∀ g ∈ M', g < wr.heap.size) → Bs w1 M' dv' e)
  (hg : (w1.alloc o).grownBy w2 out.ownBlock) (hat : v'.ownBlock = out.ownBlock ∨ v'.ownBlock = some (w1.heap.size + 1)) : BsOwn w w2 v' (qs ++ [(e, dv')]) := by
 intro q hq M' hM
 rcases List.mem_append.1 hq with h1 | h1
 ·exact rdOwn_one (fun M'' hM'' => Rd.keep (M' := []) (hds q h1 M'' hM'') (Keeps.of_below hb1) (by simp)) hg hat M' hM
 ·simp at h1
  subst h1
  exact rdOwn_one (fun M'' hM'' => hnew M'' (fun g hg => by rcases hM'' g hg with h | h; omega; exact hlt g h)) hg hat M' hM
/-- v reads as these rows of bytes. -/
def Bss (w : World) (M : List Nat) (v : Value) (rs : List (List UInt8)) : Prop :=
 ∃ qs : List (List UInt8 × Value), qs.map (·.1) = rs ∧ Rd w M 1 v qs.length (qs.map (·.2)) ∧ ∀ q ∈ qs, Bs w M q.2 q.1
theorem Bss.keep {w w' : World} {M M' : List Nat} {v : Value} {rs : List (List UInt8)} (h : Bss w M v rs) (k : Keeps M' w w') (hM : ∀ g ∈ M', g ∈ M ∨ w.heap.size ≤ g) : Bss w' M v rs := by
 obtain ⟨ps, hl, hr, hd⟩ := h
 exact ⟨ps, hl, hr.keep k hM, fun p hp => (hd p hp).keep k hM⟩
theorem Bss.len {w : World} {M : List Nat} {v : Value} {rs : List (List UInt8)} (h : Bss w M v rs) : ∃ A c, v = .slice A rs.length c ∧ rs.length ≤ c := by
 obtain ⟨ps, rfl, ⟨A, c, rfl, hc, _⟩, _⟩ := h
 exact ⟨A, c, by simp, by simpa using hc⟩
theorem Bss.at_ {w : World} {M : List Nat} {v : Value} {rs : List (List UInt8)} (h : Bss w M v rs) {k : Nat} (hk : k < rs.length) :
  ∃ g off cap bv, v = .slice (some ⟨g, off, none⟩) rs.length cap ∧ g < w.heap.size ∧ g ∉ M ∧ w.cell? ⟨g, off + k, none⟩ = some bv ∧ Bs w M bv rs[k] := by
 obtain ⟨ps, rfl, ⟨A, c, rfl, hc, _, hr⟩, hd⟩ := h
 have hk' : k < ps.length := by simpa using hk
 obtain ⟨g, off, rfl, hg, hm, hx⟩ := hr (by omega)
 exact ⟨g, off, c, ps[k].2, by simp, hg, hm, hx k _ (by rw [List.getElem?_map, List.getElem?_eq_getElem hk']; rfl), by simpa using hd ps[k] (List.getElem_mem _)⟩
theorem Bs.tail {w : World} {M : List Nat} {A : Option Addr} {c : Nat} {l : List UInt8} (h : Bs w M (.slice A l.length c) l) (a : Nat) (ha : a ≤ l.length) : Bs w M (.slice (if c = a then A else A.map (·.add a)) (l.length - a) (c - a)) (l.drop a) := by
 obtain ⟨A', c', e, hcc, hl, hr⟩ := h
 injection e with e1 _ e3
 subst e1 e3
 show Rd _ _ _ _ (l.drop a).length _
 rw [List.length_drop]
 refine ⟨_, c - a, rfl, by omega, by simp, fun hn => ?_⟩
 obtain ⟨g, off, rfl, hg, hm, hx⟩ := hr (by omega)
 rw [if_neg (by omega)]
 refine ⟨g, off + a, by simp [addr_add], hg, hm, fun j u hu => ?_⟩
 rw [Nat.add_assoc]
 refine hx (a + j) u ?_
 rw [List.getElem?_map] at hu ⊢
 rw [List.getElem?_drop] at hu
 exact hu
def ScPost (R : List (List UInt8) × Nat) (w : World) (e : Ending) (w' : World) : Prop :=
 ∃ v, e = .returned (.tuple #[v, .int .i64 R.2]) ∧ (∀ M, (∀ g ∈ M, g < w.heap.size) → Bss w' M v R.1) ∧ Below w.heap.size w w'
theorem infoB : (Tryz.prog.info? 84).map (fun i => (i.zero, i.size, i.bytes)) = some (some (.slice none 0 0), 1, 24) := by kernel_rfl
set_option maxRecDepth 100000 in
set_option maxHeartbeats 1000000 in
theorem scan_any (v : Value) (l : List UInt8) (w : World) (h : Bs w [] v l) (hl : l.length ≤ 100000000) :
  Calls Tryz.prog 100 #[v] w fun e w' => ScPost (scanS l) w e w' := by
 obtain ⟨i0, hi0, hz0, hz1, hz2⟩ := info_parts infoB
 have Hi0 := Lib.hid hi0; have Hz0 := Lib.hid hz0; have Hz1 := Lib.hid hz1; have Hz2 := Lib.hid hz2
 have H := Lib.hid h
 obtain ⟨A, c, rfl, hc⟩ := h.len
 have HS : Hid (scanS l = scanF l.length l) := rfl
 clear h hi0 hz0 hz1 hz2
 generalize scanS l = R at *
 obtain ⟨rs, rn⟩ := R
 go_enter Tryz.func100, Tryz.ntmps100
 go_wp2_with fail
 go_loopw [4, 5] (fun out ai wr => ∃ (a f : Nat) (qs : List (List UInt8 × Value)), ai = .int .i64 a ∧ a ≤ l.length ∧ l.length - a ≤ f ∧ qs.length * 5 ≤ a ∧ Hid ((rs, rn) = (qs.map (·.1) ++ (scanF f (l.drop a)).1, a + (scanF f (l.drop a)).2)) ∧ Hid (wr.ownsRow w.heap.size 84 1 out qs.length (qs.map (·.2))) ∧ Hid (BsOwn w wr out qs) ∧ Hid (Below w.heap.size w wr)) (fun _ ai _ => l.length - (intOf ai).toNat)
 case atStart => exact ⟨0, l.length, [], rfl, by omega, by omega, by simp, (by show _ = _; rw [HS.out]; simp), World.ownsRow_nil _ _ _ _, (show BsOwn _ _ _ _ from by intro q hq; cases hq), Below.refl _ _⟩
 case round =>
  obtain ⟨a, f, qs, rfl, ha, hf, hq5, HR, Hown, Hds, Hb⟩ := hrel
  have hai : (a : Int) ≤ (l.length : Int) := by omega
  have hstep := scanF_step (f := f) (l := l.drop a) (by rw [List.length_drop]; exact hf)
  have HBr := Lib.hid (H.out.keep (Keeps.of_below (M := []) Hb.out) (by simp))
  have hdl : (l.drop a).length = l.length - a := List.length_drop
  have HBn : Hid (¬ c = a → Bs wr [] (.slice (A.map (·.add a)) (l.length - a) (c - a)) (l.drop a)) := fun hn => by
   have := HBr.out.tail a ha
   rwa [if_neg hn] at this
  have HBe : Hid (c = a → Bs wr [] (.slice A (l.length - a) 0) (l.drop a)) := fun he => by
   have := HBr.out.tail a ha
   rwa [if_pos he, he, Nat.sub_self] at this
  have hf2 : Hid (∀ v, Bs wr [] v (l.drop a) → Calls Tryz.prog 155 #[v] wr fun e w' => FrRead (l.drop a) wr e w') := fun v hv => framer_any v (l.drop a) wr hv (by omega)
  have hac : (a : Int) ≤ (c : Int) := by omega
  have hbd := Lib.hid (fun x n (h : readF (l.drop a) = some (x, n)) => readF_bd h)
  rw [hdl] at hbd
  have HSt := Lib.hid hstep
  clear hstep HBr hdl
  have HF : Hid (∀ e W, FrRead (l.drop a) wr e W → (readF (l.drop a) = none ∧ e = .returned (.tuple #[.slice none 0 0, .int .i64 0, .bool false]) ∧ Below wr.heap.size wr W) ∨ (∃ x n, readF (l.drop a) = some (x, n) ∧ ∃ A c, e = .returned (.tuple #[.slice A x.length c, .int .i64 n, .bool true]) ∧ (∀ M, (∀ g ∈ M, g < wr.heap.size) → Bs W M (.slice A x.length c) x) ∧ Below wr.heap.size wr W)) := fun e W h => by
   unfold FrRead at h
   cases hr : readF (l.drop a) with
   | none => rw [hr] at h; exact .inl ⟨rfl, h⟩
   | some p => obtain ⟨x, n⟩ := p; rw [hr] at h; exact .inr ⟨x, n, rfl, h⟩
  go_wp2_with fail
  ·refine Calls.mono (by first | exact hf2.out _ (HBn.out (by assumption)) | exact hf2.out _ (HBe.out (by assumption)) | exact hf2.out _ (HBe.out rfl)) ?_
   intro e w3 hpost
   rcases HF.out _ _ hpost with ⟨hr, rfl, hb3⟩ | ⟨x, n, hr, A3, c3, rfl, hB3, hb3⟩
   ·have hp : Hid (ScPost (rs, rn) w (.returned (.tuple #[u4, .int .i64 a])) w3) := by
     have h1 := HSt.out
     rw [hr] at h1
     simp only [] at h1
     have h2 := HR.out
     rw [h1] at h2
     simp only [List.append_nil, Nat.add_zero] at h2
     rw [h2]
     refine ⟨u4, rfl, fun M hM => ⟨qs, rfl, ?_, fun q hq => (Hds.out q hq M (fun g hg => .inl (hM g hg))).keep (Keeps.of_below (M := []) hb3) (by simp)⟩, below_then Hb.out hb3⟩
     exact (Rd.of_own Hown.out hM).keep (Keeps.of_below (M := []) hb3) (by simp)
    clear hb3 hpost
    obtain ⟨Ao, co, e0⟩ : ∃ Ao co, u4 = .slice Ao qs.length co := by
     rcases Hown.out.2 with ⟨h, h'⟩ | ⟨g, cap, cur, h, _⟩
     ·exact ⟨none, 0, by rw [h, h']⟩
     ·exact ⟨_, _, h⟩
    subst e0
    go_wp2
    go_ret2
    exact hp.out
   ·obtain ⟨h5, hnl, hx6, hxn⟩ := hbd.out x n hr
    exfalso; omega
  ·refine Calls.mono (by first | exact hf2.out _ (HBn.out (by assumption)) | exact hf2.out _ (HBe.out (by assumption)) | exact hf2.out _ (HBe.out rfl)) ?_
   intro e w3 hpost
   rcases HF.out _ _ hpost with ⟨hr, rfl, hb3⟩ | ⟨x, n, hr, A3, c3, rfl, hB3, hb3⟩
   ·have hp : Hid (ScPost (rs, rn) w (.returned (.tuple #[u4, .int .i64 a])) w3) := by
     have h1 := HSt.out
     rw [hr] at h1
     simp only [] at h1
     have h2 := HR.out
     rw [h1] at h2
     simp only [List.append_nil, Nat.add_zero] at h2
     rw [h2]
     refine ⟨u4, rfl, fun M hM => ⟨qs, rfl, ?_, fun q hq => (Hds.out q hq M (fun g hg => .inl (hM g hg))).keep (Keeps.of_below (M := []) hb3) (by simp)⟩, below_then Hb.out hb3⟩
     exact (Rd.of_own Hown.out hM).keep (Keeps.of_below (M := []) hb3) (by simp)
    clear hb3 hpost
    obtain ⟨Ao, co, e0⟩ : ∃ Ao co, u4 = .slice Ao qs.length co := by
     rcases Hown.out.2 with ⟨h, h'⟩ | ⟨g, cap, cur, h, _⟩
     ·exact ⟨none, 0, by rw [h, h']⟩
     ·exact ⟨_, _, h⟩
    subst e0
    go_wp2
    go_ret2
    exact hp.out
   ·obtain ⟨h5, hnl, hx6, hxn⟩ := hbd.out x n hr
    have hown1 := Lib.hid ((own_below Hown.out hb3).alloc (.cells #[.slice A3 x.length c3] 84))
    have HB3 := Lib.hid hB3; have Hb3 := Lib.hid hb3
    clear hb3 hB3 hpost
    have hq6 : qs.length ≤ 20000000 := by omega
    simp only []
    go_wp2_with (at_builtin; refine wpList_append_any _ rfl (.tmp 21) (.tmp 23) _ rfl w.heap.size 84 i0 _ 1 24 Tryz.underlying109 Hi0.out Hz0.out Hz1.out Hz2.out rfl (by omega) u4 qs.length (qs.map (·.2)) rfl hown1.out (w3.heap.size + 1) (some ⟨w3.heap.size, 0, none⟩) 1 1 [.slice A3 x.length c3] rfl (reads_new _ _ _ _ _ rfl) ?_ ?_ ?_ ?_ ?_)
    ·intro u hu; simp at hu; subst hu; rfl
    ·unfold maxLen; omega
    ·omega
    ·have := Hb.out.size; have := Hb3.out.size; simp; omega
    ·intro v2 w2 hown2 hg2 hat2
     have hlt0 : ∀ g, u4.ownBlock = some g → w.heap.size ≤ g ∧ g < wr.heap.size := Hown.out.lt
     have R1 := Lib.hid (bsOwn_step (e := x) Hds.out Hb3.out (fun g hg => (hlt0 g hg).2) Hb.out.size HB3.out hg2 hat2)
     have R2 := Lib.hid (below_step Hb.out Hb3.out hg2 (fun g hg => (hlt0 g hg).1))
     have R3 : Hid (w2.ownsRow w.heap.size 84 1 v2 (qs ++ [(x, Value.slice A3 x.length c3)]).length ((qs ++ [(x, Value.slice A3 x.length c3)]).map (·.2))) := by
      show World.ownsRow _ _ _ _ _ _ _
      rw [List.map_append, List.length_append]
      simpa using hown2
     have R4 : Hid ((rs, rn) = ((qs ++ [(x, Value.slice A3 x.length c3)]).map (·.1) ++ (scanF (f - 1) (l.drop (a + n))).1, (a + n) + (scanF (f - 1) (l.drop (a + n))).2)) := by
      show _ = _
      have h1 := HSt.out
      rw [hr] at h1
      simp only [List.drop_drop] at h1
      rw [HR.out, h1]
      simp [Nat.add_assoc]
     clear hown2 hg2 hat2 hlt0 hown1 HB3
     go_wp2
     go_roundw
     case rel => exact ⟨a + n, f - 1, qs ++ [(x, .slice A3 x.length c3)], by go_num, by omega, by omega, by simp; omega, R4, R3, R1, R2.out⟩
     case measure => simp [intOf] <;> omega
end Go.Proofs.YtgdooockldgdlaaGreatDoor.Vi
end
