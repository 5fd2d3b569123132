/- The walk of hopperlaw4.EntryBack. -/
import Derived.Test.YtinnifhnabncfaaDoorEntE
import Derived.Test.YtinnifhnabncfaaDoorRSame
import Derived.Deep.RegionHeld3
namespace Go.Proofs.YtinnifhnabncfaaDoor.Vi
open Go.RowKit Base Mem Tape Go.Shelf
/-- A slice of numbers that came in. -/
def Nums (w : World) (A : Option Addr) (c : Nat) (l : List Int) : Prop := l.length ≤ c ∧ c ≤ 9223372036854775807 ∧ (0 < l.length → ∃ g off, A = some ⟨g, off, none⟩ ∧ g < w.heap.size ∧ ∀ (j : Nat) (x : Int), l[j]? = some x → w.cell? ⟨g, off + j, none⟩ = some (.int .i64 x))
theorem tape_new {w w1 : World} {A : Option Addr} {c : Nat} {l : List Int} (h : Nums w A c l) (hb : Below w.heap.size w w1) :
    TapeAt (w1.alloc (.cells #[.slice A l.length c, .int .i64 0] 30)) w1.heap.size ⟨l, w.heap.size⟩ 0 := by
  obtain ⟨h1, h2, h3⟩ := h
  refine ⟨Nat.zero_le _, Nat.le_trans h1 h2, hb.size, A, c, Blk.new w1 _ _, h1, fun h0 => ?_⟩
  obtain ⟨g, off, e, hg, hx⟩ := h3 h0
  exact ⟨g, off, e, hg, fun j x hj => ((below_new hb _).cell (p := ⟨g, off + j, none⟩) hg).trans (hx j x hj)⟩
/-- A tape's entry, made new. -/
def TEnt (w : World) (e : Ending) (w' : World) : Prop := ∃ (en : EntryD) (dv : Value), e = .returned (.agg (eCell (en, dv)).toArray) ∧ EntryOk en ∧ (∀ M, (∀ g ∈ M, g < w.heap.size) → Ds w' M dv en.ds) ∧ Below w.heap.size w w'
theorem tent_any {w w1 : World} {A : Option Addr} {c : Nat} {l : List Int} (h : Nums w A c l) (hb : Below w.heap.size w w1) :
    Calls Tryd.prog 7 #[.pointer (some ⟨w1.heap.size, 0, none⟩)] (w1.alloc (.cells #[.slice A l.length c, .int .i64 0] 30)) fun e w' => TEnt w1 e w' := by
  refine (entry_any w1.heap.size ⟨l, w.heap.size⟩ 0 _ (tape_new h hb)).mono ?_
  rintro e w' ⟨en, dv, k', rfl, hok, hD, _, hk⟩
  exact ⟨en, dv, rfl, hok, fun M hM => hD M (fun g hg => by have := hM g hg; simp; omega), (((Keeps.refl (M := []) w1).alloc _).trans hk (by intro g hg; simp at hg; right; omega)).below⟩
theorem bdrew {B : Nat} {a w : World} (h : Below B a w) : Below B a w.drew := ⟨h.os, h.tape, h.output, h.size, h.block⟩
theorem bthen {a b b' c : World} (h : Below a.heap.size a b) (k : Below b'.heap.size b' c) (hbb : b'.heap = b.heap ∧ b'.os = b.os ∧ b'.tape = b.tape ∧ b'.output = b.output := by first | exact ⟨rfl, rfl, rfl, rfl⟩) : Below a.heap.size a c := by
  obtain ⟨h1, h2, h3, h4⟩ := hbb
  exact ⟨k.os.trans (h2.trans h.os), k.tape.trans (h3.trans h.tape), k.output.trans (h4.trans h.output), Nat.le_trans h.size (by have := k.size; rw [h1] at this; exact this), fun g hg => by
    have := k.block g (by rw [h1]; exact Nat.lt_of_lt_of_le hg h.size)
    rw [this, h1]; exact h.block g hg⟩
theorem entry_ds8 {e : EntryD} (h : EntryOk e) : e.ds.length ≤ 8 := by
  obtain ⟨_, _, _, _, ⟨_, _, _, _, _, _, h⟩ | ⟨_, _, _, _, _, _, _, _, _, _, _, h, _⟩⟩ := h
  · rw [h]; simp
  · omega
set_option maxRecDepth 100000 in
set_option maxHeartbeats 1000000 in
theorem back_walk (Aa : Option Addr) (ca : Nat) (la : List Int) (Ab : Option Addr) (cb : Nat) (lb : List Int) (m : Int) (w : World) (ha : Nums w Aa ca la) (hb : Nums w Ab cb lb) (hm : w.cell? ⟨0, 0, none⟩ = some (.int .i64 m)) :
    Calls Tryd.prog 3 #[.slice Aa la.length ca, .slice Ab lb.length cb] w fun e w' => SamePost true w e w' := by
  have hw0 : 0 < w.heap.size := by
    have := World.block_lt_of_cell? w _ hm
    simpa using this
  have hkeepm : Hid (∀ W, Below w.heap.size w W → W.cell? ⟨0, 0, none⟩ = some (.int .i64 m)) := fun W hb => (hb.cell (p := ⟨0, 0, none⟩) hw0).trans hm
  have Ha := Lib.hid ha; have Hb := Lib.hid hb
  clear ha hb hm
  go_enter Tryd.func3, Tryd.ntmps3
  go_wp2_with fail
  refine (tent_any Ha.out (Below.refl _ w)).mono ?_
  rintro e w1 ⟨x, xv, rfl, hx, hxD, hb1⟩
  have Hx := Lib.hid hx; have HxD := Lib.hid hxD; have Hb1 := Lib.hid hb1
  clear hx hxD hb1
  go_wp2_with fail
  refine (tent_any Hb.out Hb1.out).mono ?_
  rintro e w2 ⟨y, yv, rfl, hy, hyD, hb2⟩
  have Hy := Lib.hid hy; have HyD := Lib.hid (hyD [] (by simp)); have Hb2 := Lib.hid (below_then Hb1.out hb2)
  have HxD2 := Lib.hid ((HxD.out [] (by simp)).keep (Keeps.of_below (M := []) hb2) (by simp))
  clear hy hyD hb2 HxD
  obtain ⟨Ax, cx, rfl, _⟩ := HxD2.out.len
  obtain ⟨Ay, cy, rfl, _⟩ := HyD.out.len
  have hrx := Lib.hid (entry_right Hx.out); have hry := Lib.hid (entry_right Hy.out)
  have hlx := Lib.hid (bytesE_len Hx.out); have hly := Lib.hid (bytesE_len Hy.out)
  have hbs := Lib.hid (bytes_same hrx.out.1 hry.out.1 hrx.out.2.2 hry.out.2.2 hrx.out.2.1 hry.out.2.1)
  have hrd := Lib.hid (read_bytes x hrx.out.1 hrx.out.2.2 hrx.out.2.1)
  obtain ⟨xk, xag, xsh, xsq, xep, xds, xse, xfr, xtg⟩ := x
  obtain ⟨yk, yag, ysh, ysq, yep, yds, yse, yfr, ytg⟩ := y
  simp only [] at HxD2 HyD
  obtain ⟨ex, hex⟩ : ∃ ex : EntryD, ex = ⟨xk, xag, xsh, xsq, xep, xds, xse, xfr, xtg⟩ := ⟨_, rfl⟩
  obtain ⟨ey, hey⟩ : ∃ ey : EntryD, ey = ⟨yk, yag, ysh, ysq, yep, yds, yse, yfr, ytg⟩ := ⟨_, rfl⟩
  rw [← hex] at hrx hlx hbs hrd
  rw [← hey] at hry hly hbs
  have Hex := Lib.hid hex; have Hey := Lib.hid hey
  have hds8 : Hid (xds.length ≤ 8 ∧ yds.length ≤ 8) := ⟨entry_ds8 Hx.out, entry_ds8 Hy.out⟩
  simp only [eCell]
  obtain ⟨w3, hw3⟩ : ∃ w3, w3 = (w2.alloc (.cells #[.int .i64 xk, .int .i64 xag, .int .i64 xsh, .int .i64 xsq, .int .i64 xep, .slice Ax xds.length cx, .string xse, .int .i64 xfr, .int .i64 xtg] 27)).alloc (.cells #[.int .i64 yk, .int .i64 yag, .int .i64 ysh, .int .i64 ysq, .int .i64 yep, .slice Ay yds.length cy, .string yse, .int .i64 yfr, .int .i64 ytg] 27) := ⟨_, rfl⟩
  have hk3 : Keeps [] w2 w3 := by rw [hw3]; exact ((Keeps.refl _ _).alloc _).alloc _
  have hBx : Blk w3 w2.heap.size 27 #[.int .i64 xk, .int .i64 xag, .int .i64 xsh, .int .i64 xsq, .int .i64 xep, .slice Ax xds.length cx, .string xse, .int .i64 xfr, .int .i64 xtg] := by rw [hw3]; exact (Blk.new w2 _ _).below (below_new' _ _) (by simp)
  have hBy : Blk w3 (w2.heap.size + 1) 27 #[.int .i64 yk, .int .i64 yag, .int .i64 ysh, .int .i64 ysq, .int .i64 yep, .slice Ay yds.length cy, .string yse, .int .i64 yfr, .int .i64 ytg] := by
    have := Blk.new (w2.alloc (.cells #[.int .i64 xk, .int .i64 xag, .int .i64 xsh, .int .i64 xsq, .int .i64 xep, .slice Ax xds.length cx, .string xse, .int .i64 xfr, .int .i64 xtg] 27)) 27 #[.int .i64 yk, .int .i64 yag, .int .i64 ysh, .int .i64 ysq, .int .i64 yep, .slice Ay yds.length cy, .string yse, .int .i64 yfr, .int .i64 ytg]
    rw [hw3]; simpa using this
  have HDx := Lib.hid (HxD2.out.keep hk3 (by simp)); have HDy := Lib.hid (HyD.out.keep hk3 (by simp)); have Hb3 := Lib.hid ((Keeps.of_below (M := []) Hb2.out).trans hk3 (by simp)).below
  have HBx := Lib.hid hBx; have HBy := Lib.hid hBy; have Hw3 := Lib.hid hw3
  clear hk3 hBx hBy hw3 HxD2 HyD Hb2 Hb1 Ha Hb hex hey Hx Hy
  go_upto_region 2 with (fail)
  rw [← Hw3.out]
  generalize w2.heap.size = gx at *
  have hgx : gx + 1 < w3.heap.size := HBy.out.lt
  clear Hw3
  obtain ⟨q0, q1, q2, q3, q4, q5, q6, q7, q8, qf⟩ := blk9 HBx.out
  have H1 : Hid (Calls Tryd.prog 8 #[.agg #[.int .i64 xk, .int .i64 xag, .int .i64 xsh, .int .i64 xsq, .int .i64 xep, .slice Ax xds.length cx, .string xse, .int .i64 xfr, .int .i64 xtg]] w3 fun r w' => EB0 (bytesE ex) w3 r w') := by
    have := ebytes_ok ex (.slice Ax xds.length cx) m w3 hrx.out.1 (by rw [Hex.out]; exact HDx.out) hrx.out.2.1 hrx.out.2.2 (hkeepm.out _ Hb3.out)
    rwa [show (eCell (ex, Value.slice Ax xds.length cx)).toArray = #[.int .i64 xk, .int .i64 xag, .int .i64 xsh, .int .i64 xsq, .int .i64 xep, .slice Ax xds.length cx, .string xse, .int .i64 xfr, .int .i64 xtg] by rw [Hex.out]; rfl] at this
  have H2 : Hid (∀ W, Ds W [] (.slice Ay yds.length cy) yds → W.cell? ⟨0, 0, none⟩ = some (.int .i64 m) → Calls Tryd.prog 8 #[.agg #[.int .i64 yk, .int .i64 yag, .int .i64 ysh, .int .i64 ysq, .int .i64 yep, .slice Ay yds.length cy, .string yse, .int .i64 yfr, .int .i64 ytg]] W fun r w' => EB0 (bytesE ey) W r w') := fun W hD hmW => by
    have := ebytes_ok ey (.slice Ay yds.length cy) m W hry.out.1 (by rw [Hey.out]; exact hD) hry.out.2.1 hry.out.2.2 hmW
    rwa [show (eCell (ey, Value.slice Ay yds.length cy)).toArray = #[.int .i64 yk, .int .i64 yag, .int .i64 ysh, .int .i64 ysq, .int .i64 yep, .slice Ay yds.length cy, .string yse, .int .i64 yfr, .int .i64 ytg] by rw [Hey.out]; rfl] at this
  have H3 : Hid (∀ W v, Bs W [] v (bytesE ex) → W.cell? ⟨0, 0, none⟩ = some (.int .i64 m) → Calls Tryd.prog 9 #[v] W fun r w' => ReadPost (ex, 0) W r w') := fun W v hB hmW => by
    have := eread_any v (bytesE ex) m W hB (by have := hlx.out; omega) hmW
    rwa [hrd.out] at this
  have H4 : Hid (∀ W va vb, Ds W [] va xds → Ds W [] vb xds → Calls Tryd.prog 10 #[.agg #[.int .i64 xk, .int .i64 xag, .int .i64 xsh, .int .i64 xsq, .int .i64 xep, va, .string xse, .int .i64 xfr, .int .i64 xtg], .agg #[.int .i64 xk, .int .i64 xag, .int .i64 xsh, .int .i64 xsq, .int .i64 xep, vb, .string xse, .int .i64 xfr, .int .i64 xtg]] W fun r w' => r = .returned (.bool true) ∧ Below W.heap.size W w') := fun W va vb h1 h2 =>
    rsame_eq va vb ⟨xk, xag, xsh, xsq, xep, xds, xse, xfr, xtg⟩ W h1 h2 (by have := hds8.out; simp only []; omega)
  have H5 : Hid (∀ W, Ds W [] (.slice Ax xds.length cx) xds → Ds W [] (.slice Ay yds.length cy) yds → Calls Tryd.prog 11 #[.agg #[.int .i64 xk, .int .i64 xag, .int .i64 xsh, .int .i64 xsq, .int .i64 xep, .slice Ax xds.length cx, .string xse, .int .i64 xfr, .int .i64 xtg], .agg #[.int .i64 yk, .int .i64 yag, .int .i64 ysh, .int .i64 ysq, .int .i64 yep, .slice Ay yds.length cy, .string yse, .int .i64 yfr, .int .i64 ytg]] W fun r w' => SamePost (sameE ex ey) W r w') := fun W h1 h2 => by
    have := same_any ⟨xk, xag, xsh, xsq, xep, xds, xse, xfr, xtg⟩ ⟨yk, yag, ysh, ysq, yep, yds, yse, yfr, ytg⟩ (.slice Ax xds.length cx) (.slice Ay yds.length cy) W h1 h2 (by have := hds8.out; simp only []; omega) (by have := hds8.out; simp only []; omega)
    rw [← Hex.out, ← Hey.out] at this
    rw [Hex.out, Hey.out] at this ⊢
    exact this
  have hcmp : Hid (((⟨(bytesE ex).toArray⟩ : ByteArray).toList == (⟨(bytesE ey).toArray⟩ : ByteArray).toList) = sameE ex ey) := by
    show _ = _
    rw [Lib.toList_data, Lib.toList_data, Bool.eq_iff_iff, ← hbs.out, beq_iff_eq]
  generalize bytesE ex = bx at *
  generalize bytesE ey = bz at *
  generalize sameE ex ey = sm at *
  clear hrx hry hbs hrd Hey hds8
  go_wp2_with fail
  refine H1.out.mono ?_
  rintro e w4 ⟨A4, rfl, hS4, hb4⟩
  have HS4 := Lib.hid (hS4 [] (by simp)); have Hb4 := Lib.hid (below_then Hb3.out hb4)
  have HBx4 := Lib.hid (HBx.out.below hb4 (by omega)); have HBy4 := Lib.hid (HBy.out.below hb4 hgx)
  have HDx4 := Lib.hid (HDx.out.keep (Keeps.of_below (M := []) hb4) (by simp)); have HDy4 := Lib.hid (HDy.out.keep (Keeps.of_below (M := []) hb4) (by simp))
  have hg4 : gx + 1 < w4.heap.size := HBy4.out.lt
  clear hS4 hb4 H1 q0 q1 q2 q3 q4 q5 q6 q7 q8 qf HBx HBy HDx HDy Hb3 hgx
  obtain ⟨q0, q1, q2, q3, q4, q5, q6, q7, q8, qf⟩ := blk9 HBy4.out
  have h2 := Lib.hid (H2.out w4 HDy4.out (hkeepm.out _ Hb4.out))
  clear H2
  go_wp2_with fail
  refine h2.out.mono ?_
  rintro e w5 ⟨A5, rfl, hS5, hb5⟩
  have HS5 := Lib.hid (hS5 [] (by simp)); have HS4b := Lib.hid (HS4.out.keep (Keeps.of_below (M := []) hb5) (by simp)); have Hb5 := Lib.hid (below_then Hb4.out hb5)
  have HBx5 := Lib.hid (HBx4.out.below hb5 (by omega)); have HBy5 := Lib.hid (HBy4.out.below hb5 hg4)
  have HDx5 := Lib.hid (HDx4.out.keep (Keeps.of_below (M := []) hb5) (by simp)); have HDy5 := Lib.hid (HDy4.out.keep (Keeps.of_below (M := []) hb5) (by simp))
  have hg5 : gx + 1 < w5.heap.size := HBy5.out.lt
  clear hS5 hb5 h2 q0 q1 q2 q3 q4 q5 q6 q7 q8 qf HBx4 HBy4 HDx4 HDy4 Hb4 hg4 HS4
  have h3 := Lib.hid (H3.out w5 _ HS4b.out (hkeepm.out _ Hb5.out))
  clear H3
  go_wp2_with fail
  refine h3.out.mono ?_
  rintro e w6 ⟨dz, rfl, hDz, hb6⟩
  rw [Hex.out] at hDz ⊢
  obtain ⟨Az, cz, rfl, _⟩ := (hDz [] (by simp)).len
  simp only [eCell]
  have hk7 : Keeps [] w5 (w6.alloc (.cells #[.int .i64 xk, .int .i64 xag, .int .i64 xsh, .int .i64 xsq, .int .i64 xep, .slice Az xds.length cz, .string xse, .int .i64 xfr, .int .i64 xtg] 27)) := (Keeps.of_below hb6).alloc _
  have HBz := Lib.hid (Blk.new w6 27 #[.int .i64 xk, .int .i64 xag, .int .i64 xsh, .int .i64 xsq, .int .i64 xep, .slice Az xds.length cz, .string xse, .int .i64 xfr, .int .i64 xtg])
  have HDz := Lib.hid ((hDz [] (by simp)).keep (M' := []) ((Keeps.refl _ _).alloc (.cells #[.int .i64 xk, .int .i64 xag, .int .i64 xsh, .int .i64 xsq, .int .i64 xep, .slice Az xds.length cz, .string xse, .int .i64 xfr, .int .i64 xtg] 27)) (by simp))
  obtain ⟨w7, hw7⟩ : ∃ w7, w7 = w6.alloc (.cells #[.int .i64 xk, .int .i64 xag, .int .i64 xsh, .int .i64 xsq, .int .i64 xep, .slice Az xds.length cz, .string xse, .int .i64 xfr, .int .i64 xtg] 27) := ⟨_, rfl⟩
  rw [← hw7] at hk7 HBz HDz
  have Hw7 := Lib.hid hw7
  have HS4 := Lib.hid (HS4b.out.keep hk7 (by simp)); have HS5b := Lib.hid (HS5.out.keep hk7 (by simp))
  have HBx := Lib.hid (hk7.blk HBx5.out (by simp)); have HBy := Lib.hid (hk7.blk HBy5.out (by simp))
  have HDx := Lib.hid (HDx5.out.keep hk7 (by simp)); have HDy := Lib.hid (HDy5.out.keep hk7 (by simp))
  have Hb7 := Lib.hid ((Keeps.of_below (M := []) Hb5.out).trans hk7 (by simp)).below
  clear hk7 hw7 hDz hb6 h3 HBx5 HBy5 HDx5 HDy5 Hb5 hg5 HS5 HS4b Hex
  go_upto_region 5 with (fail)
  rw [← Hw7.out]
  generalize w6.heap.size = gz at *
  clear Hw7
  obtain ⟨q0, q1, q2, q3, q4, q5, q6, q7, q8, qf⟩ := blk9 HBx.out
  obtain ⟨r0, r1, r2, r3, r4, r5, r6, r7, r8, rf⟩ := blk9 HBy.out
  obtain ⟨s0, s1, s2, s3, s4, s5, s6, s7, s8, sf⟩ := blk9 HBz.out
  obtain ⟨tA, htA⟩ : ∃ tA : ByteArray, tA = ⟨bx.toArray⟩ := ⟨_, rfl⟩
  obtain ⟨tB, htB⟩ : ∃ tB : ByteArray, tB = ⟨bz.toArray⟩ := ⟨_, rfl⟩
  rw [← htA, ← htB] at hcmp
  have HtA := Lib.hid htA; have HtB := Lib.hid htB
  clear htA htB
  have hS : Hid (∀ w', Below w7.heap.size w7 w' → w'.cell? ⟨gx, 0, none⟩ = some (.int .i64 xk) ∧ w'.cell? ⟨gx, 1, none⟩ = some (.int .i64 xag) ∧ w'.cell? ⟨gx, 2, none⟩ = some (.int .i64 xsh) ∧ w'.cell? ⟨gx, 3, none⟩ = some (.int .i64 xsq) ∧ w'.cell? ⟨gx, 4, none⟩ = some (.int .i64 xep) ∧ w'.cell? ⟨gx, 5, none⟩ = some (.slice Ax xds.length cx) ∧ w'.cell? ⟨gx, 6, none⟩ = some (.string xse) ∧ w'.cell? ⟨gx, 7, none⟩ = some (.int .i64 xfr) ∧ w'.cell? ⟨gx, 8, none⟩ = some (.int .i64 xtg) ∧ w'.cell? ⟨gx + 1, 0, none⟩ = some (.int .i64 yk) ∧ w'.cell? ⟨gx + 1, 1, none⟩ = some (.int .i64 yag) ∧ w'.cell? ⟨gx + 1, 2, none⟩ = some (.int .i64 ysh) ∧ w'.cell? ⟨gx + 1, 3, none⟩ = some (.int .i64 ysq) ∧ w'.cell? ⟨gx + 1, 4, none⟩ = some (.int .i64 yep) ∧ w'.cell? ⟨gx + 1, 5, none⟩ = some (.slice Ay yds.length cy) ∧ w'.cell? ⟨gx + 1, 6, none⟩ = some (.string yse) ∧ w'.cell? ⟨gx + 1, 7, none⟩ = some (.int .i64 yfr) ∧ w'.cell? ⟨gx + 1, 8, none⟩ = some (.int .i64 ytg) ∧ w'.cell? ⟨gz, 0, none⟩ = some (.int .i64 xk) ∧ w'.cell? ⟨gz, 1, none⟩ = some (.int .i64 xag) ∧ w'.cell? ⟨gz, 2, none⟩ = some (.int .i64 xsh) ∧ w'.cell? ⟨gz, 3, none⟩ = some (.int .i64 xsq) ∧ w'.cell? ⟨gz, 4, none⟩ = some (.int .i64 xep) ∧ w'.cell? ⟨gz, 5, none⟩ = some (.slice Az xds.length cz) ∧ w'.cell? ⟨gz, 6, none⟩ = some (.string xse) ∧ w'.cell? ⟨gz, 7, none⟩ = some (.int .i64 xfr) ∧ w'.cell? ⟨gz, 8, none⟩ = some (.int .i64 xtg) ∧ (convert 32 9 (.slice A4 bx.length bx.length)).run Tryd.prog w' = .ok (.string tA) w' ∧ (convert 32 9 (.slice A5 bz.length bz.length)).run Tryd.prog w' = .ok (.string tB) w') := fun W hb => by
    obtain ⟨q0, q1, q2, q3, q4, q5, q6, q7, q8, qf⟩ := blk9 (HBx.out.below hb HBx.out.lt)
    obtain ⟨r0, r1, r2, r3, r4, r5, r6, r7, r8, rf⟩ := blk9 (HBy.out.below hb HBy.out.lt)
    obtain ⟨s0, s1, s2, s3, s4, s5, s6, s7, s8, sf⟩ := blk9 (HBz.out.below hb HBz.out.lt)
    exact ⟨q0, q1, q2, q3, q4, q5, q6, q7, q8, r0, r1, r2, r3, r4, r5, r6, r7, r8, s0, s1, s2, s3, s4, s5, s6, s7, s8, by rw [HtA.out]; exact conv_bytes (HS4.out.keep (Keeps.of_below (M := []) hb) (by simp)), by rw [HtB.out]; exact conv_bytes (HS5b.out.keep (Keeps.of_below (M := []) hb) (by simp))⟩
  have hx4 := Lib.hid (fun W (hb : Below w7.heap.size w7 W) => H4.out W (.slice Az xds.length cz) (.slice Ax xds.length cx) (HDz.out.keep (Keeps.of_below (M := []) hb) (by simp)) (HDx.out.keep (Keeps.of_below (M := []) hb) (by simp)))
  have hx5 := Lib.hid (fun W (hb : Below w7.heap.size w7 W) => H5.out W (HDx.out.keep (Keeps.of_below (M := []) hb) (by simp)) (HDy.out.keep (Keeps.of_below (M := []) hb) (by simp)))
  have hkn := Lib.hid (fun W (hb : Below w7.heap.size w7 W) => known_any m W (hkeepm.out W (below_then Hb7.out hb)))
  have hb7 := Lib.hid (Below.refl w7.heap.size w7)
  clear H4 H5 HDx HDy HDz HBx HBy HBz HS4 HS5b q0 q1 q2 q3 q4 q5 q6 q7 q8 qf r0 r1 r2 r3 r4 r5 r6 r7 r8 rf s0 s1 s2 s3 s4 s5 s6 s7 s8 sf
  cases sm with
  | true =>
    have hcm := hcmp.out
    go_region_held3 (fun w' => w'.cell? ⟨gx, 0, none⟩ = some (.int .i64 xk) ∧ w'.cell? ⟨gx, 1, none⟩ = some (.int .i64 xag) ∧ w'.cell? ⟨gx, 2, none⟩ = some (.int .i64 xsh) ∧ w'.cell? ⟨gx, 3, none⟩ = some (.int .i64 xsq) ∧ w'.cell? ⟨gx, 4, none⟩ = some (.int .i64 xep) ∧ w'.cell? ⟨gx, 5, none⟩ = some (.slice Ax xds.length cx) ∧ w'.cell? ⟨gx, 6, none⟩ = some (.string xse) ∧ w'.cell? ⟨gx, 7, none⟩ = some (.int .i64 xfr) ∧ w'.cell? ⟨gx, 8, none⟩ = some (.int .i64 xtg) ∧ w'.cell? ⟨gx + 1, 0, none⟩ = some (.int .i64 yk) ∧ w'.cell? ⟨gx + 1, 1, none⟩ = some (.int .i64 yag) ∧ w'.cell? ⟨gx + 1, 2, none⟩ = some (.int .i64 ysh) ∧ w'.cell? ⟨gx + 1, 3, none⟩ = some (.int .i64 ysq) ∧ w'.cell? ⟨gx + 1, 4, none⟩ = some (.int .i64 yep) ∧ w'.cell? ⟨gx + 1, 5, none⟩ = some (.slice Ay yds.length cy) ∧ w'.cell? ⟨gx + 1, 6, none⟩ = some (.string yse) ∧ w'.cell? ⟨gx + 1, 7, none⟩ = some (.int .i64 yfr) ∧ w'.cell? ⟨gx + 1, 8, none⟩ = some (.int .i64 ytg) ∧ w'.cell? ⟨gz, 0, none⟩ = some (.int .i64 xk) ∧ w'.cell? ⟨gz, 1, none⟩ = some (.int .i64 xag) ∧ w'.cell? ⟨gz, 2, none⟩ = some (.int .i64 xsh) ∧ w'.cell? ⟨gz, 3, none⟩ = some (.int .i64 xsq) ∧ w'.cell? ⟨gz, 4, none⟩ = some (.int .i64 xep) ∧ w'.cell? ⟨gz, 5, none⟩ = some (.slice Az xds.length cz) ∧ w'.cell? ⟨gz, 6, none⟩ = some (.string xse) ∧ w'.cell? ⟨gz, 7, none⟩ = some (.int .i64 xfr) ∧ w'.cell? ⟨gz, 8, none⟩ = some (.int .i64 xtg) ∧ (convert 32 9 (.slice A4 bx.length bx.length)).run Tryd.prog w' = .ok (.string tA) w' ∧ (convert 32 9 (.slice A5 bz.length bz.length)).run Tryd.prog w' = .ok (.string tB) w') (first | exact hS.out _ hbA.out | exact hS.out _ (bdrew hbA.out) | exact hS.out _ hb9.out | exact hS.out _ (bdrew hb9.out) | exact hS.out _ hb8.out | exact hS.out _ (bdrew hb8.out) | exact hS.out _ hb7.out | exact hS.out _ (bdrew hb7.out)) (first
      | (go_at_call 10
         refine (hx4.out _ (by first | exact hb7.out | exact bdrew hb7.out)).mono ?_
         rintro e w8 ⟨rfl, hb⟩
         have hb8 := Lib.hid (bthen hb7.out hb)
         clear hb)
      | (go_at_call 11
         refine (hx5.out _ (by first | exact hb8.out | exact bdrew hb8.out)).mono ?_
         rintro e w9 ⟨rfl, hb⟩
         have hb9 := Lib.hid (bthen hb8.out hb)
         clear hb)
      | (go_at_call 12
         refine (hkn.out _ (by first | exact hb9.out | exact bdrew hb9.out)).mono ?_
         rintro e wA ⟨rfl, hb⟩
         have hbA := Lib.hid (bthen hb9.out hb)
         clear hb))
    all_goals
      go_wp2
      go_ret
      exact ⟨rfl, below_then Hb7.out hbA.out⟩
  | false =>
    have hcm := hcmp.out
    go_region_held3 (fun w' => w'.cell? ⟨gx, 0, none⟩ = some (.int .i64 xk) ∧ w'.cell? ⟨gx, 1, none⟩ = some (.int .i64 xag) ∧ w'.cell? ⟨gx, 2, none⟩ = some (.int .i64 xsh) ∧ w'.cell? ⟨gx, 3, none⟩ = some (.int .i64 xsq) ∧ w'.cell? ⟨gx, 4, none⟩ = some (.int .i64 xep) ∧ w'.cell? ⟨gx, 5, none⟩ = some (.slice Ax xds.length cx) ∧ w'.cell? ⟨gx, 6, none⟩ = some (.string xse) ∧ w'.cell? ⟨gx, 7, none⟩ = some (.int .i64 xfr) ∧ w'.cell? ⟨gx, 8, none⟩ = some (.int .i64 xtg) ∧ w'.cell? ⟨gx + 1, 0, none⟩ = some (.int .i64 yk) ∧ w'.cell? ⟨gx + 1, 1, none⟩ = some (.int .i64 yag) ∧ w'.cell? ⟨gx + 1, 2, none⟩ = some (.int .i64 ysh) ∧ w'.cell? ⟨gx + 1, 3, none⟩ = some (.int .i64 ysq) ∧ w'.cell? ⟨gx + 1, 4, none⟩ = some (.int .i64 yep) ∧ w'.cell? ⟨gx + 1, 5, none⟩ = some (.slice Ay yds.length cy) ∧ w'.cell? ⟨gx + 1, 6, none⟩ = some (.string yse) ∧ w'.cell? ⟨gx + 1, 7, none⟩ = some (.int .i64 yfr) ∧ w'.cell? ⟨gx + 1, 8, none⟩ = some (.int .i64 ytg) ∧ w'.cell? ⟨gz, 0, none⟩ = some (.int .i64 xk) ∧ w'.cell? ⟨gz, 1, none⟩ = some (.int .i64 xag) ∧ w'.cell? ⟨gz, 2, none⟩ = some (.int .i64 xsh) ∧ w'.cell? ⟨gz, 3, none⟩ = some (.int .i64 xsq) ∧ w'.cell? ⟨gz, 4, none⟩ = some (.int .i64 xep) ∧ w'.cell? ⟨gz, 5, none⟩ = some (.slice Az xds.length cz) ∧ w'.cell? ⟨gz, 6, none⟩ = some (.string xse) ∧ w'.cell? ⟨gz, 7, none⟩ = some (.int .i64 xfr) ∧ w'.cell? ⟨gz, 8, none⟩ = some (.int .i64 xtg) ∧ (convert 32 9 (.slice A4 bx.length bx.length)).run Tryd.prog w' = .ok (.string tA) w' ∧ (convert 32 9 (.slice A5 bz.length bz.length)).run Tryd.prog w' = .ok (.string tB) w') (first | exact hS.out _ hbA.out | exact hS.out _ (bdrew hbA.out) | exact hS.out _ hb9.out | exact hS.out _ (bdrew hb9.out) | exact hS.out _ hb8.out | exact hS.out _ (bdrew hb8.out) | exact hS.out _ hb7.out | exact hS.out _ (bdrew hb7.out)) (first
      | (go_at_call 10
         refine (hx4.out _ (by first | exact hb7.out | exact bdrew hb7.out)).mono ?_
         rintro e w8 ⟨rfl, hb⟩
         have hb8 := Lib.hid (bthen hb7.out hb)
         clear hb)
      | (go_at_call 11
         refine (hx5.out _ (by first | exact hb8.out | exact bdrew hb8.out)).mono ?_
         rintro e w9 ⟨rfl, hb⟩
         have hb9 := Lib.hid (bthen hb8.out hb)
         clear hb)
      | (go_at_call 12
         refine (hkn.out _ (by first | exact hb9.out | exact bdrew hb9.out)).mono ?_
         rintro e wA ⟨rfl, hb⟩
         have hbA := Lib.hid (bthen hb9.out hb)
         clear hb))
    all_goals
      go_wp2
      go_ret
      exact ⟨rfl, below_then Hb7.out hbA.out⟩
end Go.Proofs.YtinnifhnabncfaaDoor.Vi
