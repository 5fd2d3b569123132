/- Texts put together: RefY, RSame, RLogs, MoA. -/
import Derived.Deep.RegionWith
import Derived.Test.YtinnifhnabncfaaGreatDoorMN3
import Derived.Test.YtinnifhnabncfaaGreatDoorMN4
import Derived.Test.YtinnifhnabncfaaGreatDoorMN6
import Derived.Test.YtinnifhnabncfaaGreatDoorMN8
import Derived.Test.YtinnifhnabncfaaGreatDoorMN11
set_option linter.unusedVariables false
set_option linter.unusedSimpArgs false
section
namespace Go.Proofs.YtinnifhnabncfaaGreatDoor.Vi
open Go.RowKit Base Mem Go.Shelf
structure ReM (w0 w : World) (p g0 g8 : Nat) (l : List UInt8) (bad : Bool) (c : Array Value) : Prop where
 rd : RRdAt w [g8] p l bad
 keeps : Keeps [] w0 w
 b0 : Blk w g0 68 zeroR
 b8 : Blk w g8 68 c
 o0 : w0.heap.size ≤ g0
 o1 : g0 < p
 o2 : p < g8
theorem ReM.step {w0 w w' : World} {p g0 g8 : Nat} {l l' : List UInt8} {bad bad' : Bool} {c : Array Value} (h : ReM w0 w p g0 g8 l bad c) (hr : RRdAt w' [g8] p l' bad') (hk : Keeps [p] w w') : ReM w0 w' p g0 g8 l' bad' c := by
 have h0 := h.o0; have h1 := h.o1; have h2 := h.o2
 exact ⟨hr, h.keeps.trans hk (by intro g hg; simp at hg; right; omega), hk.blk h.b0 (by simp; omega), hk.blk h.b8 (by simp; omega), h0, h1, h2⟩
theorem ReM.set {w0 w : World} {p g0 g8 : Nat} {l : List UInt8} {bad : Bool} {c : Array Value} (h : ReM w0 w p g0 g8 l bad c) (i : Nat) (v : Value) : ReM w0 (w.setCell ⟨g8, i, none⟩ v) p g0 g8 l bad (c.setIfInBounds i v) := by
 have h0 := h.o0; have h1 := h.o1; have h2 := h.o2
 have hk : Keeps [g8] w (w.setCell ⟨g8, i, none⟩ v) := (Keeps.refl _ _).setCell (by simp) v
 exact ⟨h.rd.keep hk (by simp) (by simp; omega), h.keeps.trans hk (by intro g hg; simp at hg; right; omega), hk.blk h.b0 (by simp; omega), h.b8.set_ i v, h0, h1, h2⟩
theorem ReM.in8 {w0 w w' : World} {p g0 g8 : Nat} {l : List UInt8} {bad : Bool} {c c' : Array Value} (h : ReM w0 w p g0 g8 l bad c) (hk : Keeps [g8] w w') (hB : Blk w' g8 68 c') : ReM w0 w' p g0 g8 l bad c' := by
 have h0 := h.o0; have h1 := h.o1; have h2 := h.o2
 exact ⟨h.rd.keep hk (by simp) (by simp; omega), h.keeps.trans hk (by intro g hg; simp at hg; right; omega), hk.blk h.b0 (by simp; omega), hB, h0, h1, h2⟩
theorem ReM.more {w0 w w' : World} {p g0 g8 : Nat} {l : List UInt8} {bad : Bool} {c : Array Value} (h : ReM w0 w p g0 g8 l bad c) (hk : Keeps [] w w') : ReM w0 w' p g0 g8 l bad c :=
 ⟨h.rd.keep hk (by simp) (by simp), h.keeps.trans hk (by simp), hk.blk h.b0 (by simp), hk.blk h.b8 (by simp), h.o0, h.o1, h.o2⟩
set_option maxRecDepth 100000 in
set_option maxHeartbeats 8000000 in
theorem rmRead_any (v : Value) (l : List UInt8) (mx : Int) (w : World) (h : Bs w [] v l) (hl : l.length ≤ 4611686018427387000) (hm : w.cell? ⟨0, 0, none⟩ = some (.int .i64 mx)) :
  Calls Tryz.prog 97 #[v] w fun e w' => MReadP (rmReadS l) w e w' := by
 have hw0 : 0 < w.heap.size := by
  have := World.block_lt_of_cell? w _ hm
  simpa using this
 have hkeepm : Hid (∀ W, Keeps [] w W → W.cell? ⟨0, 0, none⟩ = some (.int .i64 mx)) := fun W hb => (hb.cell (p := ⟨0, 0, none⟩) hw0 (by simp)).trans hm
 have hfl := fun x n (h : readF l = some (x, n)) => readF_len h
 have HR : Hid (rmReadS l = match readF l with
  | none => (zeroM, 12)
  | some (x, n) => if n ≠ l.length then (zeroM, 12) else
   if (rmreadS (byteS x false).1.toNat (byteS x false).2.1 (byteS x false).2.2).2.1 = true ∧ (!(rmreadS (byteS x false).1.toNat (byteS x false).2.1 (byteS x false).2.2).2.2.2 && (rmreadS (byteS x false).1.toNat (byteS x false).2.1 (byteS x false).2.2).2.2.1.isEmpty) = true ∧ mrightS (rmreadS (byteS x false).1.toNat (byteS x false).2.1 (byteS x false).2.2).1 = 0
    then ((rmreadS (byteS x false).1.toNat (byteS x false).2.1 (byteS x false).2.2).1, 0) else (zeroM, 12)) := rfl
 obtain ⟨A, c, rfl, hc⟩ := h.len
 have H := Lib.hid h
 have hfr : Hid (∀ W, Keeps [] w W → Calls Tryz.prog 47 #[.slice A l.length c] W fun e w' => FrRead l W e w') := fun W hk => (rread_any _ l W (H.out.keep hk (by simp)) hl).mono (fun _ _ h => rread_fr h)
 generalize rmReadS l = R at *
 clear h hm
 go_enter Tryz.func97, Tryz.ntmps97
 go_upto_region 1 with (fail)
 obtain ⟨w1, hw1⟩ : ∃ w1, w1 = w.alloc (.cells #[.int .i64 0, .int .i64 0, .int .i64 0, .int .i64 0, .int .i64 0, .int .i64 0, .slice none 0 0, .string ⟨#[]⟩, .int .i64 0, .int .i64 0, .int .i64 0, .int .i64 0, .int .u64 0, .int .i64 0, .int .i64 0, .slice none 0 0, .int .i64 0, .int .i64 0] 68) := ⟨_, rfl⟩
 rw [← hw1]
 have hK1 : Keeps [] w w1 := by rw [hw1]; exact (Keeps.refl _ _).alloc _
 have hB1 : Blk w1 w.heap.size 68 zeroR := by rw [hw1]; exact Blk.new w _ _
 obtain ⟨g0, hg0⟩ : ∃ g0, g0 = w.heap.size := ⟨_, rfl⟩
 rw [← hg0] at hB1 ⊢
 have hg1 : g0 < w1.heap.size := hB1.lt
 have hF := Lib.hid (hfr.out w1 hK1)
 have HK1 := Lib.hid hK1; have HB1 := Lib.hid hB1; have Hg0 := Lib.hid hg0
 clear hw1 hK1 hB1 hg0 hfr
 go_wp2_with fail
 simp only [FrRead] at hF
 generalize readF l = f at *
 cases f with
 | none =>
  simp only [] at HR hF
  refine hF.out.mono ?_
  rintro e w2 ⟨rfl, hb⟩
  have HB2 := Lib.hid (HB1.out.below hb hg1)
  have HK2 := Lib.hid (HK1.out.trans (Keeps.of_below (M := []) hb) (by simp))
  clear hb HB1 HK1 hF
  go_wp2_with (refine wpList_store_blk rfl 68 (.tmp 2) (.tmp 25) rfl g0 0 68 zeroR #[.int .i64 0, .int .i64 0, .int .i64 0, .int .i64 0, .int .i64 0, .int .i64 0, .slice none 0 0, .string ⟨#[]⟩, .int .i64 0, .int .i64 0, .int .i64 0, .int .i64 0, .int .u64 0, .int .i64 0, .int .i64 0, .slice none 0 0, .int .i64 0, .int .i64 0] #[.int .i64 0, .int .i64 0, .int .i64 0, .int .i64 0, .int .i64 0, .int .i64 0, .slice none 0 0, .string ⟨#[]⟩, .int .i64 0, .int .i64 0, .int .i64 0, .int .i64 0, .int .u64 0, .int .i64 0, .int .i64 0, .slice none 0 0, .int .i64 0, .int .i64 0] rfl rfl HB2.out (by show 0 + 18 ≤ 18; omega) rfl (by kernel_rfl) rfl ?_; intro wz hkz hBz; have Hkz := Lib.hid hkz; have HBz := Lib.hid hBz; clear hkz hBz)
  refine bodyPost_ret (results_cell2 rfl _ _ g0 68 #[.int .i64 0, .int .i64 0, .int .i64 0, .int .i64 0, .int .i64 0, .int .i64 0, .slice none 0 0, .string ⟨#[]⟩, .int .i64 0, .int .i64 0, .int .i64 0, .int .i64 0, .int .u64 0, .int .i64 0, .int .i64 0, .slice none 0 0, .int .i64 0, .int .i64 0] _ rfl HBz.out Tryz.underlying68 rfl (by kernel_rfl)) rfl ?_
  exact mbad (by rw [HR.out]) HK2.out Hkz.out Hg0.out
 | some xn =>
  obtain ⟨x, n⟩ := xn
  have hxl := hfl x n rfl
  simp only [] at HR hF
  refine hF.out.mono ?_
  rintro e w2 ⟨A2, c2, rfl, hS2, hb⟩
  have HB2 := Lib.hid (HB1.out.below hb hg1)
  have HK2 := Lib.hid (HK1.out.trans (Keeps.of_below (M := []) hb) (by simp))
  have HS2 := Lib.hid (hS2 [g0] (by intro x hx; simp at hx; omega))
  clear hb HB1 HK1 hF hS2 hfl
  by_cases hn : n = l.length
  ·subst hn
   have HR2 : Hid (R = _) := HR.out.trans (if_neg (by simp))
   clear HR
   have hby := byteS_len x false
   go_upto_region 5 with (fail)
   have hg2 := HB2.out.lt
   have hA3 : RRdAt (w2.alloc (.cells #[.slice A2 x.length c2, .bool false] 175)) [g0] w2.heap.size x false := by
    refine ⟨by omega, .slice A2 x.length c2, Blk.new w2 _ _, ?_⟩
    exact (HS2.out.avoid (M' := [w2.heap.size, g0]) (by intro g hg; simp at hg; rcases hg with rfl | rfl; right; omega; left; simp)).keep (M' := []) ((Keeps.refl _ _).alloc _) (by simp)
   have HB3 := Lib.hid (HB2.out.below (below_new' w2 (.cells #[.slice A2 x.length c2, .bool false] 175)) hg2)
   have HK3 := Lib.hid (HK2.out.alloc (.cells #[.slice A2 x.length c2, .bool false] 175))
   have hp3 := hA3.lt
   generalize w2.alloc (.cells #[.slice A2 x.length c2, .bool false] 175) = w3 at *
   have hby2 := Lib.hid (rbyte_any [g0] w2.heap.size x false w3 hA3)
   have hpw : w.heap.size ≤ w2.heap.size := HK2.out.size
   generalize w2.heap.size = p at *
   clear hA3 HB2 HK2 HS2
   generalize byteS x false = y at *
   obtain ⟨y1, y2, y3⟩ := y
   simp only [] at HR2 hby hby2
   go_wp2_with fail
   refine hby2.out.mono ?_
   rintro e w4 ⟨rfl, hA4, hk4⟩
   have HB4 := Lib.hid (hk4.blk HB3.out (by simp; omega))
   have HK4 : Hid (Keeps [] w w4) := HK3.out.trans hk4 (by intro q hq; simp at hq; right; omega)
   have HA4 := Lib.hid hA4
   have hp4 : p < w4.heap.size := hA4.lt
   have hsh := rmreadS_short y1.toNat y2 y3 (by omega)
   generalize y1.toNat = k at *
   clear hA4 hk4 hby2 HB3 HK3
   have hy2l : y2.length ≤ 65536 := by omega
   by_cases hk3 : k = 3
   ·subst hk3
    obtain ⟨a, ha, he⟩ : ∃ a, a = intS y2 y3 ∧ rmreadS 3 y2 y3 = ((⟨3, ⟨0, 0, 0, 0, 0, [], ⟨#[]⟩, 0, 0⟩, 0, 0, 0, a.1, 0, [], 0, 0⟩ : MsgD), true, a.2) := ⟨_, rfl, rfl⟩
    rw [he] at HR2 hsh
    have Hsh := Lib.hid hsh
    have H_a := Lib.hid ha
    clear ha he hsh
    go_wp2_with (refine wpList_store_blk rfl 68 (.tmp 8) (.tmp 31) rfl w4.heap.size 0 68 _ #[.int .i64 3, .int .i64 0, .int .i64 0, .int .i64 0, .int .i64 0, .int .i64 0, .slice none 0 0, .string ⟨#[]⟩, .int .i64 0, .int .i64 0, .int .i64 0, .int .i64 0, .int .u64 0, .int .i64 0, .int .i64 0, .slice none 0 0, .int .i64 0, .int .i64 0] #[.int .i64 3, .int .i64 0, .int .i64 0, .int .i64 0, .int .i64 0, .int .i64 0, .slice none 0 0, .string ⟨#[]⟩, .int .i64 0, .int .i64 0, .int .i64 0, .int .i64 0, .int .u64 0, .int .i64 0, .int .i64 0, .slice none 0 0, .int .i64 0, .int .i64 0] rfl rfl (Blk.new _ _ _) (by show 0 + 18 ≤ 18; omega) rfl (by kernel_rfl) rfl ?_; intro w5 hk5 hB5; have H5 : Hid (ReM w w5 p g0 w4.heap.size y2 y3 #[.int .i64 3, .int .i64 0, .int .i64 0, .int .i64 0, .int .i64 0, .int .i64 0, .slice none 0 0, .string ⟨#[]⟩, .int .i64 0, .int .i64 0, .int .i64 0, .int .i64 0, .int .u64 0, .int .i64 0, .int .i64 0, .slice none 0 0, .int .i64 0, .int .i64 0]) := ⟨((HA4.out.avoid (M' := [w4.heap.size]) (by intro g hg; simp at hg; right; omega)).keep (M' := []) ((Keeps.refl _ _).alloc _) (by simp) (by simp)).keep hk5 (by simp) (by simp; omega), (HK4.out.alloc _).trans hk5 (by intro q hq; simp at hq; right; have := HK4.out.size; omega), hk5.blk (HB4.out.below (below_new' w4 _) HB4.out.lt) (by simp; have := HB4.out.lt; omega), hB5, by have := Hg0.out; omega, by omega, hp4⟩; clear hk5 hB5; obtain ⟨q0, q1, q2, q3, q4, q5, q6, q7, q8, q9, qa, qb, qc, qd, qe, qf, qg, qh, qz⟩ := blk18 H5.out.b8)
    clear q0 q1 q2 q3 q4 q5 q6 q7 q8 q9 qa qb qc qd qe qf qg qh qz
    generalize w4.heap.size = g8 at *
    have hct := Lib.hid (rrint_any [g8] p y2 y3 w5 H5.out.rd)
    rw [← H_a.out] at hct
    obtain ⟨a1, a2, a3⟩ := a
    simp only [] at hct  HR2 Hsh
    refine hct.out.mono ?_
    rintro e wz1 ⟨rfl, hA, hk⟩
    have Hz1 := Lib.hid (H5.out.step hA hk)
    clear hA hk H5 hct H_a
    obtain ⟨q0, q1, q2, q3, q4, q5, q6, q7, q8, q9, qa, qb, qc, qd, qe, qf, qg, qh, qz⟩ := blk18 Hz1.out.b8
    have Hy1 : Hid (ReM w (wz1.setCell ⟨g8, 13, none⟩ (.int .i64 a1)) p g0 g8 a2 a3 #[.int .i64 3, .int .i64 0, .int .i64 0, .int .i64 0, .int .i64 0, .int .i64 0, .slice none 0 0, .string ⟨#[]⟩, .int .i64 0, .int .i64 0, .int .i64 0, .int .i64 0, .int .u64 0, .int .i64 a1, .int .i64 0, .slice none 0 0, .int .i64 0, .int .i64 0]) := (by simpa using Hz1.out.set 13 (.int .i64 a1) : ReM w _ p g0 g8 a2 a3 _)
    clear Hz1
    go_wp2_with fail
    generalize hgw : wz1.setCell ⟨g8, 13, none⟩ (.int .i64 a1) = wy1 at *
    clear hgw q0 q1 q2 q3 q4 q5 q6 q7 q8 q9 qa qb qc qd qe qf qg qh qz
    have HR3 := Lib.hid HR2.out
    clear HR2
    have HV : Hid (∀ M, (∀ g ∈ M, g ≤ g8) → MsgAt wy1 M (⟨3, ⟨0, 0, 0, 0, 0, [], ⟨#[]⟩, 0, 0⟩, 0, 0, 0, a1, 0, [], 0, 0⟩ : MsgD) (.slice none 0 0) (.slice none 0 0)) := fun M _ => ⟨Ds.nil _ _, Ens.nil _ _⟩
    have hdw := Lib.hid (rdone_any [g8] p a2 a3 wy1 Hy1.out.rd)
    refine hdw.out.mono ?_
    rintro r w' ⟨rfl, rfl⟩
    clear hdw
    cases hd : (!a3 && (a2).isEmpty) with
    | false =>
     go_wp2_with (refine wpList_store_blk rfl 68 (.tmp 2) (.tmp 111) rfl g0 0 68 zeroR #[.int .i64 0, .int .i64 0, .int .i64 0, .int .i64 0, .int .i64 0, .int .i64 0, .slice none 0 0, .string ⟨#[]⟩, .int .i64 0, .int .i64 0, .int .i64 0, .int .i64 0, .int .u64 0, .int .i64 0, .int .i64 0, .slice none 0 0, .int .i64 0, .int .i64 0] #[.int .i64 0, .int .i64 0, .int .i64 0, .int .i64 0, .int .i64 0, .int .i64 0, .slice none 0 0, .string ⟨#[]⟩, .int .i64 0, .int .i64 0, .int .i64 0, .int .i64 0, .int .u64 0, .int .i64 0, .int .i64 0, .slice none 0 0, .int .i64 0, .int .i64 0] rfl rfl Hy1.out.b0 (by show 0 + 18 ≤ 18; omega) rfl (by kernel_rfl) rfl ?_; intro wz hkz hBz; have Hkz := Lib.hid hkz; have HBz := Lib.hid hBz; clear hkz hBz)
     refine bodyPost_ret (results_cell2 rfl _ _ g0 68 #[.int .i64 0, .int .i64 0, .int .i64 0, .int .i64 0, .int .i64 0, .int .i64 0, .slice none 0 0, .string ⟨#[]⟩, .int .i64 0, .int .i64 0, .int .i64 0, .int .i64 0, .int .u64 0, .int .i64 0, .int .i64 0, .slice none 0 0, .int .i64 0, .int .i64 0] _ rfl HBz.out Tryz.underlying68 rfl (by kernel_rfl)) rfl ?_
     exact mbad (by rw [HR3.out, if_neg (by first | (simp [hd]; done) | (simp at hd; simp [hd]; done))]) Hy1.out.keeps Hkz.out Hg0.out
    | true =>
     have hri := Lib.hid (rmright_any (⟨3, ⟨0, 0, 0, 0, 0, [], ⟨#[]⟩, 0, 0⟩, 0, 0, 0, a1, 0, [], 0, 0⟩ : MsgD) (.slice none 0 0) (.slice none 0 0) mx wy1 (HV.out [] (by simp)) Hsh.out (hkeepm.out _ Hy1.out.keeps))
     have HRg := Lib.hid (blk_range Hy1.out.b8)
     simp only [mCell, eCell, List.cons_append, List.nil_append] at hri
     generalize mrightS (⟨3, ⟨0, 0, 0, 0, 0, [], ⟨#[]⟩, 0, 0⟩, 0, 0, 0, a1, 0, [], 0, 0⟩ : MsgD) = mr at *
     go_wp2_with (refine wpList_load_g rfl 68 (.tmp 8) rfl g8 0 rfl _ _ HRg.out Tryz.underlying68 rfl (by kernel_rfl) ?_)
     refine hri.out.mono ?_
     rintro e w7 ⟨rfl, hb7⟩
     have H7 := Lib.hid (Hy1.out.more (Keeps.of_below hb7))
     have Hk7 : Hid (Keeps [] wy1 w7) := Keeps.of_below hb7
     clear hb7 hri HRg
     by_cases hmz : mr = 0
     ·subst hmz
      have HRg := Lib.hid (blk_range H7.out.b8)
      go_wp2_with (first | (refine wpList_load_mid rfl 68 (.tmp 8) rfl g8 0 rfl _ _ HRg.out Tryz.underlying68 rfl (by kernel_rfl) ?_) | (refine wpList_store_blk rfl 68 (.tmp 2) (.tmp 112) rfl g0 0 68 zeroR #[.int .i64 3, .int .i64 0, .int .i64 0, .int .i64 0, .int .i64 0, .int .i64 0, .slice none 0 0, .string ⟨#[]⟩, .int .i64 0, .int .i64 0, .int .i64 0, .int .i64 0, .int .u64 0, .int .i64 a1, .int .i64 0, .slice none 0 0, .int .i64 0, .int .i64 0] #[.int .i64 3, .int .i64 0, .int .i64 0, .int .i64 0, .int .i64 0, .int .i64 0, .slice none 0 0, .string ⟨#[]⟩, .int .i64 0, .int .i64 0, .int .i64 0, .int .i64 0, .int .u64 0, .int .i64 a1, .int .i64 0, .slice none 0 0, .int .i64 0, .int .i64 0] rfl rfl H7.out.b0 (by show 0 + 18 ≤ 18; omega) rfl (by kernel_rfl) rfl ?_; intro wz hkz hBz; have Hkz := Lib.hid hkz; have HBz := Lib.hid hBz; clear hkz hBz))
      refine bodyPost_ret (results_cell2 rfl _ _ g0 68 #[.int .i64 3, .int .i64 0, .int .i64 0, .int .i64 0, .int .i64 0, .int .i64 0, .slice none 0 0, .string ⟨#[]⟩, .int .i64 0, .int .i64 0, .int .i64 0, .int .i64 0, .int .u64 0, .int .i64 a1, .int .i64 0, .slice none 0 0, .int .i64 0, .int .i64 0] _ rfl HBz.out Tryz.underlying68 rfl (by kernel_rfl)) rfl ?_
      have hRf : R = ((⟨3, ⟨0, 0, 0, 0, 0, [], ⟨#[]⟩, 0, 0⟩, 0, 0, 0, a1, 0, [], 0, 0⟩ : MsgD), 0) := by rw [HR3.out, if_pos (by first | (simp [hd]; done) | (simp at hd; simp [hd]; done))]
      rw [hRf]
      refine ⟨.slice none 0 0, .slice none 0 0, rfl, fun M hM => ?_, (H7.out.keeps.trans Hkz.out (by intro q hq; simp at hq; right; have := Hg0.out; omega) : Keeps [] w wz).below⟩
      have ho0 := H7.out.o0; have ho1 := H7.out.o1; have ho2 := H7.out.o2
      exact (((HV.out (g0 :: M) (by intro q hq; rcases List.mem_cons.1 hq with rfl | hq; omega; have := hM q hq; omega)).keep Hk7.out (by simp)).keep Hkz.out (by simp)).avoid (fun q hq => .inl (List.mem_cons_of_mem _ hq))
     ·have hmn : ((mr : Int) != 0) = true := by rw [bne_iff_ne]; omega
      go_wp2_with (refine wpList_store_blk rfl 68 (.tmp 2) (.tmp 111) rfl g0 0 68 zeroR #[.int .i64 0, .int .i64 0, .int .i64 0, .int .i64 0, .int .i64 0, .int .i64 0, .slice none 0 0, .string ⟨#[]⟩, .int .i64 0, .int .i64 0, .int .i64 0, .int .i64 0, .int .u64 0, .int .i64 0, .int .i64 0, .slice none 0 0, .int .i64 0, .int .i64 0] #[.int .i64 0, .int .i64 0, .int .i64 0, .int .i64 0, .int .i64 0, .int .i64 0, .slice none 0 0, .string ⟨#[]⟩, .int .i64 0, .int .i64 0, .int .i64 0, .int .i64 0, .int .u64 0, .int .i64 0, .int .i64 0, .slice none 0 0, .int .i64 0, .int .i64 0] rfl rfl H7.out.b0 (by show 0 + 18 ≤ 18; omega) rfl (by kernel_rfl) rfl ?_; intro wz hkz hBz; have Hkz := Lib.hid hkz; have HBz := Lib.hid hBz; clear hkz hBz)
      refine bodyPost_ret (results_cell2 rfl _ _ g0 68 #[.int .i64 0, .int .i64 0, .int .i64 0, .int .i64 0, .int .i64 0, .int .i64 0, .slice none 0 0, .string ⟨#[]⟩, .int .i64 0, .int .i64 0, .int .i64 0, .int .i64 0, .int .u64 0, .int .i64 0, .int .i64 0, .slice none 0 0, .int .i64 0, .int .i64 0] _ rfl HBz.out Tryz.underlying68 rfl (by kernel_rfl)) rfl ?_
      exact mbad (by rw [HR3.out, if_neg (by simp [hmz])]) H7.out.keeps Hkz.out Hg0.out
   by_cases hk6 : k = 6
   ·subst hk6
    obtain ⟨a, u, ha, hu, he⟩ : ∃ a u, a = intS y2 y3 ∧ u = intS a.2.1 a.2.2 ∧ rmreadS 6 y2 y3 = ((⟨6, ⟨0, 0, 0, 0, 0, [], ⟨#[]⟩, 0, 0⟩, 0, 0, 0, a.1, 0, [], 0, u.1⟩ : MsgD), true, u.2) := ⟨_, _, rfl, rfl, rfl⟩
    rw [he] at HR2 hsh
    have Hsh := Lib.hid hsh
    have H_a := Lib.hid ha; have H_u := Lib.hid hu
    clear ha hu he hsh
    go_wp2_with (refine wpList_store_blk rfl 68 (.tmp 8) (.tmp 31) rfl w4.heap.size 0 68 _ #[.int .i64 6, .int .i64 0, .int .i64 0, .int .i64 0, .int .i64 0, .int .i64 0, .slice none 0 0, .string ⟨#[]⟩, .int .i64 0, .int .i64 0, .int .i64 0, .int .i64 0, .int .u64 0, .int .i64 0, .int .i64 0, .slice none 0 0, .int .i64 0, .int .i64 0] #[.int .i64 6, .int .i64 0, .int .i64 0, .int .i64 0, .int .i64 0, .int .i64 0, .slice none 0 0, .string ⟨#[]⟩, .int .i64 0, .int .i64 0, .int .i64 0, .int .i64 0, .int .u64 0, .int .i64 0, .int .i64 0, .slice none 0 0, .int .i64 0, .int .i64 0] rfl rfl (Blk.new _ _ _) (by show 0 + 18 ≤ 18; omega) rfl (by kernel_rfl) rfl ?_; intro w5 hk5 hB5; have H5 : Hid (ReM w w5 p g0 w4.heap.size y2 y3 #[.int .i64 6, .int .i64 0, .int .i64 0, .int .i64 0, .int .i64 0, .int .i64 0, .slice none 0 0, .string ⟨#[]⟩, .int .i64 0, .int .i64 0, .int .i64 0, .int .i64 0, .int .u64 0, .int .i64 0, .int .i64 0, .slice none 0 0, .int .i64 0, .int .i64 0]) := ⟨((HA4.out.avoid (M' := [w4.heap.size]) (by intro g hg; simp at hg; right; omega)).keep (M' := []) ((Keeps.refl _ _).alloc _) (by simp) (by simp)).keep hk5 (by simp) (by simp; omega), (HK4.out.alloc _).trans hk5 (by intro q hq; simp at hq; right; have := HK4.out.size; omega), hk5.blk (HB4.out.below (below_new' w4 _) HB4.out.lt) (by simp; have := HB4.out.lt; omega), hB5, by have := Hg0.out; omega, by omega, hp4⟩; clear hk5 hB5; obtain ⟨q0, q1, q2, q3, q4, q5, q6, q7, q8, q9, qa, qb, qc, qd, qe, qf, qg, qh, qz⟩ := blk18 H5.out.b8)
    clear q0 q1 q2 q3 q4 q5 q6 q7 q8 q9 qa qb qc qd qe qf qg qh qz
    generalize w4.heap.size = g8 at *
    have hct := Lib.hid (rrint_any [g8] p y2 y3 w5 H5.out.rd)
    rw [← H_a.out] at hct
    obtain ⟨a1, a2, a3⟩ := a
    simp only [] at hct H_u HR2 Hsh
    refine hct.out.mono ?_
    rintro e wz2 ⟨rfl, hA, hk⟩
    have Hz2 := Lib.hid (H5.out.step hA hk)
    clear hA hk H5 hct H_a
    obtain ⟨q0, q1, q2, q3, q4, q5, q6, q7, q8, q9, qa, qb, qc, qd, qe, qf, qg, qh, qz⟩ := blk18 Hz2.out.b8
    have Hy2 : Hid (ReM w (wz2.setCell ⟨g8, 13, none⟩ (.int .i64 a1)) p g0 g8 a2 a3 #[.int .i64 6, .int .i64 0, .int .i64 0, .int .i64 0, .int .i64 0, .int .i64 0, .slice none 0 0, .string ⟨#[]⟩, .int .i64 0, .int .i64 0, .int .i64 0, .int .i64 0, .int .u64 0, .int .i64 a1, .int .i64 0, .slice none 0 0, .int .i64 0, .int .i64 0]) := (by simpa using Hz2.out.set 13 (.int .i64 a1) : ReM w _ p g0 g8 a2 a3 _)
    clear Hz2
    go_wp2_with fail
    generalize hgw : wz2.setCell ⟨g8, 13, none⟩ (.int .i64 a1) = wy2 at *
    clear hgw q0 q1 q2 q3 q4 q5 q6 q7 q8 q9 qa qb qc qd qe qf qg qh qz
    have hct := Lib.hid (rrint_any [g8] p a2 a3 wy2 Hy2.out.rd)
    rw [← H_u.out] at hct
    obtain ⟨u1, u2, u3⟩ := u
    simp only [] at hct  HR2 Hsh
    refine hct.out.mono ?_
    rintro e wz3 ⟨rfl, hA, hk⟩
    have Hz3 := Lib.hid (Hy2.out.step hA hk)
    clear hA hk Hy2 hct H_u
    obtain ⟨q0, q1, q2, q3, q4, q5, q6, q7, q8, q9, qa, qb, qc, qd, qe, qf, qg, qh, qz⟩ := blk18 Hz3.out.b8
    have Hy3 : Hid (ReM w (wz3.setCell ⟨g8, 17, none⟩ (.int .i64 u1)) p g0 g8 u2 u3 #[.int .i64 6, .int .i64 0, .int .i64 0, .int .i64 0, .int .i64 0, .int .i64 0, .slice none 0 0, .string ⟨#[]⟩, .int .i64 0, .int .i64 0, .int .i64 0, .int .i64 0, .int .u64 0, .int .i64 a1, .int .i64 0, .slice none 0 0, .int .i64 0, .int .i64 u1]) := (by simpa using Hz3.out.set 17 (.int .i64 u1) : ReM w _ p g0 g8 u2 u3 _)
    clear Hz3
    go_wp2_with fail
    generalize hgw : wz3.setCell ⟨g8, 17, none⟩ (.int .i64 u1) = wy3 at *
    clear hgw q0 q1 q2 q3 q4 q5 q6 q7 q8 q9 qa qb qc qd qe qf qg qh qz
    have HR3 := Lib.hid HR2.out
    clear HR2
    have HV : Hid (∀ M, (∀ g ∈ M, g ≤ g8) → MsgAt wy3 M (⟨6, ⟨0, 0, 0, 0, 0, [], ⟨#[]⟩, 0, 0⟩, 0, 0, 0, a1, 0, [], 0, u1⟩ : MsgD) (.slice none 0 0) (.slice none 0 0)) := fun M _ => ⟨Ds.nil _ _, Ens.nil _ _⟩
    have hdw := Lib.hid (rdone_any [g8] p u2 u3 wy3 Hy3.out.rd)
    refine hdw.out.mono ?_
    rintro r w' ⟨rfl, rfl⟩
    clear hdw
    cases hd : (!u3 && (u2).isEmpty) with
    | false =>
     go_wp2_with (refine wpList_store_blk rfl 68 (.tmp 2) (.tmp 111) rfl g0 0 68 zeroR #[.int .i64 0, .int .i64 0, .int .i64 0, .int .i64 0, .int .i64 0, .int .i64 0, .slice none 0 0, .string ⟨#[]⟩, .int .i64 0, .int .i64 0, .int .i64 0, .int .i64 0, .int .u64 0, .int .i64 0, .int .i64 0, .slice none 0 0, .int .i64 0, .int .i64 0] #[.int .i64 0, .int .i64 0, .int .i64 0, .int .i64 0, .int .i64 0, .int .i64 0, .slice none 0 0, .string ⟨#[]⟩, .int .i64 0, .int .i64 0, .int .i64 0, .int .i64 0, .int .u64 0, .int .i64 0, .int .i64 0, .slice none 0 0, .int .i64 0, .int .i64 0] rfl rfl Hy3.out.b0 (by show 0 + 18 ≤ 18; omega) rfl (by kernel_rfl) rfl ?_; intro wz hkz hBz; have Hkz := Lib.hid hkz; have HBz := Lib.hid hBz; clear hkz hBz)
     refine bodyPost_ret (results_cell2 rfl _ _ g0 68 #[.int .i64 0, .int .i64 0, .int .i64 0, .int .i64 0, .int .i64 0, .int .i64 0, .slice none 0 0, .string ⟨#[]⟩, .int .i64 0, .int .i64 0, .int .i64 0, .int .i64 0, .int .u64 0, .int .i64 0, .int .i64 0, .slice none 0 0, .int .i64 0, .int .i64 0] _ rfl HBz.out Tryz.underlying68 rfl (by kernel_rfl)) rfl ?_
     exact mbad (by rw [HR3.out, if_neg (by first | (simp [hd]; done) | (simp at hd; simp [hd]; done))]) Hy3.out.keeps Hkz.out Hg0.out
    | true =>
     have hri := Lib.hid (rmright_any (⟨6, ⟨0, 0, 0, 0, 0, [], ⟨#[]⟩, 0, 0⟩, 0, 0, 0, a1, 0, [], 0, u1⟩ : MsgD) (.slice none 0 0) (.slice none 0 0) mx wy3 (HV.out [] (by simp)) Hsh.out (hkeepm.out _ Hy3.out.keeps))
     have HRg := Lib.hid (blk_range Hy3.out.b8)
     simp only [mCell, eCell, List.cons_append, List.nil_append] at hri
     generalize mrightS (⟨6, ⟨0, 0, 0, 0, 0, [], ⟨#[]⟩, 0, 0⟩, 0, 0, 0, a1, 0, [], 0, u1⟩ : MsgD) = mr at *
     go_wp2_with (refine wpList_load_g rfl 68 (.tmp 8) rfl g8 0 rfl _ _ HRg.out Tryz.underlying68 rfl (by kernel_rfl) ?_)
     refine hri.out.mono ?_
     rintro e w7 ⟨rfl, hb7⟩
     have H7 := Lib.hid (Hy3.out.more (Keeps.of_below hb7))
     have Hk7 : Hid (Keeps [] wy3 w7) := Keeps.of_below hb7
     clear hb7 hri HRg
     by_cases hmz : mr = 0
     ·subst hmz
      have HRg := Lib.hid (blk_range H7.out.b8)
      go_wp2_with (first | (refine wpList_load_mid rfl 68 (.tmp 8) rfl g8 0 rfl _ _ HRg.out Tryz.underlying68 rfl (by kernel_rfl) ?_) | (refine wpList_store_blk rfl 68 (.tmp 2) (.tmp 112) rfl g0 0 68 zeroR #[.int .i64 6, .int .i64 0, .int .i64 0, .int .i64 0, .int .i64 0, .int .i64 0, .slice none 0 0, .string ⟨#[]⟩, .int .i64 0, .int .i64 0, .int .i64 0, .int .i64 0, .int .u64 0, .int .i64 a1, .int .i64 0, .slice none 0 0, .int .i64 0, .int .i64 u1] #[.int .i64 6, .int .i64 0, .int .i64 0, .int .i64 0, .int .i64 0, .int .i64 0, .slice none 0 0, .string ⟨#[]⟩, .int .i64 0, .int .i64 0, .int .i64 0, .int .i64 0, .int .u64 0, .int .i64 a1, .int .i64 0, .slice none 0 0, .int .i64 0, .int .i64 u1] rfl rfl H7.out.b0 (by show 0 + 18 ≤ 18; omega) rfl (by kernel_rfl) rfl ?_; intro wz hkz hBz; have Hkz := Lib.hid hkz; have HBz := Lib.hid hBz; clear hkz hBz))
      refine bodyPost_ret (results_cell2 rfl _ _ g0 68 #[.int .i64 6, .int .i64 0, .int .i64 0, .int .i64 0, .int .i64 0, .int .i64 0, .slice none 0 0, .string ⟨#[]⟩, .int .i64 0, .int .i64 0, .int .i64 0, .int .i64 0, .int .u64 0, .int .i64 a1, .int .i64 0, .slice none 0 0, .int .i64 0, .int .i64 u1] _ rfl HBz.out Tryz.underlying68 rfl (by kernel_rfl)) rfl ?_
      have hRf : R = ((⟨6, ⟨0, 0, 0, 0, 0, [], ⟨#[]⟩, 0, 0⟩, 0, 0, 0, a1, 0, [], 0, u1⟩ : MsgD), 0) := by rw [HR3.out, if_pos (by first | (simp [hd]; done) | (simp at hd; simp [hd]; done))]
      rw [hRf]
      refine ⟨.slice none 0 0, .slice none 0 0, rfl, fun M hM => ?_, (H7.out.keeps.trans Hkz.out (by intro q hq; simp at hq; right; have := Hg0.out; omega) : Keeps [] w wz).below⟩
      have ho0 := H7.out.o0; have ho1 := H7.out.o1; have ho2 := H7.out.o2
      exact (((HV.out (g0 :: M) (by intro q hq; rcases List.mem_cons.1 hq with rfl | hq; omega; have := hM q hq; omega)).keep Hk7.out (by simp)).keep Hkz.out (by simp)).avoid (fun q hq => .inl (List.mem_cons_of_mem _ hq))
     ·have hmn : ((mr : Int) != 0) = true := by rw [bne_iff_ne]; omega
      go_wp2_with (refine wpList_store_blk rfl 68 (.tmp 2) (.tmp 111) rfl g0 0 68 zeroR #[.int .i64 0, .int .i64 0, .int .i64 0, .int .i64 0, .int .i64 0, .int .i64 0, .slice none 0 0, .string ⟨#[]⟩, .int .i64 0, .int .i64 0, .int .i64 0, .int .i64 0, .int .u64 0, .int .i64 0, .int .i64 0, .slice none 0 0, .int .i64 0, .int .i64 0] #[.int .i64 0, .int .i64 0, .int .i64 0, .int .i64 0, .int .i64 0, .int .i64 0, .slice none 0 0, .string ⟨#[]⟩, .int .i64 0, .int .i64 0, .int .i64 0, .int .i64 0, .int .u64 0, .int .i64 0, .int .i64 0, .slice none 0 0, .int .i64 0, .int .i64 0] rfl rfl H7.out.b0 (by show 0 + 18 ≤ 18; omega) rfl (by kernel_rfl) rfl ?_; intro wz hkz hBz; have Hkz := Lib.hid hkz; have HBz := Lib.hid hBz; clear hkz hBz)
      refine bodyPost_ret (results_cell2 rfl _ _ g0 68 #[.int .i64 0, .int .i64 0, .int .i64 0, .int .i64 0, .int .i64 0, .int .i64 0, .slice none 0 0, .string ⟨#[]⟩, .int .i64 0, .int .i64 0, .int .i64 0, .int .i64 0, .int .u64 0, .int .i64 0, .int .i64 0, .slice none 0 0, .int .i64 0, .int .i64 0] _ rfl HBz.out Tryz.underlying68 rfl (by kernel_rfl)) rfl ?_
      exact mbad (by rw [HR3.out, if_neg (by simp [hmz])]) H7.out.keeps Hkz.out Hg0.out
   by_cases hk2 : k = 2
   ·subst hk2
    obtain ⟨a, u, d, ha, hu, hd, he⟩ : ∃ a u d, a = intS y2 y3 ∧ u = intS a.2.1 a.2.2 ∧ d = numS u.2.1 u.2.2 ∧ rmreadS 2 y2 y3 = ((⟨2, ⟨0, 0, 0, 0, 0, [], ⟨#[]⟩, 0, 0⟩, a.1, u.1, d.1, 0, 0, [], 0, 0⟩ : MsgD), true, d.2) := ⟨_, _, _, rfl, rfl, rfl, rfl⟩
    rw [he] at HR2 hsh
    have Hsh := Lib.hid hsh
    have H_a := Lib.hid ha; have H_u := Lib.hid hu; have H_d := Lib.hid hd
    clear ha hu hd he hsh
    go_wp2_with (refine wpList_store_blk rfl 68 (.tmp 8) (.tmp 31) rfl w4.heap.size 0 68 _ #[.int .i64 2, .int .i64 0, .int .i64 0, .int .i64 0, .int .i64 0, .int .i64 0, .slice none 0 0, .string ⟨#[]⟩, .int .i64 0, .int .i64 0, .int .i64 0, .int .i64 0, .int .u64 0, .int .i64 0, .int .i64 0, .slice none 0 0, .int .i64 0, .int .i64 0] #[.int .i64 2, .int .i64 0, .int .i64 0, .int .i64 0, .int .i64 0, .int .i64 0, .slice none 0 0, .string ⟨#[]⟩, .int .i64 0, .int .i64 0, .int .i64 0, .int .i64 0, .int .u64 0, .int .i64 0, .int .i64 0, .slice none 0 0, .int .i64 0, .int .i64 0] rfl rfl (Blk.new _ _ _) (by show 0 + 18 ≤ 18; omega) rfl (by kernel_rfl) rfl ?_; intro w5 hk5 hB5; have H5 : Hid (ReM w w5 p g0 w4.heap.size y2 y3 #[.int .i64 2, .int .i64 0, .int .i64 0, .int .i64 0, .int .i64 0, .int .i64 0, .slice none 0 0, .string ⟨#[]⟩, .int .i64 0, .int .i64 0, .int .i64 0, .int .i64 0, .int .u64 0, .int .i64 0, .int .i64 0, .slice none 0 0, .int .i64 0, .int .i64 0]) := ⟨((HA4.out.avoid (M' := [w4.heap.size]) (by intro g hg; simp at hg; right; omega)).keep (M' := []) ((Keeps.refl _ _).alloc _) (by simp) (by simp)).keep hk5 (by simp) (by simp; omega), (HK4.out.alloc _).trans hk5 (by intro q hq; simp at hq; right; have := HK4.out.size; omega), hk5.blk (HB4.out.below (below_new' w4 _) HB4.out.lt) (by simp; have := HB4.out.lt; omega), hB5, by have := Hg0.out; omega, by omega, hp4⟩; clear hk5 hB5; obtain ⟨q0, q1, q2, q3, q4, q5, q6, q7, q8, q9, qa, qb, qc, qd, qe, qf, qg, qh, qz⟩ := blk18 H5.out.b8)
    clear q0 q1 q2 q3 q4 q5 q6 q7 q8 q9 qa qb qc qd qe qf qg qh qz
    generalize w4.heap.size = g8 at *
    have hct := Lib.hid (rrint_any [g8] p y2 y3 w5 H5.out.rd)
    rw [← H_a.out] at hct
    obtain ⟨a1, a2, a3⟩ := a
    simp only [] at hct H_u H_d HR2 Hsh
    refine hct.out.mono ?_
    rintro e wz4 ⟨rfl, hA, hk⟩
    have Hz4 := Lib.hid (H5.out.step hA hk)
    clear hA hk H5 hct H_a
    obtain ⟨q0, q1, q2, q3, q4, q5, q6, q7, q8, q9, qa, qb, qc, qd, qe, qf, qg, qh, qz⟩ := blk18 Hz4.out.b8
    have Hy4 : Hid (ReM w (wz4.setCell ⟨g8, 10, none⟩ (.int .i64 a1)) p g0 g8 a2 a3 #[.int .i64 2, .int .i64 0, .int .i64 0, .int .i64 0, .int .i64 0, .int .i64 0, .slice none 0 0, .string ⟨#[]⟩, .int .i64 0, .int .i64 0, .int .i64 a1, .int .i64 0, .int .u64 0, .int .i64 0, .int .i64 0, .slice none 0 0, .int .i64 0, .int .i64 0]) := (by simpa using Hz4.out.set 10 (.int .i64 a1) : ReM w _ p g0 g8 a2 a3 _)
    clear Hz4
    go_wp2_with fail
    generalize hgw : wz4.setCell ⟨g8, 10, none⟩ (.int .i64 a1) = wy4 at *
    clear hgw q0 q1 q2 q3 q4 q5 q6 q7 q8 q9 qa qb qc qd qe qf qg qh qz
    have hct := Lib.hid (rrint_any [g8] p a2 a3 wy4 Hy4.out.rd)
    rw [← H_u.out] at hct
    obtain ⟨u1, u2, u3⟩ := u
    simp only [] at hct H_d HR2 Hsh
    refine hct.out.mono ?_
    rintro e wz5 ⟨rfl, hA, hk⟩
    have Hz5 := Lib.hid (Hy4.out.step hA hk)
    clear hA hk Hy4 hct H_u
    obtain ⟨q0, q1, q2, q3, q4, q5, q6, q7, q8, q9, qa, qb, qc, qd, qe, qf, qg, qh, qz⟩ := blk18 Hz5.out.b8
    have Hy5 : Hid (ReM w (wz5.setCell ⟨g8, 11, none⟩ (.int .i64 u1)) p g0 g8 u2 u3 #[.int .i64 2, .int .i64 0, .int .i64 0, .int .i64 0, .int .i64 0, .int .i64 0, .slice none 0 0, .string ⟨#[]⟩, .int .i64 0, .int .i64 0, .int .i64 a1, .int .i64 u1, .int .u64 0, .int .i64 0, .int .i64 0, .slice none 0 0, .int .i64 0, .int .i64 0]) := (by simpa using Hz5.out.set 11 (.int .i64 u1) : ReM w _ p g0 g8 u2 u3 _)
    clear Hz5
    go_wp2_with fail
    generalize hgw : wz5.setCell ⟨g8, 11, none⟩ (.int .i64 u1) = wy5 at *
    clear hgw q0 q1 q2 q3 q4 q5 q6 q7 q8 q9 qa qb qc qd qe qf qg qh qz
    have hct := Lib.hid (rnum_any [g8] p u2 u3 wy5 Hy5.out.rd)
    rw [← H_d.out] at hct
    obtain ⟨d1, d2, d3⟩ := d
    simp only [] at hct  HR2 Hsh
    refine hct.out.mono ?_
    rintro e wz6 ⟨rfl, hA, hk⟩
    have Hz6 := Lib.hid (Hy5.out.step hA hk)
    clear hA hk Hy5 hct H_d
    obtain ⟨q0, q1, q2, q3, q4, q5, q6, q7, q8, q9, qa, qb, qc, qd, qe, qf, qg, qh, qz⟩ := blk18 Hz6.out.b8
    have Hy6 : Hid (ReM w (wz6.setCell ⟨g8, 12, none⟩ (.int .u64 d1)) p g0 g8 d2 d3 #[.int .i64 2, .int .i64 0, .int .i64 0, .int .i64 0, .int .i64 0, .int .i64 0, .slice none 0 0, .string ⟨#[]⟩, .int .i64 0, .int .i64 0, .int .i64 a1, .int .i64 u1, .int .u64 d1, .int .i64 0, .int .i64 0, .slice none 0 0, .int .i64 0, .int .i64 0]) := (by simpa using Hz6.out.set 12 (.int .u64 d1) : ReM w _ p g0 g8 d2 d3 _)
    clear Hz6
    go_wp2_with fail
    generalize hgw : wz6.setCell ⟨g8, 12, none⟩ (.int .u64 d1) = wy6 at *
    clear hgw q0 q1 q2 q3 q4 q5 q6 q7 q8 q9 qa qb qc qd qe qf qg qh qz
    have HR3 := Lib.hid HR2.out
    clear HR2
    have HV : Hid (∀ M, (∀ g ∈ M, g ≤ g8) → MsgAt wy6 M (⟨2, ⟨0, 0, 0, 0, 0, [], ⟨#[]⟩, 0, 0⟩, a1, u1, d1, 0, 0, [], 0, 0⟩ : MsgD) (.slice none 0 0) (.slice none 0 0)) := fun M _ => ⟨Ds.nil _ _, Ens.nil _ _⟩
    have hdw := Lib.hid (rdone_any [g8] p d2 d3 wy6 Hy6.out.rd)
    refine hdw.out.mono ?_
    rintro r w' ⟨rfl, rfl⟩
    clear hdw
    cases hd : (!d3 && (d2).isEmpty) with
    | false =>
     go_wp2_with (refine wpList_store_blk rfl 68 (.tmp 2) (.tmp 111) rfl g0 0 68 zeroR #[.int .i64 0, .int .i64 0, .int .i64 0, .int .i64 0, .int .i64 0, .int .i64 0, .slice none 0 0, .string ⟨#[]⟩, .int .i64 0, .int .i64 0, .int .i64 0, .int .i64 0, .int .u64 0, .int .i64 0, .int .i64 0, .slice none 0 0, .int .i64 0, .int .i64 0] #[.int .i64 0, .int .i64 0, .int .i64 0, .int .i64 0, .int .i64 0, .int .i64 0, .slice none 0 0, .string ⟨#[]⟩, .int .i64 0, .int .i64 0, .int .i64 0, .int .i64 0, .int .u64 0, .int .i64 0, .int .i64 0, .slice none 0 0, .int .i64 0, .int .i64 0] rfl rfl Hy6.out.b0 (by show 0 + 18 ≤ 18; omega) rfl (by kernel_rfl) rfl ?_; intro wz hkz hBz; have Hkz := Lib.hid hkz; have HBz := Lib.hid hBz; clear hkz hBz)
     refine bodyPost_ret (results_cell2 rfl _ _ g0 68 #[.int .i64 0, .int .i64 0, .int .i64 0, .int .i64 0, .int .i64 0, .int .i64 0, .slice none 0 0, .string ⟨#[]⟩, .int .i64 0, .int .i64 0, .int .i64 0, .int .i64 0, .int .u64 0, .int .i64 0, .int .i64 0, .slice none 0 0, .int .i64 0, .int .i64 0] _ rfl HBz.out Tryz.underlying68 rfl (by kernel_rfl)) rfl ?_
     exact mbad (by rw [HR3.out, if_neg (by first | (simp [hd]; done) | (simp at hd; simp [hd]; done))]) Hy6.out.keeps Hkz.out Hg0.out
    | true =>
     have hri := Lib.hid (rmright_any (⟨2, ⟨0, 0, 0, 0, 0, [], ⟨#[]⟩, 0, 0⟩, a1, u1, d1, 0, 0, [], 0, 0⟩ : MsgD) (.slice none 0 0) (.slice none 0 0) mx wy6 (HV.out [] (by simp)) Hsh.out (hkeepm.out _ Hy6.out.keeps))
     have HRg := Lib.hid (blk_range Hy6.out.b8)
     simp only [mCell, eCell, List.cons_append, List.nil_append] at hri
     generalize mrightS (⟨2, ⟨0, 0, 0, 0, 0, [], ⟨#[]⟩, 0, 0⟩, a1, u1, d1, 0, 0, [], 0, 0⟩ : MsgD) = mr at *
     go_wp2_with (refine wpList_load_g rfl 68 (.tmp 8) rfl g8 0 rfl _ _ HRg.out Tryz.underlying68 rfl (by kernel_rfl) ?_)
     refine hri.out.mono ?_
     rintro e w7 ⟨rfl, hb7⟩
     have H7 := Lib.hid (Hy6.out.more (Keeps.of_below hb7))
     have Hk7 : Hid (Keeps [] wy6 w7) := Keeps.of_below hb7
     clear hb7 hri HRg
     by_cases hmz : mr = 0
     ·subst hmz
      have HRg := Lib.hid (blk_range H7.out.b8)
      go_wp2_with (first | (refine wpList_load_mid rfl 68 (.tmp 8) rfl g8 0 rfl _ _ HRg.out Tryz.underlying68 rfl (by kernel_rfl) ?_) | (refine wpList_store_blk rfl 68 (.tmp 2) (.tmp 112) rfl g0 0 68 zeroR #[.int .i64 2, .int .i64 0, .int .i64 0, .int .i64 0, .int .i64 0, .int .i64 0, .slice none 0 0, .string ⟨#[]⟩, .int .i64 0, .int .i64 0, .int .i64 a1, .int .i64 u1, .int .u64 d1, .int .i64 0, .int .i64 0, .slice none 0 0, .int .i64 0, .int .i64 0] #[.int .i64 2, .int .i64 0, .int .i64 0, .int .i64 0, .int .i64 0, .int .i64 0, .slice none 0 0, .string ⟨#[]⟩, .int .i64 0, .int .i64 0, .int .i64 a1, .int .i64 u1, .int .u64 d1, .int .i64 0, .int .i64 0, .slice none 0 0, .int .i64 0, .int .i64 0] rfl rfl H7.out.b0 (by show 0 + 18 ≤ 18; omega) rfl (by kernel_rfl) rfl ?_; intro wz hkz hBz; have Hkz := Lib.hid hkz; have HBz := Lib.hid hBz; clear hkz hBz))
      refine bodyPost_ret (results_cell2 rfl _ _ g0 68 #[.int .i64 2, .int .i64 0, .int .i64 0, .int .i64 0, .int .i64 0, .int .i64 0, .slice none 0 0, .string ⟨#[]⟩, .int .i64 0, .int .i64 0, .int .i64 a1, .int .i64 u1, .int .u64 d1, .int .i64 0, .int .i64 0, .slice none 0 0, .int .i64 0, .int .i64 0] _ rfl HBz.out Tryz.underlying68 rfl (by kernel_rfl)) rfl ?_
      have hRf : R = ((⟨2, ⟨0, 0, 0, 0, 0, [], ⟨#[]⟩, 0, 0⟩, a1, u1, d1, 0, 0, [], 0, 0⟩ : MsgD), 0) := by rw [HR3.out, if_pos (by first | (simp [hd]; done) | (simp at hd; simp [hd]; done))]
      rw [hRf]
      refine ⟨.slice none 0 0, .slice none 0 0, rfl, fun M hM => ?_, (H7.out.keeps.trans Hkz.out (by intro q hq; simp at hq; right; have := Hg0.out; omega) : Keeps [] w wz).below⟩
      have ho0 := H7.out.o0; have ho1 := H7.out.o1; have ho2 := H7.out.o2
      exact (((HV.out (g0 :: M) (by intro q hq; rcases List.mem_cons.1 hq with rfl | hq; omega; have := hM q hq; omega)).keep Hk7.out (by simp)).keep Hkz.out (by simp)).avoid (fun q hq => .inl (List.mem_cons_of_mem _ hq))
     ·have hmn : ((mr : Int) != 0) = true := by rw [bne_iff_ne]; omega
      go_wp2_with (refine wpList_store_blk rfl 68 (.tmp 2) (.tmp 111) rfl g0 0 68 zeroR #[.int .i64 0, .int .i64 0, .int .i64 0, .int .i64 0, .int .i64 0, .int .i64 0, .slice none 0 0, .string ⟨#[]⟩, .int .i64 0, .int .i64 0, .int .i64 0, .int .i64 0, .int .u64 0, .int .i64 0, .int .i64 0, .slice none 0 0, .int .i64 0, .int .i64 0] #[.int .i64 0, .int .i64 0, .int .i64 0, .int .i64 0, .int .i64 0, .int .i64 0, .slice none 0 0, .string ⟨#[]⟩, .int .i64 0, .int .i64 0, .int .i64 0, .int .i64 0, .int .u64 0, .int .i64 0, .int .i64 0, .slice none 0 0, .int .i64 0, .int .i64 0] rfl rfl H7.out.b0 (by show 0 + 18 ≤ 18; omega) rfl (by kernel_rfl) rfl ?_; intro wz hkz hBz; have Hkz := Lib.hid hkz; have HBz := Lib.hid hBz; clear hkz hBz)
      refine bodyPost_ret (results_cell2 rfl _ _ g0 68 #[.int .i64 0, .int .i64 0, .int .i64 0, .int .i64 0, .int .i64 0, .int .i64 0, .slice none 0 0, .string ⟨#[]⟩, .int .i64 0, .int .i64 0, .int .i64 0, .int .i64 0, .int .u64 0, .int .i64 0, .int .i64 0, .slice none 0 0, .int .i64 0, .int .i64 0] _ rfl HBz.out Tryz.underlying68 rfl (by kernel_rfl)) rfl ?_
      exact mbad (by rw [HR3.out, if_neg (by simp [hmz])]) H7.out.keeps Hkz.out Hg0.out
   by_cases hk4 : k = 4
   ·subst hk4
    obtain ⟨a, u, g, ha, hu, hg, he⟩ : ∃ a u g, a = intS y2 y3 ∧ u = intS a.2.1 a.2.2 ∧ g = rmgetS u.2.1 u.2.2 ∧ rmreadS 4 y2 y3 = ((⟨4, ⟨0, 0, 0, 0, 0, [], ⟨#[]⟩, 0, 0⟩, 0, 0, 0, a.1, u.1, g.1.getD [], 0, 0⟩ : MsgD), g.1.isSome && !g.2.2, g.2) := ⟨_, _, _, rfl, rfl, rfl, rfl⟩
    rw [he] at HR2 hsh
    have hl1 := intS_len y2 y3; have hl2 := intS_len a.2.1 a.2.2
    rw [← ha] at hl1; rw [← hu] at hl2
    have hl3 : u.2.1.length < 4294967281 := by omega
    have Hsh := Lib.hid hsh
    have H_a := Lib.hid ha; have H_u := Lib.hid hu; have H_g := Lib.hid hg
    clear ha hu hg he hsh hl1 hl2
    go_wp2_with (refine wpList_store_blk rfl 68 (.tmp 8) (.tmp 31) rfl w4.heap.size 0 68 _ #[.int .i64 4, .int .i64 0, .int .i64 0, .int .i64 0, .int .i64 0, .int .i64 0, .slice none 0 0, .string ⟨#[]⟩, .int .i64 0, .int .i64 0, .int .i64 0, .int .i64 0, .int .u64 0, .int .i64 0, .int .i64 0, .slice none 0 0, .int .i64 0, .int .i64 0] #[.int .i64 4, .int .i64 0, .int .i64 0, .int .i64 0, .int .i64 0, .int .i64 0, .slice none 0 0, .string ⟨#[]⟩, .int .i64 0, .int .i64 0, .int .i64 0, .int .i64 0, .int .u64 0, .int .i64 0, .int .i64 0, .slice none 0 0, .int .i64 0, .int .i64 0] rfl rfl (Blk.new _ _ _) (by show 0 + 18 ≤ 18; omega) rfl (by kernel_rfl) rfl ?_; intro w5 hk5 hB5; have H5 : Hid (ReM w w5 p g0 w4.heap.size y2 y3 #[.int .i64 4, .int .i64 0, .int .i64 0, .int .i64 0, .int .i64 0, .int .i64 0, .slice none 0 0, .string ⟨#[]⟩, .int .i64 0, .int .i64 0, .int .i64 0, .int .i64 0, .int .u64 0, .int .i64 0, .int .i64 0, .slice none 0 0, .int .i64 0, .int .i64 0]) := ⟨((HA4.out.avoid (M' := [w4.heap.size]) (by intro g hg; simp at hg; right; omega)).keep (M' := []) ((Keeps.refl _ _).alloc _) (by simp) (by simp)).keep hk5 (by simp) (by simp; omega), (HK4.out.alloc _).trans hk5 (by intro q hq; simp at hq; right; have := HK4.out.size; omega), hk5.blk (HB4.out.below (below_new' w4 _) HB4.out.lt) (by simp; have := HB4.out.lt; omega), hB5, by have := Hg0.out; omega, by omega, hp4⟩; clear hk5 hB5; obtain ⟨q0, q1, q2, q3, q4, q5, q6, q7, q8, q9, qa, qb, qc, qd, qe, qf, qg, qh, qz⟩ := blk18 H5.out.b8)
    clear q0 q1 q2 q3 q4 q5 q6 q7 q8 q9 qa qb qc qd qe qf qg qh qz
    generalize w4.heap.size = g8 at *
    have hct := Lib.hid (rrint_any [g8] p y2 y3 w5 H5.out.rd)
    rw [← H_a.out] at hct
    obtain ⟨a1, a2, a3⟩ := a
    simp only [] at hct H_u H_g hl3 HR2 Hsh
    refine hct.out.mono ?_
    rintro e wz7 ⟨rfl, hA, hk⟩
    have Hz7 := Lib.hid (H5.out.step hA hk)
    clear hA hk H5 hct H_a
    obtain ⟨q0, q1, q2, q3, q4, q5, q6, q7, q8, q9, qa, qb, qc, qd, qe, qf, qg, qh, qz⟩ := blk18 Hz7.out.b8
    have Hy7 : Hid (ReM w (wz7.setCell ⟨g8, 13, none⟩ (.int .i64 a1)) p g0 g8 a2 a3 #[.int .i64 4, .int .i64 0, .int .i64 0, .int .i64 0, .int .i64 0, .int .i64 0, .slice none 0 0, .string ⟨#[]⟩, .int .i64 0, .int .i64 0, .int .i64 0, .int .i64 0, .int .u64 0, .int .i64 a1, .int .i64 0, .slice none 0 0, .int .i64 0, .int .i64 0]) := (by simpa using Hz7.out.set 13 (.int .i64 a1) : ReM w _ p g0 g8 a2 a3 _)
    clear Hz7
    go_wp2_with fail
    generalize hgw : wz7.setCell ⟨g8, 13, none⟩ (.int .i64 a1) = wy7 at *
    clear hgw q0 q1 q2 q3 q4 q5 q6 q7 q8 q9 qa qb qc qd qe qf qg qh qz
    have hct := Lib.hid (rrint_any [g8] p a2 a3 wy7 Hy7.out.rd)
    rw [← H_u.out] at hct
    obtain ⟨u1, u2, u3⟩ := u
    simp only [] at hct H_g hl3 HR2 Hsh
    refine hct.out.mono ?_
    rintro e wz8 ⟨rfl, hA, hk⟩
    have Hz8 := Lib.hid (Hy7.out.step hA hk)
    clear hA hk Hy7 hct H_u
    obtain ⟨q0, q1, q2, q3, q4, q5, q6, q7, q8, q9, qa, qb, qc, qd, qe, qf, qg, qh, qz⟩ := blk18 Hz8.out.b8
    have Hy8 : Hid (ReM w (wz8.setCell ⟨g8, 14, none⟩ (.int .i64 u1)) p g0 g8 u2 u3 #[.int .i64 4, .int .i64 0, .int .i64 0, .int .i64 0, .int .i64 0, .int .i64 0, .slice none 0 0, .string ⟨#[]⟩, .int .i64 0, .int .i64 0, .int .i64 0, .int .i64 0, .int .u64 0, .int .i64 a1, .int .i64 u1, .slice none 0 0, .int .i64 0, .int .i64 0]) := (by simpa using Hz8.out.set 14 (.int .i64 u1) : ReM w _ p g0 g8 u2 u3 _)
    clear Hz8
    go_wp2_with fail
    generalize hgw : wz8.setCell ⟨g8, 14, none⟩ (.int .i64 u1) = wy8 at *
    clear hgw q0 q1 q2 q3 q4 q5 q6 q7 q8 q9 qa qb qc qd qe qf qg qh qz
    have hct := Lib.hid (rreadlog_any [g8] p u2 u3 wy8 Hy8.out.rd hl3)
    rw [← H_g.out] at hct
    obtain ⟨_ | es, x2, x3⟩ := g
    ·simp only [RMGetPost, Option.isSome, Bool.false_and] at hct HR2
     refine hct.out.mono ?_
     rintro e wx ⟨rfl, hk⟩
     have HRx : Hid (R = (zeroM, 12)) := by show R = _; rw [HR2.out]; exact if_neg (by simp)
     have ho := Lib.hid Hy8.out
     have HBx := Lib.hid (hk.blk ho.out.b0 (by have h1 := ho.out.o1; simp; omega))
     have HB8 := Lib.hid (hk.blk ho.out.b8 (by have h1 := ho.out.o2; simp; omega))
     have HKx : Hid (Keeps [] w wx) := ho.out.keeps.trans hk (by intro q hq; simp at hq; right; have h0 := ho.out.o0; have h1 := ho.out.o1; omega)
     have HK9 : Hid (Keeps [] w (wx.setCell ⟨g8, 15, none⟩ (.slice none 0 0))) := HKx.out.trans ((Keeps.refl [g8] wx).setCell (by simp) (.slice none 0 0)) (by intro q hq; simp at hq; right; have h0 := ho.out.o0; have h1 := ho.out.o1; have h2 := ho.out.o2; omega)
     have HB9 : Hid (Blk (wx.setCell ⟨g8, 15, none⟩ (.slice none 0 0)) g0 68 zeroR) := ((Keeps.refl [g8] wx).setCell (by simp) (.slice none 0 0)).blk HBx.out (by have h1 := ho.out.o1; have h2 := ho.out.o2; simp; omega)
     obtain ⟨q0, q1, q2, q3, q4, q5, q6, q7, q8, q9, qa, qb, qc, qd, qe, qf, qg, qh, qz⟩ := blk18 HB8.out
     clear hk hct HR2 HBx HKx Hy8 ho H_g HB8
     go_wp2_with (refine wpList_store_blk rfl 68 (.tmp 2) (.tmp 111) rfl g0 0 68 zeroR #[.int .i64 0, .int .i64 0, .int .i64 0, .int .i64 0, .int .i64 0, .int .i64 0, .slice none 0 0, .string ⟨#[]⟩, .int .i64 0, .int .i64 0, .int .i64 0, .int .i64 0, .int .u64 0, .int .i64 0, .int .i64 0, .slice none 0 0, .int .i64 0, .int .i64 0] #[.int .i64 0, .int .i64 0, .int .i64 0, .int .i64 0, .int .i64 0, .int .i64 0, .slice none 0 0, .string ⟨#[]⟩, .int .i64 0, .int .i64 0, .int .i64 0, .int .i64 0, .int .u64 0, .int .i64 0, .int .i64 0, .slice none 0 0, .int .i64 0, .int .i64 0] rfl rfl HB9.out (by show 0 + 18 ≤ 18; omega) rfl (by kernel_rfl) rfl ?_; intro wz hkz hBz; have Hkz := Lib.hid hkz; have HBz := Lib.hid hBz; clear hkz hBz)
     refine bodyPost_ret (results_cell2 rfl _ _ g0 68 #[.int .i64 0, .int .i64 0, .int .i64 0, .int .i64 0, .int .i64 0, .int .i64 0, .slice none 0 0, .string ⟨#[]⟩, .int .i64 0, .int .i64 0, .int .i64 0, .int .i64 0, .int .u64 0, .int .i64 0, .int .i64 0, .slice none 0 0, .int .i64 0, .int .i64 0] _ rfl HBz.out Tryz.underlying68 rfl (by kernel_rfl)) rfl ?_
     exact mbad (by rw [HRx.out]) HK9.out Hkz.out Hg0.out
    ·simp only [RMGetPost, Option.isSome, Bool.true_and, Option.getD] at hct HR2 Hsh
     refine hct.out.mono ?_
     rintro e wx ⟨v, rfl, hE, hA, hk⟩
     have hg8 := Hy8.out.b8.lt
     obtain ⟨Ba, ka, rfl, _⟩ := (hE [] (by simp)).len
     have HX := Lib.hid (Hy8.out.step hA hk)
     obtain ⟨q0, q1, q2, q3, q4, q5, q6, q7, q8, q9, qa, qb, qc, qd, qe, qf, qg, qh, qz⟩ := blk18 HX.out.b8
     have HY : Hid (ReM w (wx.setCell ⟨g8, 15, none⟩ (.slice Ba es.length ka)) p g0 g8 x2 x3 #[.int .i64 4, .int .i64 0, .int .i64 0, .int .i64 0, .int .i64 0, .int .i64 0, .slice none 0 0, .string ⟨#[]⟩, .int .i64 0, .int .i64 0, .int .i64 0, .int .i64 0, .int .u64 0, .int .i64 a1, .int .i64 u1, .slice Ba es.length ka, .int .i64 0, .int .i64 0]) := (by simpa using HX.out.set 15 (.slice Ba es.length ka) : ReM w _ p g0 g8 x2 x3 _)
     have HV : Hid (∀ M, (∀ g ∈ M, g ≤ g8) → MsgAt (wx.setCell ⟨g8, 15, none⟩ (.slice Ba es.length ka)) M (⟨4, ⟨0, 0, 0, 0, 0, [], ⟨#[]⟩, 0, 0⟩, 0, 0, 0, a1, u1, es, 0, 0⟩ : MsgD) (.slice none 0 0) (.slice Ba es.length ka)) := fun M hM => ⟨Ds.nil _ _, (((hE (g8 :: M) (by intro q hq; rcases List.mem_cons.1 hq with rfl | hq; omega; have := hM q hq; omega)).keep ((Keeps.refl [g8] wx).setCell (by simp) (.slice Ba es.length ka)) (by simp)).avoid (fun q hq => .inl (List.mem_cons_of_mem _ hq)) : Ens _ M _ es)⟩
     have HR3 := Lib.hid HR2.out
     clear hE hA hk hct HR2 HX Hy8 H_g
     cases x3 with
     | true =>
      go_wp2_with (refine wpList_store_blk rfl 68 (.tmp 2) (.tmp 111) rfl g0 0 68 zeroR #[.int .i64 0, .int .i64 0, .int .i64 0, .int .i64 0, .int .i64 0, .int .i64 0, .slice none 0 0, .string ⟨#[]⟩, .int .i64 0, .int .i64 0, .int .i64 0, .int .i64 0, .int .u64 0, .int .i64 0, .int .i64 0, .slice none 0 0, .int .i64 0, .int .i64 0] #[.int .i64 0, .int .i64 0, .int .i64 0, .int .i64 0, .int .i64 0, .int .i64 0, .slice none 0 0, .string ⟨#[]⟩, .int .i64 0, .int .i64 0, .int .i64 0, .int .i64 0, .int .u64 0, .int .i64 0, .int .i64 0, .slice none 0 0, .int .i64 0, .int .i64 0] rfl rfl HY.out.b0 (by show 0 + 18 ≤ 18; omega) rfl (by kernel_rfl) rfl ?_; intro wz hkz hBz; have Hkz := Lib.hid hkz; have HBz := Lib.hid hBz; clear hkz hBz)
      refine bodyPost_ret (results_cell2 rfl _ _ g0 68 #[.int .i64 0, .int .i64 0, .int .i64 0, .int .i64 0, .int .i64 0, .int .i64 0, .slice none 0 0, .string ⟨#[]⟩, .int .i64 0, .int .i64 0, .int .i64 0, .int .i64 0, .int .u64 0, .int .i64 0, .int .i64 0, .slice none 0 0, .int .i64 0, .int .i64 0] _ rfl HBz.out Tryz.underlying68 rfl (by kernel_rfl)) rfl ?_
      exact mbad (by rw [HR3.out, if_neg (by simp)]) HY.out.keeps Hkz.out Hg0.out
     | false =>
      go_wp2_with fail
      generalize hgw : wx.setCell ⟨g8, 15, none⟩ (.slice Ba es.length ka) = wy at *
      clear hgw q0 q1 q2 q3 q4 q5 q6 q7 q8 q9 qa qb qc qd qe qf qg qh qz
      have hdw := Lib.hid (rdone_any [g8] p x2 false wy HY.out.rd)
      refine hdw.out.mono ?_
      rintro r w' ⟨rfl, rfl⟩
      clear hdw
      cases hd : (!false && (x2).isEmpty) with
      | false =>
       go_wp2_with (refine wpList_store_blk rfl 68 (.tmp 2) (.tmp 111) rfl g0 0 68 zeroR #[.int .i64 0, .int .i64 0, .int .i64 0, .int .i64 0, .int .i64 0, .int .i64 0, .slice none 0 0, .string ⟨#[]⟩, .int .i64 0, .int .i64 0, .int .i64 0, .int .i64 0, .int .u64 0, .int .i64 0, .int .i64 0, .slice none 0 0, .int .i64 0, .int .i64 0] #[.int .i64 0, .int .i64 0, .int .i64 0, .int .i64 0, .int .i64 0, .int .i64 0, .slice none 0 0, .string ⟨#[]⟩, .int .i64 0, .int .i64 0, .int .i64 0, .int .i64 0, .int .u64 0, .int .i64 0, .int .i64 0, .slice none 0 0, .int .i64 0, .int .i64 0] rfl rfl HY.out.b0 (by show 0 + 18 ≤ 18; omega) rfl (by kernel_rfl) rfl ?_; intro wz hkz hBz; have Hkz := Lib.hid hkz; have HBz := Lib.hid hBz; clear hkz hBz)
       refine bodyPost_ret (results_cell2 rfl _ _ g0 68 #[.int .i64 0, .int .i64 0, .int .i64 0, .int .i64 0, .int .i64 0, .int .i64 0, .slice none 0 0, .string ⟨#[]⟩, .int .i64 0, .int .i64 0, .int .i64 0, .int .i64 0, .int .u64 0, .int .i64 0, .int .i64 0, .slice none 0 0, .int .i64 0, .int .i64 0] _ rfl HBz.out Tryz.underlying68 rfl (by kernel_rfl)) rfl ?_
       exact mbad (by rw [HR3.out, if_neg (by first | (simp [hd]; done) | (simp at hd; simp [hd]; done))]) HY.out.keeps Hkz.out Hg0.out
      | true =>
       have hri := Lib.hid (rmright_any (⟨4, ⟨0, 0, 0, 0, 0, [], ⟨#[]⟩, 0, 0⟩, 0, 0, 0, a1, u1, es, 0, 0⟩ : MsgD) (.slice none 0 0) (.slice Ba es.length ka) mx wy (HV.out [] (by simp)) Hsh.out (hkeepm.out _ HY.out.keeps))
       have HRg := Lib.hid (blk_range HY.out.b8)
       simp only [mCell, eCell, List.cons_append, List.nil_append] at hri
       generalize mrightS (⟨4, ⟨0, 0, 0, 0, 0, [], ⟨#[]⟩, 0, 0⟩, 0, 0, 0, a1, u1, es, 0, 0⟩ : MsgD) = mr at *
       go_wp2_with (refine wpList_load_g rfl 68 (.tmp 8) rfl g8 0 rfl _ _ HRg.out Tryz.underlying68 rfl (by kernel_rfl) ?_)
       refine hri.out.mono ?_
       rintro e w7 ⟨rfl, hb7⟩
       have H7 := Lib.hid (HY.out.more (Keeps.of_below hb7))
       have Hk7 : Hid (Keeps [] wy w7) := Keeps.of_below hb7
       clear hb7 hri HRg
       by_cases hmz : mr = 0
       ·subst hmz
        have HRg := Lib.hid (blk_range H7.out.b8)
        go_wp2_with (first | (refine wpList_load_mid rfl 68 (.tmp 8) rfl g8 0 rfl _ _ HRg.out Tryz.underlying68 rfl (by kernel_rfl) ?_) | (refine wpList_store_blk rfl 68 (.tmp 2) (.tmp 112) rfl g0 0 68 zeroR #[.int .i64 4, .int .i64 0, .int .i64 0, .int .i64 0, .int .i64 0, .int .i64 0, .slice none 0 0, .string ⟨#[]⟩, .int .i64 0, .int .i64 0, .int .i64 0, .int .i64 0, .int .u64 0, .int .i64 a1, .int .i64 u1, .slice Ba es.length ka, .int .i64 0, .int .i64 0] #[.int .i64 4, .int .i64 0, .int .i64 0, .int .i64 0, .int .i64 0, .int .i64 0, .slice none 0 0, .string ⟨#[]⟩, .int .i64 0, .int .i64 0, .int .i64 0, .int .i64 0, .int .u64 0, .int .i64 a1, .int .i64 u1, .slice Ba es.length ka, .int .i64 0, .int .i64 0] rfl rfl H7.out.b0 (by show 0 + 18 ≤ 18; omega) rfl (by kernel_rfl) rfl ?_; intro wz hkz hBz; have Hkz := Lib.hid hkz; have HBz := Lib.hid hBz; clear hkz hBz))
        refine bodyPost_ret (results_cell2 rfl _ _ g0 68 #[.int .i64 4, .int .i64 0, .int .i64 0, .int .i64 0, .int .i64 0, .int .i64 0, .slice none 0 0, .string ⟨#[]⟩, .int .i64 0, .int .i64 0, .int .i64 0, .int .i64 0, .int .u64 0, .int .i64 a1, .int .i64 u1, .slice Ba es.length ka, .int .i64 0, .int .i64 0] _ rfl HBz.out Tryz.underlying68 rfl (by kernel_rfl)) rfl ?_
        have hRf : R = ((⟨4, ⟨0, 0, 0, 0, 0, [], ⟨#[]⟩, 0, 0⟩, 0, 0, 0, a1, u1, es, 0, 0⟩ : MsgD), 0) := by rw [HR3.out, if_pos (by first | (simp [hd]; done) | (simp at hd; simp [hd]; done))]
        rw [hRf]
        refine ⟨.slice none 0 0, .slice Ba es.length ka, rfl, fun M hM => ?_, (H7.out.keeps.trans Hkz.out (by intro q hq; simp at hq; right; have := Hg0.out; omega) : Keeps [] w wz).below⟩
        have ho0 := H7.out.o0; have ho1 := H7.out.o1; have ho2 := H7.out.o2
        exact (((HV.out (g0 :: M) (by intro q hq; rcases List.mem_cons.1 hq with rfl | hq; omega; have := hM q hq; omega)).keep Hk7.out (by simp)).keep Hkz.out (by simp)).avoid (fun q hq => .inl (List.mem_cons_of_mem _ hq))
       ·have hmn : ((mr : Int) != 0) = true := by rw [bne_iff_ne]; omega
        go_wp2_with (refine wpList_store_blk rfl 68 (.tmp 2) (.tmp 111) rfl g0 0 68 zeroR #[.int .i64 0, .int .i64 0, .int .i64 0, .int .i64 0, .int .i64 0, .int .i64 0, .slice none 0 0, .string ⟨#[]⟩, .int .i64 0, .int .i64 0, .int .i64 0, .int .i64 0, .int .u64 0, .int .i64 0, .int .i64 0, .slice none 0 0, .int .i64 0, .int .i64 0] #[.int .i64 0, .int .i64 0, .int .i64 0, .int .i64 0, .int .i64 0, .int .i64 0, .slice none 0 0, .string ⟨#[]⟩, .int .i64 0, .int .i64 0, .int .i64 0, .int .i64 0, .int .u64 0, .int .i64 0, .int .i64 0, .slice none 0 0, .int .i64 0, .int .i64 0] rfl rfl H7.out.b0 (by show 0 + 18 ≤ 18; omega) rfl (by kernel_rfl) rfl ?_; intro wz hkz hBz; have Hkz := Lib.hid hkz; have HBz := Lib.hid hBz; clear hkz hBz)
        refine bodyPost_ret (results_cell2 rfl _ _ g0 68 #[.int .i64 0, .int .i64 0, .int .i64 0, .int .i64 0, .int .i64 0, .int .i64 0, .slice none 0 0, .string ⟨#[]⟩, .int .i64 0, .int .i64 0, .int .i64 0, .int .i64 0, .int .u64 0, .int .i64 0, .int .i64 0, .slice none 0 0, .int .i64 0, .int .i64 0] _ rfl HBz.out Tryz.underlying68 rfl (by kernel_rfl)) rfl ?_
        exact mbad (by rw [HR3.out, if_neg (by simp [hmz])]) H7.out.keeps Hkz.out Hg0.out
   by_cases hk5 : k = 5
   ·subst hk5
    obtain ⟨a, u, g, ha, hu, hg, he⟩ : ∃ a u g, a = intS y2 y3 ∧ u = intS a.2.1 a.2.2 ∧ g = rmgetS u.2.1 u.2.2 ∧ rmreadS 5 y2 y3 = ((⟨5, ⟨0, 0, 0, 0, 0, [], ⟨#[]⟩, 0, 0⟩, 0, 0, 0, a.1, 0, g.1.getD [], u.1, 0⟩ : MsgD), g.1.isSome && !g.2.2, g.2) := ⟨_, _, _, rfl, rfl, rfl, rfl⟩
    rw [he] at HR2 hsh
    have hl1 := intS_len y2 y3; have hl2 := intS_len a.2.1 a.2.2
    rw [← ha] at hl1; rw [← hu] at hl2
    have hl3 : u.2.1.length < 4294967281 := by omega
    have Hsh := Lib.hid hsh
    have H_a := Lib.hid ha; have H_u := Lib.hid hu; have H_g := Lib.hid hg
    clear ha hu hg he hsh hl1 hl2
    go_wp2_with (refine wpList_store_blk rfl 68 (.tmp 8) (.tmp 31) rfl w4.heap.size 0 68 _ #[.int .i64 5, .int .i64 0, .int .i64 0, .int .i64 0, .int .i64 0, .int .i64 0, .slice none 0 0, .string ⟨#[]⟩, .int .i64 0, .int .i64 0, .int .i64 0, .int .i64 0, .int .u64 0, .int .i64 0, .int .i64 0, .slice none 0 0, .int .i64 0, .int .i64 0] #[.int .i64 5, .int .i64 0, .int .i64 0, .int .i64 0, .int .i64 0, .int .i64 0, .slice none 0 0, .string ⟨#[]⟩, .int .i64 0, .int .i64 0, .int .i64 0, .int .i64 0, .int .u64 0, .int .i64 0, .int .i64 0, .slice none 0 0, .int .i64 0, .int .i64 0] rfl rfl (Blk.new _ _ _) (by show 0 + 18 ≤ 18; omega) rfl (by kernel_rfl) rfl ?_; intro w5 hk5 hB5; have H5 : Hid (ReM w w5 p g0 w4.heap.size y2 y3 #[.int .i64 5, .int .i64 0, .int .i64 0, .int .i64 0, .int .i64 0, .int .i64 0, .slice none 0 0, .string ⟨#[]⟩, .int .i64 0, .int .i64 0, .int .i64 0, .int .i64 0, .int .u64 0, .int .i64 0, .int .i64 0, .slice none 0 0, .int .i64 0, .int .i64 0]) := ⟨((HA4.out.avoid (M' := [w4.heap.size]) (by intro g hg; simp at hg; right; omega)).keep (M' := []) ((Keeps.refl _ _).alloc _) (by simp) (by simp)).keep hk5 (by simp) (by simp; omega), (HK4.out.alloc _).trans hk5 (by intro q hq; simp at hq; right; have := HK4.out.size; omega), hk5.blk (HB4.out.below (below_new' w4 _) HB4.out.lt) (by simp; have := HB4.out.lt; omega), hB5, by have := Hg0.out; omega, by omega, hp4⟩; clear hk5 hB5; obtain ⟨q0, q1, q2, q3, q4, q5, q6, q7, q8, q9, qa, qb, qc, qd, qe, qf, qg, qh, qz⟩ := blk18 H5.out.b8)
    clear q0 q1 q2 q3 q4 q5 q6 q7 q8 q9 qa qb qc qd qe qf qg qh qz
    generalize w4.heap.size = g8 at *
    have hct := Lib.hid (rrint_any [g8] p y2 y3 w5 H5.out.rd)
    rw [← H_a.out] at hct
    obtain ⟨a1, a2, a3⟩ := a
    simp only [] at hct H_u H_g hl3 HR2 Hsh
    refine hct.out.mono ?_
    rintro e wz9 ⟨rfl, hA, hk⟩
    have Hz9 := Lib.hid (H5.out.step hA hk)
    clear hA hk H5 hct H_a
    obtain ⟨q0, q1, q2, q3, q4, q5, q6, q7, q8, q9, qa, qb, qc, qd, qe, qf, qg, qh, qz⟩ := blk18 Hz9.out.b8
    have Hy9 : Hid (ReM w (wz9.setCell ⟨g8, 13, none⟩ (.int .i64 a1)) p g0 g8 a2 a3 #[.int .i64 5, .int .i64 0, .int .i64 0, .int .i64 0, .int .i64 0, .int .i64 0, .slice none 0 0, .string ⟨#[]⟩, .int .i64 0, .int .i64 0, .int .i64 0, .int .i64 0, .int .u64 0, .int .i64 a1, .int .i64 0, .slice none 0 0, .int .i64 0, .int .i64 0]) := (by simpa using Hz9.out.set 13 (.int .i64 a1) : ReM w _ p g0 g8 a2 a3 _)
    clear Hz9
    go_wp2_with fail
    generalize hgw : wz9.setCell ⟨g8, 13, none⟩ (.int .i64 a1) = wy9 at *
    clear hgw q0 q1 q2 q3 q4 q5 q6 q7 q8 q9 qa qb qc qd qe qf qg qh qz
    have hct := Lib.hid (rrint_any [g8] p a2 a3 wy9 Hy9.out.rd)
    rw [← H_u.out] at hct
    obtain ⟨u1, u2, u3⟩ := u
    simp only [] at hct H_g hl3 HR2 Hsh
    refine hct.out.mono ?_
    rintro e wz10 ⟨rfl, hA, hk⟩
    have Hz10 := Lib.hid (Hy9.out.step hA hk)
    clear hA hk Hy9 hct H_u
    obtain ⟨q0, q1, q2, q3, q4, q5, q6, q7, q8, q9, qa, qb, qc, qd, qe, qf, qg, qh, qz⟩ := blk18 Hz10.out.b8
    have Hy10 : Hid (ReM w (wz10.setCell ⟨g8, 16, none⟩ (.int .i64 u1)) p g0 g8 u2 u3 #[.int .i64 5, .int .i64 0, .int .i64 0, .int .i64 0, .int .i64 0, .int .i64 0, .slice none 0 0, .string ⟨#[]⟩, .int .i64 0, .int .i64 0, .int .i64 0, .int .i64 0, .int .u64 0, .int .i64 a1, .int .i64 0, .slice none 0 0, .int .i64 u1, .int .i64 0]) := (by simpa using Hz10.out.set 16 (.int .i64 u1) : ReM w _ p g0 g8 u2 u3 _)
    clear Hz10
    go_wp2_with fail
    generalize hgw : wz10.setCell ⟨g8, 16, none⟩ (.int .i64 u1) = wy10 at *
    clear hgw q0 q1 q2 q3 q4 q5 q6 q7 q8 q9 qa qb qc qd qe qf qg qh qz
    have hct := Lib.hid (rreadlog_any [g8] p u2 u3 wy10 Hy10.out.rd hl3)
    rw [← H_g.out] at hct
    obtain ⟨_ | es, x2, x3⟩ := g
    ·simp only [RMGetPost, Option.isSome, Bool.false_and] at hct HR2
     refine hct.out.mono ?_
     rintro e wx ⟨rfl, hk⟩
     have HRx : Hid (R = (zeroM, 12)) := by show R = _; rw [HR2.out]; exact if_neg (by simp)
     have ho := Lib.hid Hy10.out
     have HBx := Lib.hid (hk.blk ho.out.b0 (by have h1 := ho.out.o1; simp; omega))
     have HB8 := Lib.hid (hk.blk ho.out.b8 (by have h1 := ho.out.o2; simp; omega))
     have HKx : Hid (Keeps [] w wx) := ho.out.keeps.trans hk (by intro q hq; simp at hq; right; have h0 := ho.out.o0; have h1 := ho.out.o1; omega)
     have HK9 : Hid (Keeps [] w (wx.setCell ⟨g8, 15, none⟩ (.slice none 0 0))) := HKx.out.trans ((Keeps.refl [g8] wx).setCell (by simp) (.slice none 0 0)) (by intro q hq; simp at hq; right; have h0 := ho.out.o0; have h1 := ho.out.o1; have h2 := ho.out.o2; omega)
     have HB9 : Hid (Blk (wx.setCell ⟨g8, 15, none⟩ (.slice none 0 0)) g0 68 zeroR) := ((Keeps.refl [g8] wx).setCell (by simp) (.slice none 0 0)).blk HBx.out (by have h1 := ho.out.o1; have h2 := ho.out.o2; simp; omega)
     obtain ⟨q0, q1, q2, q3, q4, q5, q6, q7, q8, q9, qa, qb, qc, qd, qe, qf, qg, qh, qz⟩ := blk18 HB8.out
     clear hk hct HR2 HBx HKx Hy10 ho H_g HB8
     go_wp2_with (refine wpList_store_blk rfl 68 (.tmp 2) (.tmp 111) rfl g0 0 68 zeroR #[.int .i64 0, .int .i64 0, .int .i64 0, .int .i64 0, .int .i64 0, .int .i64 0, .slice none 0 0, .string ⟨#[]⟩, .int .i64 0, .int .i64 0, .int .i64 0, .int .i64 0, .int .u64 0, .int .i64 0, .int .i64 0, .slice none 0 0, .int .i64 0, .int .i64 0] #[.int .i64 0, .int .i64 0, .int .i64 0, .int .i64 0, .int .i64 0, .int .i64 0, .slice none 0 0, .string ⟨#[]⟩, .int .i64 0, .int .i64 0, .int .i64 0, .int .i64 0, .int .u64 0, .int .i64 0, .int .i64 0, .slice none 0 0, .int .i64 0, .int .i64 0] rfl rfl HB9.out (by show 0 + 18 ≤ 18; omega) rfl (by kernel_rfl) rfl ?_; intro wz hkz hBz; have Hkz := Lib.hid hkz; have HBz := Lib.hid hBz; clear hkz hBz)
     refine bodyPost_ret (results_cell2 rfl _ _ g0 68 #[.int .i64 0, .int .i64 0, .int .i64 0, .int .i64 0, .int .i64 0, .int .i64 0, .slice none 0 0, .string ⟨#[]⟩, .int .i64 0, .int .i64 0, .int .i64 0, .int .i64 0, .int .u64 0, .int .i64 0, .int .i64 0, .slice none 0 0, .int .i64 0, .int .i64 0] _ rfl HBz.out Tryz.underlying68 rfl (by kernel_rfl)) rfl ?_
     exact mbad (by rw [HRx.out]) HK9.out Hkz.out Hg0.out
    ·simp only [RMGetPost, Option.isSome, Bool.true_and, Option.getD] at hct HR2 Hsh
     refine hct.out.mono ?_
     rintro e wx ⟨v, rfl, hE, hA, hk⟩
     have hg8 := Hy10.out.b8.lt
     obtain ⟨Ba, ka, rfl, _⟩ := (hE [] (by simp)).len
     have HX := Lib.hid (Hy10.out.step hA hk)
     obtain ⟨q0, q1, q2, q3, q4, q5, q6, q7, q8, q9, qa, qb, qc, qd, qe, qf, qg, qh, qz⟩ := blk18 HX.out.b8
     have HY : Hid (ReM w (wx.setCell ⟨g8, 15, none⟩ (.slice Ba es.length ka)) p g0 g8 x2 x3 #[.int .i64 5, .int .i64 0, .int .i64 0, .int .i64 0, .int .i64 0, .int .i64 0, .slice none 0 0, .string ⟨#[]⟩, .int .i64 0, .int .i64 0, .int .i64 0, .int .i64 0, .int .u64 0, .int .i64 a1, .int .i64 0, .slice Ba es.length ka, .int .i64 u1, .int .i64 0]) := (by simpa using HX.out.set 15 (.slice Ba es.length ka) : ReM w _ p g0 g8 x2 x3 _)
     have HV : Hid (∀ M, (∀ g ∈ M, g ≤ g8) → MsgAt (wx.setCell ⟨g8, 15, none⟩ (.slice Ba es.length ka)) M (⟨5, ⟨0, 0, 0, 0, 0, [], ⟨#[]⟩, 0, 0⟩, 0, 0, 0, a1, 0, es, u1, 0⟩ : MsgD) (.slice none 0 0) (.slice Ba es.length ka)) := fun M hM => ⟨Ds.nil _ _, (((hE (g8 :: M) (by intro q hq; rcases List.mem_cons.1 hq with rfl | hq; omega; have := hM q hq; omega)).keep ((Keeps.refl [g8] wx).setCell (by simp) (.slice Ba es.length ka)) (by simp)).avoid (fun q hq => .inl (List.mem_cons_of_mem _ hq)) : Ens _ M _ es)⟩
     have HR3 := Lib.hid HR2.out
     clear hE hA hk hct HR2 HX Hy10 H_g
     cases x3 with
     | true =>
      go_wp2_with (refine wpList_store_blk rfl 68 (.tmp 2) (.tmp 111) rfl g0 0 68 zeroR #[.int .i64 0, .int .i64 0, .int .i64 0, .int .i64 0, .int .i64 0, .int .i64 0, .slice none 0 0, .string ⟨#[]⟩, .int .i64 0, .int .i64 0, .int .i64 0, .int .i64 0, .int .u64 0, .int .i64 0, .int .i64 0, .slice none 0 0, .int .i64 0, .int .i64 0] #[.int .i64 0, .int .i64 0, .int .i64 0, .int .i64 0, .int .i64 0, .int .i64 0, .slice none 0 0, .string ⟨#[]⟩, .int .i64 0, .int .i64 0, .int .i64 0, .int .i64 0, .int .u64 0, .int .i64 0, .int .i64 0, .slice none 0 0, .int .i64 0, .int .i64 0] rfl rfl HY.out.b0 (by show 0 + 18 ≤ 18; omega) rfl (by kernel_rfl) rfl ?_; intro wz hkz hBz; have Hkz := Lib.hid hkz; have HBz := Lib.hid hBz; clear hkz hBz)
      refine bodyPost_ret (results_cell2 rfl _ _ g0 68 #[.int .i64 0, .int .i64 0, .int .i64 0, .int .i64 0, .int .i64 0, .int .i64 0, .slice none 0 0, .string ⟨#[]⟩, .int .i64 0, .int .i64 0, .int .i64 0, .int .i64 0, .int .u64 0, .int .i64 0, .int .i64 0, .slice none 0 0, .int .i64 0, .int .i64 0] _ rfl HBz.out Tryz.underlying68 rfl (by kernel_rfl)) rfl ?_
      exact mbad (by rw [HR3.out, if_neg (by simp)]) HY.out.keeps Hkz.out Hg0.out
     | false =>
      go_wp2_with fail
      generalize hgw : wx.setCell ⟨g8, 15, none⟩ (.slice Ba es.length ka) = wy at *
      clear hgw q0 q1 q2 q3 q4 q5 q6 q7 q8 q9 qa qb qc qd qe qf qg qh qz
      have hdw := Lib.hid (rdone_any [g8] p x2 false wy HY.out.rd)
      refine hdw.out.mono ?_
      rintro r w' ⟨rfl, rfl⟩
      clear hdw
      cases hd : (!false && (x2).isEmpty) with
      | false =>
       go_wp2_with (refine wpList_store_blk rfl 68 (.tmp 2) (.tmp 111) rfl g0 0 68 zeroR #[.int .i64 0, .int .i64 0, .int .i64 0, .int .i64 0, .int .i64 0, .int .i64 0, .slice none 0 0, .string ⟨#[]⟩, .int .i64 0, .int .i64 0, .int .i64 0, .int .i64 0, .int .u64 0, .int .i64 0, .int .i64 0, .slice none 0 0, .int .i64 0, .int .i64 0] #[.int .i64 0, .int .i64 0, .int .i64 0, .int .i64 0, .int .i64 0, .int .i64 0, .slice none 0 0, .string ⟨#[]⟩, .int .i64 0, .int .i64 0, .int .i64 0, .int .i64 0, .int .u64 0, .int .i64 0, .int .i64 0, .slice none 0 0, .int .i64 0, .int .i64 0] rfl rfl HY.out.b0 (by show 0 + 18 ≤ 18; omega) rfl (by kernel_rfl) rfl ?_; intro wz hkz hBz; have Hkz := Lib.hid hkz; have HBz := Lib.hid hBz; clear hkz hBz)
       refine bodyPost_ret (results_cell2 rfl _ _ g0 68 #[.int .i64 0, .int .i64 0, .int .i64 0, .int .i64 0, .int .i64 0, .int .i64 0, .slice none 0 0, .string ⟨#[]⟩, .int .i64 0, .int .i64 0, .int .i64 0, .int .i64 0, .int .u64 0, .int .i64 0, .int .i64 0, .slice none 0 0, .int .i64 0, .int .i64 0] _ rfl HBz.out Tryz.underlying68 rfl (by kernel_rfl)) rfl ?_
       exact mbad (by rw [HR3.out, if_neg (by first | (simp [hd]; done) | (simp at hd; simp [hd]; done))]) HY.out.keeps Hkz.out Hg0.out
      | true =>
       have hri := Lib.hid (rmright_any (⟨5, ⟨0, 0, 0, 0, 0, [], ⟨#[]⟩, 0, 0⟩, 0, 0, 0, a1, 0, es, u1, 0⟩ : MsgD) (.slice none 0 0) (.slice Ba es.length ka) mx wy (HV.out [] (by simp)) Hsh.out (hkeepm.out _ HY.out.keeps))
       have HRg := Lib.hid (blk_range HY.out.b8)
       simp only [mCell, eCell, List.cons_append, List.nil_append] at hri
       generalize mrightS (⟨5, ⟨0, 0, 0, 0, 0, [], ⟨#[]⟩, 0, 0⟩, 0, 0, 0, a1, 0, es, u1, 0⟩ : MsgD) = mr at *
       go_wp2_with (refine wpList_load_g rfl 68 (.tmp 8) rfl g8 0 rfl _ _ HRg.out Tryz.underlying68 rfl (by kernel_rfl) ?_)
       refine hri.out.mono ?_
       rintro e w7 ⟨rfl, hb7⟩
       have H7 := Lib.hid (HY.out.more (Keeps.of_below hb7))
       have Hk7 : Hid (Keeps [] wy w7) := Keeps.of_below hb7
       clear hb7 hri HRg
       by_cases hmz : mr = 0
       ·subst hmz
        have HRg := Lib.hid (blk_range H7.out.b8)
        go_wp2_with (first | (refine wpList_load_mid rfl 68 (.tmp 8) rfl g8 0 rfl _ _ HRg.out Tryz.underlying68 rfl (by kernel_rfl) ?_) | (refine wpList_store_blk rfl 68 (.tmp 2) (.tmp 112) rfl g0 0 68 zeroR #[.int .i64 5, .int .i64 0, .int .i64 0, .int .i64 0, .int .i64 0, .int .i64 0, .slice none 0 0, .string ⟨#[]⟩, .int .i64 0, .int .i64 0, .int .i64 0, .int .i64 0, .int .u64 0, .int .i64 a1, .int .i64 0, .slice Ba es.length ka, .int .i64 u1, .int .i64 0] #[.int .i64 5, .int .i64 0, .int .i64 0, .int .i64 0, .int .i64 0, .int .i64 0, .slice none 0 0, .string ⟨#[]⟩, .int .i64 0, .int .i64 0, .int .i64 0, .int .i64 0, .int .u64 0, .int .i64 a1, .int .i64 0, .slice Ba es.length ka, .int .i64 u1, .int .i64 0] rfl rfl H7.out.b0 (by show 0 + 18 ≤ 18; omega) rfl (by kernel_rfl) rfl ?_; intro wz hkz hBz; have Hkz := Lib.hid hkz; have HBz := Lib.hid hBz; clear hkz hBz))
        refine bodyPost_ret (results_cell2 rfl _ _ g0 68 #[.int .i64 5, .int .i64 0, .int .i64 0, .int .i64 0, .int .i64 0, .int .i64 0, .slice none 0 0, .string ⟨#[]⟩, .int .i64 0, .int .i64 0, .int .i64 0, .int .i64 0, .int .u64 0, .int .i64 a1, .int .i64 0, .slice Ba es.length ka, .int .i64 u1, .int .i64 0] _ rfl HBz.out Tryz.underlying68 rfl (by kernel_rfl)) rfl ?_
        have hRf : R = ((⟨5, ⟨0, 0, 0, 0, 0, [], ⟨#[]⟩, 0, 0⟩, 0, 0, 0, a1, 0, es, u1, 0⟩ : MsgD), 0) := by rw [HR3.out, if_pos (by first | (simp [hd]; done) | (simp at hd; simp [hd]; done))]
        rw [hRf]
        refine ⟨.slice none 0 0, .slice Ba es.length ka, rfl, fun M hM => ?_, (H7.out.keeps.trans Hkz.out (by intro q hq; simp at hq; right; have := Hg0.out; omega) : Keeps [] w wz).below⟩
        have ho0 := H7.out.o0; have ho1 := H7.out.o1; have ho2 := H7.out.o2
        exact (((HV.out (g0 :: M) (by intro q hq; rcases List.mem_cons.1 hq with rfl | hq; omega; have := hM q hq; omega)).keep Hk7.out (by simp)).keep Hkz.out (by simp)).avoid (fun q hq => .inl (List.mem_cons_of_mem _ hq))
       ·have hmn : ((mr : Int) != 0) = true := by rw [bne_iff_ne]; omega
        go_wp2_with (refine wpList_store_blk rfl 68 (.tmp 2) (.tmp 111) rfl g0 0 68 zeroR #[.int .i64 0, .int .i64 0, .int .i64 0, .int .i64 0, .int .i64 0, .int .i64 0, .slice none 0 0, .string ⟨#[]⟩, .int .i64 0, .int .i64 0, .int .i64 0, .int .i64 0, .int .u64 0, .int .i64 0, .int .i64 0, .slice none 0 0, .int .i64 0, .int .i64 0] #[.int .i64 0, .int .i64 0, .int .i64 0, .int .i64 0, .int .i64 0, .int .i64 0, .slice none 0 0, .string ⟨#[]⟩, .int .i64 0, .int .i64 0, .int .i64 0, .int .i64 0, .int .u64 0, .int .i64 0, .int .i64 0, .slice none 0 0, .int .i64 0, .int .i64 0] rfl rfl H7.out.b0 (by show 0 + 18 ≤ 18; omega) rfl (by kernel_rfl) rfl ?_; intro wz hkz hBz; have Hkz := Lib.hid hkz; have HBz := Lib.hid hBz; clear hkz hBz)
        refine bodyPost_ret (results_cell2 rfl _ _ g0 68 #[.int .i64 0, .int .i64 0, .int .i64 0, .int .i64 0, .int .i64 0, .int .i64 0, .slice none 0 0, .string ⟨#[]⟩, .int .i64 0, .int .i64 0, .int .i64 0, .int .i64 0, .int .u64 0, .int .i64 0, .int .i64 0, .slice none 0 0, .int .i64 0, .int .i64 0] _ rfl HBz.out Tryz.underlying68 rfl (by kernel_rfl)) rfl ?_
        exact mbad (by rw [HR3.out, if_neg (by simp [hmz])]) H7.out.keeps Hkz.out Hg0.out
   by_cases hk1 : k = 1
   ·subst hk1
    obtain ⟨a, r, ha, hr, he⟩ : ∃ a r, a = textS y2 y3 ∧ r = rreadE a.1 ∧ rmreadS 1 y2 y3 = (⟨1, r.1, 0, 0, 0, 0, 0, [], 0, 0⟩, decide (r.2 = 0), a.2) := ⟨_, _, rfl, rfl, rfl⟩
    rw [he] at HR2 hsh
    have hl1 := textS_len y2 y3
    rw [← ha] at hl1
    have hl3 : a.1.length < 4294967281 := by omega
    have Hsh := Lib.hid hsh
    have H_a := Lib.hid ha; have H_r := Lib.hid hr
    clear ha hr he hsh hl1
    go_wp2_with (refine wpList_store_blk rfl 68 (.tmp 8) (.tmp 31) rfl w4.heap.size 0 68 _ #[.int .i64 1, .int .i64 0, .int .i64 0, .int .i64 0, .int .i64 0, .int .i64 0, .slice none 0 0, .string ⟨#[]⟩, .int .i64 0, .int .i64 0, .int .i64 0, .int .i64 0, .int .u64 0, .int .i64 0, .int .i64 0, .slice none 0 0, .int .i64 0, .int .i64 0] #[.int .i64 1, .int .i64 0, .int .i64 0, .int .i64 0, .int .i64 0, .int .i64 0, .slice none 0 0, .string ⟨#[]⟩, .int .i64 0, .int .i64 0, .int .i64 0, .int .i64 0, .int .u64 0, .int .i64 0, .int .i64 0, .slice none 0 0, .int .i64 0, .int .i64 0] rfl rfl (Blk.new _ _ _) (by show 0 + 18 ≤ 18; omega) rfl (by kernel_rfl) rfl ?_; intro w5 hk5 hB5; have H5 : Hid (ReM w w5 p g0 w4.heap.size y2 y3 #[.int .i64 1, .int .i64 0, .int .i64 0, .int .i64 0, .int .i64 0, .int .i64 0, .slice none 0 0, .string ⟨#[]⟩, .int .i64 0, .int .i64 0, .int .i64 0, .int .i64 0, .int .u64 0, .int .i64 0, .int .i64 0, .slice none 0 0, .int .i64 0, .int .i64 0]) := ⟨((HA4.out.avoid (M' := [w4.heap.size]) (by intro g hg; simp at hg; right; omega)).keep (M' := []) ((Keeps.refl _ _).alloc _) (by simp) (by simp)).keep hk5 (by simp) (by simp; omega), (HK4.out.alloc _).trans hk5 (by intro q hq; simp at hq; right; have := HK4.out.size; omega), hk5.blk (HB4.out.below (below_new' w4 _) HB4.out.lt) (by simp; have := HB4.out.lt; omega), hB5, by have := Hg0.out; omega, by omega, hp4⟩; clear hk5 hB5; obtain ⟨q0, q1, q2, q3, q4, q5, q6, q7, q8, q9, qa, qb, qc, qd, qe, qf, qg, qh, qz⟩ := blk18 H5.out.b8)
    clear q0 q1 q2 q3 q4 q5 q6 q7 q8 q9 qa qb qc qd qe qf qg qh qz
    generalize w4.heap.size = g8 at *
    have hct := Lib.hid (rstr_any [g8] p y2 y3 w5 H5.out.rd)
    rw [← H_a.out] at hct
    obtain ⟨a1, a2, a3⟩ := a
    simp only [] at hct H_r HR2 Hsh hl3
    refine hct.out.mono ?_
    rintro e w6 ⟨rfl, hA, hk⟩
    have H6 := Lib.hid (H5.out.step hA hk)
    obtain ⟨cc, wc, cv, hkc, hsz, hBc⟩ := bytes_of w6 a1
    have Hc := Lib.hid (H6.out.more hkc)
    have hrd := Lib.hid (rreadE_any _ a1 wc (hBc [] (by simp)) hl3)
    rw [← H_r.out] at hrd
    clear hA hk H5 hct H_a H6 hkc hBc
    obtain ⟨re, rn⟩ := r
    simp only [] at hrd HR2 Hsh
    go_wp2_with fail
    have hg8 := Hc.out.b8.lt
    refine hrd.out.mono ?_
    rintro e wd ⟨dv, rfl, hD, hbd⟩
    obtain ⟨Ad, cd, rfl, _⟩ := (hD [] (by simp)).len
    have Hd := Lib.hid (Hc.out.more (Keeps.of_below hbd))
    have HD := Lib.hid (fun M (hM : ∀ g ∈ M, g ≤ g8) => hD M (fun x hx => Nat.lt_of_le_of_lt (hM x hx) hg8))
    clear hD hbd hrd cv Hc hsz hg8 H_r hl3
    have hrz : ((rn : Int) == 0) = decide (rn = 0) := by rw [Bool.eq_iff_iff]; simp
    by_cases hrn : rn = 0
    ·rw [decide_eq_true hrn] at hrz
     have hR3 := HR2.out
     rw [decide_eq_true hrn] at hR3
     have HR3 := Lib.hid hR3
     clear HR2 hR3
     go_wp2_with (first | (refine wpList_store_blk rfl 26 (.tmp 9) (.tmp 41) rfl wd.heap.size 0 26 _ (eCell (re, .slice Ad re.ds.length cd)).toArray (eCell (re, .slice Ad re.ds.length cd)).toArray rfl rfl (Blk.new _ _ _) (by show 0 + 9 ≤ 9; omega) rfl (by kernel_rfl) rfl ?_; intro wf hkf hBf; have hkk : Keeps [] wd wf := ((Keeps.refl _ _).alloc _).trans hkf (by intro x hx; simp at hx; right; omega); have Hf := Lib.hid (Hd.out.more hkk); have HDf := Lib.hid (fun M (hM : ∀ g ∈ M, g ≤ g8) => (HD.out M hM).keep hkk (by simp)); have HBf := Lib.hid hBf; clear hkf hBf hkk) | (refine wpList_load_mid rfl 26 (.tmp 9) rfl wd.heap.size 0 rfl _ _ (blk_range HBf.out) Tryz.underlying26 rfl (by kernel_rfl) ?_) | (refine wpList_store_blk rfl 26 (.tmp 46) (.tmp 45) rfl g8 1 68 #[.int .i64 1, .int .i64 0, .int .i64 0, .int .i64 0, .int .i64 0, .int .i64 0, .slice none 0 0, .string ⟨#[]⟩, .int .i64 0, .int .i64 0, .int .i64 0, .int .i64 0, .int .u64 0, .int .i64 0, .int .i64 0, .slice none 0 0, .int .i64 0, .int .i64 0] #[.int .i64 1, .int .i64 re.kind, .int .i64 re.ag, .int .i64 re.sh, .int .i64 re.seq, .int .i64 re.ep, .slice Ad re.ds.length cd, .string re.ser, .int .i64 re.fr, .int .i64 re.tag, .int .i64 0, .int .i64 0, .int .u64 0, .int .i64 0, .int .i64 0, .slice none 0 0, .int .i64 0, .int .i64 0] (eCell (re, .slice Ad re.ds.length cd)).toArray rfl rfl Hf.out.b8 (by show 1 + 9 ≤ 18; omega) rfl (by kernel_rfl) rfl ?_; intro wh hkh hBh; have Hh := Lib.hid (Hf.out.in8 hkh hBh); have Hkh := Lib.hid hkh; clear hkh hBh))
     have HV : Hid (∀ M, (∀ g ∈ M, g ≤ g8) → MsgAt wh M (⟨1, re, 0, 0, 0, 0, 0, [], 0, 0⟩ : MsgD) (.slice Ad re.ds.length cd) (.slice none 0 0)) := fun M hM => ⟨((HDf.out (g8 :: M) (by intro q hq; rcases List.mem_cons.1 hq with rfl | hq; omega; exact hM q hq)).keep Hkh.out (by simp)).avoid (fun q hq => .inl (List.mem_cons_of_mem _ hq)), Ens.nil _ _⟩
     clear HDf HBf Hf HD Hd Hkh
     have hdw := Lib.hid (rdone_any [g8] p a2 a3 wh Hh.out.rd)
     refine hdw.out.mono ?_
     rintro r w' ⟨rfl, rfl⟩
     clear hdw
     cases hd : (!a3 && (a2).isEmpty) with
     | false =>
      go_wp2_with (refine wpList_store_blk rfl 68 (.tmp 2) (.tmp 111) rfl g0 0 68 zeroR #[.int .i64 0, .int .i64 0, .int .i64 0, .int .i64 0, .int .i64 0, .int .i64 0, .slice none 0 0, .string ⟨#[]⟩, .int .i64 0, .int .i64 0, .int .i64 0, .int .i64 0, .int .u64 0, .int .i64 0, .int .i64 0, .slice none 0 0, .int .i64 0, .int .i64 0] #[.int .i64 0, .int .i64 0, .int .i64 0, .int .i64 0, .int .i64 0, .int .i64 0, .slice none 0 0, .string ⟨#[]⟩, .int .i64 0, .int .i64 0, .int .i64 0, .int .i64 0, .int .u64 0, .int .i64 0, .int .i64 0, .slice none 0 0, .int .i64 0, .int .i64 0] rfl rfl Hh.out.b0 (by show 0 + 18 ≤ 18; omega) rfl (by kernel_rfl) rfl ?_; intro wz hkz hBz; have Hkz := Lib.hid hkz; have HBz := Lib.hid hBz; clear hkz hBz)
      refine bodyPost_ret (results_cell2 rfl _ _ g0 68 #[.int .i64 0, .int .i64 0, .int .i64 0, .int .i64 0, .int .i64 0, .int .i64 0, .slice none 0 0, .string ⟨#[]⟩, .int .i64 0, .int .i64 0, .int .i64 0, .int .i64 0, .int .u64 0, .int .i64 0, .int .i64 0, .slice none 0 0, .int .i64 0, .int .i64 0] _ rfl HBz.out Tryz.underlying68 rfl (by kernel_rfl)) rfl ?_
      exact mbad (by rw [HR3.out, if_neg (by first | (simp [hd]; done) | (simp at hd; simp [hd]; done))]) Hh.out.keeps Hkz.out Hg0.out
     | true =>
      have hri := Lib.hid (rmright_any (⟨1, re, 0, 0, 0, 0, 0, [], 0, 0⟩ : MsgD) (.slice Ad re.ds.length cd) (.slice none 0 0) mx wh (HV.out [] (by simp)) Hsh.out (hkeepm.out _ Hh.out.keeps))
      have HRg := Lib.hid (blk_range Hh.out.b8)
      simp only [mCell, eCell, List.cons_append, List.nil_append] at hri
      generalize mrightS (⟨1, re, 0, 0, 0, 0, 0, [], 0, 0⟩ : MsgD) = mr at *
      go_wp2_with (refine wpList_load_g rfl 68 (.tmp 8) rfl g8 0 rfl _ _ HRg.out Tryz.underlying68 rfl (by kernel_rfl) ?_)
      refine hri.out.mono ?_
      rintro e w7 ⟨rfl, hb7⟩
      have H7 := Lib.hid (Hh.out.more (Keeps.of_below hb7))
      have Hk7 : Hid (Keeps [] wh w7) := Keeps.of_below hb7
      clear hb7 hri HRg
      by_cases hmz : mr = 0
      ·subst hmz
       have HRg := Lib.hid (blk_range H7.out.b8)
       go_wp2_with (first | (refine wpList_load_mid rfl 68 (.tmp 8) rfl g8 0 rfl _ _ HRg.out Tryz.underlying68 rfl (by kernel_rfl) ?_) | (refine wpList_store_blk rfl 68 (.tmp 2) (.tmp 112) rfl g0 0 68 zeroR #[.int .i64 1, .int .i64 re.kind, .int .i64 re.ag, .int .i64 re.sh, .int .i64 re.seq, .int .i64 re.ep, .slice Ad re.ds.length cd, .string re.ser, .int .i64 re.fr, .int .i64 re.tag, .int .i64 0, .int .i64 0, .int .u64 0, .int .i64 0, .int .i64 0, .slice none 0 0, .int .i64 0, .int .i64 0] #[.int .i64 1, .int .i64 re.kind, .int .i64 re.ag, .int .i64 re.sh, .int .i64 re.seq, .int .i64 re.ep, .slice Ad re.ds.length cd, .string re.ser, .int .i64 re.fr, .int .i64 re.tag, .int .i64 0, .int .i64 0, .int .u64 0, .int .i64 0, .int .i64 0, .slice none 0 0, .int .i64 0, .int .i64 0] rfl rfl H7.out.b0 (by show 0 + 18 ≤ 18; omega) rfl (by kernel_rfl) rfl ?_; intro wz hkz hBz; have Hkz := Lib.hid hkz; have HBz := Lib.hid hBz; clear hkz hBz))
       refine bodyPost_ret (results_cell2 rfl _ _ g0 68 #[.int .i64 1, .int .i64 re.kind, .int .i64 re.ag, .int .i64 re.sh, .int .i64 re.seq, .int .i64 re.ep, .slice Ad re.ds.length cd, .string re.ser, .int .i64 re.fr, .int .i64 re.tag, .int .i64 0, .int .i64 0, .int .u64 0, .int .i64 0, .int .i64 0, .slice none 0 0, .int .i64 0, .int .i64 0] _ rfl HBz.out Tryz.underlying68 rfl (by kernel_rfl)) rfl ?_
       have hRf : R = ((⟨1, re, 0, 0, 0, 0, 0, [], 0, 0⟩ : MsgD), 0) := by rw [HR3.out, if_pos (by first | (simp [hd]; done) | (simp at hd; simp [hd]; done))]
       rw [hRf]
       refine ⟨.slice Ad re.ds.length cd, .slice none 0 0, rfl, fun M hM => ?_, (H7.out.keeps.trans Hkz.out (by intro q hq; simp at hq; right; have := Hg0.out; omega) : Keeps [] w wz).below⟩
       have ho0 := H7.out.o0; have ho1 := H7.out.o1; have ho2 := H7.out.o2
       exact (((HV.out (g0 :: M) (by intro q hq; rcases List.mem_cons.1 hq with rfl | hq; omega; have := hM q hq; omega)).keep Hk7.out (by simp)).keep Hkz.out (by simp)).avoid (fun q hq => .inl (List.mem_cons_of_mem _ hq))
      ·have hmn : ((mr : Int) != 0) = true := by rw [bne_iff_ne]; omega
       go_wp2_with (refine wpList_store_blk rfl 68 (.tmp 2) (.tmp 111) rfl g0 0 68 zeroR #[.int .i64 0, .int .i64 0, .int .i64 0, .int .i64 0, .int .i64 0, .int .i64 0, .slice none 0 0, .string ⟨#[]⟩, .int .i64 0, .int .i64 0, .int .i64 0, .int .i64 0, .int .u64 0, .int .i64 0, .int .i64 0, .slice none 0 0, .int .i64 0, .int .i64 0] #[.int .i64 0, .int .i64 0, .int .i64 0, .int .i64 0, .int .i64 0, .int .i64 0, .slice none 0 0, .string ⟨#[]⟩, .int .i64 0, .int .i64 0, .int .i64 0, .int .i64 0, .int .u64 0, .int .i64 0, .int .i64 0, .slice none 0 0, .int .i64 0, .int .i64 0] rfl rfl H7.out.b0 (by show 0 + 18 ≤ 18; omega) rfl (by kernel_rfl) rfl ?_; intro wz hkz hBz; have Hkz := Lib.hid hkz; have HBz := Lib.hid hBz; clear hkz hBz)
       refine bodyPost_ret (results_cell2 rfl _ _ g0 68 #[.int .i64 0, .int .i64 0, .int .i64 0, .int .i64 0, .int .i64 0, .int .i64 0, .slice none 0 0, .string ⟨#[]⟩, .int .i64 0, .int .i64 0, .int .i64 0, .int .i64 0, .int .u64 0, .int .i64 0, .int .i64 0, .slice none 0 0, .int .i64 0, .int .i64 0] _ rfl HBz.out Tryz.underlying68 rfl (by kernel_rfl)) rfl ?_
       exact mbad (by rw [HR3.out, if_neg (by simp [hmz])]) H7.out.keeps Hkz.out Hg0.out
    ·rw [decide_eq_false hrn] at hrz
     go_wp2_with (first | (refine wpList_store_blk rfl 26 (.tmp 9) (.tmp 41) rfl wd.heap.size 0 26 _ (eCell (re, .slice Ad re.ds.length cd)).toArray (eCell (re, .slice Ad re.ds.length cd)).toArray rfl rfl (Blk.new _ _ _) (by show 0 + 9 ≤ 9; omega) rfl (by kernel_rfl) rfl ?_; intro wf hkf hBf; have hkk : Keeps [] wd wf := ((Keeps.refl _ _).alloc _).trans hkf (by intro x hx; simp at hx; right; omega); have Hf := Lib.hid (Hd.out.more hkk); have HDf := Lib.hid (fun M (hM : ∀ g ∈ M, g ≤ g8) => (HD.out M hM).keep hkk (by simp)); have HBf := Lib.hid hBf; clear hkf hBf hkk) | (refine wpList_load_mid rfl 26 (.tmp 9) rfl wd.heap.size 0 rfl _ _ (blk_range HBf.out) Tryz.underlying26 rfl (by kernel_rfl) ?_) | (refine wpList_store_blk rfl 26 (.tmp 46) (.tmp 45) rfl g8 1 68 #[.int .i64 1, .int .i64 0, .int .i64 0, .int .i64 0, .int .i64 0, .int .i64 0, .slice none 0 0, .string ⟨#[]⟩, .int .i64 0, .int .i64 0, .int .i64 0, .int .i64 0, .int .u64 0, .int .i64 0, .int .i64 0, .slice none 0 0, .int .i64 0, .int .i64 0] #[.int .i64 1, .int .i64 re.kind, .int .i64 re.ag, .int .i64 re.sh, .int .i64 re.seq, .int .i64 re.ep, .slice Ad re.ds.length cd, .string re.ser, .int .i64 re.fr, .int .i64 re.tag, .int .i64 0, .int .i64 0, .int .u64 0, .int .i64 0, .int .i64 0, .slice none 0 0, .int .i64 0, .int .i64 0] (eCell (re, .slice Ad re.ds.length cd)).toArray rfl rfl Hf.out.b8 (by show 1 + 9 ≤ 18; omega) rfl (by kernel_rfl) rfl ?_; intro wh hkh hBh; have Hh := Lib.hid (Hf.out.in8 hkh hBh); have Hkh := Lib.hid hkh; clear hkh hBh) | (refine wpList_store_blk rfl 68 (.tmp 2) (.tmp 111) rfl g0 0 68 zeroR #[.int .i64 0, .int .i64 0, .int .i64 0, .int .i64 0, .int .i64 0, .int .i64 0, .slice none 0 0, .string ⟨#[]⟩, .int .i64 0, .int .i64 0, .int .i64 0, .int .i64 0, .int .u64 0, .int .i64 0, .int .i64 0, .slice none 0 0, .int .i64 0, .int .i64 0] #[.int .i64 0, .int .i64 0, .int .i64 0, .int .i64 0, .int .i64 0, .int .i64 0, .slice none 0 0, .string ⟨#[]⟩, .int .i64 0, .int .i64 0, .int .i64 0, .int .i64 0, .int .u64 0, .int .i64 0, .int .i64 0, .slice none 0 0, .int .i64 0, .int .i64 0] rfl rfl Hh.out.b0 (by show 0 + 18 ≤ 18; omega) rfl (by kernel_rfl) rfl ?_; intro wz hkz hBz; have Hkz := Lib.hid hkz; have HBz := Lib.hid hBz; clear hkz hBz))
     refine bodyPost_ret (results_cell2 rfl _ _ g0 68 #[.int .i64 0, .int .i64 0, .int .i64 0, .int .i64 0, .int .i64 0, .int .i64 0, .slice none 0 0, .string ⟨#[]⟩, .int .i64 0, .int .i64 0, .int .i64 0, .int .i64 0, .int .u64 0, .int .i64 0, .int .i64 0, .slice none 0 0, .int .i64 0, .int .i64 0] _ rfl HBz.out Tryz.underlying68 rfl (by kernel_rfl)) rfl ?_
     exact mbad (by rw [HR2.out, if_neg (by simp [hrn])]) Hh.out.keeps Hkz.out Hg0.out
   have he : rmreadS k y2 y3 = ((⟨k, ⟨0, 0, 0, 0, 0, [], ⟨#[]⟩, 0, 0⟩, 0, 0, 0, 0, 0, [], 0, 0⟩ : MsgD), true, y2, y3) := by unfold rmreadS; rw [if_neg hk1, if_neg hk2, if_neg hk3, if_neg hk4, if_neg hk5, if_neg hk6]
   rw [he] at HR2 hsh
   have Hsh := Lib.hid hsh
   have hd1 : ((k : Int) == 1) = false := by simp; omega
   have hd2 : ((k : Int) == 2) = false := by simp; omega
   have hd3 : ((k : Int) == 3) = false := by simp; omega
   have hd4 : ((k : Int) == 4) = false := by simp; omega
   have hd5 : ((k : Int) == 5) = false := by simp; omega
   have hd6 : ((k : Int) == 6) = false := by simp; omega
   clear hk1 hk2 hk3 hk4 hk5 hk6 he hsh
   go_wp2_with (refine wpList_store_blk rfl 68 (.tmp 8) (.tmp 31) rfl w4.heap.size 0 68 _ #[.int .i64 k, .int .i64 0, .int .i64 0, .int .i64 0, .int .i64 0, .int .i64 0, .slice none 0 0, .string ⟨#[]⟩, .int .i64 0, .int .i64 0, .int .i64 0, .int .i64 0, .int .u64 0, .int .i64 0, .int .i64 0, .slice none 0 0, .int .i64 0, .int .i64 0] #[.int .i64 k, .int .i64 0, .int .i64 0, .int .i64 0, .int .i64 0, .int .i64 0, .slice none 0 0, .string ⟨#[]⟩, .int .i64 0, .int .i64 0, .int .i64 0, .int .i64 0, .int .u64 0, .int .i64 0, .int .i64 0, .slice none 0 0, .int .i64 0, .int .i64 0] rfl rfl (Blk.new _ _ _) (by show 0 + 18 ≤ 18; omega) rfl (by kernel_rfl) rfl ?_; intro w5 hk5 hB5; have H5 : Hid (ReM w w5 p g0 w4.heap.size y2 y3 #[.int .i64 k, .int .i64 0, .int .i64 0, .int .i64 0, .int .i64 0, .int .i64 0, .slice none 0 0, .string ⟨#[]⟩, .int .i64 0, .int .i64 0, .int .i64 0, .int .i64 0, .int .u64 0, .int .i64 0, .int .i64 0, .slice none 0 0, .int .i64 0, .int .i64 0]) := ⟨((HA4.out.avoid (M' := [w4.heap.size]) (by intro g hg; simp at hg; right; omega)).keep (M' := []) ((Keeps.refl _ _).alloc _) (by simp) (by simp)).keep hk5 (by simp) (by simp; omega), (HK4.out.alloc _).trans hk5 (by intro q hq; simp at hq; right; have := HK4.out.size; omega), hk5.blk (HB4.out.below (below_new' w4 _) HB4.out.lt) (by simp; have := HB4.out.lt; omega), hB5, by have := Hg0.out; omega, by omega, hp4⟩; clear hk5 hB5; obtain ⟨q0, q1, q2, q3, q4, q5, q6, q7, q8, q9, qa, qb, qc, qd, qe, qf, qg, qh, qz⟩ := blk18 H5.out.b8)
   clear q0 q1 q2 q3 q4 q5 q6 q7 q8 q9 qa qb qc qd qe qf qg qh qz
   generalize w4.heap.size = g8 at *
   have HV : Hid (∀ M, (∀ g ∈ M, g ≤ g8) → MsgAt w5 M (⟨k, ⟨0, 0, 0, 0, 0, [], ⟨#[]⟩, 0, 0⟩, 0, 0, 0, 0, 0, [], 0, 0⟩ : MsgD) (.slice none 0 0) (.slice none 0 0)) := fun M _ => ⟨Ds.nil _ _, Ens.nil _ _⟩
   have HR3 := Lib.hid HR2.out
   clear HR2
   have hdw := Lib.hid (rdone_any [g8] p y2 y3 w5 H5.out.rd)
   refine hdw.out.mono ?_
   rintro r w' ⟨rfl, rfl⟩
   clear hdw
   cases hd : (!y3 && (y2).isEmpty) with
   | false =>
    go_wp2_with (refine wpList_store_blk rfl 68 (.tmp 2) (.tmp 111) rfl g0 0 68 zeroR #[.int .i64 0, .int .i64 0, .int .i64 0, .int .i64 0, .int .i64 0, .int .i64 0, .slice none 0 0, .string ⟨#[]⟩, .int .i64 0, .int .i64 0, .int .i64 0, .int .i64 0, .int .u64 0, .int .i64 0, .int .i64 0, .slice none 0 0, .int .i64 0, .int .i64 0] #[.int .i64 0, .int .i64 0, .int .i64 0, .int .i64 0, .int .i64 0, .int .i64 0, .slice none 0 0, .string ⟨#[]⟩, .int .i64 0, .int .i64 0, .int .i64 0, .int .i64 0, .int .u64 0, .int .i64 0, .int .i64 0, .slice none 0 0, .int .i64 0, .int .i64 0] rfl rfl H5.out.b0 (by show 0 + 18 ≤ 18; omega) rfl (by kernel_rfl) rfl ?_; intro wz hkz hBz; have Hkz := Lib.hid hkz; have HBz := Lib.hid hBz; clear hkz hBz)
    refine bodyPost_ret (results_cell2 rfl _ _ g0 68 #[.int .i64 0, .int .i64 0, .int .i64 0, .int .i64 0, .int .i64 0, .int .i64 0, .slice none 0 0, .string ⟨#[]⟩, .int .i64 0, .int .i64 0, .int .i64 0, .int .i64 0, .int .u64 0, .int .i64 0, .int .i64 0, .slice none 0 0, .int .i64 0, .int .i64 0] _ rfl HBz.out Tryz.underlying68 rfl (by kernel_rfl)) rfl ?_
    exact mbad (by rw [HR3.out, if_neg (by first | (simp [hd]; done) | (simp at hd; simp [hd]; done))]) H5.out.keeps Hkz.out Hg0.out
   | true =>
    have hri := Lib.hid (rmright_any (⟨k, ⟨0, 0, 0, 0, 0, [], ⟨#[]⟩, 0, 0⟩, 0, 0, 0, 0, 0, [], 0, 0⟩ : MsgD) (.slice none 0 0) (.slice none 0 0) mx w5 (HV.out [] (by simp)) Hsh.out (hkeepm.out _ H5.out.keeps))
    have HRg := Lib.hid (blk_range H5.out.b8)
    simp only [mCell, eCell, List.cons_append, List.nil_append] at hri
    generalize mrightS (⟨k, ⟨0, 0, 0, 0, 0, [], ⟨#[]⟩, 0, 0⟩, 0, 0, 0, 0, 0, [], 0, 0⟩ : MsgD) = mr at *
    go_wp2_with (refine wpList_load_g rfl 68 (.tmp 8) rfl g8 0 rfl _ _ HRg.out Tryz.underlying68 rfl (by kernel_rfl) ?_)
    refine hri.out.mono ?_
    rintro e w7 ⟨rfl, hb7⟩
    have H7 := Lib.hid (H5.out.more (Keeps.of_below hb7))
    have Hk7 : Hid (Keeps [] w5 w7) := Keeps.of_below hb7
    clear hb7 hri HRg
    by_cases hmz : mr = 0
    ·subst hmz
     have HRg := Lib.hid (blk_range H7.out.b8)
     go_wp2_with (first | (refine wpList_load_mid rfl 68 (.tmp 8) rfl g8 0 rfl _ _ HRg.out Tryz.underlying68 rfl (by kernel_rfl) ?_) | (refine wpList_store_blk rfl 68 (.tmp 2) (.tmp 112) rfl g0 0 68 zeroR #[.int .i64 k, .int .i64 0, .int .i64 0, .int .i64 0, .int .i64 0, .int .i64 0, .slice none 0 0, .string ⟨#[]⟩, .int .i64 0, .int .i64 0, .int .i64 0, .int .i64 0, .int .u64 0, .int .i64 0, .int .i64 0, .slice none 0 0, .int .i64 0, .int .i64 0] #[.int .i64 k, .int .i64 0, .int .i64 0, .int .i64 0, .int .i64 0, .int .i64 0, .slice none 0 0, .string ⟨#[]⟩, .int .i64 0, .int .i64 0, .int .i64 0, .int .i64 0, .int .u64 0, .int .i64 0, .int .i64 0, .slice none 0 0, .int .i64 0, .int .i64 0] rfl rfl H7.out.b0 (by show 0 + 18 ≤ 18; omega) rfl (by kernel_rfl) rfl ?_; intro wz hkz hBz; have Hkz := Lib.hid hkz; have HBz := Lib.hid hBz; clear hkz hBz))
     refine bodyPost_ret (results_cell2 rfl _ _ g0 68 #[.int .i64 k, .int .i64 0, .int .i64 0, .int .i64 0, .int .i64 0, .int .i64 0, .slice none 0 0, .string ⟨#[]⟩, .int .i64 0, .int .i64 0, .int .i64 0, .int .i64 0, .int .u64 0, .int .i64 0, .int .i64 0, .slice none 0 0, .int .i64 0, .int .i64 0] _ rfl HBz.out Tryz.underlying68 rfl (by kernel_rfl)) rfl ?_
     have hRf : R = ((⟨k, ⟨0, 0, 0, 0, 0, [], ⟨#[]⟩, 0, 0⟩, 0, 0, 0, 0, 0, [], 0, 0⟩ : MsgD), 0) := by rw [HR3.out, if_pos (by first | (simp [hd]; done) | (simp at hd; simp [hd]; done))]
     rw [hRf]
     refine ⟨.slice none 0 0, .slice none 0 0, rfl, fun M hM => ?_, (H7.out.keeps.trans Hkz.out (by intro q hq; simp at hq; right; have := Hg0.out; omega) : Keeps [] w wz).below⟩
     have ho0 := H7.out.o0; have ho1 := H7.out.o1; have ho2 := H7.out.o2
     exact (((HV.out (g0 :: M) (by intro q hq; rcases List.mem_cons.1 hq with rfl | hq; omega; have := hM q hq; omega)).keep Hk7.out (by simp)).keep Hkz.out (by simp)).avoid (fun q hq => .inl (List.mem_cons_of_mem _ hq))
    ·have hmn : ((mr : Int) != 0) = true := by rw [bne_iff_ne]; omega
     go_wp2_with (refine wpList_store_blk rfl 68 (.tmp 2) (.tmp 111) rfl g0 0 68 zeroR #[.int .i64 0, .int .i64 0, .int .i64 0, .int .i64 0, .int .i64 0, .int .i64 0, .slice none 0 0, .string ⟨#[]⟩, .int .i64 0, .int .i64 0, .int .i64 0, .int .i64 0, .int .u64 0, .int .i64 0, .int .i64 0, .slice none 0 0, .int .i64 0, .int .i64 0] #[.int .i64 0, .int .i64 0, .int .i64 0, .int .i64 0, .int .i64 0, .int .i64 0, .slice none 0 0, .string ⟨#[]⟩, .int .i64 0, .int .i64 0, .int .i64 0, .int .i64 0, .int .u64 0, .int .i64 0, .int .i64 0, .slice none 0 0, .int .i64 0, .int .i64 0] rfl rfl H7.out.b0 (by show 0 + 18 ≤ 18; omega) rfl (by kernel_rfl) rfl ?_; intro wz hkz hBz; have Hkz := Lib.hid hkz; have HBz := Lib.hid hBz; clear hkz hBz)
     refine bodyPost_ret (results_cell2 rfl _ _ g0 68 #[.int .i64 0, .int .i64 0, .int .i64 0, .int .i64 0, .int .i64 0, .int .i64 0, .slice none 0 0, .string ⟨#[]⟩, .int .i64 0, .int .i64 0, .int .i64 0, .int .i64 0, .int .u64 0, .int .i64 0, .int .i64 0, .slice none 0 0, .int .i64 0, .int .i64 0] _ rfl HBz.out Tryz.underlying68 rfl (by kernel_rfl)) rfl ?_
     exact mbad (by rw [HR3.out, if_neg (by simp [hmz])]) H7.out.keeps Hkz.out Hg0.out
  ·have hni : ((n : Int) != (l.length : Int)) = true := by rw [bne_iff_ne]; omega
   go_wp2_with (refine wpList_store_blk rfl 68 (.tmp 2) (.tmp 25) rfl g0 0 68 zeroR #[.int .i64 0, .int .i64 0, .int .i64 0, .int .i64 0, .int .i64 0, .int .i64 0, .slice none 0 0, .string ⟨#[]⟩, .int .i64 0, .int .i64 0, .int .i64 0, .int .i64 0, .int .u64 0, .int .i64 0, .int .i64 0, .slice none 0 0, .int .i64 0, .int .i64 0] #[.int .i64 0, .int .i64 0, .int .i64 0, .int .i64 0, .int .i64 0, .int .i64 0, .slice none 0 0, .string ⟨#[]⟩, .int .i64 0, .int .i64 0, .int .i64 0, .int .i64 0, .int .u64 0, .int .i64 0, .int .i64 0, .slice none 0 0, .int .i64 0, .int .i64 0] rfl rfl HB2.out (by show 0 + 18 ≤ 18; omega) rfl (by kernel_rfl) rfl ?_; intro wz hkz hBz; have Hkz := Lib.hid hkz; have HBz := Lib.hid hBz; clear hkz hBz)
   refine bodyPost_ret (results_cell2 rfl _ _ g0 68 #[.int .i64 0, .int .i64 0, .int .i64 0, .int .i64 0, .int .i64 0, .int .i64 0, .slice none 0 0, .string ⟨#[]⟩, .int .i64 0, .int .i64 0, .int .i64 0, .int .i64 0, .int .u64 0, .int .i64 0, .int .i64 0, .slice none 0 0, .int .i64 0, .int .i64 0] _ rfl HBz.out Tryz.underlying68 rfl (by kernel_rfl)) rfl ?_
   exact mbad (by rw [HR.out, if_pos hn]) HK2.out Hkz.out Hg0.out
end Go.Proofs.YtinnifhnabncfaaGreatDoor.Vi
end
section
namespace Go.Proofs.YtinnifhnabncfaaGreatDoor.Vi
open Go.RowKit Base Mem
end Go.Proofs.YtinnifhnabncfaaGreatDoor.Vi
end
section
namespace Go.Proofs.YtinnifhnabncfaaGreatDoor.Vi
open Go.RowKit Base Mem
end Go.Proofs.YtinnifhnabncfaaGreatDoor.Vi
end
section
namespace Go.Proofs.YtinnifhnabncfaaGreatDoor.Vi
open Go.RowKit Base Mem Go.Shelf
theorem rows_len {a b : List EntryD} (h : a.length ≠ b.length) : rowsEq a b = false := by
 rw [Bool.eq_false_iff]
 intro e
 exact h (by rw [(rowsEq_iff a b).1 e])
theorem rows_diff {a b : List EntryD} {x : Nat} (ha : x < a.length) (hb : x < b.length) (h : sameE a[x] b[x] = false) : rowsEq a b = false := by
 rw [Bool.eq_false_iff]
 intro e
 have := (rowsEq_iff a b).1 e
 subst this
 rw [(sameE_iff _ _).2 rfl] at h
 cases h
theorem rows_next {a b : List EntryD} {x : Nat} (ha : x < a.length) (hb : x < b.length) (h : sameE a[x] b[x] = true) (ht : a.take x = b.take x) : a.take (x + 1) = b.take (x + 1) := by
 rw [List.take_succ_eq_append_getElem ha, List.take_succ_eq_append_getElem hb, ht, (sameE_iff _ _).1 h]
set_option maxRecDepth 100000 in
set_option maxHeartbeats 4000000 in
theorem rlogs_any (va vb : Value) (a b : List EntryD) (w : World) (ha : Ens w [] va a) (hb : Ens w [] vb b) (hl : Cnt a) (hl2 : Cnt b) :
  Calls Tryz.prog 38 #[va, vb] w fun r w' => SamePost (rowsEq a b) w r w' := by
 have Ha := Lib.hid ha; have Hb := Lib.hid hb
 have Hca := Lib.hid hl.2; have Hcb := Lib.hid hl2.2
 obtain ⟨Aa, ca, rfl, hca⟩ := ha.len
 obtain ⟨Ab, cb, rfl, hcb⟩ := hb.len
 have hla := hl.1; have hlb := hl2.1
 clear ha hb hl hl2
 by_cases hn : a.length = b.length
 ·have hni : ((a.length : Int) != (b.length : Int)) = false := by simp [hn]
  have Hn := Lib.hid hn
  have Hfin : Hid (∀ x, x = a.length → a.take x = b.take x → rowsEq a b = true) := fun x hx ht => by
   subst hx
   rw [List.take_length, List.take_of_length_le (by omega)] at ht
   exact (rowsEq_iff a b).2 ht
  clear hn
  go_enter Tryz.func38, Tryz.ntmps38
  go_wp2_with fail
  go_slots
  go_loopw [13] (fun i wr => ∃ (x : Nat), i = .int .i64 x ∧ x ≤ a.length ∧ Hid (a.take x = b.take x) ∧ Hid (Below w.heap.size w wr)) (fun i _ => a.length - (intOf i).toNat)
  case atStart => exact ⟨0, rfl, by omega, (show a.take 0 = b.take 0 by simp), Below.refl _ _⟩
  case round =>
   obtain ⟨x, rfl, hx, Ht, Hbe⟩ := hrel
   by_cases hlt : x < a.length
   ·have hltb : x < b.length := by have := Hn.out; omega
    have ha2 := Ha.out.keep (Keeps.of_below (M := []) Hbe.out) (by simp)
    have hb2 := Hb.out.keep (Keeps.of_below (M := []) Hbe.out) (by simp)
    obtain ⟨ga, oa, _, da, e1, hga, _, hda, h1⟩ := ens_at ha2 hlt
    obtain ⟨gb, ob, _, db, e2, hgb, _, hdb, h2⟩ := ens_at hb2 hltb
    obtain rfl : Aa = some ⟨ga, oa, none⟩ := by injection e1
    obtain rfl : Ab = some ⟨gb, ob, none⟩ := by injection e2
    have hsame := Lib.hid (fun n => rsame_any da db a[x] b[x] (wr.drewN n) (hda.keep (M' := []) ((Keeps.refl _ _).drewN n) (by simp)) (hdb.keep (M' := []) ((Keeps.refl _ _).drewN n) (by simp)) (Hca.out _ (List.getElem_mem _)) (Hcb.out _ (List.getElem_mem _)))
    have Hd := Lib.hid (rows_diff hlt hltb)
    have Hx := Lib.hid (fun h => rows_next hlt hltb h Ht.out)
    clear e1 e2 hda hdb ha2 hb2
    generalize sameE a[x] b[x] = se at *
    generalize a[x] = en at *
    generalize b[x] = em at *
    obtain ⟨kind, ag, sh, seq, ep, ds, ser, fr, tag⟩ := en
    obtain ⟨kind', ag', sh', seq', ep', ds', ser', fr', tag'⟩ := em
    have a0 := h1 0 _ rfl; have a1 := h1 1 _ rfl; have a2 := h1 2 _ rfl; have a3 := h1 3 _ rfl; have a4 := h1 4 _ rfl; have a5 := h1 5 _ rfl; have a6 := h1 6 _ rfl; have a7 := h1 7 _ rfl; have a8 := h1 8 _ rfl
    have b0 := h2 0 _ rfl; have b1 := h2 1 _ rfl; have b2 := h2 2 _ rfl; have b3 := h2 3 _ rfl; have b4 := h2 4 _ rfl; have b5 := h2 5 _ rfl; have b6 := h2 6 _ rfl; have b7 := h2 7 _ rfl; have b8 := h2 8 _ rfl
    rw [Nat.add_zero] at a0 b0
    simp only [] at a0 a1 a2 a3 a4 a5 a6 a7 a8 b0 b1 b2 b3 b4 b5 b6 b7 b8
    simp only [eCell] at hsame
    clear h1 h2
    have hx1 : (x : Int) < (a.length : Int) := by omega
    have hx2 : (x : Int) < (b.length : Int) := by omega
    cases se with
    | true =>
     have hnx := Lib.hid (Hx.out rfl)
     clear Hd Hx
     go_wp2
     go_region_with ((go_at_call 24; refine (hsame.out 1).mono ?_; rintro e w2 ⟨rfl, hb2⟩; have Hb2 := Lib.hid (below_then Hbe.out (show Below wr.heap.size wr w2 from ⟨hb2.os, hb2.tape, hb2.output, hb2.size, hb2.block⟩)); clear hb2))
     all_goals
      go_wp2
      go_roundw
      case rel => exact ⟨x + 1, by go_num, by omega, hnx, Hb2⟩
      case measure => simp [intOf] <;> omega
    | false =>
     have hf := Lib.hid (Hd.out rfl)
     clear Hd Hx
     go_wp2
     go_region_with ((go_at_call 24; refine (hsame.out 1).mono ?_; rintro e w2 ⟨rfl, hb2⟩; have Hb2 := Lib.hid (below_then Hbe.out (show Below wr.heap.size wr w2 from ⟨hb2.os, hb2.tape, hb2.output, hb2.size, hb2.block⟩)); clear hb2))
     all_goals
      go_wp2
      go_ret
      rw [hf.out]
      exact ⟨rfl, Hb2.out⟩
   ·obtain rfl : x = a.length := by omega
    have hf := Lib.hid (Hfin.out _ rfl Ht.out)
    go_wp2
    go_ret
    rw [hf.out]
    exact ⟨rfl, Hbe.out⟩
 ·have hni : ((a.length : Int) != (b.length : Int)) = true := by rw [bne_iff_ne]; omega
  have hf := Lib.hid (rows_len hn)
  clear hn Ha Hb
  go_enter Tryz.func38, Tryz.ntmps38
  go_wp2
  go_ret
  rw [hf.out]
  exact ⟨rfl, Below.refl _ _⟩
set_option maxRecDepth 100000 in
set_option maxHeartbeats 4000000 in
theorem rmsgsame_any (a b : MsgD) (da la db lb : Value) (w : World) (ha : MsgAt w [] a da la) (hb : MsgAt w [] b db lb) (ca : MCnt a) (cb : MCnt b) :
  Calls Tryz.prog 51 #[.agg (mCell a da la).toArray, .agg (mCell b db lb).toArray] w fun r w' => SamePost (sameM a b) w r w' := by
 have hse := Lib.hid (fun W (hk : Keeps [] w W) => rsame_any da db a.en b.en W (ha.1.keep hk (by simp)) (hb.1.keep hk (by simp)) ca.1 cb.1)
 have hro := Lib.hid (fun W (hk : Keeps [] w W) => rlogs_any la lb a.log b.log W (ha.2.keep hk (by simp)) (hb.2.keep hk (by simp)) ca.2 cb.2)
 have HS : Hid (sameM a b = (sameE a.en b.en && rowsEq a.log b.log && (a.kd == b.kd && a.tag == b.tag && a.code == b.code && a.nn == b.nn && a.term == b.term && a.had == b.had && a.commit == b.commit && a.len == b.len))) := rfl
 obtain ⟨Aa, na, rfl, _⟩ := ha.1.len
 obtain ⟨Ab, nb, rfl, _⟩ := hb.1.len
 obtain ⟨Ba, ka, rfl, _⟩ := ha.2.len
 obtain ⟨Bb, kb, rfl, _⟩ := hb.2.len
 generalize sameM a b = R at *
 generalize sameE a.en b.en = s1 at *
 generalize rowsEq a.log b.log = s2 at *
 clear ha hb ca cb
 obtain ⟨kd, ⟨kind, ag, sh, seq, ep, ds, ser, fr, etg⟩, tag, code, nn, term, had, log, commit, len⟩ := a
 obtain ⟨kdz, ⟨kindz, agz, shz, seqz, epz, dsz, serz, frz, etgz⟩, tagz, codez, nnz, termz, hadz, logz, commitz, lenz⟩ := b
 simp only [eCell] at hse
 simp only [] at HS hro
 generalize ds.length = dn at *
 generalize dsz.length = dnz at *
 generalize log.length = ln at *
 generalize logz.length = lnz at *
 simp only [mCell, eCell, List.cons_append, List.nil_append]
 obtain ⟨w2, hw2⟩ : ∃ w2, w2 = (w.alloc (.cells #[.int .i64 kd, .int .i64 kind, .int .i64 ag, .int .i64 sh, .int .i64 seq, .int .i64 ep, .slice Aa dn na, .string ser, .int .i64 fr, .int .i64 etg, .int .i64 tag, .int .i64 code, .int .u64 nn, .int .i64 term, .int .i64 had, .slice Ba ln ka, .int .i64 commit, .int .i64 len] 68)).alloc (.cells #[.int .i64 kdz, .int .i64 kindz, .int .i64 agz, .int .i64 shz, .int .i64 seqz, .int .i64 epz, .slice Ab dnz nb, .string serz, .int .i64 frz, .int .i64 etgz, .int .i64 tagz, .int .i64 codez, .int .u64 nnz, .int .i64 termz, .int .i64 hadz, .slice Bb lnz kb, .int .i64 commitz, .int .i64 lenz] 68) := ⟨_, rfl⟩
 have hk2 : Keeps [] w w2 := by rw [hw2]; exact ((Keeps.refl _ _).alloc _).alloc _
 have hBa : Blk w2 w.heap.size 68 #[.int .i64 kd, .int .i64 kind, .int .i64 ag, .int .i64 sh, .int .i64 seq, .int .i64 ep, .slice Aa dn na, .string ser, .int .i64 fr, .int .i64 etg, .int .i64 tag, .int .i64 code, .int .u64 nn, .int .i64 term, .int .i64 had, .slice Ba ln ka, .int .i64 commit, .int .i64 len] := by rw [hw2]; exact (Blk.new w _ _).below (below_new' _ _) (by simp)
 have hBb : Blk w2 (w.heap.size + 1) 68 #[.int .i64 kdz, .int .i64 kindz, .int .i64 agz, .int .i64 shz, .int .i64 seqz, .int .i64 epz, .slice Ab dnz nb, .string serz, .int .i64 frz, .int .i64 etgz, .int .i64 tagz, .int .i64 codez, .int .u64 nnz, .int .i64 termz, .int .i64 hadz, .slice Bb lnz kb, .int .i64 commitz, .int .i64 lenz] := by
  have := Blk.new (w.alloc (.cells #[.int .i64 kd, .int .i64 kind, .int .i64 ag, .int .i64 sh, .int .i64 seq, .int .i64 ep, .slice Aa dn na, .string ser, .int .i64 fr, .int .i64 etg, .int .i64 tag, .int .i64 code, .int .u64 nn, .int .i64 term, .int .i64 had, .slice Ba ln ka, .int .i64 commit, .int .i64 len] 68)) 68 #[.int .i64 kdz, .int .i64 kindz, .int .i64 agz, .int .i64 shz, .int .i64 seqz, .int .i64 epz, .slice Ab dnz nb, .string serz, .int .i64 frz, .int .i64 etgz, .int .i64 tagz, .int .i64 codez, .int .u64 nnz, .int .i64 termz, .int .i64 hadz, .slice Bb lnz kb, .int .i64 commitz, .int .i64 lenz]
  rw [hw2]; simpa using this
 have Hw2 := Lib.hid hw2; have HBa := Lib.hid hBa; have HBb := Lib.hid hBb; have Hk2 := Lib.hid hk2
 have Hs1 := Lib.hid (hse.out w2 hk2)
 clear hw2 hBa hBb hk2 hse
 show Calls Tryz.prog 51 #[.agg #[.int .i64 kd, .int .i64 kind, .int .i64 ag, .int .i64 sh, .int .i64 seq, .int .i64 ep, .slice Aa dn na, .string ser, .int .i64 fr, .int .i64 etg, .int .i64 tag, .int .i64 code, .int .u64 nn, .int .i64 term, .int .i64 had, .slice Ba ln ka, .int .i64 commit, .int .i64 len], .agg #[.int .i64 kdz, .int .i64 kindz, .int .i64 agz, .int .i64 shz, .int .i64 seqz, .int .i64 epz, .slice Ab dnz nb, .string serz, .int .i64 frz, .int .i64 etgz, .int .i64 tagz, .int .i64 codez, .int .u64 nnz, .int .i64 termz, .int .i64 hadz, .slice Bb lnz kb, .int .i64 commitz, .int .i64 lenz]] w fun r w' => SamePost R w r w'
 cases h0 : (kd == kdz) with
 | false =>
  obtain rfl : R = false := by rw [HS.out, h0]; simp
  have Hkz : Hid (∀ o o', Below w.heap.size w ((w.alloc o).alloc o')) := fun o o' => ((Below.refl _ _).alloc (Nat.le_refl _) o).alloc (by simp) o'
  clear HS Hw2 HBa HBb Hk2 Hs1 hro
  go_enter Tryz.func51, Tryz.ntmps51
  go_wp2
  go_ret
  exact ⟨rfl, Hkz.out _ _⟩
 | true =>
  go_enter Tryz.func51, Tryz.ntmps51
  go_wp2_with fail
  rw [← Hw2.out]
  have hg1 : w.heap.size + 1 < w2.heap.size := HBb.out.lt
  generalize hgs : w.heap.size = g at HBa HBb hg1 ⊢
  have Hgs := Lib.hid hgs
  clear Hw2 hgs
  refine Hs1.out.mono ?_
  rintro e w3 ⟨rfl, hb3⟩
  have HBa3 := Lib.hid (HBa.out.below hb3 (by omega)); have HBb3 := Lib.hid (HBb.out.below hb3 hg1)
  have Hk3 := Lib.hid (Hk2.out.trans (Keeps.of_below (M := []) hb3) (by simp))
  have hg3 : g + 1 < w3.heap.size := HBb3.out.lt
  clear hb3 Hs1 HBa HBb Hk2
  have Hro := Lib.hid (hro.out w3 Hk3.out)
  clear hro
  cases s1 with
  | false =>
   obtain rfl : R = false := by rw [HS.out]; simp
   clear HS
   go_wp2
   go_ret
   exact ⟨rfl, Hk3.out.below⟩
  | true =>
   obtain ⟨q0, q1, q2, q3, q4, q5, q6, q7, q8, q9, qa, qb, qc, qd, qe, qf, qg, qh, _⟩ := blk18 HBa3.out
   obtain ⟨r0, r1, r2, r3, r4, r5, r6, r7, r8, r9, ra, rb, rc, rd, re, rf, rg, rh, _⟩ := blk18 HBb3.out
   cases h1 : (tag == tagz) with
   | false =>
    obtain rfl : R = false := by rw [HS.out, h0, h1]; simp
    clear HS
    go_wp2
    go_ret
    exact ⟨rfl, Hk3.out.below⟩
   | true =>
    cases h2 : (code == codez) with
    | false =>
     obtain rfl : R = false := by rw [HS.out, h0, h1, h2]; simp
     clear HS
     go_wp2
     go_ret
     exact ⟨rfl, Hk3.out.below⟩
    | true =>
     cases h3 : (nn == nnz) with
     | false =>
      obtain rfl : R = false := by rw [HS.out, h0, h1, h2, h3]; simp
      clear HS
      go_wp2
      go_ret
      exact ⟨rfl, Hk3.out.below⟩
     | true =>
      cases h4 : (term == termz) with
      | false =>
       obtain rfl : R = false := by rw [HS.out, h0, h1, h2, h3, h4]; simp
       clear HS
       go_wp2
       go_ret
       exact ⟨rfl, Hk3.out.below⟩
      | true =>
       cases h5 : (had == hadz) with
       | false =>
        obtain rfl : R = false := by rw [HS.out, h0, h1, h2, h3, h4, h5]; simp
        clear HS
        go_wp2
        go_ret
        exact ⟨rfl, Hk3.out.below⟩
       | true =>
        go_wp2_with fail
        refine Hro.out.mono ?_
        rintro e w4 ⟨rfl, hb4⟩
        have HBa4 := Lib.hid (HBa3.out.below hb4 (by omega)); have HBb4 := Lib.hid (HBb3.out.below hb4 hg3)
        have Hk4 := Lib.hid (Hk3.out.trans (Keeps.of_below (M := []) hb4) (by simp))
        clear hb4 Hro HBa3 HBb3 Hk3 q0 q1 q2 q3 q4 q5 q6 q7 q8 q9 qa qb qc qd qe qf qg qh r0 r1 r2 r3 r4 r5 r6 r7 r8 r9 ra rb rc rd re rf rg rh
        cases s2 with
        | false =>
         obtain rfl : R = false := by rw [HS.out]; simp
         clear HS
         go_wp2
         go_ret
         exact ⟨rfl, Hk4.out.below⟩
        | true =>
         obtain ⟨q0, q1, q2, q3, q4, q5, q6, q7, q8, q9, qa, qb, qc, qd, qe, qf, qg, qh, _⟩ := blk18 HBa4.out
         obtain ⟨r0, r1, r2, r3, r4, r5, r6, r7, r8, r9, ra, rb, rc, rd, re, rf, rg, rh, _⟩ := blk18 HBb4.out
         cases h6 : (commit == commitz) with
         | false =>
          obtain rfl : R = false := by rw [HS.out, h0, h1, h2, h3, h4, h5, h6]; simp
          clear HS
          go_wp2
          go_ret
          exact ⟨rfl, Hk4.out.below⟩
         | true =>
          cases h7 : (len == lenz) with
          | false =>
           obtain rfl : R = false := by rw [HS.out, h0, h1, h2, h3, h4, h5, h6, h7]; simp
           clear HS
           go_wp2
           go_ret
           exact ⟨rfl, Hk4.out.below⟩
          | true =>
           obtain rfl : R = true := by rw [HS.out, h0, h1, h2, h3, h4, h5, h6, h7]; rfl
           clear HS
           go_wp2
           go_ret
           exact ⟨rfl, Hk4.out.below⟩
end Go.Proofs.YtinnifhnabncfaaGreatDoor.Vi
end
