/- Texts put together: AgK, AgL, AgN, AgO, AgU, AgQ. -/
import Derived.Deep.DeepCutAuto
import Derived.Test.YtgdooockldgdlaaGreatDoorAK7
import Derived.Test.YtgdooockldgdlaaGreatDoorAK9
set_option linter.unusedVariables false
set_option linter.unusedSimpArgs false
section
namespace Go.Proofs.YtgdooockldgdlaaGreatDoor.Vi
open Go.RowKit Base Mem Go.Shelf Tape
open Go.Maps (Keyed)
open Draw
def SdPost (M : List Nat) (tg : Nat → Nat) (a d : Nat) (A' : AgD) (s : SentD) (w : World) (e : Ending) (w' : World) : Prop :=
 ∃ M' tg' dv', e = .returned (.agg (sCell s.dst s.m dv' (.slice none 0 0)).toArray) ∧ AgAt w' M' tg' a d A' ∧ Ext w M tg w' M' tg' ∧ Keeps (sel M tg [20, 23, 24]) w w' ∧ ∀ L, (∀ g ∈ L, g < w.heap.size) → Ds w' (L ++ M') dv' s.m.en.ds
section
variable {w w' : World} {M : List Nat} {tg : Nat → Nat} {a d : Nat} {A : AgD}
set_option maxRecDepth 100000 in
set_option maxHeartbeats 2000000 in
theorem agsend_any (h : AgAt w M tg a d A) (hM : ∀ g ∈ M, g < w.heap.size) (hc : A.cn + 2 ≤ 1099511627776) (k : Nat) (hk : k < 4) (b : BatD) (dv : Value) (hb : 1 ≤ b.seq ∧ b.seq ≤ 9223372036854775807) (hd : Ds w M dv b.ds) (hl : b.ds.length ≤ 1000000) (n t : Int) (hn : 0 ≤ n ∧ n ≤ A.cn) :
    Calls Tryz.prog 67 #[.pointer (some ⟨a, 0, none⟩), .agg #[.int .i64 A.node, .int .i64 k, .int .i64 b.seq], .agg #[.int .i64 n, .int .i64 t], .agg (bCell (b, dv)).toArray] w fun e w' => SdPost M tg a d (agSend A k b n) (sendM A k b n) w e w' := by
  have hok := agSend_ok h.1 hc k hk b hb n hn
  have ho := h.1
  have hnode : I64 A.node := ⟨by have := ho.1.1; omega, by have := ho.1.2; omega⟩
  have hk64 : I64 (k : Int) := ⟨by omega, by omega⟩
  have hq64 : I64 b.seq := ⟨by omega, by omega⟩
  have hep1 : A.bk.ep ≤ 1073741824 := by obtain ⟨_, C, _, hv⟩ := h; exact hv.bk.1.2.1
  have htag : 0 ≤ A.tag + 1 ∧ A.tag + 1 ≤ 9223372036854775807 := by
    have h1 := ho.2.2.2.2.1; have h2 := ho.2.2.2.2.2.1; have h3 := ho.2.2.2.2.2.2.2.1
    omega
  have hnow := ho.2.2.2.1
  have hlast := ho.2.2.1
  have hreps := ho.2.1
  obtain ⟨Ad, cd, rfl, hcd⟩ := hd.len
  unfold bCell
  simp only []
  -- the boxes
  obtain ⟨w0, hw0⟩ : ∃ w0, w0 = (((w.alloc (.cells #[.int .i64 A.node, .int .i64 k, .int .i64 b.seq] 30)).alloc (.cells #[.int .i64 n, .int .i64 t] 138)).alloc (.cells #[.int .i64 b.seq, .slice Ad b.ds.length cd] 136)).alloc (.cells #[.int .i64 0, .int .i64 0, .int .i64 0, .int .i64 0, .int .i64 0, .int .i64 0, .int .i64 0, .slice none 0 0, .string ⟨#[]⟩, .int .i64 0, .int .i64 0, .int .i64 0, .int .i64 0, .int .u64 0, .int .i64 0, .int .i64 0, .slice none 0 0, .int .i64 0, .int .i64 0] 61) := ⟨_, rfl⟩
  have hk0 : Keeps [] w w0 := by rw [hw0]; exact ((((Keeps.refl _ _).alloc _).alloc _).alloc _).alloc _
  have hB5 : Blk w0 w.heap.size 30 #[.int .i64 A.node, .int .i64 k, .int .i64 b.seq] := by
    rw [hw0]; exact ((Blk.new w _ _).below ((((Below.refl _ _).alloc (Nat.le_refl _) _).alloc (by simp) _).alloc (by simp) _) (by simp))
  have hB6 : Blk w0 (w.heap.size + 1) 138 #[.int .i64 n, .int .i64 t] := by
    have := Blk.new (w.alloc (.cells #[.int .i64 A.node, .int .i64 k, .int .i64 b.seq] 30)) 138 #[.int .i64 n, .int .i64 t]
    rw [World.size_alloc] at this
    rw [hw0]; exact this.below (((Below.refl _ _).alloc (Nat.le_refl _) _).alloc (by simp) _) (by simp)
  have hB7 : Blk w0 (w.heap.size + 1 + 1) 136 #[.int .i64 b.seq, .slice Ad b.ds.length cd] := by
    have := Blk.new ((w.alloc (.cells #[.int .i64 A.node, .int .i64 k, .int .i64 b.seq] 30)).alloc (.cells #[.int .i64 n, .int .i64 t] 138)) 136 #[.int .i64 b.seq, .slice Ad b.ds.length cd]
    rw [World.size_alloc, World.size_alloc] at this
    rw [hw0]; exact this.below ((Below.refl _ _).alloc (Nat.le_refl _) _) (by simp)
  have hB8 : Blk w0 (w.heap.size + 1 + 1 + 1) 61 sent0 := by
    have := Blk.new (((w.alloc (.cells #[.int .i64 A.node, .int .i64 k, .int .i64 b.seq] 30)).alloc (.cells #[.int .i64 n, .int .i64 t] 138)).alloc (.cells #[.int .i64 b.seq, .slice Ad b.ds.length cd] 136)) 61 sent0
    rw [World.size_alloc, World.size_alloc, World.size_alloc] at this
    rw [hw0]; exact this
  obtain ⟨hag0, hx0⟩ := h.more hM hk0 [w.heap.size + 1 + 1 + 1] (fun g hg => by simp at hg; subst hg; exact ⟨by omega, hB8.lt⟩)
  have htg8 : (fun x => if x ∈ [w.heap.size + 1 + 1 + 1] then 99 else tg x) (w.heap.size + 1 + 1 + 1) = 99 := by simp
  have hin8 : w.heap.size + 1 + 1 + 1 ∈ [w.heap.size + 1 + 1 + 1] ++ M := by simp
  have hd0 : ∀ L, (∀ g ∈ L, w.heap.size ≤ g) → Ds w0 (L ++ ([w.heap.size + 1 + 1 + 1] ++ M)) (.slice Ad b.ds.length cd) b.ds := fun L hL => (hd.avoid (M' := L ++ ([w.heap.size + 1 + 1 + 1] ++ M)) (fun g hg => by
    rcases List.mem_append.1 hg with h | h
    · exact .inr (hL g h)
    · rcases List.mem_append.1 h with h | h
      · simp at h; right; omega
      · exact .inl h)).keep hk0 (by simp)
  have hMold : ∀ g ∈ M, g < w.heap.size := hM
  have hnM : ∀ g, w.heap.size ≤ g → g ≠ w.heap.size + 1 + 1 + 1 → g ∉ [w.heap.size + 1 + 1 + 1] ++ M := fun g h1 h2 hm => by
    rcases List.mem_append.1 hm with h | h
    · simp at h; exact h2 h
    · have := hM _ h; omega
  generalize [w.heap.size + 1 + 1 + 1] ++ M = M1 at *
  generalize (fun x => if x ∈ [w.heap.size + 1 + 1 + 1] then 99 else tg x) = tg1 at *
  -- next
  have hnx := Lib.hid (agnext_any hag0 hx0.lt (by omega) (some ((k : Int), b.seq)) A.node k b.seq rfl (fun y hy => by injection hy with hy; subst hy; exact ⟨by show 0 ≤ (k : Int); omega, by show (k : Int) < 4; omega, hb⟩))
  have HB5 := Lib.hid hB5; have HB6 := Lib.hid hB6; have HB7 := Lib.hid hB7; have HB8 := Lib.hid hB8
  have HX0 := Lib.hid hx0; have HK0 := Lib.hid hk0; have HD0 := Lib.hid hd0; have Hok := Lib.hid hok; have HMo := Lib.hid hMold
  have HnM := Lib.hid hnM; have Ht8 := Lib.hid htg8; have Hin8 := Lib.hid hin8
  clear hnM hag0 hx0 hk0 hB5 hB6 hB7 hB8 hd0 hok h hM hMold htg8 hin8 hd
  go_enter Tryz.func67, Tryz.ntmps67
  go_upto_region 1 with (fail)
  rw [← hw0]
  clear hw0
  have p0 := HB5.out.cell 0; have p1 := HB5.out.cell 1; have p2 := HB5.out.cell 2
  go_wp2_with fail
  refine hnx.out.mono ?_
  rintro e w1 ⟨rfl, hag1, hx1, hk1⟩
  have hw1s := hk1.size
  have hlt8 := HB8.out.lt
  have HB5 := Lib.hid (hk1.blk HB5.out (fun hm => HnM.out _ (by omega) (by omega) (mem_sel.1 hm).1)); have HB6 := Lib.hid (hk1.blk HB6.out (fun hm => HnM.out _ (by omega) (by omega) (mem_sel.1 hm).1)); have HB7 := Lib.hid (hk1.blk HB7.out (fun hm => HnM.out _ (by omega) (by omega) (mem_sel.1 hm).1))
  have HB8 := Lib.hid (hk1.blk HB8.out (fun hm => by have h1 := (mem_sel.1 hm).2; rw [Ht8.out] at h1; simp at h1))
  have HX1 := Lib.hid (HX0.out.trans hx1 HK0.out.size)
  have HK1 : Hid (Keeps (sel M tg [20, 23, 24]) w w1) := Ext.keeps HX0.out (HK0.out.to_sel (by simp)) (hk1.sel_mono (by simp))
  have HA1 := Lib.hid hag1
  have HD1 : Hid (∀ L, (∀ g ∈ L, w.heap.size ≤ g) → Ds w1 (L ++ M1) (.slice Ad b.ds.length cd) b.ds) := fun L hL => (HD0.out L hL).keep hk1 (fun g hg => .inl (List.mem_append_right _ (mem_sel.1 hg).1))
  have hlt85 := HB8.out.lt
  clear hnx hag1 hx1 hk1 HD0 p0 p1 p2
  obtain ⟨C, Hv1⟩ : ∃ C, Hid (C.d = d) ∧ Hid (AgV w1 M1 tg1 a (agNext A (some ((k : Int), b.seq))) C) := by obtain ⟨_, C, hC, hv⟩ := HA1.out; exact ⟨C, hC, hv⟩
  obtain ⟨HCd, Hv1⟩ := Hv1
  obtain ⟨g5, Hg5⟩ : ∃ g5, Hid (g5 = w.heap.size) := ⟨_, rfl⟩
  obtain ⟨g6, Hg6⟩ : ∃ g6, Hid (g6 = w.heap.size + 1) := ⟨_, rfl⟩
  obtain ⟨g7, Hg7⟩ : ∃ g7, Hid (g7 = w.heap.size + 1 + 1) := ⟨_, rfl⟩
  obtain ⟨g8, Hg8⟩ : ∃ g8, Hid (g8 = w.heap.size + 1 + 1 + 1) := ⟨_, rfl⟩
  rw [← Hg5.out] at HB5; rw [← Hg6.out] at HB6; rw [← Hg7.out] at HB7; rw [← Hg8.out] at HB8
  have HS2 : Hid (∀ W, Keeps [] w1 W → W.cell? ⟨a, 3, none⟩ = some (.pointer (some ⟨C.s, 0, none⟩)) ∧ W.cell? ⟨C.s, 0, none⟩ = some (.int .i64 A.bk.ep) ∧ W.cell? ⟨a, 0, none⟩ = some (.int .i64 A.node) ∧ W.cell? ⟨g5, 0, none⟩ = some (.int .i64 A.node) ∧ W.cell? ⟨g5, 1, none⟩ = some (.int .i64 k) ∧ W.cell? ⟨g5, 2, none⟩ = some (.int .i64 b.seq) ∧ W.cell? ⟨g7, 1, none⟩ = some (.slice Ad b.ds.length cd)) := fun W hk => by
    have hv := Hv1.out.keep0 HX1.out.lt hk
    obtain ⟨c0, -, -, c3, -⟩ := agcells hv
    obtain ⟨_, vs, vc, qb, hb⟩ := hv.bk
    obtain ⟨b0, -⟩ := blk8 hb.blk
    have h5 := hk.blk HB5.out (by simp); have h7 := hk.blk HB7.out (by simp)
    exact ⟨c3, b0, c0, h5.cell 0, h5.cell 1, h5.cell 2, h7.cell 1⟩
  go_upto_region 2 with (fail)
  rw [← Hg8.out, ← Hg7.out, ← Hg6.out, ← Hg5.out]
  refine wp_region_held_drew (S := (fun W => W.cell? ⟨a, 3, none⟩ = some (.pointer (some ⟨C.s, 0, none⟩)) ∧ W.cell? ⟨C.s, 0, none⟩ = some (.int .i64 A.bk.ep) ∧ W.cell? ⟨a, 0, none⟩ = some (.int .i64 A.node) ∧ W.cell? ⟨g5, 0, none⟩ = some (.int .i64 A.node) ∧ W.cell? ⟨g5, 1, none⟩ = some (.int .i64 k) ∧ W.cell? ⟨g5, 2, none⟩ = some (.int .i64 b.seq) ∧ W.cell? ⟨g7, 1, none⟩ = some (.slice Ad b.ds.length cd))) (by kernel_rfl) (HS2.out _ (Keeps.refl _ _).drew) (fun hHeld => ?_)
  refine wpAnyH_take (i := 0) (oi := _) (v := ?v0u1) rfl (by kernel_rfl) (by kernel_rfl) (by kernel_rfl) (fun _ _ _ h => h) (Or.inl ⟨by rfl, ?y0u1⟩) (by assumption) ?r0u1
  case y0u1 => (intro w hSw; (obtain ⟨hS0, hS1, hS2, hS3, hS4, hS5, hS6⟩ := hSw); go_simp <;> with_reducible rfl)
  try simp only [List.getElem_toArray, List.getElem_cons_succ, List.getElem_cons_zero, Act.put, List.setIfInBounds_toArray, List.set_cons_zero, List.set_cons_succ]
  refine wpAnyH_take (i := 1) (oi := _) (v := ?v1u2) rfl (by kernel_rfl) (by kernel_rfl) (by kernel_rfl) (fun _ _ _ h => h) (Or.inl ⟨by rfl, ?y1u2⟩) (by assumption) ?r1u2
  case y1u2 => (intro w hSw; (obtain ⟨hS0, hS1, hS2, hS3, hS4, hS5, hS6⟩ := hSw); go_simp <;> with_reducible rfl)
  try simp only [List.getElem_toArray, List.getElem_cons_succ, List.getElem_cons_zero, Act.put, List.setIfInBounds_toArray, List.set_cons_zero, List.set_cons_succ]
  refine wpAnyH_take (i := 2) (oi := _) (v := ?v2u3) rfl (by kernel_rfl) (by kernel_rfl) (by kernel_rfl) (fun _ _ _ h => h) (Or.inl ⟨by rfl, ?y2u3⟩) (by assumption) ?r2u3
  case y2u3 => (intro w hSw; (obtain ⟨hS0, hS1, hS2, hS3, hS4, hS5, hS6⟩ := hSw); go_simp <;> with_reducible rfl)
  try simp only [List.getElem_toArray, List.getElem_cons_succ, List.getElem_cons_zero, Act.put, List.setIfInBounds_toArray, List.set_cons_zero, List.set_cons_succ]
  refine wpAnyH_take (i := 3) (oi := _) (v := ?v3u4) rfl (by kernel_rfl) (by kernel_rfl) (by kernel_rfl) (fun _ _ _ h => h) (Or.inl ⟨by rfl, ?y3u4⟩) (by assumption) ?r3u4
  case y3u4 => (intro w hSw; (obtain ⟨hS0, hS1, hS2, hS3, hS4, hS5, hS6⟩ := hSw); go_simp <;> with_reducible rfl)
  try simp only [List.getElem_toArray, List.getElem_cons_succ, List.getElem_cons_zero, Act.put, List.setIfInBounds_toArray, List.set_cons_zero, List.set_cons_succ]
  refine wpAnyH_take (i := 4) (oi := _) (v := ?v4u5) rfl (by kernel_rfl) (by kernel_rfl) (by kernel_rfl) (fun _ _ _ h => h) (Or.inl ⟨by rfl, ?y4u5⟩) (by assumption) ?r4u5
  case y4u5 => (intro w hSw; (obtain ⟨hS0, hS1, hS2, hS3, hS4, hS5, hS6⟩ := hSw); go_simp <;> with_reducible rfl)
  try simp only [List.getElem_toArray, List.getElem_cons_succ, List.getElem_cons_zero, Act.put, List.setIfInBounds_toArray, List.set_cons_zero, List.set_cons_succ]
  refine wpAnyH_take (i := 5) (oi := _) (v := ?v5u6) rfl (by kernel_rfl) (by kernel_rfl) (by kernel_rfl) (fun _ _ _ h => h) (Or.inl ⟨by rfl, ?y5u6⟩) (by assumption) ?r5u6
  case y5u6 => (intro w hSw; (obtain ⟨hS0, hS1, hS2, hS3, hS4, hS5, hS6⟩ := hSw); go_simp <;> with_reducible rfl)
  try simp only [List.getElem_toArray, List.getElem_cons_succ, List.getElem_cons_zero, Act.put, List.setIfInBounds_toArray, List.set_cons_zero, List.set_cons_succ]
  refine wpAnyH_take (i := 6) (oi := _) (v := ?v6u7) rfl (by kernel_rfl) (by kernel_rfl) (by kernel_rfl) (fun _ _ _ h => h) (Or.inl ⟨by rfl, ?y6u7⟩) (by assumption) ?r6u7
  case y6u7 => (intro w hSw; (obtain ⟨hS0, hS1, hS2, hS3, hS4, hS5, hS6⟩ := hSw); go_simp <;> with_reducible rfl)
  try simp only [List.getElem_toArray, List.getElem_cons_succ, List.getElem_cons_zero, Act.put, List.setIfInBounds_toArray, List.set_cons_zero, List.set_cons_succ]
  refine wpAnyH_take (i := 7) (oi := _) (v := ?v7u8) rfl (by kernel_rfl) (by kernel_rfl) (by kernel_rfl) (fun _ _ _ h => h) (Or.inl ⟨by rfl, ?y7u8⟩) (by assumption) ?r7u8
  case y7u8 => (intro w hSw; (obtain ⟨hS0, hS1, hS2, hS3, hS4, hS5, hS6⟩ := hSw); go_simp <;> with_reducible rfl)
  try simp only [List.getElem_toArray, List.getElem_cons_succ, List.getElem_cons_zero, Act.put, List.setIfInBounds_toArray, List.set_cons_zero, List.set_cons_succ]
  refine wpAnyH_take (i := 8) (oi := _) (v := ?v8u9) rfl (by kernel_rfl) (by kernel_rfl) (by kernel_rfl) (fun _ _ _ h => h) (Or.inl ⟨by rfl, ?y8u9⟩) (by assumption) ?r8u9
  case y8u9 => (intro w hSw; (obtain ⟨hS0, hS1, hS2, hS3, hS4, hS5, hS6⟩ := hSw); go_simp <;> with_reducible rfl)
  try simp only [List.getElem_toArray, List.getElem_cons_succ, List.getElem_cons_zero, Act.put, List.setIfInBounds_toArray, List.set_cons_zero, List.set_cons_succ]
  refine wpAnyH_take (i := 9) (oi := _) (v := ?v9u10) rfl (by kernel_rfl) (by kernel_rfl) (by kernel_rfl) (fun _ _ _ h => h) (Or.inl ⟨by rfl, ?y9u10⟩) (by assumption) ?r9u10
  case y9u10 => (intro w hSw; (obtain ⟨hS0, hS1, hS2, hS3, hS4, hS5, hS6⟩ := hSw); go_simp <;> with_reducible rfl)
  try simp only [List.getElem_toArray, List.getElem_cons_succ, List.getElem_cons_zero, Act.put, List.setIfInBounds_toArray, List.set_cons_zero, List.set_cons_succ]
  refine wpAnyH_take (i := 10) (oi := _) (v := ?v10u11) rfl (by kernel_rfl) (by kernel_rfl) (by kernel_rfl) (fun _ _ _ h => h) (Or.inl ⟨by rfl, ?y10u11⟩) (by assumption) ?r10u11
  case y10u11 => (intro w hSw; (obtain ⟨hS0, hS1, hS2, hS3, hS4, hS5, hS6⟩ := hSw); go_simp <;> with_reducible rfl)
  try simp only [List.getElem_toArray, List.getElem_cons_succ, List.getElem_cons_zero, Act.put, List.setIfInBounds_toArray, List.set_cons_zero, List.set_cons_succ]
  refine wpAnyH_take (i := 11) (oi := _) (v := ?v11u12) rfl (by kernel_rfl) (by kernel_rfl) (by kernel_rfl) (fun _ _ _ h => h) (Or.inl ⟨by rfl, ?y11u12⟩) (by assumption) ?r11u12
  case y11u12 => (intro w hSw; (obtain ⟨hS0, hS1, hS2, hS3, hS4, hS5, hS6⟩ := hSw); go_simp <;> with_reducible rfl)
  try simp only [List.getElem_toArray, List.getElem_cons_succ, List.getElem_cons_zero, Act.put, List.setIfInBounds_toArray, List.set_cons_zero, List.set_cons_succ]
  refine wpAnyH_take (i := 12) (oi := _) (v := ?v12u13) rfl (by kernel_rfl) (by kernel_rfl) (by kernel_rfl) (fun _ _ _ h => h) (Or.inl ⟨by rfl, ?y12u13⟩) (by assumption) ?r12u13
  case y12u13 => (intro w hSw; (obtain ⟨hS0, hS1, hS2, hS3, hS4, hS5, hS6⟩ := hSw); go_simp <;> with_reducible rfl)
  try simp only [List.getElem_toArray, List.getElem_cons_succ, List.getElem_cons_zero, Act.put, List.setIfInBounds_toArray, List.set_cons_zero, List.set_cons_succ]
  refine wpAnyH_take (i := 13) (oi := _) (v := ?v13u14) rfl (by kernel_rfl) (by kernel_rfl) (by kernel_rfl) (fun _ _ _ h => h) (Or.inl ⟨by rfl, ?y13u14⟩) (by assumption) ?r13u14
  case y13u14 => (intro w hSw; (obtain ⟨hS0, hS1, hS2, hS3, hS4, hS5, hS6⟩ := hSw); go_simp <;> with_reducible rfl)
  try simp only [List.getElem_toArray, List.getElem_cons_succ, List.getElem_cons_zero, Act.put, List.setIfInBounds_toArray, List.set_cons_zero, List.set_cons_succ]
  refine wpAnyH_take (i := 14) (oi := _) (v := ?v14u15) rfl (by kernel_rfl) (by kernel_rfl) (by kernel_rfl) (fun _ _ _ h => h) (Or.inl ⟨by rfl, ?y14u15⟩) (by assumption) ?r14u15
  case y14u15 => (intro w hSw; (obtain ⟨hS0, hS1, hS2, hS3, hS4, hS5, hS6⟩ := hSw); go_simp <;> with_reducible rfl)
  try simp only [List.getElem_toArray, List.getElem_cons_succ, List.getElem_cons_zero, Act.put, List.setIfInBounds_toArray, List.set_cons_zero, List.set_cons_succ]
  refine wpAnyH_take (i := 15) (oi := _) (v := ?v15u16) rfl (by kernel_rfl) (by kernel_rfl) (by kernel_rfl) (fun _ _ _ h => h) (Or.inl ⟨by rfl, ?y15u16⟩) (by assumption) ?r15u16
  case y15u16 => (intro w hSw; (obtain ⟨hS0, hS1, hS2, hS3, hS4, hS5, hS6⟩ := hSw); go_simp <;> with_reducible rfl)
  try simp only [List.getElem_toArray, List.getElem_cons_succ, List.getElem_cons_zero, Act.put, List.setIfInBounds_toArray, List.set_cons_zero, List.set_cons_succ]
  refine wpAnyH_ready (rs := [16]) (by kernel_rfl) (by simp) ?_
  refine AllReadyH.cons (o := _) rfl (fun K hK => ?_) AllReadyH.nil
  go_simp
  refine hK.out _ _ (HS2.out _ ((Keeps.refl [] w1).drew.alloc _)) (fun hHeld2 => ?_)
  clear hK K hHeld
  have hHeld := hHeld2
  clear hHeld2
  try simp only [List.getElem_toArray, List.getElem_cons_succ, List.getElem_cons_zero, Act.put, List.setIfInBounds_toArray, List.set_cons_zero, List.set_cons_succ]
  refine wpAnyH_ready (rs := [17]) (by kernel_rfl) (by simp) ?_
  refine AllReadyH.cons (o := _) rfl (fun K hK => ?_) AllReadyH.nil
  try simp only [List.getElem_toArray, List.getElem_cons_succ, List.getElem_cons_zero, Act.put, List.setIfInBounds_toArray, List.set_cons_zero, List.set_cons_succ]
  rw [if_pos (by rfl)]
  refine wp_store_blk 33 (.tmp 10) (.tmp 29) rfl w1.heap.size 0 33 _ #[.int .i64 1, .int .i64 A.node, .int .i64 k, .int .i64 b.seq, .int .i64 A.bk.ep, .slice Ad b.ds.length cd, .string ⟨#[]⟩, .int .i64 A.node, .int .i64 (A.tag + 1)] #[.int .i64 1, .int .i64 A.node, .int .i64 k, .int .i64 b.seq, .int .i64 A.bk.ep, .slice Ad b.ds.length cd, .string ⟨#[]⟩, .int .i64 A.node, .int .i64 (A.tag + 1)] rfl rfl (show Blk _ w1.drew.heap.size _ _ from Blk.new w1.drew _ _) (by show 0 + 9 ≤ 9; omega) rfl (by kernel_rfl) rfl ?_
  intro w2 hk2 hB2
  have hkc : Keeps [] w1 w2 := ((Keeps.refl [] w1).drew.alloc _).trans hk2 (by intro q hq; simp at hq; right; omega)
  have Hk2 := Lib.hid hkc; have HB10 := Lib.hid hB2
  clear hk2 hB2 hkc
  refine hK.out _ _ (HS2.out _ Hk2.out) (fun hHeld2 => ?_)
  clear hK K hHeld
  have hHeld := hHeld2
  clear hHeld2
  try simp only [List.getElem_toArray, List.getElem_cons_succ, List.getElem_cons_zero, Act.put, List.setIfInBounds_toArray, List.set_cons_zero, List.set_cons_succ]
  refine wpAnyH_done (by kernel_rfl) ?_ _
  clear hHeld
  have Hv2 := Lib.hid (Hv1.out.keep0 HX1.out.lt Hk2.out)
  have HM2 : Hid (∀ g ∈ M1, g < w2.heap.size) := fun g hg => Nat.lt_of_lt_of_le (HX1.out.lt g hg) Hk2.out.size
  have hg10 : w1.heap.size < w2.heap.size := HB10.out.lt
  obtain ⟨g10, Hg10⟩ : ∃ g10, Hid (g10 = w1.heap.size) := ⟨_, rfl⟩
  rw [← Hg10.out] at HB10
  have hne : g5 ∉ M1 ∧ g6 ∉ M1 ∧ g10 ∉ M1 := by
    have h5 := Hg5.out; have h6 := Hg6.out; have h10 := Hg10.out
    refine ⟨HnM.out _ (by omega) (by omega), HnM.out _ (by omega) (by omega), HnM.out _ ?_ ?_⟩
    · have := HK1.out.size; omega
    · have := Hg8.out; omega
  obtain ⟨hn5, hn6, hn10⟩ := hne
  have HB5 := Lib.hid (Hk2.out.blk HB5.out (by simp)); have HB6 := Lib.hid (Hk2.out.blk HB6.out (by simp)); have HB8 := Lib.hid (Hk2.out.blk HB8.out (by simp))
  have hwt := wait_bd (A.tag + 1) n
  have hnt : C.Nt < maxLen := by have h1 := Hv2.out.nt; have h2 : (agNext A (some ((k : Int), b.seq))).cn = A.cn + 1 := rfl; rw [h2] at h1; unfold maxLen; omega
  obtain ⟨w3, hrun, hm3, ht3⟩ := (show w2.drew.ownsMap Tryz.prog 30 heldElem C.tb C.Nt C.Dt from Hv2.out.tr).store lawK uMT hnt (ik_of hnode hk64 hq64) (show heldElem (.agg #[.int .i64 (n + 1), .int .i64 (nextAt A n)]) = some (.held (.agg #[.int .i64 (n + 1), .int .i64 (nextAt A n)]), []) from rfl)
  have hk3 : Keeps [C.tb] w2 w3 := Keeps.trans ((Keeps.refl [C.tb] w2).drew) (turned_keeps ht3) (by simp)
  obtain ⟨hv3, hx3, hkp3⟩ := Hv2.out.setTr HM2.out (tr' := setTr A.tries k b.seq (some (n + 1, nextAt A n))) (cn' := A.cn + 2) (by show A.cn + 1 ≤ A.cn + 2; omega) hm3 (trOk_put Hv2.out.trD Hv2.out.tr.isMap hnode hk64 hq64 (n + 1, nextAt A n)) (by have h1 := Hv2.out.nt; have h2 : (agNext A (some ((k : Int), b.seq))).cn = A.cn + 1 := rfl; rw [h2] at h1; omega) hk3
  have htbM := Hv2.out.tbM
  have hta : a ≠ C.tb := fun h => by have h1 := Hv2.out.ta; have h2 := Hv2.out.ttb; rw [h] at h1; omega
  have ht5 : g5 ≠ C.tb := fun h => hn5 (h ▸ htbM)
  have ht6 : g6 ≠ C.tb := fun h => hn6 (h ▸ htbM)
  have ht10 : g10 ≠ C.tb := fun h => hn10 (h ▸ htbM)
  have h8M : g8 ∈ M1 ∧ tg1 g8 = 99 := by rw [Hg8.out]; exact ⟨Hin8.out, Ht8.out⟩
  have ht8 : g8 ≠ C.tb := fun h => by have h1 := Hv2.out.ttb; rw [← h, h8M.2] at h1; omega
  have HS3 : Hid (∀ W, (W = w2.drew ∨ W = w3) → W.cell? ⟨a, 7, none⟩ = some (.map (some C.tb)) ∧ W.cell? ⟨a, 4, none⟩ = some (.int .i64 A.now) ∧ W.cell? ⟨g5, 0, none⟩ = some (.int .i64 A.node) ∧ W.cell? ⟨g5, 1, none⟩ = some (.int .i64 k) ∧ W.cell? ⟨g5, 2, none⟩ = some (.int .i64 b.seq) ∧ W.cell? ⟨g6, 0, none⟩ = some (.int .i64 n)) := fun W hW => by
    rcases hW with rfl | rfl
    · have h := agcells Hv2.out
      exact ⟨h.2.2.2.2.2.2.2.1, h.2.2.2.2.1, HB5.out.cell 0, HB5.out.cell 1, HB5.out.cell 2, HB6.out.cell 0⟩
    · have h := agcells hv3
      have h5 := hk3.blk HB5.out (by simpa using ht5); have h6 := hk3.blk HB6.out (by simpa using ht6)
      exact ⟨h.2.2.2.2.2.2.2.1, h.2.2.2.2.1, h5.cell 0, h5.cell 1, h5.cell 2, h6.cell 0⟩
  have HB10 := Lib.hid (hk3.blk HB10.out (by simpa using ht10)); have HB6 := Lib.hid (hk3.blk HB6.out (by simpa using ht6)); have HB8 := Lib.hid (hk3.blk HB8.out (by simpa using ht8))
  have Hv3 := Lib.hid hv3; have HX3 := Lib.hid (HX1.out.trans ((Ext.refl (w' := w2) HX1.out.lt Hk2.out.size).trans hx3 Hk2.out.size) HK1.out.size)
  have HK3 : Hid (Keeps (sel M tg [20, 23, 24]) w w3) := Ext.keeps HX1.out HK1.out ((Hk2.out.to_sel (by simp)).trans (hkp3.sel_mono (T' := [20, 23, 24]) (by simp)) (fun g hg => .inl hg))
  have HD3 : Hid (∀ L, (∀ g ∈ L, w.heap.size ≤ g) → Ds w3 (L ++ M1) (.slice Ad b.ds.length cd) b.ds) := fun L hL => ((HD1.out L hL).keep Hk2.out (by simp)).keep hk3 (fun g hg => .inl (List.mem_append_right _ (by simp at hg; subst hg; exact htbM)))
  have hwc : IntKind.u64.wrap (A.tag + 1) = A.tag + 1 := by rw [IntKind.wrap_u64]; omega
  have hwn : IntKind.i64.wrap (n + 1) = n + 1 := by rw [IntKind.wrap_i64]; omega
  have hwait := Lib.hid (fun W => wait_any (A.tag + 1) n 4 32 W (by omega))
  have hwa : IntKind.i64.wrap (A.now + waitS (A.tag + 1) n 4 32) = nextAt A n := by rw [IntKind.wrap_i64]; unfold nextAt; omega
  have hws : w.heap.size ≤ w1.heap.size := HK1.out.size
  have Hv3s : Hid (AgV w3 M1 tg1 a (agSend A k b n) { C with Nt := C.Nt + 1, Dt := C.Dt.put (ik A.node k b.seq) (.held (.agg #[.int .i64 (n + 1), .int .i64 (nextAt A n)])) }) := hv3
  have hP : Hid (∀ w4 w5 Av c, Keeps [] w3 w4 → (∀ M', (∀ g ∈ M', g < w3.heap.size) → Ds w4 M' (.slice Av b.ds.length c) b.ds) → Keeps [g8] w4 w5 → SdPost M tg a d (agSend A k b n) (sendM A k b n) w (.returned (.agg #[.int .i64 ((A.last + n).tmod A.reps), .int .i64 1, .int .i64 1, .int .i64 A.node, .int .i64 k, .int .i64 b.seq, .int .i64 A.bk.ep, .slice Av b.ds.length c, .string ⟨#[]⟩, .int .i64 A.node, .int .i64 (A.tag + 1), .int .i64 0, .int .i64 0, .int .u64 0, .int .i64 0, .int .i64 0, .slice none 0 0, .int .i64 0, .int .i64 0])) w5) := fun w4 w5 Av c hk4 hds hk5 => by
    have hag4 : AgAt w4 M1 tg1 a d (agSend A k b n) := ⟨Hok.out, _, by exact HCd.out, Hv3s.out.keep0 HX3.out.lt hk4⟩
    have hx4 := HX3.out.later hk4.size
    have hg8s := Hg8.out
    refine ⟨M1, tg1, .slice Av b.ds.length c, rfl, hag4.beside hx4.lt (fun g hg => by simp at hg; subst hg; exact h8M) hk5, hx4.later hk5.size, (HK3.out.trans hk4 (by simp)).trans hk5 (fun g hg => by simp at hg; subst hg; right; omega), fun L hL => ?_⟩
    refine (hds (L ++ M1) (fun g hg => ?_)).keep hk5 (fun g hg => by simp at hg; subst hg; exact .inl (List.mem_append_right _ h8M.1))
    rcases List.mem_append.1 hg with h | h
    · have := hL g h; have := HK3.out.size; omega
    · exact HX3.out.lt g h
  have hcopy : Hid (∀ W, Keeps [] w3 W → Calls Tryz.prog 119 #[.agg #[.int .i64 1, .int .i64 A.node, .int .i64 k, .int .i64 b.seq, .int .i64 A.bk.ep, .slice Ad b.ds.length cd, .string ⟨#[]⟩, .int .i64 A.node, .int .i64 (A.tag + 1)]] W fun r w' => ∃ Av c, r = .returned (.agg #[.int .i64 1, .int .i64 A.node, .int .i64 k, .int .i64 b.seq, .int .i64 A.bk.ep, .slice Av b.ds.length c, .string ⟨#[]⟩, .int .i64 A.node, .int .i64 (A.tag + 1)]) ∧ (∀ M', (∀ g ∈ M', g < W.heap.size) → Ds w' M' (.slice Av b.ds.length c) b.ds) ∧ Below W.heap.size W w') := fun W hk =>
    (copy_any M1 (sendE A k b) (.slice Ad b.ds.length cd) W ((HD3.out [] (by simp)).keep hk (by simp)) (by show b.ds.length * 24 ≤ _; omega)).mono fun r w' ⟨dv', h1, h2, h3⟩ => by
      obtain ⟨Av, c, rfl, _⟩ := (h2 [] (by simp)).len
      exact ⟨Av, c, h1, h2, h3⟩
  have h68 : g6 ≠ g8 := by have := Hg6.out; have := Hg8.out; omega
  have h108 : g10 ≠ g8 := fun h => hn10 (h ▸ h8M.1)
  have ha8 : a ≠ g8 := fun h => by have h1 := Hv3s.out.ta; rw [h, h8M.2] at h1; omega
  have HS4 : Hid (∀ W, Keeps [g8] w3 W → W.cell? ⟨a, 6, none⟩ = some (.int .i64 A.last) ∧ W.cell? ⟨a, 1, none⟩ = some (.int .i64 A.reps) ∧ W.cell? ⟨g6, 0, none⟩ = some (.int .i64 n) ∧ W.cell? ⟨g10, 0, none⟩ = some (.int .i64 1) ∧ W.cell? ⟨g10, 1, none⟩ = some (.int .i64 A.node) ∧ W.cell? ⟨g10, 2, none⟩ = some (.int .i64 k) ∧ W.cell? ⟨g10, 3, none⟩ = some (.int .i64 b.seq) ∧ W.cell? ⟨g10, 4, none⟩ = some (.int .i64 A.bk.ep) ∧ W.cell? ⟨g10, 5, none⟩ = some (.slice Ad b.ds.length cd) ∧ W.cell? ⟨g10, 6, none⟩ = some (.string ⟨#[]⟩) ∧ W.cell? ⟨g10, 7, none⟩ = some (.int .i64 A.node) ∧ W.cell? ⟨g10, 8, none⟩ = some (.int .i64 (A.tag + 1))) := fun W hk => by
    have hA := agcells Hv3s.out
    have hab := hk.blk Hv3s.out.blk (by simpa using ha8)
    have h6 := hk.blk HB6.out (by simpa using h68); have h10 := hk.blk HB10.out (by simpa using h108)
    exact ⟨hab.cell 6, hab.cell 1, h6.cell 0, h10.cell 0, h10.cell 1, h10.cell 2, h10.cell 3, h10.cell 4, h10.cell 5, h10.cell 6, h10.cell 7, h10.cell 8⟩
  have hrz : ¬ A.reps = 0 := by omega
  have hncn : n ≤ 1099511627776 := by omega
  have hwl : IntKind.i64.wrap (A.last + n) = A.last + n := by rw [IntKind.wrap_i64]; omega
  have hrem : 0 ≤ (A.last + n).tmod A.reps ∧ (A.last + n).tmod A.reps < 8 := by
    rw [Int.tmod_eq_emod_of_nonneg (by omega)]
    have h1 := Int.emod_nonneg (A.last + n) hrz
    have h2 := Int.emod_lt_of_pos (A.last + n) (show 0 < A.reps by omega)
    omega
  have hwr : IntKind.i64.wrap ((A.last + n).tmod A.reps) = (A.last + n).tmod A.reps := by rw [IntKind.wrap_i64]; omega
  clear hm3 ht3 hk3 hv3 hx3 hkp3 HX1 HK1 HD1 Hk2 HS2 Hv1 Hv2 HB7 HB5 hnt
  generalize waitS (A.tag + 1) n 4 32 = wt at *
  generalize nextAt A n = at_ at *
  go_upto_region 3 with (fail)
  go_region_held3 (fun W => W.cell? ⟨a, 7, none⟩ = some (.map (some C.tb)) ∧ W.cell? ⟨a, 4, none⟩ = some (.int .i64 A.now) ∧ W.cell? ⟨g5, 0, none⟩ = some (.int .i64 A.node) ∧ W.cell? ⟨g5, 1, none⟩ = some (.int .i64 k) ∧ W.cell? ⟨g5, 2, none⟩ = some (.int .i64 b.seq) ∧ W.cell? ⟨g6, 0, none⟩ = some (.int .i64 n)) (first | exact HS3.out _ (.inl rfl) | exact HS3.out _ (.inr rfl))
    (first
      | (go_at_call 118
         with_reducible refine (hwait.out _).mono ?_
         rintro e w9 ⟨rfl, rfl⟩))
  clear hrun HS3
  go_upto_region 4 with (fail)
  rw [← Hg10.out]
  refine wp_region_held_drew (S := (fun W => W.cell? ⟨a, 6, none⟩ = some (.int .i64 A.last) ∧ W.cell? ⟨a, 1, none⟩ = some (.int .i64 A.reps) ∧ W.cell? ⟨g6, 0, none⟩ = some (.int .i64 n) ∧ W.cell? ⟨g10, 0, none⟩ = some (.int .i64 1) ∧ W.cell? ⟨g10, 1, none⟩ = some (.int .i64 A.node) ∧ W.cell? ⟨g10, 2, none⟩ = some (.int .i64 k) ∧ W.cell? ⟨g10, 3, none⟩ = some (.int .i64 b.seq) ∧ W.cell? ⟨g10, 4, none⟩ = some (.int .i64 A.bk.ep) ∧ W.cell? ⟨g10, 5, none⟩ = some (.slice Ad b.ds.length cd) ∧ W.cell? ⟨g10, 6, none⟩ = some (.string ⟨#[]⟩) ∧ W.cell? ⟨g10, 7, none⟩ = some (.int .i64 A.node) ∧ W.cell? ⟨g10, 8, none⟩ = some (.int .i64 (A.tag + 1)))) (by kernel_rfl) (HS4.out _ (Keeps.refl _ _).drew) (fun hHeld => ?_)
  refine wpAnyH_take (i := 0) (oi := _) (v := ?v0u17) rfl (by kernel_rfl) (by kernel_rfl) (by kernel_rfl) (fun _ _ _ h => h) (Or.inl ⟨by rfl, ?y0u17⟩) (by assumption) ?r0u17
  case y0u17 => (intro w hSw; (obtain ⟨hS0, hS1, hS2, hS3, hS4, hS5, hS6, hS7, hS8, hS9, hS10, hS11⟩ := hSw); go_simp <;> with_reducible rfl)
  try simp only [List.getElem_toArray, List.getElem_cons_succ, List.getElem_cons_zero, Act.put, List.setIfInBounds_toArray, List.set_cons_zero, List.set_cons_succ]
  refine wpAnyH_take (i := 1) (oi := _) (v := ?v1u18) rfl (by kernel_rfl) (by kernel_rfl) (by kernel_rfl) (fun _ _ _ h => h) (Or.inl ⟨by rfl, ?y1u18⟩) (by assumption) ?r1u18
  case y1u18 => (intro w hSw; (obtain ⟨hS0, hS1, hS2, hS3, hS4, hS5, hS6, hS7, hS8, hS9, hS10, hS11⟩ := hSw); go_simp <;> with_reducible rfl)
  try simp only [List.getElem_toArray, List.getElem_cons_succ, List.getElem_cons_zero, Act.put, List.setIfInBounds_toArray, List.set_cons_zero, List.set_cons_succ]
  refine wpAnyH_take (i := 2) (oi := _) (v := ?v2u19) rfl (by kernel_rfl) (by kernel_rfl) (by kernel_rfl) (fun _ _ _ h => h) (Or.inl ⟨by rfl, ?y2u19⟩) (by assumption) ?r2u19
  case y2u19 => (intro w hSw; (obtain ⟨hS0, hS1, hS2, hS3, hS4, hS5, hS6, hS7, hS8, hS9, hS10, hS11⟩ := hSw); go_simp <;> with_reducible rfl)
  try simp only [List.getElem_toArray, List.getElem_cons_succ, List.getElem_cons_zero, Act.put, List.setIfInBounds_toArray, List.set_cons_zero, List.set_cons_succ]
  refine wpAnyH_take (i := 3) (oi := _) (v := ?v3u20) rfl (by kernel_rfl) (by kernel_rfl) (by kernel_rfl) (fun _ _ _ h => h) (Or.inl ⟨by rfl, ?y3u20⟩) (by assumption) ?r3u20
  case y3u20 => (intro w hSw; (obtain ⟨hS0, hS1, hS2, hS3, hS4, hS5, hS6, hS7, hS8, hS9, hS10, hS11⟩ := hSw); go_simp <;> with_reducible rfl)
  try simp only [List.getElem_toArray, List.getElem_cons_succ, List.getElem_cons_zero, Act.put, List.setIfInBounds_toArray, List.set_cons_zero, List.set_cons_succ]
  refine wpAnyH_take (i := 4) (oi := _) (v := ?v4u21) rfl (by kernel_rfl) (by kernel_rfl) (by kernel_rfl) (fun _ _ _ h => h) (Or.inl ⟨by rfl, ?y4u21⟩) (by assumption) ?r4u21
  case y4u21 => (intro w hSw; (obtain ⟨hS0, hS1, hS2, hS3, hS4, hS5, hS6, hS7, hS8, hS9, hS10, hS11⟩ := hSw); go_simp <;> with_reducible rfl)
  try simp only [List.getElem_toArray, List.getElem_cons_succ, List.getElem_cons_zero, Act.put, List.setIfInBounds_toArray, List.set_cons_zero, List.set_cons_succ]
  refine wpAnyH_take (i := 5) (oi := _) (v := ?v5u22) rfl (by kernel_rfl) (by kernel_rfl) (by kernel_rfl) (fun _ _ _ h => h) (Or.inl ⟨by rfl, ?y5u22⟩) (by assumption) ?r5u22
  case y5u22 => (intro w hSw; (obtain ⟨hS0, hS1, hS2, hS3, hS4, hS5, hS6, hS7, hS8, hS9, hS10, hS11⟩ := hSw); go_simp <;> with_reducible rfl)
  try simp only [List.getElem_toArray, List.getElem_cons_succ, List.getElem_cons_zero, Act.put, List.setIfInBounds_toArray, List.set_cons_zero, List.set_cons_succ]
  refine wpAnyH_take (i := 6) (oi := _) (v := ?v6u23) rfl (by kernel_rfl) (by kernel_rfl) (by kernel_rfl) (fun _ _ _ h => h) (Or.inl ⟨by rfl, ?y6u23⟩) (by assumption) ?r6u23
  case y6u23 => (intro w hSw; (obtain ⟨hS0, hS1, hS2, hS3, hS4, hS5, hS6, hS7, hS8, hS9, hS10, hS11⟩ := hSw); go_simp <;> with_reducible rfl)
  try simp only [List.getElem_toArray, List.getElem_cons_succ, List.getElem_cons_zero, Act.put, List.setIfInBounds_toArray, List.set_cons_zero, List.set_cons_succ]
  refine wpAnyH_take (i := 7) (oi := _) (v := ?v7u24) rfl (by kernel_rfl) (by kernel_rfl) (by kernel_rfl) (fun _ _ _ h => h) (Or.inl ⟨by rfl, ?y7u24⟩) (by assumption) ?r7u24
  case y7u24 => (intro w hSw; (obtain ⟨hS0, hS1, hS2, hS3, hS4, hS5, hS6, hS7, hS8, hS9, hS10, hS11⟩ := hSw); go_simp <;> with_reducible rfl)
  try simp only [List.getElem_toArray, List.getElem_cons_succ, List.getElem_cons_zero, Act.put, List.setIfInBounds_toArray, List.set_cons_zero, List.set_cons_succ]
  refine wpAnyH_take (i := 8) (oi := _) (v := ?v8u25) rfl (by kernel_rfl) (by kernel_rfl) (by kernel_rfl) (fun _ _ _ h => h) (Or.inl ⟨by rfl, ?y8u25⟩) (by assumption) ?r8u25
  case y8u25 => (intro w hSw; (obtain ⟨hS0, hS1, hS2, hS3, hS4, hS5, hS6, hS7, hS8, hS9, hS10, hS11⟩ := hSw); go_simp <;> with_reducible rfl)
  try simp only [List.getElem_toArray, List.getElem_cons_succ, List.getElem_cons_zero, Act.put, List.setIfInBounds_toArray, List.set_cons_zero, List.set_cons_succ]
  refine wpAnyH_take (i := 9) (oi := _) (v := ?v9u26) rfl (by kernel_rfl) (by kernel_rfl) (by kernel_rfl) (fun _ _ _ h => h) (Or.inl ⟨by rfl, ?y9u26⟩) (by assumption) ?r9u26
  case y9u26 => (intro w hSw; (obtain ⟨hS0, hS1, hS2, hS3, hS4, hS5, hS6, hS7, hS8, hS9, hS10, hS11⟩ := hSw); go_simp <;> with_reducible rfl)
  try simp only [List.getElem_toArray, List.getElem_cons_succ, List.getElem_cons_zero, Act.put, List.setIfInBounds_toArray, List.set_cons_zero, List.set_cons_succ]
  refine wpAnyH_take (i := 10) (oi := _) (v := ?v10u27) rfl (by kernel_rfl) (by kernel_rfl) (by kernel_rfl) (fun _ _ _ h => h) (Or.inl ⟨by rfl, ?y10u27⟩) (by assumption) ?r10u27
  case y10u27 => (intro w hSw; (obtain ⟨hS0, hS1, hS2, hS3, hS4, hS5, hS6, hS7, hS8, hS9, hS10, hS11⟩ := hSw); go_simp <;> with_reducible rfl)
  try simp only [List.getElem_toArray, List.getElem_cons_succ, List.getElem_cons_zero, Act.put, List.setIfInBounds_toArray, List.set_cons_zero, List.set_cons_succ]
  refine wpAnyH_take (i := 11) (oi := _) (v := ?v11u28) rfl (by kernel_rfl) (by kernel_rfl) (by kernel_rfl) (fun _ _ _ h => h) (Or.inl ⟨by rfl, ?y11u28⟩) (by assumption) ?r11u28
  case y11u28 => (intro w hSw; (obtain ⟨hS0, hS1, hS2, hS3, hS4, hS5, hS6, hS7, hS8, hS9, hS10, hS11⟩ := hSw); go_simp <;> with_reducible rfl)
  try simp only [List.getElem_toArray, List.getElem_cons_succ, List.getElem_cons_zero, Act.put, List.setIfInBounds_toArray, List.set_cons_zero, List.set_cons_succ]
  refine wpAnyH_take (i := 12) (oi := _) (v := ?v12u29) rfl (by kernel_rfl) (by kernel_rfl) (by kernel_rfl) (fun _ _ _ h => h) (Or.inl ⟨by rfl, ?y12u29⟩) (by assumption) ?r12u29
  case y12u29 => (intro w hSw; (obtain ⟨hS0, hS1, hS2, hS3, hS4, hS5, hS6, hS7, hS8, hS9, hS10, hS11⟩ := hSw); go_simp <;> with_reducible rfl)
  try simp only [List.getElem_toArray, List.getElem_cons_succ, List.getElem_cons_zero, Act.put, List.setIfInBounds_toArray, List.set_cons_zero, List.set_cons_succ]
  refine wpAnyH_ready (rs := [13]) (by kernel_rfl) (by simp) ?_
  refine AllReadyH.cons (o := _) rfl (fun K hK => ?_) AllReadyH.nil
  go_simp
  refine (hcopy.out _ ((Keeps.refl [] w3).drew)).mono ?_
  rintro r w4 ⟨Av, c, rfl, hds, hb4⟩
  have Hk4 : Hid (Keeps [] w3 w4) := (Keeps.refl [] w3).drew.trans (Keeps.of_below (M := []) hb4) (by simp)
  have Hds : Hid (∀ M', (∀ g ∈ M', g < w3.heap.size) → Ds w4 M' (.slice Av b.ds.length c) b.ds) := hds
  have HB84 := Lib.hid (Hk4.out.blk HB8.out (by simp))
  clear hds hb4
  refine hK.out _ _ (HS4.out _ (Hk4.out.mono (by simp))) (fun hHeld2 => ?_)
  clear hK K hHeld
  have hHeld := hHeld2
  clear hHeld2
  try simp only [List.getElem_toArray, List.getElem_cons_succ, List.getElem_cons_zero, Act.put, List.setIfInBounds_toArray, List.set_cons_zero, List.set_cons_succ]
  refine wpAnyH_take (i := 14) (oi := _) (v := ?v14u30) rfl (by kernel_rfl) (by kernel_rfl) (by kernel_rfl) (fun _ _ _ h => h) (Or.inl ⟨by rfl, ?y14u30⟩) (by assumption) ?r14u30
  case y14u30 => (intro w hSw; (obtain ⟨hS0, hS1, hS2, hS3, hS4, hS5, hS6, hS7, hS8, hS9, hS10, hS11⟩ := hSw); go_simp <;> with_reducible rfl)
  try simp only [List.getElem_toArray, List.getElem_cons_succ, List.getElem_cons_zero, Act.put, List.setIfInBounds_toArray, List.set_cons_zero, List.set_cons_succ]
  refine wpAnyH_take (i := 15) (oi := _) (v := ?v15u31) rfl (by kernel_rfl) (by kernel_rfl) (by kernel_rfl) (fun _ _ _ h => h) (Or.inl ⟨by rfl, ?y15u31⟩) (by assumption) ?r15u31
  case y15u31 => (intro w hSw; (obtain ⟨hS0, hS1, hS2, hS3, hS4, hS5, hS6, hS7, hS8, hS9, hS10, hS11⟩ := hSw); go_simp <;> with_reducible rfl)
  try simp only [List.getElem_toArray, List.getElem_cons_succ, List.getElem_cons_zero, Act.put, List.setIfInBounds_toArray, List.set_cons_zero, List.set_cons_succ]
  refine wpAnyH_ready (rs := [16]) (by kernel_rfl) (by simp) ?_
  refine AllReadyH.cons (o := _) rfl (fun K hK => ?_) AllReadyH.nil
  try simp only [List.getElem_toArray, List.getElem_cons_succ, List.getElem_cons_zero, Act.put, List.setIfInBounds_toArray, List.set_cons_zero, List.set_cons_succ]
  rw [if_pos (by rfl)]
  refine wp_store_blk 61 (.tmp 8) (.tmp 64) rfl g8 0 61 sent0 #[.int .i64 ((A.last + n).tmod A.reps), .int .i64 1, .int .i64 1, .int .i64 A.node, .int .i64 k, .int .i64 b.seq, .int .i64 A.bk.ep, .slice Av b.ds.length c, .string ⟨#[]⟩, .int .i64 A.node, .int .i64 (A.tag + 1), .int .i64 0, .int .i64 0, .int .u64 0, .int .i64 0, .int .i64 0, .slice none 0 0, .int .i64 0, .int .i64 0] #[.int .i64 ((A.last + n).tmod A.reps), .int .i64 1, .int .i64 1, .int .i64 A.node, .int .i64 k, .int .i64 b.seq, .int .i64 A.bk.ep, .slice Av b.ds.length c, .string ⟨#[]⟩, .int .i64 A.node, .int .i64 (A.tag + 1), .int .i64 0, .int .i64 0, .int .u64 0, .int .i64 0, .int .i64 0, .slice none 0 0, .int .i64 0, .int .i64 0] rfl rfl HB84.out (by show 0 + 19 ≤ 19; omega) rfl (by kernel_rfl) rfl ?_
  intro w5 hk5 hB5
  have Hk5 := Lib.hid hk5; have HB5 := Lib.hid hB5
  clear hk5 hB5
  refine hK.out _ _ (HS4.out _ ((Hk4.out.mono (M' := [g8]) (by simp)).trans Hk5.out (fun g hg => .inl hg))) (fun hHeld2 => ?_)
  clear hK K hHeld
  have hHeld := hHeld2
  clear hHeld2
  try simp only [List.getElem_toArray, List.getElem_cons_succ, List.getElem_cons_zero, Act.put, List.setIfInBounds_toArray, List.set_cons_zero, List.set_cons_succ]
  refine wpAnyH_done (by kernel_rfl) ?_ _
  clear hHeld
  go_wp2_with fail
  refine bodyPost_ret (results_cell1 rfl _ _ g8 61 #[.int .i64 ((A.last + n).tmod A.reps), .int .i64 1, .int .i64 1, .int .i64 A.node, .int .i64 k, .int .i64 b.seq, .int .i64 A.bk.ep, .slice Av b.ds.length c, .string ⟨#[]⟩, .int .i64 A.node, .int .i64 (A.tag + 1), .int .i64 0, .int .i64 0, .int .u64 0, .int .i64 0, .int .i64 0, .slice none 0 0, .int .i64 0, .int .i64 0] _ rfl HB5.out Tryz.underlying61 rfl (by kernel_rfl)) rfl ?_
  exact hP.out _ _ _ _ Hk4.out Hds.out Hk5.out
end
def tryD (A : AgD) (k : Nat) (b : BatD) : Int × Int := (A.tries k b.seq).getD (0, 0)
def dueB (A : AgD) (k : Nat) (b : BatD) : Bool := decide ((tryD A k b).1 = 0) || decide ((tryD A k b).2 ≤ A.now)
def flightC : AgD → Nat → List BatD → List SentD → AgD × List SentD
 | A, _, [], out => (A, out)
 | A, k, b :: l, out => if dueB A k b = true then flightC (agSend A k b (tryD A k b).1) k l (out ++ [sendM A k b (tryD A k b).1]) else flightC A k l out
def queuesC : Nat → Nat → AgD → List SentD → AgD × List SentD
 | 0, _, A, out => (A, out)
 | j + 1, k, A, out => queuesC j (k + 1) (flightC A k ((A.bk.q k).l.take 4) out).1 (flightC A k ((A.bk.q k).l.take 4) out).2
def agNow (A : AgD) : AgD := { A with now := A.now + 1 }
def ticksC : Nat → AgD → List SentD → AgD × List SentD
 | 0, A, out => (A, out)
 | j + 1, A, out => ticksC j (queuesC 4 0 (agNow A) out).1 (queuesC 4 0 (agNow A) out).2
def agTick (A : AgD) (n : Int) : AgD × List SentD := ticksC (max 0 (min n 1024)).toNat A []
theorem tryV_eq (A : AgD) (k : Nat) (b : BatD) : tryV (A.tries k b.seq) = .agg #[.int .i64 (tryD A k b).1, .int .i64 (tryD A k b).2] := by
 unfold tryD
 cases A.tries k b.seq <;> rfl
def snCell (p : SentD × Value) : List Value := sCell p.1.dst p.1.m p.2 (.slice none 0 0)
theorem infoSent : (Tryz.prog.info? 61).map (fun i => (i.zero, i.size, i.bytes)) = some (some (.agg #[.int .i64 0, .int .i64 0, .int .i64 0, .int .i64 0, .int .i64 0, .int .i64 0, .int .i64 0, .slice none 0 0, .string ByteArray.empty, .int .i64 0, .int .i64 0, .int .i64 0, .int .i64 0, .int .u64 0, .int .i64 0, .int .i64 0, .slice none 0 0, .int .i64 0, .int .i64 0]), 19, 192) := by kernel_rfl
theorem agNow_ok {A : AgD} (h : AgOk A) (hn : A.now + 1 ≤ 1099511627776) : AgOk (agNow A) := by
 obtain ⟨p1, p2, p3, p4, p5, p6, p7, p8, p9, p10, p11⟩ := h
 exact ⟨p1, p2, p3, ⟨by show 0 ≤ A.now + 1; omega, hn⟩, p5, p6, p7, p8, p9, p10, p11⟩
structure TkSt (w : World) (M : List Nat) (tg : Nat → Nat) (a d : Nat) (A : AgD) (out : List SentD) (ov : Value) (wx : World) (Mk : List Nat) (tgk : Nat → Nat) : Prop where
 ag : AgAt wx Mk tgk a d A
 x : Ext w M tg wx Mk tgk
 k : Keeps (sel M tg (List.range 30)) w wx
 qs : ∃ qs : List (SentD × Value), qs.map (·.1) = out ∧ wx.ownsRow w.heap.size 61 19 ov out.length (qs.flatMap snCell) ∧ ∀ q ∈ qs, ∀ L, (∀ g ∈ L, g < w.heap.size) → Ds wx (L ++ Mk) q.2 q.1.m.en.ds
 far : ∀ g, ov.ownBlock = some g → g ∈ Mk ∧ tgk g = 99
section
variable {w w' wx wy : World} {M M' Mk My : List Nat} {tg tg' tgk tgy : Nat → Nat} {a d : Nat} {A B : AgD} {C : AgC} {T : List Nat} {out : List SentD} {ov : Value}
theorem TkSt.step (h : TkSt w M tg a d A out ov wx Mk tgk) (hx : Ext wx Mk tgk wy My tgy) (hk : Keeps (sel Mk tgk (List.range 30)) wx wy) (ha : AgAt wy My tgy a d B) : TkSt w M tg a d B out ov wy My tgy := by
 obtain ⟨qs, h1, h2, h3⟩ := h.qs
 refine ⟨ha, h.x.trans hx h.k.size, Ext.keeps h.x h.k hk, ⟨qs, h1, row_other hk h2 (fun g hg => by rw [(h.far g hg).2]; simp), fun q hq L hL => ?_⟩, fun g hg => ?_⟩
 ·refine ((h3 q hq L hL).avoid (M' := L ++ My) (fun g hg => ?_)).keep hk (fun g hg => .inl (List.mem_append_right _ (hx.sub g (mem_sel.1 hg).1)))
  rcases List.mem_append.1 hg with h4 | h4
  ·exact .inl (List.mem_append_left _ h4)
  ·rcases hx.new g h4 with h5 | h5
   ·exact .inl (List.mem_append_right _ h5)
   ·exact .inr h5
 ·obtain ⟨h4, h5⟩ := h.far g hg
  exact ⟨hx.sub g h4, (hx.tag g (hx.old g h4)).trans h5⟩
theorem TkSt.keep0 (h : TkSt w M tg a d A out ov wx Mk tgk) (hk : Keeps [] wx wy) : TkSt w M tg a d A out ov wy Mk tgk :=
 h.step (Ext.refl h.x.lt hk.size) (hk.to_sel (by simp)) (h.ag.keep0 h.x.lt hk)
/-- A message more. -/
theorem TkSt.put {w1 w2 : World} {s : SentD} {dv ov' : Value} {o : Obj} {qs : List (SentD × Value)} (h1 : TkSt w M tg a d B out ov w1 My tgy) (e1 : qs.map (·.1) = out) (e2 : w1.ownsRow w.heap.size 61 19 ov out.length (qs.flatMap snCell)) (e3 : ∀ q ∈ qs, ∀ L, (∀ g ∈ L, g < w.heap.size) → Ds w1 (L ++ My) q.2 q.1.m.en.ds)
  (hds : ∀ L, (∀ g ∈ L, g < w.heap.size) → Ds w1 (L ++ My) dv s.m.en.ds) (hg : (w1.alloc o).grownBy w2 ov.ownBlock) (hat : ov'.ownBlock = ov.ownBlock ∨ ov'.ownBlock = some (w1.alloc o).heap.size)
  (hrw : w2.ownsRow w.heap.size 61 19 ov' (out.length + 1) (qs.flatMap snCell ++ snCell (s, dv))) :
  ∃ M2 tg2, TkSt w M tg a d B (out ++ [s]) ov' w2 M2 tg2 ∧ Ext w1 My tgy w2 M2 tg2 ∧ Keeps (sel My tgy [99]) w1 w2 := by
 have k12 : Keeps ov.ownBlock.toList w1 w2 := (((Keeps.refl [] w1).alloc o).mono (by simp)).grown hg (fun g hg => .inl (by simpa using hg))
 have hks : Keeps (sel My tgy [99]) w1 w2 := k12.to_sel (fun g hg => .inl (by have := h1.far g (by simpa using hg); simp [this.1, this.2]))
 have hx2 : Ext w1 My tgy w2 (ov'.ownBlock.toList ++ My) (fun x => if ov'.ownBlock = some x then 99 else tgy x) := Ext.add h1.x.lt hks.size _ _ (fun g hg => by
  refine ⟨?_, (hrw.lt g hg).2⟩
  rcases hat with h4 | h4
  ·exact .inl (h1.far g (by rw [← h4, hg]))
  ·rw [h4] at hg; injection hg with hg; subst hg; right; rw [World.size_alloc]; omega)
 obtain ⟨ho, C, hC, hv⟩ := h1.ag
 refine ⟨_, _, ⟨⟨ho, C, hC, hv.keepT hx2 hks (by simp)⟩, h1.x.trans hx2 h1.k.size, h1.k.trans k12 (fun g hg => .inr ?_), ⟨qs ++ [(s, dv)], by rw [List.map_append, e1]; rfl, ?_, fun q hq L hL => ?_⟩, fun g hg => ⟨List.mem_append_left _ (by simpa using hg), by simp [hg]⟩⟩, hx2, hks⟩
 ·exact (e2.lt g (by simpa using hg)).1
 ·rw [List.length_append, List.flatMap_append]
  have := hrw
  simpa using this
 ·have hout : ∀ q' : SentD × Value, Ds w1 (L ++ My) q'.2 q'.1.m.en.ds → Ds w2 (L ++ (ov'.ownBlock.toList ++ My)) q'.2 q'.1.m.en.ds := fun q' hq' => by
   refine (hq'.avoid (M' := L ++ (ov'.ownBlock.toList ++ My)) (fun g hg => ?_)).keep k12 (fun g hg => .inl ?_)
   ·rcases List.mem_append.1 hg with h4 | h4
    ·exact .inl (List.mem_append_left _ h4)
    ·rcases hx2.new g h4 with h5 | h5
     ·exact .inl (List.mem_append_right _ h5)
     ·exact .inr h5
   ·exact List.mem_append_right _ (hx2.sub g (h1.far g (by simpa using hg)).1)
  rcases List.mem_append.1 hq with h4 | h4
  ·exact hout q (e3 q h4 L hL)
  ·simp at h4; subst h4
   exact hout _ (hds L hL)
theorem bats_more {l : List BatD} {v : Value} (hx : Ext wx Mk tgk wy My tgy) (hk : Keeps (sel Mk tgk T) wx wy) (hb : Bats wx Mk v l) : Bats wy My v l :=
 (hb.avoid hx.new).keep hk (fun g hg => .inl (hx.sub g (mem_sel.1 hg).1))
end
def TkPost (M : List Nat) (tg : Nat → Nat) (a d : Nat) (R : AgD × List SentD) (w : World) (e : Ending) (w' : World) : Prop :=
 ∃ v M' tg', e = .returned v ∧ TkSt w M tg a d R.1 R.2 v w' M' tg'
end Go.Proofs.YtgdooockldgdlaaGreatDoor.Vi
end
section
namespace Go.Proofs.YtgdooockldgdlaaGreatDoor.Vi
open Go.RowKit Base Mem Go.Shelf Tape
open Go.Maps (Keyed)
/-- A record more in the log, if there is room. -/
def agLog (A : AgD) (R : List UInt8) : AgD := if waCode R A.b = 0 then { A with b := A.b ++ frameL R, n := A.n + 1 } else A
def agDone (A : AgD) (k : Nat) (q : Int) : AgD := { agLog A (recD k q.toNat) with bk := { A.bk with q := setQ A.bk.q k (quDone (A.bk.q k) q) }, tries := setTr A.tries k q none, asked := A.asked.filter fun p => p.2 != some ((k : Int), q) }
theorem agLog_eq (A : AgD) (R : List UInt8) : (agLog A R).node = A.node ∧ (agLog A R).reps = A.reps ∧ (agLog A R).now = A.now ∧ (agLog A R).tag = A.tag ∧ (agLog A R).last = A.last ∧ (agLog A R).bk = A.bk ∧ (agLog A R).tries = A.tries ∧ (agLog A R).asked = A.asked ∧ (agLog A R).cn = A.cn ∧ A.n ≤ (agLog A R).n := by
 unfold agLog
 split
 ·exact ⟨rfl, rfl, rfl, rfl, rfl, rfl, rfl, rfl, rfl, Nat.le_succ _⟩
 ·exact ⟨rfl, rfl, rfl, rfl, rfl, rfl, rfl, rfl, rfl, Nat.le_refl _⟩
theorem agDone_ok {A : AgD} (h : AgOk A) (k : Nat) (q : Int) : AgOk (agDone A k q) := by
 obtain ⟨p1, p2, p3, p4, p5, p6, p7, p8, p9, p10, p11⟩ := h
 obtain ⟨e1, e2, e3, e4, e5, e6, e7, e8, e9, e10⟩ := agLog_eq A (recD k q.toNat)
 unfold AgOk agDone
 simp only [e1, e2, e3, e4, e5, e9]
 refine ⟨p1, p2, p3, p4, p5, p6, Nat.le_trans p7 e10, p8, fun s t x hx => ?_, fun p hp => ?_, ?_⟩
 ·unfold setTr at hx
  split at hx
  ·cases hx
  ·exact p9 s t x hx
 ·exact p10 p (List.mem_filter.1 hp).1
 ·exact p11.sublist (List.filter_sublist.map _)
theorem i64_of_wf {n : Int} (h : (Lit.int .i64 n).wf = true) : I64 n := by
 have h2 := h
 unfold Lit.wf at h2
 rw [Bool.and_eq_true, decide_eq_true_eq, decide_eq_true_eq] at h2
 have e1 : IntKind.i64.min = -9223372036854775808 := by decide
 have e2 : IntKind.i64.max = 9223372036854775807 := by decide
 rw [e1, e2] at h2
 exact h2
theorem look_filter (f : Option (Int × Int) → Bool) : ∀ (l : List (Int × Option (Int × Int))), (l.map (·.1)).Nodup → ∀ t, look (l.filter fun p => f p.2) t = match look l t with | some y => if f y = true then some y else none | none => none
 | [], _, t => rfl
 | p :: l, hn, t => by
  have hn2 := List.nodup_cons.1 hn
  have ih := look_filter f l hn2.2 t
  have hno : p.1 = t → look l t = none := fun e => look_none (fun x hx h => hn2.1 (List.mem_map.2 ⟨x, hx, h.trans e.symm⟩))
  unfold look at ih hno ⊢
  rw [List.filter_cons]
  by_cases hp : p.1 = t
  ·have h1 := hno hp
   rw [h1] at ih
   have e1 : (p.1 == t) = true := by simpa using hp
   by_cases hf : f p.2 = true
   ·rw [if_pos hf, List.find?_cons, List.find?_cons, e1]
    simp [hf]
   ·rw [if_neg hf, ih, List.find?_cons, e1]
    simp [hf]
  ·have e1 : (p.1 == t) = false := by simpa using hp
   rw [List.find?_cons, e1]
   by_cases hf : f p.2 = true
   ·rw [if_pos hf, List.find?_cons, e1]
    exact ih
   ·rw [if_neg hf]
    exact ih
/-- The map of tags under way: what is gone, what is still to come. -/
def GoneOk (D0 D : DataW Value) (asked : List (Int × Option (Int × Int))) (id : Option (Int × Int)) (left : Lit → Bool) : Prop :=
 ∀ t, I64 t → (Maps.has D (tkey t) = (Maps.has D0 (tkey t) && (left (tkey t) || !(look asked t == some id)))) ∧ (D.atKey (tkey t) (.held zId) = bif (!left (tkey t) && (look asked t == some id)) then .held zId else D0.atKey (tkey t) (.held zId))
theorem gone_start {D0 : DataW Value} {node : Int} {asked : List (Int × Option (Int × Int))} (h : AsOk D0 node asked) (id : Option (Int × Int)) : GoneOk D0 D0 asked id (Maps.has D0) := fun t ht => by
 obtain ⟨h1, h2⟩ := h t ht
 rw [h1]
 cases hl : look asked t with
 | none => simp
 | some y => simp
theorem gone_end {D0 D : DataW Value} {node : Int} {asked : List (Int × Option (Int × Int))} {id : Option (Int × Int)} {left : Lit → Bool} (h0 : AsOk D0 node asked) (h : GoneOk D0 D asked id left) (hl : ∀ kl, left kl = false) (hn : (asked.map (·.1)).Nodup) :
  AsOk D node (asked.filter fun p => p.2 != id) := fun t ht => by
 obtain ⟨h1, h2⟩ := h t ht
 obtain ⟨a1, a2⟩ := h0 t ht
 rw [hl] at h1 h2
 have hlk := look_filter (fun y => y != id) asked hn t
 rw [h1, h2, hlk, a1, a2]
 cases hlo : look asked t with
 | none => simp
 | some y =>
  by_cases hy : y = id
  ·subst hy; simp [idV]
  ·have hb : (y == id) = false := by simpa using hy
   simp [hy, hb]
theorem gone_step {D0 D : DataW Value} {asked : List (Int × Option (Int × Int))} {id : Option (Int × Int)} {left : Lit → Bool} (h : GoneOk D0 D asked id left) {x : Int} (hx : I64 x) (hlx : left (tkey x) = true) (hg : (look asked x == some id) = false) : GoneOk D0 D asked id (fun z => left z && !z.sameKey (tkey x)) := fun t ht => by
 obtain ⟨h1, h2⟩ := h t ht
 by_cases htx : t = x
 ·subst htx
  rw [h1, h2, hg]
  simp
 ·have : (tkey t).sameKey (tkey x) = false := by
   cases hs : (tkey t).sameKey (tkey x) with
   | false => rfl
   | true => exact absurd (tkey_inj (WideAt.sameKey_eq hs)) htx
  dsimp only
  rw [this]
  simpa using ⟨h1, h2⟩
theorem gone_del {D0 D : DataW Value} {asked : List (Int × Option (Int × Int))} {id : Option (Int × Int)} {left : Lit → Bool} (h : GoneOk D0 D asked id left) {x : Int} (hx : I64 x) (hlx : left (tkey x) = true) (hg : (look asked x == some id) = true) : GoneOk D0 (D.del (tkey x)) asked id (fun z => left z && !z.sameKey (tkey x)) := fun t ht => by
 obtain ⟨h1, h2⟩ := h t ht
 by_cases htx : t = x
 ·subst htx
  have hself : (tkey t).sameKey (tkey t) = true := WideAt.sameKey_self (tkey_key ht)
  dsimp only
  rw [Maps.has_del_same, Maps.atKey_del_same, hself, hg]
  simp
 ·have : (tkey t).sameKey (tkey x) = false := by
   cases hs : (tkey t).sameKey (tkey x) with
   | false => rfl
   | true => exact absurd (tkey_inj (WideAt.sameKey_eq hs)) htx
  have hne : tkey t ≠ tkey x := fun e => htx (tkey_inj e)
  dsimp only
  rw [Maps.has_del_other hne, Maps.atKey_del_other hne, this]
  simpa using ⟨h1, h2⟩
section
variable {w w' : World} {M : List Nat} {tg : Nat → Nat} {a d : Nat} {A : AgD}
set_option maxRecDepth 100000 in
set_option maxHeartbeats 4000000 in
theorem agdone_any (h : AgAt w M tg a d A) (hM : ∀ g ∈ M, g < w.heap.size) (k : Nat) (hk : k < 4) (q : Int) (hq : 1 ≤ q ∧ q ≤ 9223372036854775807) :
    Calls Tryz.prog 69 #[.pointer (some ⟨a, 0, none⟩), .agg #[.int .i64 A.node, .int .i64 k, .int .i64 q]] w fun e w' => AaPost M tg a d (agDone A k q) (.tuple #[]) w e w' := by
  obtain ⟨qn, hqn⟩ : ∃ qn : Nat, q = qn := ⟨q.toNat, by omega⟩
  have hqt : q.toNat = qn := by omega
  have hok := agDone_ok h.1 k q
  have HD : Hid (agDone A k q = { agLog A (recD k qn) with bk := { A.bk with q := setQ A.bk.q k (quDone (A.bk.q k) q) }, tries := setTr A.tries k q none, asked := A.asked.filter fun p => p.2 != some ((k : Int), q) }) := by show _ = _; unfold agDone; rw [hqt]
  have hq64 : I64 q := ⟨by omega, by omega⟩
  have hk64 : I64 (k : Int) := ⟨by omega, by omega⟩
  have hnode : I64 A.node := ⟨by have := h.1.1.1; omega, by have := h.1.1.2; omega⟩
  obtain ⟨w0, hw0⟩ : ∃ w0, w0 = w.alloc (.cells #[.int .i64 A.node, .int .i64 k, .int .i64 q] 30) := ⟨_, rfl⟩
  have hk0 : Keeps [] w w0 := by rw [hw0]; exact (Keeps.refl _ _).alloc _
  have hB0 : Blk w0 w.heap.size 30 #[.int .i64 A.node, .int .i64 k, .int .i64 q] := by rw [hw0]; exact Blk.new w _ _
  have HM := Lib.hid hM; have Hok := Lib.hid hok
  obtain ⟨ho, C, hCd, hv⟩ := h
  have Hv0 := Lib.hid (hv.keep0 hM hk0)
  have HM0 : Hid (∀ g ∈ M, g < w0.heap.size) := fun g hg => Nat.lt_of_lt_of_le (hM g hg) hk0.size
  have Hk00 := Lib.hid hk0; have HB0 := Lib.hid hB0; have Ho := Lib.hid ho; have HC := Lib.hid hCd
  have Hpb : Hid (w.heap.size ∉ C.p :: C.Y) := fun hm => by have := hM _ (hv.inP _ hm); omega
  have hS : Hid (∀ W, Keeps (C.p :: C.Y) w0 W → W.cell? ⟨a, 2, none⟩ = some (.pointer (some ⟨C.p, 0, none⟩)) ∧ W.cell? ⟨w.heap.size, 1, none⟩ = some (.int .i64 k) ∧ W.cell? ⟨w.heap.size, 2, none⟩ = some (.int .i64 q)) := fun W hk' => by
    have h1 := hk'.blk HB0.out Hpb.out
    have h2 := hk'.blk Hv0.out.blk Hv0.out.apart
    exact ⟨h2.cell 2, h1.cell 1, h1.cell 2⟩
  have hrec : Hid (∀ W, Calls Tryz.prog 121 #[.int .i64 k, .int .i64 q] W fun e w' => ∃ Ar n, e = .returned (.slice Ar n n) ∧ Bs w' [] (.slice Ar n n) (recD k qn) ∧ Below W.heap.size W w') := fun W => by
    rw [hqn]
    exact (bkdone_any k qn W (by omega) (by omega)).mono fun e w' h => rec_post_val h
  have happ : Hid (∀ W v, Keeps [] w0 W → Bs W [] v (recD k qn) → Calls Tryz.prog 60 #[.pointer (some ⟨C.p, 0, none⟩), v] W fun e w' => WxPost C.p C.Y C.d A.b (recD k qn) A.k A.n false W e w') := fun W v hk' hb => wappendx_any C.p C.Y C.d A.k A.n A.b W (Hv0.out.keep0 HM0.out hk').lg v _ hb
  have Hk01 : Hid (Keeps [] w0 w0) := Keeps.refl _ _
  have Hval : Hid (∀ W e W', WxPost C.p C.Y C.d A.b (recD k qn) A.k A.n false W e W' → e = .returned (.int .i64 (waCode (recD k qn) A.b))) := fun W e W' h => h.1
  -- what the log leaves
  have Hlog : Hid (∀ W2 e W3, Keeps [] w0 W2 → WxPost C.p C.Y C.d A.b (recD k qn) A.k A.n false W2 e W3 → ∃ M3 tg3, ∃ C3, C3.d = d ∧ AgV W3 M3 tg3 a (agLog A (recD k qn)) C3 ∧ Ext w M tg W3 M3 tg3 ∧ Keeps (sel M tg (List.range 30)) w W3 ∧ w.heap.size ∉ M3) := fun W2 e W3 hk2 hpo => by
    have hv2 := Hv0.out.keep0 HM0.out hk2
    have hM2 : ∀ g ∈ M, g < W2.heap.size := fun g hg => Nat.lt_of_lt_of_le (HM0.out g hg) hk2.size
    have hkw2 : Keeps [] w W2 := Hk00.out.trans hk2 (by simp)
    rcases hpo.2 with ⟨h1, Y', hlg, hgr, hk3⟩ | ⟨h1, hk3⟩
    · obtain ⟨M3, tg3, hv3, hx3, hkp3⟩ := hv2.setLg hM2 hlg hgr hk3
      have he : agLog A (recD k qn) = { A with b := A.b ++ frameL (recD k qn), k := A.k, n := A.n + 1 } := by unfold agLog; rw [if_pos h1]
      rw [he]
      exact ⟨M3, tg3, _, by exact HC.out, hv3, (Ext.refl (w' := W2) HM.out hkw2.size).trans hx3 hkw2.size, (hkw2.to_sel (by simp)).trans (hkp3.sel_mono (T' := List.range 30) (by simp)) (fun g hg => .inl hg), fun hm => by
        rcases hx3.new _ hm with h | h
        · have := HM.out _ h; omega
        · have h2 := hk2.size; have h3 := HB0.out.lt; omega⟩
    · have he : agLog A (recD k qn) = A := by unfold agLog; rw [if_neg h1]
      rw [he]
      have hkw3 : Keeps [] w W3 := hkw2.trans hk3 (by simp)
      exact ⟨M, tg, C, HC.out, hv2.keep0 hM2 hk3, Ext.refl HM.out hkw3.size, hkw3.to_sel (by simp), fun hm => by have := HM.out _ hm; omega⟩
  have Hqn := Lib.hid hqn
  clear hok hk0 hB0 hv ho hCd hM hqt hqn
  go_enter Tryz.func69, Tryz.ntmps69
  go_upto_region 1 with (fail)
  rw [← hw0]
  clear hw0
  generalize waCode (recD k qn) A.b = cw at *
  go_region_held3 (fun W => W.cell? ⟨a, 2, none⟩ = some (.pointer (some ⟨C.p, 0, none⟩)) ∧ W.cell? ⟨w.heap.size, 1, none⟩ = some (.int .i64 k) ∧ W.cell? ⟨w.heap.size, 2, none⟩ = some (.int .i64 q))
    ((refine hS.out _ ?_; first | (with_reducible exact Hk3.out) | (with_reducible exact Hk2.out.mono (by simp)) | (with_reducible exact Hk01.out.drew.mono (by simp))))
    (first
      | (go_at_call 121
         with_reducible refine (hrec.out _).mono ?_
         rintro e w2 ⟨Ar, m, rfl, hb2, hk2⟩
         have Hk2 : Hid (Keeps [] w0 w2) := Keeps.trans ((Keeps.refl [] w0).drew) (Keeps.of_below (M := []) hk2) (by simp)
         have Hb2 := Lib.hid hb2
         clear hb2 hk2)
      | (go_at_call 60
         with_reducible refine (happ.out _ _ Hk2.out Hb2.out).mono ?_
         intro e w3 hpo
         have he := Hval.out _ _ _ hpo
         subst he
         have Hk3 : Hid (Keeps (C.p :: C.Y) w0 w3) := (Hk2.out.mono (by simp)).trans (wx_keep hpo) (fun g hg => .inl hg)
         have Hgd := Lib.hid hpo
         clear hpo))
  all_goals
    obtain ⟨M3, tg3, C3, hC3, hv3, hx3, hkp3, hn3⟩ := Hlog.out _ _ _ Hk2.out Hgd.out
    have hBw3 := Hk3.out.blk HB0.out Hpb.out
    clear Hk2 Hb2 Hgd Hk3 hS hrec happ Hval Hlog Hk01 Hv0 Hk00 HM0 Hpb HB0
    obtain ⟨g3, Hg3⟩ : ∃ g3, Hid (g3 = w.heap.size) := ⟨_, rfl⟩
    rw [← Hg3.out] at hBw3 hn3 ⊢
    obtain ⟨l1, l2, l3, l4, l5, l6, l7, l8, l9, l10⟩ := agLog_eq A (recD k qn)
    have hbk3 : BkAt w3 M3 tg3 C3.s A.bk := by have h9 := hv3.bk; rw [l6] at h9; exact h9
    obtain ⟨vs, vc, qb, hbv⟩ := hbk3.2
    have hg3lt := hBw3.lt
    have HS2 : Hid (∀ W, Keeps (sel M3 tg3 [10 + 2 * k, 10 + 2 * k + 1]) w3 W → W.cell? ⟨a, 3, none⟩ = some (.pointer (some ⟨C3.s, 0, none⟩)) ∧ W.cell? ⟨g3, 1, none⟩ = some (.int .i64 k) ∧ W.cell? ⟨g3, 2, none⟩ = some (.int .i64 q) ∧ W.cell? ⟨C3.s, 3 + k, none⟩ = some (.pointer (some ⟨qb k, 0, none⟩))) := fun W hk' => by
      have h1 := blk_other hk' hv3.blk (by rw [hv3.ta]; simp; omega)
      have h2 := hk'.blk hBw3 (fun hm => hn3 (mem_sel.1 hm).1)
      have h3 := blk_other hk' hbv.blk (by rw [hbv.ts]; simp; omega)
      refine ⟨h1.cell 3, h2.cell 1, h2.cell 2, ?_⟩
      have h4 := hbv.qCell hk
      rw [h3.cell]
      rw [hbv.blk.cell] at h4
      exact h4
    have hqd : Hid (∀ W, Keeps [] w3 W → Calls Tryz.prog 122 #[.pointer (some ⟨qb k, 0, none⟩), .int .i64 q] W fun e w' => QdPost M3 tg3 (10 + 2 * k) (qb k) (hasB q (A.bk.q k).l) (quDone (A.bk.q k) q) W e w') := fun W hk' => qdone_any ((hbv.q k hk).keep0 hx3.lt hk') (fun g hg => Nat.lt_of_lt_of_le (hx3.lt g hg) hk'.size) q
    have Hbk3 := Lib.hid hbk3; have Hbv3 := Lib.hid hbv; have Hv3 := Lib.hid hv3; have HX3 := Lib.hid hx3; have HK3 := Lib.hid hkp3; have HB3 := Lib.hid hBw3; have HN3 := Lib.hid hn3; have HC3 := Lib.hid hC3
    have hki : (k : Int) < 4 := by omega
    have hki0 : (0 : Int) ≤ (k : Int) := by omega
    have Hl := Lib.hid (And.intro l1 (And.intro l7 (And.intro l8 l9)))
    generalize hasB q (A.bk.q k).l = hb at *
    clear hbk3 hbv hv3 hx3 hkp3 hBw3 hn3 hC3 l1 l2 l3 l4 l5 l6 l7 l8 l9 l10
    go_upto_region 2 with (fail)
    go_region_held3 (fun W => W.cell? ⟨a, 3, none⟩ = some (.pointer (some ⟨C3.s, 0, none⟩)) ∧ W.cell? ⟨g3, 1, none⟩ = some (.int .i64 k) ∧ W.cell? ⟨g3, 2, none⟩ = some (.int .i64 q) ∧ W.cell? ⟨C3.s, 3 + k, none⟩ = some (.pointer (some ⟨qb k, 0, none⟩)))
      (first | exact HS2.out _ ((Keeps.refl _ _).drew) | exact HS2.out _ Hk4.out)
      (first
        | (go_at_call 122
           with_reducible refine (hqd.out _ ((Keeps.refl _ _).drew)).mono ?_
           rintro e w4 ⟨rfl, hqu, hk4⟩
           have Hk4 : Hid (Keeps (sel M3 tg3 [10 + 2 * k, 10 + 2 * k + 1]) w3 w4) := (Keeps.refl _ w3).drew.trans hk4 (fun g hg => .inl hg)
           have Hqu := Lib.hid hqu
           clear hqu hk4))
    obtain ⟨-, M4, tg4, hb4, hx4, hkp4⟩ := ba_done (w0 := w3) Hbk3.out HX3.out.lt (Keeps.refl [] w3) hk (n := q) Hbv3.out Hqu.out Hk4.out
    have hv4 := Hv3.out.rest hx4 hkp4 (by simp) hb4
    have hn4 : g3 ∉ M4 := fun hm => by
      rcases hx4.new _ hm with h | h
      · exact HN3.out h
      · omega
    have HB4 := Lib.hid (hkp4.blk HB3.out (fun hm => HN3.out (mem_sel.1 hm).1))
    have HX4 := Lib.hid (HX3.out.trans hx4 HK3.out.size)
    have HK4 : Hid (Keeps (sel M tg (List.range 30)) w w4) := Ext.keeps HX3.out HK3.out (hkp4.sel_mono (by simp; omega))
    clear HS2 hqd Hbk3 Hbv3 Hv3 HX3 HK3 HB3 HN3 Hqu Hk4 hb4 hx4 hkp4
    obtain ⟨w5, hrun, hm5, ht5⟩ := (show w4.drew.ownsMap Tryz.prog 30 heldElem C3.tb C3.Nt C3.Dt from hv4.tr).drop lawK uMT (ik_of hnode hk64 hq64) 0
    have hk5 : Keeps [C3.tb] w4 w5 := Keeps.trans ((Keeps.refl [C3.tb] w4).drew) (turned_keeps ht5) (by simp)
    have htD : TrOk C3.Dt A.node A.tries := by have h9 := hv4.trD; rw [← Hl.out.1, ← Hl.out.2.1]; exact h9
    have hcn : C3.Nt ≤ A.cn := by have h9 := hv4.nt; rw [← Hl.out.2.2.2]; exact h9
    obtain ⟨hv5, hx5, hkp5⟩ := hv4.setTr HX4.out.lt (tr' := setTr A.tries k q none) (cn' := (agLog A (recD k qn)).cn) (Nat.le_refl _) hm5 (by have h9 := trOk_del htD hnode hk64 hq64; show TrOk _ (agLog A (recD k qn)).node _; rw [Hl.out.1]; exact h9) hv4.nt hk5
    have hta : a ≠ C3.tb := fun h => by have h1 := hv4.ta; have h2 := hv4.ttb; rw [h] at h1; omega
    have htg : g3 ≠ C3.tb := fun h => hn4 (h ▸ hv4.tbM)
    have HS3 : Hid (∀ W, Keeps [C3.tb] w4 W → W.cell? ⟨a, 7, none⟩ = some (.map (some C3.tb)) ∧ W.cell? ⟨g3, 0, none⟩ = some (.int .i64 A.node) ∧ W.cell? ⟨g3, 1, none⟩ = some (.int .i64 k) ∧ W.cell? ⟨g3, 2, none⟩ = some (.int .i64 q)) := fun W hk' => by
      have h1 := hk'.blk hv4.blk (by simpa using hta)
      have h2 := hk'.blk HB4.out (by simpa using htg)
      exact ⟨h1.cell 7, h2.cell 0, h2.cell 1, h2.cell 2⟩
    have HB5 := Lib.hid (hk5.blk HB4.out (by simpa using htg))
    have HX5 := Lib.hid (HX4.out.trans hx5 HK4.out.size)
    have HK5 : Hid (Keeps (sel M tg (List.range 30)) w w5) := Ext.keeps HX4.out HK4.out (hkp5.sel_mono (by simp))
    have HS45 : Hid (w4.heap.size ≤ w5.heap.size) := hk5.size
    have Hv5 := Lib.hid hv5; have Hk5 := Lib.hid hk5; have HN4 := Lib.hid hn4
    clear hm5 ht5 hk5 hv5 hx5 hkp5 hv4 hn4 htD hcn
    go_upto_region 3 with (fail)
    refine wp_region_held_drew (S := (fun W => W.cell? ⟨a, 7, none⟩ = some (.map (some C3.tb)) ∧ W.cell? ⟨g3, 0, none⟩ = some (.int .i64 A.node) ∧ W.cell? ⟨g3, 1, none⟩ = some (.int .i64 k) ∧ W.cell? ⟨g3, 2, none⟩ = some (.int .i64 q))) (by kernel_rfl) (HS3.out _ (Keeps.refl _ _).drew) (fun hHeld => ?_)
    refine wpAnyH_take (i := 0) (oi := _) (v := ?v0u1) rfl (by kernel_rfl) (by kernel_rfl) (by kernel_rfl) (fun _ _ _ h => h) (Or.inl ⟨by rfl, ?y0u1⟩) (by assumption) ?r0u1
    case y0u1 => (intro w hSw; (obtain ⟨hS0, hS1, hS2, hS3⟩ := hSw); go_simp <;> with_reducible rfl)
    try simp only [List.getElem_toArray, List.getElem_cons_succ, List.getElem_cons_zero, Act.put, List.setIfInBounds_toArray, List.set_cons_zero, List.set_cons_succ]
    refine wpAnyH_take (i := 1) (oi := _) (v := ?v1u2) rfl (by kernel_rfl) (by kernel_rfl) (by kernel_rfl) (fun _ _ _ h => h) (Or.inl ⟨by rfl, ?y1u2⟩) (by assumption) ?r1u2
    case y1u2 => (intro w hSw; (obtain ⟨hS0, hS1, hS2, hS3⟩ := hSw); go_simp <;> with_reducible rfl)
    try simp only [List.getElem_toArray, List.getElem_cons_succ, List.getElem_cons_zero, Act.put, List.setIfInBounds_toArray, List.set_cons_zero, List.set_cons_succ]
    refine wpAnyH_take (i := 2) (oi := _) (v := ?v2u3) rfl (by kernel_rfl) (by kernel_rfl) (by kernel_rfl) (fun _ _ _ h => h) (Or.inl ⟨by rfl, ?y2u3⟩) (by assumption) ?r2u3
    case y2u3 => (intro w hSw; (obtain ⟨hS0, hS1, hS2, hS3⟩ := hSw); go_simp <;> with_reducible rfl)
    try simp only [List.getElem_toArray, List.getElem_cons_succ, List.getElem_cons_zero, Act.put, List.setIfInBounds_toArray, List.set_cons_zero, List.set_cons_succ]
    refine wpAnyH_take (i := 3) (oi := _) (v := ?v3u4) rfl (by kernel_rfl) (by kernel_rfl) (by kernel_rfl) (fun _ _ _ h => h) (Or.inl ⟨by rfl, ?y3u4⟩) (by assumption) ?r3u4
    case y3u4 => (intro w hSw; (obtain ⟨hS0, hS1, hS2, hS3⟩ := hSw); go_simp <;> with_reducible rfl)
    try simp only [List.getElem_toArray, List.getElem_cons_succ, List.getElem_cons_zero, Act.put, List.setIfInBounds_toArray, List.set_cons_zero, List.set_cons_succ]
    refine wpAnyH_take (i := 4) (oi := _) (v := ?v4u5) rfl (by kernel_rfl) (by kernel_rfl) (by kernel_rfl) (fun _ _ _ h => h) (Or.inl ⟨by rfl, ?y4u5⟩) (by assumption) ?r4u5
    case y4u5 => (intro w hSw; (obtain ⟨hS0, hS1, hS2, hS3⟩ := hSw); go_simp <;> with_reducible rfl)
    try simp only [List.getElem_toArray, List.getElem_cons_succ, List.getElem_cons_zero, Act.put, List.setIfInBounds_toArray, List.set_cons_zero, List.set_cons_succ]
    refine wpAnyH_ready (rs := [5]) (by kernel_rfl) (by simp) ?_
    refine AllReadyH.cons (o := _) rfl (fun K hK => ?_) AllReadyH.nil
    go_simp
    refine hK.out _ _ (HS3.out _ Hk5.out) (fun hHeld2 => ?_)
    clear hK K hHeld
    have hHeld := hHeld2
    clear hHeld2
    try simp only [List.getElem_toArray, List.getElem_cons_succ, List.getElem_cons_zero, Act.put, List.setIfInBounds_toArray, List.set_cons_zero, List.set_cons_succ]
    refine wpAnyH_done (by kernel_rfl) ?_ _
    clear hHeld
    clear hrun HS3 Hk5
    have c8 := (agcells Hv5.out).2.2.2.2.2.2.2.2.1
    have c8' : w5.cell? ⟨a, 8, none⟩ = some (.map (some C3.ab)) := c8
    clear c8
    go_wp2_with (at_range; refine wpList_range_own _ rfl _ 115 rfl 2 30 lawT uMA _ C3.ab C3.Na C3.Da rfl Hv5.out.as_ ?_; intro w6 hrg6 hg6 hs6)
    have Hrg6 := Lib.hid hrg6
    have Hk6 : Hid (Keeps [] w5 w6) := (Keeps.refl _ _).grown hg6 (fun j hj => by cases hj)
    have hs6' : w5.heap.size < w6.heap.size := by rw [hs6]; exact Nat.lt_succ_self _
    have Hs6 := Lib.hid hs6'
    clear hrg6 hg6 hs6 hs6' c8'
    obtain ⟨r, Hr⟩ : ∃ r, Hid (r = w5.heap.size) := ⟨_, rfl⟩
    rw [← Hr.out] at Hrg6 ⊢
    have Hab : Hid (C3.ab ∈ M4 ∧ C3.ab < w5.heap.size ∧ a ∈ M4 ∧ g3 < w5.heap.size ∧ a ≠ C3.ab ∧ g3 ≠ C3.ab) := ⟨Hv5.out.abM, HX5.out.lt _ Hv5.out.abM, Hv5.out.aM, HB5.out.lt, fun h => absurd (Hv5.out.ta.symm.trans ((congrArg tg4 h).trans Hv5.out.tab)) (by decide), fun h => HN4.out (h ▸ Hv5.out.abM)⟩
    have HasD : Hid (AsOk C3.Da A.node A.asked) := by have h9 := Hv5.out.asD; rw [show ({ agLog A (recD k qn) with bk := { A.bk with q := setQ A.bk.q k (quDone (A.bk.q k) q) }, tries := setTr A.tries k q none, cn := (agLog A (recD k qn)).cn } : AgD).node = A.node from Hl.out.1, show ({ agLog A (recD k qn) with bk := { A.bk with q := setQ A.bk.q k (quDone (A.bk.q k) q) }, tries := setTr A.tries k q none, cn := (agLog A (recD k qn)).cn } : AgD).asked = A.asked from Hl.out.2.2.1] at h9; exact h9
    -- behind the loop
    have HFin : Hid (∀ W Dx left, (∀ kl, left kl = false) → GoneOk C3.Da Dx A.asked (some ((k : Int), q)) left → W.ownsMap Tryz.prog 2 heldElem C3.ab C3.Na Dx → Keeps [C3.ab] w5 W → AaPost M tg a d (agDone A k q) (.tuple #[]) w (.returned (.tuple #[])) W) := fun W Dx left hl hG hown hkW => by
      have has := gone_end HasD.out hG hl Ho.out.2.2.2.2.2.2.2.2.2.2
      have hba := hkW.blk Hv5.out.blk (by simpa using Hab.out.2.2.2.2.1)
      have hdn : Hid (agDone A k q = _) := HD.out
      obtain ⟨r1, r2, r3⟩ := Hv5.out.setAs HX5.out.lt (B := agDone A k q) (w' := W) (Na' := C3.Na) (Da' := Dx) ⟨by rw [HD.out], by rw [HD.out], by rw [HD.out], by rw [HD.out], by rw [HD.out], by rw [HD.out]⟩ (by rw [HD.out]; exact Nat.le_refl _) (by rw [HD.out]; exact hba) hown (by rw [HD.out]; show AsOk Dx (agLog A (recD k qn)).node _; rw [Hl.out.1]; exact has) (by rw [HD.out]; exact Hv5.out.na) (hkW.mono (M' := [a, C3.ab]) (by simp))
      exact ⟨rfl, M4, tg4, ⟨Hok.out, _, by exact HC3.out, r1⟩, HX5.out.trans r2 HK5.out.size, Ext.keeps HX5.out HK5.out (r3.sel_mono (by simp))⟩
    have HBa5 := Lib.hid Hv5.out.blk
    have Hs45 : Hid (w4.heap.size ≤ w5.heap.size) := HS45.out
    clear Hv5 HX5 HK5 Hok
    try go_frame
    go_loopw [] (fun wr => ∃ (left : Lit → Bool) (cnt : Nat) (Dx : DataW Value), Hid (wr.ranges Tryz.prog 2 heldElem C3.ab r C3.Na Dx left cnt) ∧ Hid (GoneOk C3.Da Dx A.asked (some ((k : Int), q)) left) ∧ Hid (Keeps [C3.ab] w5 wr) ∧ Hid (r < wr.heap.size)) (fun wr => wr.rangeLeft C3.ab r)
    case atStart => exact ⟨_, _, _, Hrg6.out, gone_start HasD.out _, Hk6.out.mono (by simp), by show r < _; rw [Hr.out]; exact Hs6.out⟩
    case round =>
      obtain ⟨left, cnt, Dx, Hrg, HG, Hkr, Hrl⟩ := hrel
      go_wp2_with (at_next; refine wpList_next_ranges _ rfl _ rfl 2 lawT heldElem (Value.int .i64) (fun c : Value => c) (fun key kl h => by obtain ⟨x, e, _⟩ := Maps.keyOf_int_inv uI64 h; exact ⟨x, e⟩) (fun v y _ => ⟨v, rfl⟩) C3.ab r C3.Na Dx left cnt rfl Hrg.out ?_ ?_)
      · intro hc0 hl0
        have hP := Lib.hid (HFin.out wr Dx left hl0 HG.out Hrg.out.owns Hkr.out)
        clear hl0
        go_wp2
        go_end0
        exact hP.out
      · intro x c kl yd yp w7 cnt2 hkey hlk hv hat hrg2 hlt2 hg2 hs2 hen
        obtain ⟨x', ex, rfl, hwx⟩ := Maps.keyOf_int_inv uI64 hkey
        obtain rfl : x = x' := by injection ex
        have hx64 : I64 x := i64_of_wf hwx
        have hlk' : left (tkey x) = true := hlk
        obtain ⟨g1, g2⟩ := HG.out x hx64
        obtain ⟨a1, a2⟩ := HasD.out x hx64
        have hhas : Maps.has Dx (tkey x) = true := Maps.has_true_of_atKey hat
        obtain ⟨o, ho⟩ : ∃ o, look A.asked x = some o := by
          rw [g1, a1] at hhas
          simp at hhas
          exact Option.isSome_iff_exists.1 hhas.1
        have hc : c = idV A.node o := by
          have h1 : (DataW.held c : DataW Value) = .held (idV A.node o) := by
            have e1 := hat (.held zId)
            have e2 : (DataW.held c : DataW Value) = yd := by unfold heldElem at hv; injection hv with hv; injection hv
            rw [e2, ← e1]
            show Dx.atKey (tkey x) (.held zId) = _
            rw [g2, hlk', a2, ho]
            rfl
          injection h1
        have hm0 := Hrg.out.left_eq
        have hm1 := hrg2.left_eq
        have hk7 : Keeps [r] wr w7 := (Keeps.refl _ _).grown hg2 (fun j hj => .inl (by cases hj; simp))
        have Hk57 : Hid (Keeps [C3.ab] w5 w7) := Hkr.out.trans hk7 (fun g hg => by simp at hg; subst hg; right; show w5.heap.size ≤ _; rw [Hr.out]; exact Nat.le_refl _)
        have HB7 := Lib.hid (Hk57.out.blk HB5.out (by simpa using Hab.out.2.2.2.2.2))
        have Hrl7 : Hid (r < w7.heap.size) := by show _ < _; have := Hrl.out; rw [hs2]; exact this
        have Hrg7 := Lib.hid hrg2
        have Hb7 : Hid (a < w7.heap.size ∧ g3 < w7.heap.size) := ⟨Nat.lt_of_lt_of_le (Nat.lt_of_lt_of_le (HX4.out.lt _ Hab.out.2.2.1) Hs45.out) Hk57.out.size, HB7.out.lt⟩
        have HB57 := Lib.hid (Hk57.out.blk HBa5.out (by simpa using Hab.out.2.2.2.2.1))
        have HG7 := Lib.hid (gone_step (id := some ((k : Int), q)) HG.out hx64 hlk')
        have HGd := Lib.hid (gone_del (id := some ((k : Int), q)) HG.out hx64 hlk')
        have Hlo : Hid (look A.asked x = some o) := ho
        have Hlt := Lib.hid hlt2
        clear hkey hlk hv hat hlt2 hg2 hs2 hrg2 g1 g2 a1 a2 hhas ho hlk' Hkr Hrl Hrg HG hk7
        subst hc
        have d0 := HB7.out.cell 0; have d1 := HB7.out.cell 1; have d2 := HB7.out.cell 2
        simp only [List.getElem?_toArray, List.getElem?_cons_succ, List.getElem?_cons_zero] at d0 d1 d2
        have hg7 := Hb7.out.2
        rcases o with _ | ⟨s', q'⟩
        · unfold idV zId at hen ⊢
          have hne : (0 : Int) ≠ q := by omega
          have HG8 : Hid (GoneOk C3.Da Dx A.asked (some ((k : Int), q)) (fun z => left z && !z.sameKey (tkey x))) := HG7.out (by rw [Hlo.out]; simp)
          clear HG7 HGd
          go_wp2_with fail
          go_roundw
          case rel => exact ⟨_, cnt2, Dx, Hrg7.out.alloc _, HG8.out, Hk57.out.alloc _, Nat.lt_trans Hrl7.out (by simp)⟩
          case measure => rw [(Hrg7.out.alloc _).left_eq, hm0]; exact Hlt.out
        · unfold idV at hen ⊢
          by_cases heq : s' = k ∧ q' = q
          · obtain ⟨rfl, rfl⟩ := heq
            have HG8 : Hid (GoneOk C3.Da (Dx.del (tkey x)) A.asked (some ((k : Int), q')) (fun z => left z && !z.sameKey (tkey x))) := HGd.out (by rw [Hlo.out]; simp)
            have h8 : w7.cell? ⟨a, 8, none⟩ = some (.map (some C3.ab)) := HB57.out.cell 8
            have ha7 := Hb7.out.1
            clear HG7 HGd
            go_wp2_with (at_delete; refine wpList_delete_ranges _ rfl _ _ 115 2 rfl 30 lawT uMA heldElem C3.ab r C3.Na Dx _ cnt2 rfl (Hrg7.out.alloc _) _ (tkey x) rfl (tkey_of hx64) ?_; intro w8 cnt3 hrg3 hle3 htn3)
            have hrg8 : w8.ranges Tryz.prog 2 heldElem C3.ab r C3.Na (Dx.del (tkey x)) (fun z => left z && !z.sameKey (tkey x)) cnt3 := by
              rw [← Maps.strike_twice left (tkey x)]
              exact hrg3
            have Hrg8 := Lib.hid hrg8
            clear hrg8
            have Hk58 : Hid (Keeps [C3.ab] w5 w8) := (Hk57.out.alloc _).trans (turned_keeps htn3) (by simp)
            have Hrl8 : Hid (r < w8.heap.size) := Nat.lt_of_lt_of_le (Nat.lt_trans Hrl7.out (by simp)) (turned_keeps htn3).size
            have Hle : Hid (cnt3 < cnt) := Nat.lt_of_le_of_lt hle3 Hlt.out
            clear hrg3 hle3 htn3
            go_wp2_with fail
            go_roundw
            case rel => exact ⟨_, cnt3, _, Hrg8.out, HG8.out, Hk58.out, Hrl8.out⟩
            case measure => (rw [Hrg8.out.left_eq]; (try rw [hm0]); exact Hle.out)
          · have HG8 : Hid (GoneOk C3.Da Dx A.asked (some ((k : Int), q)) (fun z => left z && !z.sameKey (tkey x))) := HG7.out (by rw [Hlo.out]; simp; exact fun h1 h2 => heq ⟨h1, h2⟩)
            clear HG7 HGd
            go_wp2_with fail
            all_goals go_roundw
            all_goals first
              | exact ⟨_, cnt2, Dx, Hrg7.out.alloc _, HG8.out, Hk57.out.alloc _, Nat.lt_trans Hrl7.out (by simp)⟩
              | (rw [(Hrg7.out.alloc _).left_eq, hm0]; exact Hlt.out)
end
/-- What an agent's records come to, with an epoch more. -/
def newBk (b : List UInt8) : BkD := { takesB bk0 (scanS b).1 with ep := (takesB bk0 (scanS b).1).ep + 1 }
def badNew (node reps : Int) : Bool := decide (node < 0) || decide (8 ≤ node) || decide (reps < 1) || decide (8 < reps)
/-- A new agent on a disk with these bytes. -/
def agNew (node reps : Int) (b : List UInt8) : Option AgD :=
 if badNew node reps = true then none
 else if 1073741824 < (newBk b).ep then none
 else if waCode (recE (newBk b).ep.toNat) (b.take (scanS b).2) ≠ 0 then none
 else some ⟨node, reps, 0, (newBk b).ep * 4294967296, 0, newBk b, fun _ _ => none, [], b.take (scanS b).2 ++ frameL (recE (newBk b).ep.toNat), (b.take (scanS b).2).length + (frameL (recE (newBk b).ep.toNat)).length, (scanS b).1.length + 1, 0⟩
def NwPost (Y : List Nat) (d : Nat) (R : Option AgD) (w : World) (e : Ending) (w' : World) : Prop :=
 Keeps Y w w' ∧ match R with
 | none => e = .returned (.pointer none)
 | some A => ∃ a M' tg', e = .returned (.pointer (some ⟨a, 0, none⟩)) ∧ AgAt w' M' tg' a d A ∧ (∀ g ∈ M', g ∈ Y ∨ w.heap.size ≤ g) ∧ (∀ g ∈ M', g < w'.heap.size) ∧ (∀ g ∈ Y, g ∈ M' ∧ tg' g = 22)
def tgN (s : Nat) (qb : Nat → Nat) (a p tb ab x : Nat) : Nat := if x = s then 1 else if x = qb 0 then 10 else if x = qb 1 then 12 else if x = qb 2 then 14 else if x = qb 3 then 16 else if x = a then 20 else if x = p then 21 else if x = tb then 23 else if x = ab then 24 else 22
section
variable {w w' : World} {Y : List Nat} {d k : Nat} {b : List UInt8}
theorem newAg_ok {node reps : Int} (h : badNew node reps = false) (he : ¬ 1073741824 < (newBk b).ep) (h0 : 0 ≤ (takesB bk0 (scanS b).1).ep) {A : AgD} (hA : A = ⟨node, reps, 0, (newBk b).ep * 4294967296, 0, newBk b, fun _ _ => none, [], b.take (scanS b).2 ++ frameL (recE (newBk b).ep.toNat), (b.take (scanS b).2).length + (frameL (recE (newBk b).ep.toNat)).length, (scanS b).1.length + 1, 0⟩) : AgOk A := by
 subst hA
 simp only [badNew, Bool.or_eq_false_iff, decide_eq_false_iff_not] at h
 obtain ⟨⟨⟨h1, h2⟩, h3⟩, h4⟩ := h
 have h5 : (newBk b).ep = (takesB bk0 (scanS b).1).ep + 1 := rfl
 have hc := takesB_cuts (scanS b).1 bk0
 have hc0 : (newBk b).cuts.length ≤ (scanS b).1.length + 1 := by
  show (takesB bk0 (scanS b).1).cuts.length ≤ _
  have : bk0.cuts.length = 0 := rfl
  omega
 exact ⟨⟨by show 0 ≤ node; omega, by show node < 8; omega⟩, ⟨by show 1 ≤ reps; omega, by show reps ≤ 8; omega⟩, ⟨by show (0 : Int) ≤ 0; omega, by show (0 : Int) < reps; omega⟩, ⟨by show (0 : Int) ≤ 0; omega, by show (0 : Int) ≤ _; omega⟩, by show 1 ≤ (newBk b).ep; omega,
  ⟨Int.le_refl _, by show (newBk b).ep * 4294967296 ≤ (newBk b).ep * 4294967296 + ((0 : Nat) : Int); omega⟩, hc0, by show (0 : Nat) ≤ _; omega, fun s q x hx => (nomatch hx), fun p hp => (nomatch hp), List.nodup_nil⟩
set_option maxRecDepth 100000 in
set_option maxHeartbeats 4000000 in
theorem agnew_any (h : DkAt w Y d b k) (node reps m : Int) (h0 : 0 ∉ Y) (hm : w.cell? ⟨0, 0, none⟩ = some (.int .i64 m)) :
  Calls Tryz.prog 16 #[.int .i64 node, .int .i64 reps, .pointer (some ⟨d, 0, none⟩)] w fun e w' => NwPost Y d (agNew node reps b) w e w' := by
 have hw0 : 0 < w.heap.size := by
  have := World.block_lt_of_cell? w _ hm
  simpa using this
 have hYw := h.old
 have hsc := scanS_bd b
 have hbl : b.length ≤ 1048576 := h.le.2
 have hop := Lib.hid (wopen_any Y d k b w h)
 have HR : Hid (agNew node reps b = if badNew node reps = true then none
  else if 1073741824 < (newBk b).ep then none
  else if waCode (recE (newBk b).ep.toNat) (b.take (scanS b).2) ≠ 0 then none
  else some ⟨node, reps, 0, (newBk b).ep * 4294967296, 0, newBk b, fun _ _ => none, [], b.take (scanS b).2 ++ frameL (recE (newBk b).ep.toNat), (b.take (scanS b).2).length + (frameL (recE (newBk b).ep.toNat)).length, (scanS b).1.length + 1, 0⟩) := rfl
 have HOK := Lib.hid (fun hb he h0 => newAg_ok (b := b) (node := node) (reps := reps) hb he h0 rfl)
 have HE : Hid ((newBk b).ep = (takesB bk0 (scanS b).1).ep + 1 ∧ newBk b = { takesB bk0 (scanS b).1 with ep := (newBk b).ep }) := ⟨rfl, rfl⟩
 have hop2 : Hid (∀ e W, WoPost Y d b w e W → ∃ p v, e = .returned (.tuple #[.pointer (some ⟨p, 0, none⟩), v]) ∧ w.heap.size ≤ p ∧ LgAt W p Y d (b.take (scanS b).2) (scanS b).2 (scanS b).1.length ∧ (∀ M, (∀ g ∈ M, g < w.heap.size) → Bss W (p :: M) v (scanS b).1) ∧ Keeps Y w W) := fun _ _ h => h
 have HBd : Hid (badNew node reps = (decide (node < 0) || decide (8 ≤ node) || decide (reps < 1) || decide (8 < reps))) := rfl
 have Hm := Lib.hid hm; have HY := Lib.hid hYw; have H0 := Lib.hid h0; have Hrl := Lib.hid hsc.2.1
 have hrs : (scanS b).1.length ≤ 1048576 := by have := hsc.2.2; omega
 generalize scanS b = R at *
 generalize agNew node reps b = Z at *
 obtain ⟨rs, nn⟩ := R
 simp only [] at hop2 HR HOK HE Hrl hrs
 clear h hm hYw h0 hsc
 have hmm := @run_makeMap Tryz.prog
 go_enter Tryz.func16, Tryz.ntmps16
 go_upto_region 1 with (fail)
 go_cut [27] (fun c W => c = .bool (badNew node reps) ∧ w = W)
 case first =>
  by_cases h1 : node < 0
  ·have d1 : decide (node < 0) = true := decide_eq_true h1
   have hB : Hid (badNew node reps = true) := by show _ = _; rw [HBd.out, d1]; simp
   go_wp2_with fail
   go_meet
   exact ⟨by rw [hB.out], rfl⟩
  ·have d1 : decide (node < 0) = false := decide_eq_false h1
   by_cases h2 : 8 ≤ node
   ·have d2 : decide (8 ≤ node) = true := decide_eq_true h2
    have hB : Hid (badNew node reps = true) := by show _ = _; rw [HBd.out, d2]; simp
    go_wp2_with fail
    go_meet
    exact ⟨by rw [hB.out], rfl⟩
   ·have d2 : decide (8 ≤ node) = false := decide_eq_false h2
    by_cases h3 : reps < 1
    ·have d3 : decide (reps < 1) = true := decide_eq_true h3
     have hB : Hid (badNew node reps = true) := by show _ = _; rw [HBd.out, d3]; simp
     go_wp2_with fail
     go_meet
     exact ⟨by rw [hB.out], rfl⟩
    ·have d3 : decide (reps < 1) = false := decide_eq_false h3
     by_cases h4 : 8 < reps
     ·have d4 : decide (8 < reps) = true := decide_eq_true h4
      have hB : Hid (badNew node reps = true) := by show _ = _; rw [HBd.out, d4]; simp
      go_wp2_with fail
      go_meet
      exact ⟨by rw [hB.out], rfl⟩
     ·have d4 : decide (8 < reps) = false := decide_eq_false h4
      have hB : Hid (badNew node reps = false) := by show _ = _; rw [HBd.out, d1, d2, d3, d4]; rfl
      go_wp2_with fail
      go_meet
      exact ⟨by rw [hB.out], rfl⟩
 case rest =>
 obtain ⟨rfl, rfl⟩ := hcut
 cases hbd : badNew node reps with
 | true =>
  have hP : Hid (NwPost Y d Z w (.returned (.pointer none)) w) := by
   rw [HR.out, if_pos hbd]
   exact ⟨Keeps.refl _ _, rfl⟩
  clear hbd
  go_wp2
  go_ret
  exact hP.out
 | false =>
  rw [if_neg (by rw [hbd]; simp)] at HR
  have HOK2 := Lib.hid (HOK.out hbd)
  clear hbd HBd HOK
  go_wp2_with fail
  refine hop.out.mono ?_
  intro e w1 hwo
  obtain ⟨p, v, rfl, hp, hlg, hbs, hk1⟩ := hop2.out _ _ hwo
  clear hwo hop2
  have Hlg := Lib.hid hlg; have Hbs := Lib.hid hbs; have Hk1 := Lib.hid hk1
  have hpl : p < w1.heap.size := hlg.1.lt
  clear hlg hbs hk1 hop
  go_wp2_with fail
  refine (bknew_any w1).mono ?_
  rintro e w2 ⟨s, qb, rfl, hBs, hQ, hI, hs, hb2⟩
  have HBs := Lib.hid hBs; have HQ := Lib.hid hQ; have HI := Lib.hid hI; have Hb2 := Lib.hid hb2
  have hslt : s < w2.heap.size := hBs.lt
  clear hBs hQ hI hb2
  go_upto_region 5 with (fail)
  -- the new agent
  obtain ⟨w3, hw3⟩ : ∃ w3, w3 = ((w2.alloc (.map #[] 0)).alloc (.map #[] 0)).alloc (.cells #[.int .i64 node, .int .i64 reps, .pointer (some ⟨p, 0, none⟩), .pointer (some ⟨s, 0, none⟩), .int .i64 0, .int .i64 0, .int .i64 0, .map (some w2.heap.size), .map (some (w2.heap.size + 1))] 117) := ⟨_, rfl⟩
  have hb3 : Below w2.heap.size w2 w3 := by rw [hw3]; exact (((Below.refl _ _).alloc (Nat.le_refl _) _).alloc (by simp) _).alloc (by simp; omega) _
  have hT : w3.ownsMap Tryz.prog 30 heldElem w2.heap.size 0 (.map [] : DataW Value) := by
   rw [hw3]; exact ((World.ownsMap_made w2 _ _ _).alloc _).alloc _
  have hA : w3.ownsMap Tryz.prog 2 heldElem (w2.heap.size + 1) 0 (.map [] : DataW Value) := by
   have h9 := World.ownsMap_made (H := Value) (w2.alloc (.map #[] 0)) Tryz.prog 2 heldElem
   rw [World.size_alloc] at h9
   rw [hw3]; exact h9.alloc _
  have hBa : Blk w3 (w2.heap.size + 1 + 1) 117 #[.int .i64 node, .int .i64 reps, .pointer (some ⟨p, 0, none⟩), .pointer (some ⟨s, 0, none⟩), .int .i64 0, .int .i64 0, .int .i64 0, .map (some w2.heap.size), .map (some (w2.heap.size + 1))] := by
   have h9 := Blk.new ((w2.alloc (.map #[] 0)).alloc (.map #[] 0)) 117 #[.int .i64 node, .int .i64 reps, .pointer (some ⟨p, 0, none⟩), .pointer (some ⟨s, 0, none⟩), .int .i64 0, .int .i64 0, .int .i64 0, .map (some w2.heap.size), .map (some (w2.heap.size + 1))]
   rw [World.size_alloc, World.size_alloc] at h9
   rw [hw3]; exact h9
  have hks3 : Keeps [] w1 w3 := (Keeps.of_below (M := []) Hb2.out).trans (Keeps.of_below (M := []) hb3) (by simp)
  have i01 := HI.out 0 1 (by omega) (by omega); have i12 := HI.out 1 2 (by omega) (by omega); have i23 := HI.out 2 3 (by omega) (by omega); have is0 := (HQ.out 0 (by omega)).2
  have iq3 := (HQ.out 3 (by omega)).1.lt
  have hw1s := Hk1.out.size
  have hw3s := hb3.size
  have hYs : ∀ g ∈ Y, g < w.heap.size := HY.out
  have hal := hBa.lt
  obtain ⟨tb, htb⟩ : ∃ tb, tb = w2.heap.size := ⟨_, rfl⟩
  obtain ⟨ab, hab⟩ : ∃ ab, ab = w2.heap.size + 1 := ⟨_, rfl⟩
  obtain ⟨a, ha⟩ : ∃ a, a = w2.heap.size + 1 + 1 := ⟨_, rfl⟩
  rw [← htb] at hT
  rw [← hab] at hA
  rw [← ha] at hBa hal
  rw [← hab, ← htb] at hBa
  have t1 : tgN s qb a p tb ab s = 1 := by unfold tgN; rw [if_pos rfl]
  have t10 : tgN s qb a p tb ab (qb 0) = 10 := by unfold tgN; rw [if_neg (by omega), if_pos rfl]
  have t12 : tgN s qb a p tb ab (qb 1) = 12 := by unfold tgN; rw [if_neg (by omega), if_neg (by omega), if_pos rfl]
  have t14 : tgN s qb a p tb ab (qb 2) = 14 := by unfold tgN; rw [if_neg (by omega), if_neg (by omega), if_neg (by omega), if_pos rfl]
  have t16 : tgN s qb a p tb ab (qb 3) = 16 := by unfold tgN; rw [if_neg (by omega), if_neg (by omega), if_neg (by omega), if_neg (by omega), if_pos rfl]
  have t20 : tgN s qb a p tb ab a = 20 := by unfold tgN; rw [if_neg (by omega), if_neg (by omega), if_neg (by omega), if_neg (by omega), if_neg (by omega), if_pos rfl]
  have t21 : tgN s qb a p tb ab p = 21 := by unfold tgN; rw [if_neg (by omega), if_neg (by omega), if_neg (by omega), if_neg (by omega), if_neg (by omega), if_neg (by omega), if_pos rfl]
  have t23 : tgN s qb a p tb ab tb = 23 := by unfold tgN; rw [if_neg (by omega), if_neg (by omega), if_neg (by omega), if_neg (by omega), if_neg (by omega), if_neg (by omega), if_neg (by omega), if_pos rfl]
  have t24 : tgN s qb a p tb ab ab = 24 := by unfold tgN; rw [if_neg (by omega), if_neg (by omega), if_neg (by omega), if_neg (by omega), if_neg (by omega), if_neg (by omega), if_neg (by omega), if_neg (by omega), if_pos rfl]
  have t22 : ∀ g ∈ Y, tgN s qb a p tb ab g = 22 := fun g hg => by
   have := hYs g hg
   unfold tgN; rw [if_neg (by omega), if_neg (by omega), if_neg (by omega), if_neg (by omega), if_neg (by omega), if_neg (by omega), if_neg (by omega), if_neg (by omega), if_neg (by omega)]
  have hM : ∀ g ∈ [s, qb 0, qb 1, qb 2, qb 3, a, p, tb, ab] ++ Y, g < w3.heap.size := fun g hg => by
   rcases List.mem_append.1 hg with h | h
   ·simp at h; omega
   ·have := hYs g h; omega
  have hnew : ∀ g ∈ [s, qb 0, qb 1, qb 2, qb 3, a, p, tb, ab] ++ Y, g ∈ p :: Y ∨ w1.heap.size ≤ g := fun g hg => by
   rcases List.mem_append.1 hg with h | h
   ·simp at h
    rcases h with h | h | h | h | h | h | h | h | h
    ·right; omega
    ·right; omega
    ·right; omega
    ·right; omega
    ·right; omega
    ·right; omega
    ·left; simp [h]
    ·right; omega
    ·right; omega
   ·left; simp [h]
  have hnew0 : ∀ g ∈ [s, qb 0, qb 1, qb 2, qb 3, a, p, tb, ab] ++ Y, g ∈ Y ∨ w.heap.size ≤ g := fun g hg => by
   rcases hnew g hg with h | h
   ·rcases List.mem_cons.1 h with h | h
    ·subst h; exact .inr hp
    ·exact .inl h
   ·right; omega
  have h0M : 0 ∉ [s, qb 0, qb 1, qb 2, qb 3, a, p, tb, ab] ++ Y := fun hm => by
   rcases hnew0 0 hm with h | h
   ·exact H0.out h
   ·omega
  have hin : s ∈ [s, qb 0, qb 1, qb 2, qb 3, a, p, tb, ab] ++ Y ∧ a ∈ [s, qb 0, qb 1, qb 2, qb 3, a, p, tb, ab] ++ Y ∧ p ∈ [s, qb 0, qb 1, qb 2, qb 3, a, p, tb, ab] ++ Y ∧ tb ∈ [s, qb 0, qb 1, qb 2, qb 3, a, p, tb, ab] ++ Y ∧ ab ∈ [s, qb 0, qb 1, qb 2, qb 3, a, p, tb, ab] ++ Y ∧ (∀ j, j < 4 → qb j ∈ [s, qb 0, qb 1, qb 2, qb 3, a, p, tb, ab] ++ Y) ∧ ∀ g ∈ Y, g ∈ [s, qb 0, qb 1, qb 2, qb 3, a, p, tb, ab] ++ Y := by
   refine ⟨by simp, by simp, by simp, by simp, by simp, fun j hj => ?_, fun g hg => List.mem_append_right _ hg⟩
   rcases (show j = 0 ∨ j = 1 ∨ j = 2 ∨ j = 3 by omega) with rfl | rfl | rfl | rfl <;> simp
  obtain ⟨in1, in2, in3, in4, in5, in6, in7⟩ := hin
  have hqt : ∀ j, j < 4 → tgN s qb a p tb ab (qb j) = 10 + 2 * j := fun j hj => by
   rcases (show j = 0 ∨ j = 1 ∨ j = 2 ∨ j = 3 by omega) with rfl | rfl | rfl | rfl <;> assumption
  generalize [s, qb 0, qb 1, qb 2, qb 3, a, p, tb, ab] ++ Y = M0 at *
  generalize tgN s qb a p tb ab = tg0 at *
  have hbk3 : BkAt w3 M0 tg0 s bk0 := bk_new_at (HBs.out.below hb3 hslt) (fun j hj => ⟨(HQ.out j hj).1.below hb3 (HQ.out j hj).1.lt, (HQ.out j hj).2⟩) in1 t1 (fun j hj => ⟨in6 j hj, hqt j hj⟩)
  have Hv3 : Hid (AgV w3 M0 tg0 a ⟨node, reps, 0, 0, 0, bk0, fun _ _ => none, [], b.take nn, nn, rs.length, 0⟩ ⟨s, p, tb, ab, d, Y, 0, 0, .map [], .map []⟩) :=
   ⟨hBa, in2, t20, hbk3, Hlg.out.keep0 hks3, in3, t21, fun g hg => ⟨in7 g hg, t22 g hg⟩, hT, in4, t23, hA, in5, t24, fun _ _ _ _ => rfl, fun _ _ => ⟨rfl, rfl⟩, Nat.le_refl _, Nat.le_refl _⟩
  have Hbss : Hid (Bss w3 M0 v rs) := ((Hbs.out Y HY.out).avoid hnew).keep hks3 (by simp)
  have hkY : Keeps Y w w3 := Hk1.out.trans hks3 (by simp)
  have hm3 : w3.cell? ⟨0, 0, none⟩ = some (.int .i64 m) := (hkY.cell (p := ⟨0, 0, none⟩) hw0 H0.out).trans Hm.out
  have htk := Lib.hid (btakes_any v rs m Hbss.out hbk3 hM h0M Hrl.out hm3 (by show 0 + rs.length ≤ _; omega))
  have HM0 := Lib.hid hM; have HN0 := Lib.hid hnew0; have HKY := Lib.hid hkY
  have HY0 : Hid (∀ g ∈ Y, g ∈ M0 ∧ tg0 g = 22) := fun g hg => ⟨in7 g hg, t22 g hg⟩
  have hc3 : w3.cell? ⟨a, 3, none⟩ = some (.pointer (some ⟨s, 0, none⟩)) := hBa.cell 3
  have hw3' : ((w2.alloc (.map #[] 0)).alloc (.map #[] 0)).alloc (.cells #[.int .i64 node, .int .i64 reps, .pointer (some ⟨p, 0, none⟩), .pointer (some ⟨s, 0, none⟩), .int .i64 0, .int .i64 0, .int .i64 0, .map (some w2.heap.size), .map (some (w2.heap.size + 1))] 117) = w3 := hw3.symm
  rw [hw3', ← ha]
  clear hw3 hw3' hb3 hT hA hBa i01 i12 i23 is0 iq3 t1 t10 t12 t14 t16 t20 t21 t22 t23 t24 hM hnew hnew0 h0M in1 in2 in3 in4 in5 in6 in7 hqt hbk3 hks3 HBs HQ HI Hb2 Hbs Hbss hkY hm3 htb hab ha Hlg hslt hw1s hw3s hYs hal hpl
  go_wp2_with fail
  refine htk.out.mono ?_
  rintro e w4 ⟨rfl, M4, tg4, hb4, hx4, hk4⟩
  have hv4 := Hv3.out.rest hx4 hk4 (by simp) hb4
  obtain ⟨hbo, vs, vc, qb4, hbv⟩ := hb4
  have hep : 0 ≤ (takesB bk0 rs).ep ∧ (takesB bk0 rs).ep ≤ 1073741824 := ⟨hbo.1, hbo.2.1⟩
  obtain ⟨en, hen⟩ : ∃ en : Nat, (newBk b).ep = en := ⟨(newBk b).ep.toNat, by have := HE.out.1; omega⟩
  have hwe : IntKind.i64.wrap ((takesB bk0 rs).ep + 1) = (en : Int) := by rw [IntKind.wrap_i64, ← hen, HE.out.1]; omega
  have hent : (newBk b).ep.toNat = en := by omega
  obtain ⟨w5, hw5⟩ : ∃ w5, w5 = w4.setCell ⟨s, 0, none⟩ (.int .i64 en) := ⟨_, rfl⟩
  obtain ⟨hv5b, hks5⟩ := hbv.setEp hx4.lt (en : Int)
  rw [← hw5] at hv5b hks5
  have c3 : w4.cell? ⟨a, 3, none⟩ = some (.pointer (some ⟨s, 0, none⟩)) := hv4.blk.cell 3
  have s0 : w4.cell? ⟨s, 0, none⟩ = some (.int .i64 (takesB bk0 rs).ep) := hbv.blk.cell 0
  have f0 := hbv.blk.frozen 0
  have hx5 : Ext w4 M4 tg4 w5 M4 tg4 := Ext.refl hx4.lt hks5.size
  have hba5 : Blk w5 a 117 _ := blk_other hks5 hv4.blk (by rw [hv4.ta]; simp)
  have c3' : w5.cell? ⟨a, 3, none⟩ = some (.pointer (some ⟨s, 0, none⟩)) := hba5.cell 3
  have s0' : w5.cell? ⟨s, 0, none⟩ = some (.int .i64 en) := hv5b.blk.cell 0
  have hk35 : Keeps (sel M0 tg0 (List.range 20)) w3 w5 := Ext.keeps hx4 hk4 (hks5.sel_mono (by simp))
  have hkw5 : Keeps Y w w5 := HKY.out.trans hk35 (fun g hg => HN0.out g (mem_sel.1 hg).1)
  have hn5 : ∀ g ∈ M4, g ∈ Y ∨ w.heap.size ≤ g := fun g hg => by
   rcases hx4.new g hg with h | h
   ·exact HN0.out g h
   ·right; have := HKY.out.size; omega
  have hY5 : ∀ g ∈ Y, g ∈ M4 ∧ tg4 g = 22 := fun g hg => ⟨hx4.sub g (HY0.out g hg).1, by rw [hx4.tag g (HM0.out g (HY0.out g hg).1)]; exact (HY0.out g hg).2⟩
  have HKW5 := Lib.hid hkw5; have HN5 := Lib.hid hn5; have HY5 := Lib.hid hY5; have HL5 := Lib.hid hx5.lt
  have hw5' : w4.setCell ⟨s, 0, none⟩ (.int .i64 (en : Int)) = w5 := hw5.symm
  have HV4 := Lib.hid hv4; have HBO := Lib.hid hbo; have HV5 := Lib.hid hv5b; have HX5 := Lib.hid hx5; have HKS5 := Lib.hid hks5
  have Hep := Lib.hid hep; have Hen := Lib.hid hen; have Hent := Lib.hid hent
  clear hw5 hx4 hk4 hv4 hbo hbv hv5b hks5 hx5 hba5 hk35 hkw5 hn5 hY5 Hv3 htk HN0 HM0 HKY HY0 hep hen hent
  rw [Hent.out, Hen.out] at HR HOK2
  by_cases hE : 1073741824 < (en : Int)
  ·have hP : Hid (NwPost Y d Z w (.returned (.pointer none)) w5) := by
    rw [HR.out, if_pos hE]
    exact ⟨HKW5.out, rfl⟩
   have d1 : decide (1073741824 < (en : Int)) = true := decide_eq_true hE
   clear hE HR
   go_wp2
   go_ret
   exact hP.out
  ·rw [if_neg hE] at HR
   have d1 : decide (1073741824 < (en : Int)) = false := decide_eq_false hE
   have hbk5 : BkAt w5 M4 tg4 s (newBk b) := by
    obtain ⟨o1, o2, o3⟩ := HBO.out
    have h9 := HE.out.2
    rw [h9, Hen.out]
    exact ⟨⟨by show 0 ≤ (en : Int); omega, by show (en : Int) ≤ _; omega, o3⟩, vs, vc, qb4, HV5.out⟩
   have Hv5 : Hid (AgV w5 M4 tg4 a ⟨node, reps, 0, 0, 0, newBk b, fun _ _ => none, [], b.take nn, nn, rs.length, 0⟩ ⟨s, p, tb, ab, d, Y, 0, 0, .map [], .map []⟩) := HV4.out.rest HX5.out HKS5.out (by simp) hbk5
   have hE2 := Lib.hid hE
   clear hE hbk5 HV4 HBO HV5 HX5 HKS5
   go_wp2_with fail
   refine ((bkepoch_any en _ (by have := hE2.out; omega)).mono fun e w' h => rec_post_val h).mono ?_
   rintro e w6 ⟨Ar, mm, rfl, hbs6, hb6⟩
   have Hk6 := Lib.hid (Keeps.of_below (M := []) hb6)
   have Hv6 := Lib.hid (Hv5.out.keep0 HL5.out Hk6.out)
   have HL6 : Hid (∀ g ∈ M4, g < w6.heap.size) := fun g hg => Nat.lt_of_lt_of_le (HL5.out g hg) Hk6.out.size
   have hww := Lib.hid (wwritex_any p Y d nn rs.length (b.take nn) w6 Hv6.out.lg _ _ hbs6)
   clear hbs6 hb6
   go_wp2_with fail
   refine hww.out.mono ?_
   intro e w7 hpo
   have he := hpo.1
   subst he
   have Hpo := Lib.hid hpo
   clear hpo hww
   by_cases hz : waCode (recE en) (b.take nn) = 0
   ·rw [if_neg (by rw [hz]; simp)] at HR
    have HG : Hid (∃ Y', LgAt w7 p Y' d (b.take nn ++ frameL (recE en)) ((b.take nn).length + (frameL (recE en)).length) (rs.length + 1) ∧ Grows Y w6 Y' ∧ Keeps (p :: Y) w6 w7) := by
     rcases Hpo.out.2 with ⟨_, h⟩ | ⟨h, _⟩
     ·exact h
     ·exact absurd hz h
    have hb : (waCode (recE en) (b.take nn) != 0) = false := by simp [hz]
    obtain ⟨Y', hlg, hgr, hk67⟩ := HG.out
    obtain ⟨M7, tg7, hv7, hx7, hk7⟩ := Hv6.out.setLg HL6.out (b' := b.take nn ++ frameL (recE en)) (k' := (b.take nn).length + (frameL (recE en)).length) (n' := rs.length + 1) hlg hgr hk67
    have a3 : w7.cell? ⟨a, 3, none⟩ = some (.pointer (some ⟨s, 0, none⟩)) := hv7.blk.cell 3
    have a5 : w7.cell? ⟨a, 5, none⟩ = some (.int .i64 0) := hv7.blk.cell 5
    have f5 := hv7.blk.frozen 5
    have e0 : w7.cell? ⟨s, 0, none⟩ = some (.int .i64 en) := by
     obtain ⟨_, v1, v2, q1, hq⟩ := hv7.bk
     have h9 := hq.blk.cell 0
     have h8 : w7.cell? ⟨s, 0, none⟩ = some (.int .i64 (newBk b).ep) := h9
     rw [Hen.out] at h8
     exact h8
    have hP : Hid (∀ W, W = w7.setCell ⟨a, 5, none⟩ (.int .i64 ((en : Int) * 4294967296)) → NwPost Y d Z w (.returned (.pointer (some ⟨a, 0, none⟩))) W) := fun W hW => by
     have hka : Keeps [a] w7 W := by rw [hW]; exact (Keeps.refl _ _).setCell (by simp) _
     have hB : Blk W a 117 #[.int .i64 node, .int .i64 reps, .pointer (some ⟨p, 0, none⟩), .pointer (some ⟨s, 0, none⟩), .int .i64 0, .int .i64 ((en : Int) * 4294967296), .int .i64 0, .map (some tb), .map (some ab)] := by
      have h9 := hv7.blk.set_ 5 (.int .i64 ((en : Int) * 4294967296))
      rw [hW]
      simpa [agCells] using h9
     have hab : ab ≠ a := fun h => absurd (hv7.tab.symm.trans ((congrArg tg7 h).trans hv7.ta)) (by decide)
     obtain ⟨r1, r2, r3⟩ := hv7.setAs hx7.lt (B := ⟨node, reps, 0, (en : Int) * 4294967296, 0, newBk b, fun _ _ => none, [], b.take nn ++ frameL (recE en), (b.take nn).length + (frameL (recE en)).length, rs.length + 1, 0⟩) ⟨rfl, rfl, rfl, rfl, rfl, rfl⟩ (Nat.le_refl _) hB (om_keep hv7.as_ hka (by simpa using hab)) hv7.asD hv7.na (hka.mono (M' := [a, ab]) (by simp))
     have hkw6 : Keeps Y w w6 := HKW5.out.trans Hk6.out (by simp)
     have hkY : Keeps Y w W := by
      refine (hkw6.trans hk7 (fun g hg => HN5.out g (mem_sel.1 hg).1)).trans r3 (fun g hg => ?_)
      rcases hx7.new g (mem_sel.1 hg).1 with h | h
      ·exact HN5.out g h
      ·right; have := hkw6.size; omega
     rw [HR.out]
     refine ⟨hkY, a, M7, tg7, rfl, ⟨HOK2.out hE2.out Hep.out.1, _, rfl, r1⟩, fun g hg => ?_, r2.lt, fun g hg => ⟨hx7.sub g (HY5.out g hg).1, by rw [hx7.tag g (HL6.out g (HY5.out g hg).1)]; exact (HY5.out g hg).2⟩⟩
     rcases hx7.new g hg with h | h
     ·exact HN5.out g h
     ·right; have := hkw6.size; omega
    have hsh : wrap64 ((en : Int) * 4294967296) = (en : Int) * 4294967296 := by
     have h9 := hE2.out
     unfold wrap64
     omega
    clear hlg hgr hk67 hv7 hx7 hk7 HG hz
    generalize waCode (recE en) (b.take nn) = cw at *
    go_upto_region 9 with (fail)
    go_wp2_with fail
    go_ret
    exact hP.out _ rfl
   ·have hP : Hid (NwPost Y d Z w (.returned (.pointer none)) w7) := by
     rw [HR.out, if_pos hz]
     refine ⟨?_, rfl⟩
     rcases Hpo.out.2 with ⟨h, _⟩ | ⟨_, h⟩
     ·exact absurd h hz
     ·exact (HKW5.out.trans Hk6.out (by simp)).trans h (by simp)
    have hb : (waCode (recE en) (b.take nn) != 0) = true := by simp [hz]
    clear hz HR Hpo
    generalize waCode (recE en) (b.take nn) = cw at *
    go_wp2
    go_ret
    exact hP.out
end
theorem agg3_inj {x y z x' y' z' : Int} (h : (Value.agg #[.int .i64 x, .int .i64 y, .int .i64 z]) = .agg #[.int .i64 x', .int .i64 y', .int .i64 z']) : x = x' ∧ y = y' ∧ z = z' := by
 simp at h
 exact h
/-- A tag that is asked no more; who answered. -/
def agAns (A : AgD) (fr : Int) (m : MsgD) : AgD := { A with asked := A.asked.filter (fun p => p.1 != m.tag), last := if m.code = 6 then A.last else fr }
def refuses (A : AgD) (fr : Int) (m : MsgD) : Bool := decide (m.kd ≠ 2) || decide (mrightS m ≠ 0) || decide (fr < 0) || decide (A.reps ≤ fr) || (look A.asked m.tag).isNone
/-- What an answer is of, its code, and what it leaves. -/
def agRecv (A : AgD) (fr : Int) (m : MsgD) : Option (Int × Int) × Int × AgD :=
 if refuses A fr m = true then (none, 0, A) else
 match (look A.asked m.tag).getD none with
 | none => (none, m.code, if m.code = 6 ∧ fr = A.last then { agAns A fr m with last := (A.last + 1).tmod A.reps } else agAns A fr m)
 | some (k, q) => (some (k, q), m.code,
   if m.code = 1 ∨ m.code = 2 ∨ m.code = 3 then agDone (agAns A fr m) k.toNat q
   else if m.code = 6 then { agAns A fr m with tries := setTr A.tries k q (some (((A.tries k q).getD (0, 0)).1, A.now)), cn := A.cn + 1 }
   else agAns A fr m)
theorem look_del : ∀ (l : List (Int × Option (Int × Int))) (t u : Int), look (l.filter fun p => p.1 != t) u = if u = t then none else look l u
 | [], t, u => by simp [look]
 | p :: l, t, u => by
  have ih := look_del l t u
  unfold look at ih ⊢
  rw [List.filter_cons]
  by_cases hp : p.1 = t
  ·have e1 : (p.1 != t) = false := by simp [hp]
   rw [e1, if_neg (by simp), ih]
   by_cases hu : u = t
   ·rw [if_pos hu, if_pos hu]
   ·rw [if_neg hu, if_neg hu, List.find?_cons]
    have : (p.1 == u) = false := by simp; omega
    rw [this]
  ·have e1 : (p.1 != t) = true := by simpa using hp
   rw [e1, if_pos rfl, List.find?_cons, List.find?_cons]
   by_cases hpu : p.1 = u
   ·have e2 : (p.1 == u) = true := by simpa using hpu
    rw [e2, if_neg (by omega)]
   ·have e2 : (p.1 == u) = false := by simpa using hpu
    rw [e2]
    exact ih
theorem asOk_del {D : DataW Value} {node : Int} {asked : List (Int × Option (Int × Int))} (h : AsOk D node asked) {t : Int} (ht : I64 t) : AsOk (D.del (tkey t)) node (asked.filter fun p => p.1 != t) := by
 intro u hu
 rw [look_del]
 by_cases hut : u = t
 ·subst hut
  rw [Maps.has_del_same, Maps.atKey_del_same, if_pos rfl]
  simp [idV]
 ·have hne : tkey u ≠ tkey t := fun e => hut (tkey_inj e)
  rw [Maps.has_del_other hne, Maps.atKey_del_other hne, if_neg hut]
  exact h u hu
theorem agAns_ok {A : AgD} (h : AgOk A) (fr : Int) (m : MsgD) (hf : 0 ≤ fr ∧ fr < A.reps) : AgOk (agAns A fr m) := by
 obtain ⟨p1, p2, p3, p4, p5, p6, p7, p8, p9, p10, p11⟩ := h
 refine ⟨p1, p2, ?_, p4, p5, p6, p7, p8, p9, fun p hp => p10 p (List.mem_filter.1 hp).1, p11.sublist (List.filter_sublist.map _)⟩
 show 0 ≤ (if m.code = 6 then A.last else fr) ∧ (if m.code = 6 then A.last else fr) < A.reps
 split
 ·exact p3
 ·exact hf
theorem look_mem {l : List (Int × Option (Int × Int))} {t : Int} {o : Option (Int × Int)} (h : look l t = some o) : (t, o) ∈ l := by
 unfold look at h
 obtain ⟨p, h1, h2⟩ := Option.map_eq_some_iff.1 h
 have h3 := List.find?_some h1
 have h4 := List.mem_of_find?_eq_some h1
 have h5 : p.1 = t := by simpa using h3
 rw [← h5, ← h2]
 exact h4
structure RcSt (w : World) (M : List Nat) (tg : Nat → Nat) (a d : Nat) (B : AgD) (g5 g6 g8 : Nat) (cm ci : Array Value) (W : World) (Mx : List Nat) (tgx : Nat → Nat) : Prop where
 ag : AgAt W Mx tgx a d B
 x : Ext w M tg W Mx tgx
 k : Keeps (sel M tg (List.range 30)) w W
 in6 : g6 ∈ Mx
 t6 : tgx g6 = 99
 old6 : w.heap.size ≤ g6
 b5 : Blk W g5 59 cm
 b6 : Blk W g6 30 #[.int .i64 0, .int .i64 0, .int .i64 0]
 b8 : Blk W g8 30 ci
 n5 : g5 ∉ Mx
 n8 : g8 ∉ Mx
section
variable {w w' W V : World} {M M' Mx My : List Nat} {tg tg' tgx tgy : Nat → Nat} {a d : Nat} {A B B' : AgD} {C : AgC} {g5 g6 g8 : Nat} {cm ci : Array Value} {T : List Nat}
theorem RcSt.step (h : RcSt w M tg a d B g5 g6 g8 cm ci W Mx tgx) (hx : Ext W Mx tgx V My tgy) (hk : Keeps (sel Mx tgx (List.range 30)) W V) (ha : AgAt V My tgy a d B') : RcSt w M tg a d B' g5 g6 g8 cm ci V My tgy := by
 refine ⟨ha, h.x.trans hx h.k.size, Ext.keeps h.x h.k hk, hx.sub _ h.in6, by rw [hx.tag _ (hx.old _ h.in6)]; exact h.t6, h.old6, hk.blk h.b5 (fun hm => h.n5 (mem_sel.1 hm).1), hk.blk h.b6 (fun hm => by have := (mem_sel.1 hm).2; rw [h.t6] at this; simp at this), hk.blk h.b8 (fun hm => h.n8 (mem_sel.1 hm).1), fun hm => ?_, fun hm => ?_⟩
 ·rcases hx.new _ hm with h1 | h1
  ·exact h.n5 h1
  ·have := h.b5.lt; omega
 ·rcases hx.new _ hm with h1 | h1
  ·exact h.n8 h1
  ·have := h.b8.lt; omega
theorem RcSt.keep0 (h : RcSt w M tg a d B g5 g6 g8 cm ci W Mx tgx) (hk : Keeps [] W V) : RcSt w M tg a d B g5 g6 g8 cm ci V Mx tgx :=
 h.step (Ext.refl h.x.lt hk.size) (hk.to_sel (by simp)) (h.ag.keep0 h.x.lt hk)
/-- What Receive leaves. -/
def RcPost (M : List Nat) (tg : Nat → Nat) (a d : Nat) (node : Int) (R : Option (Int × Int) × Int × AgD) (w : World) (e : Ending) (w' : World) : Prop :=
 e = .returned (.tuple #[idV node R.1, .int .i64 R.2.1]) ∧ ∃ M' tg', AgAt w' M' tg' a d R.2.2 ∧ Ext w M tg w' M' tg' ∧ Keeps (sel M tg (List.range 30)) w w'
theorem RcSt.fin (h : RcSt w M tg a d B g5 g6 g8 cm ci W Mx tgx) (hk : Keeps [g6] W V) : ∃ M' tg', AgAt V M' tg' a d B ∧ Ext w M tg V M' tg' ∧ Keeps (sel M tg (List.range 30)) w V :=
 ⟨Mx, tgx, h.ag.beside h.x.lt (fun g hg => by simp at hg; subst hg; exact ⟨h.in6, h.t6⟩) hk, h.x.later hk.size, h.k.trans hk (fun g hg => by simp at hg; subst hg; exact .inr h.old6)⟩
theorem AgAt.setLast (h : AgAt W M tg a d A) (hM : ∀ g ∈ M, g < W.heap.size) (t : Int) (ht : 0 ≤ t ∧ t < A.reps) (q : Nat) :
  AgAt ((W.drewN q).setCell ⟨a, 6, none⟩ (.int .i64 t)) M tg a d { A with last := t } ∧ Ext W M tg ((W.drewN q).setCell ⟨a, 6, none⟩ (.int .i64 t)) M tg ∧ Keeps (sel M tg [20, 24]) W ((W.drewN q).setCell ⟨a, 6, none⟩ (.int .i64 t)) := by
 obtain ⟨ho, C, hC, hv⟩ := h
 have hka : Keeps [a] W ((W.drewN q).setCell ⟨a, 6, none⟩ (.int .i64 t)) := ((Keeps.refl [a] W).drewN q).setCell (by simp) _
 have hB : Blk ((W.drewN q).setCell ⟨a, 6, none⟩ (.int .i64 t)) a 117 (agCells { A with last := t } C) := by
  have h9 := (show Blk (W.drewN q) a _ _ from hv.blk).set_ 6 (.int .i64 t)
  show Blk _ a _ #[.int .i64 A.node, .int .i64 A.reps, .pointer (some ⟨C.p, 0, none⟩), .pointer (some ⟨C.s, 0, none⟩), .int .i64 A.now, .int .i64 A.tag, .int .i64 t, .map (some C.tb), .map (some C.ab)]
  simpa [agCells] using h9
 have hab : C.ab ≠ a := fun h => by have h1 := hv.tab; have h2 := hv.ta; rw [h] at h1; omega
 obtain ⟨r1, r2, r3⟩ := hv.setAs hM (B := { A with last := t }) ⟨rfl, rfl, rfl, rfl, rfl, rfl⟩ (Nat.le_refl _) hB (om_keep hv.as_ hka (by simpa using hab)) hv.asD hv.na (hka.mono (M' := [a, C.ab]) (by simp))
 obtain ⟨p1, p2, p3, p4⟩ := ho
 exact ⟨⟨⟨p1, p2, ht, p4⟩, C, hC, r1⟩, r2, r3⟩
theorem RcSt.cells (h : RcSt w M tg a d B g5 g6 g8 cm ci W Mx tgx) : ∃ C, C.d = d ∧ AgV W Mx tgx a B C := by obtain ⟨_, C, h1, h2⟩ := h.ag; exact ⟨C, h1, h2⟩
end
end Go.Proofs.YtgdooockldgdlaaGreatDoor.Vi
end
