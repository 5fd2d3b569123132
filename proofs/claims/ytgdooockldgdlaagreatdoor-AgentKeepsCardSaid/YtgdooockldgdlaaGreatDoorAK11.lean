/- Texts put together: AgT. -/
import Derived.Deep.DeepCutAuto
import Derived.Test.YtgdooockldgdlaaGreatDoorAK10
set_option linter.unusedVariables false
set_option linter.unusedSimpArgs false
section
namespace Go.Proofs.YtgdooockldgdlaaGreatDoor.Vi
open Go.RowKit Base Mem Go.Shelf Tape
open Go.Maps (Keyed)
section
variable {w w' : World} {M : List Nat} {tg : Nat → Nat} {a d : Nat} {A : AgD}
set_option maxRecDepth 100000 in
set_option maxHeartbeats 8000000 in
theorem agrecv_any (h : AgAt w M tg a d A) (hM : ∀ g ∈ M, g < w.heap.size) (hc : A.cn + 1 ≤ 1099511627776) (fr : Int) (m : MsgD) (dv lv : Value) (mx : Int) (hma : MsgAt w [] m dv lv) (hms : MShort m) (htag : I64 m.tag) (hmx : w.cell? ⟨0, 0, none⟩ = some (.int .i64 mx)) :
  Calls Tryz.prog 24 #[.pointer (some ⟨a, 0, none⟩), .int .i64 fr, .agg (mCell m dv lv).toArray] w fun e w' => RcPost M tg a d A.node (agRecv A fr m) w e w' := by
 have hw0 : 0 < w.heap.size := by
  have := World.block_lt_of_cell? w _ hmx
  simpa using this
 obtain ⟨Aa, na, rfl, _⟩ := hma.1.len
 obtain ⟨Ba, ka, rfl, _⟩ := hma.2.len
 have hmr := Lib.hid (fun W (hk : Keeps [] w W) => mright_any m _ _ mx W (hma.keep hk (by simp)) hms ((hk.cell (p := ⟨0, 0, none⟩) hw0 (by simp)).trans hmx))
 have HRef : Hid (refuses A fr m = (decide (m.kd ≠ 2) || decide (mrightS m ≠ 0) || decide (fr < 0) || decide (A.reps ≤ fr) || (look A.asked m.tag).isNone)) := rfl
 have HRv : Hid (agRecv A fr m = if refuses A fr m = true then (none, 0, A) else
  match (look A.asked m.tag).getD none with
  | none => (none, m.code, if m.code = 6 ∧ fr = A.last then { agAns A fr m with last := (A.last + 1).tmod A.reps } else agAns A fr m)
  | some (k, q) => (some (k, q), m.code,
    if m.code = 1 ∨ m.code = 2 ∨ m.code = 3 then agDone (agAns A fr m) k.toNat q
    else if m.code = 6 then { agAns A fr m with tries := setTr A.tries k q (some (((A.tries k q).getD (0, 0)).1, A.now)), cn := A.cn + 1 }
    else agAns A fr m)) := rfl
 have hansok := Lib.hid (fun hf => agAns_ok h.1 fr m hf)
 have HAns : Hid (agAns A fr m = { A with asked := A.asked.filter (fun p => p.1 != m.tag), last := if m.code = 6 then A.last else fr }) := rfl
 obtain ⟨rr, Hrr⟩ : ∃ rr, Hid (rr = mrightS m) := ⟨_, rfl⟩
 rw [← Hrr.out] at hmr HRef
 obtain ⟨kd, ⟨kind, ag, sh, seq, ep, ds, ser, efr, etag⟩, tag, code, nn, term, had, log, commit, len⟩ := m
 simp only [mCell, eCell, List.cons_append, List.nil_append] at hmr
 simp only [] at HRef HRv hansok HAns htag
 simp only [mCell, eCell, List.cons_append, List.nil_append]
 -- what the map of tags says
 have ho := h.1
 obtain ⟨oo, Hoo⟩ : ∃ oo, Hid (oo = look A.asked tag) := ⟨_, rfl⟩
 rw [← Hoo.out] at HRef HRv
 have hidx : ∃ i1 i2 i3, idV A.node (oo.getD none) = .agg #[.int .i64 i1, .int .i64 i2, .int .i64 i3] := by
  rcases oo.getD none with _ | ⟨s, q⟩
  ·exact ⟨0, 0, 0, rfl⟩
  ·exact ⟨A.node, s, q, rfl⟩
 obtain ⟨i1, i2, i3, hid3⟩ := hidx
 obtain ⟨w0, hw0'⟩ : ∃ w0, w0 = (w.alloc (.cells #[.int .i64 kd, .int .i64 kind, .int .i64 ag, .int .i64 sh, .int .i64 seq, .int .i64 ep, .slice Aa ds.length na, .string ser, .int .i64 efr, .int .i64 etag, .int .i64 tag, .int .i64 code, .int .u64 nn, .int .i64 term, .int .i64 had, .slice Ba log.length ka, .int .i64 commit, .int .i64 len] 59)).alloc (.cells #[.int .i64 0, .int .i64 0, .int .i64 0] 30) := ⟨_, rfl⟩
 have hk0 : Keeps [] w w0 := by rw [hw0']; exact ((Keeps.refl _ _).alloc _).alloc _
 have hB5 : Blk w0 w.heap.size 59 #[.int .i64 kd, .int .i64 kind, .int .i64 ag, .int .i64 sh, .int .i64 seq, .int .i64 ep, .slice Aa ds.length na, .string ser, .int .i64 efr, .int .i64 etag, .int .i64 tag, .int .i64 code, .int .u64 nn, .int .i64 term, .int .i64 had, .slice Ba log.length ka, .int .i64 commit, .int .i64 len] := by rw [hw0']; exact (Blk.new w _ _).below (below_new' _ _) (by simp)
 have hB6 : Blk w0 (w.heap.size + 1) 30 #[.int .i64 0, .int .i64 0, .int .i64 0] := by
  have := Blk.new (w.alloc (.cells #[.int .i64 kd, .int .i64 kind, .int .i64 ag, .int .i64 sh, .int .i64 seq, .int .i64 ep, .slice Aa ds.length na, .string ser, .int .i64 efr, .int .i64 etag, .int .i64 tag, .int .i64 code, .int .u64 nn, .int .i64 term, .int .i64 had, .slice Ba log.length ka, .int .i64 commit, .int .i64 len] 59)) 30 #[.int .i64 0, .int .i64 0, .int .i64 0]
  rw [World.size_alloc] at this
  rw [hw0']; exact this
 obtain ⟨hag0, hx0⟩ := h.more hM hk0 [w.heap.size + 1] (fun g hg => by simp at hg; subst hg; exact ⟨by omega, hB6.lt⟩)
 have htg6 : (fun x => if x ∈ [w.heap.size + 1] then 99 else tg x) (w.heap.size + 1) = 99 := by simp
 have hin6 : w.heap.size + 1 ∈ [w.heap.size + 1] ++ M := by simp
 have hn5 : w.heap.size ∉ [w.heap.size + 1] ++ M := fun hm => by
  rcases List.mem_append.1 hm with h | h
  ·simp at h
  ·have := hM _ h; omega
 generalize [w.heap.size + 1] ++ M = M1 at *
 generalize (fun x => if x ∈ [w.heap.size + 1] then 99 else tg x) = tg1 at *
 have Hid3 := Lib.hid hid3
 have HX0 := Lib.hid hx0; have HK0 := Lib.hid hk0; have HB5 := Lib.hid hB5; have HB6 := Lib.hid hB6; have HA0 := Lib.hid hag0
 have Ht6 := Lib.hid htg6; have Hin6 := Lib.hid hin6; have HN5 := Lib.hid hn5; have Ho := Lib.hid ho
 obtain ⟨g5, Hg5⟩ : ∃ g5, Hid (g5 = w.heap.size) := ⟨_, rfl⟩
 obtain ⟨g6, Hg6⟩ : ∃ g6, Hid (g6 = w.heap.size + 1) := ⟨_, rfl⟩
 rw [← Hg6.out] at HB6 Ht6 Hin6
 rw [← Hg5.out] at HB5 HN5
 obtain ⟨C, HC, Hv0⟩ : ∃ C, Hid (C.d = d) ∧ Hid (AgV w0 M1 tg1 a A C) := by obtain ⟨_, C, hC, hv⟩ := HA0.out; exact ⟨C, hC, hv⟩
 obtain ⟨inn, hinn⟩ : ∃ inn, inn = oo.isSome := ⟨_, rfl⟩
 have HS1 : Hid (∀ W, Keeps [] w0 W → W.cell? ⟨a, 8, none⟩ = some (.map (some C.ab)) ∧ W.cell? ⟨g5, 10, none⟩ = some (.int .i64 tag) ∧ (Instr.lookup 115 (.map (some C.ab)) (.int .i64 tag) true).run Tryz.prog W = .ok (.tuple #[.agg #[.int .i64 i1, .int .i64 i2, .int .i64 i3], .bool inn]) W) := fun W hk => by
  have hv := Hv0.out.keep0 HX0.out.lt hk
  have h5 := hk.blk HB5.out (by simp)
  obtain ⟨e1, e2⟩ := hv.asD tag htag
  refine ⟨(agcells hv).2.2.2.2.2.2.2.2.1, h5.cell 10, ?_⟩
  have h9 := run_look_held_ok hv.as_ lawT uMA (zIdent W) (tkey_of htag) (show C.Da.atKey (tkey tag) (.held zId) = .held (.agg #[.int .i64 i1, .int .i64 i2, .int .i64 i3]) by rw [e2, ← Hoo.out, hid3])
  rw [e1, ← Hoo.out, ← hinn] at h9
  exact h9
 have Hinn := Lib.hid hinn
 have hr0 : 1 ≤ A.reps ∧ A.reps ≤ 8 := ho.2.1
 clear h hM hma hms hmx hag0 hx0 hk0 hB5 hB6 htg6 hin6 hn5 hid3 ho hinn
 show Calls Tryz.prog 24 #[.pointer (some ⟨a, 0, none⟩), .int .i64 fr, .agg #[.int .i64 kd, .int .i64 kind, .int .i64 ag, .int .i64 sh, .int .i64 seq, .int .i64 ep, .slice Aa ds.length na, .string ser, .int .i64 efr, .int .i64 etag, .int .i64 tag, .int .i64 code, .int .u64 nn, .int .i64 term, .int .i64 had, .slice Ba log.length ka, .int .i64 commit, .int .i64 len]] w _
 go_enter Tryz.func24, Tryz.ntmps24
 go_upto_region 1 with (fail)
 rw [← hw0', ← Hg6.out, ← Hg5.out]
 clear hw0'
 refine wp_region_held_drew (S := (fun W => W.cell? ⟨a, 8, none⟩ = some (.map (some C.ab)) ∧ W.cell? ⟨g5, 10, none⟩ = some (.int .i64 tag) ∧ (Instr.lookup 115 (.map (some C.ab)) (.int .i64 tag) true).run Tryz.prog W = .ok (.tuple #[.agg #[.int .i64 i1, .int .i64 i2, .int .i64 i3], .bool inn]) W)) (by kernel_rfl) (HS1.out _ (Keeps.refl _ _).drew) (fun hHeld => ?_)
 refine wpAnyH_take (i := 0) (oi := _) (v := ?v0u1) rfl (by kernel_rfl) (by kernel_rfl) (by kernel_rfl) (fun _ _ _ h => h) (Or.inl ⟨by rfl, ?y0u1⟩) (by assumption) ?r0u1
 case y0u1 => (intro w hSw; (obtain ⟨hS0, hS1, hS2⟩ := hSw); go_simp <;> with_reducible rfl)
 try simp only [List.getElem_toArray, List.getElem_cons_succ, List.getElem_cons_zero, Act.put, List.setIfInBounds_toArray, List.set_cons_zero, List.set_cons_succ]
 refine wpAnyH_take (i := 1) (oi := _) (v := ?v1u2) rfl (by kernel_rfl) (by kernel_rfl) (by kernel_rfl) (fun _ _ _ h => h) (Or.inl ⟨by rfl, ?y1u2⟩) (by assumption) ?r1u2
 case y1u2 => (intro w hSw; (obtain ⟨hS0, hS1, hS2⟩ := hSw); go_simp <;> with_reducible rfl)
 try simp only [List.getElem_toArray, List.getElem_cons_succ, List.getElem_cons_zero, Act.put, List.setIfInBounds_toArray, List.set_cons_zero, List.set_cons_succ]
 refine wpAnyH_take (i := 2) (oi := _) (v := ?v2u3) rfl (by kernel_rfl) (by kernel_rfl) (by kernel_rfl) (fun _ _ _ h => h) (Or.inl ⟨by rfl, ?y2u3⟩) (by assumption) ?r2u3
 case y2u3 => (intro w hSw; (obtain ⟨hS0, hS1, hS2⟩ := hSw); go_simp <;> with_reducible rfl)
 try simp only [List.getElem_toArray, List.getElem_cons_succ, List.getElem_cons_zero, Act.put, List.setIfInBounds_toArray, List.set_cons_zero, List.set_cons_succ]
 refine wpAnyH_take (i := 3) (oi := _) (v := ?v3u4) rfl (by kernel_rfl) (by kernel_rfl) (by kernel_rfl) (fun _ _ _ h => h) (Or.inl ⟨by rfl, ?y3u4⟩) (by assumption) ?r3u4
 case y3u4 => (intro w hSw; (obtain ⟨hS0, hS1, hS2⟩ := hSw); go_simp <;> with_reducible rfl)
 try simp only [List.getElem_toArray, List.getElem_cons_succ, List.getElem_cons_zero, Act.put, List.setIfInBounds_toArray, List.set_cons_zero, List.set_cons_succ]
 refine wpAnyH_take (i := 4) (oi := _) (v := ?v4u5) rfl (by kernel_rfl) (by kernel_rfl) (by kernel_rfl) (fun _ _ _ h => h) (Or.inl ⟨by rfl, ?y4u5⟩) (by assumption) ?r4u5
 case y4u5 => (intro w hSw; (obtain ⟨hS0, hS1, hS2⟩ := hSw); go_simp <;> with_reducible rfl)
 try simp only [List.getElem_toArray, List.getElem_cons_succ, List.getElem_cons_zero, Act.put, List.setIfInBounds_toArray, List.set_cons_zero, List.set_cons_succ]
 refine wpAnyH_take (i := 5) (oi := _) (v := ?v5u6) rfl (by kernel_rfl) (by kernel_rfl) (by kernel_rfl) (fun _ _ _ h => h) (Or.inl ⟨by rfl, ?y5u6⟩) (by assumption) ?r5u6
 case y5u6 => (intro w hSw; (obtain ⟨hS0, hS1, hS2⟩ := hSw); go_simp <;> with_reducible rfl)
 try simp only [List.getElem_toArray, List.getElem_cons_succ, List.getElem_cons_zero, Act.put, List.setIfInBounds_toArray, List.set_cons_zero, List.set_cons_succ]
 refine wpAnyH_take (i := 6) (oi := _) (v := ?v6u7) rfl (by kernel_rfl) (by kernel_rfl) (by kernel_rfl) (fun _ _ _ h => h) (Or.inl ⟨by rfl, ?y6u7⟩) (by assumption) ?r6u7
 case y6u7 => (intro w hSw; (obtain ⟨hS0, hS1, hS2⟩ := hSw); go_simp <;> with_reducible rfl)
 try simp only [List.getElem_toArray, List.getElem_cons_succ, List.getElem_cons_zero, Act.put, List.setIfInBounds_toArray, List.set_cons_zero, List.set_cons_succ]
 refine wpAnyH_take (i := 7) (oi := _) (v := ?v7u8) rfl (by kernel_rfl) (by kernel_rfl) (by kernel_rfl) (fun _ _ _ h => h) (Or.inl ⟨by rfl, ?y7u8⟩) (by assumption) ?r7u8
 case y7u8 => (intro w hSw; (obtain ⟨hS0, hS1, hS2⟩ := hSw); go_simp <;> with_reducible rfl)
 try simp only [List.getElem_toArray, List.getElem_cons_succ, List.getElem_cons_zero, Act.put, List.setIfInBounds_toArray, List.set_cons_zero, List.set_cons_succ]
 refine wpAnyH_take (i := 8) (oi := _) (v := ?v8u9) rfl (by kernel_rfl) (by kernel_rfl) (by kernel_rfl) (fun _ _ _ h => h) (Or.inl ⟨by rfl, ?y8u9⟩) (by assumption) ?r8u9
 case y8u9 => (intro w hSw; (obtain ⟨hS0, hS1, hS2⟩ := hSw); go_simp <;> with_reducible rfl)
 try simp only [List.getElem_toArray, List.getElem_cons_succ, List.getElem_cons_zero, Act.put, List.setIfInBounds_toArray, List.set_cons_zero, List.set_cons_succ]
 refine wpAnyH_take (i := 9) (oi := _) (v := ?v9u10) rfl (by kernel_rfl) (by kernel_rfl) (by kernel_rfl) (fun _ _ _ h => h) (Or.inl ⟨by rfl, ?y9u10⟩) (by assumption) ?r9u10
 case y9u10 => (intro w hSw; (obtain ⟨hS0, hS1, hS2⟩ := hSw); go_simp <;> with_reducible rfl)
 try simp only [List.getElem_toArray, List.getElem_cons_succ, List.getElem_cons_zero, Act.put, List.setIfInBounds_toArray, List.set_cons_zero, List.set_cons_succ]
 refine wpAnyH_ready (rs := [10]) (by kernel_rfl) (by simp) ?_
 refine AllReadyH.cons (o := _) rfl (fun K hK => ?_) AllReadyH.nil
 go_simp
 refine hK.out _ _ (HS1.out _ ((Keeps.refl [] w0).drew.alloc _)) (fun hHeld2 => ?_)
 clear hK K hHeld
 have hHeld := hHeld2
 clear hHeld2
 try simp only [List.getElem_toArray, List.getElem_cons_succ, List.getElem_cons_zero, Act.put, List.setIfInBounds_toArray, List.set_cons_zero, List.set_cons_succ]
 refine wpAnyH_ready (rs := [11]) (by kernel_rfl) (by simp) ?_
 refine AllReadyH.cons (o := _) rfl (fun K hK => ?_) AllReadyH.nil
 try simp only [List.getElem_toArray, List.getElem_cons_succ, List.getElem_cons_zero, Act.put, List.setIfInBounds_toArray, List.set_cons_zero, List.set_cons_succ]
 rw [if_pos (by rfl)]
 refine wp_store_blk 30 (.tmp 8) (.tmp 19) rfl w0.heap.size 0 30 _ #[.int .i64 i1, .int .i64 i2, .int .i64 i3] #[.int .i64 i1, .int .i64 i2, .int .i64 i3] rfl rfl (show Blk _ w0.drew.heap.size _ _ from Blk.new w0.drew _ _) (by show 0 + 3 ≤ 3; omega) rfl (by kernel_rfl) rfl ?_
 intro w1 hk1 hB8
 have hkc : Keeps [] w0 w1 := ((Keeps.refl [] w0).drew.alloc _).trans hk1 (by intro q hq; simp at hq; right; omega)
 have HK1 := Lib.hid hkc; have HB8 := Lib.hid hB8
 clear hk1 hB8 hkc
 refine hK.out _ _ (HS1.out _ HK1.out) (fun hHeld2 => ?_)
 clear hK K hHeld
 have hHeld := hHeld2
 clear hHeld2
 try simp only [List.getElem_toArray, List.getElem_cons_succ, List.getElem_cons_zero, Act.put, List.setIfInBounds_toArray, List.set_cons_zero, List.set_cons_succ]
 refine wpAnyH_take (i := 12) (oi := _) (v := ?v12u11) rfl (by kernel_rfl) (by kernel_rfl) (by kernel_rfl) (fun _ _ _ h => h) (Or.inl ⟨by rfl, ?y12u11⟩) (by assumption) ?r12u11
 case y12u11 => (intro w hSw; (obtain ⟨hS0, hS1, hS2⟩ := hSw); go_simp <;> with_reducible rfl)
 try simp only [List.getElem_toArray, List.getElem_cons_succ, List.getElem_cons_zero, Act.put, List.setIfInBounds_toArray, List.set_cons_zero, List.set_cons_succ]
 refine wpAnyH_done (by kernel_rfl) ?_ _
 clear hHeld
 obtain ⟨g8, Hg8⟩ : ∃ g8, Hid (g8 = w0.heap.size) := ⟨_, rfl⟩
 rw [← Hg8.out] at HB8
 have hlt5 := HB5.out.lt; have hlt6 := HB6.out.lt; have e5 := Hg5.out; have e6 := Hg6.out; have e8 := Hg8.out
 have H56 : Hid (g5 ≠ g6) := by show _ ≠ _; rw [e5, e6]; omega
 have H86 : Hid (g8 ≠ g6) := by show _ ≠ _; rw [e8]; omega
 have Hr1 : Hid (RcSt w M tg a d A g5 g6 g8 #[.int .i64 kd, .int .i64 kind, .int .i64 ag, .int .i64 sh, .int .i64 seq, .int .i64 ep, .slice Aa ds.length na, .string ser, .int .i64 efr, .int .i64 etag, .int .i64 tag, .int .i64 code, .int .u64 nn, .int .i64 term, .int .i64 had, .slice Ba log.length ka, .int .i64 commit, .int .i64 len] #[.int .i64 i1, .int .i64 i2, .int .i64 i3] w1 M1 tg1) := ⟨HA0.out.keep0 HX0.out.lt HK1.out, HX0.out.later HK1.out.size, (HK0.out.trans HK1.out (by simp)).to_sel (by simp), Hin6.out, Ht6.out, by rw [e6]; omega, HK1.out.blk HB5.out (by simp), HK1.out.blk HB6.out (by simp), HB8.out, HN5.out, fun hm => by have := HX0.out.lt _ hm; omega⟩
 have Hkw1 : Hid (Keeps [] w w1) := HK0.out.trans HK1.out (by simp)
 clear hlt5 hlt6 e5 e6 e8 HS1 HB5 HB6 HB8 HA0 HK0 HK1 Hv0
 have HAc : Hid (∀ W, Keeps [] w1 W → W.cell? ⟨a, 1, none⟩ = some (.int .i64 A.reps)) := fun W hk => by
  obtain ⟨C, _, hv⟩ := (Hr1.out.keep0 hk).cells
  exact (agcells hv).2.1
 have m0 := Hr1.out.b5.cell 0
 simp only [List.getElem?_toArray, List.getElem?_cons_zero] at m0
 go_upto_region 2 with (fail)
 rw [← Hg8.out]
 go_cut [44] (fun c W => c = .bool (refuses A fr ⟨kd, ⟨kind, ag, sh, seq, ep, ds, ser, efr, etag⟩, tag, code, nn, term, had, log, commit, len⟩) ∧ Hid (Keeps [] w1 W))
 case first =>
  by_cases hk2 : kd = 2
  ·have hb1 : (kd != 2) = false := by simp [hk2]
   have Hkd := Lib.hid hk2
   clear hk2
   have hmr1 := Lib.hid (hmr.out w1 Hkw1.out)
   go_wp2_with (refine wpList_load_g (by rfl) 59 (.tmp 5) rfl g5 0 rfl [.int .i64 kd, .int .i64 kind, .int .i64 ag, .int .i64 sh, .int .i64 seq, .int .i64 ep, .slice Aa ds.length na, .string ser, .int .i64 efr, .int .i64 etag, .int .i64 tag, .int .i64 code, .int .u64 nn, .int .i64 term, .int .i64 had, .slice Ba log.length ka, .int .i64 commit, .int .i64 len] _ (blk_range Hr1.out.b5) Tryz.underlying59 rfl (by kernel_rfl) ?_)
   refine hmr1.out.mono ?_
   rintro e w2 ⟨rfl, hb2⟩
   have Hk2 := Lib.hid (Keeps.of_below (M := []) hb2)
   have q1 := HAc.out w2 Hk2.out
   clear hb2 hmr1
   by_cases hrr : rr = 0
   ·have hb2 : ((rr : Int) != 0) = false := by simp [hrr]
    by_cases hf0 : fr < 0
    ·have hb3 : decide (fr < 0) = true := decide_eq_true hf0
     have hR : Hid (refuses A fr ⟨kd, ⟨kind, ag, sh, seq, ep, ds, ser, efr, etag⟩, tag, code, nn, term, had, log, commit, len⟩ = true) := by show _ = _; rw [HRef.out]; simp [hf0]
     go_wp2_with fail
     go_meet
     exact ⟨by rw [hR.out], Hk2.out⟩
    ·have hb3 : decide (fr < 0) = false := decide_eq_false hf0
     by_cases hfr : A.reps ≤ fr
     ·have hb4 : decide (A.reps ≤ fr) = true := decide_eq_true hfr
      have hR : Hid (refuses A fr ⟨kd, ⟨kind, ag, sh, seq, ep, ds, ser, efr, etag⟩, tag, code, nn, term, had, log, commit, len⟩ = true) := by show _ = _; rw [HRef.out]; simp [hfr]
      go_wp2_with fail
      go_meet
      exact ⟨by rw [hR.out], Hk2.out⟩
     ·have hb4 : decide (A.reps ≤ fr) = false := decide_eq_false hfr
      have hR : Hid (refuses A fr ⟨kd, ⟨kind, ag, sh, seq, ep, ds, ser, efr, etag⟩, tag, code, nn, term, had, log, commit, len⟩ = !inn) := by show _ = _; rw [HRef.out, Hinn.out]; have h1 := Hkd.out; simp [hf0, hfr, hrr, h1]
      go_wp2_with fail
      go_meet
      exact ⟨by rw [hR.out], Hk2.out⟩
   ·have hb2 : ((rr : Int) != 0) = true := by simp [hrr]
    have hR : Hid (refuses A fr ⟨kd, ⟨kind, ag, sh, seq, ep, ds, ser, efr, etag⟩, tag, code, nn, term, had, log, commit, len⟩ = true) := by show _ = _; rw [HRef.out]; simp [hrr]
    go_wp2_with fail
    go_meet
    exact ⟨by rw [hR.out], Hk2.out⟩
  ·have hb1 : (kd != 2) = true := by simp [hk2]
   have hR : Hid (refuses A fr ⟨kd, ⟨kind, ag, sh, seq, ep, ds, ser, efr, etag⟩, tag, code, nn, term, had, log, commit, len⟩ = true) := by show _ = _; rw [HRef.out]; simp [hk2]
   go_wp2_with fail
   go_meet
   exact ⟨by rw [hR.out], Keeps.refl _ _⟩
 case rest =>
 obtain ⟨rfl, Hkc⟩ := hcut
 have Hrc := Lib.hid (Hr1.out.keep0 Hkc.out)
 clear Hr1 Hkc HAc m0 hmr
 cases hrf : refuses A fr ⟨kd, ⟨kind, ag, sh, seq, ep, ds, ser, efr, etag⟩, tag, code, nn, term, had, log, commit, len⟩ with
 | true =>
  have hP : Hid (∀ V, Keeps [g6] wc V → RcPost M tg a d A.node (agRecv A fr ⟨kd, ⟨kind, ag, sh, seq, ep, ds, ser, efr, etag⟩, tag, code, nn, term, had, log, commit, len⟩) w (.returned (.tuple #[.agg #[.int .i64 0, .int .i64 0, .int .i64 0], .int .i64 0])) V) := fun V hk => by
   obtain ⟨M9, tg9, r1, r2, r3⟩ := Hrc.out.fin hk
   rw [HRv.out, if_pos hrf]
   exact ⟨rfl, M9, tg9, r1, r2, r3⟩
  clear hrf
  go_wp2_with (refine wpList_store_blk rfl 30 (.tmp 6) (.tmp 45) rfl g6 0 30 #[.int .i64 0, .int .i64 0, .int .i64 0] #[.int .i64 0, .int .i64 0, .int .i64 0] #[.int .i64 0, .int .i64 0, .int .i64 0] rfl rfl Hrc.out.b6 (by show 0 + 3 ≤ 3; omega) rfl (by kernel_rfl) rfl ?_; intro w9 hk9 hB9; have HK9 := Lib.hid hk9; have HB9 := Lib.hid hB9; clear hk9 hB9)
  refine bodyPost_ret (results_cell2 rfl _ _ g6 30 #[.int .i64 0, .int .i64 0, .int .i64 0] _ rfl HB9.out Tryz.underlying30 rfl (by kernel_rfl)) rfl ?_
  exact hP.out _ HK9.out
 | false =>
  have hrf2 := HRef.out
  rw [hrf] at hrf2
  have hrf3 : kd = 2 ∧ rr = 0 ∧ 0 ≤ fr ∧ fr < A.reps ∧ oo.isNone = false := by
   have h9 := hrf2.symm
   simp only [Bool.or_eq_false_iff, decide_eq_false_iff_not, ne_eq, Decidable.not_not] at h9
   obtain ⟨⟨⟨⟨h1, h2⟩, h3⟩, h4⟩, h5⟩ := h9
   exact ⟨h1, h2, by omega, by omega, h5⟩
  obtain ⟨-, -, hf0, hf1, hno⟩ := hrf3
  obtain ⟨o, ho⟩ : ∃ o, oo = some o := by
   cases oo with
   | none => simp at hno
   | some o => exact ⟨o, rfl⟩
  have Ho2 := Lib.hid ho
  rw [hrf, if_neg (by simp), ho] at HRv
  have Hok := Lib.hid (hansok.out ⟨hf0, hf1⟩)
  have HAsk : Hid (∀ x : Int × Int, o = some x → 0 ≤ x.1 ∧ x.1 < 4 ∧ 1 ≤ x.2 ∧ x.2 ≤ 9223372036854775807) := fun x hx => (Ho.out.2.2.2.2.2.2.2.2.2.1 (tag, o) (look_mem (by rw [← Hoo.out, ho]))).2.2 x hx
  have Hid3 : Hid (idV A.node o = .agg #[.int .i64 i1, .int .i64 i2, .int .i64 i3]) := by have h9 := Hid3.out; rw [ho] at h9; exact h9
  clear hrf hrf2 hno hansok HRef ho
  obtain ⟨C4, HC4, Hv4⟩ : ∃ C4, Hid (C4.d = d) ∧ Hid (AgV wc M1 tg1 a A C4) := by obtain ⟨C4, h1, h2⟩ := Hrc.out.cells; exact ⟨C4, h1, h2⟩
  obtain ⟨w4, hrun, hm4, ht4⟩ := (show wc.drew.ownsMap Tryz.prog 2 heldElem C4.ab C4.Na C4.Da from Hv4.out.as_).drop lawT uMA (tkey_of htag) 0
  have hk4 : Keeps [C4.ab] wc w4 := Keeps.trans ((Keeps.refl [C4.ab] wc).drew) (turned_keeps ht4) (by simp)
  have haa : a ≠ C4.ab := fun h => absurd (Hv4.out.ta.symm.trans ((congrArg tg1 h).trans Hv4.out.tab)) (by decide)
  have h5a : g5 ≠ C4.ab := fun h => Hrc.out.n5 (h ▸ Hv4.out.abM)
  obtain ⟨r1, r2, r3⟩ := Hv4.out.setAs Hrc.out.x.lt (B := { A with asked := A.asked.filter (fun p => p.1 != tag) }) ⟨rfl, rfl, rfl, rfl, rfl, rfl⟩ (Nat.le_refl _) (hk4.blk Hv4.out.blk (by simpa using haa)) hm4 (asOk_del Hv4.out.asD htag) Hv4.out.na (hk4.mono (M' := [a, C4.ab]) (by simp))
  have HS4 : Hid (∀ W, Keeps [C4.ab] wc W → W.cell? ⟨a, 8, none⟩ = some (.map (some C4.ab)) ∧ W.cell? ⟨g5, 10, none⟩ = some (.int .i64 tag)) := fun W hk => by
   have h1 := hk.blk Hv4.out.blk (by simpa using haa)
   have h2 := hk.blk Hrc.out.b5 (by simpa using h5a)
   exact ⟨h1.cell 8, h2.cell 10⟩
  have Hr4 : Hid (RcSt w M tg a d { A with asked := A.asked.filter (fun p => p.1 != tag) } g5 g6 g8 #[.int .i64 kd, .int .i64 kind, .int .i64 ag, .int .i64 sh, .int .i64 seq, .int .i64 ep, .slice Aa ds.length na, .string ser, .int .i64 efr, .int .i64 etag, .int .i64 tag, .int .i64 code, .int .u64 nn, .int .i64 term, .int .i64 had, .slice Ba log.length ka, .int .i64 commit, .int .i64 len] #[.int .i64 i1, .int .i64 i2, .int .i64 i3] w4 M1 tg1) := Hrc.out.step r2 (r3.sel_mono (by simp)) ⟨by
   obtain ⟨p1, p2, p3, p4, p5, p6, p7, p8, p9, p10, p11⟩ := Ho.out
   exact ⟨p1, p2, p3, p4, p5, p6, p7, p8, p9, fun p hp => p10 p (List.mem_filter.1 hp).1, p11.sublist (List.filter_sublist.map _)⟩, _, by exact HC4.out, r1⟩
  have HK4 := Lib.hid hk4
  clear hm4 ht4 hk4 r1 r2 r3 Hrc Hv4
  go_upto_region 4 with (fail)
  refine wp_region_held_drew (S := (fun W => W.cell? ⟨a, 8, none⟩ = some (.map (some C4.ab)) ∧ W.cell? ⟨g5, 10, none⟩ = some (.int .i64 tag))) (by kernel_rfl) (HS4.out _ (Keeps.refl _ _).drew) (fun hHeld => ?_)
  refine wpAnyH_take (i := 0) (oi := _) (v := ?v0u12) rfl (by kernel_rfl) (by kernel_rfl) (by kernel_rfl) (fun _ _ _ h => h) (Or.inl ⟨by rfl, ?y0u12⟩) (by assumption) ?r0u12
  case y0u12 => (intro w hSw; (obtain ⟨hS0, hS1⟩ := hSw); go_simp <;> with_reducible rfl)
  try simp only [List.getElem_toArray, List.getElem_cons_succ, List.getElem_cons_zero, Act.put, List.setIfInBounds_toArray, List.set_cons_zero, List.set_cons_succ]
  refine wpAnyH_take (i := 1) (oi := _) (v := ?v1u13) rfl (by kernel_rfl) (by kernel_rfl) (by kernel_rfl) (fun _ _ _ h => h) (Or.inl ⟨by rfl, ?y1u13⟩) (by assumption) ?r1u13
  case y1u13 => (intro w hSw; (obtain ⟨hS0, hS1⟩ := hSw); go_simp <;> with_reducible rfl)
  try simp only [List.getElem_toArray, List.getElem_cons_succ, List.getElem_cons_zero, Act.put, List.setIfInBounds_toArray, List.set_cons_zero, List.set_cons_succ]
  refine wpAnyH_take (i := 2) (oi := _) (v := ?v2u14) rfl (by kernel_rfl) (by kernel_rfl) (by kernel_rfl) (fun _ _ _ h => h) (Or.inl ⟨by rfl, ?y2u14⟩) (by assumption) ?r2u14
  case y2u14 => (intro w hSw; (obtain ⟨hS0, hS1⟩ := hSw); go_simp <;> with_reducible rfl)
  try simp only [List.getElem_toArray, List.getElem_cons_succ, List.getElem_cons_zero, Act.put, List.setIfInBounds_toArray, List.set_cons_zero, List.set_cons_succ]
  refine wpAnyH_take (i := 3) (oi := _) (v := ?v3u15) rfl (by kernel_rfl) (by kernel_rfl) (by kernel_rfl) (fun _ _ _ h => h) (Or.inl ⟨by rfl, ?y3u15⟩) (by assumption) ?r3u15
  case y3u15 => (intro w hSw; (obtain ⟨hS0, hS1⟩ := hSw); go_simp <;> with_reducible rfl)
  try simp only [List.getElem_toArray, List.getElem_cons_succ, List.getElem_cons_zero, Act.put, List.setIfInBounds_toArray, List.set_cons_zero, List.set_cons_succ]
  refine wpAnyH_take (i := 4) (oi := _) (v := ?v4u16) rfl (by kernel_rfl) (by kernel_rfl) (by kernel_rfl) (fun _ _ _ h => h) (Or.inl ⟨by rfl, ?y4u16⟩) (by assumption) ?r4u16
  case y4u16 => (intro w hSw; (obtain ⟨hS0, hS1⟩ := hSw); go_simp <;> with_reducible rfl)
  try simp only [List.getElem_toArray, List.getElem_cons_succ, List.getElem_cons_zero, Act.put, List.setIfInBounds_toArray, List.set_cons_zero, List.set_cons_succ]
  refine wpAnyH_take (i := 5) (oi := _) (v := ?v5u17) rfl (by kernel_rfl) (by kernel_rfl) (by kernel_rfl) (fun _ _ _ h => h) (Or.inl ⟨by rfl, ?y5u17⟩) (by assumption) ?r5u17
  case y5u17 => (intro w hSw; (obtain ⟨hS0, hS1⟩ := hSw); go_simp <;> with_reducible rfl)
  try simp only [List.getElem_toArray, List.getElem_cons_succ, List.getElem_cons_zero, Act.put, List.setIfInBounds_toArray, List.set_cons_zero, List.set_cons_succ]
  refine wpAnyH_ready (rs := [6]) (by kernel_rfl) (by simp) ?_
  refine AllReadyH.cons (o := _) rfl (fun K hK => ?_) AllReadyH.nil
  go_simp
  refine hK.out _ _ (HS4.out _ HK4.out) (fun hHeld2 => ?_)
  clear hK K hHeld
  have hHeld := hHeld2
  clear hHeld2
  try simp only [List.getElem_toArray, List.getElem_cons_succ, List.getElem_cons_zero, Act.put, List.setIfInBounds_toArray, List.set_cons_zero, List.set_cons_succ]
  refine wpAnyH_done (by kernel_rfl) ?_ _
  clear hHeld
  clear hrun HS4 HK4
  have H64 : Hid (i1 = i1) := rfl
  by_cases hc6 : code = 6
  ·have b6n : (code != 6) = false := by simp [hc6]
   have b6e : (code == 6) = true := by simp [hc6]
   have b1 : (code == 1) = false := by simp [hc6]
   have b2 : (code == 2) = false := by simp [hc6]
   have b3 : (code == 3) = false := by simp [hc6]
   have hAe : agAns A fr ⟨kd, ⟨kind, ag, sh, seq, ep, ds, ser, efr, etag⟩, tag, code, nn, term, had, log, commit, len⟩ = { A with asked := A.asked.filter (fun p => p.1 != tag) } := by rw [HAns.out, if_pos hc6]
   rw [hAe] at HRv Hok
   have Hc6 := Lib.hid hc6
   have m11 : w4.cell? ⟨g5, 11, none⟩ = some (.int .i64 code) := Hr4.out.b5.cell 11
   clear hc6 hAe
   go_upto_region 7 with (fail)
   have z0 := Hr4.out.b8.cell 0; have z1 := Hr4.out.b8.cell 1; have z2 := Hr4.out.b8.cell 2
   simp only [List.getElem?_toArray, List.getElem?_cons_succ, List.getElem?_cons_zero] at z0 z1 z2
   go_cut [61] (fun c W => c = .bool o.isNone ∧ w4 = W)
   case first =>
    rcases o with _ | ⟨kk, qq⟩
    ·obtain ⟨h1, h2, h3⟩ := agg3_inj (show Value.agg #[.int .i64 0, .int .i64 0, .int .i64 0] = .agg #[.int .i64 i1, .int .i64 i2, .int .i64 i3] from Hid3.out)
     have e1 := h1.symm; have e2 := h2.symm; have e3 := h3.symm
     clear h1 h2 h3
     go_wp2_with fail
     all_goals go_meet
     all_goals exact ⟨rfl, rfl⟩
    ·obtain ⟨h1, h2, h3⟩ := agg3_inj (show Value.agg #[.int .i64 A.node, .int .i64 kk, .int .i64 qq] = .agg #[.int .i64 i1, .int .i64 i2, .int .i64 i3] from Hid3.out)
     have hq0 := (HAsk.out _ rfl).2.2.1
     have hq1 : ¬ i3 = 0 := by rw [← h3]; omega
     clear h1 h2 h3 hq0
     go_wp2_with fail
     all_goals go_meet
     all_goals exact ⟨rfl, rfl⟩
   case rest =>
   obtain ⟨rfl, rfl⟩ := hcut
   clear z0 z1 z2
   rcases o with _ | ⟨kk, qq⟩
   ·have HRv0 : Hid (agRecv A fr ⟨kd, ⟨kind, ag, sh, seq, ep, ds, ser, efr, etag⟩, tag, code, nn, term, had, log, commit, len⟩ = (none, code, if code = 6 ∧ fr = A.last then { A with asked := A.asked.filter (fun p => p.1 != tag), last := (A.last + 1).tmod A.reps } else { A with asked := A.asked.filter (fun p => p.1 != tag) })) := HRv.out
    have HA6 : w4.cell? ⟨a, 6, none⟩ = some (.int .i64 A.last) ∧ w4.cell? ⟨a, 1, none⟩ = some (.int .i64 A.reps) ∧ (∀ i, w4.frozen? ⟨a, i, none⟩ = false) := by
     obtain ⟨C5, _, hv⟩ := Hr4.out.cells
     exact ⟨(agcells hv).2.2.2.2.2.2.1, (agcells hv).2.1, fun i => hv.blk.frozen i⟩
    obtain ⟨a6, a1, f6⟩ := HA6
    clear HRv
    by_cases hfl : fr = A.last
    ·have hb9 : (fr == A.last) = true := by simp [hfl]
     have HRv : Hid (agRecv A fr ⟨kd, ⟨kind, ag, sh, seq, ep, ds, ser, efr, etag⟩, tag, code, nn, term, had, log, commit, len⟩ = (none, code, { A with asked := A.asked.filter (fun p => p.1 != tag), last := (A.last + 1).tmod A.reps })) := by show _ = _; rw [HRv0.out, if_pos ⟨Hc6.out, hfl⟩]
     have hl3 := Ho.out.2.2.1
     have hrz : ¬ A.reps = 0 := by omega
     have hwl : IntKind.i64.wrap (A.last + 1) = A.last + 1 := by rw [IntKind.wrap_i64]; omega
     have hrem : 0 ≤ (A.last + 1).tmod A.reps ∧ (A.last + 1).tmod A.reps < A.reps := by
      rw [Int.tmod_eq_emod_of_nonneg (by omega)]
      exact ⟨Int.emod_nonneg _ hrz, Int.emod_lt_of_pos _ (by omega)⟩
     have hwr : IntKind.i64.wrap ((A.last + 1).tmod A.reps) = (A.last + 1).tmod A.reps := by rw [IntKind.wrap_i64]; omega
     have f60 := f6 6
     have Hrem := Lib.hid hrem
     clear hfl HRv0 f6 hrem hl3
     go_upto_region 9 with (fail)
     go_cut [] (fun W => ∃ q, W = (w4.drewN q).setCell ⟨a, 6, none⟩ (.int .i64 ((A.last + 1).tmod A.reps)))
     case first =>
      go_region_with (fail)
      all_goals go_wp2_with fail
      all_goals go_meet
      all_goals exact ⟨1, rfl⟩
     case rest =>
     obtain ⟨q, hwc⟩ := hcut
     obtain ⟨r1, r2, r3⟩ := Hr4.out.ag.setLast Hr4.out.x.lt ((A.last + 1).tmod A.reps) Hrem.out q
     rw [← hwc] at r1 r2 r3
     have Hr9 := Lib.hid (Hr4.out.step r2 (r3.sel_mono (by simp)) r1)
     clear hwc r1 r2 r3 a6 a1 f60 m11
     have HSF : Hid (∀ V, Keeps [g6] wc V → V.cell? ⟨g8, 0, none⟩ = some (.int .i64 i1) ∧ V.cell? ⟨g8, 1, none⟩ = some (.int .i64 i2) ∧ V.cell? ⟨g8, 2, none⟩ = some (.int .i64 i3) ∧ V.cell? ⟨g5, 11, none⟩ = some (.int .i64 code)) := fun V hk => by
      have h1 := hk.blk Hr9.out.b8 (by simpa using H86.out)
      have h2 := hk.blk Hr9.out.b5 (by simpa using H56.out)
      exact ⟨h1.cell 0, h1.cell 1, h1.cell 2, h2.cell 11⟩
     have HPF : Hid (∀ V, Keeps [g6] wc V → RcPost M tg a d A.node (agRecv A fr ⟨kd, ⟨kind, ag, sh, seq, ep, ds, ser, efr, etag⟩, tag, code, nn, term, had, log, commit, len⟩) w (.returned (.tuple #[.agg #[.int .i64 i1, .int .i64 i2, .int .i64 i3], .int .i64 code])) V) := fun V hk => by
      obtain ⟨M9, tg9, r1, r2, r3⟩ := Hr9.out.fin hk
      rw [HRv.out]
      exact ⟨by rw [← Hid3.out], M9, tg9, r1, r2, r3⟩
     go_upto_region 10 with (fail)
     refine wp_region_held_drew (S := (fun W => W.cell? ⟨g8, 0, none⟩ = some (.int .i64 i1) ∧ W.cell? ⟨g8, 1, none⟩ = some (.int .i64 i2) ∧ W.cell? ⟨g8, 2, none⟩ = some (.int .i64 i3) ∧ W.cell? ⟨g5, 11, none⟩ = some (.int .i64 code))) (by kernel_rfl) (HSF.out _ (Keeps.refl _ _).drew) (fun hHeld => ?_)
     refine wpAnyH_take (i := 0) (oi := _) (v := ?v0u18) rfl (by kernel_rfl) (by kernel_rfl) (by kernel_rfl) (fun _ _ _ h => h) (Or.inl ⟨by rfl, ?y0u18⟩) (by assumption) ?r0u18
     case y0u18 => (intro w hSw; (obtain ⟨hS0, hS1, hS2, hS3⟩ := hSw); go_simp <;> with_reducible rfl)
     try simp only [List.getElem_toArray, List.getElem_cons_succ, List.getElem_cons_zero, Act.put, List.setIfInBounds_toArray, List.set_cons_zero, List.set_cons_succ]
     refine wpAnyH_take (i := 1) (oi := _) (v := ?v1u19) rfl (by kernel_rfl) (by kernel_rfl) (by kernel_rfl) (fun _ _ _ h => h) (Or.inl ⟨by rfl, ?y1u19⟩) (by assumption) ?r1u19
     case y1u19 => (intro w hSw; (obtain ⟨hS0, hS1, hS2, hS3⟩ := hSw); go_simp <;> with_reducible rfl)
     try simp only [List.getElem_toArray, List.getElem_cons_succ, List.getElem_cons_zero, Act.put, List.setIfInBounds_toArray, List.set_cons_zero, List.set_cons_succ]
     refine wpAnyH_take (i := 2) (oi := _) (v := ?v2u20) rfl (by kernel_rfl) (by kernel_rfl) (by kernel_rfl) (fun _ _ _ h => h) (Or.inl ⟨by rfl, ?y2u20⟩) (by assumption) ?r2u20
     case y2u20 => (intro w hSw; (obtain ⟨hS0, hS1, hS2, hS3⟩ := hSw); go_simp <;> with_reducible rfl)
     try simp only [List.getElem_toArray, List.getElem_cons_succ, List.getElem_cons_zero, Act.put, List.setIfInBounds_toArray, List.set_cons_zero, List.set_cons_succ]
     refine wpAnyH_ready (rs := [3]) (by kernel_rfl) (by simp) ?_
     refine AllReadyH.cons (o := _) rfl (fun K hK => ?_) AllReadyH.nil
     try simp only [List.getElem_toArray, List.getElem_cons_succ, List.getElem_cons_zero, Act.put, List.setIfInBounds_toArray, List.set_cons_zero, List.set_cons_succ]
     rw [if_pos (by rfl)]
     refine wp_store_blk 30 (.tmp 6) (.tmp 86) rfl g6 0 30 #[.int .i64 0, .int .i64 0, .int .i64 0] #[.int .i64 i1, .int .i64 i2, .int .i64 i3] #[.int .i64 i1, .int .i64 i2, .int .i64 i3] rfl rfl (show Blk wc.drew g6 _ _ from Hr9.out.b6) (by show 0 + 3 ≤ 3; omega) rfl (by kernel_rfl) rfl ?_
     intro w9 hk9 hB9
     have hkc : Keeps [g6] wc w9 := (Keeps.refl [g6] wc).drew.trans hk9 (by simp)
     have HK9 := Lib.hid hkc; have HB9 := Lib.hid hB9
     clear hk9 hB9 hkc
     refine hK.out _ _ (HSF.out _ HK9.out) (fun hHeld2 => ?_)
     clear hK K hHeld
     have hHeld := hHeld2
     clear hHeld2
     try simp only [List.getElem_toArray, List.getElem_cons_succ, List.getElem_cons_zero, Act.put, List.setIfInBounds_toArray, List.set_cons_zero, List.set_cons_succ]
     refine wpAnyH_take (i := 4) (oi := _) (v := ?v4u21) rfl (by kernel_rfl) (by kernel_rfl) (by kernel_rfl) (fun _ _ _ h => h) (Or.inl ⟨by rfl, ?y4u21⟩) (by assumption) ?r4u21
     case y4u21 => (intro w hSw; (obtain ⟨hS0, hS1, hS2, hS3⟩ := hSw); go_simp <;> with_reducible rfl)
     try simp only [List.getElem_toArray, List.getElem_cons_succ, List.getElem_cons_zero, Act.put, List.setIfInBounds_toArray, List.set_cons_zero, List.set_cons_succ]
     refine wpAnyH_done (by kernel_rfl) ?_ _
     clear hHeld
     iterate 4 go_step
     refine bodyPost_ret (results_cell2 rfl _ _ g6 30 #[.int .i64 i1, .int .i64 i2, .int .i64 i3] _ rfl HB9.out Tryz.underlying30 rfl (by kernel_rfl)) rfl ?_
     exact HPF.out _ HK9.out
    ·have hb9 : (fr == A.last) = false := by simp [hfl]
     have HRv : Hid (agRecv A fr ⟨kd, ⟨kind, ag, sh, seq, ep, ds, ser, efr, etag⟩, tag, code, nn, term, had, log, commit, len⟩ = (none, code, { A with asked := A.asked.filter (fun p => p.1 != tag) })) := by show _ = _; rw [HRv0.out, if_neg (fun h => hfl h.2)]
     clear hfl HRv0 f6
     have HSF : Hid (∀ V, Keeps [g6] w4 V → V.cell? ⟨g8, 0, none⟩ = some (.int .i64 i1) ∧ V.cell? ⟨g8, 1, none⟩ = some (.int .i64 i2) ∧ V.cell? ⟨g8, 2, none⟩ = some (.int .i64 i3) ∧ V.cell? ⟨g5, 11, none⟩ = some (.int .i64 code)) := fun V hk => by
      have h1 := hk.blk Hr4.out.b8 (by simpa using H86.out)
      have h2 := hk.blk Hr4.out.b5 (by simpa using H56.out)
      exact ⟨h1.cell 0, h1.cell 1, h1.cell 2, h2.cell 11⟩
     have HPF : Hid (∀ V, Keeps [g6] w4 V → RcPost M tg a d A.node (agRecv A fr ⟨kd, ⟨kind, ag, sh, seq, ep, ds, ser, efr, etag⟩, tag, code, nn, term, had, log, commit, len⟩) w (.returned (.tuple #[.agg #[.int .i64 i1, .int .i64 i2, .int .i64 i3], .int .i64 code])) V) := fun V hk => by
      obtain ⟨M9, tg9, r1, r2, r3⟩ := Hr4.out.fin hk
      rw [HRv.out]
      exact ⟨by rw [← Hid3.out], M9, tg9, r1, r2, r3⟩
     go_upto_region 10 with (fail)
     refine wp_region_held_drew (S := (fun W => W.cell? ⟨g8, 0, none⟩ = some (.int .i64 i1) ∧ W.cell? ⟨g8, 1, none⟩ = some (.int .i64 i2) ∧ W.cell? ⟨g8, 2, none⟩ = some (.int .i64 i3) ∧ W.cell? ⟨g5, 11, none⟩ = some (.int .i64 code))) (by kernel_rfl) (HSF.out _ (Keeps.refl _ _).drew) (fun hHeld => ?_)
     refine wpAnyH_take (i := 0) (oi := _) (v := ?v0u22) rfl (by kernel_rfl) (by kernel_rfl) (by kernel_rfl) (fun _ _ _ h => h) (Or.inl ⟨by rfl, ?y0u22⟩) (by assumption) ?r0u22
     case y0u22 => (intro w hSw; (obtain ⟨hS0, hS1, hS2, hS3⟩ := hSw); go_simp <;> with_reducible rfl)
     try simp only [List.getElem_toArray, List.getElem_cons_succ, List.getElem_cons_zero, Act.put, List.setIfInBounds_toArray, List.set_cons_zero, List.set_cons_succ]
     refine wpAnyH_take (i := 1) (oi := _) (v := ?v1u23) rfl (by kernel_rfl) (by kernel_rfl) (by kernel_rfl) (fun _ _ _ h => h) (Or.inl ⟨by rfl, ?y1u23⟩) (by assumption) ?r1u23
     case y1u23 => (intro w hSw; (obtain ⟨hS0, hS1, hS2, hS3⟩ := hSw); go_simp <;> with_reducible rfl)
     try simp only [List.getElem_toArray, List.getElem_cons_succ, List.getElem_cons_zero, Act.put, List.setIfInBounds_toArray, List.set_cons_zero, List.set_cons_succ]
     refine wpAnyH_take (i := 2) (oi := _) (v := ?v2u24) rfl (by kernel_rfl) (by kernel_rfl) (by kernel_rfl) (fun _ _ _ h => h) (Or.inl ⟨by rfl, ?y2u24⟩) (by assumption) ?r2u24
     case y2u24 => (intro w hSw; (obtain ⟨hS0, hS1, hS2, hS3⟩ := hSw); go_simp <;> with_reducible rfl)
     try simp only [List.getElem_toArray, List.getElem_cons_succ, List.getElem_cons_zero, Act.put, List.setIfInBounds_toArray, List.set_cons_zero, List.set_cons_succ]
     refine wpAnyH_ready (rs := [3]) (by kernel_rfl) (by simp) ?_
     refine AllReadyH.cons (o := _) rfl (fun K hK => ?_) AllReadyH.nil
     try simp only [List.getElem_toArray, List.getElem_cons_succ, List.getElem_cons_zero, Act.put, List.setIfInBounds_toArray, List.set_cons_zero, List.set_cons_succ]
     rw [if_pos (by rfl)]
     refine wp_store_blk 30 (.tmp 6) (.tmp 86) rfl g6 0 30 #[.int .i64 0, .int .i64 0, .int .i64 0] #[.int .i64 i1, .int .i64 i2, .int .i64 i3] #[.int .i64 i1, .int .i64 i2, .int .i64 i3] rfl rfl (show Blk w4.drew g6 _ _ from Hr4.out.b6) (by show 0 + 3 ≤ 3; omega) rfl (by kernel_rfl) rfl ?_
     intro w9 hk9 hB9
     have hkc : Keeps [g6] w4 w9 := (Keeps.refl [g6] w4).drew.trans hk9 (by simp)
     have HK9 := Lib.hid hkc; have HB9 := Lib.hid hB9
     clear hk9 hB9 hkc
     refine hK.out _ _ (HSF.out _ HK9.out) (fun hHeld2 => ?_)
     clear hK K hHeld
     have hHeld := hHeld2
     clear hHeld2
     try simp only [List.getElem_toArray, List.getElem_cons_succ, List.getElem_cons_zero, Act.put, List.setIfInBounds_toArray, List.set_cons_zero, List.set_cons_succ]
     refine wpAnyH_take (i := 4) (oi := _) (v := ?v4u25) rfl (by kernel_rfl) (by kernel_rfl) (by kernel_rfl) (fun _ _ _ h => h) (Or.inl ⟨by rfl, ?y4u25⟩) (by assumption) ?r4u25
     case y4u25 => (intro w hSw; (obtain ⟨hS0, hS1, hS2, hS3⟩ := hSw); go_simp <;> with_reducible rfl)
     try simp only [List.getElem_toArray, List.getElem_cons_succ, List.getElem_cons_zero, Act.put, List.setIfInBounds_toArray, List.set_cons_zero, List.set_cons_succ]
     refine wpAnyH_done (by kernel_rfl) ?_ _
     clear hHeld
     iterate 4 go_step
     refine bodyPost_ret (results_cell2 rfl _ _ g6 30 #[.int .i64 i1, .int .i64 i2, .int .i64 i3] _ rfl HB9.out Tryz.underlying30 rfl (by kernel_rfl)) rfl ?_
     exact HPF.out _ HK9.out
   ·have HRv1 : Hid (agRecv A fr ⟨kd, ⟨kind, ag, sh, seq, ep, ds, ser, efr, etag⟩, tag, code, nn, term, had, log, commit, len⟩ = (some (kk, qq), code, { A with asked := A.asked.filter (fun p => p.1 != tag), tries := setTr A.tries kk qq (some (((A.tries kk qq).getD (0, 0)).1, A.now)), cn := A.cn + 1 })) := by
     have h9 := HRv.out
     simp only [Option.getD_some] at h9
     rw [if_neg (by have := Hc6.out; omega), if_pos Hc6.out] at h9
     exact h9
    have HRv := Lib.hid HRv1.out
    have hb := HAsk.out _ rfl
    obtain ⟨hi1, hi2, hi3⟩ := agg3_inj (show Value.agg #[.int .i64 A.node, .int .i64 kk, .int .i64 qq] = .agg #[.int .i64 i1, .int .i64 i2, .int .i64 i3] from Hid3.out)
    have hnode : I64 A.node := ⟨by have := Ho.out.1.1; omega, by have := Ho.out.1.2; omega⟩
    have hkk : I64 kk := ⟨by omega, by omega⟩
    have hqq : I64 qq := ⟨by omega, by omega⟩
    have hkey : keyOf Tryz.prog 30 (.agg #[.int .i64 i1, .int .i64 i2, .int .i64 i3]) = some (ik A.node kk qq) := by rw [← hi1, ← hi2, ← hi3]; exact ik_of hnode hkk hqq
    have HI := Lib.hid (And.intro hi1 (And.intro hi2 hi3))
    clear hi1 hi2 hi3 HRv1 hb
    obtain ⟨C5, HC5, Hv5⟩ : ∃ C5, Hid (C5.d = d) ∧ Hid (AgV w4 M1 tg1 a { A with asked := A.asked.filter (fun p => p.1 != tag) } C5) := by obtain ⟨C5, h1, h2⟩ := Hr4.out.cells; exact ⟨C5, h1, h2⟩
    obtain ⟨tn, ta, htt⟩ : ∃ tn ta, (A.tries kk qq).getD (0, 0) = (tn, ta) := ⟨_, _, rfl⟩
    have htv : C5.Dt.atKey (ik A.node kk qq) (.held zTry) = .held (.agg #[.int .i64 tn, .int .i64 ta]) := by
     rw [show C5.Dt.atKey (ik A.node kk qq) (.held zTry) = .held (tryV (A.tries kk qq)) from Hv5.out.trD kk qq hkk hqq]
     revert htt
     cases A.tries kk qq with
     | none => intro h; injection h with h1 h2; subst h1; subst h2; rfl
     | some x => intro h; obtain ⟨x1, x2⟩ := x; injection h with h1 h2; subst h1; subst h2; rfl
    have htb : 0 ≤ tn ∧ tn ≤ A.cn := by
     revert htt
     cases hx : A.tries kk qq with
     | none => intro h; injection h with h1 h2; omega
     | some x => intro h; have := Ho.out.2.2.2.2.2.2.2.2.1 kk qq x hx; obtain ⟨x1, x2⟩ := x; injection h with h1 h2; subst h1; exact ⟨this.1, this.2.1⟩
    have HRv : Hid (agRecv A fr ⟨kd, ⟨kind, ag, sh, seq, ep, ds, ser, efr, etag⟩, tag, code, nn, term, had, log, commit, len⟩ = (some (kk, qq), code, { A with asked := A.asked.filter (fun p => p.1 != tag), tries := setTr A.tries kk qq (some (tn, A.now)), cn := A.cn + 1 })) := by show _ = _; rw [HRv.out, htt]
    have HS17 : Hid (∀ W, Keeps [] w4 W → W.cell? ⟨a, 7, none⟩ = some (.map (some C5.tb)) ∧ W.cell? ⟨g8, 0, none⟩ = some (.int .i64 i1) ∧ W.cell? ⟨g8, 1, none⟩ = some (.int .i64 i2) ∧ W.cell? ⟨g8, 2, none⟩ = some (.int .i64 i3) ∧ (Instr.lookup 114 (.map (some C5.tb)) (.agg #[.int .i64 i1, .int .i64 i2, .int .i64 i3]) false).run Tryz.prog W = .ok (.agg #[.int .i64 tn, .int .i64 ta]) W) := fun W hk => by
     have hv := Hv5.out.keep0 Hr4.out.x.lt hk
     have h8 := hk.blk Hr4.out.b8 (by simp)
     exact ⟨(agcells hv).2.2.2.2.2.2.2.1, h8.cell 0, h8.cell 1, h8.cell 2, run_look_held hv.tr lawK uMT (zTryV W) hkey htv⟩
    have Hkey := Lib.hid hkey
    clear htt htv hkey
    go_upto_region 17 with (fail)
    refine wp_region_held_drew (S := (fun W => W.cell? ⟨a, 7, none⟩ = some (.map (some C5.tb)) ∧ W.cell? ⟨g8, 0, none⟩ = some (.int .i64 i1) ∧ W.cell? ⟨g8, 1, none⟩ = some (.int .i64 i2) ∧ W.cell? ⟨g8, 2, none⟩ = some (.int .i64 i3) ∧ (Instr.lookup 114 (.map (some C5.tb)) (.agg #[.int .i64 i1, .int .i64 i2, .int .i64 i3]) false).run Tryz.prog W = .ok (.agg #[.int .i64 tn, .int .i64 ta]) W)) (by kernel_rfl) (HS17.out _ (Keeps.refl _ _).drew) (fun hHeld => ?_)
    refine wpAnyH_take (i := 0) (oi := _) (v := ?v0u26) rfl (by kernel_rfl) (by kernel_rfl) (by kernel_rfl) (fun _ _ _ h => h) (Or.inl ⟨by rfl, ?y0u26⟩) (by assumption) ?r0u26
    case y0u26 => (intro w hSw; (obtain ⟨hS0, hS1, hS2, hS3, hS4⟩ := hSw); go_simp <;> with_reducible rfl)
    try simp only [List.getElem_toArray, List.getElem_cons_succ, List.getElem_cons_zero, Act.put, List.setIfInBounds_toArray, List.set_cons_zero, List.set_cons_succ]
    refine wpAnyH_take (i := 1) (oi := _) (v := ?v1u27) rfl (by kernel_rfl) (by kernel_rfl) (by kernel_rfl) (fun _ _ _ h => h) (Or.inl ⟨by rfl, ?y1u27⟩) (by assumption) ?r1u27
    case y1u27 => (intro w hSw; (obtain ⟨hS0, hS1, hS2, hS3, hS4⟩ := hSw); go_simp <;> with_reducible rfl)
    try simp only [List.getElem_toArray, List.getElem_cons_succ, List.getElem_cons_zero, Act.put, List.setIfInBounds_toArray, List.set_cons_zero, List.set_cons_succ]
    refine wpAnyH_take (i := 2) (oi := _) (v := ?v2u28) rfl (by kernel_rfl) (by kernel_rfl) (by kernel_rfl) (fun _ _ _ h => h) (Or.inl ⟨by rfl, ?y2u28⟩) (by assumption) ?r2u28
    case y2u28 => (intro w hSw; (obtain ⟨hS0, hS1, hS2, hS3, hS4⟩ := hSw); go_simp <;> with_reducible rfl)
    try simp only [List.getElem_toArray, List.getElem_cons_succ, List.getElem_cons_zero, Act.put, List.setIfInBounds_toArray, List.set_cons_zero, List.set_cons_succ]
    refine wpAnyH_take (i := 3) (oi := _) (v := ?v3u29) rfl (by kernel_rfl) (by kernel_rfl) (by kernel_rfl) (fun _ _ _ h => h) (Or.inl ⟨by rfl, ?y3u29⟩) (by assumption) ?r3u29
    case y3u29 => (intro w hSw; (obtain ⟨hS0, hS1, hS2, hS3, hS4⟩ := hSw); go_simp <;> with_reducible rfl)
    try simp only [List.getElem_toArray, List.getElem_cons_succ, List.getElem_cons_zero, Act.put, List.setIfInBounds_toArray, List.set_cons_zero, List.set_cons_succ]
    refine wpAnyH_take (i := 4) (oi := _) (v := ?v4u30) rfl (by kernel_rfl) (by kernel_rfl) (by kernel_rfl) (fun _ _ _ h => h) (Or.inl ⟨by rfl, ?y4u30⟩) (by assumption) ?r4u30
    case y4u30 => (intro w hSw; (obtain ⟨hS0, hS1, hS2, hS3, hS4⟩ := hSw); go_simp <;> with_reducible rfl)
    try simp only [List.getElem_toArray, List.getElem_cons_succ, List.getElem_cons_zero, Act.put, List.setIfInBounds_toArray, List.set_cons_zero, List.set_cons_succ]
    refine wpAnyH_take (i := 5) (oi := _) (v := ?v5u31) rfl (by kernel_rfl) (by kernel_rfl) (by kernel_rfl) (fun _ _ _ h => h) (Or.inl ⟨by rfl, ?y5u31⟩) (by assumption) ?r5u31
    case y5u31 => (intro w hSw; (obtain ⟨hS0, hS1, hS2, hS3, hS4⟩ := hSw); go_simp <;> with_reducible rfl)
    try simp only [List.getElem_toArray, List.getElem_cons_succ, List.getElem_cons_zero, Act.put, List.setIfInBounds_toArray, List.set_cons_zero, List.set_cons_succ]
    refine wpAnyH_ready (rs := [6]) (by kernel_rfl) (by simp) ?_
    refine AllReadyH.cons (o := _) rfl (fun K hK => ?_) AllReadyH.nil
    go_simp
    refine hK.out _ _ (HS17.out _ ((Keeps.refl [] w4).drew.alloc _)) (fun hHeld2 => ?_)
    clear hK K hHeld
    have hHeld := hHeld2
    clear hHeld2
    try simp only [List.getElem_toArray, List.getElem_cons_succ, List.getElem_cons_zero, Act.put, List.setIfInBounds_toArray, List.set_cons_zero, List.set_cons_succ]
    refine wpAnyH_ready (rs := [7]) (by kernel_rfl) (by simp) ?_
    refine AllReadyH.cons (o := _) rfl (fun K hK => ?_) AllReadyH.nil
    try simp only [List.getElem_toArray, List.getElem_cons_succ, List.getElem_cons_zero, Act.put, List.setIfInBounds_toArray, List.set_cons_zero, List.set_cons_succ]
    rw [if_pos (by rfl)]
    refine wp_store_blk 138 (.tmp 10) (.tmp 105) rfl w4.heap.size 0 138 _ #[.int .i64 tn, .int .i64 ta] #[.int .i64 tn, .int .i64 ta] rfl rfl (show Blk _ w4.drew.heap.size _ _ from Blk.new w4.drew _ _) (by show 0 + 2 ≤ 2; omega) rfl (by kernel_rfl) rfl ?_
    intro w5 hk5 hB10
    have hkc : Keeps [] w4 w5 := ((Keeps.refl [] w4).drew.alloc _).trans hk5 (by intro q hq; simp at hq; right; omega)
    have HK5 := Lib.hid hkc; have HB10 := Lib.hid hB10
    clear hk5 hB10 hkc
    refine hK.out _ _ (HS17.out _ HK5.out) (fun hHeld2 => ?_)
    clear hK K hHeld
    have hHeld := hHeld2
    clear hHeld2
    try simp only [List.getElem_toArray, List.getElem_cons_succ, List.getElem_cons_zero, Act.put, List.setIfInBounds_toArray, List.set_cons_zero, List.set_cons_succ]
    refine wpAnyH_done (by kernel_rfl) ?_ _
    clear hHeld
    obtain ⟨g10, Hg10⟩ : ∃ g10, Hid (g10 = w4.heap.size) := ⟨_, rfl⟩
    rw [← Hg10.out] at HB10 ⊢
    have Hr5 := Lib.hid (Hr4.out.keep0 HK5.out)
    have Hv5b := Lib.hid (Hv5.out.keep0 Hr4.out.x.lt HK5.out)
    have a4 : w5.cell? ⟨a, 4, none⟩ = some (.int .i64 A.now) := (agcells Hv5b.out).2.2.2.2.1
    have s1 := HB10.out.cell 1
    simp only [List.getElem?_toArray, List.getElem?_cons_succ, List.getElem?_cons_zero] at s1
    have s1f := HB10.out.frozen 1
    obtain ⟨w6, hw6⟩ : ∃ w6, w6 = w5.setCell ⟨g10, 1, none⟩ (.int .i64 A.now) := ⟨_, rfl⟩
    have hk6 : Keeps [] w4 w6 := by rw [hw6]; exact HK5.out.setCell (by right; rw [Hg10.out]; exact Nat.le_refl _) _
    have hB6 : Blk w6 g10 138 #[.int .i64 tn, .int .i64 A.now] := by
     have h9 := HB10.out.set_ 1 (.int .i64 A.now)
     rw [hw6]
     simpa using h9
    have Hr6 := Lib.hid (Hr4.out.keep0 hk6)
    have Hv6 := Lib.hid (Hv5.out.keep0 Hr4.out.x.lt hk6)
    have HB6 := Lib.hid hB6
    have h10M : Hid (g10 ∉ M1) := fun hm => by have h1 := Hr4.out.x.lt _ hm; have h2 := Hg10.out; omega
    go_upto_region 19 with (fail)
    rw [← hw6]
    clear hw6 hk6 hB6 a4 s1 s1f HS17 HB10 HK5 Hr5 Hv5b
    obtain ⟨w7, hrun, hm7, ht7⟩ := (show w6.drew.ownsMap Tryz.prog 30 heldElem C5.tb C5.Nt C5.Dt from Hv6.out.tr).store lawK uMT (by have h1 := Hv6.out.nt; have h2 : ({ A with asked := A.asked.filter (fun p => p.1 != tag) } : AgD).cn = A.cn := rfl; rw [h2] at h1; unfold maxLen; omega) Hkey.out (show heldElem (.agg #[.int .i64 tn, .int .i64 A.now]) = some (.held (.agg #[.int .i64 tn, .int .i64 A.now]), []) from rfl)
    have hk7 : Keeps [C5.tb] w6 w7 := Keeps.trans ((Keeps.refl [C5.tb] w6).drew) (turned_keeps ht7) (by simp)
    obtain ⟨v1, v2, v3⟩ := Hv6.out.setTr Hr6.out.x.lt (tr' := setTr A.tries kk qq (some (tn, A.now))) (cn' := A.cn + 1) (Nat.le_succ _) hm7 (trOk_put Hv6.out.trD Hv6.out.tr.isMap hnode hkk hqq (tn, A.now)) (Nat.succ_le_succ Hv6.out.nt) hk7
    have haT : a ≠ C5.tb := fun h => absurd (Hv6.out.ta.symm.trans ((congrArg tg1 h).trans Hv6.out.ttb)) (by decide)
    have h8T : g8 ≠ C5.tb := fun h => Hr6.out.n8 (h ▸ Hv6.out.tbM)
    have h10T : g10 ≠ C5.tb := fun h => h10M.out (h ▸ Hv6.out.tbM)
    have HS19 : Hid (∀ W, Keeps [C5.tb] w6 W → W.cell? ⟨a, 7, none⟩ = some (.map (some C5.tb)) ∧ W.cell? ⟨g8, 0, none⟩ = some (.int .i64 i1) ∧ W.cell? ⟨g8, 1, none⟩ = some (.int .i64 i2) ∧ W.cell? ⟨g8, 2, none⟩ = some (.int .i64 i3) ∧ W.cell? ⟨g10, 0, none⟩ = some (.int .i64 tn) ∧ W.cell? ⟨g10, 1, none⟩ = some (.int .i64 A.now)) := fun W hk => by
     have h1 := hk.blk Hv6.out.blk (by simpa using haT)
     have h8 := hk.blk Hr6.out.b8 (by simpa using h8T)
     have h10 := hk.blk HB6.out (by simpa using h10T)
     exact ⟨h1.cell 7, h8.cell 0, h8.cell 1, h8.cell 2, h10.cell 0, h10.cell 1⟩
    have Hr7 : Hid (RcSt w M tg a d { A with asked := A.asked.filter (fun p => p.1 != tag), tries := setTr A.tries kk qq (some (tn, A.now)), cn := A.cn + 1 } g5 g6 g8 #[.int .i64 kd, .int .i64 kind, .int .i64 ag, .int .i64 sh, .int .i64 seq, .int .i64 ep, .slice Aa ds.length na, .string ser, .int .i64 efr, .int .i64 etag, .int .i64 tag, .int .i64 code, .int .u64 nn, .int .i64 term, .int .i64 had, .slice Ba log.length ka, .int .i64 commit, .int .i64 len] #[.int .i64 i1, .int .i64 i2, .int .i64 i3] w7 M1 tg1) := Hr6.out.step v2 (v3.sel_mono (by simp)) ⟨by
     obtain ⟨p1, p2, p3, p4, p5, p6, p7, p8, p9, p10, p11⟩ := Ho.out
     refine ⟨p1, p2, p3, p4, p5, ⟨p6.1, by show A.tag ≤ A.bk.ep * 4294967296 + ((A.cn + 1 : Nat) : Int); have := p6.2; omega⟩, p7, hc, fun s t x hx => ?_, fun p hp => p10 p (List.mem_filter.1 hp).1, p11.sublist (List.filter_sublist.map _)⟩
     have hx' : (if s = kk ∧ t = qq then some (tn, A.now) else A.tries s t) = some x := hx
     split at hx'
     ·injection hx' with hx'; subst hx'
      exact ⟨htb.1, by show tn ≤ ((A.cn + 1 : Nat) : Int); omega, p4.1, by show A.now ≤ _; omega⟩
     ·obtain ⟨y1, y2, y3, y4⟩ := p9 s t x hx'
      exact ⟨y1, by show x.1 ≤ ((A.cn + 1 : Nat) : Int); omega, y3, y4⟩, _, by exact HC5.out, v1⟩
    have HK7 := Lib.hid hk7
    clear hm7 ht7 hk7 v1 v2 v3 Hv5 Hv6 Hr6 HB6 Hr4 m11
    refine wp_region_held_drew (S := (fun W => W.cell? ⟨a, 7, none⟩ = some (.map (some C5.tb)) ∧ W.cell? ⟨g8, 0, none⟩ = some (.int .i64 i1) ∧ W.cell? ⟨g8, 1, none⟩ = some (.int .i64 i2) ∧ W.cell? ⟨g8, 2, none⟩ = some (.int .i64 i3) ∧ W.cell? ⟨g10, 0, none⟩ = some (.int .i64 tn) ∧ W.cell? ⟨g10, 1, none⟩ = some (.int .i64 A.now))) (by kernel_rfl) (HS19.out _ (Keeps.refl _ _).drew) (fun hHeld => ?_)
    refine wpAnyH_take (i := 0) (oi := _) (v := ?v0u32) rfl (by kernel_rfl) (by kernel_rfl) (by kernel_rfl) (fun _ _ _ h => h) (Or.inl ⟨by rfl, ?y0u32⟩) (by assumption) ?r0u32
    case y0u32 => (intro w hSw; (obtain ⟨hS0, hS1, hS2, hS3, hS4, hS5⟩ := hSw); go_simp <;> with_reducible rfl)
    try simp only [List.getElem_toArray, List.getElem_cons_succ, List.getElem_cons_zero, Act.put, List.setIfInBounds_toArray, List.set_cons_zero, List.set_cons_succ]
    refine wpAnyH_take (i := 1) (oi := _) (v := ?v1u33) rfl (by kernel_rfl) (by kernel_rfl) (by kernel_rfl) (fun _ _ _ h => h) (Or.inl ⟨by rfl, ?y1u33⟩) (by assumption) ?r1u33
    case y1u33 => (intro w hSw; (obtain ⟨hS0, hS1, hS2, hS3, hS4, hS5⟩ := hSw); go_simp <;> with_reducible rfl)
    try simp only [List.getElem_toArray, List.getElem_cons_succ, List.getElem_cons_zero, Act.put, List.setIfInBounds_toArray, List.set_cons_zero, List.set_cons_succ]
    refine wpAnyH_take (i := 2) (oi := _) (v := ?v2u34) rfl (by kernel_rfl) (by kernel_rfl) (by kernel_rfl) (fun _ _ _ h => h) (Or.inl ⟨by rfl, ?y2u34⟩) (by assumption) ?r2u34
    case y2u34 => (intro w hSw; (obtain ⟨hS0, hS1, hS2, hS3, hS4, hS5⟩ := hSw); go_simp <;> with_reducible rfl)
    try simp only [List.getElem_toArray, List.getElem_cons_succ, List.getElem_cons_zero, Act.put, List.setIfInBounds_toArray, List.set_cons_zero, List.set_cons_succ]
    refine wpAnyH_take (i := 3) (oi := _) (v := ?v3u35) rfl (by kernel_rfl) (by kernel_rfl) (by kernel_rfl) (fun _ _ _ h => h) (Or.inl ⟨by rfl, ?y3u35⟩) (by assumption) ?r3u35
    case y3u35 => (intro w hSw; (obtain ⟨hS0, hS1, hS2, hS3, hS4, hS5⟩ := hSw); go_simp <;> with_reducible rfl)
    try simp only [List.getElem_toArray, List.getElem_cons_succ, List.getElem_cons_zero, Act.put, List.setIfInBounds_toArray, List.set_cons_zero, List.set_cons_succ]
    refine wpAnyH_take (i := 4) (oi := _) (v := ?v4u36) rfl (by kernel_rfl) (by kernel_rfl) (by kernel_rfl) (fun _ _ _ h => h) (Or.inl ⟨by rfl, ?y4u36⟩) (by assumption) ?r4u36
    case y4u36 => (intro w hSw; (obtain ⟨hS0, hS1, hS2, hS3, hS4, hS5⟩ := hSw); go_simp <;> with_reducible rfl)
    try simp only [List.getElem_toArray, List.getElem_cons_succ, List.getElem_cons_zero, Act.put, List.setIfInBounds_toArray, List.set_cons_zero, List.set_cons_succ]
    refine wpAnyH_take (i := 5) (oi := _) (v := ?v5u37) rfl (by kernel_rfl) (by kernel_rfl) (by kernel_rfl) (fun _ _ _ h => h) (Or.inl ⟨by rfl, ?y5u37⟩) (by assumption) ?r5u37
    case y5u37 => (intro w hSw; (obtain ⟨hS0, hS1, hS2, hS3, hS4, hS5⟩ := hSw); go_simp <;> with_reducible rfl)
    try simp only [List.getElem_toArray, List.getElem_cons_succ, List.getElem_cons_zero, Act.put, List.setIfInBounds_toArray, List.set_cons_zero, List.set_cons_succ]
    refine wpAnyH_ready (rs := [6]) (by kernel_rfl) (by simp) ?_
    refine AllReadyH.cons (o := _) rfl (fun K hK => ?_) AllReadyH.nil
    go_simp
    refine hK.out _ _ (HS19.out _ HK7.out) (fun hHeld2 => ?_)
    clear hK K hHeld
    have hHeld := hHeld2
    clear hHeld2
    try simp only [List.getElem_toArray, List.getElem_cons_succ, List.getElem_cons_zero, Act.put, List.setIfInBounds_toArray, List.set_cons_zero, List.set_cons_succ]
    refine wpAnyH_done (by kernel_rfl) ?_ _
    clear hHeld
    clear hrun HS19 HK7
    have HSF : Hid (∀ V, Keeps [g6] w7 V → V.cell? ⟨g8, 0, none⟩ = some (.int .i64 i1) ∧ V.cell? ⟨g8, 1, none⟩ = some (.int .i64 i2) ∧ V.cell? ⟨g8, 2, none⟩ = some (.int .i64 i3) ∧ V.cell? ⟨g5, 11, none⟩ = some (.int .i64 code)) := fun V hk => by
     have h1 := hk.blk Hr7.out.b8 (by simpa using H86.out)
     have h2 := hk.blk Hr7.out.b5 (by simpa using H56.out)
     exact ⟨h1.cell 0, h1.cell 1, h1.cell 2, h2.cell 11⟩
    have HPF : Hid (∀ V, Keeps [g6] w7 V → RcPost M tg a d A.node (agRecv A fr ⟨kd, ⟨kind, ag, sh, seq, ep, ds, ser, efr, etag⟩, tag, code, nn, term, had, log, commit, len⟩) w (.returned (.tuple #[.agg #[.int .i64 i1, .int .i64 i2, .int .i64 i3], .int .i64 code])) V) := fun V hk => by
     obtain ⟨M9, tg9, r1, r2, r3⟩ := Hr7.out.fin hk
     rw [HRv.out]
     exact ⟨by rw [← Hid3.out], M9, tg9, r1, r2, r3⟩
    go_upto_region 20 with (fail)
    refine wp_region_held_drew (S := (fun W => W.cell? ⟨g8, 0, none⟩ = some (.int .i64 i1) ∧ W.cell? ⟨g8, 1, none⟩ = some (.int .i64 i2) ∧ W.cell? ⟨g8, 2, none⟩ = some (.int .i64 i3) ∧ W.cell? ⟨g5, 11, none⟩ = some (.int .i64 code))) (by kernel_rfl) (HSF.out _ (Keeps.refl _ _).drew) (fun hHeld => ?_)
    refine wpAnyH_take (i := 0) (oi := _) (v := ?v0u38) rfl (by kernel_rfl) (by kernel_rfl) (by kernel_rfl) (fun _ _ _ h => h) (Or.inl ⟨by rfl, ?y0u38⟩) (by assumption) ?r0u38
    case y0u38 => (intro w hSw; (obtain ⟨hS0, hS1, hS2, hS3⟩ := hSw); go_simp <;> with_reducible rfl)
    try simp only [List.getElem_toArray, List.getElem_cons_succ, List.getElem_cons_zero, Act.put, List.setIfInBounds_toArray, List.set_cons_zero, List.set_cons_succ]
    refine wpAnyH_take (i := 1) (oi := _) (v := ?v1u39) rfl (by kernel_rfl) (by kernel_rfl) (by kernel_rfl) (fun _ _ _ h => h) (Or.inl ⟨by rfl, ?y1u39⟩) (by assumption) ?r1u39
    case y1u39 => (intro w hSw; (obtain ⟨hS0, hS1, hS2, hS3⟩ := hSw); go_simp <;> with_reducible rfl)
    try simp only [List.getElem_toArray, List.getElem_cons_succ, List.getElem_cons_zero, Act.put, List.setIfInBounds_toArray, List.set_cons_zero, List.set_cons_succ]
    refine wpAnyH_take (i := 2) (oi := _) (v := ?v2u40) rfl (by kernel_rfl) (by kernel_rfl) (by kernel_rfl) (fun _ _ _ h => h) (Or.inl ⟨by rfl, ?y2u40⟩) (by assumption) ?r2u40
    case y2u40 => (intro w hSw; (obtain ⟨hS0, hS1, hS2, hS3⟩ := hSw); go_simp <;> with_reducible rfl)
    try simp only [List.getElem_toArray, List.getElem_cons_succ, List.getElem_cons_zero, Act.put, List.setIfInBounds_toArray, List.set_cons_zero, List.set_cons_succ]
    refine wpAnyH_ready (rs := [3]) (by kernel_rfl) (by simp) ?_
    refine AllReadyH.cons (o := _) rfl (fun K hK => ?_) AllReadyH.nil
    try simp only [List.getElem_toArray, List.getElem_cons_succ, List.getElem_cons_zero, Act.put, List.setIfInBounds_toArray, List.set_cons_zero, List.set_cons_succ]
    rw [if_pos (by rfl)]
    refine wp_store_blk 30 (.tmp 6) (.tmp 117) rfl g6 0 30 #[.int .i64 0, .int .i64 0, .int .i64 0] #[.int .i64 i1, .int .i64 i2, .int .i64 i3] #[.int .i64 i1, .int .i64 i2, .int .i64 i3] rfl rfl (show Blk w7.drew g6 _ _ from Hr7.out.b6) (by show 0 + 3 ≤ 3; omega) rfl (by kernel_rfl) rfl ?_
    intro w9 hk9 hB9
    have hkc : Keeps [g6] w7 w9 := (Keeps.refl [g6] w7).drew.trans hk9 (by simp)
    have HK9 := Lib.hid hkc; have HB9 := Lib.hid hB9
    clear hk9 hB9 hkc
    refine hK.out _ _ (HSF.out _ HK9.out) (fun hHeld2 => ?_)
    clear hK K hHeld
    have hHeld := hHeld2
    clear hHeld2
    try simp only [List.getElem_toArray, List.getElem_cons_succ, List.getElem_cons_zero, Act.put, List.setIfInBounds_toArray, List.set_cons_zero, List.set_cons_succ]
    refine wpAnyH_take (i := 4) (oi := _) (v := ?v4u41) rfl (by kernel_rfl) (by kernel_rfl) (by kernel_rfl) (fun _ _ _ h => h) (Or.inl ⟨by rfl, ?y4u41⟩) (by assumption) ?r4u41
    case y4u41 => (intro w hSw; (obtain ⟨hS0, hS1, hS2, hS3⟩ := hSw); go_simp <;> with_reducible rfl)
    try simp only [List.getElem_toArray, List.getElem_cons_succ, List.getElem_cons_zero, Act.put, List.setIfInBounds_toArray, List.set_cons_zero, List.set_cons_succ]
    refine wpAnyH_done (by kernel_rfl) ?_ _
    clear hHeld
    iterate 3 go_step
    refine bodyPost_ret (results_cell2 rfl _ _ g6 30 #[.int .i64 i1, .int .i64 i2, .int .i64 i3] _ rfl HB9.out Tryz.underlying30 rfl (by kernel_rfl)) rfl ?_
    exact HPF.out _ HK9.out
  ·have b6n : (code != 6) = true := by simp [hc6]
   have b6e : (code == 6) = false := by simp [hc6]
   have hAe : agAns A fr ⟨kd, ⟨kind, ag, sh, seq, ep, ds, ser, efr, etag⟩, tag, code, nn, term, had, log, commit, len⟩ = { A with asked := A.asked.filter (fun p => p.1 != tag), last := fr } := by rw [HAns.out, if_neg hc6]
   rw [hAe] at HRv Hok
   have Hc6 := Lib.hid hc6
   have m11 : w4.cell? ⟨g5, 11, none⟩ = some (.int .i64 code) := Hr4.out.b5.cell 11
   have HA6 : w4.cell? ⟨a, 6, none⟩ = some (.int .i64 A.last) ∧ w4.frozen? ⟨a, 6, none⟩ = false := by
    obtain ⟨C5, _, hv⟩ := Hr4.out.cells
    exact ⟨(agcells hv).2.2.2.2.2.2.1, hv.blk.frozen 6⟩
   obtain ⟨a6, f6⟩ := HA6
   obtain ⟨r1, r2, r3⟩ := Hr4.out.ag.setLast Hr4.out.x.lt fr ⟨hf0, hf1⟩ 0
   obtain ⟨w5, hw5⟩ : ∃ w5, w5 = (w4.drewN 0).setCell ⟨a, 6, none⟩ (.int .i64 fr) := ⟨_, rfl⟩
   rw [← hw5] at r1 r2 r3
   have Hr5 := Lib.hid (Hr4.out.step r2 (r3.sel_mono (by simp)) r1)
   have hw5' : w4.setCell ⟨a, 6, none⟩ (.int .i64 fr) = w5 := by rw [hw5]; rfl
   clear hc6 hAe r1 r2 r3 hw5
   go_upto_region 7 with (fail)
   try rw [hw5']
   clear hw5' m11 a6 f6 Hr4
   have m11 : w5.cell? ⟨g5, 11, none⟩ = some (.int .i64 code) := Hr5.out.b5.cell 11
   have z0 := Hr5.out.b8.cell 0; have z1 := Hr5.out.b8.cell 1; have z2 := Hr5.out.b8.cell 2
   simp only [List.getElem?_toArray, List.getElem?_cons_succ, List.getElem?_cons_zero] at z0 z1 z2
   go_cut [61] (fun c W => c = .bool o.isNone ∧ w5 = W)
   case first =>
    rcases o with _ | ⟨kk, qq⟩
    ·obtain ⟨h1, h2, h3⟩ := agg3_inj (show Value.agg #[.int .i64 0, .int .i64 0, .int .i64 0] = .agg #[.int .i64 i1, .int .i64 i2, .int .i64 i3] from Hid3.out)
     have e1 := h1.symm; have e2 := h2.symm; have e3 := h3.symm
     clear h1 h2 h3
     go_wp2_with fail
     all_goals go_meet
     all_goals exact ⟨rfl, rfl⟩
    ·obtain ⟨h1, h2, h3⟩ := agg3_inj (show Value.agg #[.int .i64 A.node, .int .i64 kk, .int .i64 qq] = .agg #[.int .i64 i1, .int .i64 i2, .int .i64 i3] from Hid3.out)
     have hq0 := (HAsk.out _ rfl).2.2.1
     have hq1 : ¬ i3 = 0 := by rw [← h3]; omega
     clear h1 h2 h3 hq0
     go_wp2_with fail
     all_goals go_meet
     all_goals exact ⟨rfl, rfl⟩
   case rest =>
   obtain ⟨rfl, rfl⟩ := hcut
   clear z0 z1 z2
   rcases o with _ | ⟨kk, qq⟩
   ·have HRv0 : Hid (agRecv A fr ⟨kd, ⟨kind, ag, sh, seq, ep, ds, ser, efr, etag⟩, tag, code, nn, term, had, log, commit, len⟩ = (none, code, { A with asked := A.asked.filter (fun p => p.1 != tag), last := fr })) := by have h9 := HRv.out; simp only [Option.getD_some] at h9; rw [if_neg (fun h => Hc6.out h.1)] at h9; exact h9
    have HRv := Lib.hid HRv0.out
    clear HRv0
    have HSF : Hid (∀ V, Keeps [g6] w5 V → V.cell? ⟨g8, 0, none⟩ = some (.int .i64 i1) ∧ V.cell? ⟨g8, 1, none⟩ = some (.int .i64 i2) ∧ V.cell? ⟨g8, 2, none⟩ = some (.int .i64 i3) ∧ V.cell? ⟨g5, 11, none⟩ = some (.int .i64 code)) := fun V hk => by
     have h1 := hk.blk Hr5.out.b8 (by simpa using H86.out)
     have h2 := hk.blk Hr5.out.b5 (by simpa using H56.out)
     exact ⟨h1.cell 0, h1.cell 1, h1.cell 2, h2.cell 11⟩
    have HPF : Hid (∀ V, Keeps [g6] w5 V → RcPost M tg a d A.node (agRecv A fr ⟨kd, ⟨kind, ag, sh, seq, ep, ds, ser, efr, etag⟩, tag, code, nn, term, had, log, commit, len⟩) w (.returned (.tuple #[.agg #[.int .i64 i1, .int .i64 i2, .int .i64 i3], .int .i64 code])) V) := fun V hk => by
     obtain ⟨M9, tg9, r1, r2, r3⟩ := Hr5.out.fin hk
     rw [HRv.out]
     exact ⟨by rw [← Hid3.out], M9, tg9, r1, r2, r3⟩
    go_upto_region 10 with (fail)
    refine wp_region_held_drew (S := (fun W => W.cell? ⟨g8, 0, none⟩ = some (.int .i64 i1) ∧ W.cell? ⟨g8, 1, none⟩ = some (.int .i64 i2) ∧ W.cell? ⟨g8, 2, none⟩ = some (.int .i64 i3) ∧ W.cell? ⟨g5, 11, none⟩ = some (.int .i64 code))) (by kernel_rfl) (HSF.out _ (Keeps.refl _ _).drew) (fun hHeld => ?_)
    refine wpAnyH_take (i := 0) (oi := _) (v := ?v0u42) rfl (by kernel_rfl) (by kernel_rfl) (by kernel_rfl) (fun _ _ _ h => h) (Or.inl ⟨by rfl, ?y0u42⟩) (by assumption) ?r0u42
    case y0u42 => (intro w hSw; (obtain ⟨hS0, hS1, hS2, hS3⟩ := hSw); go_simp <;> with_reducible rfl)
    try simp only [List.getElem_toArray, List.getElem_cons_succ, List.getElem_cons_zero, Act.put, List.setIfInBounds_toArray, List.set_cons_zero, List.set_cons_succ]
    refine wpAnyH_take (i := 1) (oi := _) (v := ?v1u43) rfl (by kernel_rfl) (by kernel_rfl) (by kernel_rfl) (fun _ _ _ h => h) (Or.inl ⟨by rfl, ?y1u43⟩) (by assumption) ?r1u43
    case y1u43 => (intro w hSw; (obtain ⟨hS0, hS1, hS2, hS3⟩ := hSw); go_simp <;> with_reducible rfl)
    try simp only [List.getElem_toArray, List.getElem_cons_succ, List.getElem_cons_zero, Act.put, List.setIfInBounds_toArray, List.set_cons_zero, List.set_cons_succ]
    refine wpAnyH_take (i := 2) (oi := _) (v := ?v2u44) rfl (by kernel_rfl) (by kernel_rfl) (by kernel_rfl) (fun _ _ _ h => h) (Or.inl ⟨by rfl, ?y2u44⟩) (by assumption) ?r2u44
    case y2u44 => (intro w hSw; (obtain ⟨hS0, hS1, hS2, hS3⟩ := hSw); go_simp <;> with_reducible rfl)
    try simp only [List.getElem_toArray, List.getElem_cons_succ, List.getElem_cons_zero, Act.put, List.setIfInBounds_toArray, List.set_cons_zero, List.set_cons_succ]
    refine wpAnyH_ready (rs := [3]) (by kernel_rfl) (by simp) ?_
    refine AllReadyH.cons (o := _) rfl (fun K hK => ?_) AllReadyH.nil
    try simp only [List.getElem_toArray, List.getElem_cons_succ, List.getElem_cons_zero, Act.put, List.setIfInBounds_toArray, List.set_cons_zero, List.set_cons_succ]
    rw [if_pos (by rfl)]
    refine wp_store_blk 30 (.tmp 6) (.tmp 86) rfl g6 0 30 #[.int .i64 0, .int .i64 0, .int .i64 0] #[.int .i64 i1, .int .i64 i2, .int .i64 i3] #[.int .i64 i1, .int .i64 i2, .int .i64 i3] rfl rfl (show Blk w5.drew g6 _ _ from Hr5.out.b6) (by show 0 + 3 ≤ 3; omega) rfl (by kernel_rfl) rfl ?_
    intro w9 hk9 hB9
    have hkc : Keeps [g6] w5 w9 := (Keeps.refl [g6] w5).drew.trans hk9 (by simp)
    have HK9 := Lib.hid hkc; have HB9 := Lib.hid hB9
    clear hk9 hB9 hkc
    refine hK.out _ _ (HSF.out _ HK9.out) (fun hHeld2 => ?_)
    clear hK K hHeld
    have hHeld := hHeld2
    clear hHeld2
    try simp only [List.getElem_toArray, List.getElem_cons_succ, List.getElem_cons_zero, Act.put, List.setIfInBounds_toArray, List.set_cons_zero, List.set_cons_succ]
    refine wpAnyH_take (i := 4) (oi := _) (v := ?v4u45) rfl (by kernel_rfl) (by kernel_rfl) (by kernel_rfl) (fun _ _ _ h => h) (Or.inl ⟨by rfl, ?y4u45⟩) (by assumption) ?r4u45
    case y4u45 => (intro w hSw; (obtain ⟨hS0, hS1, hS2, hS3⟩ := hSw); go_simp <;> with_reducible rfl)
    try simp only [List.getElem_toArray, List.getElem_cons_succ, List.getElem_cons_zero, Act.put, List.setIfInBounds_toArray, List.set_cons_zero, List.set_cons_succ]
    refine wpAnyH_done (by kernel_rfl) ?_ _
    clear hHeld
    iterate 4 go_step
    refine bodyPost_ret (results_cell2 rfl _ _ g6 30 #[.int .i64 i1, .int .i64 i2, .int .i64 i3] _ rfl HB9.out Tryz.underlying30 rfl (by kernel_rfl)) rfl ?_
    exact HPF.out _ HK9.out
   ·have HRv1 : Hid (agRecv A fr ⟨kd, ⟨kind, ag, sh, seq, ep, ds, ser, efr, etag⟩, tag, code, nn, term, had, log, commit, len⟩ = (some (kk, qq), code, if code = 1 ∨ code = 2 ∨ code = 3 then agDone { A with asked := A.asked.filter (fun p => p.1 != tag), last := fr } kk.toNat qq else { A with asked := A.asked.filter (fun p => p.1 != tag), last := fr })) := by
     have h9 := HRv.out
     simp only [Option.getD_some] at h9
     rw [if_neg Hc6.out] at h9
     exact h9
    clear HRv
    by_cases h123 : code = 1 ∨ code = 2 ∨ code = 3
    ·have HRv : Hid (agRecv A fr ⟨kd, ⟨kind, ag, sh, seq, ep, ds, ser, efr, etag⟩, tag, code, nn, term, had, log, commit, len⟩ = (some (kk, qq), code, agDone { A with asked := A.asked.filter (fun p => p.1 != tag), last := fr } kk.toNat qq)) := by show _ = _; rw [HRv1.out, if_pos h123]
     have hdone : Hid (Calls Tryz.prog 69 #[.pointer (some ⟨a, 0, none⟩), .agg #[.int .i64 i1, .int .i64 i2, .int .i64 i3]] w5 fun e w' => AaPost M1 tg1 a d (agDone { A with asked := A.asked.filter (fun p => p.1 != tag), last := fr } kk.toNat qq) (.tuple #[]) w5 e w') := by
      have hb := HAsk.out _ rfl
      obtain ⟨hi1, hi2, hi3⟩ := agg3_inj (show Value.agg #[.int .i64 A.node, .int .i64 kk, .int .i64 qq] = .agg #[.int .i64 i1, .int .i64 i2, .int .i64 i3] from Hid3.out)
      have hd := agdone_any Hr5.out.ag Hr5.out.x.lt kk.toNat (by omega) qq hb.2.2
      rw [show ((kk.toNat : Nat) : Int) = kk by omega] at hd
      rw [← hi1, ← hi2, ← hi3]
      exact hd
     clear HRv1
     rcases h123 with h | h | h
     ·have b1 : (code == 1) = true := by simp [h]
      clear h
      have z0 := Hr5.out.b8.cell 0; have z1 := Hr5.out.b8.cell 1; have z2 := Hr5.out.b8.cell 2
      simp only [List.getElem?_toArray, List.getElem?_cons_succ, List.getElem?_cons_zero] at z0 z1 z2
      go_wp2_with fail
      refine hdone.out.mono ?_
      rintro e w8 ⟨rfl, M8, tg8, v1, v2, v3⟩
      have Hr8 := Lib.hid (Hr5.out.step v2 v3 v1)
      clear v1 v2 v3 hdone Hr5 z0 z1 z2
      have HSF : Hid (∀ V, Keeps [g6] w8 V → V.cell? ⟨g8, 0, none⟩ = some (.int .i64 i1) ∧ V.cell? ⟨g8, 1, none⟩ = some (.int .i64 i2) ∧ V.cell? ⟨g8, 2, none⟩ = some (.int .i64 i3) ∧ V.cell? ⟨g5, 11, none⟩ = some (.int .i64 code)) := fun V hk => by
       have h1 := hk.blk Hr8.out.b8 (by simpa using H86.out)
       have h2 := hk.blk Hr8.out.b5 (by simpa using H56.out)
       exact ⟨h1.cell 0, h1.cell 1, h1.cell 2, h2.cell 11⟩
      have HPF : Hid (∀ V, Keeps [g6] w8 V → RcPost M tg a d A.node (agRecv A fr ⟨kd, ⟨kind, ag, sh, seq, ep, ds, ser, efr, etag⟩, tag, code, nn, term, had, log, commit, len⟩) w (.returned (.tuple #[.agg #[.int .i64 i1, .int .i64 i2, .int .i64 i3], .int .i64 code])) V) := fun V hk => by
       obtain ⟨M9, tg9, r1, r2, r3⟩ := Hr8.out.fin hk
       rw [HRv.out]
       exact ⟨by rw [← Hid3.out], M9, tg9, r1, r2, r3⟩
      go_upto_region 20 with (fail)
      refine wp_region_held_drew (S := (fun W => W.cell? ⟨g8, 0, none⟩ = some (.int .i64 i1) ∧ W.cell? ⟨g8, 1, none⟩ = some (.int .i64 i2) ∧ W.cell? ⟨g8, 2, none⟩ = some (.int .i64 i3) ∧ W.cell? ⟨g5, 11, none⟩ = some (.int .i64 code))) (by kernel_rfl) (HSF.out _ (Keeps.refl _ _).drew) (fun hHeld => ?_)
      refine wpAnyH_take (i := 0) (oi := _) (v := ?v0u46) rfl (by kernel_rfl) (by kernel_rfl) (by kernel_rfl) (fun _ _ _ h => h) (Or.inl ⟨by rfl, ?y0u46⟩) (by assumption) ?r0u46
      case y0u46 => (intro w hSw; (obtain ⟨hS0, hS1, hS2, hS3⟩ := hSw); go_simp <;> with_reducible rfl)
      try simp only [List.getElem_toArray, List.getElem_cons_succ, List.getElem_cons_zero, Act.put, List.setIfInBounds_toArray, List.set_cons_zero, List.set_cons_succ]
      refine wpAnyH_take (i := 1) (oi := _) (v := ?v1u47) rfl (by kernel_rfl) (by kernel_rfl) (by kernel_rfl) (fun _ _ _ h => h) (Or.inl ⟨by rfl, ?y1u47⟩) (by assumption) ?r1u47
      case y1u47 => (intro w hSw; (obtain ⟨hS0, hS1, hS2, hS3⟩ := hSw); go_simp <;> with_reducible rfl)
      try simp only [List.getElem_toArray, List.getElem_cons_succ, List.getElem_cons_zero, Act.put, List.setIfInBounds_toArray, List.set_cons_zero, List.set_cons_succ]
      refine wpAnyH_take (i := 2) (oi := _) (v := ?v2u48) rfl (by kernel_rfl) (by kernel_rfl) (by kernel_rfl) (fun _ _ _ h => h) (Or.inl ⟨by rfl, ?y2u48⟩) (by assumption) ?r2u48
      case y2u48 => (intro w hSw; (obtain ⟨hS0, hS1, hS2, hS3⟩ := hSw); go_simp <;> with_reducible rfl)
      try simp only [List.getElem_toArray, List.getElem_cons_succ, List.getElem_cons_zero, Act.put, List.setIfInBounds_toArray, List.set_cons_zero, List.set_cons_succ]
      refine wpAnyH_ready (rs := [3]) (by kernel_rfl) (by simp) ?_
      refine AllReadyH.cons (o := _) rfl (fun K hK => ?_) AllReadyH.nil
      try simp only [List.getElem_toArray, List.getElem_cons_succ, List.getElem_cons_zero, Act.put, List.setIfInBounds_toArray, List.set_cons_zero, List.set_cons_succ]
      rw [if_pos (by rfl)]
      refine wp_store_blk 30 (.tmp 6) (.tmp 117) rfl g6 0 30 #[.int .i64 0, .int .i64 0, .int .i64 0] #[.int .i64 i1, .int .i64 i2, .int .i64 i3] #[.int .i64 i1, .int .i64 i2, .int .i64 i3] rfl rfl (show Blk w8.drew g6 _ _ from Hr8.out.b6) (by show 0 + 3 ≤ 3; omega) rfl (by kernel_rfl) rfl ?_
      intro w9 hk9 hB9
      have hkc : Keeps [g6] w8 w9 := (Keeps.refl [g6] w8).drew.trans hk9 (by simp)
      have HK9 := Lib.hid hkc; have HB9 := Lib.hid hB9
      clear hk9 hB9 hkc
      refine hK.out _ _ (HSF.out _ HK9.out) (fun hHeld2 => ?_)
      clear hK K hHeld
      have hHeld := hHeld2
      clear hHeld2
      try simp only [List.getElem_toArray, List.getElem_cons_succ, List.getElem_cons_zero, Act.put, List.setIfInBounds_toArray, List.set_cons_zero, List.set_cons_succ]
      refine wpAnyH_take (i := 4) (oi := _) (v := ?v4u49) rfl (by kernel_rfl) (by kernel_rfl) (by kernel_rfl) (fun _ _ _ h => h) (Or.inl ⟨by rfl, ?y4u49⟩) (by assumption) ?r4u49
      case y4u49 => (intro w hSw; (obtain ⟨hS0, hS1, hS2, hS3⟩ := hSw); go_simp <;> with_reducible rfl)
      try simp only [List.getElem_toArray, List.getElem_cons_succ, List.getElem_cons_zero, Act.put, List.setIfInBounds_toArray, List.set_cons_zero, List.set_cons_succ]
      refine wpAnyH_done (by kernel_rfl) ?_ _
      clear hHeld
      iterate 3 go_step
      refine bodyPost_ret (results_cell2 rfl _ _ g6 30 #[.int .i64 i1, .int .i64 i2, .int .i64 i3] _ rfl HB9.out Tryz.underlying30 rfl (by kernel_rfl)) rfl ?_
      exact HPF.out _ HK9.out
     ·have b1 : (code == 1) = false := by simp [h]
      have b2 : (code == 2) = true := by simp [h]
      clear h
      have z0 := Hr5.out.b8.cell 0; have z1 := Hr5.out.b8.cell 1; have z2 := Hr5.out.b8.cell 2
      simp only [List.getElem?_toArray, List.getElem?_cons_succ, List.getElem?_cons_zero] at z0 z1 z2
      go_wp2_with fail
      refine hdone.out.mono ?_
      rintro e w8 ⟨rfl, M8, tg8, v1, v2, v3⟩
      have Hr8 := Lib.hid (Hr5.out.step v2 v3 v1)
      clear v1 v2 v3 hdone Hr5 z0 z1 z2
      have HSF : Hid (∀ V, Keeps [g6] w8 V → V.cell? ⟨g8, 0, none⟩ = some (.int .i64 i1) ∧ V.cell? ⟨g8, 1, none⟩ = some (.int .i64 i2) ∧ V.cell? ⟨g8, 2, none⟩ = some (.int .i64 i3) ∧ V.cell? ⟨g5, 11, none⟩ = some (.int .i64 code)) := fun V hk => by
       have h1 := hk.blk Hr8.out.b8 (by simpa using H86.out)
       have h2 := hk.blk Hr8.out.b5 (by simpa using H56.out)
       exact ⟨h1.cell 0, h1.cell 1, h1.cell 2, h2.cell 11⟩
      have HPF : Hid (∀ V, Keeps [g6] w8 V → RcPost M tg a d A.node (agRecv A fr ⟨kd, ⟨kind, ag, sh, seq, ep, ds, ser, efr, etag⟩, tag, code, nn, term, had, log, commit, len⟩) w (.returned (.tuple #[.agg #[.int .i64 i1, .int .i64 i2, .int .i64 i3], .int .i64 code])) V) := fun V hk => by
       obtain ⟨M9, tg9, r1, r2, r3⟩ := Hr8.out.fin hk
       rw [HRv.out]
       exact ⟨by rw [← Hid3.out], M9, tg9, r1, r2, r3⟩
      go_upto_region 20 with (fail)
      refine wp_region_held_drew (S := (fun W => W.cell? ⟨g8, 0, none⟩ = some (.int .i64 i1) ∧ W.cell? ⟨g8, 1, none⟩ = some (.int .i64 i2) ∧ W.cell? ⟨g8, 2, none⟩ = some (.int .i64 i3) ∧ W.cell? ⟨g5, 11, none⟩ = some (.int .i64 code))) (by kernel_rfl) (HSF.out _ (Keeps.refl _ _).drew) (fun hHeld => ?_)
      refine wpAnyH_take (i := 0) (oi := _) (v := ?v0u50) rfl (by kernel_rfl) (by kernel_rfl) (by kernel_rfl) (fun _ _ _ h => h) (Or.inl ⟨by rfl, ?y0u50⟩) (by assumption) ?r0u50
      case y0u50 => (intro w hSw; (obtain ⟨hS0, hS1, hS2, hS3⟩ := hSw); go_simp <;> with_reducible rfl)
      try simp only [List.getElem_toArray, List.getElem_cons_succ, List.getElem_cons_zero, Act.put, List.setIfInBounds_toArray, List.set_cons_zero, List.set_cons_succ]
      refine wpAnyH_take (i := 1) (oi := _) (v := ?v1u51) rfl (by kernel_rfl) (by kernel_rfl) (by kernel_rfl) (fun _ _ _ h => h) (Or.inl ⟨by rfl, ?y1u51⟩) (by assumption) ?r1u51
      case y1u51 => (intro w hSw; (obtain ⟨hS0, hS1, hS2, hS3⟩ := hSw); go_simp <;> with_reducible rfl)
      try simp only [List.getElem_toArray, List.getElem_cons_succ, List.getElem_cons_zero, Act.put, List.setIfInBounds_toArray, List.set_cons_zero, List.set_cons_succ]
      refine wpAnyH_take (i := 2) (oi := _) (v := ?v2u52) rfl (by kernel_rfl) (by kernel_rfl) (by kernel_rfl) (fun _ _ _ h => h) (Or.inl ⟨by rfl, ?y2u52⟩) (by assumption) ?r2u52
      case y2u52 => (intro w hSw; (obtain ⟨hS0, hS1, hS2, hS3⟩ := hSw); go_simp <;> with_reducible rfl)
      try simp only [List.getElem_toArray, List.getElem_cons_succ, List.getElem_cons_zero, Act.put, List.setIfInBounds_toArray, List.set_cons_zero, List.set_cons_succ]
      refine wpAnyH_ready (rs := [3]) (by kernel_rfl) (by simp) ?_
      refine AllReadyH.cons (o := _) rfl (fun K hK => ?_) AllReadyH.nil
      try simp only [List.getElem_toArray, List.getElem_cons_succ, List.getElem_cons_zero, Act.put, List.setIfInBounds_toArray, List.set_cons_zero, List.set_cons_succ]
      rw [if_pos (by rfl)]
      refine wp_store_blk 30 (.tmp 6) (.tmp 117) rfl g6 0 30 #[.int .i64 0, .int .i64 0, .int .i64 0] #[.int .i64 i1, .int .i64 i2, .int .i64 i3] #[.int .i64 i1, .int .i64 i2, .int .i64 i3] rfl rfl (show Blk w8.drew g6 _ _ from Hr8.out.b6) (by show 0 + 3 ≤ 3; omega) rfl (by kernel_rfl) rfl ?_
      intro w9 hk9 hB9
      have hkc : Keeps [g6] w8 w9 := (Keeps.refl [g6] w8).drew.trans hk9 (by simp)
      have HK9 := Lib.hid hkc; have HB9 := Lib.hid hB9
      clear hk9 hB9 hkc
      refine hK.out _ _ (HSF.out _ HK9.out) (fun hHeld2 => ?_)
      clear hK K hHeld
      have hHeld := hHeld2
      clear hHeld2
      try simp only [List.getElem_toArray, List.getElem_cons_succ, List.getElem_cons_zero, Act.put, List.setIfInBounds_toArray, List.set_cons_zero, List.set_cons_succ]
      refine wpAnyH_take (i := 4) (oi := _) (v := ?v4u53) rfl (by kernel_rfl) (by kernel_rfl) (by kernel_rfl) (fun _ _ _ h => h) (Or.inl ⟨by rfl, ?y4u53⟩) (by assumption) ?r4u53
      case y4u53 => (intro w hSw; (obtain ⟨hS0, hS1, hS2, hS3⟩ := hSw); go_simp <;> with_reducible rfl)
      try simp only [List.getElem_toArray, List.getElem_cons_succ, List.getElem_cons_zero, Act.put, List.setIfInBounds_toArray, List.set_cons_zero, List.set_cons_succ]
      refine wpAnyH_done (by kernel_rfl) ?_ _
      clear hHeld
      iterate 3 go_step
      refine bodyPost_ret (results_cell2 rfl _ _ g6 30 #[.int .i64 i1, .int .i64 i2, .int .i64 i3] _ rfl HB9.out Tryz.underlying30 rfl (by kernel_rfl)) rfl ?_
      exact HPF.out _ HK9.out
     ·have b1 : (code == 1) = false := by simp [h]
      have b2 : (code == 2) = false := by simp [h]
      have b3 : (code == 3) = true := by simp [h]
      clear h
      have z0 := Hr5.out.b8.cell 0; have z1 := Hr5.out.b8.cell 1; have z2 := Hr5.out.b8.cell 2
      simp only [List.getElem?_toArray, List.getElem?_cons_succ, List.getElem?_cons_zero] at z0 z1 z2
      go_wp2_with fail
      refine hdone.out.mono ?_
      rintro e w8 ⟨rfl, M8, tg8, v1, v2, v3⟩
      have Hr8 := Lib.hid (Hr5.out.step v2 v3 v1)
      clear v1 v2 v3 hdone Hr5 z0 z1 z2
      have HSF : Hid (∀ V, Keeps [g6] w8 V → V.cell? ⟨g8, 0, none⟩ = some (.int .i64 i1) ∧ V.cell? ⟨g8, 1, none⟩ = some (.int .i64 i2) ∧ V.cell? ⟨g8, 2, none⟩ = some (.int .i64 i3) ∧ V.cell? ⟨g5, 11, none⟩ = some (.int .i64 code)) := fun V hk => by
       have h1 := hk.blk Hr8.out.b8 (by simpa using H86.out)
       have h2 := hk.blk Hr8.out.b5 (by simpa using H56.out)
       exact ⟨h1.cell 0, h1.cell 1, h1.cell 2, h2.cell 11⟩
      have HPF : Hid (∀ V, Keeps [g6] w8 V → RcPost M tg a d A.node (agRecv A fr ⟨kd, ⟨kind, ag, sh, seq, ep, ds, ser, efr, etag⟩, tag, code, nn, term, had, log, commit, len⟩) w (.returned (.tuple #[.agg #[.int .i64 i1, .int .i64 i2, .int .i64 i3], .int .i64 code])) V) := fun V hk => by
       obtain ⟨M9, tg9, r1, r2, r3⟩ := Hr8.out.fin hk
       rw [HRv.out]
       exact ⟨by rw [← Hid3.out], M9, tg9, r1, r2, r3⟩
      go_upto_region 20 with (fail)
      refine wp_region_held_drew (S := (fun W => W.cell? ⟨g8, 0, none⟩ = some (.int .i64 i1) ∧ W.cell? ⟨g8, 1, none⟩ = some (.int .i64 i2) ∧ W.cell? ⟨g8, 2, none⟩ = some (.int .i64 i3) ∧ W.cell? ⟨g5, 11, none⟩ = some (.int .i64 code))) (by kernel_rfl) (HSF.out _ (Keeps.refl _ _).drew) (fun hHeld => ?_)
      refine wpAnyH_take (i := 0) (oi := _) (v := ?v0u54) rfl (by kernel_rfl) (by kernel_rfl) (by kernel_rfl) (fun _ _ _ h => h) (Or.inl ⟨by rfl, ?y0u54⟩) (by assumption) ?r0u54
      case y0u54 => (intro w hSw; (obtain ⟨hS0, hS1, hS2, hS3⟩ := hSw); go_simp <;> with_reducible rfl)
      try simp only [List.getElem_toArray, List.getElem_cons_succ, List.getElem_cons_zero, Act.put, List.setIfInBounds_toArray, List.set_cons_zero, List.set_cons_succ]
      refine wpAnyH_take (i := 1) (oi := _) (v := ?v1u55) rfl (by kernel_rfl) (by kernel_rfl) (by kernel_rfl) (fun _ _ _ h => h) (Or.inl ⟨by rfl, ?y1u55⟩) (by assumption) ?r1u55
      case y1u55 => (intro w hSw; (obtain ⟨hS0, hS1, hS2, hS3⟩ := hSw); go_simp <;> with_reducible rfl)
      try simp only [List.getElem_toArray, List.getElem_cons_succ, List.getElem_cons_zero, Act.put, List.setIfInBounds_toArray, List.set_cons_zero, List.set_cons_succ]
      refine wpAnyH_take (i := 2) (oi := _) (v := ?v2u56) rfl (by kernel_rfl) (by kernel_rfl) (by kernel_rfl) (fun _ _ _ h => h) (Or.inl ⟨by rfl, ?y2u56⟩) (by assumption) ?r2u56
      case y2u56 => (intro w hSw; (obtain ⟨hS0, hS1, hS2, hS3⟩ := hSw); go_simp <;> with_reducible rfl)
      try simp only [List.getElem_toArray, List.getElem_cons_succ, List.getElem_cons_zero, Act.put, List.setIfInBounds_toArray, List.set_cons_zero, List.set_cons_succ]
      refine wpAnyH_ready (rs := [3]) (by kernel_rfl) (by simp) ?_
      refine AllReadyH.cons (o := _) rfl (fun K hK => ?_) AllReadyH.nil
      try simp only [List.getElem_toArray, List.getElem_cons_succ, List.getElem_cons_zero, Act.put, List.setIfInBounds_toArray, List.set_cons_zero, List.set_cons_succ]
      rw [if_pos (by rfl)]
      refine wp_store_blk 30 (.tmp 6) (.tmp 117) rfl g6 0 30 #[.int .i64 0, .int .i64 0, .int .i64 0] #[.int .i64 i1, .int .i64 i2, .int .i64 i3] #[.int .i64 i1, .int .i64 i2, .int .i64 i3] rfl rfl (show Blk w8.drew g6 _ _ from Hr8.out.b6) (by show 0 + 3 ≤ 3; omega) rfl (by kernel_rfl) rfl ?_
      intro w9 hk9 hB9
      have hkc : Keeps [g6] w8 w9 := (Keeps.refl [g6] w8).drew.trans hk9 (by simp)
      have HK9 := Lib.hid hkc; have HB9 := Lib.hid hB9
      clear hk9 hB9 hkc
      refine hK.out _ _ (HSF.out _ HK9.out) (fun hHeld2 => ?_)
      clear hK K hHeld
      have hHeld := hHeld2
      clear hHeld2
      try simp only [List.getElem_toArray, List.getElem_cons_succ, List.getElem_cons_zero, Act.put, List.setIfInBounds_toArray, List.set_cons_zero, List.set_cons_succ]
      refine wpAnyH_take (i := 4) (oi := _) (v := ?v4u57) rfl (by kernel_rfl) (by kernel_rfl) (by kernel_rfl) (fun _ _ _ h => h) (Or.inl ⟨by rfl, ?y4u57⟩) (by assumption) ?r4u57
      case y4u57 => (intro w hSw; (obtain ⟨hS0, hS1, hS2, hS3⟩ := hSw); go_simp <;> with_reducible rfl)
      try simp only [List.getElem_toArray, List.getElem_cons_succ, List.getElem_cons_zero, Act.put, List.setIfInBounds_toArray, List.set_cons_zero, List.set_cons_succ]
      refine wpAnyH_done (by kernel_rfl) ?_ _
      clear hHeld
      iterate 3 go_step
      refine bodyPost_ret (results_cell2 rfl _ _ g6 30 #[.int .i64 i1, .int .i64 i2, .int .i64 i3] _ rfl HB9.out Tryz.underlying30 rfl (by kernel_rfl)) rfl ?_
      exact HPF.out _ HK9.out
    ·have HRv : Hid (agRecv A fr ⟨kd, ⟨kind, ag, sh, seq, ep, ds, ser, efr, etag⟩, tag, code, nn, term, had, log, commit, len⟩ = (some (kk, qq), code, { A with asked := A.asked.filter (fun p => p.1 != tag), last := fr })) := by show _ = _; rw [HRv1.out, if_neg h123]
     have b1 : (code == 1) = false := by rw [beq_eq_false_iff_ne]; exact fun h => h123 (.inl h)
     have b2 : (code == 2) = false := by rw [beq_eq_false_iff_ne]; exact fun h => h123 (.inr (.inl h))
     have b3 : (code == 3) = false := by rw [beq_eq_false_iff_ne]; exact fun h => h123 (.inr (.inr h))
     clear h123 HRv1
     have HSF : Hid (∀ V, Keeps [g6] w5 V → V.cell? ⟨g8, 0, none⟩ = some (.int .i64 i1) ∧ V.cell? ⟨g8, 1, none⟩ = some (.int .i64 i2) ∧ V.cell? ⟨g8, 2, none⟩ = some (.int .i64 i3) ∧ V.cell? ⟨g5, 11, none⟩ = some (.int .i64 code)) := fun V hk => by
      have h1 := hk.blk Hr5.out.b8 (by simpa using H86.out)
      have h2 := hk.blk Hr5.out.b5 (by simpa using H56.out)
      exact ⟨h1.cell 0, h1.cell 1, h1.cell 2, h2.cell 11⟩
     have HPF : Hid (∀ V, Keeps [g6] w5 V → RcPost M tg a d A.node (agRecv A fr ⟨kd, ⟨kind, ag, sh, seq, ep, ds, ser, efr, etag⟩, tag, code, nn, term, had, log, commit, len⟩) w (.returned (.tuple #[.agg #[.int .i64 i1, .int .i64 i2, .int .i64 i3], .int .i64 code])) V) := fun V hk => by
      obtain ⟨M9, tg9, r1, r2, r3⟩ := Hr5.out.fin hk
      rw [HRv.out]
      exact ⟨by rw [← Hid3.out], M9, tg9, r1, r2, r3⟩
     go_upto_region 20 with (fail)
     refine wp_region_held_drew (S := (fun W => W.cell? ⟨g8, 0, none⟩ = some (.int .i64 i1) ∧ W.cell? ⟨g8, 1, none⟩ = some (.int .i64 i2) ∧ W.cell? ⟨g8, 2, none⟩ = some (.int .i64 i3) ∧ W.cell? ⟨g5, 11, none⟩ = some (.int .i64 code))) (by kernel_rfl) (HSF.out _ (Keeps.refl _ _).drew) (fun hHeld => ?_)
     refine wpAnyH_take (i := 0) (oi := _) (v := ?v0u58) rfl (by kernel_rfl) (by kernel_rfl) (by kernel_rfl) (fun _ _ _ h => h) (Or.inl ⟨by rfl, ?y0u58⟩) (by assumption) ?r0u58
     case y0u58 => (intro w hSw; (obtain ⟨hS0, hS1, hS2, hS3⟩ := hSw); go_simp <;> with_reducible rfl)
     try simp only [List.getElem_toArray, List.getElem_cons_succ, List.getElem_cons_zero, Act.put, List.setIfInBounds_toArray, List.set_cons_zero, List.set_cons_succ]
     refine wpAnyH_take (i := 1) (oi := _) (v := ?v1u59) rfl (by kernel_rfl) (by kernel_rfl) (by kernel_rfl) (fun _ _ _ h => h) (Or.inl ⟨by rfl, ?y1u59⟩) (by assumption) ?r1u59
     case y1u59 => (intro w hSw; (obtain ⟨hS0, hS1, hS2, hS3⟩ := hSw); go_simp <;> with_reducible rfl)
     try simp only [List.getElem_toArray, List.getElem_cons_succ, List.getElem_cons_zero, Act.put, List.setIfInBounds_toArray, List.set_cons_zero, List.set_cons_succ]
     refine wpAnyH_take (i := 2) (oi := _) (v := ?v2u60) rfl (by kernel_rfl) (by kernel_rfl) (by kernel_rfl) (fun _ _ _ h => h) (Or.inl ⟨by rfl, ?y2u60⟩) (by assumption) ?r2u60
     case y2u60 => (intro w hSw; (obtain ⟨hS0, hS1, hS2, hS3⟩ := hSw); go_simp <;> with_reducible rfl)
     try simp only [List.getElem_toArray, List.getElem_cons_succ, List.getElem_cons_zero, Act.put, List.setIfInBounds_toArray, List.set_cons_zero, List.set_cons_succ]
     refine wpAnyH_ready (rs := [3]) (by kernel_rfl) (by simp) ?_
     refine AllReadyH.cons (o := _) rfl (fun K hK => ?_) AllReadyH.nil
     try simp only [List.getElem_toArray, List.getElem_cons_succ, List.getElem_cons_zero, Act.put, List.setIfInBounds_toArray, List.set_cons_zero, List.set_cons_succ]
     rw [if_pos (by rfl)]
     refine wp_store_blk 30 (.tmp 6) (.tmp 117) rfl g6 0 30 #[.int .i64 0, .int .i64 0, .int .i64 0] #[.int .i64 i1, .int .i64 i2, .int .i64 i3] #[.int .i64 i1, .int .i64 i2, .int .i64 i3] rfl rfl (show Blk w5.drew g6 _ _ from Hr5.out.b6) (by show 0 + 3 ≤ 3; omega) rfl (by kernel_rfl) rfl ?_
     intro w9 hk9 hB9
     have hkc : Keeps [g6] w5 w9 := (Keeps.refl [g6] w5).drew.trans hk9 (by simp)
     have HK9 := Lib.hid hkc; have HB9 := Lib.hid hB9
     clear hk9 hB9 hkc
     refine hK.out _ _ (HSF.out _ HK9.out) (fun hHeld2 => ?_)
     clear hK K hHeld
     have hHeld := hHeld2
     clear hHeld2
     try simp only [List.getElem_toArray, List.getElem_cons_succ, List.getElem_cons_zero, Act.put, List.setIfInBounds_toArray, List.set_cons_zero, List.set_cons_succ]
     refine wpAnyH_take (i := 4) (oi := _) (v := ?v4u61) rfl (by kernel_rfl) (by kernel_rfl) (by kernel_rfl) (fun _ _ _ h => h) (Or.inl ⟨by rfl, ?y4u61⟩) (by assumption) ?r4u61
     case y4u61 => (intro w hSw; (obtain ⟨hS0, hS1, hS2, hS3⟩ := hSw); go_simp <;> with_reducible rfl)
     try simp only [List.getElem_toArray, List.getElem_cons_succ, List.getElem_cons_zero, Act.put, List.setIfInBounds_toArray, List.set_cons_zero, List.set_cons_succ]
     refine wpAnyH_done (by kernel_rfl) ?_ _
     clear hHeld
     iterate 3 go_step
     refine bodyPost_ret (results_cell2 rfl _ _ g6 30 #[.int .i64 i1, .int .i64 i2, .int .i64 i3] _ rfl HB9.out Tryz.underlying30 rfl (by kernel_rfl)) rfl ?_
     exact HPF.out _ HK9.out
end
end Go.Proofs.YtgdooockldgdlaaGreatDoor.Vi
end
