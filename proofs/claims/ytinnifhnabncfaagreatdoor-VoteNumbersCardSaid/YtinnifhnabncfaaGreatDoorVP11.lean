/- Texts put together: RSame, RLogs, RvE, RvF, TNum0, TNum, Asks. -/
import Derived.Deep.RegionWith
import Derived.Test.YtinnifhnabncfaaGreatDoorVP1
import Derived.Test.YtinnifhnabncfaaGreatDoorVP5
import Derived.Test.YtinnifhnabncfaaGreatDoorVP6
import Derived.Test.YtinnifhnabncfaaGreatDoorVP10
set_option linter.unusedVariables false
set_option linter.unusedSimpArgs false
section
namespace Go.Proofs.YtinnifhnabncfaaGreatDoor.Vi
open Go.RowKit Base Mem
set_option maxRecDepth 100000 in
theorem rsameDs_eq (va vb : Value) (ds : List DeltaD) (w : World) (ha : Ds w [] va ds) (hb : Ds w [] vb ds) (hl : ds.length ≤ 1048576) :
  Calls Tryz.prog 25 #[va, vb] w fun e w' => e = .returned (.bool true) ∧ ∃ n, w' = w.drewN n := by
 have Ha := Lib.hid ha; have Hb := Lib.hid hb
 obtain ⟨Aa, ca, rfl, hca⟩ := ha.len
 obtain ⟨Ab, cb, rfl, hcb⟩ := hb.len
 clear ha hb
 go_enter Tryz.func25, Tryz.ntmps25
 go_wp2_with fail
 go_slots
 go_loopw [13] (fun i wr => ∃ (x q : Nat), i = .int .i64 x ∧ x ≤ ds.length ∧ wr = w.drewN q) (fun i _ => ds.length - (intOf i).toNat)
 case atStart => exact ⟨0, 0, rfl, by omega, rfl⟩
 case round =>
  obtain ⟨x, q, rfl, hx, rfl⟩ := hrel
  by_cases hlt : x < ds.length
  ·obtain ⟨ga, oa, _, e1, _, hga, _, h1⟩ := Rd.at_ dCell 2 (fun _ => rfl) Ha.out hlt
   obtain ⟨gb, ob, _, e2, _, hgb, _, h2⟩ := Rd.at_ dCell 2 (fun _ => rfl) Hb.out hlt
   obtain rfl : Aa = some ⟨ga, oa, none⟩ := by injection e1
   obtain rfl : Ab = some ⟨gb, ob, none⟩ := by injection e2
   clear e1 e2
   have c1 : w.cell? ⟨ga, oa + x * 2 + 0, none⟩ = some (.string ds[x].ser) := h1 0 _ rfl
   have c2 : w.cell? ⟨ga, oa + x * 2 + 1, none⟩ = some (.int .u64 ds[x].n) := h1 1 _ rfl
   have c3 : w.cell? ⟨gb, ob + x * 2 + 0, none⟩ = some (.string ds[x].ser) := h2 0 _ rfl
   have c4 : w.cell? ⟨gb, ob + x * 2 + 1, none⟩ = some (.int .u64 ds[x].n) := h2 1 _ rfl
   rw [Nat.add_zero] at c1 c3
   generalize ds[x].ser = sx at *
   generalize ds[x].n = nx at *
   clear h1 h2
   have hx1 : (x : Int) < (ds.length : Int) := by omega
   go_wp2
   go_quiet (fail)
   go_wp2
   go_roundw
   case rel => exact ⟨x + 1, _, by go_num, by omega, rfl⟩
   case measure => simp [intOf] <;> omega
  ·obtain rfl : x = ds.length := by omega
   go_wp2
   go_ret
   exact ⟨rfl, q, rfl⟩
def eVal (e : EntryD) (v : Value) : Value := .agg #[.int .i64 e.kind, .int .i64 e.ag, .int .i64 e.sh, .int .i64 e.seq, .int .i64 e.ep, v, .string e.ser, .int .i64 e.fr, .int .i64 e.tag]
set_option maxRecDepth 100000 in
theorem rsame_eq (va vb : Value) (e : EntryD) (w : World) (ha : Ds w [] va e.ds) (hb : Ds w [] vb e.ds) (hl : e.ds.length ≤ 1048576) :
  Calls Tryz.prog 24 #[eVal e va, eVal e vb] w fun r w' => r = .returned (.bool true) ∧ Below w.heap.size w w' := by
 have Ha := Lib.hid ha; have Hb := Lib.hid hb
 obtain ⟨Aa, ca, rfl, hca⟩ := ha.len
 obtain ⟨Ab, cb, rfl, hcb⟩ := hb.len
 obtain ⟨kind, ag, sh, seq, ep, ds, ser, fr, tag⟩ := e
 simp only [eVal]
 clear ha hb
 go_enter Tryz.func24, Tryz.ntmps24
 go_wp2_with fail
 have hk : Keeps [] w ((w.alloc (.cells #[.int .i64 kind, .int .i64 ag, .int .i64 sh, .int .i64 seq, .int .i64 ep, .slice Aa ds.length ca, .string ser, .int .i64 fr, .int .i64 tag] 26)).alloc (.cells #[.int .i64 kind, .int .i64 ag, .int .i64 sh, .int .i64 seq, .int .i64 ep, .slice Ab ds.length cb, .string ser, .int .i64 fr, .int .i64 tag] 26)) := ((Keeps.refl _ _).alloc _).alloc _
 refine (rsameDs_eq _ _ ds _ (Ha.out.keep hk (by simp)) (Hb.out.keep hk (by simp)) hl).mono ?_
 rintro e w1 ⟨rfl, n, rfl⟩
 have Hk := Lib.hid (hk.drewN n).below
 clear hk
 go_wp2
 go_ret
 exact ⟨rfl, Hk.out⟩
set_option maxRecDepth 100000 in
theorem rlogs_eq (va vb : Value) (l : List EntryD) (w : World) (ha : Ens w [] va l) (hb : Ens w [] vb l) (hsm : l.length ≤ 1048576 ∧ ∀ e ∈ l, e.ds.length ≤ 1048576) :
  Calls Tryz.prog 38 #[va, vb] w fun r w' => r = .returned (.bool true) ∧ Below w.heap.size w w' := by
 have Ha := Lib.hid ha; have Hb := Lib.hid hb; have Hsm := Lib.hid hsm
 obtain ⟨Aa, ca, rfl, hca⟩ := ha.len
 obtain ⟨Ab, cb, rfl, hcb⟩ := hb.len
 have hll : l.length ≤ 1048576 := hsm.1
 clear ha hb hsm
 go_enter Tryz.func38, Tryz.ntmps38
 go_wp2_with fail
 go_slots
 go_loopw [13] (fun i wr => ∃ (x : Nat), i = .int .i64 x ∧ x ≤ l.length ∧ Hid (Below w.heap.size w wr)) (fun i _ => l.length - (intOf i).toNat)
 case atStart => exact ⟨0, rfl, by omega, Below.refl _ _⟩
 case round =>
  obtain ⟨x, rfl, hx, Hbe⟩ := hrel
  by_cases hlt : x < l.length
  ·have ha2 := Ha.out.keep (Keeps.of_below (M := []) Hbe.out) (by simp)
   have hb2 := Hb.out.keep (Keeps.of_below (M := []) Hbe.out) (by simp)
   obtain ⟨ga, oa, _, da, e1, hga, _, hda, h1⟩ := ens_at ha2 hlt
   obtain ⟨gb, ob, _, db, e2, hgb, _, hdb, h2⟩ := ens_at hb2 hlt
   obtain rfl : Aa = some ⟨ga, oa, none⟩ := by injection e1
   obtain rfl : Ab = some ⟨gb, ob, none⟩ := by injection e2
   have hsame := Lib.hid (fun n => rsame_eq da db l[x] (wr.drewN n) (hda.keep (M' := []) ((Keeps.refl _ _).drewN n) (by simp)) (hdb.keep (M' := []) ((Keeps.refl _ _).drewN n) (by simp)) (Hsm.out.2 _ (List.getElem_mem _)))
   clear e1 e2 hda hdb ha2 hb2
   generalize l[x] = en at *
   obtain ⟨kind, ag, sh, seq, ep, ds, ser, fr, tag⟩ := en
   have a0 := h1 0 _ rfl; have a1 := h1 1 _ rfl; have a2 := h1 2 _ rfl; have a3 := h1 3 _ rfl; have a4 := h1 4 _ rfl; have a5 := h1 5 _ rfl; have a6 := h1 6 _ rfl; have a7 := h1 7 _ rfl; have a8 := h1 8 _ rfl
   have b0 := h2 0 _ rfl; have b1 := h2 1 _ rfl; have b2 := h2 2 _ rfl; have b3 := h2 3 _ rfl; have b4 := h2 4 _ rfl; have b5 := h2 5 _ rfl; have b6 := h2 6 _ rfl; have b7 := h2 7 _ rfl; have b8 := h2 8 _ rfl
   rw [Nat.add_zero] at a0 b0
   simp only [] at a0 a1 a2 a3 a4 a5 a6 a7 a8 b0 b1 b2 b3 b4 b5 b6 b7 b8
   simp only [eVal] at hsame
   clear h1 h2
   have hx1 : (x : Int) < (l.length : Int) := by omega
   go_wp2
   go_region_with ((go_at_call 24; refine (hsame.out 1).mono ?_; rintro e w2 ⟨rfl, hb2⟩; have Hb2 := Lib.hid (below_then Hbe.out (show Below wr.heap.size wr w2 from ⟨hb2.os, hb2.tape, hb2.output, hb2.size, hb2.block⟩)); clear hb2))
   all_goals
    go_wp2
    go_roundw
    case rel => exact ⟨x + 1, by go_num, by omega, Hb2⟩
    case measure => simp [intOf] <;> omega
  ·obtain rfl : x = l.length := by omega
   go_wp2
   go_ret
   exact ⟨rfl, Hbe.out⟩
end Go.Proofs.YtinnifhnabncfaaGreatDoor.Vi
end
section
namespace Go.Proofs.YtinnifhnabncfaaGreatDoor.Vi
open Go.RowKit Base Mem Tape Go.Shelf
/-- A block whose cells are fewer than a row's and that holds no text holds no part of a row of entries. -/
theorem rd_avoid {w : World} {M : List Nat} {size n g : Nat} {v : Value} {xs : List Value} {t : TypeId} {cs : Array Value} (h : Rd w M size v n xs) (hb : Blk w g t cs) (hno : ∀ (off : Nat), (∀ (j : Nat) (u : Value), xs[j]? = some u → cs[off + j]? = some u) → 0 < n → False) : Rd w (g :: M) size v n xs := by
 obtain ⟨A, c, rfl, hc, hl, hx⟩ := h
 refine ⟨A, c, rfl, hc, hl, fun hn => ?_⟩
 obtain ⟨g0, off, rfl, hg, hm, hcell⟩ := hx hn
 refine ⟨g0, off, rfl, hg, fun hm2 => ?_, hcell⟩
 rcases List.mem_cons.1 hm2 with rfl | hm2
 ·exact hno off (fun j u hu => by rw [← hb.cell (off + j)]; exact hcell j u hu) hn
 ·exact hm hm2
theorem ds_avoid {w : World} {M : List Nat} {g : Nat} {dv : Value} {ds : List DeltaD} {t : TypeId} {cs : Array Value} (h : Ds w M dv ds) (hb : Blk w g t cs) (hs : ∀ (i : Nat) (b : ByteArray), cs[i]? ≠ some (Value.string b)) : Ds w (g :: M) dv ds := by
 refine rd_avoid h hb (fun off hc hn => ?_)
 cases ds with
 | nil => simp at hn
 | cons d ds => exact hs (off + 0) d.ser (hc 0 _ rfl)
theorem ens_avoid {w : World} {M : List Nat} {g : Nat} {v : Value} {l : List EntryD} {t : TypeId} {cs : Array Value} (h : Ens w M v l) (hb : Blk w g t cs) (hs : ∀ (i : Nat) (b : ByteArray), cs[i]? ≠ some (Value.string b)) : Ens w (g :: M) v l := by
 obtain ⟨ps, hl, hr, hd⟩ := h
 refine ⟨ps, hl, rd_avoid hr hb (fun off hc hn => ?_), fun p hp => ds_avoid (hd p hp) hb hs⟩
 cases ps with
 | nil => simp at hn
 | cons p ps => exact hs (off + 6) p.1.ser (hc 6 _ rfl)
theorem noStr2 {a b : Value} (ha : ∀ t, a ≠ .string t) (hb : ∀ t, b ≠ .string t) : ∀ (i : Nat) (t : ByteArray), (#[a, b] : Array Value)[i]? ≠ some (Value.string t) := by
 intro i t h
 match i, h with
 | 0, h => simp at h; exact ha _ h
 | 1, h => simp at h; exact hb _ h
 | i + 2, h => simp at h
theorem noStr4 {a b c d : Value} (ha : ∀ t, a ≠ .string t) (hb : ∀ t, b ≠ .string t) (hc : ∀ t, c ≠ .string t) (hd : ∀ t, d ≠ .string t) : ∀ (i : Nat) (t : ByteArray), (#[a, b, c, d] : Array Value)[i]? ≠ some (Value.string t) := by
 intro i t h
 match i, h with
 | 0, h => simp at h; exact ha _ h
 | 1, h => simp at h; exact hb _ h
 | 2, h => simp at h; exact hc _ h
 | 3, h => simp at h; exact hd _ h
 | i + 4, h => simp at h
/-- Our state stays where only the document's two blocks, or new ones, have changed. -/
theorem StAt.keepR {w w' : World} {s p d k n s' d' k' : Nat} {Y : List Nat} {x x' : WordD} {b b' : List UInt8} (h : StAt w s p Y x d b k n) (hr : RSt w (s :: p :: Y) s' d' x' b' k') (hk : Keeps [s', d'] w w') : StAt w' s p Y x d b k n := by
 obtain ⟨lv, hb, he, hl, hs, ho⟩ := h
 obtain ⟨lr, rb, re, rd, rs, _⟩ := hr
 obtain ⟨v', db, dr, dn, _⟩ := rd
 obtain ⟨Ar, cr, rfl, _⟩ := re.len
 obtain ⟨Av, cv, rfl, _⟩ := dr.len
 have n1 : ∀ g ∈ s :: p :: Y, g ∉ [s', d'] := fun g hg hm => by
  rcases List.mem_cons.1 hm with rfl | hm
  ·exact rs hg
  ·rcases List.mem_cons.1 hm with rfl | hm
   ·exact dn (List.mem_cons_of_mem _ hg)
   ·cases hm
 have e1 := ens_avoid he rb (noStr4 (by simp) (by simp) (by simp) (by simp))
 have e2 := ens_avoid e1 db (noStr2 (by simp) (by simp))
 exact ⟨lv, hk.blk hb (n1 s (by simp)), (e2.keep hk (fun g hg => .inl (by simp at hg; rcases hg with rfl | rfl <;> simp))).avoid (fun g hg => .inl (by simp at hg ⊢; exact .inr (.inr hg))), hl.keep hk (fun g hg => n1 g (List.mem_cons_of_mem _ hg)), hs, ho⟩
/-- Both, with the same word, the same bytes. -/
structure Both (B : Nat) (w : World) (s p : Nat) (Y : List Nat) (x : WordD) (d n : Nat) (b : List UInt8) (s' d' : Nat) : Prop where
 our : StAt w s p Y x d b b.length n
 ref : RSt w (s :: p :: Y) s' d' x b b.length
 low : ∀ g ∈ s :: p :: Y, B ≤ g
 lowR : B ≤ s' ∧ B ≤ d'
theorem Both.keep0 {B : Nat} {w w' : World} {s p : Nat} {Y : List Nat} {x : WordD} {d n : Nat} {b : List UInt8} {s' d' : Nat} (h : Both B w s p Y x d n b s' d') (hk : Keeps [] w w') : Both B w' s p Y x d n b s' d' :=
 ⟨h.our.keep0 hk, h.ref.keep0 hk, h.low, h.lowR⟩
set_option maxRecDepth 100000 in
set_option maxHeartbeats 4000000 in
theorem same14_any (B : Nat) (s p : Nat) (Y : List Nat) (x : WordD) (d n : Nat) (b : List UInt8) (s' d' : Nat) (w : World) (h : Both B w s p Y x d n b s' d') :
  Calls Tryz.prog 87 #[.pointer (some ⟨s, 0, none⟩), .pointer (some ⟨s', 0, none⟩)] w fun e w' => SamePost true w e w' := by
 have HT := Lib.hid (fun W (hk : Keeps [] w W) => vterm_any W (h.our.keep0 hk))
 have HH := Lib.hid (fun W (hk : Keeps [] w W) => vhad_any W (h.our.keep0 hk))
 have HL := Lib.hid (fun W (hk : Keeps [] w W) => vlog_any W (h.our.keep0 hk))
 have Hok := Lib.hid h.our.ok
 obtain ⟨lv, rb, re, _⟩ := h.ref
 obtain ⟨A, c, rfl, _⟩ := re.len
 have Hre := Lib.hid (re.avoid (M' := []) (by simp))
 obtain ⟨c0, c1, c2, c3, hlt⟩ := blk4 rb
 have HSB : Hid (∀ W, Below w.heap.size w W → W.cell? ⟨s', 1, none⟩ = some (.int .i64 x.t) ∧ W.cell? ⟨s', 2, none⟩ = some (.int .i64 x.h) ∧ W.cell? ⟨s', 3, none⟩ = some (.slice A x.log.length c)) := fun W hb => ⟨(hb.cell (p := ⟨s', 1, none⟩) hlt).trans c1, (hb.cell (p := ⟨s', 2, none⟩) hlt).trans c2, (hb.cell (p := ⟨s', 3, none⟩) hlt).trans c3⟩
 have HKB : Hid (∀ W, Below w.heap.size w W → Keeps [] w W) := fun W hb => Keeps.of_below (M := []) hb
 clear h rb re c0 c1 c2 c3
 have Hq0 : Hid (Below w.heap.size w w.drew) := bdrewG (Below.refl _ w)
 go_enter Tryz.func87, Tryz.ntmps87
 go_upto_region 1 with (fail)
 refine wp_region_held_drew (S := (fun W => W.cell? ⟨s', 1, none⟩ = some (.int .i64 x.t) ∧ W.cell? ⟨s', 2, none⟩ = some (.int .i64 x.h) ∧ W.cell? ⟨s', 3, none⟩ = some (.slice A x.log.length c))) (by kernel_rfl) (HSB.out _ Hq0.out) (fun hHeld => ?_)
 refine wpAnyH_take (i := 0) (oi := _) (v := ?v0e) rfl (by kernel_rfl) (by kernel_rfl) (by kernel_rfl) (fun _ _ _ h => h) (Or.inl ⟨by rfl, ?y0e⟩) (by assumption) ?r0e
 case y0e => (intro w hSw; (obtain ⟨hS0, hS1, hS2⟩ := hSw); go_simp <;> with_reducible rfl)
 try simp only [List.getElem_toArray, List.getElem_cons_succ, List.getElem_cons_zero, Act.put, List.setIfInBounds_toArray, List.set_cons_zero, List.set_cons_succ]
 refine wpAnyH_take (i := 2) (oi := _) (v := ?v2e) rfl (by kernel_rfl) (by kernel_rfl) (by kernel_rfl) (fun _ _ _ h => h) (Or.inl ⟨by rfl, ?y2e⟩) (by assumption) ?r2e
 case y2e => (intro w hSw; (obtain ⟨hS0, hS1, hS2⟩ := hSw); go_simp <;> with_reducible rfl)
 try simp only [List.getElem_toArray, List.getElem_cons_succ, List.getElem_cons_zero, Act.put, List.setIfInBounds_toArray, List.set_cons_zero, List.set_cons_succ]
 refine wpAnyH_take (i := 3) (oi := _) (v := ?v3e) rfl (by kernel_rfl) (by kernel_rfl) (by kernel_rfl) (fun _ _ _ h => h) (Or.inl ⟨by rfl, ?y3e⟩) (by assumption) ?r3e
 case y3e => (intro w hSw; (obtain ⟨hS0, hS1, hS2⟩ := hSw); go_simp <;> with_reducible rfl)
 try simp only [List.getElem_toArray, List.getElem_cons_succ, List.getElem_cons_zero, Act.put, List.setIfInBounds_toArray, List.set_cons_zero, List.set_cons_succ]
 refine wpAnyH_take (i := 4) (oi := _) (v := ?v4e) rfl (by kernel_rfl) (by kernel_rfl) (by kernel_rfl) (fun _ _ _ h => h) (Or.inl ⟨by rfl, ?y4e⟩) (by assumption) ?r4e
 case y4e => (intro w hSw; (obtain ⟨hS0, hS1, hS2⟩ := hSw); go_simp <;> with_reducible rfl)
 try simp only [List.getElem_toArray, List.getElem_cons_succ, List.getElem_cons_zero, Act.put, List.setIfInBounds_toArray, List.set_cons_zero, List.set_cons_succ]
 refine wpAnyH_take (i := 5) (oi := _) (v := ?v5e) rfl (by kernel_rfl) (by kernel_rfl) (by kernel_rfl) (fun _ _ _ h => h) (Or.inl ⟨by rfl, ?y5e⟩) (by assumption) ?r5e
 case y5e => (intro w hSw; (obtain ⟨hS0, hS1, hS2⟩ := hSw); go_simp <;> with_reducible rfl)
 try simp only [List.getElem_toArray, List.getElem_cons_succ, List.getElem_cons_zero, Act.put, List.setIfInBounds_toArray, List.set_cons_zero, List.set_cons_succ]
 refine wpAnyH_ready (rs := [1]) (by kernel_rfl) (by simp) ?_
 refine AllReadyH.cons (o := _) rfl (fun K hK => ?_) AllReadyH.nil
 go_simp
 refine (HT.out _ (HKB.out _ Hq0.out)).mono ?_
 rintro r v1 ⟨rfl, rfl⟩
 refine hK.out _ _ (HSB.out _ Hq0.out) (fun hHeld2 => ?_)
 clear hK K hHeld
 have hHeld := hHeld2
 clear hHeld2
 try simp only [List.getElem_toArray, List.getElem_cons_succ, List.getElem_cons_zero, Act.put, List.setIfInBounds_toArray, List.set_cons_zero, List.set_cons_succ]
 refine wpAnyH_take (i := 6) (oi := _) (v := ?v6e) rfl (by kernel_rfl) (by kernel_rfl) (by kernel_rfl) (fun _ _ _ h => h) (Or.inl ⟨by rfl, ?y6e⟩) (by assumption) ?r6e
 case y6e => (intro w hSw; (obtain ⟨hS0, hS1, hS2⟩ := hSw); go_simp <;> with_reducible rfl)
 try simp only [List.getElem_toArray, List.getElem_cons_succ, List.getElem_cons_zero, Act.put, List.setIfInBounds_toArray, List.set_cons_zero, List.set_cons_succ]
 refine wpAnyH_take (i := 7) (oi := _) (v := ?v7e) rfl (by kernel_rfl) (by kernel_rfl) (by kernel_rfl) (fun _ _ _ h => h) (Or.inl ⟨by rfl, ?y7e⟩) (by assumption) ?r7e
 case y7e => (intro w hSw; (obtain ⟨hS0, hS1, hS2⟩ := hSw); go_simp <;> with_reducible rfl)
 try simp only [List.getElem_toArray, List.getElem_cons_succ, List.getElem_cons_zero, Act.put, List.setIfInBounds_toArray, List.set_cons_zero, List.set_cons_succ]
 refine wpAnyH_take (i := 8) (oi := _) (v := ?v8e) rfl (by kernel_rfl) (by kernel_rfl) (by kernel_rfl) (fun _ _ _ h => h) (Or.inl ⟨by rfl, ?y8e⟩) (by assumption) ?r8e
 case y8e => (intro w hSw; (obtain ⟨hS0, hS1, hS2⟩ := hSw); go_simp <;> with_reducible rfl)
 try simp only [List.getElem_toArray, List.getElem_cons_succ, List.getElem_cons_zero, Act.put, List.setIfInBounds_toArray, List.set_cons_zero, List.set_cons_succ]
 refine wpAnyH_take (i := 10) (oi := _) (v := ?v10e) rfl (by kernel_rfl) (by kernel_rfl) (by kernel_rfl) (fun _ _ _ h => h) (Or.inl ⟨by rfl, ?y10e⟩) (by assumption) ?r10e
 case y10e => (intro w hSw; (obtain ⟨hS0, hS1, hS2⟩ := hSw); go_simp <;> with_reducible rfl)
 try simp only [List.getElem_toArray, List.getElem_cons_succ, List.getElem_cons_zero, Act.put, List.setIfInBounds_toArray, List.set_cons_zero, List.set_cons_succ]
 refine wpAnyH_take (i := 11) (oi := _) (v := ?v11e) rfl (by kernel_rfl) (by kernel_rfl) (by kernel_rfl) (fun _ _ _ h => h) (Or.inl ⟨by rfl, ?y11e⟩) (by assumption) ?r11e
 case y11e => (intro w hSw; (obtain ⟨hS0, hS1, hS2⟩ := hSw); go_simp <;> with_reducible rfl)
 try simp only [List.getElem_toArray, List.getElem_cons_succ, List.getElem_cons_zero, Act.put, List.setIfInBounds_toArray, List.set_cons_zero, List.set_cons_succ]
 refine wpAnyH_take (i := 12) (oi := _) (v := ?v12e) rfl (by kernel_rfl) (by kernel_rfl) (by kernel_rfl) (fun _ _ _ h => h) (Or.inl ⟨by rfl, ?y12e⟩) (by assumption) ?r12e
 case y12e => (intro w hSw; (obtain ⟨hS0, hS1, hS2⟩ := hSw); go_simp <;> with_reducible rfl)
 try simp only [List.getElem_toArray, List.getElem_cons_succ, List.getElem_cons_zero, Act.put, List.setIfInBounds_toArray, List.set_cons_zero, List.set_cons_succ]
 refine wpAnyH_take (i := 13) (oi := _) (v := ?v13e) rfl (by kernel_rfl) (by kernel_rfl) (by kernel_rfl) (fun _ _ _ h => h) (Or.inl ⟨by rfl, ?y13e⟩) (by assumption) ?r13e
 case y13e => (intro w hSw; (obtain ⟨hS0, hS1, hS2⟩ := hSw); go_simp <;> with_reducible rfl)
 try simp only [List.getElem_toArray, List.getElem_cons_succ, List.getElem_cons_zero, Act.put, List.setIfInBounds_toArray, List.set_cons_zero, List.set_cons_succ]
 refine wpAnyH_ready (rs := [9]) (by kernel_rfl) (by simp) ?_
 refine AllReadyH.cons (o := _) rfl (fun K hK => ?_) AllReadyH.nil
 go_simp
 refine (HH.out _ (HKB.out _ Hq0.out)).mono ?_
 rintro r v2 ⟨rfl, rfl⟩
 refine hK.out _ _ (HSB.out _ Hq0.out) (fun hHeld2 => ?_)
 clear hK K hHeld
 have hHeld := hHeld2
 clear hHeld2
 try simp only [List.getElem_toArray, List.getElem_cons_succ, List.getElem_cons_zero, Act.put, List.setIfInBounds_toArray, List.set_cons_zero, List.set_cons_succ]
 refine wpAnyH_take (i := 14) (oi := _) (v := ?v14e) rfl (by kernel_rfl) (by kernel_rfl) (by kernel_rfl) (fun _ _ _ h => h) (Or.inl ⟨by rfl, ?y14e⟩) (by assumption) ?r14e
 case y14e => (intro w hSw; (obtain ⟨hS0, hS1, hS2⟩ := hSw); go_simp <;> with_reducible rfl)
 try simp only [List.getElem_toArray, List.getElem_cons_succ, List.getElem_cons_zero, Act.put, List.setIfInBounds_toArray, List.set_cons_zero, List.set_cons_succ]
 refine wpAnyH_take (i := 15) (oi := _) (v := ?v15e) rfl (by kernel_rfl) (by kernel_rfl) (by kernel_rfl) (fun _ _ _ h => h) (Or.inl ⟨by rfl, ?y15e⟩) (by assumption) ?r15e
 case y15e => (intro w hSw; (obtain ⟨hS0, hS1, hS2⟩ := hSw); go_simp <;> with_reducible rfl)
 try simp only [List.getElem_toArray, List.getElem_cons_succ, List.getElem_cons_zero, Act.put, List.setIfInBounds_toArray, List.set_cons_zero, List.set_cons_succ]
 refine wpAnyH_take (i := 16) (oi := _) (v := ?v16e) rfl (by kernel_rfl) (by kernel_rfl) (by kernel_rfl) (fun _ _ _ h => h) (Or.inl ⟨by rfl, ?y16e⟩) (by assumption) ?r16e
 case y16e => (intro w hSw; (obtain ⟨hS0, hS1, hS2⟩ := hSw); go_simp <;> with_reducible rfl)
 try simp only [List.getElem_toArray, List.getElem_cons_succ, List.getElem_cons_zero, Act.put, List.setIfInBounds_toArray, List.set_cons_zero, List.set_cons_succ]
 refine wpAnyH_take (i := 17) (oi := _) (v := ?v17e) rfl (by kernel_rfl) (by kernel_rfl) (by kernel_rfl) (fun _ _ _ h => h) (Or.inl ⟨by rfl, ?y17e⟩) (by assumption) ?r17e
 case y17e => (intro w hSw; (obtain ⟨hS0, hS1, hS2⟩ := hSw); go_simp <;> with_reducible rfl)
 try simp only [List.getElem_toArray, List.getElem_cons_succ, List.getElem_cons_zero, Act.put, List.setIfInBounds_toArray, List.set_cons_zero, List.set_cons_succ]
 refine wpAnyH_take (i := 19) (oi := _) (v := ?v19e) rfl (by kernel_rfl) (by kernel_rfl) (by kernel_rfl) (fun _ _ _ h => h) (Or.inl ⟨by rfl, ?y19e⟩) (by assumption) ?r19e
 case y19e => (intro w hSw; (obtain ⟨hS0, hS1, hS2⟩ := hSw); go_simp <;> with_reducible rfl)
 try simp only [List.getElem_toArray, List.getElem_cons_succ, List.getElem_cons_zero, Act.put, List.setIfInBounds_toArray, List.set_cons_zero, List.set_cons_succ]
 refine wpAnyH_take (i := 20) (oi := _) (v := ?v20e) rfl (by kernel_rfl) (by kernel_rfl) (by kernel_rfl) (fun _ _ _ h => h) (Or.inl ⟨by rfl, ?y20e⟩) (by assumption) ?r20e
 case y20e => (intro w hSw; (obtain ⟨hS0, hS1, hS2⟩ := hSw); go_simp <;> with_reducible rfl)
 try simp only [List.getElem_toArray, List.getElem_cons_succ, List.getElem_cons_zero, Act.put, List.setIfInBounds_toArray, List.set_cons_zero, List.set_cons_succ]
 refine wpAnyH_take (i := 21) (oi := _) (v := ?v21e) rfl (by kernel_rfl) (by kernel_rfl) (by kernel_rfl) (fun _ _ _ h => h) (Or.inl ⟨by rfl, ?y21e⟩) (by assumption) ?r21e
 case y21e => (intro w hSw; (obtain ⟨hS0, hS1, hS2⟩ := hSw); go_simp <;> with_reducible rfl)
 try simp only [List.getElem_toArray, List.getElem_cons_succ, List.getElem_cons_zero, Act.put, List.setIfInBounds_toArray, List.set_cons_zero, List.set_cons_succ]
 refine wpAnyH_take (i := 22) (oi := _) (v := ?v22e) rfl (by kernel_rfl) (by kernel_rfl) (by kernel_rfl) (fun _ _ _ h => h) (Or.inl ⟨by rfl, ?y22e⟩) (by assumption) ?r22e
 case y22e => (intro w hSw; (obtain ⟨hS0, hS1, hS2⟩ := hSw); go_simp <;> with_reducible rfl)
 try simp only [List.getElem_toArray, List.getElem_cons_succ, List.getElem_cons_zero, Act.put, List.setIfInBounds_toArray, List.set_cons_zero, List.set_cons_succ]
 refine wpAnyH_ready (rs := [18]) (by kernel_rfl) (by simp) ?_
 refine AllReadyH.cons (o := _) rfl (fun K hK => ?_) AllReadyH.nil
 go_simp
 refine (HL.out _ (HKB.out _ Hq0.out)).mono ?_
 rintro r v3 ⟨A3, rfl, hE3, hk3⟩
 have HE3 := Lib.hid (hE3 [] (by simp))
 have Hq3 := Lib.hid (bthenG Hq0.out hk3.below)
 clear hE3 hk3
 refine hK.out _ _ (HSB.out _ Hq3.out) (fun hHeld2 => ?_)
 clear hK K hHeld
 have hHeld := hHeld2
 clear hHeld2
 try simp only [List.getElem_toArray, List.getElem_cons_succ, List.getElem_cons_zero, Act.put, List.setIfInBounds_toArray, List.set_cons_zero, List.set_cons_succ]
 refine wpAnyH_ready (rs := [23]) (by kernel_rfl) (by simp) ?_
 refine AllReadyH.cons (o := _) rfl (fun K hK => ?_) AllReadyH.nil
 go_simp
 refine (rlogs_eq _ _ x.log v3 HE3.out (Hre.out.keep (HKB.out _ Hq3.out) (by simp)) ⟨by have := Hok.out.2.2.1; omega, fun e he => by have := eok_ds8 (Hok.out.2.2.2 e he); omega⟩).mono ?_
 rintro r v4 ⟨rfl, hb4⟩
 have Hq4 := Lib.hid (below_then Hq3.out hb4)
 clear hb4
 refine hK.out _ _ (HSB.out _ Hq4.out) (fun hHeld2 => ?_)
 clear hK K hHeld
 have hHeld := hHeld2
 clear hHeld2
 try simp only [List.getElem_toArray, List.getElem_cons_succ, List.getElem_cons_zero, Act.put, List.setIfInBounds_toArray, List.set_cons_zero, List.set_cons_succ]
 refine wpAnyH_take (i := 24) (oi := _) (v := ?v24e) rfl (by kernel_rfl) (by kernel_rfl) (by kernel_rfl) (fun _ _ _ h => h) (Or.inl ⟨by rfl, ?y24e⟩) (by assumption) ?r24e
 case y24e => (intro w hSw; (obtain ⟨hS0, hS1, hS2⟩ := hSw); go_simp <;> with_reducible rfl)
 try simp only [List.getElem_toArray, List.getElem_cons_succ, List.getElem_cons_zero, Act.put, List.setIfInBounds_toArray, List.set_cons_zero, List.set_cons_succ]
 refine wpAnyH_take (i := 25) (oi := _) (v := ?v25e) rfl (by kernel_rfl) (by kernel_rfl) (by kernel_rfl) (fun _ _ _ h => h) (Or.inl ⟨by rfl, ?y25e⟩) (by assumption) ?r25e
 case y25e => (intro w hSw; (obtain ⟨hS0, hS1, hS2⟩ := hSw); go_simp <;> with_reducible rfl)
 try simp only [List.getElem_toArray, List.getElem_cons_succ, List.getElem_cons_zero, Act.put, List.setIfInBounds_toArray, List.set_cons_zero, List.set_cons_succ]
 refine wpAnyH_done (by kernel_rfl) ?_ _
 clear hHeld
 go_wp2
 go_ret
 exact ⟨rfl, Hq4.out⟩
/-- What a call answers, and the word and the bytes behind it. -/
def keepQ (x y : WordD) (b : List UInt8) : Bool × WordD × List UInt8 := if KpOk y b then (true, y, b ++ frameL (recL y)) else (false, x, b)
def promQ (x : WordD) (b : List UInt8) (term : Int) : Bool × WordD × List UInt8 := if (x.t : Int) < term then keepQ x ⟨term.toNat, x.h, x.log⟩ b else (false, x, b)
def accQ (x : WordD) (b : List UInt8) (term : Int) (l : List EntryD) : Bool × WordD × List UInt8 :=
 if AcOk x term l then (if ¬ accLong x term.toNat l ∧ term = x.t then (true, x, b) else keepQ x (accW x term.toNat l) b) else (false, x, b)
def OurPost (q : Bool × WordD × List UInt8) (s p : Nat) (Y : List Nat) (d : Nat) (w : World) (e : Ending) (w' : World) : Prop :=
 e = .returned (.bool q.1) ∧ ∃ Y' n', StAt w' s p Y' q.2.1 d q.2.2 q.2.2.length n' ∧ Grows Y w Y' ∧ Keeps (s :: p :: Y) w w'
def RefPost (q : Bool × WordD × List UInt8) (M : List Nat) (s d : Nat) (w : World) (e : Ending) (w' : World) : Prop :=
 e = .returned (.bool q.1) ∧ RSt w' M s d q.2.1 q.2.2 q.2.2.length ∧ Keeps [s, d] w w'
section
variable {s p d n : Nat} {Y M : List Nat} {x y : WordD} {b : List UInt8} {w w' : World} {e : Ending}
theorem our_same {v : Bool} (h : StAt w s p Y x d b b.length n) (he : e = .returned (.bool v)) (hk : Keeps [] w w') : OurPost (v, x, b) s p Y d w e w' :=
 ⟨he, Y, n, h.keep0 hk, Grows.refl _ _, hk.mono (by simp)⟩
theorem our_keep (h : StAt w s p Y x d b b.length n) (hq : KpPost s p Y y d b n w e w') : OurPost (keepQ x y b) s p Y d w e w' := by
 unfold KpPost at hq
 unfold keepQ
 split at hq
 ·rename_i hc
  rw [if_pos hc]
  obtain ⟨he, Y', h1, h2, h3⟩ := hq
  exact ⟨he, Y', n + 1, by simpa using h1, h2, h3⟩
 ·rename_i hc
  rw [if_neg hc]
  exact our_same h hq.1 hq.2
theorem our_prom {term : Int} (h : StAt w s p Y x d b b.length n) (hq : PmPost s p Y x d b n term w e w') : OurPost (promQ x b term) s p Y d w e w' := by
 unfold PmPost at hq
 unfold promQ
 split at hq
 ·rename_i hc
  rw [if_pos hc]
  exact our_keep h hq
 ·rename_i hc
  rw [if_neg hc]
  exact our_same h hq.1 hq.2
theorem our_acc {term : Int} {l : List EntryD} (h : StAt w s p Y x d b b.length n) (hq : AcPost s p Y x d b n term l w e w') : OurPost (accQ x b term l) s p Y d w e w' := by
 unfold AcPost at hq
 unfold accQ
 split at hq
 ·rename_i hc
  rw [if_pos hc]
  split at hq
  ·rename_i hc2
   rw [if_pos hc2]
   exact our_same h hq.1 hq.2
  ·rename_i hc2
   rw [if_neg hc2]
   exact our_keep h hq
 ·rename_i hc
  rw [if_neg hc]
  exact our_same h hq.1 hq.2
theorem ref_keep (hq : RkPost M s d x y b b.length w e w') : RefPost (keepQ x y b) M s d w e w' := by
 unfold RkPost at hq
 unfold keepQ
 split at hq
 ·rename_i hc
  rw [if_pos hc]
  exact ⟨hq.1, by simpa using hq.2.1, hq.2.2⟩
 ·rename_i hc
  rw [if_neg hc]
  exact ⟨hq.1, hq.2.1, hq.2.2.mono (by simp)⟩
theorem ref_prom {term : Int} (hq : RpPost M s d x b b.length term w e w') : RefPost (promQ x b term) M s d w e w' := by
 unfold RpPost at hq
 unfold promQ
 split at hq
 ·rename_i hc
  rw [if_pos hc]
  exact ref_keep hq
 ·rename_i hc
  rw [if_neg hc]
  exact ⟨hq.1, hq.2.1, hq.2.2.mono (by simp)⟩
theorem ref_acc {term : Int} {l : List EntryD} (hq : RcPost M s d x b b.length term l w e w') : RefPost (accQ x b term l) M s d w e w' := by
 unfold RcPost at hq
 unfold accQ
 split at hq
 ·rename_i hc
  rw [if_pos hc]
  split at hq
  ·rename_i hc2
   rw [if_pos hc2]
   exact ⟨hq.1, hq.2.1, hq.2.2.mono (by simp)⟩
  ·rename_i hc2
   rw [if_neg hc2]
   exact ref_keep hq
 ·rename_i hc
  rw [if_neg hc]
  exact ⟨hq.1, hq.2.1, hq.2.2.mono (by simp)⟩
end
/-- Behind our call the document's state stands as it stood, apart from our blocks. -/
theorem our_ref {B s p d s' d' : Nat} {Y : List Nat} {x : WordD} {b : List UInt8} {q : Bool × WordD × List UInt8} {w w' : World} {e : Ending} (hr : RSt w (s :: p :: Y) s' d' x b b.length) (hlow : ∀ g ∈ s :: p :: Y, B ≤ g) (hB : B ≤ w.heap.size) (hq : OurPost q s p Y d w e w') :
  e = .returned (.bool q.1) ∧ ∃ Y' n', StAt w' s p Y' q.2.1 d q.2.2 q.2.2.length n' ∧ RSt w' (s :: p :: Y') s' d' x b b.length ∧ (∀ g ∈ s :: p :: Y', B ≤ g) ∧ Keeps (s :: p :: Y) w w' := by
 obtain ⟨he, Y', n', hst, hg, hk⟩ := hq
 have hmem : ∀ g ∈ s :: p :: Y', g ∈ s :: p :: Y ∨ w.heap.size ≤ g := fun g hm => by
  simp only [List.mem_cons] at hm ⊢
  rcases hm with h | h | h
  ·exact .inl (.inl h)
  ·exact .inl (.inr (.inl h))
  ·exact (hg g h).imp (fun h => .inr (.inr h)) id
 exact ⟨he, Y', n', hst, hr.more hk (fun g hg => .inl hg) hmem (fun g hm => hst.old g hm), fun g hm => by rcases hmem g hm with h | h; exact hlow g h; omega, hk⟩
/-- Behind the document's call both are what the call makes of them. -/
theorem ref_both {B s p d n s' d' : Nat} {Y : List Nat} {x : WordD} {b : List UInt8} {q : Bool × WordD × List UInt8} {w w' : World} {e : Ending} (hst : StAt w s p Y q.2.1 d q.2.2 q.2.2.length n) (hr : RSt w (s :: p :: Y) s' d' x b b.length) (hlow : ∀ g ∈ s :: p :: Y, B ≤ g) (hl : B ≤ s' ∧ B ≤ d') (hq : RefPost q (s :: p :: Y) s' d' w e w') :
  e = .returned (.bool q.1) ∧ Both B w' s p Y q.2.1 d n q.2.2 s' d' ∧ Keeps [s', d'] w w' :=
 ⟨hq.1, ⟨hst.keepR hr hq.2.2, hq.2.1, hlow, hl⟩, hq.2.2⟩
/-- Our disk stays where only the document's disk's block, or new ones, have changed. -/
theorem StAt.keepD {w w' : World} {s p d k n d' k' : Nat} {Y : List Nat} {x : WordD} {b b' : List UInt8} (h : StAt w s p Y x d b k n) (hr : RDk w (s :: p :: Y) d' b' k') (hk : Keeps [d'] w w') : StAt w' s p Y x d b k n := by
 obtain ⟨lv, hb, he, hl, hs, ho⟩ := h
 obtain ⟨v', db, dr, dn, _⟩ := hr
 obtain ⟨Av, cv, rfl, _⟩ := dr.len
 have n1 : ∀ g ∈ s :: p :: Y, g ∉ [d'] := fun g hg hm => by simp at hm; subst hm; exact dn hg
 have e2 := ens_avoid he db (noStr2 (by simp) (by simp))
 exact ⟨lv, hk.blk hb (n1 s (by simp)), (e2.keep hk (fun g hg => .inl (by simp at hg; simp [hg]))).avoid (fun g hg => .inl (by simp at hg ⊢; exact .inr hg)), hl.keep hk (fun g hg => n1 g (List.mem_cons_of_mem _ hg)), hs, ho⟩
def DoPost (b : List UInt8) (w : World) (e : Ending) (w' : World) : Prop := ∃ d X, e = .returned (.pointer (some ⟨d, 0, none⟩)) ∧ DkAt w' X d b b.length ∧ (∀ g ∈ X, w.heap.size ≤ g) ∧ Below w.heap.size w w'
theorem dkof_any (v : Value) (b : List UInt8) (w : World) (h : Bs w [] v b) (hl : b.length ≤ 1048576) :
  Calls Tryz.prog 85 #[v] w fun e w' => DoPost b w e w' := by
 have hcl := Lib.hid (cloneU8 [] v b.length (b.map bV) w h (bV_one b) (by omega))
 obtain ⟨A, c, rfl, hc⟩ := h.len
 have hni : ¬ ((1048576 : Int) < (b.length : Int)) := by omega
 have hnd : decide ((1048576 : Int) < (b.length : Int)) = false := decide_eq_false hni
 clear h
 go_enter Tryz.func85, Tryz.ntmps85
 go_wp2_with fail
 refine hcl.out.mono ?_
 rintro e w1 ⟨v1, rfl, hown, hb1⟩
 have hr := Row1.of_own hown
 have hF : Hid (DoPost b w (.returned (.pointer (some ⟨w1.heap.size, 0, none⟩))) (w1.alloc (.cells #[v1, .int .i64 b.length] 112))) := by
  have hk : Keeps [] w1 (w1.alloc (.cells #[v1, .int .i64 b.length] 112)) := (Keeps.refl _ _).alloc _
  refine ⟨w1.heap.size, w1.heap.size :: v1.ownBlock.toList, rfl, ⟨v1, Blk.new w1 _ _, hr.keep hk (by simp), by simp, fun g hg => ⟨by simp [hg], fun e => by have := hr.lt hg; omega⟩, Nat.le_refl _, hl, fun g hg => ?_⟩, fun g hg => ?_, hb1.alloc hb1.size _⟩
  ·rcases List.mem_cons.1 hg with rfl | hg
   ·simp
   ·have := hr.lt (Option.mem_toList.1 hg); simp; omega
  ·rcases List.mem_cons.1 hg with rfl | hg
   ·exact hb1.size
   ·exact (hown.lt g (Option.mem_toList.1 hg)).1
 obtain ⟨A1, c1, rfl, _⟩ := hr.len
 clear hown hb1 hr hcl
 go_wp2
 go_ret
 exact hF.out
end Go.Proofs.YtinnifhnabncfaaGreatDoor.Vi
end
section
namespace Go.Proofs.YtinnifhnabncfaaGreatDoor.Vi
open Go.RowKit Base Mem Tape
/-- A slice of numbers that came in. -/
def Nums (w : World) (A : Option Addr) (c : Nat) (l : List Int) : Prop := l.length ≤ c ∧ c ≤ 9223372036854775807 ∧ (0 < l.length → ∃ g off, A = some ⟨g, off, none⟩ ∧ g < w.heap.size ∧ ∀ (j : Nat) (x : Int), l[j]? = some x → w.cell? ⟨g, off + j, none⟩ = some (.int .i64 x))
theorem tape_new {w w1 : World} {A : Option Addr} {c : Nat} {l : List Int} (h : Nums w A c l) (hb : Below w.heap.size w w1) :
  TapeAt (w1.alloc (.cells #[.slice A l.length c, .int .i64 0] 31)) w1.heap.size ⟨l, w.heap.size⟩ 0 := by
 obtain ⟨h1, h2, h3⟩ := h
 refine ⟨Nat.zero_le _, Nat.le_trans h1 h2, hb.size, A, c, Blk.new w1 _ _, h1, fun h0 => ?_⟩
 obtain ⟨g, off, e, hg, hx⟩ := h3 h0
 exact ⟨g, off, e, hg, fun j x hj => ((below_new hb _).cell (p := ⟨g, off + j, none⟩) hg).trans (hx j x hj)⟩
end Go.Proofs.YtinnifhnabncfaaGreatDoor.Vi
end
section
namespace Go.Proofs.YtinnifhnabncfaaGreatDoor.Vi
open Go.RowKit Base Mem Tape Go.Shelf

structure AskD where
 k : Int
 t : Int
 log : List EntryD
def aCell (q : AskD × Value) : List Value := [.int .i64 q.1.k, .int .i64 q.1.t, q.2]
def AskOk (a : AskD) : Prop := 0 ≤ a.k ∧ a.k < 5 ∧ 0 ≤ a.t ∧ a.t < 14 ∧ a.log.length ≤ 5 ∧ ∀ e ∈ a.log, EntryOk e
/-- v reads as these asks. -/
def AskAt (w : World) (M : List Nat) (v : Value) (l : List AskD) : Prop :=
 ∃ qs : List (AskD × Value), qs.map (·.1) = l ∧ Rd w M 3 v qs.length (qs.flatMap aCell) ∧ ∀ q ∈ qs, Ens w M q.2 q.1.log
theorem AskAt.keep {w w' : World} {M M' : List Nat} {v : Value} {l : List AskD} (h : AskAt w M v l) (k : Keeps M' w w') (hM : ∀ g ∈ M', g ∈ M ∨ w.heap.size ≤ g) : AskAt w' M v l := by
 obtain ⟨ps, hl, hr, hd⟩ := h
 exact ⟨ps, hl, hr.keep k hM, fun p hp => (hd p hp).keep k hM⟩
theorem AskAt.avoid {w : World} {M M' : List Nat} {v : Value} {l : List AskD} (h : AskAt w M v l) (hM : ∀ g ∈ M', g ∈ M ∨ w.heap.size ≤ g) : AskAt w M' v l := by
 obtain ⟨ps, hl, hr, hd⟩ := h
 exact ⟨ps, hl, hr.avoid hM, fun p hp => (hd p hp).avoid hM⟩
theorem AskAt.len {w : World} {M : List Nat} {v : Value} {l : List AskD} (h : AskAt w M v l) : ∃ A c, v = .slice A l.length c ∧ l.length ≤ c := by
 obtain ⟨ps, rfl, ⟨A, c, rfl, hc, _⟩, _⟩ := h
 exact ⟨A, c, by simp, by simpa using hc⟩
theorem AskAt.at_ {w : World} {M : List Nat} {v : Value} {l : List AskD} (h : AskAt w M v l) {k : Nat} (hk : k < l.length) :
  ∃ g off cap lv, v = .slice (some ⟨g, off, none⟩) l.length cap ∧ g < w.heap.size ∧ g ∉ M ∧ Ens w M lv l[k].log ∧ ∀ j u, (aCell (l[k], lv))[j]? = some u → w.cell? ⟨g, off + k * 3 + j, none⟩ = some u := by
 obtain ⟨ps, rfl, hr, hd⟩ := h
 have hk' : k < ps.length := by simpa using hk
 obtain ⟨g, off, cap, e, _, hg, hm, hx⟩ := Rd.at_ aCell 3 (fun _ => rfl) hr hk'
 exact ⟨g, off, cap, ps[k].2, by simpa using e, hg, hm, by simpa using hd ps[k] (List.getElem_mem _), by simpa using hx⟩
def AskPost (n : Nat) (w : World) (e : Ending) (w' : World) : Prop := ∃ v l, e = .returned v ∧ l.length ≤ n ∧ (∀ a ∈ l, AskOk a) ∧ (∀ M, (∀ g ∈ M, g < w.heap.size) → AskAt w' M v l) ∧ Keeps [] w w'
/-- What lies apart from old blocks and from a row of the call's own lies so still where the row has grown. -/
theorem own_one {P : World → List Nat → Prop} (hkeep : ∀ {w w' : World} {M M' : List Nat}, P w M → Keeps M' w w' → (∀ g ∈ M', g ∈ M ∨ w.heap.size ≤ g) → P w' M) (havoid : ∀ {w : World} {M M' : List Nat}, P w M → (∀ g ∈ M', g ∈ M ∨ w.heap.size ≤ g) → P w M')
  {w w1 w2 : World} {out v' : Value} {o : Obj} (h : ∀ M', (∀ g ∈ M', g < w.heap.size ∨ out.ownBlock = some g) → P w1 M')
  (hg : (w1.alloc o).grownBy w2 out.ownBlock) (hat : v'.ownBlock = out.ownBlock ∨ v'.ownBlock = some (w1.heap.size + 1)) (M' : List Nat) (hM : ∀ g ∈ M', g < w.heap.size ∨ v'.ownBlock = some g) : P w2 M' := by
 have h1 := h (out.ownBlock.toList ++ M'.filter (fun g => decide (g < w.heap.size))) (by
  intro g hg
  rcases List.mem_append.1 hg with h1 | h1
  ·right; simpa using h1
  ·left; simpa using (List.mem_filter.1 h1).2)
 have h2 : P (w1.alloc o) (out.ownBlock.toList ++ M'.filter (fun g => decide (g < w.heap.size))) := hkeep (M' := []) h1 ((Keeps.refl _ _).alloc o) (by simp)
 have h3 : P (w1.alloc o) (out.ownBlock.toList ++ M') := havoid h2 (by
  intro g hg
  rcases List.mem_append.1 hg with h1 | h1
  ·exact .inl (List.mem_append_left _ h1)
  ·rcases hM g h1 with h4 | h4
   ·exact .inl (List.mem_append_right _ (List.mem_filter.2 ⟨h1, by simpa using h4⟩))
   ·rcases hat with h5 | h5
    ·exact .inl (List.mem_append_left _ (by rw [h5] at h4; simpa using h4))
    ·rw [h5] at h4; injection h4 with h4; right; simp; omega)
 have h4 : Keeps out.ownBlock.toList (w1.alloc o) w2 := (Keeps.refl _ _).grown hg (fun g hg => .inl (by simpa using hg))
 exact havoid (hkeep h3 h4 (fun g hg => .inl (List.mem_append_left _ hg))) (fun g hg => .inl (List.mem_append_right _ hg))
def AsOwn (w wr : World) (out : Value) (qs : List (AskD × Value)) : Prop := ∀ q ∈ qs, ∀ M', (∀ g ∈ M', g < w.heap.size ∨ out.ownBlock = some g) → Ens wr M' q.2 q.1.log
theorem asOwn_stepK {Mk : List Nat} {w wr w1 w2 : World} {out v' lv : Value} {o : Obj} {qs : List (AskD × Value)} {a : AskD} (hds : AsOwn w wr out qs) (hk : Keeps Mk wr w1) (hMk : ∀ g ∈ Mk, g < w.heap.size) (hlt : ∀ g, out.ownBlock = some g → g < wr.heap.size) (hw : w.heap.size ≤ wr.heap.size)
  (hnew : ∀ M', (∀ g ∈ M', g < wr.heap.size) → Ens w1 M' lv a.log)
  (hg : (w1.alloc o).grownBy w2 out.ownBlock) (hat : v'.ownBlock = out.ownBlock ∨ v'.ownBlock = some (w1.heap.size + 1)) : AsOwn w w2 v' (qs ++ [(a, lv)]) := by
 intro q hq M' hM
 rcases List.mem_append.1 hq with h1 | h1
 ·refine own_one (P := fun W M => Ens W M q.2 q.1.log) (fun h k hM => h.keep k hM) (fun h hM => h.avoid hM) (fun M'' hM'' => ?_) hg hat M' hM
  exact ((hds q h1 (Mk ++ M'') (by intro g hg; rcases List.mem_append.1 hg with h2 | h2; exact .inl (hMk g h2); exact hM'' g h2)).keep hk (fun _ hg => .inl (List.mem_append_left _ hg))).avoid (fun _ hg => .inl (List.mem_append_right _ hg))
 ·simp at h1
  subst h1
  exact own_one (P := fun W M => Ens W M lv a.log) (fun h k hM => h.keep k hM) (fun h hM => h.avoid hM) (fun M'' hM'' => hnew M'' (fun g hg => by rcases hM'' g hg with h | h; omega; exact hlt g h)) hg hat M' hM
theorem infoAsk : (Tryz.prog.info? 54).map (fun i => (i.zero, i.size, i.bytes)) = some (some (.agg #[.int .i64 0, .int .i64 0, .slice none 0 0]), 3, 40) := by kernel_rfl
set_option maxRecDepth 100000 in
set_option maxHeartbeats 1000000 in
theorem asks_any (A : Option Addr) (c : Nat) (l : List Int) (n : Nat) (hn : n ≤ 100) (w : World) (h : Nums w A c l) :
  Calls Tryz.prog 30 #[.slice A l.length c, .int .i64 n] w fun e w' => AskPost n w e w' := by
 have H := Lib.hid (tape_new h (Below.refl _ w))
 obtain ⟨i0, hi0, hz0, hz1, hz2⟩ := info_parts infoAsk
 have Hi0 := Lib.hid hi0; have Hz0 := Lib.hid hz0; have Hz1 := Lib.hid hz1; have Hz2 := Lib.hid hz2
 have hlen : l.length ≤ 9223372036854775807 := Nat.le_trans h.1 h.2.1
 clear h hi0 hz0 hz1 hz2
 obtain ⟨w1, hw1⟩ : ∃ w1, w1 = w.alloc (.cells #[.slice A l.length c, .int .i64 0] 31) := ⟨_, rfl⟩
 rw [← hw1] at H
 have hs1 : w1.heap.size = w.heap.size + 1 := by rw [hw1]; simp
 have Hs1 := Lib.hid hs1
 have Hk1 : Hid (Keeps [] w w1) := by show Keeps _ _ _; rw [hw1]; exact (Keeps.refl _ _).alloc _
 clear hs1
 go_enter Tryz.func30, Tryz.ntmps30
 go_wp2_with fail
 rw [← hw1]
 clear hw1
 obtain ⟨b, Hb⟩ : ∃ b, Hid (w.heap.size = b) := ⟨_, rfl⟩
 obtain ⟨B0, HB0⟩ : ∃ B0, Hid (w.heap.size = B0) := ⟨_, rfl⟩
 have HT0 : Hid (TapeAt w1 b ⟨l, B0⟩ 0) := by
  show TapeAt _ _ _ _
  rw [← Hb.out, ← HB0.out]; exact H.out
 rw [Hb.out] at ⊢
 have hb1 : b < w1.heap.size := HT0.out.lt
 clear H
 go_loopw [6] (fun out wr => ∃ (qs : List (AskD × Value)) (k' : Nat), qs.length ≤ n ∧ Hid (∀ q ∈ qs, AskOk q.1) ∧ Hid (wr.ownsRow w1.heap.size 54 3 out qs.length (qs.flatMap aCell)) ∧ Hid (AsOwn w1 wr out qs) ∧ Hid (TapeAt wr b ⟨l, B0⟩ k') ∧ Hid (Keeps [b] w1 wr)) (fun out _ => match out with | .slice _ m _ => n - m | _ => 0)
 case atStart => exact ⟨[], 0, by simp, (show ∀ _, _ from by simp), World.ownsRow_nil _ _ _ _, (show AsOwn _ _ _ _ from by intro q hq; cases hq), HT0.out, Keeps.refl _ _⟩
 case round =>
  obtain ⟨qs, k', hq, Hok, Hown, Hds, HT, HK⟩ := hrel
  obtain ⟨Ao, co, e0⟩ : ∃ Ao co, u6 = .slice Ao qs.length co := by
   rcases Hown.out.2 with ⟨h, h'⟩ | ⟨g, cap, cur, h, _⟩
   ·exact ⟨none, 0, by rw [h, h']⟩
   ·exact ⟨_, _, h⟩
  subst e0
  obtain ⟨_, _, _, _, c1, _, hbl, _⟩ := HT.out.cells
  have hkl := HT.out.le
  simp only [] at hkl
  have hfin : Hid (AskPost n w (.returned (.slice Ao qs.length co)) wr) := by
   have hk0 : Keeps [] w wr := (Hk1.out.mono (M' := [b]) (by simp)).trans HK.out (fun g hg => .inl hg) |>.mono (fun g hg => .inr (by simp at hg; subst hg; rw [Hb.out]; exact Nat.le_refl _))
   refine ⟨_, qs.map (·.1), rfl, by simpa using hq, fun a ha => ?_, fun M hM => ⟨qs, rfl, Rd.of_own Hown.out (fun g hg => Nat.lt_of_lt_of_le (hM g hg) Hk1.out.size), fun q hq => Hds.out q hq M (fun g hg => .inl (Nat.lt_of_lt_of_le (hM g hg) Hk1.out.size))⟩, hk0⟩
   obtain ⟨q, hq, rfl⟩ := List.mem_map.1 ha
   exact Hok.out q hq
  by_cases hlt : qs.length < n
  ·by_cases hkt : k' < l.length
   ·have hd1 : decide ((qs.length : Int) < (n : Int)) = true := decide_eq_true (by omega)
    have hd2 : decide ((k' : Int) < (l.length : Int)) = true := decide_eq_true (by omega)
    clear hfin
    go_wp2_with fail
    refine (next_any b _ k' 5 wr HT.out).mono ?_
    rintro e w2 ⟨v1, k2, rfl, hv10, hv11, hT2, hK2⟩
    have hv12 := hv11 (by omega)
    have HT2 := Lib.hid hT2; have HK2 := Lib.hid hK2
    clear hv11 hT2 hK2
    go_wp2_with fail
    refine (next_any b _ k2 14 w2 HT2.out).mono ?_
    rintro e w3 ⟨v2, k3, rfl, hv20, hv21, hT3, hK3⟩
    have hv22 := hv21 (by omega)
    have HT3 := Lib.hid hT3; have HK3 := Lib.hid (HK2.out.trans hK3 (fun g hg => .inl hg))
    clear hv21 hT3 hK3
    go_wp2_with fail
    refine (log_any b _ k3 5 w3 HT3.out (by omega) (by omega)).mono ?_
    rintro e w4 ⟨lv, ll, k4, rfl, hlok, hll, hE, hT4, hK4⟩
    obtain ⟨Al, cl, rfl, _⟩ := (hE [] (by simp)).len
    have HT4 := Lib.hid hT4; have HK4 := Lib.hid (HK3.out.trans hK4 (fun g hg => .inl hg))
    have HE := Lib.hid (fun M' (hM : ∀ g ∈ M', g < wr.heap.size) => hE M' (fun g hg => Nat.lt_of_lt_of_le (hM g hg) HK3.out.size))
    have Hao : Hid (AskOk ⟨v1, v2, ll⟩) := ⟨hv10, hv12, hv20, hv22, by simp only []; omega, hlok⟩
    have hown4 := Lib.hid ((own_keep Hown.out HK4.out (fun g hg => by simp at hg; omega)).alloc (.cells (aCell (⟨v1, v2, ll⟩, .slice Al ll.length cl)).toArray 54))
    clear hlok hE hT4 hK4 HT2 HT3 HK2 HK3 HT
    simp only [aCell] at hown4
    go_wp2_with (at_builtin; refine wpList_append_any _ rfl (.tmp 23) (.tmp 31) _ rfl w1.heap.size 54 i0 _ 3 40 Tryz.underlying50 Hi0.out Hz0.out Hz1.out Hz2.out rfl (by omega) (.slice Ao qs.length co) qs.length (qs.flatMap aCell) rfl hown4.out (w4.heap.size + 1) (some ⟨w4.heap.size, 0, none⟩) 1 1 (aCell (⟨v1, v2, ll⟩, .slice Al ll.length cl)) rfl (reads_new _ _ _ _ _ rfl) ?_ ?_ ?_ ?_ ?_)
    ·intro u hu; simp [aCell] at hu; rcases hu with rfl | rfl | rfl <;> rfl
    ·unfold maxLen; omega
    ·omega
    ·have := HK.out.size; have := HK4.out.size; simp; omega
    ·intro v' w5 hown5 hg5 hat5
     have hlt0 := Hown.out.lt
     have R1 := Lib.hid (asOwn_stepK (a := ⟨v1, v2, ll⟩) Hds.out HK4.out (fun g hg => by simp at hg; omega) (fun g hg => (hlt0 g hg).2) HK.out.size HE.out hg5 hat5)
     have R2 : Hid (Keeps [b] w1 w5) := ((HK.out.trans HK4.out (fun g hg => .inl hg)).alloc _).grown hg5 (fun g hg => .inr (hlt0 g hg).1)
     have R3 : Hid (w5.ownsRow w1.heap.size 54 3 v' (qs ++ [((⟨v1, v2, ll⟩ : AskD), Value.slice Al ll.length cl)]).length ((qs ++ [((⟨v1, v2, ll⟩ : AskD), Value.slice Al ll.length cl)]).flatMap aCell)) := by
      show World.ownsRow _ _ _ _ _ _ _
      rw [List.length_append, List.flatMap_append]
      simpa using hown5
     have R4 : Hid (TapeAt w5 b ⟨l, B0⟩ k4) := HT4.out.keep2 (M' := (Value.ownBlock (.slice Ao qs.length co)).toList) (((Keeps.refl _ _).alloc _).grown hg5 (fun g hg => .inl (by simpa using hg))) (fun g hg => by
      have h1 := hlt0 g (by simpa using hg)
      have h2 : B0 ≤ w1.heap.size := by rw [← HB0.out]; exact Hk1.out.size
      exact ⟨by simp only []; omega, by omega⟩)
     have R5 : Hid (∀ q ∈ qs ++ [((⟨v1, v2, ll⟩ : AskD), Value.slice Al ll.length cl)], AskOk q.1) := fun q hq => by
      rcases List.mem_append.1 hq with hq | hq
      ·exact Hok.out q hq
      ·simp at hq; subst hq; exact Hao.out
     obtain ⟨Av, cv, ev⟩ : ∃ Av cv, v' = .slice Av (qs.length + 1) cv := by
      rcases hown5.2 with ⟨h, h'⟩ | ⟨g, cap, cur, h, _⟩
      ·omega
      ·exact ⟨_, _, h⟩
     subst ev
     clear hown5 hg5 hat5 hlt0 hown4 HE Hds Hown Hok Hao
     go_wp2
     go_roundw
     case rel => exact ⟨_, k4, by simp; omega, R5, R3, R1, R4, R2⟩
     case measure => simp; omega
   ·have hd1 : decide ((qs.length : Int) < (n : Int)) = true := decide_eq_true (by omega)
    have hd2 : decide ((k' : Int) < (l.length : Int)) = false := decide_eq_false (by omega)
    go_wp2
    go_ret
    exact hfin.out
  ·have hd1 : decide ((qs.length : Int) < (n : Int)) = false := decide_eq_false (by omega)
   go_wp2
   go_ret
   exact hfin.out
end Go.Proofs.YtinnifhnabncfaaGreatDoor.Vi
end
