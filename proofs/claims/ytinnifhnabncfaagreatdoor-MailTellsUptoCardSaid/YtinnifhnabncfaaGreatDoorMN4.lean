/- Texts put together: MPut, EqF, Msg1, Msg2, Msg3. -/
import Derived.Deep.MidRow
import Derived.Test.YtinnifhnabncfaaGreatDoorMN3
set_option linter.unusedVariables false
set_option linter.unusedSimpArgs false
section
namespace Go.Proofs.YtinnifhnabncfaaGreatDoor.Vi
open Go.RowKit Base Mem Go.Shelf
def eBlob (e : EntryD) : List UInt8 := Lib.uvarint (bytesE e).length ++ bytesE e
def putLog (es : List EntryD) : List UInt8 := Lib.uvarint es.length ++ es.flatMap eBlob
/-- An entry that may be, of texts that are short. -/
def EOk (e : EntryD) : Prop := rightE e = 0 ∧ Short e ∧ Wf e
theorem ens_at {w : World} {M : List Nat} {v : Value} {l : List EntryD} (h : Ens w M v l) {k : Nat} (hk : k < l.length) :
  ∃ g off cap dv, v = .slice (some ⟨g, off, none⟩) l.length cap ∧ g < w.heap.size ∧ g ∉ M ∧ Ds w M dv l[k].ds ∧ ∀ j u, (eCell (l[k], dv))[j]? = some u → w.cell? ⟨g, off + k * 9 + j, none⟩ = some u := by
 obtain ⟨ps, rfl, hr, hd⟩ := h
 have hk' : k < ps.length := by simpa using hk
 obtain ⟨g, off, cap, e, _, hg, hm, hx⟩ := Rd.at_ eCell 9 (fun _ => rfl) hr hk'
 refine ⟨g, off, cap, ps[k].2, by simpa using e, hg, hm, ?_, ?_⟩
 ·simpa using hd ps[k] (List.getElem_mem _)
 ·simpa using hx
theorem bytesE_big {e : EntryD} (h : EOk e) : (bytesE e).length ≤ 40000000000 := by
 obtain ⟨hr, ⟨hs1, hs2, _⟩, hw1, hw2, hw3, hw4⟩ := h
 obtain ⟨⟨hf0, hf8, ht0⟩, hrest⟩ := right_facts hr
 have u1 := Lib.uvarint_length64 (x := e.fr.toNat) (by omega)
 have u2 := Lib.uvarint_length64 (x := e.tag.toNat) (by omega)
 unfold bytesE headB
 by_cases hk : e.kind = 2
 ·have u3 := Lib.uvarint_length64 (x := e.ser.size) (by omega)
  have h7 : (sB e.ser).length = e.ser.size := rfl
  rw [if_pos hk]
  simp only [List.length_append, List.length_singleton]
  omega
 ·obtain ⟨_, a0, a1, s0, s1, q0, p0, d8⟩ := hrest.resolve_left hk
  have u3 := Lib.uvarint_length64 (x := e.ag.toNat) (by omega)
  have u4 := Lib.uvarint_length64 (x := e.sh.toNat) (by omega)
  have u5 := Lib.uvarint_length64 (x := e.seq.toNat) (by omega)
  have u6 := Lib.uvarint_length64 (x := e.ep.toNat) (by omega)
  have u7 := Lib.uvarint_length64 (x := e.ds.length) (by omega)
  have h8 := dBytes_len e.ds hs2 hw4
  rw [if_neg hk]
  simp only [List.length_append, List.length_singleton]
  omega
theorem eBlob_big {e : EntryD} (h : EOk e) : (eBlob e).length ≤ 40000000010 := by
 have h1 := bytesE_big h
 have h2 := Lib.uvarint_length64 (x := (bytesE e).length) (by omega)
 unfold eBlob
 rw [List.length_append]; omega
theorem blobs_big (es : List EntryD) (h : ∀ e ∈ es, EOk e) : (es.flatMap eBlob).length ≤ es.length * 40000000010 := by
 induction es with
 | nil => simp
 | cons e es ih =>
  have h1 := ih (fun x hx => h x (by simp [hx]))
  have h2 := eBlob_big (h e (by simp))
  rw [List.flatMap_cons, List.length_append, List.length_cons]
  omega
set_option maxRecDepth 100000 in
set_option maxHeartbeats 1000000 in
theorem mput_any (v : Value) (lb : List UInt8) (ev : Value) (es : List EntryD) (m : Int) (w : World) (hb : Bs w [] v lb) (he : Ens w [] ev es) (hok : ∀ e ∈ es, EOk e) (hl : es.length ≤ 128) (hlb : lb.length ≤ 1000000000) (hm : w.cell? ⟨0, 0, none⟩ = some (.int .i64 m)) :
  Calls Tryz.prog 140 #[v, ev] w fun e w' => BsPost (lb ++ putLog es) w e w' := by
 have hw0 : 0 < w.heap.size := by
  have := World.block_lt_of_cell? w _ hm
  simpa using this
 have hkeepm : Hid (∀ W, Below w.heap.size w W → W.cell? ⟨0, 0, none⟩ = some (.int .i64 m)) := fun W hb => (hb.cell (p := ⟨0, 0, none⟩) hw0).trans hm
 have hput := Lib.hid (put_any v lb es.length w hb (by omega) (by omega))
 obtain ⟨A, c, rfl, _⟩ := hb.len
 obtain ⟨Ae, ce, rfl, hce⟩ := he.len
 have He := Lib.hid he; have Hok := Lib.hid hok
 have hwl : IntKind.u64.wrap (es.length : Int) = (es.length : Int) := by rw [IntKind.wrap_u64]; omega
 have hun := Lib.uvarint_length64 (x := es.length) (by omega)
 obtain ⟨l0, hl0⟩ : ∃ l0, l0 = lb ++ Lib.uvarint es.length := ⟨_, rfl⟩
 have Hl0 := Lib.hid hl0
 have hl0l : l0.length ≤ 1000000010 := by rw [hl0, List.length_append]; omega
 rw [← hl0] at hput
 clear hb he hok hm hl0 hun
 go_enter Tryz.func140, Tryz.ntmps140
 go_wp2_with fail
 refine hput.out.mono ?_
 rintro e w1 ⟨A1, rfl, hB1, hb1⟩
 have HB1 := Lib.hid hB1; have Hb1 := Lib.hid hb1
 clear hB1 hb1 hput
 go_wp2_with fail
 go_loopw [0, 16] (fun b i wr => ∃ (x : Nat) (A' : Option Addr) (L : List UInt8), i = .int .i64 x ∧ x ≤ es.length ∧ b = .slice A' L.length L.length ∧ Hid (L = l0 ++ (es.take x).flatMap eBlob) ∧ Hid (∀ M, (∀ g ∈ M, g < w.heap.size) → Bs wr M (.slice A' L.length L.length) L) ∧ Hid (Below w.heap.size w wr)) (fun _ i _ => es.length - (intOf i).toNat)
 case atStart => exact ⟨0, A1, l0, rfl, by omega, rfl, (show l0 = l0 ++ (es.take 0).flatMap eBlob by simp), HB1.out, Hb1.out⟩
 case round =>
  obtain ⟨x, A', L, rfl, hx, rfl, HL, HB, Hbr⟩ := hrel
  by_cases hlt : x < es.length
  ·have hx1 : (x : Int) < (es.length : Int) := by omega
   obtain ⟨g, off, _, dv, e1, hg, _, hD, hcell⟩ := ens_at (He.out.keep (Keeps.of_below (M := []) Hbr.out) (by simp)) hlt
   injection e1 with e1 _ e9
   subst e1
   clear e9
   have hek := Hok.out es[x] (List.getElem_mem _)
   have HL2 : Hid (L ++ Lib.uvarint (bytesE es[x]).length ++ bytesE es[x] = l0 ++ (es.take (x + 1)).flatMap eBlob) := by
    show _ = _
    rw [List.take_succ_eq_append_getElem hlt, List.flatMap_append, HL.out]
    simp [eBlob]
   have hLl : L.length ≤ 1000000010 + 128 * 40000000010 := by
    have h1 := congrArg List.length HL.out
    have h2 := blobs_big (es.take x) (fun e he => Hok.out e (List.mem_of_mem_take he))
    have h3 : (es.take x).length ≤ 128 := by rw [List.length_take]; omega
    have h4 : (es.take x).length * 40000000010 ≤ 128 * 40000000010 := Nat.mul_le_mul_right _ h3
    rw [List.length_append] at h1
    omega
   have hbig := bytesE_big hek
   obtain ⟨Ad, cd, rfl, _⟩ := hD.len
   have a0 := hcell 0 _ rfl; have a1 := hcell 1 _ rfl; have a2 := hcell 2 _ rfl; have a3 := hcell 3 _ rfl; have a4 := hcell 4 _ rfl; have a5 := hcell 5 _ rfl; have a6 := hcell 6 _ rfl; have a7 := hcell 7 _ rfl; have a8 := hcell 8 _ rfl
   clear hcell
   generalize es[x] = en at *
   obtain ⟨kind, ag, sh, seq, ep, ds, ser, fr, tag⟩ := en
   simp only [] at a0 a1 a2 a3 a4 a5 a6 a7 a8 hD
   rw [Nat.add_zero] at a0
   obtain ⟨w2, hw2⟩ : ∃ w2, w2 = wr.alloc (.cells #[.int .i64 kind, .int .i64 ag, .int .i64 sh, .int .i64 seq, .int .i64 ep, .slice Ad ds.length cd, .string ser, .int .i64 fr, .int .i64 tag] 26) := ⟨_, rfl⟩
   have hk2 : Keeps [] wr w2 := by rw [hw2]; exact (Keeps.refl _ _).alloc _
   have hb2 : Below w.heap.size w w2 := ((Keeps.of_below (M := []) Hbr.out).trans hk2 (by simp)).below
   have hby := ebytes_ok ⟨kind, ag, sh, seq, ep, ds, ser, fr, tag⟩ (.slice Ad ds.length cd) m w2 hek.1 (hD.keep hk2 (by simp)) hek.2.1 hek.2.2 (hkeepm.out _ hb2)
   simp only [eCell] at hby
   have Hby := Lib.hid hby
   have Hw2 := Lib.hid hw2; have Hb2 := Lib.hid hb2
   have Hbw := Lib.hid (HB.out)
   have hk2' := Lib.hid hk2
   generalize bytesE ⟨kind, ag, sh, seq, ep, ds, ser, fr, tag⟩ = bx at *
   clear hby hw2 hb2 hek hD hk2
   go_wp2_with fail
   rw [← Hw2.out]
   refine Hby.out.mono ?_
   rintro e w3 ⟨A3, rfl, hS3, hb3⟩
   have HS3 := Lib.hid (hS3 [] (by simp)); have Hb3 := Lib.hid (below_then Hb2.out hb3)
   have cv := conv_bytes HS3.out
   have HB3 := Lib.hid (fun M hM => (Hbw.out M hM).keep ((Keeps.of_below (M := []) (a := wr) hk2'.out.below).trans (Keeps.of_below (M := []) hb3) (by simp)) (by simp) : ∀ M, (∀ g ∈ M, g < w.heap.size) → Bs w3 M (.slice A' L.length L.length) L)
   have Htx := text_any _ L ⟨bx.toArray⟩ w3 (HB3.out [] (by simp)) (by show L.length + bx.toArray.size ≤ _; rw [List.size_toArray]; omega)
   rw [show (⟨bx.toArray⟩ : ByteArray).size = bx.length from List.size_toArray .., show sB ⟨bx.toArray⟩ = bx from rfl] at Htx
   have HTx := Lib.hid Htx
   generalize hL3 : L ++ Lib.uvarint bx.length ++ bx = L3 at *
   clear hS3 hb3 Hby Htx hL3 HS3
   go_wp2_with fail
   refine HTx.out.mono ?_
   rintro e w4 ⟨A4, rfl, hS4, hb4⟩
   have HB4 : Hid (∀ M, (∀ g ∈ M, g < w.heap.size) → Bs w4 M (.slice A4 L3.length L3.length) L3) := fun M hM => hS4 M (fun g hg => by have := hM g hg; have := Hb3.out.size; omega)
   have Hb4 := Lib.hid (below_then Hb3.out hb4)
   clear hS4 hb4 HTx cv
   go_wp2
   go_roundw
   case rel => exact ⟨x + 1, A4, L3, by go_num, by omega, rfl, HL2, HB4, Hb4⟩
   case measure => simp [intOf] <;> omega
  ·obtain rfl : x = es.length := by omega
   have hfin : Hid (L = lb ++ putLog es) := by
    show _ = _
    rw [HL.out, List.take_length, Hl0.out]
    unfold putLog
    rw [List.append_assoc]
   have hp : Hid (BsPost (lb ++ putLog es) w (.returned (.slice A' L.length L.length)) wr) := by
    show BsPost _ _ _ _
    rw [← hfin.out]
    exact ⟨A', rfl, HB.out, Hbr.out⟩
   go_wp2
   go_ret
   exact hp.out
end Go.Proofs.YtinnifhnabncfaaGreatDoor.Vi
end
section
namespace Go.Proofs.YtinnifhnabncfaaGreatDoor.Vi
open Go.RowKit Base Mem Go.Shelf
def rowsEq (a b : List EntryD) : Bool := Lib.allEq sameE a b
/-- No row of an entry is too long to be counted. -/
def Cnt (l : List EntryD) : Prop := l.length ≤ 4611686018427387904 ∧ ∀ e ∈ l, e.ds.length ≤ 4611686018427387904
instance : Inhabited EntryD := ⟨⟨0, 0, 0, 0, 0, [], ⟨#[]⟩, 0, 0⟩⟩
theorem allEq_drop (a b : List EntryD) (x : Nat) (hx : x < a.length) (hy : x < b.length) : Lib.allEq sameE (a.drop x) (b.drop x) = (sameE a[x] b[x] && Lib.allEq sameE (a.drop (x + 1)) (b.drop (x + 1))) := by
 rw [List.drop_eq_getElem_cons hx, List.drop_eq_getElem_cons hy]
 rfl
set_option maxRecDepth 100000 in
set_option maxHeartbeats 1000000 in
theorem eqfunc_any (va vb : Value) (a b : List EntryD) (w : World) (ha : Ens w [] va a) (hb : Ens w [] vb b) (ca : Cnt a) (cb : Cnt b) :
  Calls Tryz.prog 153 #[va, vb, .func (.func 23) #[] #[]] w fun e w' => SamePost (rowsEq a b) w e w' := by
 have Ha := Lib.hid ha; have Hb := Lib.hid hb
 obtain ⟨Aa, ka, rfl, hka⟩ := ha.len
 obtain ⟨Ab, kb, rfl, hkb⟩ := hb.len
 have ha2 := ca.1; have hb2 := cb.1
 have Hca := Lib.hid ca.2; have Hcb := Lib.hid cb.2
 clear ha hb ca cb
 by_cases hne : a.length = b.length
 ·have hbn : ((a.length : Int) != (b.length : Int)) = false := by simp [hne]
  have Hne := Lib.hid hne
  have hHr : Hid (rowsEq a b = Lib.allEq sameE (a.drop 0) (b.drop 0)) := rfl
  clear hne
  go_enter Tryz.func153, Tryz.ntmps153
  go_wp2_with fail
  go_loopw [17] (fun i wr => ∃ x : Nat, i = .int .i64 x ∧ x ≤ a.length ∧ Hid (rowsEq a b = Lib.allEq sameE (a.drop x) (b.drop x)) ∧ Hid (Below w.heap.size w wr)) (fun i _ => a.length - (intOf i).toNat)
  case atStart => exact ⟨0, rfl, by omega, hHr, Below.refl _ _⟩
  case round =>
   obtain ⟨x, rfl, hx, Hq, Hbr⟩ := hrel
   by_cases hlt : x < a.length
   ·have hx1 : (x : Int) < (a.length : Int) := by omega
    have hx0 : (0 : Int) ≤ (x : Int) := by omega
    have hxb : x < b.length := by have := Hne.out; omega
    have hx2 : (x : Int) < (b.length : Int) := by omega
    have HQ2 : Hid (rowsEq a b = (sameE a[x] b[x] && Lib.allEq sameE (a.drop (x + 1)) (b.drop (x + 1)))) := by show _ = _; rw [Hq.out, allEq_drop a b x hlt hxb]
    obtain ⟨ga, oa, _, da, e1, _, _, hDa, hca⟩ := ens_at (Ha.out.keep (Keeps.of_below (M := []) Hbr.out) (by simp)) hlt
    obtain ⟨gb, ob, _, db, e2, _, _, hDb, hcb⟩ := ens_at (Hb.out.keep (Keeps.of_below (M := []) Hbr.out) (by simp)) hxb
    injection e1 with e1 _ e9
    injection e2 with e2 _ e8
    subst e1 e2
    clear e9 e8
    have hsm := Lib.hid (fun W (hk : Keeps [] wr W) => same_any a[x] b[x] da db W (hDa.keep hk (by simp)) (hDb.keep hk (by simp)) (Hca.out _ (List.getElem_mem _)) (Hcb.out _ (List.getElem_mem _)))
    obtain ⟨Da, na, rfl, _⟩ := hDa.len
    obtain ⟨Db, nb, rfl, _⟩ := hDb.len
    have a0 := hca 0 _ rfl; have a1 := hca 1 _ rfl; have a2 := hca 2 _ rfl; have a3 := hca 3 _ rfl; have a4 := hca 4 _ rfl; have a5 := hca 5 _ rfl; have a6 := hca 6 _ rfl; have a7 := hca 7 _ rfl; have a8 := hca 8 _ rfl
    have b0 := hcb 0 _ rfl; have b1 := hcb 1 _ rfl; have b2 := hcb 2 _ rfl; have b3 := hcb 3 _ rfl; have b4 := hcb 4 _ rfl; have b5 := hcb 5 _ rfl; have b6 := hcb 6 _ rfl; have b7 := hcb 7 _ rfl; have b8 := hcb 8 _ rfl
    rw [Nat.add_zero] at a0 b0
    clear hca hcb hDa hDb
    generalize a[x] = ea at *
    generalize b[x] = eb at *
    generalize sameE ea eb = sm at *
    obtain ⟨kind, ag, sh, seq, ep, ds, ser, fr, tag⟩ := ea
    obtain ⟨kind', ag', sh', seq', ep', ds', ser', fr', tag'⟩ := eb
    simp only [eCell] at hsm
    simp only [] at a0 a1 a2 a3 a4 a5 a6 a7 a8 b0 b1 b2 b3 b4 b5 b6 b7 b8
    obtain ⟨w1, hw1⟩ : ∃ w1, w1 = wr.alloc (.cells #[.int .i64 kind, .int .i64 ag, .int .i64 sh, .int .i64 seq, .int .i64 ep, .slice Da ds.length na, .string ser, .int .i64 fr, .int .i64 tag] 26) := ⟨_, rfl⟩
    have hk1 : Keeps [] wr w1 := by rw [hw1]; exact (Keeps.refl _ _).alloc _
    have HB1 := Lib.hid (show Blk w1 wr.heap.size 26 #[.int .i64 kind, .int .i64 ag, .int .i64 sh, .int .i64 seq, .int .i64 ep, .slice Da ds.length na, .string ser, .int .i64 fr, .int .i64 tag] by rw [hw1]; exact Blk.new wr _ _)
    have hgb : gb < wr.heap.size := World.block_lt_of_cell? wr _ b0
    have c0 := (hk1.cell (p := ⟨gb, ob + x * 9, none⟩) hgb (by simp)).trans b0
    have c1 := (hk1.cell (p := ⟨gb, ob + x * 9 + 1, none⟩) hgb (by simp)).trans b1
    have c2 := (hk1.cell (p := ⟨gb, ob + x * 9 + 2, none⟩) hgb (by simp)).trans b2
    have c3 := (hk1.cell (p := ⟨gb, ob + x * 9 + 3, none⟩) hgb (by simp)).trans b3
    have c4 := (hk1.cell (p := ⟨gb, ob + x * 9 + 4, none⟩) hgb (by simp)).trans b4
    have c5 := (hk1.cell (p := ⟨gb, ob + x * 9 + 5, none⟩) hgb (by simp)).trans b5
    have c6 := (hk1.cell (p := ⟨gb, ob + x * 9 + 6, none⟩) hgb (by simp)).trans b6
    have c7 := (hk1.cell (p := ⟨gb, ob + x * 9 + 7, none⟩) hgb (by simp)).trans b7
    have c8 := (hk1.cell (p := ⟨gb, ob + x * 9 + 8, none⟩) hgb (by simp)).trans b8
    have Hw1 := Lib.hid hw1; have Hk1 := Lib.hid hk1
    have Hs1 := Lib.hid (hsm.out (w1.alloc (.cells #[.int .i64 kind', .int .i64 ag', .int .i64 sh', .int .i64 seq', .int .i64 ep', .slice Db ds'.length nb, .string ser', .int .i64 fr', .int .i64 tag'] 26)) (hk1.alloc _))
    clear hw1 hk1 hsm b0 b1 b2 b3 b4 b5 b6 b7 b8 hgb
    go_upto_region 6 with (fail)
    rw [← Hw1.out]
    clear a0 a1 a2 a3 a4 a5 a6 a7 a8
    generalize wr.heap.size = g1 at *
    have hg1 : g1 < w1.heap.size := HB1.out.lt
    obtain ⟨w2, hw2⟩ : ∃ w2, w2 = w1.alloc (.cells #[.int .i64 kind', .int .i64 ag', .int .i64 sh', .int .i64 seq', .int .i64 ep', .slice Db ds'.length nb, .string ser', .int .i64 fr', .int .i64 tag'] 26) := ⟨_, rfl⟩
    have hB2 : Blk w2 w1.heap.size 26 #[.int .i64 kind', .int .i64 ag', .int .i64 sh', .int .i64 seq', .int .i64 ep', .slice Db ds'.length nb, .string ser', .int .i64 fr', .int .i64 tag'] := by rw [hw2]; exact Blk.new w1 _ _
    have hB1 : Blk w2 g1 26 #[.int .i64 kind, .int .i64 ag, .int .i64 sh, .int .i64 seq, .int .i64 ep, .slice Da ds.length na, .string ser, .int .i64 fr, .int .i64 tag] := by rw [hw2]; exact HB1.out.below (below_new' _ _) hg1
    have Hb2 : Hid (Below w.heap.size w w2) := by rw [hw2]; exact ((Keeps.of_below (M := []) Hbr.out).trans (Hk1.out.alloc _) (by simp)).below
    rw [← hw2] at Hs1
    have HB2 := Lib.hid hB2; have HB1 := Lib.hid hB1; have Hw2 := Lib.hid hw2
    clear hB2 hB1 hw2
    go_upto_region 7 with (fail)
    rw [← Hw2.out]
    clear c0 c1 c2 c3 c4 c5 c6 c7 c8
    generalize w1.heap.size = g2 at *
    obtain ⟨q0, q1, q2, q3, q4, q5, q6, q7, q8, qf⟩ := blk9 HB1.out
    obtain ⟨r0, r1, r2, r3, r4, r5, r6, r7, r8, rf⟩ := blk9 HB2.out
    go_wp2_with fail
    refine Hs1.out.mono ?_
    rintro e w3 ⟨rfl, hb3⟩
    have Hb3 := Lib.hid (below_then Hb2.out hb3)
    clear hb3 Hs1 q0 q1 q2 q3 q4 q5 q6 q7 q8 qf r0 r1 r2 r3 r4 r5 r6 r7 r8 rf
    cases sm with
    | true =>
     have HQ3 : Hid (rowsEq a b = Lib.allEq sameE (a.drop (x + 1)) (b.drop (x + 1))) := by show _ = _; rw [HQ2.out]; rfl
     clear HQ2
     go_wp2
     go_roundw
     case rel => exact ⟨x + 1, by go_num, by omega, HQ3, Hb3⟩
     case measure => simp [intOf] <;> omega
    | false =>
     have hR : Hid (rowsEq a b = false) := by show _ = _; rw [HQ2.out]; rfl
     clear HQ2
     go_wp2
     go_ret
     exact ⟨ret_bool hR.out.symm, Hb3.out⟩
   ·obtain rfl : x = a.length := by omega
    have hR : Hid (rowsEq a b = true) := by
     show _ = _
     rw [Hq.out, List.drop_length, List.drop_eq_nil_of_le (by have := Hne.out; omega)]
     rfl
    go_wp2
    go_ret
    exact ⟨ret_bool hR.out.symm, Hbr.out⟩
 ·have hR : Hid (rowsEq a b = false) := Lib.allEq_len sameE a b hne
  have hbn : ((a.length : Int) != (b.length : Int)) = true := by simp; omega
  rw [hR.out]
  clear hne
  go_enter Tryz.func153, Tryz.ntmps153
  go_wp2
  go_ret
  exact ⟨rfl, Below.refl _ _⟩
theorem rows_any (va vb : Value) (a b : List EntryD) (w : World) (ha : Ens w [] va a) (hb : Ens w [] vb b) (ca : Cnt a) (cb : Cnt b) :
  Calls Tryz.prog 98 #[va, vb] w fun e w' => SamePost (rowsEq a b) w e w' := by
 have h := Lib.hid (eqfunc_any va vb a b w ha hb ca cb)
 obtain ⟨Aa, ka, rfl, hka⟩ := ha.len
 obtain ⟨Ab, kb, rfl, hkb⟩ := hb.len
 clear ha hb ca cb
 generalize rowsEq a b = R at *
 go_enter Tryz.func98, Tryz.ntmps98
 go_wp2_with fail
 refine h.out.mono ?_
 rintro e w' ⟨rfl, hb⟩
 have Hb := Lib.hid hb
 clear hb
 go_wp2
 go_ret
 exact ⟨rfl, Hb.out⟩
end Go.Proofs.YtinnifhnabncfaaGreatDoor.Vi
end
section
namespace Go.Proofs.YtinnifhnabncfaaGreatDoor.Vi
open Go.RowKit Base Mem Go.Shelf
structure MsgD where
 kd : Int
 en : EntryD
 tag : Int
 code : Int
 nn : Int
 term : Int
 had : Int
 log : List EntryD
 commit : Int
 len : Int
def mCell (m : MsgD) (dv lv : Value) : List Value := .int .i64 m.kd :: (eCell (m.en, dv) ++ [.int .i64 m.tag, .int .i64 m.code, .int .u64 m.nn, .int .i64 m.term, .int .i64 m.had, lv, .int .i64 m.commit, .int .i64 m.len])
/-- A message's slices read as its deltas and its row. -/
def MsgAt (w : World) (M : List Nat) (m : MsgD) (dv lv : Value) : Prop := Ds w M dv m.en.ds ∧ Ens w M lv m.log
theorem MsgAt.keep {w w' : World} {M M' : List Nat} {m : MsgD} {dv lv : Value} (h : MsgAt w M m dv lv) (k : Keeps M' w w') (hM : ∀ g ∈ M', g ∈ M ∨ w.heap.size ≤ g) : MsgAt w' M m dv lv := ⟨h.1.keep k hM, h.2.keep k hM⟩
theorem MsgAt.avoid {w : World} {M M' : List Nat} {m : MsgD} {dv lv : Value} (h : MsgAt w M m dv lv) (hM : ∀ g ∈ M', g ∈ M ∨ w.heap.size ≤ g) : MsgAt w M' m dv lv := ⟨h.1.avoid hM, h.2.avoid hM⟩
def MCnt (m : MsgD) : Prop := m.en.ds.length ≤ 4611686018427387904 ∧ Cnt m.log
theorem blk18 {w : World} {g : Nat} {t : TypeId} {c0 c1 c2 c3 c4 c5 c6 c7 c8 c9 ca cb cc cd ce cf cg ch : Value} (h : Blk w g t #[c0, c1, c2, c3, c4, c5, c6, c7, c8, c9, ca, cb, cc, cd, ce, cf, cg, ch]) :
  w.cell? ⟨g, 0, none⟩ = some c0 ∧ w.cell? ⟨g, 1, none⟩ = some c1 ∧ w.cell? ⟨g, 2, none⟩ = some c2 ∧ w.cell? ⟨g, 3, none⟩ = some c3 ∧ w.cell? ⟨g, 4, none⟩ = some c4 ∧ w.cell? ⟨g, 5, none⟩ = some c5 ∧ w.cell? ⟨g, 6, none⟩ = some c6 ∧ w.cell? ⟨g, 7, none⟩ = some c7 ∧ w.cell? ⟨g, 8, none⟩ = some c8 ∧ w.cell? ⟨g, 9, none⟩ = some c9 ∧ w.cell? ⟨g, 10, none⟩ = some ca ∧ w.cell? ⟨g, 11, none⟩ = some cb ∧ w.cell? ⟨g, 12, none⟩ = some cc ∧ w.cell? ⟨g, 13, none⟩ = some cd ∧ w.cell? ⟨g, 14, none⟩ = some ce ∧ w.cell? ⟨g, 15, none⟩ = some cf ∧ w.cell? ⟨g, 16, none⟩ = some cg ∧ w.cell? ⟨g, 17, none⟩ = some ch ∧ (∀ i, w.frozen? ⟨g, i, none⟩ = false) :=
 ⟨h.cell 0, h.cell 1, h.cell 2, h.cell 3, h.cell 4, h.cell 5, h.cell 6, h.cell 7, h.cell 8, h.cell 9, h.cell 10, h.cell 11, h.cell 12, h.cell 13, h.cell 14, h.cell 15, h.cell 16, h.cell 17, h.frozen⟩
/-- Are messages the same? -/
def sameM (a b : MsgD) : Bool := sameE a.en b.en && rowsEq a.log b.log && (a.kd == b.kd && a.tag == b.tag && a.code == b.code && a.nn == b.nn && a.term == b.term && a.had == b.had && a.commit == b.commit && a.len == b.len)
set_option maxRecDepth 100000 in
set_option maxHeartbeats 2000000 in
theorem msame_any (a b : MsgD) (da la db lb : Value) (w : World) (ha : MsgAt w [] a da la) (hb : MsgAt w [] b db lb) (ca : MCnt a) (cb : MCnt b) :
  Calls Tryz.prog 50 #[.agg (mCell a da la).toArray, .agg (mCell b db lb).toArray] w fun r w' => SamePost (sameM a b) w r w' := by
 have hse := Lib.hid (fun W (hk : Keeps [] w W) => same_any a.en b.en da db W (ha.1.keep hk (by simp)) (hb.1.keep hk (by simp)) ca.1 cb.1)
 have hro := Lib.hid (fun W (hk : Keeps [] w W) => rows_any la lb a.log b.log W (ha.2.keep hk (by simp)) (hb.2.keep hk (by simp)) ca.2 cb.2)
 have HS : Hid (sameM a b = (sameE a.en b.en && rowsEq a.log b.log && (a.kd == b.kd && a.tag == b.tag && a.code == b.code && a.nn == b.nn && a.term == b.term && a.had == b.had && a.commit == b.commit && a.len == b.len))) := rfl
 obtain ⟨Aa, na, rfl, _⟩ := ha.1.len
 obtain ⟨Ab, nb, rfl, _⟩ := hb.1.len
 obtain ⟨Ba, ka, rfl, _⟩ := ha.2.len
 obtain ⟨Bb, kb, rfl, _⟩ := hb.2.len
 generalize sameM a b = R at *
 generalize sameE a.en b.en = s1 at *
 generalize rowsEq a.log b.log = s2 at *
 clear ha hb ca cb
 obtain ⟨kd, ⟨kind, ag, sh, seq, ep, ds, ser, fr, etg⟩, tag, code, nn, term, had, log, commit, len⟩ := a
 obtain ⟨kdz, ⟨kindz, agz, shz, seqz, epz, dsz, serz, frz, etgz⟩, tagz, codez, nnz, termz, hadz, logz, commitz, lenz⟩ := b
 simp only [eCell] at hse
 simp only [] at HS hro
 generalize ds.length = dn at *
 generalize dsz.length = dnz at *
 generalize log.length = ln at *
 generalize logz.length = lnz at *
 simp only [mCell, eCell, List.cons_append, List.nil_append]
 obtain ⟨w2, hw2⟩ : ∃ w2, w2 = (w.alloc (.cells #[.int .i64 kd, .int .i64 kind, .int .i64 ag, .int .i64 sh, .int .i64 seq, .int .i64 ep, .slice Aa dn na, .string ser, .int .i64 fr, .int .i64 etg, .int .i64 tag, .int .i64 code, .int .u64 nn, .int .i64 term, .int .i64 had, .slice Ba ln ka, .int .i64 commit, .int .i64 len] 68)).alloc (.cells #[.int .i64 kdz, .int .i64 kindz, .int .i64 agz, .int .i64 shz, .int .i64 seqz, .int .i64 epz, .slice Ab dnz nb, .string serz, .int .i64 frz, .int .i64 etgz, .int .i64 tagz, .int .i64 codez, .int .u64 nnz, .int .i64 termz, .int .i64 hadz, .slice Bb lnz kb, .int .i64 commitz, .int .i64 lenz] 68) := ⟨_, rfl⟩
 have hk2 : Keeps [] w w2 := by rw [hw2]; exact ((Keeps.refl _ _).alloc _).alloc _
 have hBa : Blk w2 w.heap.size 68 #[.int .i64 kd, .int .i64 kind, .int .i64 ag, .int .i64 sh, .int .i64 seq, .int .i64 ep, .slice Aa dn na, .string ser, .int .i64 fr, .int .i64 etg, .int .i64 tag, .int .i64 code, .int .u64 nn, .int .i64 term, .int .i64 had, .slice Ba ln ka, .int .i64 commit, .int .i64 len] := by rw [hw2]; exact (Blk.new w _ _).below (below_new' _ _) (by simp)
 have hBb : Blk w2 (w.heap.size + 1) 68 #[.int .i64 kdz, .int .i64 kindz, .int .i64 agz, .int .i64 shz, .int .i64 seqz, .int .i64 epz, .slice Ab dnz nb, .string serz, .int .i64 frz, .int .i64 etgz, .int .i64 tagz, .int .i64 codez, .int .u64 nnz, .int .i64 termz, .int .i64 hadz, .slice Bb lnz kb, .int .i64 commitz, .int .i64 lenz] := by
  have := Blk.new (w.alloc (.cells #[.int .i64 kd, .int .i64 kind, .int .i64 ag, .int .i64 sh, .int .i64 seq, .int .i64 ep, .slice Aa dn na, .string ser, .int .i64 fr, .int .i64 etg, .int .i64 tag, .int .i64 code, .int .u64 nn, .int .i64 term, .int .i64 had, .slice Ba ln ka, .int .i64 commit, .int .i64 len] 68)) 68 #[.int .i64 kdz, .int .i64 kindz, .int .i64 agz, .int .i64 shz, .int .i64 seqz, .int .i64 epz, .slice Ab dnz nb, .string serz, .int .i64 frz, .int .i64 etgz, .int .i64 tagz, .int .i64 codez, .int .u64 nnz, .int .i64 termz, .int .i64 hadz, .slice Bb lnz kb, .int .i64 commitz, .int .i64 lenz]
  rw [hw2]; simpa using this
 have Hw2 := Lib.hid hw2; have HBa := Lib.hid hBa; have HBb := Lib.hid hBb; have Hk2 := Lib.hid hk2
 have Hs1 := Lib.hid (hse.out w2 hk2)
 clear hw2 hBa hBb hk2 hse
 show Calls Tryz.prog 50 #[.agg #[.int .i64 kd, .int .i64 kind, .int .i64 ag, .int .i64 sh, .int .i64 seq, .int .i64 ep, .slice Aa dn na, .string ser, .int .i64 fr, .int .i64 etg, .int .i64 tag, .int .i64 code, .int .u64 nn, .int .i64 term, .int .i64 had, .slice Ba ln ka, .int .i64 commit, .int .i64 len], .agg #[.int .i64 kdz, .int .i64 kindz, .int .i64 agz, .int .i64 shz, .int .i64 seqz, .int .i64 epz, .slice Ab dnz nb, .string serz, .int .i64 frz, .int .i64 etgz, .int .i64 tagz, .int .i64 codez, .int .u64 nnz, .int .i64 termz, .int .i64 hadz, .slice Bb lnz kb, .int .i64 commitz, .int .i64 lenz]] w fun r w' => SamePost R w r w'
 go_enter Tryz.func50, Tryz.ntmps50
 go_upto_region 1 with (fail)
 rw [← Hw2.out]
 have hg1 : w.heap.size + 1 < w2.heap.size := HBb.out.lt
 generalize hgs : w.heap.size = g at HBa HBb hg1 ⊢
 have Hgs := Lib.hid hgs
 clear Hw2 hgs
 obtain ⟨q0, q1, q2, q3, q4, q5, q6, q7, q8, q9, qa, qb, qc, qd, qe, qf, qg, qh, _⟩ := blk18 HBa.out
 obtain ⟨r0, r1, r2, r3, r4, r5, r6, r7, r8, r9, ra, rb, rc, rd, re, rf, rg, rh, _⟩ := blk18 HBb.out
 go_wp2_with fail
 refine Hs1.out.mono ?_
 rintro e w3 ⟨rfl, hb3⟩
 have HBa3 := Lib.hid (HBa.out.below hb3 (by omega)); have HBb3 := Lib.hid (HBb.out.below hb3 hg1)
 have Hk3 := Lib.hid (Hk2.out.trans (Keeps.of_below (M := []) hb3) (by simp))
 have hg3 : g + 1 < w3.heap.size := HBb3.out.lt
 clear hb3 Hs1 HBa HBb Hk2 q0 q1 q2 q3 q4 q5 q6 q7 q8 q9 qa qb qc qd qe qf qg qh r0 r1 r2 r3 r4 r5 r6 r7 r8 r9 ra rb rc rd re rf rg rh
 cases s1 with
 | false =>
  obtain rfl : R = false := by rw [HS.out]; simp
  go_wp2
  go_ret
  exact ⟨rfl, Hk3.out.below⟩
 | true =>
  have Hro := Lib.hid (hro.out w3 Hk3.out)
  clear hro
  obtain ⟨q0, q1, q2, q3, q4, q5, q6, q7, q8, q9, qa, qb, qc, qd, qe, qf, qg, qh, _⟩ := blk18 HBa3.out
  obtain ⟨r0, r1, r2, r3, r4, r5, r6, r7, r8, r9, ra, rb, rc, rd, re, rf, rg, rh, _⟩ := blk18 HBb3.out
  go_wp2_with fail
  refine Hro.out.mono ?_
  rintro e w4 ⟨rfl, hb4⟩
  have HBa4 := Lib.hid (HBa3.out.below hb4 (by omega)); have HBb4 := Lib.hid (HBb3.out.below hb4 hg3)
  have Hk4 := Lib.hid (Hk3.out.trans (Keeps.of_below (M := []) hb4) (by simp))
  clear hb4 Hro HBa3 HBb3 Hk3 q0 q1 q2 q3 q4 q5 q6 q7 q8 q9 qa qb qc qd qe qf qg qh r0 r1 r2 r3 r4 r5 r6 r7 r8 r9 ra rb rc rd re rf rg rh
  cases s2 with
  | false =>
   obtain rfl : R = false := by rw [HS.out]; simp
   go_wp2
   go_ret
   exact ⟨rfl, Hk4.out.below⟩
  | true =>
   obtain ⟨q0, q1, q2, q3, q4, q5, q6, q7, q8, q9, qa, qb, qc, qd, qe, qf, qg, qh, _⟩ := blk18 HBa4.out
   obtain ⟨r0, r1, r2, r3, r4, r5, r6, r7, r8, r9, ra, rb, rc, rd, re, rf, rg, rh, _⟩ := blk18 HBb4.out
   cases h0 : (kd == kdz) with
   | false =>
    obtain rfl : R = false := by rw [HS.out, h0]; simp
    clear HS
    go_wp2
    go_ret
    exact ⟨rfl, Hk4.out.below⟩
   | true =>
    cases h1 : (tag == tagz) with
    | false =>
     obtain rfl : R = false := by rw [HS.out, h0, h1]; simp
     clear HS
     go_wp2
     go_ret
     exact ⟨rfl, Hk4.out.below⟩
    | true =>
     cases h2 : (code == codez) with
     | false =>
      obtain rfl : R = false := by rw [HS.out, h0, h1, h2]; simp
      clear HS
      go_wp2
      go_ret
      exact ⟨rfl, Hk4.out.below⟩
     | true =>
      cases h3 : (nn == nnz) with
      | false =>
       obtain rfl : R = false := by rw [HS.out, h0, h1, h2, h3]; simp
       clear HS
       go_wp2
       go_ret
       exact ⟨rfl, Hk4.out.below⟩
      | true =>
       cases h4 : (term == termz) with
       | false =>
        obtain rfl : R = false := by rw [HS.out, h0, h1, h2, h3, h4]; simp
        clear HS
        go_wp2
        go_ret
        exact ⟨rfl, Hk4.out.below⟩
       | true =>
        cases h5 : (had == hadz) with
        | false =>
         obtain rfl : R = false := by rw [HS.out, h0, h1, h2, h3, h4, h5]; simp
         clear HS
         go_wp2
         go_ret
         exact ⟨rfl, Hk4.out.below⟩
        | true =>
         cases h6 : (commit == commitz) with
         | false =>
          obtain rfl : R = false := by rw [HS.out, h0, h1, h2, h3, h4, h5, h6]; simp
          clear HS
          go_wp2
          go_ret
          exact ⟨rfl, Hk4.out.below⟩
         | true =>
          cases h7 : (len == lenz) with
          | false =>
           obtain rfl : R = false := by rw [HS.out, h0, h1, h2, h3, h4, h5, h6, h7]; simp
           clear HS
           go_wp2
           go_ret
           exact ⟨rfl, Hk4.out.below⟩
          | true =>
           obtain rfl : R = true := by rw [HS.out, h0, h1, h2, h3, h4, h5, h6, h7]; simp
           clear HS
           go_wp2
           go_ret
           exact ⟨rfl, Hk4.out.below⟩
end Go.Proofs.YtinnifhnabncfaaGreatDoor.Vi
end
section
namespace Go.Proofs.YtinnifhnabncfaaGreatDoor.Vi
open Go.RowKit Base Mem Go.Shelf
def zeroM : MsgD := ⟨0, zeroD, 0, 0, 0, 0, 0, [], 0, 0⟩
/-- A message without what its kind has. -/
def clearM (m : MsgD) : MsgD :=
 if m.kd = 1 then { m with kd := 0, en := zeroD }
 else if m.kd = 2 then { m with kd := 0, tag := 0, code := 0, nn := 0 }
 else if m.kd = 3 then { m with kd := 0, term := 0 }
 else if m.kd = 4 then { m with kd := 0, term := 0, had := 0, log := [] }
 else if m.kd = 5 then { m with kd := 0, term := 0, log := [], commit := 0 }
 else if m.kd = 6 then { m with kd := 0, term := 0, len := 0 }
 else { m with kd := 0 }
def zeroS (m : MsgD) : Bool := sameM (clearM m) zeroM
theorem blk_range {w : World} {g : Nat} {T : TypeId} {cs : Array Value} (h : Blk w g T cs) : w.rangeAt g 0 cs.toList := fun j v hj => by
 rw [Nat.zero_add, h.cell j]; simpa using hj
theorem wpList_load_g {P : Program} {ops : Array Oper} {rest : List Oper} {op : Oper} {a : Act} {w : World} {Q : Exit → Act → World → Prop} (hw : Region.wanted op (yielded ops a.tmps) = true) (ty : TypeId) (x : Operand) (ho : op.op = .load ty x)
  (b o : Nat) (hx : a.eval x = .pointer (some ⟨b, o, none⟩)) (cs : List Value) (d : TypeDesc) (hc : w.rangeAt b o cs)
  (hu : P.underlying ty = some d) (hd : d.isRow = true) (hi : (P.info? ty).map (·.size) = some cs.length)
  (h : wpList P ops Q rest (a.put op.dst (.agg cs.toArray)) w) : wpList P ops Q (op :: rest) a w := by
 simp only [wpList]
 rw [if_pos hw]
 exact .inl (wp_load_mid ty x ho b o hx cs d hc hu hd hi h)
theorem cnt_nil : Cnt [] := ⟨by simp, by simp⟩
set_option maxRecDepth 100000 in
set_option maxHeartbeats 2000000 in
theorem mzero_0 (m : MsgD) (dv lv : Value) (w : World) (ha : MsgAt w [] m dv lv) (ca : MCnt m) (g1 : ¬ m.kd = 1) (g2 : ¬ m.kd = 2) (g3 : ¬ m.kd = 3) (g4 : ¬ m.kd = 4) (g5 : ¬ m.kd = 5) (g6 : ¬ m.kd = 6) :
  Calls Tryz.prog 149 #[.agg (mCell m dv lv).toArray] w fun r w' => SamePost (zeroS m) w r w' := by
 have hsm := Lib.hid (fun (m' : MsgD) (d' l' : Value) W (h : MsgAt W [] m' d' l') (c : MCnt m') => msame_any m' zeroM d' l' (.slice none 0 0) (.slice none 0 0) W h ⟨Ds.nil _ _, Ens.nil _ _⟩ c ⟨by simp [zeroM, zeroD], cnt_nil⟩)
 have HZ : Hid (∀ m', m' = clearM m → sameM m' zeroM = zeroS m) := fun m' h => by subst h; rfl
 have hav := ha.avoid (M' := [w.heap.size]) (by simp)
 obtain ⟨Aa, na, rfl, _⟩ := ha.1.len
 obtain ⟨Ba, ka, rfl, _⟩ := ha.2.len
 have Hca := Lib.hid ca
 generalize zeroS m = R at *
 clear ha ca
 obtain ⟨kd, ⟨kind, ag, sh, seq, ep, ds, ser, fr, etg⟩, tag, code, nn, term, had, log, commit, len⟩ := m
 simp only [mCell, eCell, List.cons_append, List.nil_append]
 simp only [MsgAt] at hav
 generalize hdn : ds.length = dn at *
 generalize hln : log.length = ln at *
 have Hdn := Lib.hid hdn; have Hln := Lib.hid hln
 clear hdn hln
 obtain ⟨w2, hw2⟩ : ∃ w2, w2 = w.alloc (.cells #[.int .i64 kd, .int .i64 kind, .int .i64 ag, .int .i64 sh, .int .i64 seq, .int .i64 ep, .slice Aa dn na, .string ser, .int .i64 fr, .int .i64 etg, .int .i64 tag, .int .i64 code, .int .u64 nn, .int .i64 term, .int .i64 had, .slice Ba ln ka, .int .i64 commit, .int .i64 len] 68) := ⟨_, rfl⟩
 have hk2 : Keeps [] w w2 := by rw [hw2]; exact (Keeps.refl _ _).alloc _
 have hBa : Blk w2 w.heap.size 68 #[.int .i64 kd, .int .i64 kind, .int .i64 ag, .int .i64 sh, .int .i64 seq, .int .i64 ep, .slice Aa dn na, .string ser, .int .i64 fr, .int .i64 etg, .int .i64 tag, .int .i64 code, .int .u64 nn, .int .i64 term, .int .i64 had, .slice Ba ln ka, .int .i64 commit, .int .i64 len] := by rw [hw2]; exact Blk.new w _ _
 have Hw2 := Lib.hid hw2; have HBa := Lib.hid hBa; have Hk2 := Lib.hid hk2
 have Hd2 := Lib.hid (hav.1.keep hk2 (by simp)); have Hl2 := Lib.hid (hav.2.keep hk2 (by simp))
 clear hw2 hBa hk2 hav
 show Calls Tryz.prog 149 #[.agg #[.int .i64 kd, .int .i64 kind, .int .i64 ag, .int .i64 sh, .int .i64 seq, .int .i64 ep, .slice Aa dn na, .string ser, .int .i64 fr, .int .i64 etg, .int .i64 tag, .int .i64 code, .int .u64 nn, .int .i64 term, .int .i64 had, .slice Ba ln ka, .int .i64 commit, .int .i64 len]] w fun r w' => SamePost R w r w'
 go_enter Tryz.func149, Tryz.ntmps149
 go_upto_region 1 with (fail)
 rw [← Hw2.out]
 generalize hgs : w.heap.size = g at HBa Hd2 Hl2 ⊢
 have Hgs := Lib.hid hgs
 clear Hw2 hgs
 obtain ⟨q0, q1, q2, q3, q4, q5, q6, q7, q8, q9, qa, qb, qc, qd, qe, qf, qg, qh, qz⟩ := blk18 HBa.out
 simp only [] at g1 g2 g3 g4 g5 g6
 have h1 : (kd == 1) = false := by simpa using g1
 have h2 : (kd == 2) = false := by simpa using g2
 have h3 : (kd == 3) = false := by simpa using g3
 have h4 : (kd == 4) = false := by simpa using g4
 have h5 : (kd == 5) = false := by simpa using g5
 have h6 : (kd == 6) = false := by simpa using g6
 obtain ⟨w5, hw5⟩ : ∃ w5, w5 = (w2.setCell ⟨g, 0, none⟩ (.int .i64 0)) := ⟨_, rfl⟩
 have hk : Keeps [g] w2 w5 := by rw [hw5]; exact (Keeps.refl _ _).setCell (by simp) _
 have hB5 : Blk w5 g 68 #[.int .i64 0, .int .i64 kind, .int .i64 ag, .int .i64 sh, .int .i64 seq, .int .i64 ep, .slice Aa dn na, .string ser, .int .i64 fr, .int .i64 etg, .int .i64 tag, .int .i64 code, .int .u64 nn, .int .i64 term, .int .i64 had, .slice Ba ln ka, .int .i64 commit, .int .i64 len] := by rw [hw5]; exact (by simpa using (HBa.out.set_ 0 (.int .i64 0)) : Blk _ g _ _)
 have hS := hsm.out ⟨0, ⟨kind, ag, sh, seq, ep, ds, ser, fr, etg⟩, tag, code, nn, term, had, log, commit, len⟩ (.slice Aa dn na) (.slice Ba ln ka) w5 ⟨(Hd2.out.keep hk (by simp)).avoid (by simp), (Hl2.out.keep hk (by simp)).avoid (by simp)⟩ ⟨Hca.out.1, Hca.out.2⟩
 rw [HZ.out ⟨0, ⟨kind, ag, sh, seq, ep, ds, ser, fr, etg⟩, tag, code, nn, term, had, log, commit, len⟩ (by simp [clearM, *])] at hS
 simp only [mCell, eCell, zeroM, zeroD, List.cons_append, List.nil_append] at hS
 have HS := Lib.hid (show Calls Tryz.prog 50 #[.agg #[.int .i64 0, .int .i64 kind, .int .i64 ag, .int .i64 sh, .int .i64 seq, .int .i64 ep, .slice Aa dn na, .string ser, .int .i64 fr, .int .i64 etg, .int .i64 tag, .int .i64 code, .int .u64 nn, .int .i64 term, .int .i64 had, .slice Ba ln ka, .int .i64 commit, .int .i64 len], .agg #[.int .i64 0, .int .i64 0, .int .i64 0, .int .i64 0, .int .i64 0, .int .i64 0, .slice none 0 0, .string ⟨#[]⟩, .int .i64 0, .int .i64 0, .int .i64 0, .int .i64 0, .int .u64 0, .int .i64 0, .int .i64 0, .slice none 0 0, .int .i64 0, .int .i64 0]] w5 fun r w' => SamePost R w5 r w' from hS)
 have Hbw := Lib.hid (Hk2.out.trans hk (by intro x hx; simp at hx; right; have := Hgs.out; omega)).below
 have Hw5 := Lib.hid hw5; have HB5 := Lib.hid hB5
 clear hk hw5 hB5 hS hsm HZ
 go_upto_region 15 with (fail)
 rw [← Hw5.out]
 clear q0 q1 q2 q3 q4 q5 q6 q7 q8 q9 qa qb qc qd qe qf qg qh qz
 have HR := Lib.hid (blk_range HB5.out)
 go_wp2_with (refine wpList_load_mid rfl 68 (.tmp 1) rfl g 0 rfl _ _ HR.out Tryz.underlying68 rfl (by kernel_rfl) ?_)
 refine HS.out.mono ?_
 rintro e w6 ⟨rfl, hb6⟩
 have Hb6 := Lib.hid (below_then Hbw.out hb6)
 clear hb6
 go_wp2
 go_ret
 exact ⟨rfl, Hb6.out⟩
set_option maxRecDepth 100000 in
set_option maxHeartbeats 2000000 in
theorem mzero_1 (m : MsgD) (dv lv : Value) (w : World) (ha : MsgAt w [] m dv lv) (ca : MCnt m) (hk0 : m.kd = 1) :
  Calls Tryz.prog 149 #[.agg (mCell m dv lv).toArray] w fun r w' => SamePost (zeroS m) w r w' := by
 have hsm := Lib.hid (fun (m' : MsgD) (d' l' : Value) W (h : MsgAt W [] m' d' l') (c : MCnt m') => msame_any m' zeroM d' l' (.slice none 0 0) (.slice none 0 0) W h ⟨Ds.nil _ _, Ens.nil _ _⟩ c ⟨by simp [zeroM, zeroD], cnt_nil⟩)
 have HZ : Hid (∀ m', m' = clearM m → sameM m' zeroM = zeroS m) := fun m' h => by subst h; rfl
 have hav := ha.avoid (M' := [w.heap.size]) (by simp)
 obtain ⟨Aa, na, rfl, _⟩ := ha.1.len
 obtain ⟨Ba, ka, rfl, _⟩ := ha.2.len
 have Hca := Lib.hid ca
 generalize zeroS m = R at *
 clear ha ca
 obtain ⟨kd, ⟨kind, ag, sh, seq, ep, ds, ser, fr, etg⟩, tag, code, nn, term, had, log, commit, len⟩ := m
 simp only [mCell, eCell, List.cons_append, List.nil_append]
 simp only [MsgAt] at hav
 generalize hdn : ds.length = dn at *
 generalize hln : log.length = ln at *
 have Hdn := Lib.hid hdn; have Hln := Lib.hid hln
 clear hdn hln
 obtain ⟨w2, hw2⟩ : ∃ w2, w2 = w.alloc (.cells #[.int .i64 kd, .int .i64 kind, .int .i64 ag, .int .i64 sh, .int .i64 seq, .int .i64 ep, .slice Aa dn na, .string ser, .int .i64 fr, .int .i64 etg, .int .i64 tag, .int .i64 code, .int .u64 nn, .int .i64 term, .int .i64 had, .slice Ba ln ka, .int .i64 commit, .int .i64 len] 68) := ⟨_, rfl⟩
 have hk2 : Keeps [] w w2 := by rw [hw2]; exact (Keeps.refl _ _).alloc _
 have hBa : Blk w2 w.heap.size 68 #[.int .i64 kd, .int .i64 kind, .int .i64 ag, .int .i64 sh, .int .i64 seq, .int .i64 ep, .slice Aa dn na, .string ser, .int .i64 fr, .int .i64 etg, .int .i64 tag, .int .i64 code, .int .u64 nn, .int .i64 term, .int .i64 had, .slice Ba ln ka, .int .i64 commit, .int .i64 len] := by rw [hw2]; exact Blk.new w _ _
 have Hw2 := Lib.hid hw2; have HBa := Lib.hid hBa; have Hk2 := Lib.hid hk2
 have Hd2 := Lib.hid (hav.1.keep hk2 (by simp)); have Hl2 := Lib.hid (hav.2.keep hk2 (by simp))
 clear hw2 hBa hk2 hav
 show Calls Tryz.prog 149 #[.agg #[.int .i64 kd, .int .i64 kind, .int .i64 ag, .int .i64 sh, .int .i64 seq, .int .i64 ep, .slice Aa dn na, .string ser, .int .i64 fr, .int .i64 etg, .int .i64 tag, .int .i64 code, .int .u64 nn, .int .i64 term, .int .i64 had, .slice Ba ln ka, .int .i64 commit, .int .i64 len]] w fun r w' => SamePost R w r w'
 go_enter Tryz.func149, Tryz.ntmps149
 go_upto_region 1 with (fail)
 rw [← Hw2.out]
 generalize hgs : w.heap.size = g at HBa Hd2 Hl2 ⊢
 have Hgs := Lib.hid hgs
 clear Hw2 hgs
 obtain ⟨q0, q1, q2, q3, q4, q5, q6, q7, q8, q9, qa, qb, qc, qd, qe, qf, qg, qh, qz⟩ := blk18 HBa.out
 simp only [] at hk0
 subst hk0
 obtain ⟨w5, hw5⟩ : ∃ w5, w5 = ((((((((((w2.setCell ⟨g, 1, none⟩ (.int .i64 0)).setCell ⟨g, 2, none⟩ (.int .i64 0)).setCell ⟨g, 3, none⟩ (.int .i64 0)).setCell ⟨g, 4, none⟩ (.int .i64 0)).setCell ⟨g, 5, none⟩ (.int .i64 0)).setCell ⟨g, 6, none⟩ (.slice none 0 0)).setCell ⟨g, 7, none⟩ (.string ⟨#[]⟩)).setCell ⟨g, 8, none⟩ (.int .i64 0)).setCell ⟨g, 9, none⟩ (.int .i64 0)).setCell ⟨g, 0, none⟩ (.int .i64 0)) := ⟨_, rfl⟩
 have hk : Keeps [g] w2 w5 := by rw [hw5]; exact ((((((((((Keeps.refl _ _).setCell (by simp) _).setCell (by simp) _).setCell (by simp) _).setCell (by simp) _).setCell (by simp) _).setCell (by simp) _).setCell (by simp) _).setCell (by simp) _).setCell (by simp) _).setCell (by simp) _
 have hB5 : Blk w5 g 68 #[.int .i64 0, .int .i64 0, .int .i64 0, .int .i64 0, .int .i64 0, .int .i64 0, .slice none 0 0, .string ⟨#[]⟩, .int .i64 0, .int .i64 0, .int .i64 tag, .int .i64 code, .int .u64 nn, .int .i64 term, .int .i64 had, .slice Ba ln ka, .int .i64 commit, .int .i64 len] := by rw [hw5]; exact (by simpa using ((((((((((HBa.out.set_ 1 (.int .i64 0)).set_ 2 (.int .i64 0)).set_ 3 (.int .i64 0)).set_ 4 (.int .i64 0)).set_ 5 (.int .i64 0)).set_ 6 (.slice none 0 0)).set_ 7 (.string ⟨#[]⟩)).set_ 8 (.int .i64 0)).set_ 9 (.int .i64 0)).set_ 0 (.int .i64 0)) : Blk _ g _ _)
 have hS := hsm.out ⟨0, zeroD, tag, code, nn, term, had, log, commit, len⟩ (.slice none 0 0) (.slice Ba ln ka) w5 ⟨Ds.nil _ _, (Hl2.out.keep hk (by simp)).avoid (by simp)⟩ ⟨by simp [zeroD], Hca.out.2⟩
 rw [HZ.out ⟨0, zeroD, tag, code, nn, term, had, log, commit, len⟩ (by simp [clearM])] at hS
 simp only [mCell, eCell, zeroM, zeroD, List.cons_append, List.nil_append] at hS
 have HS := Lib.hid (show Calls Tryz.prog 50 #[.agg #[.int .i64 0, .int .i64 0, .int .i64 0, .int .i64 0, .int .i64 0, .int .i64 0, .slice none 0 0, .string ⟨#[]⟩, .int .i64 0, .int .i64 0, .int .i64 tag, .int .i64 code, .int .u64 nn, .int .i64 term, .int .i64 had, .slice Ba ln ka, .int .i64 commit, .int .i64 len], .agg #[.int .i64 0, .int .i64 0, .int .i64 0, .int .i64 0, .int .i64 0, .int .i64 0, .slice none 0 0, .string ⟨#[]⟩, .int .i64 0, .int .i64 0, .int .i64 0, .int .i64 0, .int .u64 0, .int .i64 0, .int .i64 0, .slice none 0 0, .int .i64 0, .int .i64 0]] w5 fun r w' => SamePost R w5 r w' from hS)
 have Hbw := Lib.hid (Hk2.out.trans hk (by intro x hx; simp at hx; right; have := Hgs.out; omega)).below
 have Hw5 := Lib.hid hw5; have HB5 := Lib.hid hB5
 clear hk hw5 hB5 hS hsm HZ
 go_upto_region 15 with (fail)
 rw [← Hw5.out]
 clear q0 q1 q2 q3 q4 q5 q6 q7 q8 q9 qa qb qc qd qe qf qg qh qz
 have HR := Lib.hid (blk_range HB5.out)
 go_wp2_with (refine wpList_load_mid rfl 68 (.tmp 1) rfl g 0 rfl _ _ HR.out Tryz.underlying68 rfl (by kernel_rfl) ?_)
 refine HS.out.mono ?_
 rintro e w6 ⟨rfl, hb6⟩
 have Hb6 := Lib.hid (below_then Hbw.out hb6)
 clear hb6
 go_wp2
 go_ret
 exact ⟨rfl, Hb6.out⟩
set_option maxRecDepth 100000 in
set_option maxHeartbeats 2000000 in
theorem mzero_2 (m : MsgD) (dv lv : Value) (w : World) (ha : MsgAt w [] m dv lv) (ca : MCnt m) (hk0 : m.kd = 2) :
  Calls Tryz.prog 149 #[.agg (mCell m dv lv).toArray] w fun r w' => SamePost (zeroS m) w r w' := by
 have hsm := Lib.hid (fun (m' : MsgD) (d' l' : Value) W (h : MsgAt W [] m' d' l') (c : MCnt m') => msame_any m' zeroM d' l' (.slice none 0 0) (.slice none 0 0) W h ⟨Ds.nil _ _, Ens.nil _ _⟩ c ⟨by simp [zeroM, zeroD], cnt_nil⟩)
 have HZ : Hid (∀ m', m' = clearM m → sameM m' zeroM = zeroS m) := fun m' h => by subst h; rfl
 have hav := ha.avoid (M' := [w.heap.size]) (by simp)
 obtain ⟨Aa, na, rfl, _⟩ := ha.1.len
 obtain ⟨Ba, ka, rfl, _⟩ := ha.2.len
 have Hca := Lib.hid ca
 generalize zeroS m = R at *
 clear ha ca
 obtain ⟨kd, ⟨kind, ag, sh, seq, ep, ds, ser, fr, etg⟩, tag, code, nn, term, had, log, commit, len⟩ := m
 simp only [mCell, eCell, List.cons_append, List.nil_append]
 simp only [MsgAt] at hav
 generalize hdn : ds.length = dn at *
 generalize hln : log.length = ln at *
 have Hdn := Lib.hid hdn; have Hln := Lib.hid hln
 clear hdn hln
 obtain ⟨w2, hw2⟩ : ∃ w2, w2 = w.alloc (.cells #[.int .i64 kd, .int .i64 kind, .int .i64 ag, .int .i64 sh, .int .i64 seq, .int .i64 ep, .slice Aa dn na, .string ser, .int .i64 fr, .int .i64 etg, .int .i64 tag, .int .i64 code, .int .u64 nn, .int .i64 term, .int .i64 had, .slice Ba ln ka, .int .i64 commit, .int .i64 len] 68) := ⟨_, rfl⟩
 have hk2 : Keeps [] w w2 := by rw [hw2]; exact (Keeps.refl _ _).alloc _
 have hBa : Blk w2 w.heap.size 68 #[.int .i64 kd, .int .i64 kind, .int .i64 ag, .int .i64 sh, .int .i64 seq, .int .i64 ep, .slice Aa dn na, .string ser, .int .i64 fr, .int .i64 etg, .int .i64 tag, .int .i64 code, .int .u64 nn, .int .i64 term, .int .i64 had, .slice Ba ln ka, .int .i64 commit, .int .i64 len] := by rw [hw2]; exact Blk.new w _ _
 have Hw2 := Lib.hid hw2; have HBa := Lib.hid hBa; have Hk2 := Lib.hid hk2
 have Hd2 := Lib.hid (hav.1.keep hk2 (by simp)); have Hl2 := Lib.hid (hav.2.keep hk2 (by simp))
 clear hw2 hBa hk2 hav
 show Calls Tryz.prog 149 #[.agg #[.int .i64 kd, .int .i64 kind, .int .i64 ag, .int .i64 sh, .int .i64 seq, .int .i64 ep, .slice Aa dn na, .string ser, .int .i64 fr, .int .i64 etg, .int .i64 tag, .int .i64 code, .int .u64 nn, .int .i64 term, .int .i64 had, .slice Ba ln ka, .int .i64 commit, .int .i64 len]] w fun r w' => SamePost R w r w'
 go_enter Tryz.func149, Tryz.ntmps149
 go_upto_region 1 with (fail)
 rw [← Hw2.out]
 generalize hgs : w.heap.size = g at HBa Hd2 Hl2 ⊢
 have Hgs := Lib.hid hgs
 clear Hw2 hgs
 obtain ⟨q0, q1, q2, q3, q4, q5, q6, q7, q8, q9, qa, qb, qc, qd, qe, qf, qg, qh, qz⟩ := blk18 HBa.out
 simp only [] at hk0
 subst hk0
 obtain ⟨w5, hw5⟩ : ∃ w5, w5 = ((((w2.setCell ⟨g, 10, none⟩ (.int .i64 0)).setCell ⟨g, 11, none⟩ (.int .i64 0)).setCell ⟨g, 12, none⟩ (.int .u64 0)).setCell ⟨g, 0, none⟩ (.int .i64 0)) := ⟨_, rfl⟩
 have hk : Keeps [g] w2 w5 := by rw [hw5]; exact ((((Keeps.refl _ _).setCell (by simp) _).setCell (by simp) _).setCell (by simp) _).setCell (by simp) _
 have hB5 : Blk w5 g 68 #[.int .i64 0, .int .i64 kind, .int .i64 ag, .int .i64 sh, .int .i64 seq, .int .i64 ep, .slice Aa dn na, .string ser, .int .i64 fr, .int .i64 etg, .int .i64 0, .int .i64 0, .int .u64 0, .int .i64 term, .int .i64 had, .slice Ba ln ka, .int .i64 commit, .int .i64 len] := by rw [hw5]; exact (by simpa using ((((HBa.out.set_ 10 (.int .i64 0)).set_ 11 (.int .i64 0)).set_ 12 (.int .u64 0)).set_ 0 (.int .i64 0)) : Blk _ g _ _)
 have hS := hsm.out ⟨0, ⟨kind, ag, sh, seq, ep, ds, ser, fr, etg⟩, 0, 0, 0, term, had, log, commit, len⟩ (.slice Aa dn na) (.slice Ba ln ka) w5 ⟨(Hd2.out.keep hk (by simp)).avoid (by simp), (Hl2.out.keep hk (by simp)).avoid (by simp)⟩ ⟨Hca.out.1, Hca.out.2⟩
 rw [HZ.out ⟨0, ⟨kind, ag, sh, seq, ep, ds, ser, fr, etg⟩, 0, 0, 0, term, had, log, commit, len⟩ (by simp [clearM])] at hS
 simp only [mCell, eCell, zeroM, zeroD, List.cons_append, List.nil_append] at hS
 have HS := Lib.hid (show Calls Tryz.prog 50 #[.agg #[.int .i64 0, .int .i64 kind, .int .i64 ag, .int .i64 sh, .int .i64 seq, .int .i64 ep, .slice Aa dn na, .string ser, .int .i64 fr, .int .i64 etg, .int .i64 0, .int .i64 0, .int .u64 0, .int .i64 term, .int .i64 had, .slice Ba ln ka, .int .i64 commit, .int .i64 len], .agg #[.int .i64 0, .int .i64 0, .int .i64 0, .int .i64 0, .int .i64 0, .int .i64 0, .slice none 0 0, .string ⟨#[]⟩, .int .i64 0, .int .i64 0, .int .i64 0, .int .i64 0, .int .u64 0, .int .i64 0, .int .i64 0, .slice none 0 0, .int .i64 0, .int .i64 0]] w5 fun r w' => SamePost R w5 r w' from hS)
 have Hbw := Lib.hid (Hk2.out.trans hk (by intro x hx; simp at hx; right; have := Hgs.out; omega)).below
 have Hw5 := Lib.hid hw5; have HB5 := Lib.hid hB5
 clear hk hw5 hB5 hS hsm HZ
 go_upto_region 15 with (fail)
 rw [← Hw5.out]
 clear q0 q1 q2 q3 q4 q5 q6 q7 q8 q9 qa qb qc qd qe qf qg qh qz
 have HR := Lib.hid (blk_range HB5.out)
 go_wp2_with (refine wpList_load_mid rfl 68 (.tmp 1) rfl g 0 rfl _ _ HR.out Tryz.underlying68 rfl (by kernel_rfl) ?_)
 refine HS.out.mono ?_
 rintro e w6 ⟨rfl, hb6⟩
 have Hb6 := Lib.hid (below_then Hbw.out hb6)
 clear hb6
 go_wp2
 go_ret
 exact ⟨rfl, Hb6.out⟩
set_option maxRecDepth 100000 in
set_option maxHeartbeats 2000000 in
theorem mzero_3 (m : MsgD) (dv lv : Value) (w : World) (ha : MsgAt w [] m dv lv) (ca : MCnt m) (hk0 : m.kd = 3) :
  Calls Tryz.prog 149 #[.agg (mCell m dv lv).toArray] w fun r w' => SamePost (zeroS m) w r w' := by
 have hsm := Lib.hid (fun (m' : MsgD) (d' l' : Value) W (h : MsgAt W [] m' d' l') (c : MCnt m') => msame_any m' zeroM d' l' (.slice none 0 0) (.slice none 0 0) W h ⟨Ds.nil _ _, Ens.nil _ _⟩ c ⟨by simp [zeroM, zeroD], cnt_nil⟩)
 have HZ : Hid (∀ m', m' = clearM m → sameM m' zeroM = zeroS m) := fun m' h => by subst h; rfl
 have hav := ha.avoid (M' := [w.heap.size]) (by simp)
 obtain ⟨Aa, na, rfl, _⟩ := ha.1.len
 obtain ⟨Ba, ka, rfl, _⟩ := ha.2.len
 have Hca := Lib.hid ca
 generalize zeroS m = R at *
 clear ha ca
 obtain ⟨kd, ⟨kind, ag, sh, seq, ep, ds, ser, fr, etg⟩, tag, code, nn, term, had, log, commit, len⟩ := m
 simp only [mCell, eCell, List.cons_append, List.nil_append]
 simp only [MsgAt] at hav
 generalize hdn : ds.length = dn at *
 generalize hln : log.length = ln at *
 have Hdn := Lib.hid hdn; have Hln := Lib.hid hln
 clear hdn hln
 obtain ⟨w2, hw2⟩ : ∃ w2, w2 = w.alloc (.cells #[.int .i64 kd, .int .i64 kind, .int .i64 ag, .int .i64 sh, .int .i64 seq, .int .i64 ep, .slice Aa dn na, .string ser, .int .i64 fr, .int .i64 etg, .int .i64 tag, .int .i64 code, .int .u64 nn, .int .i64 term, .int .i64 had, .slice Ba ln ka, .int .i64 commit, .int .i64 len] 68) := ⟨_, rfl⟩
 have hk2 : Keeps [] w w2 := by rw [hw2]; exact (Keeps.refl _ _).alloc _
 have hBa : Blk w2 w.heap.size 68 #[.int .i64 kd, .int .i64 kind, .int .i64 ag, .int .i64 sh, .int .i64 seq, .int .i64 ep, .slice Aa dn na, .string ser, .int .i64 fr, .int .i64 etg, .int .i64 tag, .int .i64 code, .int .u64 nn, .int .i64 term, .int .i64 had, .slice Ba ln ka, .int .i64 commit, .int .i64 len] := by rw [hw2]; exact Blk.new w _ _
 have Hw2 := Lib.hid hw2; have HBa := Lib.hid hBa; have Hk2 := Lib.hid hk2
 have Hd2 := Lib.hid (hav.1.keep hk2 (by simp)); have Hl2 := Lib.hid (hav.2.keep hk2 (by simp))
 clear hw2 hBa hk2 hav
 show Calls Tryz.prog 149 #[.agg #[.int .i64 kd, .int .i64 kind, .int .i64 ag, .int .i64 sh, .int .i64 seq, .int .i64 ep, .slice Aa dn na, .string ser, .int .i64 fr, .int .i64 etg, .int .i64 tag, .int .i64 code, .int .u64 nn, .int .i64 term, .int .i64 had, .slice Ba ln ka, .int .i64 commit, .int .i64 len]] w fun r w' => SamePost R w r w'
 go_enter Tryz.func149, Tryz.ntmps149
 go_upto_region 1 with (fail)
 rw [← Hw2.out]
 generalize hgs : w.heap.size = g at HBa Hd2 Hl2 ⊢
 have Hgs := Lib.hid hgs
 clear Hw2 hgs
 obtain ⟨q0, q1, q2, q3, q4, q5, q6, q7, q8, q9, qa, qb, qc, qd, qe, qf, qg, qh, qz⟩ := blk18 HBa.out
 simp only [] at hk0
 subst hk0
 obtain ⟨w5, hw5⟩ : ∃ w5, w5 = ((w2.setCell ⟨g, 13, none⟩ (.int .i64 0)).setCell ⟨g, 0, none⟩ (.int .i64 0)) := ⟨_, rfl⟩
 have hk : Keeps [g] w2 w5 := by rw [hw5]; exact ((Keeps.refl _ _).setCell (by simp) _).setCell (by simp) _
 have hB5 : Blk w5 g 68 #[.int .i64 0, .int .i64 kind, .int .i64 ag, .int .i64 sh, .int .i64 seq, .int .i64 ep, .slice Aa dn na, .string ser, .int .i64 fr, .int .i64 etg, .int .i64 tag, .int .i64 code, .int .u64 nn, .int .i64 0, .int .i64 had, .slice Ba ln ka, .int .i64 commit, .int .i64 len] := by rw [hw5]; exact (by simpa using ((HBa.out.set_ 13 (.int .i64 0)).set_ 0 (.int .i64 0)) : Blk _ g _ _)
 have hS := hsm.out ⟨0, ⟨kind, ag, sh, seq, ep, ds, ser, fr, etg⟩, tag, code, nn, 0, had, log, commit, len⟩ (.slice Aa dn na) (.slice Ba ln ka) w5 ⟨(Hd2.out.keep hk (by simp)).avoid (by simp), (Hl2.out.keep hk (by simp)).avoid (by simp)⟩ ⟨Hca.out.1, Hca.out.2⟩
 rw [HZ.out ⟨0, ⟨kind, ag, sh, seq, ep, ds, ser, fr, etg⟩, tag, code, nn, 0, had, log, commit, len⟩ (by simp [clearM])] at hS
 simp only [mCell, eCell, zeroM, zeroD, List.cons_append, List.nil_append] at hS
 have HS := Lib.hid (show Calls Tryz.prog 50 #[.agg #[.int .i64 0, .int .i64 kind, .int .i64 ag, .int .i64 sh, .int .i64 seq, .int .i64 ep, .slice Aa dn na, .string ser, .int .i64 fr, .int .i64 etg, .int .i64 tag, .int .i64 code, .int .u64 nn, .int .i64 0, .int .i64 had, .slice Ba ln ka, .int .i64 commit, .int .i64 len], .agg #[.int .i64 0, .int .i64 0, .int .i64 0, .int .i64 0, .int .i64 0, .int .i64 0, .slice none 0 0, .string ⟨#[]⟩, .int .i64 0, .int .i64 0, .int .i64 0, .int .i64 0, .int .u64 0, .int .i64 0, .int .i64 0, .slice none 0 0, .int .i64 0, .int .i64 0]] w5 fun r w' => SamePost R w5 r w' from hS)
 have Hbw := Lib.hid (Hk2.out.trans hk (by intro x hx; simp at hx; right; have := Hgs.out; omega)).below
 have Hw5 := Lib.hid hw5; have HB5 := Lib.hid hB5
 clear hk hw5 hB5 hS hsm HZ
 go_upto_region 15 with (fail)
 rw [← Hw5.out]
 clear q0 q1 q2 q3 q4 q5 q6 q7 q8 q9 qa qb qc qd qe qf qg qh qz
 have HR := Lib.hid (blk_range HB5.out)
 go_wp2_with (refine wpList_load_mid rfl 68 (.tmp 1) rfl g 0 rfl _ _ HR.out Tryz.underlying68 rfl (by kernel_rfl) ?_)
 refine HS.out.mono ?_
 rintro e w6 ⟨rfl, hb6⟩
 have Hb6 := Lib.hid (below_then Hbw.out hb6)
 clear hb6
 go_wp2
 go_ret
 exact ⟨rfl, Hb6.out⟩
set_option maxRecDepth 100000 in
set_option maxHeartbeats 2000000 in
theorem mzero_4 (m : MsgD) (dv lv : Value) (w : World) (ha : MsgAt w [] m dv lv) (ca : MCnt m) (hk0 : m.kd = 4) :
  Calls Tryz.prog 149 #[.agg (mCell m dv lv).toArray] w fun r w' => SamePost (zeroS m) w r w' := by
 have hsm := Lib.hid (fun (m' : MsgD) (d' l' : Value) W (h : MsgAt W [] m' d' l') (c : MCnt m') => msame_any m' zeroM d' l' (.slice none 0 0) (.slice none 0 0) W h ⟨Ds.nil _ _, Ens.nil _ _⟩ c ⟨by simp [zeroM, zeroD], cnt_nil⟩)
 have HZ : Hid (∀ m', m' = clearM m → sameM m' zeroM = zeroS m) := fun m' h => by subst h; rfl
 have hav := ha.avoid (M' := [w.heap.size]) (by simp)
 obtain ⟨Aa, na, rfl, _⟩ := ha.1.len
 obtain ⟨Ba, ka, rfl, _⟩ := ha.2.len
 have Hca := Lib.hid ca
 generalize zeroS m = R at *
 clear ha ca
 obtain ⟨kd, ⟨kind, ag, sh, seq, ep, ds, ser, fr, etg⟩, tag, code, nn, term, had, log, commit, len⟩ := m
 simp only [mCell, eCell, List.cons_append, List.nil_append]
 simp only [MsgAt] at hav
 generalize hdn : ds.length = dn at *
 generalize hln : log.length = ln at *
 have Hdn := Lib.hid hdn; have Hln := Lib.hid hln
 clear hdn hln
 obtain ⟨w2, hw2⟩ : ∃ w2, w2 = w.alloc (.cells #[.int .i64 kd, .int .i64 kind, .int .i64 ag, .int .i64 sh, .int .i64 seq, .int .i64 ep, .slice Aa dn na, .string ser, .int .i64 fr, .int .i64 etg, .int .i64 tag, .int .i64 code, .int .u64 nn, .int .i64 term, .int .i64 had, .slice Ba ln ka, .int .i64 commit, .int .i64 len] 68) := ⟨_, rfl⟩
 have hk2 : Keeps [] w w2 := by rw [hw2]; exact (Keeps.refl _ _).alloc _
 have hBa : Blk w2 w.heap.size 68 #[.int .i64 kd, .int .i64 kind, .int .i64 ag, .int .i64 sh, .int .i64 seq, .int .i64 ep, .slice Aa dn na, .string ser, .int .i64 fr, .int .i64 etg, .int .i64 tag, .int .i64 code, .int .u64 nn, .int .i64 term, .int .i64 had, .slice Ba ln ka, .int .i64 commit, .int .i64 len] := by rw [hw2]; exact Blk.new w _ _
 have Hw2 := Lib.hid hw2; have HBa := Lib.hid hBa; have Hk2 := Lib.hid hk2
 have Hd2 := Lib.hid (hav.1.keep hk2 (by simp)); have Hl2 := Lib.hid (hav.2.keep hk2 (by simp))
 clear hw2 hBa hk2 hav
 show Calls Tryz.prog 149 #[.agg #[.int .i64 kd, .int .i64 kind, .int .i64 ag, .int .i64 sh, .int .i64 seq, .int .i64 ep, .slice Aa dn na, .string ser, .int .i64 fr, .int .i64 etg, .int .i64 tag, .int .i64 code, .int .u64 nn, .int .i64 term, .int .i64 had, .slice Ba ln ka, .int .i64 commit, .int .i64 len]] w fun r w' => SamePost R w r w'
 go_enter Tryz.func149, Tryz.ntmps149
 go_upto_region 1 with (fail)
 rw [← Hw2.out]
 generalize hgs : w.heap.size = g at HBa Hd2 Hl2 ⊢
 have Hgs := Lib.hid hgs
 clear Hw2 hgs
 obtain ⟨q0, q1, q2, q3, q4, q5, q6, q7, q8, q9, qa, qb, qc, qd, qe, qf, qg, qh, qz⟩ := blk18 HBa.out
 simp only [] at hk0
 subst hk0
 obtain ⟨w5, hw5⟩ : ∃ w5, w5 = ((((w2.setCell ⟨g, 13, none⟩ (.int .i64 0)).setCell ⟨g, 14, none⟩ (.int .i64 0)).setCell ⟨g, 15, none⟩ (.slice none 0 0)).setCell ⟨g, 0, none⟩ (.int .i64 0)) := ⟨_, rfl⟩
 have hk : Keeps [g] w2 w5 := by rw [hw5]; exact ((((Keeps.refl _ _).setCell (by simp) _).setCell (by simp) _).setCell (by simp) _).setCell (by simp) _
 have hB5 : Blk w5 g 68 #[.int .i64 0, .int .i64 kind, .int .i64 ag, .int .i64 sh, .int .i64 seq, .int .i64 ep, .slice Aa dn na, .string ser, .int .i64 fr, .int .i64 etg, .int .i64 tag, .int .i64 code, .int .u64 nn, .int .i64 0, .int .i64 0, .slice none 0 0, .int .i64 commit, .int .i64 len] := by rw [hw5]; exact (by simpa using ((((HBa.out.set_ 13 (.int .i64 0)).set_ 14 (.int .i64 0)).set_ 15 (.slice none 0 0)).set_ 0 (.int .i64 0)) : Blk _ g _ _)
 have hS := hsm.out ⟨0, ⟨kind, ag, sh, seq, ep, ds, ser, fr, etg⟩, tag, code, nn, 0, 0, [], commit, len⟩ (.slice Aa dn na) (.slice none 0 0) w5 ⟨(Hd2.out.keep hk (by simp)).avoid (by simp), Ens.nil _ _⟩ ⟨Hca.out.1, cnt_nil⟩
 rw [HZ.out ⟨0, ⟨kind, ag, sh, seq, ep, ds, ser, fr, etg⟩, tag, code, nn, 0, 0, [], commit, len⟩ (by simp [clearM])] at hS
 simp only [mCell, eCell, zeroM, zeroD, List.cons_append, List.nil_append] at hS
 have HS := Lib.hid (show Calls Tryz.prog 50 #[.agg #[.int .i64 0, .int .i64 kind, .int .i64 ag, .int .i64 sh, .int .i64 seq, .int .i64 ep, .slice Aa dn na, .string ser, .int .i64 fr, .int .i64 etg, .int .i64 tag, .int .i64 code, .int .u64 nn, .int .i64 0, .int .i64 0, .slice none 0 0, .int .i64 commit, .int .i64 len], .agg #[.int .i64 0, .int .i64 0, .int .i64 0, .int .i64 0, .int .i64 0, .int .i64 0, .slice none 0 0, .string ⟨#[]⟩, .int .i64 0, .int .i64 0, .int .i64 0, .int .i64 0, .int .u64 0, .int .i64 0, .int .i64 0, .slice none 0 0, .int .i64 0, .int .i64 0]] w5 fun r w' => SamePost R w5 r w' from hS)
 have Hbw := Lib.hid (Hk2.out.trans hk (by intro x hx; simp at hx; right; have := Hgs.out; omega)).below
 have Hw5 := Lib.hid hw5; have HB5 := Lib.hid hB5
 clear hk hw5 hB5 hS hsm HZ
 go_upto_region 15 with (fail)
 rw [← Hw5.out]
 clear q0 q1 q2 q3 q4 q5 q6 q7 q8 q9 qa qb qc qd qe qf qg qh qz
 have HR := Lib.hid (blk_range HB5.out)
 go_wp2_with (refine wpList_load_mid rfl 68 (.tmp 1) rfl g 0 rfl _ _ HR.out Tryz.underlying68 rfl (by kernel_rfl) ?_)
 refine HS.out.mono ?_
 rintro e w6 ⟨rfl, hb6⟩
 have Hb6 := Lib.hid (below_then Hbw.out hb6)
 clear hb6
 go_wp2
 go_ret
 exact ⟨rfl, Hb6.out⟩
set_option maxRecDepth 100000 in
set_option maxHeartbeats 2000000 in
theorem mzero_5 (m : MsgD) (dv lv : Value) (w : World) (ha : MsgAt w [] m dv lv) (ca : MCnt m) (hk0 : m.kd = 5) :
  Calls Tryz.prog 149 #[.agg (mCell m dv lv).toArray] w fun r w' => SamePost (zeroS m) w r w' := by
 have hsm := Lib.hid (fun (m' : MsgD) (d' l' : Value) W (h : MsgAt W [] m' d' l') (c : MCnt m') => msame_any m' zeroM d' l' (.slice none 0 0) (.slice none 0 0) W h ⟨Ds.nil _ _, Ens.nil _ _⟩ c ⟨by simp [zeroM, zeroD], cnt_nil⟩)
 have HZ : Hid (∀ m', m' = clearM m → sameM m' zeroM = zeroS m) := fun m' h => by subst h; rfl
 have hav := ha.avoid (M' := [w.heap.size]) (by simp)
 obtain ⟨Aa, na, rfl, _⟩ := ha.1.len
 obtain ⟨Ba, ka, rfl, _⟩ := ha.2.len
 have Hca := Lib.hid ca
 generalize zeroS m = R at *
 clear ha ca
 obtain ⟨kd, ⟨kind, ag, sh, seq, ep, ds, ser, fr, etg⟩, tag, code, nn, term, had, log, commit, len⟩ := m
 simp only [mCell, eCell, List.cons_append, List.nil_append]
 simp only [MsgAt] at hav
 generalize hdn : ds.length = dn at *
 generalize hln : log.length = ln at *
 have Hdn := Lib.hid hdn; have Hln := Lib.hid hln
 clear hdn hln
 obtain ⟨w2, hw2⟩ : ∃ w2, w2 = w.alloc (.cells #[.int .i64 kd, .int .i64 kind, .int .i64 ag, .int .i64 sh, .int .i64 seq, .int .i64 ep, .slice Aa dn na, .string ser, .int .i64 fr, .int .i64 etg, .int .i64 tag, .int .i64 code, .int .u64 nn, .int .i64 term, .int .i64 had, .slice Ba ln ka, .int .i64 commit, .int .i64 len] 68) := ⟨_, rfl⟩
 have hk2 : Keeps [] w w2 := by rw [hw2]; exact (Keeps.refl _ _).alloc _
 have hBa : Blk w2 w.heap.size 68 #[.int .i64 kd, .int .i64 kind, .int .i64 ag, .int .i64 sh, .int .i64 seq, .int .i64 ep, .slice Aa dn na, .string ser, .int .i64 fr, .int .i64 etg, .int .i64 tag, .int .i64 code, .int .u64 nn, .int .i64 term, .int .i64 had, .slice Ba ln ka, .int .i64 commit, .int .i64 len] := by rw [hw2]; exact Blk.new w _ _
 have Hw2 := Lib.hid hw2; have HBa := Lib.hid hBa; have Hk2 := Lib.hid hk2
 have Hd2 := Lib.hid (hav.1.keep hk2 (by simp)); have Hl2 := Lib.hid (hav.2.keep hk2 (by simp))
 clear hw2 hBa hk2 hav
 show Calls Tryz.prog 149 #[.agg #[.int .i64 kd, .int .i64 kind, .int .i64 ag, .int .i64 sh, .int .i64 seq, .int .i64 ep, .slice Aa dn na, .string ser, .int .i64 fr, .int .i64 etg, .int .i64 tag, .int .i64 code, .int .u64 nn, .int .i64 term, .int .i64 had, .slice Ba ln ka, .int .i64 commit, .int .i64 len]] w fun r w' => SamePost R w r w'
 go_enter Tryz.func149, Tryz.ntmps149
 go_upto_region 1 with (fail)
 rw [← Hw2.out]
 generalize hgs : w.heap.size = g at HBa Hd2 Hl2 ⊢
 have Hgs := Lib.hid hgs
 clear Hw2 hgs
 obtain ⟨q0, q1, q2, q3, q4, q5, q6, q7, q8, q9, qa, qb, qc, qd, qe, qf, qg, qh, qz⟩ := blk18 HBa.out
 simp only [] at hk0
 subst hk0
 obtain ⟨w5, hw5⟩ : ∃ w5, w5 = ((((w2.setCell ⟨g, 13, none⟩ (.int .i64 0)).setCell ⟨g, 15, none⟩ (.slice none 0 0)).setCell ⟨g, 16, none⟩ (.int .i64 0)).setCell ⟨g, 0, none⟩ (.int .i64 0)) := ⟨_, rfl⟩
 have hk : Keeps [g] w2 w5 := by rw [hw5]; exact ((((Keeps.refl _ _).setCell (by simp) _).setCell (by simp) _).setCell (by simp) _).setCell (by simp) _
 have hB5 : Blk w5 g 68 #[.int .i64 0, .int .i64 kind, .int .i64 ag, .int .i64 sh, .int .i64 seq, .int .i64 ep, .slice Aa dn na, .string ser, .int .i64 fr, .int .i64 etg, .int .i64 tag, .int .i64 code, .int .u64 nn, .int .i64 0, .int .i64 had, .slice none 0 0, .int .i64 0, .int .i64 len] := by rw [hw5]; exact (by simpa using ((((HBa.out.set_ 13 (.int .i64 0)).set_ 15 (.slice none 0 0)).set_ 16 (.int .i64 0)).set_ 0 (.int .i64 0)) : Blk _ g _ _)
 have hS := hsm.out ⟨0, ⟨kind, ag, sh, seq, ep, ds, ser, fr, etg⟩, tag, code, nn, 0, had, [], 0, len⟩ (.slice Aa dn na) (.slice none 0 0) w5 ⟨(Hd2.out.keep hk (by simp)).avoid (by simp), Ens.nil _ _⟩ ⟨Hca.out.1, cnt_nil⟩
 rw [HZ.out ⟨0, ⟨kind, ag, sh, seq, ep, ds, ser, fr, etg⟩, tag, code, nn, 0, had, [], 0, len⟩ (by simp [clearM])] at hS
 simp only [mCell, eCell, zeroM, zeroD, List.cons_append, List.nil_append] at hS
 have HS := Lib.hid (show Calls Tryz.prog 50 #[.agg #[.int .i64 0, .int .i64 kind, .int .i64 ag, .int .i64 sh, .int .i64 seq, .int .i64 ep, .slice Aa dn na, .string ser, .int .i64 fr, .int .i64 etg, .int .i64 tag, .int .i64 code, .int .u64 nn, .int .i64 0, .int .i64 had, .slice none 0 0, .int .i64 0, .int .i64 len], .agg #[.int .i64 0, .int .i64 0, .int .i64 0, .int .i64 0, .int .i64 0, .int .i64 0, .slice none 0 0, .string ⟨#[]⟩, .int .i64 0, .int .i64 0, .int .i64 0, .int .i64 0, .int .u64 0, .int .i64 0, .int .i64 0, .slice none 0 0, .int .i64 0, .int .i64 0]] w5 fun r w' => SamePost R w5 r w' from hS)
 have Hbw := Lib.hid (Hk2.out.trans hk (by intro x hx; simp at hx; right; have := Hgs.out; omega)).below
 have Hw5 := Lib.hid hw5; have HB5 := Lib.hid hB5
 clear hk hw5 hB5 hS hsm HZ
 go_upto_region 15 with (fail)
 rw [← Hw5.out]
 clear q0 q1 q2 q3 q4 q5 q6 q7 q8 q9 qa qb qc qd qe qf qg qh qz
 have HR := Lib.hid (blk_range HB5.out)
 go_wp2_with (refine wpList_load_mid rfl 68 (.tmp 1) rfl g 0 rfl _ _ HR.out Tryz.underlying68 rfl (by kernel_rfl) ?_)
 refine HS.out.mono ?_
 rintro e w6 ⟨rfl, hb6⟩
 have Hb6 := Lib.hid (below_then Hbw.out hb6)
 clear hb6
 go_wp2
 go_ret
 exact ⟨rfl, Hb6.out⟩
set_option maxRecDepth 100000 in
set_option maxHeartbeats 2000000 in
theorem mzero_6 (m : MsgD) (dv lv : Value) (w : World) (ha : MsgAt w [] m dv lv) (ca : MCnt m) (hk0 : m.kd = 6) :
  Calls Tryz.prog 149 #[.agg (mCell m dv lv).toArray] w fun r w' => SamePost (zeroS m) w r w' := by
 have hsm := Lib.hid (fun (m' : MsgD) (d' l' : Value) W (h : MsgAt W [] m' d' l') (c : MCnt m') => msame_any m' zeroM d' l' (.slice none 0 0) (.slice none 0 0) W h ⟨Ds.nil _ _, Ens.nil _ _⟩ c ⟨by simp [zeroM, zeroD], cnt_nil⟩)
 have HZ : Hid (∀ m', m' = clearM m → sameM m' zeroM = zeroS m) := fun m' h => by subst h; rfl
 have hav := ha.avoid (M' := [w.heap.size]) (by simp)
 obtain ⟨Aa, na, rfl, _⟩ := ha.1.len
 obtain ⟨Ba, ka, rfl, _⟩ := ha.2.len
 have Hca := Lib.hid ca
 generalize zeroS m = R at *
 clear ha ca
 obtain ⟨kd, ⟨kind, ag, sh, seq, ep, ds, ser, fr, etg⟩, tag, code, nn, term, had, log, commit, len⟩ := m
 simp only [mCell, eCell, List.cons_append, List.nil_append]
 simp only [MsgAt] at hav
 generalize hdn : ds.length = dn at *
 generalize hln : log.length = ln at *
 have Hdn := Lib.hid hdn; have Hln := Lib.hid hln
 clear hdn hln
 obtain ⟨w2, hw2⟩ : ∃ w2, w2 = w.alloc (.cells #[.int .i64 kd, .int .i64 kind, .int .i64 ag, .int .i64 sh, .int .i64 seq, .int .i64 ep, .slice Aa dn na, .string ser, .int .i64 fr, .int .i64 etg, .int .i64 tag, .int .i64 code, .int .u64 nn, .int .i64 term, .int .i64 had, .slice Ba ln ka, .int .i64 commit, .int .i64 len] 68) := ⟨_, rfl⟩
 have hk2 : Keeps [] w w2 := by rw [hw2]; exact (Keeps.refl _ _).alloc _
 have hBa : Blk w2 w.heap.size 68 #[.int .i64 kd, .int .i64 kind, .int .i64 ag, .int .i64 sh, .int .i64 seq, .int .i64 ep, .slice Aa dn na, .string ser, .int .i64 fr, .int .i64 etg, .int .i64 tag, .int .i64 code, .int .u64 nn, .int .i64 term, .int .i64 had, .slice Ba ln ka, .int .i64 commit, .int .i64 len] := by rw [hw2]; exact Blk.new w _ _
 have Hw2 := Lib.hid hw2; have HBa := Lib.hid hBa; have Hk2 := Lib.hid hk2
 have Hd2 := Lib.hid (hav.1.keep hk2 (by simp)); have Hl2 := Lib.hid (hav.2.keep hk2 (by simp))
 clear hw2 hBa hk2 hav
 show Calls Tryz.prog 149 #[.agg #[.int .i64 kd, .int .i64 kind, .int .i64 ag, .int .i64 sh, .int .i64 seq, .int .i64 ep, .slice Aa dn na, .string ser, .int .i64 fr, .int .i64 etg, .int .i64 tag, .int .i64 code, .int .u64 nn, .int .i64 term, .int .i64 had, .slice Ba ln ka, .int .i64 commit, .int .i64 len]] w fun r w' => SamePost R w r w'
 go_enter Tryz.func149, Tryz.ntmps149
 go_upto_region 1 with (fail)
 rw [← Hw2.out]
 generalize hgs : w.heap.size = g at HBa Hd2 Hl2 ⊢
 have Hgs := Lib.hid hgs
 clear Hw2 hgs
 obtain ⟨q0, q1, q2, q3, q4, q5, q6, q7, q8, q9, qa, qb, qc, qd, qe, qf, qg, qh, qz⟩ := blk18 HBa.out
 simp only [] at hk0
 subst hk0
 obtain ⟨w5, hw5⟩ : ∃ w5, w5 = (((w2.setCell ⟨g, 13, none⟩ (.int .i64 0)).setCell ⟨g, 17, none⟩ (.int .i64 0)).setCell ⟨g, 0, none⟩ (.int .i64 0)) := ⟨_, rfl⟩
 have hk : Keeps [g] w2 w5 := by rw [hw5]; exact (((Keeps.refl _ _).setCell (by simp) _).setCell (by simp) _).setCell (by simp) _
 have hB5 : Blk w5 g 68 #[.int .i64 0, .int .i64 kind, .int .i64 ag, .int .i64 sh, .int .i64 seq, .int .i64 ep, .slice Aa dn na, .string ser, .int .i64 fr, .int .i64 etg, .int .i64 tag, .int .i64 code, .int .u64 nn, .int .i64 0, .int .i64 had, .slice Ba ln ka, .int .i64 commit, .int .i64 0] := by rw [hw5]; exact (by simpa using (((HBa.out.set_ 13 (.int .i64 0)).set_ 17 (.int .i64 0)).set_ 0 (.int .i64 0)) : Blk _ g _ _)
 have hS := hsm.out ⟨0, ⟨kind, ag, sh, seq, ep, ds, ser, fr, etg⟩, tag, code, nn, 0, had, log, commit, 0⟩ (.slice Aa dn na) (.slice Ba ln ka) w5 ⟨(Hd2.out.keep hk (by simp)).avoid (by simp), (Hl2.out.keep hk (by simp)).avoid (by simp)⟩ ⟨Hca.out.1, Hca.out.2⟩
 rw [HZ.out ⟨0, ⟨kind, ag, sh, seq, ep, ds, ser, fr, etg⟩, tag, code, nn, 0, had, log, commit, 0⟩ (by simp [clearM])] at hS
 simp only [mCell, eCell, zeroM, zeroD, List.cons_append, List.nil_append] at hS
 have HS := Lib.hid (show Calls Tryz.prog 50 #[.agg #[.int .i64 0, .int .i64 kind, .int .i64 ag, .int .i64 sh, .int .i64 seq, .int .i64 ep, .slice Aa dn na, .string ser, .int .i64 fr, .int .i64 etg, .int .i64 tag, .int .i64 code, .int .u64 nn, .int .i64 0, .int .i64 had, .slice Ba ln ka, .int .i64 commit, .int .i64 0], .agg #[.int .i64 0, .int .i64 0, .int .i64 0, .int .i64 0, .int .i64 0, .int .i64 0, .slice none 0 0, .string ⟨#[]⟩, .int .i64 0, .int .i64 0, .int .i64 0, .int .i64 0, .int .u64 0, .int .i64 0, .int .i64 0, .slice none 0 0, .int .i64 0, .int .i64 0]] w5 fun r w' => SamePost R w5 r w' from hS)
 have Hbw := Lib.hid (Hk2.out.trans hk (by intro x hx; simp at hx; right; have := Hgs.out; omega)).below
 have Hw5 := Lib.hid hw5; have HB5 := Lib.hid hB5
 clear hk hw5 hB5 hS hsm HZ
 go_upto_region 15 with (fail)
 rw [← Hw5.out]
 clear q0 q1 q2 q3 q4 q5 q6 q7 q8 q9 qa qb qc qd qe qf qg qh qz
 have HR := Lib.hid (blk_range HB5.out)
 go_wp2_with (refine wpList_load_mid rfl 68 (.tmp 1) rfl g 0 rfl _ _ HR.out Tryz.underlying68 rfl (by kernel_rfl) ?_)
 refine HS.out.mono ?_
 rintro e w6 ⟨rfl, hb6⟩
 have Hb6 := Lib.hid (below_then Hbw.out hb6)
 clear hb6
 go_wp2
 go_ret
 exact ⟨rfl, Hb6.out⟩
theorem mzero_any (m : MsgD) (dv lv : Value) (w : World) (ha : MsgAt w [] m dv lv) (ca : MCnt m) :
  Calls Tryz.prog 149 #[.agg (mCell m dv lv).toArray] w fun r w' => SamePost (zeroS m) w r w' := by
 by_cases g1 : m.kd = 1
 ·exact mzero_1 m dv lv w ha ca g1
 by_cases g2 : m.kd = 2
 ·exact mzero_2 m dv lv w ha ca g2
 by_cases g3 : m.kd = 3
 ·exact mzero_3 m dv lv w ha ca g3
 by_cases g4 : m.kd = 4
 ·exact mzero_4 m dv lv w ha ca g4
 by_cases g5 : m.kd = 5
 ·exact mzero_5 m dv lv w ha ca g5
 by_cases g6 : m.kd = 6
 ·exact mzero_6 m dv lv w ha ca g6
 exact mzero_0 m dv lv w ha ca g1 g2 g3 g4 g5 g6
end Go.Proofs.YtinnifhnabncfaaGreatDoor.Vi
end
section
namespace Go.Proofs.YtinnifhnabncfaaGreatDoor.Vi
open Go.RowKit Base Mem Go.Shelf
def bad2 (m : MsgD) : Bool := decide (m.tag < 0) || decide (m.term < 0) || decide (m.had < 0) || decide (m.commit < 0) || decide (m.len < 0) || decide (m.code < 0) || decide (255 < m.code) || decide (128 < m.commit) || decide (128 < m.len)
/-- Why a row of entries may not be. -/
def logRight : List EntryD → Nat
 | [] => 0
 | e :: r => if rightE e = 0 then logRight r else rightE e
def mrightS (m : MsgD) : Nat :=
 if m.kd < 1 ∨ 6 < m.kd ∨ zeroS m = false then 12
 else if bad2 m = true then 1
 else if 128 < m.log.length then 3
 else if m.kd = 1 then rightE m.en else logRight m.log
/-- Its texts are short. -/
def MShort (m : MsgD) : Prop := Short m.en ∧ m.log.length ≤ 4611686018427387904 ∧ ∀ e ∈ m.log, Short e
theorem MShort.cnt {m : MsgD} (h : MShort m) : MCnt m := ⟨h.1.2.2, h.2.1, fun e he => (h.2.2 e he).2.2⟩
set_option maxRecDepth 100000 in
set_option maxHeartbeats 2000000 in
theorem mright_any (m : MsgD) (dv lv : Value) (mx : Int) (w : World) (ha : MsgAt w [] m dv lv) (hs : MShort m) (hm : w.cell? ⟨0, 0, none⟩ = some (.int .i64 mx)) :
  Calls Tryz.prog 93 #[.agg (mCell m dv lv).toArray] w fun r w' => NumPost (mrightS m) w r w' := by
 have hw0 : 0 < w.heap.size := by
  have := World.block_lt_of_cell? w _ hm
  simpa using this
 have hkeepm : Hid (∀ W, Keeps [] w W → W.cell? ⟨0, 0, none⟩ = some (.int .i64 mx)) := fun W hb => (hb.cell (p := ⟨0, 0, none⟩) hw0 (by simp)).trans hm
 have hz := Lib.hid (fun W (hk : Keeps [] w W) => mzero_any m dv lv W (ha.keep hk (by simp)) hs.cnt)
 have hri := Lib.hid (fun W (hk : Keeps [] w W) => eright_any m.en dv mx W (ha.1.keep hk (by simp)) hs.1 (hkeepm.out W hk))
 have HM : Hid (mrightS m = if m.kd < 1 ∨ 6 < m.kd ∨ zeroS m = false then 12 else if bad2 m = true then 1 else if 128 < m.log.length then 3 else if m.kd = 1 then rightE m.en else logRight m.log) := rfl
 have HB2 : Hid (bad2 m = (decide (m.tag < 0) || decide (m.term < 0) || decide (m.had < 0) || decide (m.commit < 0) || decide (m.len < 0) || decide (m.code < 0) || decide (255 < m.code) || decide (128 < m.commit) || decide (128 < m.len))) := rfl
 have Hl := Lib.hid ha.2
 have Hsl := Lib.hid hs.2.2
 have hll := hs.2.1
 obtain ⟨Aa, na, rfl, _⟩ := ha.1.len
 obtain ⟨Ba, ka, rfl, _⟩ := ha.2.len
 clear ha hs hm
 generalize mrightS m = R at *
 generalize bad2 m = b2 at *
 generalize zeroS m = z at *
 obtain ⟨kd, ⟨kind, ag, sh, seq, ep, ds, ser, fr, etg⟩, tag, code, nn, term, had, log, commit, len⟩ := m
 simp only [] at HM HB2 Hl Hsl hll hri
 simp only [mCell, eCell, List.cons_append, List.nil_append] at hz hri ⊢
 generalize rightE ⟨kind, ag, sh, seq, ep, ds, ser, fr, etg⟩ = re at *
 obtain ⟨w2, hw2⟩ : ∃ w2, w2 = w.alloc (.cells #[.int .i64 kd, .int .i64 kind, .int .i64 ag, .int .i64 sh, .int .i64 seq, .int .i64 ep, .slice Aa ds.length na, .string ser, .int .i64 fr, .int .i64 etg, .int .i64 tag, .int .i64 code, .int .u64 nn, .int .i64 term, .int .i64 had, .slice Ba log.length ka, .int .i64 commit, .int .i64 len] 68) := ⟨_, rfl⟩
 have hk2 : Keeps [] w w2 := by rw [hw2]; exact (Keeps.refl _ _).alloc _
 have hBa : Blk w2 w.heap.size 68 #[.int .i64 kd, .int .i64 kind, .int .i64 ag, .int .i64 sh, .int .i64 seq, .int .i64 ep, .slice Aa ds.length na, .string ser, .int .i64 fr, .int .i64 etg, .int .i64 tag, .int .i64 code, .int .u64 nn, .int .i64 term, .int .i64 had, .slice Ba log.length ka, .int .i64 commit, .int .i64 len] := by rw [hw2]; exact Blk.new w _ _
 have Hw2 := Lib.hid hw2; have HBa := Lib.hid hBa; have Hk2 := Lib.hid hk2
 clear hw2 hBa hk2
 show Calls Tryz.prog 93 #[.agg #[.int .i64 kd, .int .i64 kind, .int .i64 ag, .int .i64 sh, .int .i64 seq, .int .i64 ep, .slice Aa ds.length na, .string ser, .int .i64 fr, .int .i64 etg, .int .i64 tag, .int .i64 code, .int .u64 nn, .int .i64 term, .int .i64 had, .slice Ba log.length ka, .int .i64 commit, .int .i64 len]] w fun r w' => NumPost R w r w'
 go_enter Tryz.func93, Tryz.ntmps93
 go_upto_region 1 with (fail)
 rw [← Hw2.out]
 have hg2 : w.heap.size < w2.heap.size := HBa.out.lt
 generalize hgs : w.heap.size = g at HBa hg2 ⊢
 have Hgs := Lib.hid hgs
 clear Hw2 hgs
 obtain ⟨q0, q1, q2, q3, q4, q5, q6, q7, q8, q9, qa, qb, qc, qd, qe, qf, qg, qh, qz⟩ := blk18 HBa.out
 by_cases h1 : kd < 1
 ·obtain rfl : R = 12 := by rw [HM.out, if_pos (.inl h1)]
  go_wp2
  go_ret
  exact ⟨rfl, Hk2.out.below⟩
 have h1d : decide (kd < 1) = false := decide_eq_false h1
 by_cases h6 : 6 < kd
 ·obtain rfl : R = 12 := by rw [HM.out, if_pos (.inr (.inl h6))]
  go_wp2
  go_ret
  exact ⟨rfl, Hk2.out.below⟩
 have h6d : decide (6 < kd) = false := decide_eq_false h6
 have Hz2 := Lib.hid (hz.out w2 Hk2.out)
 have HR := Lib.hid (blk_range HBa.out)
 clear q0 q1 q2 q3 q4 q5 q6 q7 q8 q9 qa qb qc qd qe qf qg qh qz
 obtain ⟨q0, _⟩ := blk18 HBa.out
 go_wp2_with (refine wpList_load_g rfl 68 (.tmp 1) rfl g 0 rfl _ _ HR.out Tryz.underlying68 rfl (by kernel_rfl) ?_)
 refine Hz2.out.mono ?_
 rintro e w3 ⟨rfl, hb3⟩
 have HB3 := Lib.hid (HBa.out.below hb3 hg2)
 have Hk3 := Lib.hid (Hk2.out.trans (Keeps.of_below (M := []) hb3) (by simp))
 have hg3 : g < w3.heap.size := HB3.out.lt
 clear hb3 Hz2 hz HBa Hk2 hg2 q0
 obtain ⟨q0, q1, q2, q3, q4, q5, q6, q7, q8, q9, qa, qb, qc, qd, qe, qf, qg, qh, qz⟩ := blk18 HB3.out
 cases z with
 | false =>
  obtain rfl : R = 12 := by rw [HM.out, if_pos (.inr (.inr rfl))]
  go_wp2
  go_ret
  exact ⟨rfl, Hk3.out.below⟩
 | true =>
  have HM2 : Hid (R = if b2 = true then 1 else if 128 < log.length then 3 else if kd = 1 then re else logRight log) := by show _ = _; rw [HM.out, if_neg (by simp; omega)]
  clear HM
  go_upto_region 3 with (fail)
  go_cut [20] (fun s wx => s = .bool b2 ∧ wx = w3)
  case first =>
   clear hri Hl Hsl hkeepm HM2 hll
   cases c0 : (decide (tag < 0)) with
   | true =>
    obtain rfl : b2 = true := by rw [HB2.out, c0]; simp
    clear HB2
    go_wp2_with fail
    go_meet
    exact ⟨rfl, rfl⟩
   | false =>
    cases c1 : (decide (term < 0)) with
    | true =>
     obtain rfl : b2 = true := by rw [HB2.out, c0, c1]; simp
     clear HB2
     go_wp2_with fail
     go_meet
     exact ⟨rfl, rfl⟩
    | false =>
     cases c2 : (decide (had < 0)) with
     | true =>
      obtain rfl : b2 = true := by rw [HB2.out, c0, c1, c2]; simp
      clear HB2
      go_wp2_with fail
      go_meet
      exact ⟨rfl, rfl⟩
     | false =>
      cases c3 : (decide (commit < 0)) with
      | true =>
       obtain rfl : b2 = true := by rw [HB2.out, c0, c1, c2, c3]; simp
       clear HB2
       go_wp2_with fail
       go_meet
       exact ⟨rfl, rfl⟩
      | false =>
       cases c4 : (decide (len < 0)) with
       | true =>
        obtain rfl : b2 = true := by rw [HB2.out, c0, c1, c2, c3, c4]; simp
        clear HB2
        go_wp2_with fail
        go_meet
        exact ⟨rfl, rfl⟩
       | false =>
        cases c5 : (decide (code < 0)) with
        | true =>
         obtain rfl : b2 = true := by rw [HB2.out, c0, c1, c2, c3, c4, c5]; simp
         clear HB2
         go_wp2_with fail
         go_meet
         exact ⟨rfl, rfl⟩
        | false =>
         cases c6 : (decide (255 < code)) with
         | true =>
          obtain rfl : b2 = true := by rw [HB2.out, c0, c1, c2, c3, c4, c5, c6]; simp
          clear HB2
          go_wp2_with fail
          go_meet
          exact ⟨rfl, rfl⟩
         | false =>
          cases c7 : (decide (128 < commit)) with
          | true =>
           obtain rfl : b2 = true := by rw [HB2.out, c0, c1, c2, c3, c4, c5, c6, c7]; simp
           clear HB2
           go_wp2_with fail
           go_meet
           exact ⟨rfl, rfl⟩
          | false =>
           cases c8 : (decide (128 < len)) with
           | true =>
            obtain rfl : b2 = true := by rw [HB2.out, c0, c1, c2, c3, c4, c5, c6, c7, c8]; simp
            clear HB2
            go_wp2_with fail
            go_meet
            exact ⟨rfl, rfl⟩
           | false =>
            obtain rfl : b2 = false := by rw [HB2.out, c0, c1, c2, c3, c4, c5, c6, c7, c8]; rfl
            clear HB2
            go_wp2_with fail
            go_meet
            exact ⟨rfl, rfl⟩
  case rest =>
   obtain ⟨rfl, rfl⟩ := hcut
   clear HB2
   cases b2 with
   | true =>
    obtain rfl : R = 1 := by rw [HM2.out, if_pos rfl]
    go_wp2
    go_ret
    exact ⟨rfl, Hk3.out.below⟩
   | false =>
    by_cases hL : 128 < log.length
    ·obtain rfl : R = 3 := by rw [HM2.out, if_neg (by simp), if_pos hL]
     have hLi : (128 : Int) < (log.length : Int) := by omega
     clear HM2
     go_wp2
     go_ret
     exact ⟨rfl, Hk3.out.below⟩
    ·have hLi : decide ((128 : Int) < (log.length : Int)) = false := decide_eq_false (by omega)
     have HM3 : Hid (R = if kd = 1 then re else logRight log) := by show _ = _; rw [HM2.out, if_neg (by simp), if_neg hL]
     clear HM2
     by_cases hk1 : kd = 1
     ·obtain rfl : R = re := by rw [HM3.out, if_pos hk1]
      have hkd : (kd == 1) = true := by simpa using hk1
      have Hr := Lib.hid (hri.out wc Hk3.out)
      clear HM3 hk1 hri
      go_wp2_with fail
      refine Hr.out.mono ?_
      rintro e w4 ⟨rfl, hb4⟩
      have Hb4 := Lib.hid (below_then Hk3.out.below hb4)
      clear hb4
      go_wp2
      go_ret
      exact ⟨rfl, Hb4.out⟩
     ·have hkd : (kd == 1) = false := by simpa using hk1
      have HM4 : Hid (R = logRight (log.drop 0)) := by show _ = _; rw [HM3.out, if_neg hk1]; rfl
      clear HM3 hk1 hri
      go_wp2_with fail
      go_loopw [79] (fun i wr => ∃ x : Nat, i = .int .i64 x ∧ x ≤ log.length ∧ Hid (R = logRight (log.drop x)) ∧ Hid (Keeps [] w wr)) (fun i _ => log.length - (intOf i).toNat)
      case atStart => exact ⟨0, rfl, by omega, HM4, Hk3.out⟩
      case round =>
       obtain ⟨x, rfl, hx, HR, Hkr⟩ := hrel
       by_cases hlt : x < log.length
       ·have hx1 : (x : Int) < (log.length : Int) := by omega
        have HR2 : Hid (R = if rightE log[x] = 0 then logRight (log.drop (x + 1)) else rightE log[x]) := by show _ = _; rw [HR.out, List.drop_eq_getElem_cons hlt]; rfl
        obtain ⟨gl, ol, _, dl, e1, _, _, hDl, hcl⟩ := ens_at (Hl.out.keep Hkr.out (by simp)) hlt
        injection e1 with e1 _ e9
        subst e1
        clear e9
        have hre := Lib.hid (fun W (hk : Keeps [] wr W) => eright_any log[x] dl mx W (hDl.keep hk (by simp)) (Hsl.out _ (List.getElem_mem _)) (hkeepm.out W (Hkr.out.trans hk (by simp))))
        obtain ⟨Dl, nl, rfl, _⟩ := hDl.len
        have a0 := hcl 0 _ rfl; have a1 := hcl 1 _ rfl; have a2 := hcl 2 _ rfl; have a3 := hcl 3 _ rfl; have a4 := hcl 4 _ rfl; have a5 := hcl 5 _ rfl; have a6 := hcl 6 _ rfl; have a7 := hcl 7 _ rfl; have a8 := hcl 8 _ rfl
        rw [Nat.add_zero] at a0
        clear hcl hDl q0 q1 q2 q3 q4 q5 q6 q7 q8 q9 qa qb qc qd qe qf qg qh qz
        generalize log[x] = ee at *
        generalize rightE ee = rr at *
        obtain ⟨kind', ag', sh', seq', ep', ds', ser', fr', etg'⟩ := ee
        simp only [eCell] at hre
        simp only [] at a0 a1 a2 a3 a4 a5 a6 a7 a8
        have Hre := Lib.hid (hre.out (wr.alloc (.cells #[.int .i64 kind', .int .i64 ag', .int .i64 sh', .int .i64 seq', .int .i64 ep', .slice Dl ds'.length nl, .string ser', .int .i64 fr', .int .i64 etg'] 26)) ((Keeps.refl _ _).alloc _))
        have Hka := Lib.hid (Hkr.out.alloc (.cells #[.int .i64 kind', .int .i64 ag', .int .i64 sh', .int .i64 seq', .int .i64 ep', .slice Dl ds'.length nl, .string ser', .int .i64 fr', .int .i64 etg'] 26))
        clear hre
        go_wp2_with fail
        refine Hre.out.mono ?_
        rintro e w4 ⟨rfl, hb4⟩
        have Hk4 := Lib.hid (Hka.out.trans (Keeps.of_below (M := []) hb4) (by simp))
        clear hb4 Hre Hka a0 a1 a2 a3 a4 a5 a6 a7 a8
        by_cases hrr : rr = 0
        ·have HR3 : Hid (R = logRight (log.drop (x + 1))) := by show _ = _; rw [HR2.out, if_pos hrr]
         have hrn : ((rr : Int) != 0) = false := by simp [hrr]
         clear HR2 hrr
         go_wp2
         go_roundw
         case rel => exact ⟨x + 1, by go_num, by omega, HR3, Hk4⟩
         case measure => simp [intOf] <;> omega
        ·obtain rfl : R = rr := by rw [HR2.out, if_neg hrr]
         have hrn : ((R : Int) != 0) = true := by simpa using hrr
         clear HR2 hrr
         go_wp2
         go_ret
         exact ⟨rfl, Hk4.out.below⟩
       ·obtain rfl : x = log.length := by omega
        obtain rfl : R = 0 := by rw [HR.out, List.drop_length]; rfl
        go_wp2
        go_ret
        exact ⟨rfl, Hkr.out.below⟩
end Go.Proofs.YtinnifhnabncfaaGreatDoor.Vi
end
