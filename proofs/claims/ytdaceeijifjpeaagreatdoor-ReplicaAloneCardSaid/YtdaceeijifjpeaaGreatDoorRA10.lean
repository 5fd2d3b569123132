/- Texts put together: McL, RpM, RpB, RpC, McM, McO, McR, RpD. -/
import Derived.Deep.DeepCutAuto
import Derived.Shelf.SlSortCmp.SmallK
import Derived.Shelf.SlSortCmp.NoneTotal
import Derived.Sort.Walk0
import Derived.Test.YtdaceeijifjpeaaGreatDoorRA1
import Derived.Test.YtdaceeijifjpeaaGreatDoorRA2
import Derived.Test.YtdaceeijifjpeaaGreatDoorRA3
import Derived.Test.YtdaceeijifjpeaaGreatDoorRA4
import Derived.Test.YtdaceeijifjpeaaGreatDoorRA5
import Derived.Test.YtdaceeijifjpeaaGreatDoorRA8
import Derived.Test.YtdaceeijifjpeaaGreatDoorRA9
set_option linter.unusedVariables false
set_option linter.unusedSimpArgs false
section
namespace Go.Proofs.YtdaceeijifjpeaaGreatDoor.Vi
open Go.RowKit Base Mem Tape
theorem mcapply_all (g : Nat) (X : List Nat) (st : McD) (N N' : Nat) (e : EntryD) (dv : Value) (mx : Int) (w : World) (h : McAt w g X st N) (hX : ∀ x ∈ X, x < w.heap.size) (hf : (st.get (pk e.ag e.sh)).f ≤ 4611686018427387000)
  (ha : I64 e.ag) (hs : I64 e.sh) (hq : I64 e.seq) (hp : I64 e.ep) (hd : Ds w X dv e.ds) (hok : ∀ d ∈ e.ds, DOk d) (hl : e.ds.length ≤ 1000000) (hsh : Short e) (hN : N ≤ 1000000000) (hN' : N + e.ds.length + 2 ≤ N') (hm : w.cell? ⟨0, 0, none⟩ = some (.int .i64 mx)) :
  Calls Tryz.prog 120 #[.pointer (some ⟨g, 0, none⟩), .agg (eCell (e, dv)).toArray] w fun r w' => ApA g X (applyM st (pk e.ag e.sh) e) N' w r w' := by
 obtain ⟨c, DH, h⟩ := h
 refine (mcapply_any g c X st N DH e dv mx w h (fun _ _ hsn hfr W p F hin hsh' hsome hnone hXW hFW hd' => ?_) ha hs hq hp hd hsh (by omega) hX hm).mono ?_
 ·by_cases hmay : mayS st.DS e.ds = 0
  ·exact mcount_ok g c X (stE st e) (N + 1) DH p F e dv W hin hsh' hsome hnone ha hs hq.2 hd' hok (by omega) (by omega) hmay hsn hfr hf
  ·exact mcount_no g c X (stE st e) (N + 1) DH p F e dv W hin hsh' hsome hnone ha hs hq hXW hFW hd' hok (by omega) (by omega) hmay hsn hfr hf
 ·rintro r w' ⟨h1, X', h2, h3, h4⟩
  refine ⟨h1, X', h2.more hN', fun x hx => ?_, fun x hx => (h3 x hx).imp id (·.1), h4⟩
  rcases h3 x hx with h5 | h5
  ·exact Nat.lt_of_lt_of_le (hX x h5) h4.size
  ·exact h5.2
end Go.Proofs.YtdaceeijifjpeaaGreatDoor.Vi
end
section
namespace Go.Proofs.YtdaceeijifjpeaaGreatDoor.Vi
open Go.RowKit Base Mem Go.Shelf Tape
open Lead (VoteD VoteAt)
structure RpC where
 s : Nat
 p : Nat
 g : Nat
 d : Nat
 Y : List Nat
 X : List Nat
 vb : Nat
 N : Nat
def rpCells (R : RpD) (C : RpC) : Array Value := #[.int .i64 R.node, .int .i64 R.nodes, .pointer (some ⟨C.s, 0, none⟩), .pointer (some ⟨C.g, 0, none⟩), .int .i64 R.com, .pointer (R.v.map fun _ => ⟨C.vb, 0, none⟩), .bool R.leads, .int .i64 R.own]
def VtOk (nodes : Int) (v : VoteD) : Prop := v.nodes = nodes ∧ 0 ≤ v.term ∧ v.term ≤ 9223372036854775807 ∧ v.best.length ≤ 128 ∧ (∀ e ∈ v.best, EOk e) ∧ v.n = (v.prom.count true : Nat)
def RpOk (R : RpD) : Prop := (1 ≤ R.nodes ∧ R.nodes ≤ 8) ∧ (0 ≤ R.node ∧ R.node < R.nodes) ∧ (R.com ≤ 128 ∧ R.ap ≤ 129) ∧ R.own ≤ 128 ∧ (∀ kl, (R.st.get kl).f ≤ 64 * R.ap) ∧ (∀ v, R.v = some v → VtOk R.nodes v) ∧ (R.leads = true → R.v.isSome = true)
structure RpV (w : World) (M : List Nat) (tg : Nat → Nat) (r : Nat) (R : RpD) (C : RpC) : Prop where
 blk : Blk w r 72 (rpCells R C)
 st : StZ w C.s C.p C.Y M R.x C.d R.b R.k R.n
 mc : McAt w C.g C.X R.st C.N
 vt : ∀ v, R.v = some v → VoteAt w M C.vb v ∧ C.vb ∈ M ∧ tg C.vb = 6
 rM : r ∈ M
 tr : tg r = 1
 sM : C.s ∈ M
 ts : tg C.s = 2
 pM : C.p ∈ M
 tp : tg C.p = 3
 yM : ∀ g ∈ C.Y, g ∈ M ∧ tg g = 4
 xM : ∀ g ∈ C.X, g ∈ M ∧ tg g = 5
 nN : C.N ≤ 12 * R.ap
def RpAt (w : World) (M : List Nat) (tg : Nat → Nat) (r d : Nat) (R : RpD) : Prop := RpOk R ∧ ∃ C, C.d = d ∧ RpV w M tg r R C
theorem _root_.Go.Proofs.YtdaceeijifjpeaaGreatDoor.Lead.VoteAt.more {w : World} {M M' : List Nat} {b : Nat} {s : VoteD} (h : VoteAt w M b s) (hM : ∀ g ∈ M', g ∈ M ∨ w.heap.size ≤ g) : VoteAt w M' b s := by
 obtain ⟨h1, h2, bv, hb, he⟩ := h
 exact ⟨h1, h2, bv, hb, he.avoid (fun g hg => by
  rcases List.mem_cons.1 hg with h | h
  ·exact .inl (by simp [h])
  ·exact (hM g h).imp (List.mem_cons_of_mem _) id)⟩
section
variable {w w' W V : World} {M M' : List Nat} {tg tg' : Nat → Nat} {r d : Nat} {R : RpD} {C : RpC} {T : List Nat}
theorem RpV.keepT (h : RpV w M tg r R C) (hx : Ext w M tg w' M' tg') (hk : Keeps (sel M tg T) w w') (hT : ∀ t ∈ T, 6 < t) : RpV w' M' tg' r R C := by
 have hn : ∀ g t, tg g = t → t ≤ 6 → g ∉ sel M tg T := fun g t h1 h2 hm => by
  have h3 := hT _ (mem_sel.1 hm).2
  omega
 have hmt : ∀ g t, g ∈ M ∧ tg g = t → g ∈ M' ∧ tg' g = t := fun g t h1 => ⟨hx.sub g h1.1, (hx.tag g (hx.old g h1.1)).trans h1.2⟩
 refine ⟨hk.blk h.blk (hn _ _ h.tr (by omega)), ?_, h.mc.keep hk (fun x hx' => hn x _ (h.xM x hx').2 (by omega)), fun v hv => ?_, (hmt _ _ ⟨h.rM, h.tr⟩).1, (hmt _ _ ⟨h.rM, h.tr⟩).2, (hmt _ _ ⟨h.sM, h.ts⟩).1, (hmt _ _ ⟨h.sM, h.ts⟩).2, (hmt _ _ ⟨h.pM, h.tp⟩).1, (hmt _ _ ⟨h.pM, h.tp⟩).2, fun g hg => hmt _ _ (h.yM g hg), fun g hg => hmt _ _ (h.xM g hg), h.nN⟩
 ·refine (h.st.more (Z' := M') hx.new).keepZ hk (fun g hg => .inl (hx.sub g (mem_sel.1 hg).1)) (fun g hg => ?_)
  rcases List.mem_cons.1 hg with rfl | hg
  ·exact hn _ _ h.ts (by omega)
  ·rcases List.mem_cons.1 hg with rfl | hg
   ·exact hn _ _ h.tp (by omega)
   ·exact hn _ _ (h.yM g hg).2 (by omega)
 ·obtain ⟨h1, h2, h3⟩ := h.vt v hv
  exact ⟨(h1.more hx.new).keep hk (hn _ _ h3 (by omega)) (fun g hg => .inl (hx.sub g (mem_sel.1 hg).1)), hmt _ _ ⟨h2, h3⟩⟩
theorem RpV.keep0 (h : RpV w M tg r R C) (hM : ∀ g ∈ M, g < w.heap.size) (hk : Keeps [] w w') : RpV w' M tg r R C :=
 h.keepT (T := []) (Ext.refl hM hk.size) (hk.to_sel (by simp)) (by simp)
theorem RpAt.keep0 (h : RpAt w M tg r d R) (hM : ∀ g ∈ M, g < w.heap.size) (hk : Keeps [] w w') : RpAt w' M tg r d R := by
 obtain ⟨ho, C, hC, hv⟩ := h
 exact ⟨ho, C, hC, hv.keep0 hM hk⟩
/-- Blocks beside. -/
theorem RpAt.more (h : RpAt w M tg r d R) (hM : ∀ g ∈ M, g < w.heap.size) (hk : Keeps [] w w') (L : List Nat) (hL : ∀ g ∈ L, w.heap.size ≤ g ∧ g < w'.heap.size) : RpAt w' (L ++ M) (fun x => if x ∈ L then 99 else tg x) r d R ∧ Ext w M tg w' (L ++ M) (fun x => if x ∈ L then 99 else tg x) := by
 have hx : Ext w M tg w' (L ++ M) (fun x => if x ∈ L then 99 else tg x) := ⟨fun g hg => List.mem_append_right _ hg, fun g hg => by
  rcases List.mem_append.1 hg with h | h
  ·exact .inr (hL g h).1
  ·exact .inl h, fun g hg => by
  show (if g ∈ L then 99 else tg g) = tg g
  rw [if_neg (fun hm => by have := (hL g hm).1; omega)], hM, fun g hg => by
  rcases List.mem_append.1 hg with h | h
  ·exact (hL g h).2
  ·exact Nat.lt_of_lt_of_le (hM g h) hk.size⟩
 obtain ⟨ho, C, hC, hv⟩ := h
 exact ⟨⟨ho, C, hC, hv.keepT (T := []) hx (hk.to_sel (by simp)) (by simp)⟩, hx⟩
theorem rpcells (h : RpV w M tg r R C) : w.cell? ⟨r, 0, none⟩ = some (.int .i64 R.node) ∧ w.cell? ⟨r, 1, none⟩ = some (.int .i64 R.nodes) ∧ w.cell? ⟨r, 2, none⟩ = some (.pointer (some ⟨C.s, 0, none⟩)) ∧ w.cell? ⟨r, 3, none⟩ = some (.pointer (some ⟨C.g, 0, none⟩)) ∧ w.cell? ⟨r, 4, none⟩ = some (.int .i64 R.com) ∧ w.cell? ⟨r, 5, none⟩ = some (.pointer (R.v.map fun _ => ⟨C.vb, 0, none⟩)) ∧ w.cell? ⟨r, 6, none⟩ = some (.bool R.leads) ∧ w.cell? ⟨r, 7, none⟩ = some (.int .i64 R.own) ∧ r < w.heap.size :=
 ⟨h.blk.cell 0, h.blk.cell 1, h.blk.cell 2, h.blk.cell 3, h.blk.cell 4, h.blk.cell 5, h.blk.cell 6, h.blk.cell 7, h.blk.lt⟩
end
end Go.Proofs.YtdaceeijifjpeaaGreatDoor.Vi
end
section
namespace Go.Proofs.YtdaceeijifjpeaaGreatDoor.Vi
open Go.RowKit Base Mem Go.Shelf Tape
theorem infoSentR : (Tryz.prog.info? 39).map (fun i => (i.zero, i.size, i.bytes)) = some (some (.agg #[.int .i64 0, .int .i64 0, .int .i64 0, .int .i64 0, .int .i64 0, .int .i64 0, .int .i64 0, .slice none 0 0, .string ByteArray.empty, .int .i64 0, .int .i64 0, .int .i64 0, .int .i64 0, .int .u64 0, .int .i64 0, .int .i64 0, .slice none 0 0, .int .i64 0, .int .i64 0]), 19, 192) := by kernel_rfl
def srCell (q : SentD × Value × Value) : List Value := sCell q.1.dst q.1.m q.2.1 q.2.2
/-- A row of messages of the call's own; what they hold avoids older blocks, those of M, and the row's. -/
structure SrAt (W : World) (base : Nat) (M : List Nat) (ov : Value) (qs : List (SentD × Value × Value)) : Prop where
 row : W.ownsRow base 39 19 ov qs.length (qs.flatMap srCell)
 far : ∀ g, ov.ownBlock = some g → g ∉ M
 val : ∀ q ∈ qs, ∀ L, (∀ g ∈ L, g < base ∨ g ∈ M ∨ ov.ownBlock = some g) → MsgAt W L q.1.m q.2.1 q.2.2
section
variable {W V : World} {base : Nat} {M M' : List Nat} {ov : Value} {qs : List (SentD × Value × Value)}
theorem SrAt.nil (W : World) (base : Nat) (M : List Nat) : SrAt W base M (.slice none 0 0) [] := ⟨World.ownsRow_nil _ _ _ _, fun g hg => (nomatch hg), fun q hq => (nomatch hq)⟩
/-- It stays where only blocks of M, older ones, or new ones turn. -/
theorem SrAt.keep (h : SrAt W base M ov qs) {T : List Nat} (hk : Keeps T W V) (hT : ∀ g ∈ T, g < base ∨ g ∈ M) : SrAt V base M ov qs := by
 refine ⟨own_other2 h.row hk (fun g hg hm => ?_), h.far, fun q hq L hL => ?_⟩
 ·rcases hT g hm with h1 | h1
  ·have := (h.row.lt g hg).1; omega
  ·exact h.far g hg h1
 ·have h1 := h.val q hq (L ++ T) (fun g hg => by
   rcases List.mem_append.1 hg with h2 | h2
   ·exact hL g h2
   ·rcases hT g h2 with h3 | h3
    ·exact .inl h3
    ·exact .inr (.inl h3))
  exact (h1.keep hk (fun g hg => .inl (List.mem_append_right _ hg))).avoid (fun g hg => .inl (List.mem_append_left _ hg))
theorem SrAt.more (h : SrAt W base M ov qs) (hM : ∀ g ∈ M', g ∈ M ∨ W.heap.size ≤ g) : SrAt W base M' ov qs := by
 refine ⟨h.row, fun g hg hm => ?_, fun q hq L hL => ?_⟩
 ·rcases hM g hm with h1 | h1
  ·exact h.far g hg h1
  ·have := (h.row.lt g hg).2; omega
 ·refine (h.val q hq (L.filter fun g => decide (g < W.heap.size)) (fun g hg => ?_)).avoid (fun g hg => ?_)
  ·obtain ⟨h1, h2⟩ := List.mem_filter.1 hg
   have h2 := of_decide_eq_true h2
   rcases hL g h1 with h3 | h3 | h3
   ·exact .inl h3
   ·rcases hM g h3 with h4 | h4
    ·exact .inr (.inl h4)
    ·omega
   ·exact .inr (.inr h3)
  ·by_cases h1 : g < W.heap.size
   ·exact .inl (List.mem_filter.2 ⟨hg, decide_eq_true h1⟩)
   ·exact .inr (by omega)
end
/-- A message more. -/
theorem SrAt.put {w1 w2 : World} {base : Nat} {M : List Nat} {ov ov' : Value} {qs : List (SentD × Value × Value)} {q : SentD × Value × Value} {o : Obj} (h : SrAt w1 base M ov qs) (hb : base ≤ w1.heap.size) (hMl : ∀ g ∈ M, g < w1.heap.size)
  (hq : ∀ L, (∀ g ∈ L, g < base ∨ g ∈ M ∨ ov.ownBlock = some g) → MsgAt w1 L q.1.m q.2.1 q.2.2) (hg : (w1.alloc o).grownBy w2 ov.ownBlock) (hat : ov'.ownBlock = ov.ownBlock ∨ ov'.ownBlock = some (w1.heap.size + 1))
  (hrw : w2.ownsRow base 39 19 ov' (qs.length + 1) (qs.flatMap srCell ++ srCell q)) : SrAt w2 base M ov' (qs ++ [q]) := by
 have k12 : Keeps ov.ownBlock.toList w1 w2 := (((Keeps.refl [] w1).alloc o).mono (by simp)).grown hg (fun g hg => .inl (by simpa using hg))
 refine ⟨by rw [List.length_append, List.flatMap_append]; simpa using hrw, fun g hg => ?_, fun p hp L hL => ?_⟩
 ·rcases hat with h1 | h1
  ·exact h.far g (by rw [← h1]; exact hg)
  ·intro hm
   have := hMl g hm
   rw [h1] at hg; injection hg with hg; omega
 ·have hv : ∀ L, (∀ g ∈ L, g < base ∨ g ∈ M ∨ ov.ownBlock = some g) → MsgAt w1 L p.1.m p.2.1 p.2.2 := by
   rcases List.mem_append.1 hp with h1 | h1
   ·exact h.val p h1
   ·simp at h1; subst h1; exact hq
  have h1 := hv (ov.ownBlock.toList ++ L.filter fun g => decide (g < w1.heap.size)) (fun g hg => by
   rcases List.mem_append.1 hg with h2 | h2
   ·exact .inr (.inr (by simpa using h2))
   ·obtain ⟨h3, h4⟩ := List.mem_filter.1 h2
    have h4 := of_decide_eq_true h4
    rcases hL g h3 with h5 | h5 | h5
    ·exact .inl h5
    ·exact .inr (.inl h5)
    ·rcases hat with h6 | h6
     ·exact .inr (.inr (by rw [← h6]; exact h5))
     ·rw [h6] at h5; injection h5 with h5; omega)
  refine (((h1.avoid (M' := ov.ownBlock.toList ++ L) (fun g hg => ?_)).keep k12 (fun g hg => .inl (List.mem_append_left _ hg)))).avoid (fun g hg => .inl (List.mem_append_right _ hg))
  rcases List.mem_append.1 hg with h2 | h2
  ·exact .inl (List.mem_append_left _ h2)
  ·by_cases h3 : g < w1.heap.size
   ·exact .inl (List.mem_append_right _ (List.mem_filter.2 ⟨h2, decide_eq_true h3⟩))
   ·exact .inr (by omega)
theorem own_slice3 {w : World} {base n size : Nat} {e : TypeId} {v : Value} {xs : List Value} (h : w.ownsRow base e size v n xs) : ∃ A c, v = .slice A n c ∧ n ≤ c := by
 obtain ⟨A, c, h1, h2, _⟩ := Rd.of_own (M := []) h (by simp)
 exact ⟨A, c, h1, h2⟩
theorem own_low3 {w : World} {base base' : Nat} {e : TypeId} {size n : Nat} {v : Value} {xs : List Value} (h : w.ownsRow base e size v n xs) (hb : base' ≤ base) : w.ownsRow base' e size v n xs := by
 obtain ⟨hl, h⟩ := h
 refine ⟨hl, ?_⟩
 rcases h with h | ⟨g, cap, cur, hv, hg, rest⟩
 ·exact .inl h
 ·exact .inr ⟨g, cap, cur, hv, Nat.le_trans hb hg, rest⟩
theorem SrAt.low {W : World} {base base' : Nat} {M M' : List Nat} {ov : Value} {qs : List (SentD × Value × Value)} (h : SrAt W base M ov qs) (hb : base' ≤ base) (hM : ∀ g ∈ M', g < base) : SrAt W base' M' ov qs :=
 ⟨own_low3 h.row hb, fun g hg hm => by have h1 := (h.row.lt g hg).1; have h2 := hM g hm; omega, fun q hq L hL => h.val q hq L (fun g hg => by
  rcases hL g hg with h1 | h1 | h1
  ·exact .inl (Nat.lt_of_lt_of_le h1 hb)
  ·exact .inl (hM g h1)
  ·exact .inr (.inr h1))⟩
def AllPost (out : List SentD) (w : World) (e : Ending) (w' : World) : Prop := ∃ ov qs, e = .returned ov ∧ qs.map (·.1) = out ∧ (∀ M, (∀ g ∈ M, g < w.heap.size) → SrAt w' w.heap.size M ov qs) ∧ Below w.heap.size w w'
set_option maxRecDepth 100000 in
set_option maxHeartbeats 2000000 in
theorem rpall_any (r : Nat) (node : Int) (nodes : Nat) (m : MsgD) (dv lv : Value) (w : World) (h0 : w.cell? ⟨r, 0, none⟩ = some (.int .i64 node)) (h1 : w.cell? ⟨r, 1, none⟩ = some (.int .i64 nodes)) (hr : r < w.heap.size) (hn : nodes ≤ 8)
  (h : MsgAt w [] m dv lv) (hd : m.en.ds.length ≤ 1048576) (hl : m.log.length ≤ 1048576) (hb : ∀ e ∈ m.log, e.ds.length ≤ 1048576) :
  Calls Tryz.prog 37 #[.pointer (some ⟨r, 0, none⟩), .agg (mCell m dv lv).toArray] w fun e w' => AllPost (toAll node m nodes) w e w' := by
 obtain ⟨i0, hi0, hz0, hz1, hz2⟩ := info_parts infoSentR
 have Hi0 := Lib.hid hi0; have Hz0 := Lib.hid hz0; have Hz1 := Lib.hid hz1; have Hz2 := Lib.hid hz2
 obtain ⟨Aa, na, rfl, _⟩ := h.1.len
 obtain ⟨Ba, ka, rfl, _⟩ := h.2.len
 obtain ⟨mm, Hmm⟩ : ∃ mm, Hid (mm = m) := ⟨m, rfl⟩
 have HP : Hid (∀ e W, (∃ ov qs, e = .returned ov ∧ qs.map (·.1) = toAll node mm nodes ∧ (∀ M, (∀ g ∈ M, g < w.heap.size) → SrAt W w.heap.size M ov qs) ∧ Below w.heap.size w W) → AllPost (toAll node m nodes) w e W) := fun _ _ h => by rw [Hmm.out] at h; exact h
 have hc : Hid (∀ W, Keeps [] w W → Calls Tryz.prog 73 #[.agg (mCell m (.slice Aa m.en.ds.length na) (.slice Ba m.log.length ka)).toArray] W fun e w' => CyPost mm W e w') := fun W hk => by rw [Hmm.out]; exact mcopy_any m _ _ W (h.keep hk (by simp)) hd hl hb
 have HS : Hid (∀ x, toAll node mm (x + 1) = toAll node mm x ++ (if (x : Int) = node then [] else [⟨x, mm⟩])) := toAll_succ node mm
 have HL : Hid (∀ x, (toAll node mm x).length ≤ x) := toAll_len node mm
 clear hi0 hz0 hz1 hz2 h hd hl hb
 obtain ⟨kd, ⟨kind, ag, sh, seq, ep, ds, ser, fr, etg⟩, tag, code, nn, term, had, log, commit, len⟩ := m
 simp only [mCell, eCell, List.cons_append, List.nil_append] at hc ⊢
 obtain ⟨w0, hw0⟩ : ∃ w0, w0 = w.alloc (.cells #[.int .i64 kd, .int .i64 kind, .int .i64 ag, .int .i64 sh, .int .i64 seq, .int .i64 ep, .slice Aa ds.length na, .string ser, .int .i64 fr, .int .i64 etg, .int .i64 tag, .int .i64 code, .int .u64 nn, .int .i64 term, .int .i64 had, .slice Ba log.length ka, .int .i64 commit, .int .i64 len] 37) := ⟨_, rfl⟩
 have hk0 : Keeps [] w w0 := by rw [hw0]; exact (Keeps.refl _ _).alloc _
 have hB0 : Blk w0 w.heap.size 37 #[.int .i64 kd, .int .i64 kind, .int .i64 ag, .int .i64 sh, .int .i64 seq, .int .i64 ep, .slice Aa ds.length na, .string ser, .int .i64 fr, .int .i64 etg, .int .i64 tag, .int .i64 code, .int .u64 nn, .int .i64 term, .int .i64 had, .slice Ba log.length ka, .int .i64 commit, .int .i64 len] := by rw [hw0]; exact Blk.new w _ _
 obtain ⟨g3, Hg3⟩ : ∃ g3, Hid (g3 = w.heap.size) := ⟨_, rfl⟩
 rw [← Hg3.out] at hB0
 have Hk0 := Lib.hid hk0; have HB0 := Lib.hid hB0
 have Hr0 : Hid (∀ W, Keeps [] w0 W → W.cell? ⟨r, 0, none⟩ = some (.int .i64 node) ∧ W.cell? ⟨r, 1, none⟩ = some (.int .i64 nodes)) := fun W hk => ⟨((Hk0.out.trans hk (by simp)).cell (p := ⟨r, 0, none⟩) hr (by simp)).trans h0, ((Hk0.out.trans hk (by simp)).cell (p := ⟨r, 1, none⟩) hr (by simp)).trans h1⟩
 obtain ⟨c0, c1⟩ := Hr0.out w0 (Keeps.refl _ _)
 have Hz := Lib.hid hk0.size
 clear hk0 hB0 h0 h1
 go_enter Tryz.func37, Tryz.ntmps37
 go_upto_region 1 with (fail)
 rw [← hw0, ← Hg3.out]
 clear hw0
 go_upto_region 3 with (fail)
 clear c0 c1
 go_loopw [5, 11] (fun ov i wr => ∃ (x : Nat) (qs : List (SentD × Value × Value)), i = .int .i64 x ∧ x ≤ nodes ∧ Hid (qs.map (·.1) = toAll node mm x) ∧ Hid (Keeps [] w0 wr) ∧ Hid (SrAt wr w0.heap.size [] ov qs)) (fun _ i _ => nodes - (intOf i).toNat)
 case atStart => exact ⟨0, [], rfl, by omega, rfl, Keeps.refl _ _, SrAt.nil _ _ _⟩
 case round =>
  obtain ⟨x, qs, rfl, hx, HQ, HK, HR⟩ := hrel
  by_cases hxl : x < nodes
  ·have hx1 : (x : Int) < (nodes : Int) := by omega
   obtain ⟨c0, c1⟩ := Hr0.out wr HK.out
   by_cases hxn : (x : Int) = node
   ·have HQ2 : Hid (qs.map (·.1) = toAll node mm (x + 1)) := by show _ = _; rw [HS.out x, if_pos hxn, List.append_nil]; exact HQ.out
    go_wp2_with fail
    go_roundw
    case rel => exact ⟨x + 1, qs, by go_num, by omega, HQ2, HK, HR⟩
    case measure => simp [intOf] <;> omega
   ·have HQ2 : Hid (qs.map (·.1) ++ [⟨x, mm⟩] = toAll node mm (x + 1)) := by show _ = _; rw [HS.out x, if_neg hxn, HQ.out]
    have hql : qs.length ≤ x := by
     have h1 := congrArg List.length HQ.out
     rw [List.length_map] at h1
     rw [h1]; exact HL.out x
    have HBr := Lib.hid (HK.out.blk HB0.out (by simp))
    have hcr := Lib.hid (hc.out wr (Hk0.out.trans HK.out (by simp)))
    obtain ⟨Ao, co, rfl, _⟩ := own_slice3 HR.out.row
    have hxn2 : ¬ (x : Int) = node := hxn
    have Hlt := Lib.hid (fun g hg => (HR.out.row.lt g hg).2)
    have Hzr := Lib.hid HK.out.size
    go_wp2_with (refine wpList_load_mid rfl 37 (.tmp 3) rfl g3 0 rfl _ _ (blk_range HBr.out) Tryz.underlying37 rfl (by kernel_rfl) ?_)
    refine hcr.out.mono ?_
    rintro e w1 ⟨dv1, lv1, rfl, hm1, hb1⟩
    obtain ⟨A1, n1, rfl, _⟩ := (hm1 [] (by simp)).1.len
    obtain ⟨B1, k1, rfl, _⟩ := (hm1 [] (by simp)).2.len
    have hk1 : Keeps [] wr w1 := Keeps.of_below (M := []) hb1
    have HR1 := Lib.hid (HR.out.keep hk1 (by simp))
    have HK1 : Hid (Keeps [] w0 w1) := HK.out.trans hk1 (by simp)
    have Hm1 := Lib.hid hm1
    have Hzw := Lib.hid hk1.size
    have Hcell : Hid (srCell (⟨x, mm⟩, .slice A1 mm.en.ds.length n1, .slice B1 mm.log.length k1) = [.int .i64 x, .int .i64 kd, .int .i64 kind, .int .i64 ag, .int .i64 sh, .int .i64 seq, .int .i64 ep, .slice A1 ds.length n1, .string ser, .int .i64 fr, .int .i64 etg, .int .i64 tag, .int .i64 code, .int .u64 nn, .int .i64 term, .int .i64 had, .slice B1 log.length k1, .int .i64 commit, .int .i64 len]) := by show _ = _; rw [Hmm.out]; rfl
    have hm2 : mCell mm (.slice A1 mm.en.ds.length n1) (.slice B1 mm.log.length k1) = [.int .i64 kd, .int .i64 kind, .int .i64 ag, .int .i64 sh, .int .i64 seq, .int .i64 ep, .slice A1 ds.length n1, .string ser, .int .i64 fr, .int .i64 etg, .int .i64 tag, .int .i64 code, .int .u64 nn, .int .i64 term, .int .i64 had, .slice B1 log.length k1, .int .i64 commit, .int .i64 len] := by rw [Hmm.out]; rfl
    rw [hm2]
    clear hm1 hb1 hk1 hcr HR HK HBr c0 c1 hm2
    go_wp2_with (at_builtin; go_must (refine wpList_append_any _ rfl (.tmp 20) (.tmp 25) 27 rfl w0.heap.size 39 i0 _ 19 192 Tryz.underlying27 Hi0.out Hz0.out Hz1.out Hz2.out rfl (by omega) (.slice Ao qs.length co) qs.length (qs.flatMap srCell) rfl (own_below HR1.out.row (below_new' w1 _)) (w1.heap.size + 1) (some ⟨w1.heap.size, 0, none⟩) 1 1 [.int .i64 x, .int .i64 kd, .int .i64 kind, .int .i64 ag, .int .i64 sh, .int .i64 seq, .int .i64 ep, .slice A1 ds.length n1, .string ser, .int .i64 fr, .int .i64 etg, .int .i64 tag, .int .i64 code, .int .u64 nn, .int .i64 term, .int .i64 had, .slice B1 log.length k1, .int .i64 commit, .int .i64 len] rfl (reads_new w1 _ 19 1 _ rfl) (by intro u hu; simp only [List.mem_cons, List.not_mem_nil, or_false] at hu; rcases hu with rfl | rfl | rfl | rfl | rfl | rfl | rfl | rfl | rfl | rfl | rfl | rfl | rfl | rfl | rfl | rfl | rfl | rfl | rfl <;> rfl) (by unfold maxLen; omega) (by omega) (by have := HK1.out.size; rw [World.size_alloc]; omega) ?_))
    intro v9 w9 hown9 hg9 hat9
    rw [← Hcell.out] at hown9
    have HR9 := Lib.hid (HR1.out.put (q := (⟨x, mm⟩, .slice A1 mm.en.ds.length n1, .slice B1 mm.log.length k1)) HK1.out.size (by simp) (fun L hL => Hm1.out L (fun g hg => by
     rcases hL g hg with h1 | h1 | h1
     ·exact Nat.lt_of_lt_of_le h1 Hzr.out
     ·cases h1
     ·exact Hlt.out g h1)) hg9 hat9 hown9)
    have HK9 : Hid (Keeps [] w0 w9) := (HK1.out.alloc _).grown hg9 (fun g hg => .inr (HR1.out.row.lt g hg).1)
    have HQ9 : Hid ((qs ++ [((⟨x, mm⟩ : SentD), Value.slice A1 mm.en.ds.length n1, Value.slice B1 mm.log.length k1)]).map (·.1) = toAll node mm (x + 1)) := by show _ = _; rw [List.map_append]; exact HQ2.out
    clear hown9 hg9 hat9 HR1 HK1 HQ2 Hm1 Hcell
    go_wp2_with fail
    go_roundw
    case rel => exact ⟨x + 1, _, by go_num, by omega, HQ9, HK9, HR9⟩
    case measure => simp [intOf] <;> omega
  ·obtain rfl : x = nodes := by omega
   obtain ⟨c0, c1⟩ := Hr0.out wr HK.out
   have hP : Hid (∀ ov, SrAt wr w0.heap.size [] ov qs → AllPost (toAll node ⟨kd, ⟨kind, ag, sh, seq, ep, ds, ser, fr, etg⟩, tag, code, nn, term, had, log, commit, len⟩ x) w (.returned ov) wr) := fun ov h => HP.out _ _ ⟨ov, qs, rfl, HQ.out, fun M hM => h.low Hz.out (fun g hg => Nat.lt_of_lt_of_le (hM g hg) Hz.out), (Hk0.out.trans HK.out (by simp)).belowB (Nat.le_refl _) (by simp)⟩
   have hPP := Lib.hid (hP.out _ HR.out)
   clear hP HP HR HQ
   go_wp2_with fail
   go_ret
   exact hPP.out
end Go.Proofs.YtdaceeijifjpeaaGreatDoor.Vi
end
section
namespace Go.Proofs.YtdaceeijifjpeaaGreatDoor.Vi
open Go.RowKit Base Mem Go.Shelf Tape
open Lead (VoteD VoteAt)
section
variable {w : World} {M : List Nat} {tg : Nat → Nat} {r d : Nat} {R : RpD} {C : RpC}
theorem WOk.small {x : WordD} (h : WOk x) : x.log.length ≤ 1048576 ∧ ∀ e ∈ x.log, e.ds.length ≤ 1048576 := ⟨by have := h.2.2.1; omega, fun e he => by have := eok_ds8 (h.2.2.2 e he); omega⟩
set_option maxRecDepth 100000 in
set_option maxHeartbeats 2000000 in
theorem rpaccepts_any (h : RpAt w M tg r d R) (hM : ∀ g ∈ M, g < w.heap.size) :
  Calls Tryz.prog 48 #[.pointer (some ⟨r, 0, none⟩)] w fun e w' => AllPost (rpAccepts R) w e w' := by
 obtain ⟨ho, C, hC, hv⟩ := h
 have hwo := hv.st.ok
 have HB : Hid (∀ W, Below w.heap.size w W → Keeps [] w W) := fun W hb => Keeps.of_below (M := []) hb
 have HS : Hid (∀ W, Keeps [] w W → W.cell? ⟨r, 2, none⟩ = some (.pointer (some ⟨C.s, 0, none⟩)) ∧ W.cell? ⟨r, 4, none⟩ = some (.int .i64 R.com)) := fun W hk => by
  obtain ⟨-, -, c2, -, c4, -⟩ := rpcells (hv.keep0 hM hk)
  exact ⟨c2, c4⟩
 have HT : Hid (∀ W, Keeps [] w W → Calls Tryz.prog 29 #[.pointer (some ⟨C.s, 0, none⟩)] W fun e w' => e = .returned (.int .i64 R.x.t) ∧ W = w') := fun W hk => vterm_any W (hv.st.st.keep0 hk)
 have HL : Hid (∀ W, Keeps [] w W → Calls Tryz.prog 35 #[.pointer (some ⟨C.s, 0, none⟩)] W fun e w' => EnsPost R.x.log W e w') := fun W hk => vlog_any W (hv.st.st.keep0 hk)
 have HA : Hid (∀ W lv, Keeps [] w W → Ens W [] lv R.x.log → Calls Tryz.prog 37 #[.pointer (some ⟨r, 0, none⟩), .agg (mCell (acceptM R.x.t R.x.log R.com) (.slice none 0 0) lv).toArray] W fun e w' => AllPost (rpAccepts R) W e w') := fun W lv hk he => by
  obtain ⟨c0, c1, -, -, -, -, -, -, hl⟩ := rpcells (hv.keep0 hM hk)
  have hn := ho.1
  have e1 : (R.nodes.toNat : Int) = R.nodes := Int.toNat_of_nonneg (by omega)
  exact rpall_any r R.node R.nodes.toNat _ _ _ W c0 (by rw [e1]; exact c1) hl (by omega) ⟨Ds.nil _ _, he⟩ (by show (0 : Nat) ≤ _; omega) hwo.small.1 hwo.small.2
 have HP : Hid (∀ W e V, Keeps [] w W → AllPost (rpAccepts R) W e V → AllPost (rpAccepts R) w e V) := fun W e V hk hp => by
  obtain ⟨ov, qs, h1, h2, h3, h4⟩ := hp
  exact ⟨ov, qs, h1, h2, fun M' hM' => (h3 M' (fun g hg => Nat.lt_of_lt_of_le (hM' g hg) hk.size)).low hk.size (fun g hg => Nat.lt_of_lt_of_le (hM' g hg) hk.size), (hk.trans (Keeps.of_below (M := []) h4) (by simp)).belowB (Nat.le_refl _) (by simp)⟩
 have HV : Hid (∀ W e V, AllPost (rpAccepts R) W e V → ∃ v, e = .returned v) := fun W e V hp => by obtain ⟨ov, _, h1, _⟩ := hp; exact ⟨ov, h1⟩
 clear ho hv hwo hM hC
 go_enter Tryz.func48, Tryz.ntmps48
 go_upto_region 1 with (fail)
 refine wp_region_held_drew (S := (fun W => W.cell? ⟨r, 2, none⟩ = some (.pointer (some ⟨C.s, 0, none⟩)) ∧ W.cell? ⟨r, 4, none⟩ = some (.int .i64 R.com))) (by kernel_rfl) (HS.out _ (Keeps.refl _ _).drew) (fun hHeld => ?_)
 refine wpAnyH_take (i := 0) (oi := _) (v := ?v0u1) rfl (by kernel_rfl) (by kernel_rfl) (by kernel_rfl) (fun _ _ _ h => h) (Or.inl ⟨by rfl, ?y0u1⟩) (by assumption) ?r0u1
 case y0u1 => (intro w hSw; (obtain ⟨hS0, hS1⟩ := hSw); go_simp <;> with_reducible rfl)
 try simp only [List.getElem_toArray, List.getElem_cons_succ, List.getElem_cons_zero, Act.put, List.setIfInBounds_toArray, List.set_cons_zero, List.set_cons_succ]
 refine wpAnyH_take (i := 1) (oi := _) (v := ?v1u2) rfl (by kernel_rfl) (by kernel_rfl) (by kernel_rfl) (fun _ _ _ h => h) (Or.inl ⟨by rfl, ?y1u2⟩) (by assumption) ?r1u2
 case y1u2 => (intro w hSw; (obtain ⟨hS0, hS1⟩ := hSw); go_simp <;> with_reducible rfl)
 try simp only [List.getElem_toArray, List.getElem_cons_succ, List.getElem_cons_zero, Act.put, List.setIfInBounds_toArray, List.set_cons_zero, List.set_cons_succ]
 refine wpAnyH_take (i := 2) (oi := _) (v := ?v2u3) rfl (by kernel_rfl) (by kernel_rfl) (by kernel_rfl) (fun _ _ _ h => h) (Or.inl ⟨by rfl, ?y2u3⟩) (by assumption) ?r2u3
 case y2u3 => (intro w hSw; (obtain ⟨hS0, hS1⟩ := hSw); go_simp <;> with_reducible rfl)
 try simp only [List.getElem_toArray, List.getElem_cons_succ, List.getElem_cons_zero, Act.put, List.setIfInBounds_toArray, List.set_cons_zero, List.set_cons_succ]
 refine wpAnyH_take (i := 3) (oi := _) (v := ?v3u4) rfl (by kernel_rfl) (by kernel_rfl) (by kernel_rfl) (fun _ _ _ h => h) (Or.inl ⟨by rfl, ?y3u4⟩) (by assumption) ?r3u4
 case y3u4 => (intro w hSw; (obtain ⟨hS0, hS1⟩ := hSw); go_simp <;> with_reducible rfl)
 try simp only [List.getElem_toArray, List.getElem_cons_succ, List.getElem_cons_zero, Act.put, List.setIfInBounds_toArray, List.set_cons_zero, List.set_cons_succ]
 refine wpAnyH_take (i := 4) (oi := _) (v := ?v4u5) rfl (by kernel_rfl) (by kernel_rfl) (by kernel_rfl) (fun _ _ _ h => h) (Or.inl ⟨by rfl, ?y4u5⟩) (by assumption) ?r4u5
 case y4u5 => (intro w hSw; (obtain ⟨hS0, hS1⟩ := hSw); go_simp <;> with_reducible rfl)
 try simp only [List.getElem_toArray, List.getElem_cons_succ, List.getElem_cons_zero, Act.put, List.setIfInBounds_toArray, List.set_cons_zero, List.set_cons_succ]
 refine wpAnyH_take (i := 6) (oi := _) (v := ?v6u6) rfl (by kernel_rfl) (by kernel_rfl) (by kernel_rfl) (fun _ _ _ h => h) (Or.inl ⟨by rfl, ?y6u6⟩) (by assumption) ?r6u6
 case y6u6 => (intro w hSw; (obtain ⟨hS0, hS1⟩ := hSw); go_simp <;> with_reducible rfl)
 try simp only [List.getElem_toArray, List.getElem_cons_succ, List.getElem_cons_zero, Act.put, List.setIfInBounds_toArray, List.set_cons_zero, List.set_cons_succ]
 refine wpAnyH_take (i := 7) (oi := _) (v := ?v7u7) rfl (by kernel_rfl) (by kernel_rfl) (by kernel_rfl) (fun _ _ _ h => h) (Or.inl ⟨by rfl, ?y7u7⟩) (by assumption) ?r7u7
 case y7u7 => (intro w hSw; (obtain ⟨hS0, hS1⟩ := hSw); go_simp <;> with_reducible rfl)
 try simp only [List.getElem_toArray, List.getElem_cons_succ, List.getElem_cons_zero, Act.put, List.setIfInBounds_toArray, List.set_cons_zero, List.set_cons_succ]
 refine wpAnyH_take (i := 8) (oi := _) (v := ?v8u8) rfl (by kernel_rfl) (by kernel_rfl) (by kernel_rfl) (fun _ _ _ h => h) (Or.inl ⟨by rfl, ?y8u8⟩) (by assumption) ?r8u8
 case y8u8 => (intro w hSw; (obtain ⟨hS0, hS1⟩ := hSw); go_simp <;> with_reducible rfl)
 try simp only [List.getElem_toArray, List.getElem_cons_succ, List.getElem_cons_zero, Act.put, List.setIfInBounds_toArray, List.set_cons_zero, List.set_cons_succ]
 refine wpAnyH_take (i := 9) (oi := _) (v := ?v9u9) rfl (by kernel_rfl) (by kernel_rfl) (by kernel_rfl) (fun _ _ _ h => h) (Or.inl ⟨by rfl, ?y9u9⟩) (by assumption) ?r9u9
 case y9u9 => (intro w hSw; (obtain ⟨hS0, hS1⟩ := hSw); go_simp <;> with_reducible rfl)
 try simp only [List.getElem_toArray, List.getElem_cons_succ, List.getElem_cons_zero, Act.put, List.setIfInBounds_toArray, List.set_cons_zero, List.set_cons_succ]
 refine wpAnyH_take (i := 11) (oi := _) (v := ?v11u10) rfl (by kernel_rfl) (by kernel_rfl) (by kernel_rfl) (fun _ _ _ h => h) (Or.inl ⟨by rfl, ?y11u10⟩) (by assumption) ?r11u10
 case y11u10 => (intro w hSw; (obtain ⟨hS0, hS1⟩ := hSw); go_simp <;> with_reducible rfl)
 try simp only [List.getElem_toArray, List.getElem_cons_succ, List.getElem_cons_zero, Act.put, List.setIfInBounds_toArray, List.set_cons_zero, List.set_cons_succ]
 refine wpAnyH_take (i := 12) (oi := _) (v := ?v12u11) rfl (by kernel_rfl) (by kernel_rfl) (by kernel_rfl) (fun _ _ _ h => h) (Or.inl ⟨by rfl, ?y12u11⟩) (by assumption) ?r12u11
 case y12u11 => (intro w hSw; (obtain ⟨hS0, hS1⟩ := hSw); go_simp <;> with_reducible rfl)
 try simp only [List.getElem_toArray, List.getElem_cons_succ, List.getElem_cons_zero, Act.put, List.setIfInBounds_toArray, List.set_cons_zero, List.set_cons_succ]
 refine wpAnyH_take (i := 13) (oi := _) (v := ?v13u12) rfl (by kernel_rfl) (by kernel_rfl) (by kernel_rfl) (fun _ _ _ h => h) (Or.inl ⟨by rfl, ?y13u12⟩) (by assumption) ?r13u12
 case y13u12 => (intro w hSw; (obtain ⟨hS0, hS1⟩ := hSw); go_simp <;> with_reducible rfl)
 try simp only [List.getElem_toArray, List.getElem_cons_succ, List.getElem_cons_zero, Act.put, List.setIfInBounds_toArray, List.set_cons_zero, List.set_cons_succ]
 refine wpAnyH_take (i := 14) (oi := _) (v := ?v14u13) rfl (by kernel_rfl) (by kernel_rfl) (by kernel_rfl) (fun _ _ _ h => h) (Or.inl ⟨by rfl, ?y14u13⟩) (by assumption) ?r14u13
 case y14u13 => (intro w hSw; (obtain ⟨hS0, hS1⟩ := hSw); go_simp <;> with_reducible rfl)
 try simp only [List.getElem_toArray, List.getElem_cons_succ, List.getElem_cons_zero, Act.put, List.setIfInBounds_toArray, List.set_cons_zero, List.set_cons_succ]
 refine wpAnyH_ready (rs := [5]) (by kernel_rfl) (by simp) ?_
 refine AllReadyH.cons (o := _) rfl (fun K hK => ?_) AllReadyH.nil
 go_simp
 refine (HT.out _ (Keeps.refl _ _).drew).mono ?_
 rintro e w1 ⟨rfl, rfl⟩
 refine hK.out _ _ (HS.out _ (Keeps.refl _ _).drew) (fun hHeld2 => ?_)
 clear hK K hHeld
 have hHeld := hHeld2
 clear hHeld2
 try simp only [List.getElem_toArray, List.getElem_cons_succ, List.getElem_cons_zero, Act.put, List.setIfInBounds_toArray, List.set_cons_zero, List.set_cons_succ]
 refine wpAnyH_ready (rs := [10]) (by kernel_rfl) (by simp) ?_
 refine AllReadyH.cons (o := _) rfl (fun K hK => ?_) AllReadyH.nil
 go_simp
 refine (HL.out _ (Keeps.refl _ _).drew).mono ?_
 rintro e w2 ⟨A2, rfl, hE2, hk2⟩
 have Hk2 : Hid (Keeps [] w w2) := ((Keeps.refl [] w).drew).trans hk2 (by simp)
 have HE2 := Lib.hid (hE2 [] (by simp))
 clear hE2 hk2
 refine hK.out _ _ (HS.out _ Hk2.out) (fun hHeld2 => ?_)
 clear hK K hHeld
 have hHeld := hHeld2
 clear hHeld2
 try simp only [List.getElem_toArray, List.getElem_cons_succ, List.getElem_cons_zero, Act.put, List.setIfInBounds_toArray, List.set_cons_zero, List.set_cons_succ]
 refine wpAnyH_take (i := 15) (oi := _) (v := ?v15u14) rfl (by kernel_rfl) (by kernel_rfl) (by kernel_rfl) (fun _ _ _ h => h) (Or.inl ⟨by rfl, ?y15u14⟩) (by assumption) ?r15u14
 case y15u14 => (intro w hSw; (obtain ⟨hS0, hS1⟩ := hSw); go_simp <;> with_reducible rfl)
 try simp only [List.getElem_toArray, List.getElem_cons_succ, List.getElem_cons_zero, Act.put, List.setIfInBounds_toArray, List.set_cons_zero, List.set_cons_succ]
 refine wpAnyH_ready (rs := [16]) (by kernel_rfl) (by simp) ?_
 refine AllReadyH.cons (o := _) rfl (fun K hK => ?_) AllReadyH.nil
 go_simp
 refine (show Calls Tryz.prog 37 #[.pointer (some ⟨r, 0, none⟩), .agg #[.int .i64 5, .int .i64 0, .int .i64 0, .int .i64 0, .int .i64 0, .int .i64 0, .slice none 0 0, .string ⟨#[]⟩, .int .i64 0, .int .i64 0, .int .i64 0, .int .i64 0, .int .u64 0, .int .i64 R.x.t, .int .i64 0, .slice A2 R.x.log.length R.x.log.length, .int .i64 R.com, .int .i64 0]] w2 _ from (HA.out _ _ Hk2.out HE2.out)).mono ?_
 intro e w3 hp
 obtain ⟨v, rfl⟩ := HV.out _ _ _ hp
 have hk3 : Keeps [] w2 w3 := by obtain ⟨_, _, _, _, _, h4⟩ := hp; exact Keeps.of_below (M := []) h4
 have Hp := Lib.hid (HP.out _ _ _ Hk2.out hp)
 have Hk3 := Lib.hid (Hk2.out.trans hk3 (by simp))
 clear hp hk3
 refine hK.out _ _ (HS.out _ Hk3.out) (fun hHeld2 => ?_)
 clear hK K hHeld
 have hHeld := hHeld2
 clear hHeld2
 try simp only [List.getElem_toArray, List.getElem_cons_succ, List.getElem_cons_zero, Act.put, List.setIfInBounds_toArray, List.set_cons_zero, List.set_cons_succ]
 refine wpAnyH_take (i := 17) (oi := _) (v := ?v17u15) rfl (by kernel_rfl) (by kernel_rfl) (by kernel_rfl) (fun _ _ _ h => h) (Or.inl ⟨by rfl, ?y17u15⟩) (by assumption) ?r17u15
 case y17u15 => (intro w hSw; (obtain ⟨hS0, hS1⟩ := hSw); go_simp <;> with_reducible rfl)
 try simp only [List.getElem_toArray, List.getElem_cons_succ, List.getElem_cons_zero, Act.put, List.setIfInBounds_toArray, List.set_cons_zero, List.set_cons_succ]
 refine wpAnyH_done (by kernel_rfl) ?_ _
 clear hHeld
 clear HT HL HA HP HV
 go_wp2_with fail
 go_ret
 exact Hp.out
end
end Go.Proofs.YtdaceeijifjpeaaGreatDoor.Vi
end
section
namespace Go.Proofs.YtdaceeijifjpeaaGreatDoor.Vi
open Go.RowKit Base Mem Go.Sort Go.Shelf
instance : Inhabited DeltaD := ⟨⟨⟨#[]⟩, 0⟩⟩
def cmpD (a b : DeltaD) : Int := cmpS a.ser b.ser
theorem bySer_any (a b : DeltaD) (w : World) : Calls Tryz.prog 84 #[.agg #[.string a.ser, .int .u64 a.n], .agg #[.string b.ser, .int .u64 b.n]] w fun e w' => e = .returned (.int .i64 (cmpD a b)) ∧ ∃ q os', w' = Sort.grow (w.drewN q) os' := by
 have hc := Lib.hid (fun x y W => compStr x y W)
 have hr : Hid (cmpD a b = cmpS a.ser b.ser) := rfl
 go_enter Tryz.func84, Tryz.ntmps84
 go_wp2_with fail
 refine (hc.out _ _ _).mono ?_
 rintro e w' ⟨rfl, rfl⟩
 go_wp2
 go_ret
 refine ⟨by rw [hr.out]; rfl, 0, #[.cells #[.string a.ser, .int .u64 a.n] 91, .cells #[.string b.ser, .int .u64 b.n] 91], ?_⟩
 simp only [Sort.alloc_eq_grow, Sort.grow_grow]
 rfl
theorem bySer_lays (blk off size : Nat) (w : World) : CmpLays Tryz.prog 84 #[] dCell 2 cmpD blk off size w := fun _ _ _ _ x y => bySer_any x y _
theorem sLt_ltD (x y : ByteArray) : sLt x y = decide (x.toList < y.toList) := bytesLess_eq _ _
theorem ltOf_ser (a b : DeltaD) : ltOf cmpD a b = sLt a.ser b.ser := by
 unfold ltOf cmpD cmpS
 cases h : sLt a.ser b.ser
 ·simp only [Bool.false_eq_true, if_false]
  split <;> simp
 ·simp
theorem swoD : SWO (ltOf cmpD) where
 irrefl x := by rw [ltOf_ser, sLt_ltD]; simp [List.lt_irrefl]
 trans x y z h1 h2 := by simp only [ltOf_ser, sLt_ltD, decide_eq_true_eq] at *; exact List.lt_trans h1 h2
 ntrans x y z h1 h2 := by
  simp only [ltOf_ser, sLt_ltD, decide_eq_false_iff_not, List.not_lt] at *
  exact List.le_trans h2 h1
/-- Deltas in the order of the sort. -/
def sortD (l : List DeltaD) : List DeltaD := (insertionSort (ltOf cmpD) l.toArray 0 l.length).toList
theorem sortF_any (blk off cap : Nat) (l : List DeltaD) (w : World) (hH : HoldsK dCell 2 w blk off l.toArray) (hblk : blk < w.heap.size) (hsz : l.length ≤ 12) :
  Calls Tryz.prog 83 #[.slice (some ⟨blk, off, none⟩) l.length cap, .func (.func 84) #[] #[]] w fun e w' =>
   e = .returned (.tuple #[]) ∧ ∃ n os, w' = sortWorldK dCell 2 w blk off n (sortD l).toArray os := by
 have eg : ∀ args w, (callFunc 84 args).run Tryz.prog w = .ok (.enter 84 args) w := enters_of Tryz.func84 (by kernel_rfl) rfl
 have h := AnyQ.slices_SortFunc_small Tryz.sortDelta 2 Tryz.isAgg91 Tryz.sizeOf91 dCell (fun _ => rfl) (fun x v hv => by simp [dCell] at hv; rcases hv with rfl | rfl <;> rfl) cmpD 84 #[] blk off cap l.toArray w eg (bySer_lays blk off _ w) hH hblk (by simpa using hsz)
  (fun n W hn => (Tryz.bits_Len n W (by omega) (by omega)).mono fun _ _ ⟨h1, h2⟩ => ⟨⟨_, h1⟩, h2⟩)
 simp only [List.size_toArray] at h
 exact h
theorem sortF_none (A : Option Addr) (cap : Nat) (w : World) : Calls Tryz.prog 83 #[.slice A 0 cap, .func (.func 84) #[] #[]] w fun e w' => e = .returned (.tuple #[]) ∧ w' = w :=
 AnyF.slices_SortFunc_none Tryz.sortDelta A cap (.func (.func 84) #[] #[]) w
theorem sortD_facts (l : List DeltaD) : (sortD l).Perm l ∧ (sortD l).Pairwise fun a b => sLt b.ser a.ser = false := by
 obtain ⟨⟨h1, h2, h3⟩, h4⟩ := insertionSort_holds (lt := ltOf cmpD) swoD l.toArray 0 l.length (Nat.zero_le _) (by simp)
 unfold sortD
 generalize insertionSort (ltOf cmpD) l.toArray 0 l.length = d at *
 have hs : d.size = l.length := by simpa using h1
 have e1 : d.extract 0 l.length = d := by rw [← hs]; simp
 have e2 : l.toArray.extract 0 l.length = l.toArray := by simp
 rw [e1, e2] at h3
 refine ⟨by simpa using h3, ?_⟩
 rw [List.pairwise_iff_getElem]
 intro i j hi hj hij
 have := h4 i j (Nat.zero_le _) hij (by simpa [hs] using hj)
 rw [ltOf_ser] at this
 have a1 : d[j]! = d.toList[j] := by rw [getElem!_pos d j (by simpa using hj)]; simp
 have a2 : d[i]! = d.toList[i] := by rw [getElem!_pos d i (by simpa using hi)]; simp
 rw [a1, a2] at this
 exact this
def SfP (v : Value) (l : List DeltaD) (w : World) (e : Ending) (w' : World) : Prop := e = .returned (.tuple #[]) ∧ (∀ M : List Nat, (∀ g, v.ownBlock = some g → g ∉ M) → Ds w' M v (sortD l)) ∧ Keeps v.ownBlock.toList w w'
theorem sortD_len (l : List DeltaD) : (sortD l).length = l.length := (sortD_facts l).1.length_eq
theorem sortR_any (base : Nat) (v : Value) (l : List DeltaD) (w : World) (h : w.ownsRow base 91 2 v l.length (dCells l)) (hl : l.length ≤ 12) :
  Calls Tryz.prog 83 #[v, .func (.func 84) #[] #[]] w fun e w' => SfP v l w e w' := by
 rcases Nat.eq_zero_or_pos l.length with h0 | h0
 ·obtain rfl : l = [] := List.length_eq_zero_iff.1 h0
  obtain ⟨A, c, rfl, _⟩ := Rd.of_own h (M := []) (by simp)
  refine (sortF_none A c w).mono ?_
  rintro e w' ⟨rfl, rfl⟩
  exact ⟨rfl, fun M _ => ⟨A, c, by rw [sortD_len], by rw [sortD_len]; exact Nat.zero_le _, dCells_len _, fun hn => absurd hn (by rw [sortD_len]; exact Nat.lt_irrefl 0)⟩, Keeps.refl _ _⟩
 ·rcases h.2 with ⟨_, hn⟩ | ⟨g, cap, cur, rfl, hg0, hb, h1, h2, h3, h4⟩
  ·omega
  ·have hcur : cur = (l.flatMap dCell ++ cur.toList.drop (l.length * 2)).toArray := by
    apply Array.ext'
    show cur.toList = l.flatMap dCell ++ cur.toList.drop (l.length * 2)
    rw [show l.flatMap dCell = cur.toList.take (l.length * 2) from h4.symm, List.take_append_drop]
   have hB : Blk w g 91 (l.flatMap dCell ++ cur.toList.drop (l.length * 2)).toArray := by
    unfold Blk
    rw [← hcur]
    exact hb
   refine (sortF_any g 0 cap l w (RowsK.blk_holds dCell 2 (fun _ => rfl) (by omega) hB) hB.lt hl).mono ?_
   rintro e w' ⟨rfl, n, os, rfl⟩
   have hB2 := RowsK.blk_sorted dCell 2 (fun _ => rfl) (by omega) hB (sortD_len l) n os
   refine ⟨rfl, fun M hM => ⟨_, _, by rw [sortD_len], by rw [sortD_len]; exact h1, dCells_len _, fun _ => ⟨g, 0, rfl, hB2.lt, hM g rfl, fun j u hu => ?_⟩⟩, RowsK.keeps_sorted dCell 2 w g n _ os⟩
   have hu' : ((sortD l).flatMap dCell)[j]? = some u := hu
   rw [Nat.zero_add, hB2.cell, List.getElem?_toArray, List.getElem?_append_left (List.getElem?_eq_some_iff.1 hu').1]
   exact hu'
end Go.Proofs.YtdaceeijifjpeaaGreatDoor.Vi
end
section
namespace Go.Proofs.YtdaceeijifjpeaaGreatDoor.Vi
open Go.RowKit Base Mem Go.Shelf
open Go.Maps (Keyed)
/-- These deltas have been met: those of the map that are no longer to come. -/
def Coll (D : DataW Unit) (left : Lit → Bool) (ss : List DeltaD) : Prop :=
 ss.Pairwise (fun a b => a.ser ≠ b.ser) ∧ ∀ d, d ∈ ss ↔ (Maps.has D (skey d.ser) = true ∧ left (skey d.ser) = false ∧ d.n = numAt .u64 D (skey d.ser))
theorem coll_start (D : DataW Unit) : Coll D (Maps.has D) [] := ⟨List.Pairwise.nil, fun d => ⟨fun h => (by simp at h), fun ⟨h1, h2, _⟩ => by rw [h1] at h2; cases h2⟩⟩
theorem coll_step {D : DataW Unit} {left : Lit → Bool} {ss : List DeltaD} (h : Coll D left ss) {x : ByteArray} {c : Int} (hl : left (skey x) = true) (hh : Maps.has D (skey x) = true) (hc : numAt .u64 D (skey x) = c) :
  Coll D (fun z => left z && !z.sameKey (skey x)) (ss ++ [⟨x, c⟩]) := by
 obtain ⟨h1, h2⟩ := h
 refine ⟨List.pairwise_append.2 ⟨h1, by simp, fun a ha b hb => ?_⟩, fun d => ?_⟩
 ·simp at hb
  subst hb
  intro e
  have := ((h2 a).1 ha).2.1
  rw [show a.ser = x from e, hl] at this
  cases this
 ·rw [List.mem_append, h2 d, List.mem_singleton]
  show _ ↔ (_ ∧ (left (skey d.ser) && !(skey d.ser).sameKey (skey x)) = false ∧ _)
  by_cases e : d.ser = x
  ·subst e
   rw [hl, WideAt.sameKey_self (skey_key _)]
   constructor
   ·rintro (⟨_, h, _⟩ | h)
    ·cases h
    ·rw [h]
     exact ⟨hh, rfl, hc.symm⟩
   ·rintro ⟨_, _, h⟩
    right
    obtain ⟨s, n⟩ := d
    simp only [] at h hc ⊢
    rw [h, hc]
  ·have hne : skey d.ser ≠ skey x := fun h => e (skey_inj h)
   rw [Maps.sameKey_ne hne, Bool.not_false, Bool.and_true]
   constructor
   ·rintro (h | h)
    ·exact h
    ·exact absurd (by rw [h]) e
   ·exact fun h => .inl h
/-- All of a map, by series. -/
def IsAll (D : DataW Unit) (l : List DeltaD) : Prop := (l.Pairwise fun a b => sLt a.ser b.ser = true) ∧ ∀ d, d ∈ l ↔ (Maps.has D (skey d.ser) = true ∧ d.n = numAt .u64 D (skey d.ser))
theorem coll_end {D : DataW Unit} {left : Lit → Bool} {ss : List DeltaD} (h : Coll D left ss) (hl : ∀ kl, left kl = false) : IsAll D (sortD ss) := by
 obtain ⟨h1, h2⟩ := h
 obtain ⟨h3, h4⟩ := sortD_facts ss
 have h5 : (sortD ss).Pairwise (fun a b => a.ser ≠ b.ser) := (h3.pairwise_iff (fun {_ _} h => Ne.symm h)).2 h1
 refine ⟨(h4.and h5).imp (fun {a b} hab => ?_), fun d => ?_⟩
 ·have h6 := hab.1
  rw [sLt_ltD, decide_eq_false_iff_not, List.not_lt] at h6
  rw [sLt_ltD, decide_eq_true_eq]
  rcases List.le_iff_lt_or_eq.1 h6 with h7 | h7
  ·exact h7
  ·exact absurd (toList_inj h7) hab.2
 ·rw [h3.mem_iff, h2 d]
  constructor
  ·exact fun h => ⟨h.1, h.2.2⟩
  ·exact fun h => ⟨h.1, hl _, h.2⟩
def AlP (D : DataW Unit) (w : World) (e : Ending) (w' : World) : Prop := ∃ v l, e = .returned v ∧ IsAll D l ∧ l.length ≤ 12 ∧ (∀ M, (∀ g ∈ M, g < w.heap.size) → Ds w' M v l) ∧ Keeps [] w w'
set_option maxRecDepth 100000 in
set_option maxHeartbeats 2000000 in
theorem small_any (g b N : Nat) (D : DataW Unit) (w : World) (h : SmAt w g b N D) (h12 : Maps.size D ≤ 12) :
  Calls Tryz.prog 53 #[.pointer (some ⟨g, 0, none⟩)] w fun e w' => AlP D w e w' := by
 have c0 := h.1.cell 0
 simp only [List.getElem?_toArray, List.getElem?_cons_zero] at c0
 have HM := Lib.hid h
 have hbl : b < w.heap.size := h.2.1.lt
 obtain ⟨i0, hi0, hz0, hz1, hz2⟩ := info_parts infoDelta
 have Hi0 := Lib.hid hi0; have Hz0 := Lib.hid hz0; have Hz1 := Lib.hid hz1; have Hz2 := Lib.hid hz2
 clear h hi0 hz0 hz1 hz2
 go_enter Tryz.func53, Tryz.ntmps53
 go_wp2_with (at_range; refine wpList_range_own _ rfl _ 137 rfl 9 34 lawS uMS _ b N D rfl HM.out.2.1 ?_; intro w0 hrg0 hg0 hs0)
 have Hrg0 := Lib.hid hrg0
 have Hk0 : Hid (Keeps [] w w0) := (Keeps.refl _ _).grown hg0 (fun j hj => by cases hj)
 have hs0' : w.heap.size < w0.heap.size := by rw [hs0]; exact Nat.lt_succ_self _
 have Hs0 := Lib.hid hs0'
 clear hrg0 hg0 hs0 hs0' c0
 obtain ⟨r, Hr⟩ : ∃ r, Hid (r = w.heap.size) := ⟨_, rfl⟩
 rw [← Hr.out] at Hrg0 ⊢
 go_frame
 go_loopw [3] (fun out wr => ∃ (left : Lit → Bool) (cnt : Nat) (ss : List DeltaD), ss.length + cnt ≤ Maps.size D ∧ Hid (Coll D left ss) ∧ Hid (wr.ranges Tryz.prog 9 (plainElem Tryz.prog 34) b r N D left cnt) ∧ Hid (wr.ownsRow w0.heap.size 91 2 out ss.length (dCells ss)) ∧ Hid (Keeps [r] w0 wr)) (fun _ wr => wr.rangeLeft b r)
 case atStart => exact ⟨_, _, [], by simp, coll_start D, Hrg0.out, World.ownsRow_nil _ _ _ _, Keeps.refl _ _⟩
 case round =>
  obtain ⟨left, cnt, ss, hcnt, HC, Hrg, Hown, Hkr⟩ := hrel
  obtain ⟨Ao, co, rfl, hco⟩ : ∃ Ao co, u3 = .slice Ao ss.length co ∧ ss.length ≤ co := by
   obtain ⟨Ao, co, h1, h2, _⟩ := Rd.of_own Hown.out (M := []) (by simp)
   exact ⟨Ao, co, h1, h2⟩
  go_wp2_with (at_next; refine wpList_next_ranges _ rfl _ rfl 9 lawS (plainElem Tryz.prog 34) Value.string (Value.int .u64) invKS invVU b r N D left cnt rfl Hrg.out ?_ ?_)
  ·intro hc0 hl0
   have HA := Lib.hid (coll_end HC.out hl0)
   have HSF := Lib.hid (sortR_any _ (.slice Ao ss.length co) ss wr Hown.out (by omega))
   clear hl0
   go_wp2_with fail
   refine HSF.out.mono ?_
   rintro e w2 ⟨rfl, hds, hk2⟩
   have Hds := Lib.hid hds; have Hk2 := Lib.hid hk2
   clear hds hk2 HSF
   go_wp2_with fail
   refine (clipDelta Ao ss.length co w2 hco).mono ?_
   rintro e w3 ⟨rfl, rfl⟩
   have hP : Hid (AlP D w (.returned (.slice Ao ss.length ss.length)) w2) := by
    refine ⟨_, sortD ss, rfl, HA.out, by rw [sortD_len]; omega, fun M hM => ?_, ?_⟩
    ·obtain ⟨A1, c1, e1, h1, h2, h3⟩ := Hds.out M (fun g hg hm => by
      have h4 := (Hown.out.lt g hg).1
      have h5 := hM g hm
      have h6 := Hs0.out
      exact absurd (Nat.lt_of_lt_of_le (Nat.lt_trans h5 h6) h4) (Nat.lt_irrefl _))
     injection e1 with e1 e2 e3
     subst e1
     exact ⟨Ao, ss.length, by rw [sortD_len], by rw [sortD_len]; exact Nat.le_refl _, h2, h3⟩
    ·refine (Hk0.out.trans Hkr.out (fun x hx => .inr (by simp at hx; rw [hx, Hr.out]; exact Nat.le_refl _))).trans Hk2.out (fun x hx => .inr ?_)
     have h4 := (Hown.out.lt x (by simpa using hx)).1
     exact Nat.le_trans (Nat.le_of_lt Hs0.out) h4
   go_wp2
   go_ret
   exact hP.out
  ·intro x c kl yd yp w2 cnt2 hkey hlk hv hat hrg2 hlt2 hg2 hs2 hen
   have hks : kl = skey x := by
    simp [keyOf, uStr, mapKey] at hkey
    exact hkey.2.symm
   subst hks
   have hnum : numAt .u64 D (skey x) = c := by
    have h1 := hat (.lit (.int .u64 0))
    obtain ⟨c', e1, e2, _⟩ := plainElem_int_inv uU64 hv
    injection e1 with _ e1
    subst e1
    injection e2 with e2 _
    rw [e2] at h1
    exact numAt_of h1
   have HC2 := Lib.hid (coll_step HC.out hlk (Maps.has_true_of_atKey hat) hnum)
   have hm0 := Hrg.out.left_eq
   have hbr : r < w0.heap.size := by have := Hs0.out; rw [Hr.out]; exact this
   have Hbr := Lib.hid hbr
   have Hk2 : Hid (Keeps [r] w0 w2) := Hkr.out.grown hg2 (fun j hj => .inl (by cases hj; simp))
   have hk2w : Keeps [r] wr w2 := (Keeps.refl _ _).grown hg2 (fun j hj => .inl (by cases hj; simp))
   have Hown2 : Hid ((w2.alloc (.cells #[.string x, .int .u64 c] 91)).ownsRow w0.heap.size 91 2 (.slice Ao ss.length co) ss.length (dCells ss)) := (own_keep Hown.out hk2w (by intro g hg; simp at hg; subst hg; exact hbr)).alloc _
   have hkb : Hid (Keeps [] w2 (w2.alloc (.cells #[.string x, .int .u64 c] 91))) := (Keeps.refl _ _).alloc _
   have Hrg2 := Lib.hid hrg2
   have hle : w0.heap.size ≤ w2.heap.size := Hk2.out.size
   have hss : ss.length < 12 := by omega
   have hcn : (ss ++ [(⟨x, c⟩ : DeltaD)]).length + cnt2 ≤ Maps.size D := by simp; omega
   clear hs2 hg2 hrg2 hat hv hlk hkey hk2w hbr Hrg
   go_wp2_with (at_builtin; refine wpList_append_any _ rfl (.tmp 16) (.tmp 20) _ rfl w0.heap.size 91 i0 _ 2 24 Tryz.underlying31 Hi0.out Hz0.out Hz1.out Hz2.out rfl (by omega) (.slice Ao ss.length co) ss.length (dCells ss) rfl Hown2.out (w2.heap.size + 1) (some ⟨w2.heap.size, 0, none⟩) 1 1 (dCell ⟨x, c⟩) rfl (reads_new _ _ _ _ _ rfl) (by intro u hu; simp [dCell] at hu; rcases hu with rfl | rfl <;> rfl) (by unfold maxLen; omega) (by omega) (by simp; omega) ?_)
   intro v6 w6 hown6 hg6 hat6
   have Hown6 : Hid (w6.ownsRow w0.heap.size 91 2 v6 (ss ++ [(⟨x, c⟩ : DeltaD)]).length (dCells (ss ++ [(⟨x, c⟩ : DeltaD)]))) := by
    show World.ownsRow _ _ _ _ _ _ _
    unfold dCells at hown6 ⊢
    rw [List.flatMap_append]
    simpa using hown6
   have hlt0 := Hown.out.lt
   have hk6 : Keeps (Value.slice Ao ss.length co).ownBlock.toList w2 w6 := ((Keeps.refl _ _).alloc _).grown hg6 (fun k hk => .inl (by simp [hk]))
   have Hrg6 : Hid (w6.ranges Tryz.prog 9 (plainElem Tryz.prog 34) b r N D (fun z => left z && !z.sameKey (skey x)) cnt2) := rg_keep Hrg2.out hk6 (fun hm => by
    have h1 := (hlt0 b (by simpa using hm)).1
    have h2 := Hs0.out
    exact absurd (Nat.lt_trans hbl h2) (Nat.not_lt.2 h1)) (fun hm => by
    have h1 := (hlt0 r (by simpa using hm)).1
    exact absurd Hbr.out (Nat.not_lt.2 h1))
   have Hk6 : Hid (Keeps [r] w0 w6) := Hk2.out.trans hk6 (fun k hk => .inr (hlt0 k (by simpa using hk)).1)
   have hm6 := Hrg6.out.left_eq
   clear hown6 hg6 hat6 hk6 hlt0
   go_wp2
   go_roundw
   case rel => exact ⟨_, cnt2, ss ++ [⟨x, c⟩], hcn, HC2, Hrg6, Hown6, Hk6⟩
   case measure => rw [hm0, hm6]; exact hlt2
end Go.Proofs.YtdaceeijifjpeaaGreatDoor.Vi
end
section
namespace Go.Proofs.YtdaceeijifjpeaaGreatDoor.Vi
open Go.RowKit Base Mem Tape
theorem sLt_no (x : ByteArray) : sLt x x = false := by rw [sLt_ltD]; simp [List.lt_irrefl]
theorem sLt_tr {x y z : ByteArray} (h1 : sLt x y = true) (h2 : sLt y z = true) : sLt x z = true := by
 rw [sLt_ltD, decide_eq_true_eq] at *
 exact List.lt_trans h1 h2
theorem sorted_one : ∀ (l l' : List DeltaD), (l.Pairwise fun a b => sLt a.ser b.ser = true) → (l'.Pairwise fun a b => sLt a.ser b.ser = true) → (∀ x, x ∈ l ↔ x ∈ l') → l = l'
 | [], [], _, _, _ => rfl
 | [], y :: _, _, _, h => by have := (h y).2 (by simp); simp at this
 | x :: _, [], _, _, h => by have := (h x).1 (by simp); simp at this
 | x :: l, y :: l', h1, h2, h => by
  obtain ⟨a1, a2⟩ := List.pairwise_cons.1 h1
  obtain ⟨b1, b2⟩ := List.pairwise_cons.1 h2
  have e : x = y := by
   rcases List.mem_cons.1 ((h x).1 (by simp)) with e | e
   ·exact e
   ·rcases List.mem_cons.1 ((h y).2 (by simp)) with e' | e'
    ·exact e'.symm
    ·have := sLt_tr (a1 y e') (b1 x e)
     rw [sLt_no] at this
     cases this
  subst e
  rw [sorted_one l l' a2 b2 (fun z => ?_)]
  constructor
  ·intro hz
   rcases List.mem_cons.1 ((h z).1 (by simp [hz])) with e | e
   ·subst e
    have := a1 z hz
    rw [sLt_no] at this
    cases this
   ·exact e
  ·intro hz
   rcases List.mem_cons.1 ((h z).2 (by simp [hz])) with e | e
   ·subst e
    have := b1 z hz
    rw [sLt_no] at this
    cases this
   ·exact e
theorem isAll_one {D : DataW Unit} {l l' : List DeltaD} (h : IsAll D l) (h' : IsAll D l') : l = l' := sorted_one l l' h.1 h'.1 (fun x => by rw [h.2 x, h'.2 x])
theorem mcsums_any (g : Nat) (X : List Nat) (st : McD) (N : Nat) (w : World) (h : McAt w g X st N) (h12 : Maps.size st.DS ≤ 12) :
  Calls Tryz.prog 22 #[.pointer (some ⟨g, 0, none⟩)] w fun e w' => AlP st.DS w e w' := by
 obtain ⟨c, DH, h⟩ := h
 have c0 := h.b0.cell 0
 simp only [List.getElem?_toArray, List.getElem?_cons_zero] at c0
 have HA := Lib.hid (small_any _ _ _ _ w h.sm h12)
 clear h
 go_enter Tryz.func22, Tryz.ntmps22
 go_wp2_with fail
 refine HA.out.mono ?_
 rintro e w1 ⟨v, l, rfl, h⟩
 have hP : Hid (AlP st.DS w (.returned v) w1) := ⟨v, l, rfl, h⟩
 clear h
 go_wp2
 go_ret
 exact hP.out
/-- The places that the law looks at. -/
structure RdOk (i : Nat) (st : McD) : Prop where
 names : NamesIn st.DS
 keys : KeysIn st.DS
 f0 : ∀ kl, 0 ≤ (st.get kl).f
 fi : ∀ kl, (st.get kl).f ≤ 64 * i
 m64 : ∀ kl, (st.get kl).m < 2 ^ 64
theorem addL_keys : ∀ (l : List DeltaD) (D : DataW Unit), (∀ d ∈ l, NameOk d.ser) → NamesIn D → KeysIn D → NamesIn (addL D l) ∧ KeysIn (addL D l)
 | [], _, _, h1, h2 => ⟨h1, h2⟩
 | d :: r, D, hl, h1, h2 => addL_keys r _ (fun x hx => hl x (by simp [hx])) (fun k hk => by
   by_cases he : k = skey d.ser
   ·subst he; exact nameK_of (hl d (by simp))
   ·exact h1 k (by rw [← hk]; exact (Maps.has_put_other he _).symm)) (h2.put (skey_key _) _)
theorem addW_bd (f : Int) (m : Nat) (n : Int) : f ≤ (Win.addW f m n).1 ∧ (Win.addW f m n).1 ≤ f + 64 := by
 unfold Win.addW
 generalize m ||| 2 ^ (n - f - 1).toNat = x
 have : ∀ (k : Nat) (f : Int) (m : Nat), f ≤ (Win.normW k f m).1 ∧ (Win.normW k f m).1 ≤ f + k := by
  intro k
  induction k with
  | zero => intro f m; simp [Win.normW]
  | succ k ih =>
   intro f m
   rw [Win.normW]
   split
   ·have := ih (f + 1) (m / 2); omega
   ·simp only []; omega
 have := this 64 f x
 omega
theorem set_fi {st : McD} {i : Nat} (h0 : ∀ kl, 0 ≤ (st.get kl).f) (h1 : ∀ kl, (st.get kl).f ≤ 64 * i) (kl : Lit) (s : ShD) (hs0 : 0 ≤ s.f) (hs1 : s.f ≤ 64 * i + 64) : (∀ k, 0 ≤ ((st.set kl s).get k).f) ∧ ∀ k, ((st.set kl s).get k).f ≤ 64 * ((i + 1 : Nat) : Int) := by
 refine ⟨fun k => ?_, fun k => ?_⟩
 ·by_cases e : k = kl
  ·subst e; rw [McD.get_set]; exact hs0
  ·rw [McD.get_other _ _ e]; exact h0 k
 ·by_cases e : k = kl
  ·subst e; rw [McD.get_set]; omega
  ·rw [McD.get_other _ _ e]; have := h1 k; omega
theorem RdOk.mono {i : Nat} {st : McD} (h : RdOk i st) : RdOk (i + 1) st := ⟨h.names, h.keys, h.f0, fun kl => by have := h.fi kl; omega, h.m64⟩
theorem new_bd {f : Int} {m : Nat} {n : Int} (h1 : Win.seenW f m n = false) (h2 : Win.farW f n = false) : f < n ∧ n - f - 1 < 64 := by
 have hlt : f < n := by
  unfold Win.seenW at h1
  rw [Bool.or_eq_false_iff, decide_eq_false_iff_not] at h1
  omega
 refine ⟨hlt, ?_⟩
 unfold Win.farW at h2
 rw [Bool.and_eq_false_iff, decide_eq_false_iff_not, decide_eq_false_iff_not] at h2
 omega
theorem addW_m64 {f : Int} {m : Nat} {n : Int} (hm : m < 2 ^ 64) (h : f < n ∧ n - f - 1 < 64) : (Win.addW f m n).2 < 2 ^ 64 := (Win.normW_bd 64 f (m ||| 2 ^ (n - f - 1).toNat) (Win.or_lt hm (by omega))).2.2
theorem set_m {st : McD} (h : ∀ kl, (st.get kl).m < 2 ^ 64) (kl : Lit) (s : ShD) (hs : s.m < 2 ^ 64) : ∀ k, ((st.set kl s).get k).m < 2 ^ 64 := fun k => by
 by_cases e : k = kl
 ·subst e; rw [McD.get_set]; exact hs
 ·rw [McD.get_other _ _ e]; exact h k
theorem rd_count {i : Nat} {st : McD} (h : RdOk i st) (kl : Lit) {e : EntryD} (hn : ∀ d ∈ e.ds, NameOk d.ser) (hs : (st.get kl).seen e.seq = false) (hf : Win.farW (st.get kl).f e.seq = false) : RdOk (i + 1) (countM st kl e).2 := by
 have hb := addW_bd (st.get kl).f (st.get kl).m e.seq
 have h0 := h.f0 kl
 have h1 := h.fi kl
 have hm := addW_m64 (h.m64 kl) (new_bd hs hf)
 unfold countM
 split
 ·obtain ⟨a1, a2⟩ := addL_keys e.ds st.DS hn h.names h.keys
  obtain ⟨b1, b2⟩ := set_fi (st := { st with DS := addL st.DS e.ds }) (i := i) h.f0 h.fi kl ((st.get kl).add e.seq) (by show 0 ≤ (Win.addW (st.get kl).f (st.get kl).m e.seq).1; omega) (by show (Win.addW (st.get kl).f (st.get kl).m e.seq).1 ≤ _; omega)
  exact ⟨a1, a2, b1, b2, set_m (st := { st with DS := addL st.DS e.ds }) h.m64 kl _ hm⟩
 ·split
  ·exact h.mono
  ·obtain ⟨b1, b2⟩ := set_fi (st := st) (i := i) h.f0 h.fi kl ({ (st.get kl) with bad := insI (st.get kl).bad e.seq }.add e.seq) (by show 0 ≤ (Win.addW (st.get kl).f (st.get kl).m e.seq).1; omega) (by show (Win.addW (st.get kl).f (st.get kl).m e.seq).1 ≤ _; omega)
   exact ⟨h.names, h.keys, b1, b2, set_m h.m64 kl _ hm⟩
theorem rd_apply {i : Nat} {st : McD} (h : RdOk i st) (kl : Lit) {e : EntryD} (hn : ∀ d ∈ e.ds, NameOk d.ser) : RdOk (i + 1) (applyM st kl e).2.2 := by
 have hE : RdOk i (stE st e) := ⟨h.names, h.keys, h.f0, h.fi, h.m64⟩
 unfold applyM
 split
 ·split
  ·exact h.mono
  ·split
   ·exact h.mono
   ·rename_i hs
    split
    ·exact h.mono
    ·split
     ·exact hE.mono
     ·rename_i hf
      exact rd_count hE kl hn (show (st.get kl).seen e.seq = false by simpa using hs) (show Win.farW (st.get kl).f e.seq = false by simpa using hf)
 ·exact h.mono
theorem rd_start : RdOk 0 mc0 := ⟨fun k hk => by simp [Maps.has, mc0] at hk, ⟨[], rfl, List.Pairwise.nil, by simp⟩, fun kl => by simp [McD.get, mc0], fun kl => by simp [McD.get, mc0], fun kl => by simp [McD.get, mc0]⟩
end Go.Proofs.YtdaceeijifjpeaaGreatDoor.Vi
end
section
namespace Go.Proofs.YtdaceeijifjpeaaGreatDoor.Vi
open Go.RowKit Base Mem Go.Shelf Tape
open Lead (VoteD VoteAt)
theorem f_set {st : McD} {i : Int} (h : ∀ kl, (st.get kl).f ≤ i) (kl : Lit) (s : ShD) (hs : s.f ≤ i) : ∀ k, ((st.set kl s).get k).f ≤ i := fun k => by
 by_cases e : k = kl
 ·subst e; rw [McD.get_set]; exact hs
 ·rw [McD.get_other _ _ e]; exact h k
theorem f_apply {st : McD} {i : Nat} (h : ∀ kl, (st.get kl).f ≤ 64 * (i : Int)) (kl : Lit) (e : EntryD) : ∀ k, ((applyM st kl e).2.2.get k).f ≤ 64 * ((i + 1 : Nat) : Int) := by
 have hm : ∀ k, (st.get k).f ≤ 64 * ((i + 1 : Nat) : Int) := fun k => by have := h k; omega
 have hE : ∀ k, ((stE st e).get k).f ≤ 64 * ((i + 1 : Nat) : Int) := hm
 have hadd : ((st.get kl).add e.seq).f ≤ 64 * ((i + 1 : Nat) : Int) := by
  have := (addW_bd (st.get kl).f (st.get kl).m e.seq).2
  have h1 := h kl
  show (Win.addW (st.get kl).f (st.get kl).m e.seq).1 ≤ _
  omega
 unfold applyM
 split
 ·split
  ·exact hm
  ·split
   ·exact hm
   ·split
    ·exact hm
    ·split
     ·exact hE
     ·unfold countM
      split
      ·exact f_set (st := { stE st e with DS := addL (stE st e).DS e.ds }) hm kl _ hadd
      ·split
       ·exact hE
       ·exact f_set hE kl _ hadd
 ·exact hm
theorem eok_i64 {e : EntryD} (h : EOk e) : I64 e.ag ∧ I64 e.sh ∧ I64 e.seq ∧ I64 e.ep ∧ (∀ d ∈ e.ds, DOk d) ∧ e.ds.length ≤ 8 := by
 have hl := eok_ds8 h
 obtain ⟨hr, hs, hw⟩ := h
 have hk := right_kind hr
 have hd : ∀ d ∈ e.ds, DOk d := fun d hd => by
  have h1 := hw.2.2.2 d hd
  have h2 := hs.2.1 d hd
  exact ⟨h1.1, by have := h1.2; omega, by omega⟩
 rcases (right_facts hr).2 with h | h
 ·unfold kindS at hk
  rw [if_neg (by omega), if_pos h] at hk
  simp only [eqI, Bool.and_eq_true, beq_iff_eq, decide_eq_true_eq] at hk
  obtain ⟨⟨⟨a, b, c⟩, d⟩, _⟩ := hk
  exact ⟨⟨by omega, by omega⟩, ⟨by omega, by omega⟩, ⟨by omega, by omega⟩, ⟨by omega, by omega⟩, hd, hl⟩
 ·obtain ⟨-, a0, a1, s0, s1, q0, p0, -⟩ := h
  have h3 := hw.2.1; have h4 := hw.2.2.1
  exact ⟨⟨by omega, by omega⟩, ⟨by omega, by omega⟩, ⟨by omega, by omega⟩, ⟨by omega, by omega⟩, hd, hl⟩
section
variable {w w' : World} {M : List Nat} {tg : Nat → Nat} {r d : Nat} {R R' : RpD} {C : RpC}
/-- The replica's own block is set anew. -/
theorem RpV.setR (h : RpV w M tg r R C) (hM : ∀ g ∈ M, g < w.heap.size) (hk : Keeps [r] w w') (hb : Blk w' r 72 (rpCells R' C)) (e : R'.x = R.x ∧ R'.b = R.b ∧ R'.k = R.k ∧ R'.n = R.n ∧ R'.st = R.st ∧ R'.v = R.v ∧ R'.ap = R.ap) :
  RpV w' M tg r R' C ∧ Ext w M tg w' M tg ∧ Keeps (sel M tg [1]) w w' := by
 obtain ⟨e1, e2, e3, e4, e5, e6, e7⟩ := e
 have hn : ∀ g t, tg g = t → t ≠ 1 → g ∉ [r] := fun g t h1 h2 hm => by simp at hm; subst hm; exact h2 (h1 ▸ h.tr)
 refine ⟨⟨hb, ?_, ?_, fun v hv => ?_, h.rM, h.tr, h.sM, h.ts, h.pM, h.tp, h.yM, h.xM, by rw [e7]; exact h.nN⟩, Ext.refl hM hk.size, hk.to_sel (fun g hg => by simp at hg; subst hg; exact .inl ⟨h.rM, by rw [h.tr]; simp⟩)⟩
 ·rw [e1, e2, e3, e4]
  refine h.st.keepZ hk (fun g hg => by simp at hg; subst hg; exact .inl h.rM) (fun g hg => ?_)
  rcases List.mem_cons.1 hg with rfl | hg
  ·exact hn _ _ h.ts (by omega)
  ·rcases List.mem_cons.1 hg with rfl | hg
   ·exact hn _ _ h.tp (by omega)
   ·exact hn _ _ (h.yM g hg).2 (by omega)
 ·rw [e5]
  exact h.mc.keep hk (fun x hx => hn x _ (h.xM x hx).2 (by omega))
 ·rw [e6] at hv
  obtain ⟨h1, h2, h3⟩ := h.vt v hv
  exact ⟨h1.keep hk (hn _ _ h3 (by omega)) (fun g hg => by simp at hg; subst hg; exact .inl h.rM), h2, h3⟩
/-- An entry was applied. -/
theorem RpV.applied (h : RpV w M tg r R C) (hM : ∀ g ∈ M, g < w.heap.size) {st' : McD} {X' : List Nat} {N' : Nat} (hmc : McAt w' C.g X' st' N') (hX : ∀ x ∈ X', x < w'.heap.size) (hnew : ∀ x ∈ X', x ∈ C.X ∨ w.heap.size ≤ x) (hk : Keeps C.X w w') (hN : N' ≤ 12 * (R.ap + 1)) :
  ∃ M' tg', RpV w' M' tg' r { R with st := st', ap := R.ap + 1 } { C with X := X', N := N' } ∧ Ext w M tg w' M' tg' ∧ Keeps (sel M tg [5]) w w' := by
 have hks : Keeps (sel M tg [5]) w w' := hk.to_sel (fun g hg => .inl ⟨(h.xM g hg).1, by rw [(h.xM g hg).2]; simp⟩)
 have hx : Ext w M tg w' (X' ++ M) (fun x => if x ∈ X' then 5 else tg x) := ⟨fun g hg => List.mem_append_right _ hg, fun g hg => by
  rcases List.mem_append.1 hg with h1 | h1
  ·exact (hnew g h1).imp (fun h2 => (h.xM g h2).1) id
  ·exact .inl h1, fun g hg => by
  show (if g ∈ X' then 5 else tg g) = tg g
  split
  ·rename_i h1
   rcases hnew g h1 with h2 | h2
   ·exact (h.xM g h2).2.symm
   ·omega
  ·rfl, hM, fun g hg => by
  rcases List.mem_append.1 hg with h1 | h1
  ·exact hX g h1
  ·exact Nat.lt_of_lt_of_le (hM g h1) hk.size⟩
 have hn : ∀ g t, tg g = t → t ≠ 5 → g ∉ sel M tg [5] := fun g t h1 h2 hm => by
  have h3 := (mem_sel.1 hm).2
  simp at h3
  exact h2 (h1 ▸ h3)
 have hmt : ∀ g t, g ∈ M ∧ tg g = t → g ∈ X' ++ M ∧ (fun x => if x ∈ X' then 5 else tg x) g = t := fun g t h1 => ⟨hx.sub g h1.1, (hx.tag g (hM g h1.1)).trans h1.2⟩
 refine ⟨X' ++ M, _, ⟨hks.blk h.blk (hn _ _ h.tr (by omega)), ?_, hmc, fun v hv => ?_, (hmt _ _ ⟨h.rM, h.tr⟩).1, (hmt _ _ ⟨h.rM, h.tr⟩).2, (hmt _ _ ⟨h.sM, h.ts⟩).1, (hmt _ _ ⟨h.sM, h.ts⟩).2, (hmt _ _ ⟨h.pM, h.tp⟩).1, (hmt _ _ ⟨h.pM, h.tp⟩).2, fun g hg => hmt _ _ (h.yM g hg), fun g hg => ⟨List.mem_append_left _ hg, by show (if g ∈ X' then 5 else tg g) = 5; rw [if_pos hg]⟩, hN⟩, hx, hks⟩
 ·refine (h.st.more (Z' := X' ++ M) hx.new).keepZ hks (fun g hg => .inl (hx.sub g (mem_sel.1 hg).1)) (fun g hg => ?_)
  rcases List.mem_cons.1 hg with rfl | hg
  ·exact hn _ _ h.ts (by omega)
  ·rcases List.mem_cons.1 hg with rfl | hg
   ·exact hn _ _ h.tp (by omega)
   ·exact hn _ _ (h.yM g hg).2 (by omega)
 ·obtain ⟨h1, h2, h3⟩ := h.vt v hv
  exact ⟨(h1.more hx.new).keep hks (hn _ _ h3 (by omega)) (fun g hg => .inl (hx.sub g (mem_sel.1 hg).1)), hmt _ _ ⟨h2, h3⟩⟩
end
structure RoSt (w : World) (M : List Nat) (tg : Nat → Nat) (r d : Nat) (R : RpD) (out : List SentD) (ov : Value) (wx : World) (Mk : List Nat) (tgk : Nat → Nat) : Prop where
 ag : RpAt wx Mk tgk r d R
 x : Ext w M tg wx Mk tgk
 k : Keeps (sel M tg (List.range 30)) w wx
 qs : ∃ qs : List (SentD × Value × Value), qs.map (·.1) = out ∧ wx.ownsRow w.heap.size 39 19 ov out.length (qs.flatMap srCell) ∧ ∀ q ∈ qs, ∀ L, (∀ g ∈ L, g < w.heap.size) → MsgAt wx (L ++ Mk) q.1.m q.2.1 q.2.2
 far : ∀ g, ov.ownBlock = some g → g ∈ Mk ∧ tgk g = 99
section
variable {w w' wx wy : World} {M M' Mk My : List Nat} {tg tg' tgk tgy : Nat → Nat} {r d : Nat} {R R' : RpD} {C : RpC} {T : List Nat} {out : List SentD} {ov : Value}
theorem RoSt.step (h : RoSt w M tg r d R out ov wx Mk tgk) (hx : Ext wx Mk tgk wy My tgy) (hk : Keeps (sel Mk tgk (List.range 30)) wx wy) (ha : RpAt wy My tgy r d R') : RoSt w M tg r d R' out ov wy My tgy := by
 obtain ⟨qs, h1, h2, h3⟩ := h.qs
 refine ⟨ha, h.x.trans hx h.k.size, Ext.keeps h.x h.k hk, ⟨qs, h1, row_other hk h2 (fun g hg => by rw [(h.far g hg).2]; simp), fun q hq L hL => ?_⟩, fun g hg => ?_⟩
 ·refine ((h3 q hq L hL).avoid (M' := L ++ My) (fun g hg => ?_)).keep hk (fun g hg => .inl (List.mem_append_right _ (hx.sub g (mem_sel.1 hg).1)))
  rcases List.mem_append.1 hg with h4 | h4
  ·exact .inl (List.mem_append_left _ h4)
  ·rcases hx.new g h4 with h5 | h5
   ·exact .inl (List.mem_append_right _ h5)
   ·exact .inr h5
 ·obtain ⟨h4, h5⟩ := h.far g hg
  exact ⟨hx.sub g h4, (hx.tag g (hx.old g h4)).trans h5⟩
theorem RoSt.keep0 (h : RoSt w M tg r d R out ov wx Mk tgk) (hk : Keeps [] wx wy) : RoSt w M tg r d R out ov wy Mk tgk :=
 h.step (Ext.refl h.x.lt hk.size) (hk.to_sel (by simp)) (h.ag.keep0 h.x.lt hk)
/-- A message more. -/
theorem RoSt.put {w1 w2 : World} {s : SentD} {dv lv ov' : Value} {o : Obj} {qs : List (SentD × Value × Value)} (h1 : RoSt w M tg r d R' out ov w1 My tgy) (e1 : qs.map (·.1) = out) (e2 : w1.ownsRow w.heap.size 39 19 ov out.length (qs.flatMap srCell)) (e3 : ∀ q ∈ qs, ∀ L, (∀ g ∈ L, g < w.heap.size) → MsgAt w1 (L ++ My) q.1.m q.2.1 q.2.2)
  (hds : ∀ L, (∀ g ∈ L, g < w.heap.size) → MsgAt w1 (L ++ My) s.m dv lv) (hg : (w1.alloc o).grownBy w2 ov.ownBlock) (hat : ov'.ownBlock = ov.ownBlock ∨ ov'.ownBlock = some (w1.alloc o).heap.size)
  (hrw : w2.ownsRow w.heap.size 39 19 ov' (out.length + 1) (qs.flatMap srCell ++ srCell (s, dv, lv))) :
  ∃ M2 tg2, RoSt w M tg r d R' (out ++ [s]) ov' w2 M2 tg2 ∧ Ext w1 My tgy w2 M2 tg2 ∧ Keeps (sel My tgy [99]) w1 w2 := by
 have k12 : Keeps ov.ownBlock.toList w1 w2 := (((Keeps.refl [] w1).alloc o).mono (by simp)).grown hg (fun g hg => .inl (by simpa using hg))
 have hks : Keeps (sel My tgy [99]) w1 w2 := k12.to_sel (fun g hg => .inl (by have := h1.far g (by simpa using hg); simp [this.1, this.2]))
 have hx2 : Ext w1 My tgy w2 (ov'.ownBlock.toList ++ My) (fun x => if ov'.ownBlock = some x then 99 else tgy x) := Ext.add h1.x.lt hks.size _ _ (fun g hg => by
  refine ⟨?_, (hrw.lt g hg).2⟩
  rcases hat with h4 | h4
  ·exact .inl (h1.far g (by rw [← h4, hg]))
  ·rw [h4] at hg; injection hg with hg; subst hg; right; rw [World.size_alloc]; omega)
 obtain ⟨ho, C, hC, hv⟩ := h1.ag
 refine ⟨_, _, ⟨⟨ho, C, hC, hv.keepT hx2 hks (by simp)⟩, h1.x.trans hx2 h1.k.size, h1.k.trans k12 (fun g hg => .inr ?_), ⟨qs ++ [(s, dv, lv)], by rw [List.map_append, e1]; rfl, ?_, fun q hq L hL => ?_⟩, fun g hg => ⟨List.mem_append_left _ (by simpa using hg), by simp [hg]⟩⟩, hx2, hks⟩
 ·exact (e2.lt g (by simpa using hg)).1
 ·rw [List.length_append, List.flatMap_append]
  have := hrw
  simpa using this
 ·have hout : ∀ q' : SentD × Value × Value, MsgAt w1 (L ++ My) q'.1.m q'.2.1 q'.2.2 → MsgAt w2 (L ++ (ov'.ownBlock.toList ++ My)) q'.1.m q'.2.1 q'.2.2 := fun q' hq' => by
   refine (hq'.avoid (M' := L ++ (ov'.ownBlock.toList ++ My)) (fun g hg => ?_)).keep k12 (fun g hg => .inl ?_)
   ·rcases List.mem_append.1 hg with h4 | h4
    ·exact .inl (List.mem_append_left _ h4)
    ·rcases hx2.new g h4 with h5 | h5
     ·exact .inl (List.mem_append_right _ h5)
     ·exact .inr h5
   ·exact List.mem_append_right _ (hx2.sub g (h1.far g (by simpa using hg)).1)
  rcases List.mem_append.1 hq with h4 | h4
  ·exact hout q (e3 q h4 L hL)
  ·simp at h4; subst h4
   exact hout _ (hds L hL)
theorem RoSt.start (h : RpAt w M tg r d R) (hM : ∀ g ∈ M, g < w.heap.size) : RoSt w M tg r d R [] (.slice none 0 0) w M tg :=
 ⟨h, Ext.refl hM (Nat.le_refl _), Keeps.refl _ _, ⟨[], rfl, World.ownsRow_nil _ _ _ _, fun q hq => (nomatch hq)⟩, fun g hg => (nomatch hg)⟩
end
end Go.Proofs.YtdaceeijifjpeaaGreatDoor.Vi
end
