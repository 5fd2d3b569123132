/- Texts put together: CardW, Base, Mem, Clone, Var1, Var2, Data, Var3, Var4, Read1, Read2, Lab1. -/
import Derived.Test.YtdaceeijifjpeaaGreatDoorRows
import Derived.WalkKit
import Derived.ProofKit
import Derived.OpenShut
import Derived.Deep.DeepHandedRow
import Derived.Lib.LaidTab
import Derived.Lib.Hide
import Derived.Handy
import Derived.ChangeSame
import Derived.Laws.OwnMore
import Derived.Deep.AppendLies
import Derived.Deep.Draws
import Derived.Maps.AppendAt
import Derived.RegionTactic
import Derived.OwnWalk
import Derived.BigQuiet
import Derived.Deep.QuietTactic
import Derived.Test.YtdaceeijifjpeaaGreatDoorProg
import Derived.WalkSpells
import Derived.Lib.Varint
import Derived.Lib.VarintMem
import Derived.Lib.AppendStr
import Derived.Laws.BytesString
import Derived.Deep.DeepCutAuto
import Derived.Laws.BitsAllLaws
import Derived.Laws.BytesArg
import Derived.OrdersHeld
set_option linter.unusedVariables false
set_option linter.unusedSimpArgs false
section
namespace Go.Proofs.YtdaceeijifjpeaaGreatDoor.CardW
open Go.ChangeShapes Go.WideShapes Go.ChangeAt Go.RowKit
set_option maxRecDepth 100000 in
theorem max_cell {W : World} (h : W.ShapedOpen Tryz.prog) : ∃ m, W.cell? ⟨0, 0, none⟩ = some (.int .i64 m) := by
 obtain ⟨cs, hh, hs, hr⟩ := h.1 0 #[.int .i64 0] 3 (by decide +kernel) (by kernel_rfl)
 obtain ⟨ts, hts, _, hall⟩ := hr (by kernel_rfl)
 rw [show Tryz.prog.cellTypes Tryz.prog.depth 3 = some [3] by kernel_rfl] at hts
 cases hts
 have hs1 : cs.size = 1 := hs
 have h1 : 0 < cs.size := by omega
 obtain ⟨u, hu', hok⟩ := hall 0 cs[0] (by simp [h1])
 obtain rfl : u = 3 := by simpa using hu'.symm
 have hcell : W.cell? ⟨0, 0, none⟩ = some cs[0] := by simp [World.cell?, hh, h1]
 rw [hcell]
 unfold Cell.ok at hok
 rw [Tryz.underlying3] at hok
 cases hv : cs[0] with
 | int k n =>
  rw [hv] at hok
  simp at hok
  obtain ⟨rfl, _⟩ := hok
  exact ⟨n, rfl⟩
 | _ => rw [hv] at hok; simp at hok
def laidL : List (String × DataW Unit) := [("unicode/utf8.acceptRanges", Rows.laid_unicode_utf8_acceptRanges), ("unicode/utf8.first", Rows.laid_unicode_utf8_first)]
def lay (cs : Array Value) : Obj → Obj
 | .cells _ t frozen => .cells cs t frozen
 | o => o
noncomputable def laidWorld (os : Os) : World :=
 { World.holding Tryz.prog os ⟨#[], #[], []⟩ with heap := ((World.holding Tryz.prog os ⟨#[], #[], []⟩).heap.modify 2 (lay (#[128, 191, 160, 191, 128, 159, 144, 191, 128, 143, 0, 0, 0, 0, 0, 0, 0, 0, 0, 0, 0, 0, 0, 0, 0, 0, 0, 0, 0, 0, 0, 0].map (Value.int .u8 ·)))).modify 1 (lay (Go.Pinned.utf8FirstZ.map fun n => Value.int .u8 (n : Nat)).toArray) }
set_option maxRecDepth 100000 in
theorem laid_met (os : Os) (args : Array Value) : laidMet Tryz.prog laidL ((laidWorld os).forCall (fun _ _ => 0) ⟨#[], args, []⟩).memory :=
 laidMet_of_run' 8 (by kernel_rfl) (by kernel_rfl)
end Go.Proofs.YtdaceeijifjpeaaGreatDoor.CardW
end
section
namespace Go.Proofs.YtdaceeijifjpeaaGreatDoor.Base
open Go.RowKit
theorem ret_int {k : IntKind} {a b : Int} (h : a = b) : Ending.returned (.int k a) = .returned (.int k b) := by rw [h]
theorem ret_bool {a b : Bool} (h : a = b) : Ending.returned (.bool a) = .returned (.bool b) := by rw [h]
/-- Block g is just the cells cs of element type t, none frozen. -/
def Blk (w : World) (g : Nat) (t : TypeId) (cs : Array Value) : Prop := w.heap[g]? = some (.cells cs t (0, 0))
theorem Blk.lt {w : World} {g : Nat} {t : TypeId} {cs : Array Value} (h : Blk w g t cs) : g < w.heap.size := by
 rcases Nat.lt_or_ge g w.heap.size with hlt | hge
 ·exact hlt
 ·unfold Blk at h; rw [Array.getElem?_eq_none hge] at h; cases h
theorem Blk.cell {w : World} {g : Nat} {t : TypeId} {cs : Array Value} (h : Blk w g t cs) (i : Nat) : w.cell? ⟨g, i, none⟩ = cs[i]? := cell_of_row w g i cs t (0, 0) h
theorem Blk.frozen {w : World} {g : Nat} {t : TypeId} {cs : Array Value} (h : Blk w g t cs) (i : Nat) : w.frozen? ⟨g, i, none⟩ = false := by
 unfold Blk at h
 simp [World.frozen?, h]
theorem Blk.new (w : World) (t : TypeId) (cs : Array Value) : Blk (w.alloc (.cells cs t)) w.heap.size t cs := heap_alloc_new w _
theorem Blk.set_ {w : World} {g : Nat} {t : TypeId} {cs : Array Value} (h : Blk w g t cs) (i : Nat) (u : Value) : Blk (w.setCell ⟨g, i, none⟩ u) g t (cs.setIfInBounds i u) := by
 unfold Blk at h ⊢
 simp [World.setCell, Array.getElem?_modify, h]
theorem Blk.below {w w' : World} {g : Nat} {t : TypeId} {cs : Array Value} {B : Nat} (h : Blk w g t cs) (hb : Below B w w') (hg : g < B) : Blk w' g t cs := (hb.block g hg).trans h
theorem below_new {w w' : World} (h : Below w.heap.size w w') (o : Obj) : Below w.heap.size w (w'.alloc o) := h.alloc h.size o
theorem below_then {a b c : World} (h : Below a.heap.size a b) (k : Below b.heap.size b c) : Below a.heap.size a c := h.trans (k.mono h.size)
section
open Go.WideShapes Go.ChangeShapes
variable {H : Type} {enc : TypeId × Value → H} {P : Program}
end
end Go.Proofs.YtdaceeijifjpeaaGreatDoor.Base
end
section
namespace Go.Proofs.YtdaceeijifjpeaaGreatDoor.Mem
open Go.RowKit
theorem block_of_add (a : Addr) (n : Nat) : (a.add n).block = a.block := by unfold Addr.add; split <;> rfl
theorem add_of_add (a : Addr) (i j : Nat) : (a.add i).add j = a.add (i + j) := by
 unfold Addr.add
 by_cases hi : i = 0 <;> by_cases hj : j = 0 <;> simp [hi, hj, Nat.add_assoc]
def Reads (w : World) (B size : Nat) (A : Option Addr) (n : Nat) (xs : List Value) : Prop :=
 xs.length = n * size ∧ (0 < n → ∃ ad, A = some ad ∧ ad.block < B ∧ ∀ j u, xs[j]? = some u → w.cell? (ad.add j) = some u)
section
variable {w w' : World} {B B' size n : Nat} {A : Option Addr} {xs : List Value}
theorem Reads.at_ {k : Nat} (h : Reads w B 1 A n xs) (hk : k < n) : ∃ ad u, A = some ad ∧ ad.block < B ∧ xs[k]? = some u ∧ w.cell? (ad.add k) = some u := by
 obtain ⟨ad, e, hb, hc⟩ := h.2 (by omega)
 have hl : k < xs.length := by have := h.1; omega
 exact ⟨ad, xs[k], e, hb, List.getElem?_eq_getElem hl, hc k _ (List.getElem?_eq_getElem hl)⟩
theorem Reads.keep (h : Reads w B size A n xs) (hk : ∀ p : Addr, p.block < B → w'.cell? p = w.cell? p) : Reads w' B size A n xs :=
 ⟨h.1, fun hn => by
  obtain ⟨ad, e, hb, hc⟩ := h.2 hn
  exact ⟨ad, e, hb, fun j u hu => (hk _ (by rw [block_of_add]; exact hb)).trans (hc j u hu)⟩⟩
theorem Reads.more (h : Reads w B size A n xs) (hB : B ≤ B') : Reads w B' size A n xs :=
 ⟨h.1, fun hn => by
  obtain ⟨ad, e, hb, hc⟩ := h.2 hn
  exact ⟨ad, e, by omega, hc⟩⟩
theorem Reads.below (h : Reads w B size A n xs) (hb : Below B w w') : Reads w' B size A n xs := h.keep fun _ hp => hb.cell hp
theorem Reads.drew (h : Reads w B size A n xs) : Reads w.drew B size A n xs := h
theorem Reads.drewN (h : Reads w B size A n xs) (k : Nat) : Reads (w.drewN k) B size A n xs := h
theorem Reads.alloc (h : Reads w B size A n xs) (hB : B ≤ w.heap.size) (o : Obj) : Reads (w.alloc o) B size A n xs := h.keep fun p hp => World.cell?_alloc_lt w o p (by omega)
theorem Reads.setCell (h : Reads w B size A n xs) {p : Addr} (hB : B ≤ p.block) (u : Value) : Reads (w.setCell p u) B size A n xs :=
 h.keep fun q hq => World.cell?_setCell_other w p q u (fun e => by subst e; omega)
theorem Reads.grown (h : Reads w B size A n xs) {row : Option Nat} (hg : w.grownBy w' row) (hB : B ≤ w.heap.size) (hr : ∀ g, row = some g → B ≤ g) : Reads w' B size A n xs :=
 h.keep fun p hp => World.cell?_of_block (hg.block p.block (by omega) (fun e => by have := hr _ e.symm; omega))
theorem Reads.cut (h : Reads w B size A n xs) {k cap : Nat} (hk : k ≤ n) (hc : n ≤ cap) :
  Reads w B size (if cap = k then A else A.map (·.add (k * size))) (n - k) (xs.drop (k * size)) := by
 refine ⟨by rw [List.length_drop, h.1, Nat.sub_mul], fun hn => ?_⟩
 obtain ⟨ad, rfl, hb, hcell⟩ := h.2 (by omega)
 rw [if_neg (by omega)]
 refine ⟨ad.add (k * size), rfl, by rw [block_of_add]; exact hb, fun j u hu => ?_⟩
 rw [add_of_add]
 exact hcell _ u (by rw [← hu, List.getElem?_drop])
theorem Reads.of_own {base : Nat} {e : TypeId} {c : Nat} (h : w.ownsRow base e size (.slice A n c) n xs) : Reads w w.heap.size size A n xs := by
 refine ⟨h.1, fun hn => ?_⟩
 obtain ⟨g, cap, hv, _, hlt⟩ := h.form hn
 have hA : A = some ⟨g, 0, none⟩ := by injection hv
 subst hA
 exact ⟨_, rfl, hlt, h.cells (g := g) rfl⟩
end
section
variable {P : Program} (w : World)
theorem run_append_of_nil (base : Nat) (t ty e : TypeId) (i : TypeInfo) (size : Nat) (ht : P.underlying t = some (.slice e)) (hi : P.info? e = some i)
  (v : Value) (n : Nat) (xs : List Value) (hown : w.ownsRow base e size v n xs) (c : Nat) : (Builtin.append_ #[t, t] ty #[v, .slice none 0 c]).run P w = .ok v w := by
 rcases hown.2 with ⟨rfl, rfl⟩ | ⟨g, cap, cur, rfl, _, _, hnc, _⟩
 ·simp [Builtin.append_, run_underlying ht, sizeOf, typeInfo, hi, Builtin.lenOf, Builtin.firstCells]
 ·simp [Builtin.append_, run_underlying ht, sizeOf, typeInfo, hi, Builtin.lenOf, Builtin.firstCells, hnc, storeCells]
theorem run_append_any (base : Nat) (t ty e : TypeId) (i : TypeInfo) (z : Value) (size bytes : Nat) (ht : P.underlying t = some (.slice e)) (hi : P.info? e = some i) (hz : i.zero = some z)
  (hsize : i.size = size) (hby : i.bytes = bytes) (hzs : z.cells.size = size) (hsz : 0 < size)
  (v : Value) (n : Nat) (xs : List Value) (hown : w.ownsRow base e size v n xs)
  (B : Nat) (A : Option Addr) (m c : Nat) (news : List Value) (hr : Reads w B size A m news) (h1 : ∀ u ∈ news, u.oneCell' = true)
  (h63 : n + m ≤ maxLen) (hbytes : (n + m) * bytes ≤ 140737488355328) (hbase : base ≤ w.heap.size) :
  ∃ v' w', (Builtin.append_ #[t, t] ty #[v, .slice A m c]).run P w = .ok v' w' ∧ w'.ownsRow base e size v' (n + m) (xs ++ news) ∧ w.grownBy w' v.ownBlock ∧
   (v'.ownBlock = v.ownBlock ∨ v'.ownBlock = some w.heap.size) := by
 rcases A with _ | ad
 ·have hm : m = 0 := by
   rcases Nat.eq_zero_or_pos m with h0 | h0
   ·exact h0
   ·obtain ⟨ad, h, _⟩ := hr.2 h0
    cases h
  subst hm
  have hn : news = [] := List.eq_nil_of_length_eq_zero (by simpa using hr.1)
  subst hn
  exact ⟨v, w, run_append_of_nil w base t ty e i size ht hi v n xs hown c, by simpa using hown, World.grownBy.refl w _, .inl rfl⟩
 ·have hcells : ∀ j u, news[j]? = some u → w.cell? (ad.add j) = some u := by
   intro j u hu
   rcases Nat.eq_zero_or_pos m with h0 | h0
   ·subst h0
    have hn : news = [] := List.eq_nil_of_length_eq_zero (by simpa using hr.1)
    subst hn
    simp at hu
   ·obtain ⟨ad', h, _, hc⟩ := hr.2 h0
    injection h with h
    subst h
    exact hc j u hu
  obtain ⟨v', w', hrun, h2, h3, _, h5⟩ := run_append_own_at (P := P) w base t ty e i z size bytes ht hi hz hsize hby hzs hsz v n xs hown ad m c news hr.1 hcells h1 h63 hbytes hbase
  exact ⟨v', w', hrun, h2, h3, h5⟩
theorem wp_append_any {o : Oper} {a : Act} {K : Act → World → Prop} {Q : Exit → Act → World → Prop} (s x : Operand) (t : TypeId)
  (ho : o.op = .call { callee := .builtin .append, args := #[s, x], argTypes := #[t, t] })
  (base : Nat) (e : TypeId) (i : TypeInfo) (z : Value) (size bytes : Nat) (ht : P.underlying t = some (.slice e)) (hi : P.info? e = some i) (hz : i.zero = some z)
  (hsize : i.size = size) (hby : i.bytes = bytes) (hzs : z.cells.size = size) (hsz : 0 < size)
  (v : Value) (n : Nat) (xs : List Value) (hs : a.eval s = v) (hown : w.ownsRow base e size v n xs)
  (B : Nat) (A : Option Addr) (m c : Nat) (news : List Value) (hx : a.eval x = .slice A m c) (hr : Reads w B size A m news) (h1 : ∀ u ∈ news, u.oneCell' = true)
  (h63 : n + m ≤ maxLen) (hbytes : (n + m) * bytes ≤ 140737488355328) (hbase : base ≤ w.heap.size)
  (h : ∀ v' w', w'.ownsRow base e size v' (n + m) (xs ++ news) → w.grownBy w' v.ownBlock → (v'.ownBlock = v.ownBlock ∨ v'.ownBlock = some w.heap.size) → K (a.put o.dst v') w') : o.wp P a w K Q := by
 obtain ⟨v', w', hrun, h2, h3, h4⟩ := run_append_any (P := P) w base t o.type e i z size bytes ht hi hz hsize hby hzs hsz v n xs hown B A m c news hr h1 h63 hbytes hbase
 unfold Oper.wp execOp
 simp only [ho, resolve, invoke, builtin, Sem.run_bind, Sem.run_pure, Result.andThen_ok, List.map_toArray, List.map_cons, List.map_nil, hs, hx, hrun]
 exact h v' w' h2 h3 h4
theorem wpList_append_any {ops : Array Oper} {rest : List Oper} {o : Oper} {a : Act} {Q : Exit → Act → World → Prop} (hgd : o.guard = none) (s x : Operand) (t : TypeId)
  (ho : o.op = .call { callee := .builtin .append, args := #[s, x], argTypes := #[t, t] })
  (base : Nat) (e : TypeId) (i : TypeInfo) (z : Value) (size bytes : Nat) (ht : P.underlying t = some (.slice e)) (hi : P.info? e = some i) (hz : i.zero = some z)
  (hsize : i.size = size) (hby : i.bytes = bytes) (hzs : z.cells.size = size) (hsz : 0 < size)
  (v : Value) (n : Nat) (xs : List Value) (hs : a.eval s = v) (hown : w.ownsRow base e size v n xs)
  (B : Nat) (A : Option Addr) (m c : Nat) (news : List Value) (hx : a.eval x = .slice A m c) (hr : Reads w B size A m news) (h1 : ∀ u ∈ news, u.oneCell' = true)
  (h63 : n + m ≤ maxLen) (hbytes : (n + m) * bytes ≤ 140737488355328) (hbase : base ≤ w.heap.size)
  (h : ∀ v' w', w'.ownsRow base e size v' (n + m) (xs ++ news) → w.grownBy w' v.ownBlock → (v'.ownBlock = v.ownBlock ∨ v'.ownBlock = some w.heap.size) → wpList P ops Q rest (a.put o.dst v') w') : wpList P ops Q (o :: rest) a w :=
 wpList_plain hgd fun _ hK => wp_append_any w s x t ho base e i z size bytes ht hi hz hsize hby hzs hsz v n xs hs hown B A m c news hx hr h1 h63 hbytes hbase fun v' w' h2 h3 h4 => hK _ _ (h v' w' h2 h3 h4)
theorem step_append_any {ops : Array Oper} {o : Oper} {a : Act} {K : Act → World → Prop} {Q : Exit → Act → World → Prop} {E : Prop} (hgd : o.guard = none) (s x : Operand) (t : TypeId)
  (ho : o.op = .call { callee := .builtin .append, args := #[s, x], argTypes := #[t, t] })
  (base : Nat) (e : TypeId) (i : TypeInfo) (z : Value) (size bytes : Nat) (ht : P.underlying t = some (.slice e)) (hi : P.info? e = some i) (hz : i.zero = some z)
  (hsize : i.size = size) (hby : i.bytes = bytes) (hzs : z.cells.size = size) (hsz : 0 < size)
  (v : Value) (n : Nat) (xs : List Value) (hs : a.eval s = v) (hown : w.ownsRow base e size v n xs)
  (B : Nat) (A : Option Addr) (m c : Nat) (news : List Value) (hx : a.eval x = .slice A m c) (hr : Reads w B size A m news) (h1 : ∀ u ∈ news, u.oneCell' = true)
  (h63 : n + m ≤ maxLen) (hbytes : (n + m) * bytes ≤ 140737488355328) (hbase : base ≤ w.heap.size)
  (h : ∀ v' w', w'.ownsRow base e size v' (n + m) (xs ++ news) → w.grownBy w' v.ownBlock → (v'.ownBlock = v.ownBlock ∨ v'.ownBlock = some w.heap.size) → K (a.put o.dst v') w') :
  if Region.wanted o (yielded ops a.tmps) = true then Oper.wp P o a w K Q else E := by
 have hw : Region.wanted o (yielded ops a.tmps) = true := by simp [Region.wanted, hgd]
 rw [if_pos hw]
 exact wp_append_any w s x t ho base e i z size bytes ht hi hz hsize hby hzs hsz v n xs hs hown B A m c news hx hr h1 h63 hbytes hbase h
end
theorem below_new' (w : World) (o : Obj) : Below w.heap.size w (w.alloc o) := (Below.refl _ _).alloc (Nat.le_refl _) o
theorem bcell {W w1 : World} (hb : Below W.heap.size W w1) : (∀ b o, b < W.heap.size → w1.cell? ⟨b, o, none⟩ = W.cell? ⟨b, o, none⟩) ∧ (∀ b o, b < W.heap.size → w1.frozen? ⟨b, o, none⟩ = W.frozen? ⟨b, o, none⟩) :=
 ⟨fun b o h => hb.cell (p := ⟨b, o, none⟩) h, fun b o h => hb.frozen (p := ⟨b, o, none⟩) h⟩
theorem quiet_left {P : Program} {f : FuncId} {args : Array Value} {w : World} {n : Nat} {v : Value}
  (h : Calls P f args (w.drewN n) fun e w' => e = .returned v ∧ w.drewN n = w') : Calls P f args (w.drewN n) fun e w'' => e = .returned v ∧ ∃ m, w'' = w.drewN m :=
 h.mono fun _ _ ⟨he, hm⟩ => ⟨he, n, hm.symm⟩
theorem quiet_add {P : Program} {f : FuncId} {args : Array Value} {w : World} {n : Nat} {v : Value}
  (h : Calls P f args (w.drewN n) fun e w' => e = .returned v ∧ ∃ m, w' = (w.drewN n).drewN m) : Calls P f args (w.drewN n) fun e w'' => e = .returned v ∧ ∃ m, w'' = w.drewN m :=
 h.mono fun _ _ ⟨he, m, hm⟩ => ⟨he, n + m, by rw [hm, World.drewN_drewN]⟩
/-- What lay in blocks other than those of M lies there still. -/
structure Keeps (M : List Nat) (w w' : World) : Prop where
 os : w'.os = w.os
 tape : w'.tape = w.tape
 output : w'.output = w.output
 size : w.heap.size ≤ w'.heap.size
 block : ∀ g, g < w.heap.size → g ∉ M → w'.heap[g]? = w.heap[g]?
section
variable {M M' : List Nat} {a w w' : World}
theorem Keeps.refl (M : List Nat) (w : World) : Keeps M w w := ⟨rfl, rfl, rfl, Nat.le_refl _, fun _ _ _ => rfl⟩
theorem Keeps.trans (h : Keeps M a w) (k : Keeps M' w w') (hM : ∀ g ∈ M', g ∈ M ∨ a.heap.size ≤ g) : Keeps M a w' :=
 ⟨k.os.trans h.os, k.tape.trans h.tape, k.output.trans h.output, Nat.le_trans h.size k.size, fun g hg hn =>
  (k.block g (Nat.lt_of_lt_of_le hg h.size) (fun hm => by rcases hM g hm with h1 | h1; exact hn h1; omega)).trans (h.block g hg hn)⟩
theorem Keeps.mono (h : Keeps M a w) (hM : ∀ g ∈ M, g ∈ M' ∨ a.heap.size ≤ g) : Keeps M' a w :=
 ⟨h.os, h.tape, h.output, h.size, fun g hg hn => h.block g hg (fun hm => by rcases hM g hm with h1 | h1; exact hn h1; omega)⟩
theorem Keeps.drew (h : Keeps M a w) : Keeps M a w.drew := ⟨h.os, h.tape, h.output, h.size, h.block⟩
theorem Keeps.drewN (h : Keeps M a w) (n : Nat) : Keeps M a (w.drewN n) := ⟨h.os, h.tape, h.output, h.size, h.block⟩
theorem Keeps.alloc (h : Keeps M a w) (o : Obj) : Keeps M a (w.alloc o) :=
 ⟨h.os, h.tape, h.output, Nat.le_trans h.size (by simp), fun g hg hn => (Below.heap_alloc w o g (Nat.lt_of_lt_of_le hg h.size)).trans (h.block g hg hn)⟩
theorem Keeps.setCell (h : Keeps M a w) {p : Addr} (hp : p.block ∈ M ∨ a.heap.size ≤ p.block) (u : Value) : Keeps M a (w.setCell p u) :=
 ⟨h.os, h.tape, h.output, by simpa [World.setCell] using h.size, fun g hg hn => (Below.heap_setCell w p u g (by
  rintro rfl
  rcases hp with hp | hp
  ·exact hn hp
  ·omega)).trans (h.block g hg hn)⟩
theorem Keeps.grown (h : Keeps M a w) {row : Option Nat} (hg : w.grownBy w' row) (hr : ∀ g, row = some g → g ∈ M ∨ a.heap.size ≤ g) : Keeps M a w' :=
 ⟨hg.os.trans h.os, hg.tape.trans h.tape, hg.output.trans h.output, Nat.le_trans h.size hg.size, fun g hlt hn =>
  (hg.block g (Nat.lt_of_lt_of_le hlt h.size) (fun e => by rcases hr g e.symm with h1 | h1; exact hn h1; omega)).trans (h.block g hlt hn)⟩
theorem Keeps.of_below (h : Below a.heap.size a w) : Keeps M a w := ⟨h.os, h.tape, h.output, h.size, fun g hg _ => h.block g hg⟩
theorem Keeps.below (h : Keeps [] a w) : Below a.heap.size a w := ⟨h.os, h.tape, h.output, h.size, fun g hg => h.block g hg (by simp)⟩
theorem Keeps.belowB (h : Keeps M a w) {B : Nat} (hB : B ≤ a.heap.size) (hM : ∀ g ∈ M, B ≤ g) : Below B a w :=
 ⟨h.os, h.tape, h.output, h.size, fun g hg => h.block g (by omega) (fun hm => by have := hM g hm; omega)⟩
theorem Keeps.cell (h : Keeps M w w') {p : Addr} (hp : p.block < w.heap.size) (hn : p.block ∉ M) : w'.cell? p = w.cell? p := World.cell?_of_block (h.block _ hp hn)
theorem Keeps.blk (h : Keeps M w w') {g : Nat} {t : TypeId} {cs : Array Value} (hb : Base.Blk w g t cs) (hn : g ∉ M) : Base.Blk w' g t cs := (h.block g hb.lt hn).trans hb
end
theorem own_below {w w1 : World} {base : Nat} {e : TypeId} {size n : Nat} {v : Value} {xs : List Value} (h : w.ownsRow base e size v n xs) (hb : Below w.heap.size w w1) : w1.ownsRow base e size v n xs :=
 h.kept (row := none) ⟨hb.os, hb.tape, hb.output, hb.size, fun k hk _ => hb.block k hk⟩ (by cases h' : v.ownBlock <;> simp)
theorem reads_new (w : World) (t : TypeId) (size m : Nat) (xs : List Value) (h : xs.length = m * size) : Reads (w.alloc (.cells xs.toArray t)) (w.heap.size + 1) size (some ⟨w.heap.size, 0, none⟩) m xs :=
 ⟨h, fun _ => ⟨_, rfl, by show w.heap.size < _; omega, fun j u hu => by rw [show (⟨w.heap.size, 0, none⟩ : Addr).add j = ⟨w.heap.size, j, none⟩ by unfold Addr.add; split <;> simp_all, (Base.Blk.new w t _).cell j]; simpa using hu⟩⟩
theorem own_keep {M : List Nat} {w w1 : World} {base : Nat} {e : TypeId} {size n : Nat} {v : Value} {xs : List Value} (h : w.ownsRow base e size v n xs) (hk : Keeps M w w1) (hM : ∀ g ∈ M, g < base) : w1.ownsRow base e size v n xs := by
 obtain ⟨hl, h⟩ := h
 refine ⟨hl, ?_⟩
 rcases h with h | ⟨g, cap, cur, hv, hb, hg, rest⟩
 ·exact .inl h
 ·exact .inr ⟨g, cap, cur, hv, hb, (hk.block g (Array.getElem?_eq_some_iff.1 hg).1 (fun hm => by have := hM g hm; omega)).trans hg, rest⟩
/-- The slice v of n things of size cells each reads as xs; it lies in no block of M. -/
def Rd (w : World) (M : List Nat) (size : Nat) (v : Value) (n : Nat) (xs : List Value) : Prop :=
 ∃ A c, v = .slice A n c ∧ n ≤ c ∧ xs.length = n * size ∧
  (0 < n → ∃ g off, A = some ⟨g, off, none⟩ ∧ g < w.heap.size ∧ g ∉ M ∧ ∀ j u, xs[j]? = some u → w.cell? ⟨g, off + j, none⟩ = some u)
section
variable {M M' : List Nat} {w w' : World} {size n : Nat} {v : Value} {xs : List Value}
theorem addr_add (g off j : Nat) : (⟨g, off, none⟩ : Addr).add j = ⟨g, off + j, none⟩ := by unfold Addr.add; split <;> simp_all
theorem Rd.keep (h : Rd w M size v n xs) (k : Keeps M' w w') (hM : ∀ g ∈ M', g ∈ M ∨ w.heap.size ≤ g) : Rd w' M size v n xs := by
 obtain ⟨A, c, rfl, hc, hl, hr⟩ := h
 refine ⟨A, c, rfl, hc, hl, fun hn => ?_⟩
 obtain ⟨g, off, rfl, hg, hm, hx⟩ := hr hn
 refine ⟨g, off, rfl, Nat.lt_of_lt_of_le hg k.size, hm, fun j u hu => ?_⟩
 rw [World.cell?_of_block (k.block g hg (fun hm' => by rcases hM g hm' with h1 | h1; exact hm h1; omega))]
 exact hx j u hu
theorem Rd.avoid (h : Rd w M size v n xs) (hM : ∀ g ∈ M', g ∈ M ∨ w.heap.size ≤ g) : Rd w M' size v n xs := by
 obtain ⟨A, c, rfl, hc, hl, hr⟩ := h
 refine ⟨A, c, rfl, hc, hl, fun hn => ?_⟩
 obtain ⟨g, off, rfl, hg, hm, hx⟩ := hr hn
 exact ⟨g, off, rfl, hg, fun hm' => by rcases hM g hm' with h1 | h1; exact hm h1; omega, hx⟩
theorem Rd.reads (h : Rd w M size v n xs) : ∃ A c, v = .slice A n c ∧ n ≤ c ∧ Reads w w.heap.size size A n xs := by
 obtain ⟨A, c, rfl, hc, hl, hr⟩ := h
 refine ⟨A, c, rfl, hc, hl, fun hn => ?_⟩
 obtain ⟨g, off, rfl, hg, _, hx⟩ := hr hn
 exact ⟨_, rfl, hg, fun j u hu => by rw [addr_add]; exact hx j u hu⟩
theorem Rd.clip {A : Option Addr} {c : Nat} (h : Rd w M size (.slice A n c) n xs) : Rd w M size (.slice A n n) n xs := by
 obtain ⟨A', c', he, hc, hl, hr⟩ := h
 injection he with h1 h2 h3
 subst h1
 exact ⟨A, n, rfl, Nat.le_refl _, hl, hr⟩
theorem Rd.more {g : Nat} (h : Rd w (g :: M) size v n xs) : Rd w M size v n xs := h.avoid (fun _ hx => .inl (List.mem_cons_of_mem _ hx))
theorem Rd.of_own {base : Nat} {e : TypeId} (h : w.ownsRow base e size v n xs) (hM : ∀ g ∈ M, g < base) : Rd w M size v n xs := by
 obtain ⟨hl, h⟩ := h
 rcases h with ⟨rfl, rfl⟩ | ⟨g, cap, cur, rfl, hb, hg, hnc, _, hcs, ht⟩
 ·exact ⟨none, 0, rfl, Nat.le_refl _, hl, fun h => absurd h (by omega)⟩
 ·refine ⟨_, cap, rfl, hnc, hl, fun _ => ⟨g, 0, rfl, (Array.getElem?_eq_some_iff.1 hg).1, fun hm => by have := hM g hm; omega, fun j u hu => ?_⟩⟩
  rw [cell_of_row w g (0 + j) cur e (0, 0) hg]
  rw [← ht, List.getElem?_take] at hu
  split at hu
  ·simpa using hu
  ·cases hu
end
/-- What the frame of a proof says of a slice of integers that came in, in the words of the walks. -/
theorem row_view {k : IntKind} {w : World} {a : Option Addr} {len cap : Nat} {zs : List Int}
  (h : (a = none ∧ len = 0 ∧ cap = 0 ∧ zs = []) ∨ ∃ x, a = some x ∧ len ≤ cap ∧ cap ≤ maxLen ∧ zs.length = cap ∧ (∀ i, i < zs.length → w.cell? (x.add i) = some (.int k (zs.getD i 0))) ∧ ∀ n ∈ zs, (Lit.int k n).wf = true) :
  (zs.take len).length = len ∧ len ≤ cap ∧ cap ≤ 9223372036854775807 ∧ (∀ n ∈ zs.take len, (Lit.int k n).wf = true) ∧
  (0 < (zs.take len).length → ∃ g off, a = some ⟨g, off, none⟩ ∧ g < w.heap.size ∧ ∀ (j : Nat) (x : Int), (zs.take len)[j]? = some x → w.cell? ⟨g, off + j, none⟩ = some (.int k x)) := by
 rcases h with ⟨rfl, rfl, rfl, rfl⟩ | ⟨x, rfl, hl, hm, hz, hc, hw⟩
 ·exact ⟨rfl, Nat.le_refl _, by omega, by simp, by simp⟩
 ·refine ⟨by rw [List.length_take]; omega, hl, by simpa [maxLen] using hm, fun n hn => hw n (List.mem_of_mem_take hn), fun h0 => ?_⟩
  rw [List.length_take] at h0
  have h1 := hc 0 (by omega)
  obtain ⟨g, off, sp⟩ := x
  have hsp : sp = none := by
   cases sp with
   | none => rfl
   | some q =>
    rw [show (⟨g, off, some q⟩ : Addr).add 0 = ⟨g, off, some q⟩ from rfl] at h1
    unfold World.cell? at h1
    split at h1 <;> simp at h1
  subst hsp
  refine ⟨g, off, rfl, World.block_lt_of_cell? w _ h1, fun j y hj => ?_⟩
  rw [List.getElem?_take] at hj
  split at hj
  ·rename_i hlt
   have h2 := hc j (by omega)
   rw [addr_add] at h2
   rw [h2, List.getD_eq_getElem?_getD, hj]
   rfl
  ·cases hj
theorem wT {P : Program} {ops : Array Oper} {Q : Exit → Act → World → Prop} {md : Region.Mode} {S : World → Prop} (i : Nat) {oi : Oper} {v : Value} {fuel : Nat} {listed : Array Bool} {a : Act} {w : World} (hk : (Region.noSelect ops && (Region.free md ops listed i && (Region.ready md ops listed).contains i)) = true) (hi : ops[i]? = some oi) (hw : Region.wanted oi (yielded ops a.tmps) = true) (hy : ∀ w, S w → (execOp a.eval oi).run P w = .ok (.value v) w) (hQ : ∀ c a w, Q (.panic c) (a.put oi.dst v) w → Q (.panic c) a w) (hS : S w) (h : wpAnyH P md ops Q S fuel (listed.setIfInBounds i true) (a.put oi.dst v) w) : wpAnyH P md ops Q S (fuel + 1) listed a w := by
  rw [Bool.and_eq_true, Bool.and_eq_true] at hk
  exact wpAnyH_take hi hk.1 hk.2.1 hk.2.2 hQ (.inl ⟨hw, hy⟩) hS h
theorem wS {P : Program} {ops : Array Oper} {Q : Exit → Act → World → Prop} {md : Region.Mode} {S : World → Prop} (i : Nat) {oi : Oper} {fuel : Nat} {listed : Array Bool} {a : Act} {w : World} (hk : (Region.noSelect ops && (Region.free md ops listed i && (Region.ready md ops listed).contains i)) = true) (hi : ops[i]? = some oi) (hw : Region.wanted oi (yielded ops a.tmps) = false) (hQ : ∀ c a w, Q (.panic c) (a.put oi.dst undef) w → Q (.panic c) a w) (hS : S w) (h : wpAnyH P md ops Q S fuel (listed.setIfInBounds i true) (a.put oi.dst undef) w) : wpAnyH P md ops Q S (fuel + 1) listed a w := by
  rw [Bool.and_eq_true, Bool.and_eq_true] at hk
  exact wpAnyH_take hi hk.1 hk.2.1 hk.2.2 hQ (.inr ⟨hw, rfl⟩) hS h
theorem sgl.{u} {α : Type u} : ((∀ {xs : List α} {i : Nat} (h : i < xs.toArray.size), xs.toArray[i] = xs[i]'(by simpa using h)) ∧ (∀ (a : α) (xs : List α) (i : Nat) (h : i + 1 < (a :: xs).length), (a :: xs)[i + 1] = xs[i]'(by simpa using h)) ∧ (∀ (a : α) (xs : List α) (h : 0 < (a :: xs).length), (a :: xs)[0] = a)) ∧ ((∀ (l : List α) (i : Nat) (a : α), l.toArray.setIfInBounds i a = (l.set i a).toArray) ∧ (∀ {x : α} {xs : List α} {a : α}, (x :: xs).set 0 a = a :: xs) ∧ (∀ {x : α} {xs : List α} {i : Nat} {a : α}, (x :: xs).set (i + 1) a = x :: xs.set i a)) :=
  ⟨⟨fun h => List.getElem_toArray h, fun a xs i h => List.getElem_cons_succ a xs i h, fun a xs h => List.getElem_cons_zero a xs h⟩, fun l i a => List.setIfInBounds_toArray l i a, List.set_cons_zero, List.set_cons_succ⟩
theorem grown_empty {w w1 : World} {t : TypeId} (h : (w.alloc (.cells #[] t)).grownBy w1 (Value.ownBlock (.slice (some ⟨w.heap.size, 0, none⟩) 0 0))) : Below w.heap.size w w1 :=
 (below_new' w _).grown h (by simp) (fun k hk => by simp [Value.ownBlock] at hk; omega)
theorem infoDelta : (Tryz.prog.info? 91).map (fun i => (i.zero, i.size, i.bytes)) = some (some (.agg #[.string ByteArray.empty, .int .u64 0]), 2, 24) := by kernel_rfl
theorem cloneDelta (M : List Nat) (v : Value) (n : Nat) (xs : List Value) (w : World) (h : Rd w M 2 v n xs) (h1 : ∀ u ∈ xs, u.oneCell' = true) (hb : n * 24 ≤ 140737488355328) :
  Calls Tryz.prog 119 #[v] w fun e w' => ∃ v', e = .returned v' ∧ w'.ownsRow w.heap.size 91 2 v' n xs ∧ Below w.heap.size w w' := by
 obtain ⟨A, c, rfl, hc, hr⟩ := h.reads
 obtain ⟨i0, hi0, hz0, hz1, hz2⟩ := info_parts infoDelta
 have Hr := Lib.hid hr; have Hb := Lib.hid hb; have Hx := Lib.hid h1; have Hh := Lib.hid h
 have Hi0 := Lib.hid hi0; have Hz0 := Lib.hid hz0; have Hz1 := Lib.hid hz1; have Hz2 := Lib.hid hz2
 clear hr hb h1 h hi0 hz0 hz1 hz2
 have he := fun W => Lib.run_eql_slice_nil (P := Tryz.prog) W 31 _ A n c 0 0 Tryz.underlying31
 rcases A with _ | ad
 ·go_enter Tryz.func119, Tryz.ntmps119
  go_wp2
  go_ret
  have hn : n = 0 := by
   rcases Nat.eq_zero_or_pos n with h | h
   ·exact h
   ·obtain ⟨_, he, _⟩ := Hr.out.2 h; cases he
  subst hn
  have hx : xs = [] := List.eq_nil_of_length_eq_zero (by simpa using Hr.out.1)
  subst hx
  exact ⟨_, rfl, World.ownsRow_nil _ _ _ _, Below.refl _ _⟩
 ·go_enter Tryz.func119, Tryz.ntmps119
  go_wp2_with (at_builtin; refine wpList_append_any _ rfl (.tmp 5) (.tmp 6) _ rfl w.heap.size 91 i0 _ 2 24 Tryz.underlying31 Hi0.out Hz0.out Hz1.out Hz2.out rfl (by omega) (.slice (some ⟨w.heap.size, 0, none⟩) 0 0) 0 [] rfl (World.ownsRow_made w #[] 0 (Nat.le_refl _) (by unfold maxLen; omega) rfl) w.heap.size (some ad) n c xs rfl (Hr.out.alloc (Nat.le_refl _) _) Hx.out ?_ ?_ ?_ ?_)
  ·have := Hb.out; unfold maxLen; omega
  ·have := Hb.out; omega
  ·simp
  ·intro v' w1 hown hg hat
   have H1 := Lib.hid hown; clear hown
   have H2 := Lib.hid hg; clear hg
   clear hat
   go_wp2
   go_ret
   exact ⟨v', rfl, by simpa using H1.out, grown_empty H2.out⟩
theorem clipDelta (A : Option Addr) (n c : Nat) (w : World) (hn : n ≤ c) :
  Calls Tryz.prog 86 #[.slice A n c] w fun e w' => e = .returned (.slice A n n) ∧ w = w' := by
 go_enter Tryz.func86, Tryz.ntmps86
 go_wp2
 go_ret
 exact ⟨rfl, rfl⟩
theorem clipEntry (A : Option Addr) (n c : Nat) (w : World) (hn : n ≤ c) :
  Calls Tryz.prog 113 #[.slice A n c] w fun e w' => e = .returned (.slice A n n) ∧ w = w' := by
 go_enter Tryz.func113, Tryz.ntmps113
 go_wp2
 go_ret
 exact ⟨rfl, rfl⟩
theorem infoLabel : (Tryz.prog.info? 212).map (fun i => (i.zero, i.size, i.bytes)) = some (some (.agg #[.string ByteArray.empty, .string ByteArray.empty]), 2, 32) := by kernel_rfl
theorem cloneLabel (M : List Nat) (v : Value) (n : Nat) (xs : List Value) (w : World) (h : Rd w M 2 v n xs) (h1 : ∀ u ∈ xs, u.oneCell' = true) (hb : n * 32 ≤ 140737488355328) :
  Calls Tryz.prog 242 #[v] w fun e w' => ∃ v', e = .returned v' ∧ w'.ownsRow w.heap.size 212 2 v' n xs ∧ Below w.heap.size w w' := by
 obtain ⟨A, c, rfl, hc, hr⟩ := h.reads
 obtain ⟨i0, hi0, hz0, hz1, hz2⟩ := info_parts infoLabel
 have Hr := Lib.hid hr; have Hb := Lib.hid hb; have Hx := Lib.hid h1; have Hh := Lib.hid h
 have Hi0 := Lib.hid hi0; have Hz0 := Lib.hid hz0; have Hz1 := Lib.hid hz1; have Hz2 := Lib.hid hz2
 clear hr hb h1 h hi0 hz0 hz1 hz2
 have he := fun W => Lib.run_eql_slice_nil (P := Tryz.prog) W 182 _ A n c 0 0 Tryz.underlying182
 rcases A with _ | ad
 ·go_enter Tryz.func242, Tryz.ntmps242
  go_wp2
  go_ret
  have hn : n = 0 := by
   rcases Nat.eq_zero_or_pos n with h | h
   ·exact h
   ·obtain ⟨_, he, _⟩ := Hr.out.2 h; cases he
  subst hn
  have hx : xs = [] := List.eq_nil_of_length_eq_zero (by simpa using Hr.out.1)
  subst hx
  exact ⟨_, rfl, World.ownsRow_nil _ _ _ _, Below.refl _ _⟩
 ·go_enter Tryz.func242, Tryz.ntmps242
  go_wp2_with (at_builtin; refine wpList_append_any _ rfl (.tmp 5) (.tmp 6) _ rfl w.heap.size 212 i0 _ 2 32 Tryz.underlying182 Hi0.out Hz0.out Hz1.out Hz2.out rfl (by omega) (.slice (some ⟨w.heap.size, 0, none⟩) 0 0) 0 [] rfl (World.ownsRow_made w #[] 0 (Nat.le_refl _) (by unfold maxLen; omega) rfl) w.heap.size (some ad) n c xs rfl (Hr.out.alloc (Nat.le_refl _) _) Hx.out ?_ ?_ ?_ ?_)
  ·have := Hb.out; unfold maxLen; omega
  ·have := Hb.out; omega
  ·simp
  ·intro v' w1 hown hg hat
   have H1 := Lib.hid hown; clear hown
   have H2 := Lib.hid hg; clear hg
   clear hat
   go_wp2
   go_ret
   exact ⟨v', rfl, by simpa using H1.out, grown_empty H2.out⟩
theorem clipLabel (A : Option Addr) (n c : Nat) (w : World) (hn : n ≤ c) :
  Calls Tryz.prog 149 #[.slice A n c] w fun e w' => e = .returned (.slice A n n) ∧ w = w' := by
 go_enter Tryz.func149, Tryz.ntmps149
 go_wp2
 go_ret
 exact ⟨rfl, rfl⟩
theorem infoInt : (Tryz.prog.info? 3).map (fun i => (i.zero, i.size, i.bytes)) = some (some (.int .i64 0), 1, 8) := by kernel_rfl
theorem cloneInt (M : List Nat) (v : Value) (n : Nat) (xs : List Value) (w : World) (h : Rd w M 1 v n xs) (h1 : ∀ u ∈ xs, u.oneCell' = true) (hb : n * 8 ≤ 140737488355328) :
  Calls Tryz.prog 121 #[v] w fun e w' => ∃ v', e = .returned v' ∧ w'.ownsRow w.heap.size 3 1 v' n xs ∧ Below w.heap.size w w' := by
 obtain ⟨A, c, rfl, hc, hr⟩ := h.reads
 obtain ⟨i0, hi0, hz0, hz1, hz2⟩ := info_parts infoInt
 have Hr := Lib.hid hr; have Hb := Lib.hid hb; have Hx := Lib.hid h1; have Hh := Lib.hid h
 have Hi0 := Lib.hid hi0; have Hz0 := Lib.hid hz0; have Hz1 := Lib.hid hz1; have Hz2 := Lib.hid hz2
 clear hr hb h1 h hi0 hz0 hz1 hz2
 have he := fun W => Lib.run_eql_slice_nil (P := Tryz.prog) W 22 _ A n c 0 0 Tryz.underlying22
 rcases A with _ | ad
 ·go_enter Tryz.func121, Tryz.ntmps121
  go_wp2
  go_ret
  have hn : n = 0 := by
   rcases Nat.eq_zero_or_pos n with h | h
   ·exact h
   ·obtain ⟨_, he, _⟩ := Hr.out.2 h; cases he
  subst hn
  have hx : xs = [] := List.eq_nil_of_length_eq_zero (by simpa using Hr.out.1)
  subst hx
  exact ⟨_, rfl, World.ownsRow_nil _ _ _ _, Below.refl _ _⟩
 ·go_enter Tryz.func121, Tryz.ntmps121
  go_wp2_with (at_builtin; refine wpList_append_any _ rfl (.tmp 5) (.tmp 6) _ rfl w.heap.size 3 i0 _ 1 8 Tryz.underlying22 Hi0.out Hz0.out Hz1.out Hz2.out rfl (by omega) (.slice (some ⟨w.heap.size, 0, none⟩) 0 0) 0 [] rfl (World.ownsRow_made w #[] 0 (Nat.le_refl _) (by unfold maxLen; omega) rfl) w.heap.size (some ad) n c xs rfl (Hr.out.alloc (Nat.le_refl _) _) Hx.out ?_ ?_ ?_ ?_)
  ·have := Hb.out; unfold maxLen; omega
  ·have := Hb.out; omega
  ·simp
  ·intro v' w1 hown hg hat
   have H1 := Lib.hid hown; clear hown
   have H2 := Lib.hid hg; clear hg
   clear hat
   go_wp2
   go_ret
   exact ⟨v', rfl, by simpa using H1.out, grown_empty H2.out⟩
theorem infoU8 : (Tryz.prog.info? 5).map (fun i => (i.zero, i.size, i.bytes)) = some (some (.int .u8 0), 1, 1) := by kernel_rfl
theorem cloneU8 (M : List Nat) (v : Value) (n : Nat) (xs : List Value) (w : World) (h : Rd w M 1 v n xs) (h1 : ∀ u ∈ xs, u.oneCell' = true) (hb : n * 1 ≤ 140737488355328) :
  Calls Tryz.prog 103 #[v] w fun e w' => ∃ v', e = .returned v' ∧ w'.ownsRow w.heap.size 5 1 v' n xs ∧ Below w.heap.size w w' := by
 obtain ⟨A, c, rfl, hc, hr⟩ := h.reads
 obtain ⟨i0, hi0, hz0, hz1, hz2⟩ := info_parts infoU8
 have Hr := Lib.hid hr; have Hb := Lib.hid hb; have Hx := Lib.hid h1; have Hh := Lib.hid h
 have Hi0 := Lib.hid hi0; have Hz0 := Lib.hid hz0; have Hz1 := Lib.hid hz1; have Hz2 := Lib.hid hz2
 clear hr hb h1 h hi0 hz0 hz1 hz2
 have he := fun W => Lib.run_eql_slice_nil (P := Tryz.prog) W 73 _ A n c 0 0 Tryz.underlying73
 rcases A with _ | ad
 ·go_enter Tryz.func103, Tryz.ntmps103
  go_wp2
  go_ret
  have hn : n = 0 := by
   rcases Nat.eq_zero_or_pos n with h | h
   ·exact h
   ·obtain ⟨_, he, _⟩ := Hr.out.2 h; cases he
  subst hn
  have hx : xs = [] := List.eq_nil_of_length_eq_zero (by simpa using Hr.out.1)
  subst hx
  exact ⟨_, rfl, World.ownsRow_nil _ _ _ _, Below.refl _ _⟩
 ·go_enter Tryz.func103, Tryz.ntmps103
  go_wp2_with (at_builtin; refine wpList_append_any _ rfl (.tmp 5) (.tmp 6) _ rfl w.heap.size 5 i0 _ 1 1 Tryz.underlying73 Hi0.out Hz0.out Hz1.out Hz2.out rfl (by omega) (.slice (some ⟨w.heap.size, 0, none⟩) 0 0) 0 [] rfl (World.ownsRow_made w #[] 0 (Nat.le_refl _) (by unfold maxLen; omega) rfl) w.heap.size (some ad) n c xs rfl (Hr.out.alloc (Nat.le_refl _) _) Hx.out ?_ ?_ ?_ ?_)
  ·have := Hb.out; unfold maxLen; omega
  ·have := Hb.out; omega
  ·simp
  ·intro v' w1 hown hg hat
   have H1 := Lib.hid hown; clear hown
   have H2 := Lib.hid hg; clear hg
   clear hat
   go_wp2
   go_ret
   exact ⟨v', rfl, by simpa using H1.out, grown_empty H2.out⟩
theorem clipU8 (A : Option Addr) (n c : Nat) (w : World) (hn : n ≤ c) :
  Calls Tryz.prog 81 #[.slice A n c] w fun e w' => e = .returned (.slice A n n) ∧ w = w' := by
 go_enter Tryz.func81, Tryz.ntmps81
 go_wp2
 go_ret
 exact ⟨rfl, rfl⟩
end Go.Proofs.YtdaceeijifjpeaaGreatDoor.Mem
end
section
namespace Go.Proofs.YtdaceeijifjpeaaGreatDoor.Vi
open Go.RowKit Base Mem
def bV (x : UInt8) : Value := .int .u8 x.toNat
/-- v reads as these bytes. -/
def Bs (w : World) (M : List Nat) (v : Value) (l : List UInt8) : Prop := Rd w M 1 v l.length (l.map bV)
theorem Bs.keep {w w' : World} {M M' : List Nat} {v : Value} {l : List UInt8} (h : Bs w M v l) (k : Keeps M' w w') (hM : ∀ g ∈ M', g ∈ M ∨ w.heap.size ≤ g) : Bs w' M v l := Rd.keep h k hM
theorem Bs.avoid {w : World} {M M' : List Nat} {v : Value} {l : List UInt8} (h : Bs w M v l) (hM : ∀ g ∈ M', g ∈ M ∨ w.heap.size ≤ g) : Bs w M' v l := Rd.avoid h hM
theorem Bs.len {w : World} {M : List Nat} {v : Value} {l : List UInt8} (h : Bs w M v l) : ∃ A c, v = .slice A l.length c ∧ l.length ≤ c := by
 obtain ⟨A, c, rfl, hc, _⟩ := h
 exact ⟨A, c, rfl, hc⟩
theorem Bs.nil (w : World) (M : List Nat) : Bs w M (.slice none 0 0) [] := ⟨none, 0, rfl, Nat.le_refl _, rfl, fun h => absurd h (by simp)⟩
theorem bV_one (l : List UInt8) : ∀ u ∈ l.map bV, u.oneCell' = true := by
 intro u hu
 obtain ⟨x, _, rfl⟩ := List.mem_map.1 hu
 rfl
/-- What a call answers that makes bytes: a row of its own. -/
def BsPost (l : List UInt8) (w : World) (e : Ending) (w' : World) : Prop := ∃ A, e = .returned (.slice A l.length l.length) ∧ (∀ M, (∀ g ∈ M, g < w.heap.size) → Bs w' M (.slice A l.length l.length) l) ∧ Below w.heap.size w w'
theorem bV_low (m : Nat) : bV (UInt8.ofNat m) = .int .u8 ((m : Int) % 256) := by
 unfold bV
 rw [UInt8.toNat_ofNat']
 simp
theorem bV_toUInt8 (m : Nat) : bV m.toUInt8 = .int .u8 ((m : Int) % 256) := bV_low m
set_option maxRecDepth 100000 in
theorem put_any (v : Value) (l : List UInt8) (n : Nat) (w : World) (h : Bs w [] v l) (hn : n < 18446744073709551616) (hl : l.length ≤ 140737488355000) :
  Calls Tryz.prog 111 #[v, .int .u64 n] w fun e w' => BsPost (l ++ Lib.uvarint n) w e w' := by
 obtain ⟨i0, hi0, hz0, hz1, hz2⟩ := info_parts infoU8
 have Hi0 := Lib.hid hi0; have Hz0 := Lib.hid hz0; have Hz1 := Lib.hid hz1; have Hz2 := Lib.hid hz2
 have hcl := Lib.hid (cloneU8 [] v l.length (l.map bV) w h (bV_one l) (by omega))
 obtain ⟨A, c, rfl, hc⟩ := h.len
 clear h hi0 hz0 hz1 hz2
 have Hun := Lib.hid (Lib.uvarint_length64 hn)
 go_enter Tryz.func111, Tryz.ntmps111
 go_wp2_with fail
 refine hcl.out.mono ?_
 rintro e w1 ⟨v1, rfl, hown, hb1⟩
 have Hown := Lib.hid hown; have Hb1 := Lib.hid hb1
 clear hown hb1 hcl
 go_wp2_with fail
 go_slots
 go_loopw [1, 5] (fun x out wr => ∃ (m : Nat) (pre : List UInt8), x = .int .u64 m ∧ m < 18446744073709551616 ∧ Hid (Lib.uvarint n = pre ++ Lib.uvarint m) ∧ Hid (wr.ownsRow w.heap.size 5 1 out (l.length + pre.length) ((l ++ pre).map bV)) ∧ Hid (Below w.heap.size w wr)) (fun x _ _ => (intOf x).toNat)
 case atStart => exact ⟨n, [], rfl, hn, rfl, (show World.ownsRow _ _ _ _ _ _ _ by simpa using Hown.out), Hb1.out⟩
 case round =>
  obtain ⟨m, pre, rfl, hm, Hp, Hor, Hbr⟩ := hrel
  have hlen : Hid (l.length + pre.length + 1 ≤ 140737488355328) := by
   have h1 := Hun.out
   rw [Hp.out, List.length_append] at h1
   have := Lib.uvarint_pos m
   show _ ≤ _; omega
  by_cases hbig : 128 ≤ m
  ·have hor : bits .or .u8 ((m : Int) % 256) 128 = ((m % 128 + 128 : Nat) : Int) := by
    rw [Lib.u8_or128_any _ (by omega) (by omega)]; omega
   have hmi : (128 : Int) ≤ (m : Int) := by omega
   have hown3 := Lib.hid (Hor.out.alloc (.cells #[.int .u8 ((m % 128 + 128 : Nat) : Int)] 5))
   go_wp2_with (at_builtin; refine wpList_append_any _ rfl (.tmp 10) (.tmp 14) _ rfl w.heap.size 5 i0 _ 1 1 Tryz.underlying73 Hi0.out Hz0.out Hz1.out Hz2.out rfl (by omega) u5 (l.length + pre.length) ((l ++ pre).map bV) rfl hown3.out (wr.heap.size + 1) (some ⟨wr.heap.size, 0, none⟩) 1 1 [.int .u8 ((m % 128 + 128 : Nat) : Int)] rfl (reads_new _ _ _ _ _ rfl) (by intro u hu; simp at hu; subst hu; rfl) (by have := hlen.out; unfold maxLen; omega) (by have := hlen.out; omega) (by have := Hbr.out.size; simp; omega) ?_)
   intro v' w4 hown4 hg4 hat4
   have hcell : Hid (bV (m % 128 + 128).toUInt8 = .int .u8 ((m % 128 + 128 : Nat) : Int)) := by show _ = _; rw [bV_toUInt8]; congr 1; omega
   have Hown4 : Hid (w4.ownsRow w.heap.size 5 1 v' (l.length + (pre ++ [(m % 128 + 128).toUInt8]).length) ((l ++ (pre ++ [(m % 128 + 128).toUInt8])).map bV)) := by
    show World.ownsRow _ _ _ _ _ _ _
    rw [← List.append_assoc, List.map_append, List.map_cons, List.map_nil, hcell.out]
    simpa [Nat.add_assoc] using hown4
   have Hb4 : Hid (Below w.heap.size w w4) := (Hbr.out.alloc Hbr.out.size _).grown hg4 (by have := Hbr.out.size; simp; omega) (fun g hg => (Hor.out.lt g hg).1)
   have Hp4 : Hid (Lib.uvarint n = (pre ++ [(m % 128 + 128).toUInt8]) ++ Lib.uvarint (m / 128)) := by show _ = _; rw [Hp.out, Lib.uvarint_big hbig]; simp
   clear hown4 hg4 hat4
   go_wp2
   go_roundw
   case rel => exact ⟨m / 128, pre ++ [(m % 128 + 128).toUInt8], by go_num, by omega, Hp4, Hown4, Hb4⟩
   case measure => simp [intOf] <;> omega
  ·have hmi : (m : Int) < 128 := by omega
   have hmm : (m : Int) % 256 = (m : Int) := by omega
   have hown3 := Lib.hid (Hor.out.alloc (.cells #[.int .u8 (m : Int)] 5))
   go_wp2_with (at_builtin; refine wpList_append_any _ rfl (.tmp 18) (.tmp 21) _ rfl w.heap.size 5 i0 _ 1 1 Tryz.underlying73 Hi0.out Hz0.out Hz1.out Hz2.out rfl (by omega) u5 (l.length + pre.length) ((l ++ pre).map bV) rfl hown3.out (wr.heap.size + 1) (some ⟨wr.heap.size, 0, none⟩) 1 1 [.int .u8 (m : Int)] rfl (reads_new _ _ _ _ _ rfl) (by intro u hu; simp at hu; subst hu; rfl) (by have := hlen.out; unfold maxLen; omega) (by have := hlen.out; omega) (by have := Hbr.out.size; simp; omega) ?_)
   intro v' w4 hown4 hg4 hat4
   have hcell : Hid (bV m.toUInt8 = .int .u8 (m : Int)) := by show _ = _; rw [bV_toUInt8]; congr 1
   have hfin : Hid (l ++ Lib.uvarint n = l ++ (pre ++ [m.toUInt8])) := by show _ = _; rw [Hp.out, Lib.uvarint_small (by omega)]
   have Hown4 : Hid (w4.ownsRow w.heap.size 5 1 v' (l ++ (pre ++ [m.toUInt8])).length ((l ++ (pre ++ [m.toUInt8])).map bV)) := by
    show World.ownsRow _ _ _ _ _ _ _
    rw [← List.append_assoc, List.map_append, List.map_cons, List.map_nil, hcell.out]
    simpa [Nat.add_assoc] using hown4
   have Hb4 : Hid (Below w.heap.size w w4) := (Hbr.out.alloc Hbr.out.size _).grown hg4 (by have := Hbr.out.size; simp; omega) (fun g hg => (Hor.out.lt g hg).1)
   clear hown4 hg4 hat4
   generalize l ++ (pre ++ [m.toUInt8]) = L at Hown4 hfin
   have hR : Hid (∀ M, (∀ g ∈ M, g < w.heap.size) → Bs w4 M v' L) := fun M hM => Rd.of_own Hown4.out hM
   obtain ⟨A2, c2, rfl, hc2⟩ := (hR.out [] (by simp)).len
   go_wp2_with fail
   refine (clipU8 A2 _ c2 _ hc2).mono ?_
   rintro e w' ⟨rfl, rfl⟩
   have hC : Hid (BsPost (l ++ Lib.uvarint n) w (.returned (.slice A2 L.length L.length)) w4) := by
    show BsPost _ _ _ _
    rw [hfin.out]
    exact ⟨_, rfl, fun M hM => Rd.clip (hR.out M hM), Hb4.out⟩
   go_wp2
   go_ret
   exact hC.out
/-- A string's bytes. -/
def sB (s : ByteArray) : List UInt8 := s.data.toList
/-- What an append onto a full row leaves. -/
structure Onto (w w' : World) (v v' : Value) (n m : Nat) (xs ys : List Value) : Prop where
 below : Below w.heap.size w w'
 reads : ∀ M, (∀ g ∈ M, g < w.heap.size) → Rd w M 1 v n xs → Rd w' M 1 v' (n + m) (xs ++ ys)
theorem run_append_full_string {P : Program} (w : World) (t u ty e : TypeId) (i : TypeInfo) (ht : P.underlying t = some (.slice e)) (hu : P.underlying u = some .string) (hi : P.info? e = some i) (hz : i.zero = some (.int .u8 0))
  (hsize : i.size = 1) (hby : i.bytes = 1) (A : Option Addr) (n : Nat) (xs : List Value) (h : Rd w [] 1 (.slice A n n) n xs) (s : ByteArray) (hbytes : n + s.size ≤ 140737488355328) :
  ∃ v' w', (Builtin.append_ #[t, u] ty #[.slice A n n, .string s]).run P w = .ok v' w' ∧ Onto w w' (.slice A n n) v' n s.size xs (Lib.strCells s) := by
 obtain ⟨A', c', he, _, hl, hr⟩ := h
 injection he with h1 h2 h3
 subst h1
 have hl' : xs.length = n := by simpa using hl
 have grown : ∀ (old : Nat), old < n + s.size → Onto w (w.drew.alloc (.cells (xs.toArray ++ (Lib.strCells s).toArray ++ Builtin.zeroCells (Value.int .u8 0).cells (grownCap w (n + s.size) old e - (n + s.size))) e)) (.slice A n n)
   (.slice (some ⟨w.heap.size, 0, none⟩) (n + s.size) (grownCap w (n + s.size) old e)) n s.size xs (Lib.strCells s) := by
  intro old ho
  have hge := grownCap_ge w (n + s.size) old e
  refine ⟨((Keeps.refl [] w).drew.alloc _).below, fun M hM _ => ⟨_, _, rfl, hge, by rw [List.length_append, hl', Lib.strCells_length, Nat.mul_one], fun _ => ⟨w.heap.size, 0, rfl, by simp, fun hm => by have := hM _ hm; omega, fun j x hx => ?_⟩⟩⟩
  rw [show (w.heap.size : Nat) = w.drew.heap.size from rfl, (Blk.new w.drew e _).cell (0 + j), Nat.zero_add, ← Array.getElem?_toList]
  simp only [Array.toList_append, List.toList_toArray]
  rw [List.getElem?_append_left (List.getElem?_eq_some_iff.1 hx).1]
  exact hx
 by_cases hm : s.size = 0
 ·have hn : Lib.strCells s = [] := List.eq_nil_of_length_eq_zero (by rw [Lib.strCells_length]; exact hm)
  refine ⟨.slice A n n, w, ?_, Below.refl _ _, fun M _ h => by rw [hn, hm]; simpa using h⟩
  have hf := Lib.run_firstCells_string (P := P) w 1 s
  rw [hm] at hf
  rw [hn] at hf
  rcases A with _ | ad
  ·have hn0 : n = 0 := by
    rcases Nat.eq_zero_or_pos n with h | h
    ·exact h
    ·obtain ⟨_, _, h, _⟩ := hr h; cases h
   subst hn0
   simp [Builtin.append_, run_underlying ht, run_underlying hu, sizeOf, typeInfo, hi, hsize, Builtin.lenOf, hm, hf]
  ·simp [Builtin.append_, run_underlying ht, run_underlying hu, sizeOf, typeInfo, hi, hsize, Builtin.lenOf, hm, hf, storeCells]
 ·rcases A with _ | ad
  ·have hn0 : n = 0 := by
    rcases Nat.eq_zero_or_pos n with h | h
    ·exact h
    ·obtain ⟨_, _, h, _⟩ := hr h; cases h
   subst hn0
   have hx : xs = [] := List.eq_nil_of_length_eq_zero hl'
   subst hx
   have hrun := run_append_nil_string (P := P) w t u ty e i (.int .u8 0) ht hu hi hz s (by omega) (by omega) (by rw [hby]; omega)
   have hgr := grown 0 (by omega)
   simp only [Nat.zero_add, Array.empty_append] at hgr ⊢
   have e1 : (s.data.map fun b => Value.int .u8 b.toNat) = (Lib.strCells s).toArray := by
    apply Array.ext'
    simp [Lib.strCells]
   rw [e1] at hrun
   exact ⟨_, _, hrun, hgr⟩
  ·have holds : ∀ j u, xs[j]? = some u → w.cell? (ad.add j) = some u := by
    intro j x hx
    have hn0 : 0 < n := by have := (List.getElem?_eq_some_iff.1 hx).1; omega
    obtain ⟨g, off, h, _, _, hc⟩ := hr hn0
    injection h with h
    subst h
    rw [addr_add]
    exact hc j x hx
   have hrun := Lib.run_append_grow_string (P := P) w t u ty e i (.int .u8 0) ht hu hi hz ad n n xs (by rw [hsize]; simpa using hl') holds s (by omega) (by omega) (by rw [hby]; exact growslice_fits (by omega) (by omega))
   exact ⟨_, _, hrun, grown n (by omega)⟩
theorem wpList_append_full_string {P : Program} {ops : Array Oper} {rest : List Oper} {o : Oper} {a : Act} {w : World} {Q : Exit → Act → World → Prop} (hgd : o.guard = none) (sl x : Operand) (t u : TypeId)
  (ho : o.op = .call { callee := .builtin .append, args := #[sl, x], argTypes := #[t, u] })
  (e : TypeId) (i : TypeInfo) (ht : P.underlying t = some (.slice e)) (hu : P.underlying u = some .string) (hi : P.info? e = some i) (hz : i.zero = some (.int .u8 0)) (hsize : i.size = 1) (hby : i.bytes = 1)
  (A : Option Addr) (n : Nat) (xs : List Value) (hs : a.eval sl = .slice A n n) (h : Rd w [] 1 (.slice A n n) n xs) (s : ByteArray) (hx : a.eval x = .string s) (hbytes : n + s.size ≤ 140737488355328)
  (hq : ∀ v' w', Onto w w' (.slice A n n) v' n s.size xs (Lib.strCells s) → wpList P ops Q rest (a.put o.dst v') w') : wpList P ops Q (o :: rest) a w := by
 refine wpList_plain hgd fun K hK => ?_
 obtain ⟨v', w', hr, h2⟩ := run_append_full_string (P := P) w t u o.type e i ht hu hi hz hsize hby A n xs h s hbytes
 unfold Oper.wp execOp
 simp only [ho, resolve, invoke, builtin, Sem.run_bind, Sem.run_pure, Result.andThen_ok, List.map_toArray, List.map_cons, List.map_nil, hs, hx, hr]
 exact hK _ _ (hq v' w' h2)
set_option maxRecDepth 100000 in
theorem text_any (v : Value) (l : List UInt8) (s : ByteArray) (w : World) (h : Bs w [] v l) (hl : l.length + s.size ≤ 140737488355000) :
  Calls Tryz.prog 139 #[v, .string s] w fun e w' => BsPost (l ++ Lib.uvarint s.size ++ sB s) w e w' := by
 obtain ⟨i0, hi0, hz0, hz1, hz2⟩ := info_parts infoU8
 have Hi0 := Lib.hid hi0; have Hz0 := Lib.hid hz0; have Hz1 := Lib.hid hz1; have Hz2 := Lib.hid hz2
 have hp := Lib.hid (put_any v l s.size w h (by omega) (by omega))
 have hun := Lib.uvarint_length64 (x := s.size) (by omega)
 have hsb : (s.size : Int) < 18446744073709551616 := by omega
 clear h hi0 hz0 hz1 hz2
 go_enter Tryz.func139, Tryz.ntmps139
 go_wp2_with fail
 refine hp.out.mono ?_
 rintro e w1 ⟨A, rfl, hR, hb⟩
 have hlen : (l ++ Lib.uvarint s.size).length + s.size ≤ 140737488355328 := by rw [List.length_append]; omega
 have Hfin : Hid (∀ L : List UInt8, (L ++ sB s).length = L.length + s.size) := fun L => by rw [List.length_append]; rfl
 generalize hL : l ++ Lib.uvarint s.size = L at *
 have HR := Lib.hid hR; have Hb := Lib.hid hb; have HL := Lib.hid hL
 clear hR hb hp hL
 have hrd := Lib.hid (HR.out [] (by simp))
 go_wp2_with (at_builtin; refine wpList_append_full_string rfl (.tmp 9) (.tmp 10) _ _ rfl 5 i0 Tryz.underlying73 Tryz.underlying9 Hi0.out Hz0.out Hz1.out Hz2.out A L.length (L.map bV) rfl hrd.out s rfl hlen ?_)
 intro v' w' ho
 have hR2 : Hid (∀ M, (∀ g ∈ M, g < w.heap.size) → Bs w' M v' (L ++ sB s)) := fun M hM => by
  have h1 := ho.reads M (fun g hg => Nat.lt_of_lt_of_le (hM g hg) Hb.out.size) (HR.out M hM)
  show Rd w' M 1 v' (L ++ sB s).length ((L ++ sB s).map bV)
  rw [Hfin.out L, List.map_append]
  exact h1
 have Hb2 := Lib.hid (below_then Hb.out ho.below)
 clear ho
 generalize hF : L ++ sB s = F at hR2
 have HF := Lib.hid hF
 clear hF
 obtain ⟨A2, c2, rfl, hc2⟩ := (hR2.out [] (by simp)).len
 go_wp2_with fail
 refine (clipU8 A2 _ c2 _ hc2).mono ?_
 rintro e w'' ⟨rfl, rfl⟩
 have hC : Hid (BsPost (l ++ Lib.uvarint s.size ++ sB s) w (.returned (.slice A2 F.length F.length)) w') := by
  show BsPost _ _ _ _
  rw [HL.out, HF.out]
  exact ⟨_, rfl, fun M hM => Rd.clip (hR2.out M hM), Hb2.out⟩
 go_wp2
 go_ret
 exact hC.out
end Go.Proofs.YtdaceeijifjpeaaGreatDoor.Vi
end
section
namespace Go.Proofs.YtdaceeijifjpeaaGreatDoor.Mem
open Go.RowKit
structure DeltaD where
 ser : ByteArray
 n : Int
structure EntryD where
 kind : Int
 ag : Int
 sh : Int
 seq : Int
 ep : Int
 ds : List DeltaD
 ser : ByteArray
 fr : Int
 tag : Int
def dCell (d : DeltaD) : List Value := [.string d.ser, .int .u64 d.n]
def dCells (ds : List DeltaD) : List Value := ds.flatMap dCell
def eCell (p : EntryD × Value) : List Value :=
 [.int .i64 p.1.kind, .int .i64 p.1.ag, .int .i64 p.1.sh, .int .i64 p.1.seq, .int .i64 p.1.ep, p.2, .string p.1.ser, .int .i64 p.1.fr, .int .i64 p.1.tag]
/-- v reads as these deltas. -/
def Ds (w : World) (M : List Nat) (v : Value) (ds : List DeltaD) : Prop := Rd w M 2 v ds.length (dCells ds)
/-- v reads as these entries. -/
def Ens (w : World) (M : List Nat) (v : Value) (l : List EntryD) : Prop :=
 ∃ ps : List (EntryD × Value), ps.map (·.1) = l ∧ Rd w M 9 v ps.length (ps.flatMap eCell) ∧ ∀ p ∈ ps, Ds w M p.2 p.1.ds
theorem flat_len {α : Type} (f : α → List Value) (c : Nat) (hf : ∀ x, (f x).length = c) (l : List α) : (l.flatMap f).length = l.length * c := by
 induction l with
 | nil => simp
 | cons x l ih => simp [hf, ih, Nat.add_mul]; omega
theorem flat_at {α : Type} (f : α → List Value) (c : Nat) (hf : ∀ x, (f x).length = c) (l : List α) (k j : Nat) (hk : k < l.length) (hj : j < c) : (l.flatMap f)[k * c + j]? = (f l[k])[j]? := by
 induction l generalizing k with
 | nil => simp at hk
 | cons x l ih =>
  cases k with
  | zero => simp only [List.flatMap_cons, Nat.zero_mul, Nat.zero_add, List.getElem_cons_zero]; rw [List.getElem?_append_left (by rw [hf]; exact hj)]
  | succ k =>
   simp only [List.flatMap_cons, List.getElem_cons_succ]
   rw [List.getElem?_append_right (by rw [hf, Nat.add_mul]; omega), hf, show (k + 1) * c + j - c = k * c + j by rw [Nat.add_mul]; omega]
   exact ih k (by simpa using hk)
theorem dCells_one (ds : List DeltaD) : ∀ u ∈ dCells ds, u.oneCell' = true := by
 intro u hu
 obtain ⟨d, _, hd⟩ := List.mem_flatMap.1 hu
 simp [dCell] at hd
 rcases hd with rfl | rfl <;> rfl
section
variable {w w' : World} {M M' : List Nat} {v : Value} {ds : List DeltaD} {l : List EntryD}
theorem Ds.keep (h : Ds w M v ds) (k : Keeps M' w w') (hM : ∀ g ∈ M', g ∈ M ∨ w.heap.size ≤ g) : Ds w' M v ds := Rd.keep h k hM
theorem Ds.avoid (h : Ds w M v ds) (hM : ∀ g ∈ M', g ∈ M ∨ w.heap.size ≤ g) : Ds w M' v ds := Rd.avoid h hM
theorem Ens.keep (h : Ens w M v l) (k : Keeps M' w w') (hM : ∀ g ∈ M', g ∈ M ∨ w.heap.size ≤ g) : Ens w' M v l := by
 obtain ⟨ps, hl, hr, hd⟩ := h
 exact ⟨ps, hl, hr.keep k hM, fun p hp => (hd p hp).keep k hM⟩
theorem Ens.avoid (h : Ens w M v l) (hM : ∀ g ∈ M', g ∈ M ∨ w.heap.size ≤ g) : Ens w M' v l := by
 obtain ⟨ps, hl, hr, hd⟩ := h
 exact ⟨ps, hl, hr.avoid hM, fun p hp => (hd p hp).avoid hM⟩
theorem Ens.len (h : Ens w M v l) : ∃ A c, v = .slice A l.length c ∧ l.length ≤ c := by
 obtain ⟨ps, rfl, ⟨A, c, rfl, hc, _⟩, _⟩ := h
 exact ⟨A, c, by simp, by simpa using hc⟩
theorem Ds.len (h : Ds w M v ds) : ∃ A c, v = .slice A ds.length c ∧ ds.length ≤ c := by
 obtain ⟨A, c, rfl, hc, _⟩ := h
 exact ⟨A, c, rfl, hc⟩
theorem Ens.nil (w : World) (M : List Nat) : Ens w M (.slice none 0 0) [] := ⟨[], rfl, ⟨none, 0, rfl, Nat.le_refl _, rfl, fun h => absurd h (by simp)⟩, by simp⟩
theorem Ds.nil (w : World) (M : List Nat) : Ds w M (.slice none 0 0) [] := ⟨none, 0, rfl, Nat.le_refl _, rfl, fun h => absurd h (by simp)⟩
/-- The cells of a slice's k-th thing. -/
theorem Rd.at_ {α : Type} (f : α → List Value) (c : Nat) (hf : ∀ x, (f x).length = c) {xs : List α} (h : Rd w M c v xs.length (xs.flatMap f)) {k : Nat} (hk : k < xs.length) :
  ∃ g off cap, v = .slice (some ⟨g, off, none⟩) xs.length cap ∧ xs.length ≤ cap ∧ g < w.heap.size ∧ g ∉ M ∧ ∀ j u, (f xs[k])[j]? = some u → w.cell? ⟨g, off + k * c + j, none⟩ = some u := by
 obtain ⟨A, cap, rfl, hc, hl, hr⟩ := h
 obtain ⟨g, off, rfl, hg, hm, hx⟩ := hr (by omega)
 refine ⟨g, off, cap, rfl, hc, hg, hm, fun j u hu => ?_⟩
 have hj : j < c := by
  rw [← hf xs[k]]
  exact (List.getElem?_eq_some_iff.1 hu).1
 rw [Nat.add_assoc]
 exact hx _ u (by rw [flat_at f c hf xs k j hk hj]; exact hu)
end
/-- The deltas of the entries that a row of the call's own holds lie in blocks that are neither old nor the row's. -/
def DsOwn (w wr : World) (out : Value) (qs : List (EntryD × Value)) : Prop := ∀ q ∈ qs, ∀ M', (∀ g ∈ M', g < w.heap.size ∨ out.ownBlock = some g) → Ds wr M' q.2 q.1.ds
theorem dsOwn_one {w w1 w2 : World} {out v' dv : Value} {o : Obj} {ds : List DeltaD}
  (h : ∀ M', (∀ g ∈ M', g < w.heap.size ∨ out.ownBlock = some g) → Ds w1 M' dv ds)
  (hg : (w1.alloc o).grownBy w2 out.ownBlock) (hat : v'.ownBlock = out.ownBlock ∨ v'.ownBlock = some (w1.heap.size + 1)) (M' : List Nat) (hM : ∀ g ∈ M', g < w.heap.size ∨ v'.ownBlock = some g) : Ds w2 M' dv ds := by
 have h1 := h (out.ownBlock.toList ++ M'.filter (fun g => decide (g < w.heap.size))) (by
  intro g hg
  rcases List.mem_append.1 hg with h1 | h1
  ·right; simpa using h1
  ·left; simpa using (List.mem_filter.1 h1).2)
 have h2 : Ds (w1.alloc o) (out.ownBlock.toList ++ M'.filter (fun g => decide (g < w.heap.size))) dv ds := h1.keep (M' := []) ((Keeps.refl _ _).alloc o) (by simp)
 have h3 : Ds (w1.alloc o) (out.ownBlock.toList ++ M') dv ds := h2.avoid (by
  intro g hg
  rcases List.mem_append.1 hg with h1 | h1
  ·exact .inl (List.mem_append_left _ h1)
  ·rcases hM g h1 with h4 | h4
   ·exact .inl (List.mem_append_right _ (List.mem_filter.2 ⟨h1, by simpa using h4⟩))
   ·rcases hat with h5 | h5
    ·exact .inl (List.mem_append_left _ (by rw [h5] at h4; simpa using h4))
    ·rw [h5] at h4; injection h4 with h4; right; simp; omega)
 have h4 : Keeps out.ownBlock.toList (w1.alloc o) w2 := (Keeps.refl _ _).grown hg (fun g hg => .inl (by simpa using hg))
 exact (h3.keep h4 (fun g hg => .inl (List.mem_append_left _ hg))).avoid (fun g hg => .inl (List.mem_append_right _ hg))
theorem dsOwn_step {w wr w1 w2 : World} {out v' dv' : Value} {o : Obj} {qs : List (EntryD × Value)} {e : EntryD} (hds : DsOwn w wr out qs) (hb1 : Below wr.heap.size wr w1) (hlt : ∀ g, out.ownBlock = some g → g < wr.heap.size) (hw : w.heap.size ≤ wr.heap.size)
  (hnew : ∀ M', (∀ g ∈ M', g < wr.heap.size) → Ds w1 M' dv' e.ds)
  (hg : (w1.alloc o).grownBy w2 out.ownBlock) (hat : v'.ownBlock = out.ownBlock ∨ v'.ownBlock = some (w1.heap.size + 1)) : DsOwn w w2 v' (qs ++ [(e, dv')]) := by
 intro q hq M' hM
 rcases List.mem_append.1 hq with h1 | h1
 ·exact dsOwn_one (fun M'' hM'' => (hds q h1 M'' hM'').keep (M' := []) (Keeps.of_below hb1) (by simp)) hg hat M' hM
 ·simp at h1
  subst h1
  exact dsOwn_one (fun M'' hM'' => hnew M'' (fun g hg => by rcases hM'' g hg with h | h; omega; exact hlt g h)) hg hat M' hM
theorem dsOwn_stepK {Mk : List Nat} {w wr w1 w2 : World} {out v' dv' : Value} {o : Obj} {qs : List (EntryD × Value)} {e : EntryD} (hds : DsOwn w wr out qs) (hk : Keeps Mk wr w1) (hMk : ∀ g ∈ Mk, g < w.heap.size) (hlt : ∀ g, out.ownBlock = some g → g < wr.heap.size) (hw : w.heap.size ≤ wr.heap.size)
  (hnew : ∀ M', (∀ g ∈ M', g < wr.heap.size) → Ds w1 M' dv' e.ds)
  (hg : (w1.alloc o).grownBy w2 out.ownBlock) (hat : v'.ownBlock = out.ownBlock ∨ v'.ownBlock = some (w1.heap.size + 1)) : DsOwn w w2 v' (qs ++ [(e, dv')]) := by
 intro q hq M' hM
 rcases List.mem_append.1 hq with h1 | h1
 ·refine dsOwn_one (fun M'' hM'' => ?_) hg hat M' hM
  exact ((hds q h1 (Mk ++ M'') (by intro g hg; rcases List.mem_append.1 hg with h2 | h2; exact .inl (hMk g h2); exact hM'' g h2)).keep hk (fun _ hg => .inl (List.mem_append_left _ hg))).avoid (fun _ hg => .inl (List.mem_append_right _ hg))
 ·simp at h1
  subst h1
  exact dsOwn_one (fun M'' hM'' => hnew M'' (fun g hg => by rcases hM'' g hg with h | h; omega; exact hlt g h)) hg hat M' hM
theorem below_step {w wr w1 w2 : World} {o : Obj} {row : Option Nat} (h : Below w.heap.size w wr) (hb1 : Below wr.heap.size wr w1) (hg : (w1.alloc o).grownBy w2 row) (hr : ∀ g, row = some g → w.heap.size ≤ g) : Below w.heap.size w w2 :=
 ((h.trans (hb1.mono h.size)).alloc (Nat.le_trans h.size hb1.size) o).grown hg (by have := h.size; have := hb1.size; simp; omega) hr
end Go.Proofs.YtdaceeijifjpeaaGreatDoor.Mem
end
section
namespace Go.Proofs.YtdaceeijifjpeaaGreatDoor.Vi
open Go.RowKit Base Mem
/-- The number at the front, and its bytes; 0, 0: there is none. -/
def getF : Nat → Nat → List UInt8 → Nat × Nat
 | _, _, [] => (0, 0)
 | i, n, c :: r =>
  if 10 ≤ i then (0, 0)
  else if 18446744073709551616 ≤ c.toNat % 128 * 2 ^ (7 * i) then (0, 0)
  else if 128 ≤ c.toNat then getF (i + 1) (n + c.toNat % 128 * 2 ^ (7 * i)) r
  else if c.toNat = 0 ∧ 0 < i then (0, 0) else (n + c.toNat % 128 * 2 ^ (7 * i), i + 1)
theorem and127 : ∀ a : Fin 256, (a.val &&& 18446744073709551487) = a.val % 128 := by decide +kernel
theorem part_eq (c : Nat) (h : c < 256) : bits .andNot .u64 (c : Int) 128 = ((c % 128 : Nat) : Int) := by
 have := u64_andNot_nat c 128 (by omega) (by omega)
 rw [show (18446744073709551615 - 128 : Nat) = 18446744073709551487 from rfl, and127 ⟨c, h⟩] at this
 exact this
theorem or_eq (n p k : Nat) (hn : n < 2 ^ k) (hp : p * 2 ^ k < 18446744073709551616) (hn2 : n < 18446744073709551616) : bits .or .u64 (n : Int) ((p * 2 ^ k : Nat) : Int) = ((n + p * 2 ^ k : Nat) : Int) := by
 rw [u64_or_nat _ _ hn2 hp, Nat.or_comm, nat_join k (p * 2 ^ k) n (Nat.mul_mod_left _ _) hn, Nat.add_comm]
theorem cast_shl (p k : Nat) : (p : Int) * 2 ^ k = ((p * 2 ^ k : Nat) : Int) := by rw [Int.natCast_mul, Int.natCast_pow]; rfl
theorem shl_fit (p k : Nat) (h : p * 2 ^ k < 18446744073709551616) : IntKind.u64.wrap ((p : Int) * 2 ^ k) = ((p * 2 ^ k : Nat) : Int) := by
 rw [IntKind.wrap_u64, cast_shl]
 omega
theorem shr_fit (p k : Nat) : ((p * 2 ^ k : Nat) : Int) / 2 ^ k = (p : Int) := by
 rw [Int.natCast_mul, Int.natCast_pow]
 exact Int.mul_ediv_cancel _ (by exact_mod_cast Nat.ne_of_gt (Nat.two_pow_pos k))
theorem shl_lose (p k : Nat) (h : 18446744073709551616 ≤ p * 2 ^ k) : IntKind.u64.wrap ((p : Int) * 2 ^ k) / 2 ^ k ≠ (p : Int) := by
 intro he
 have hk : (0 : Nat) < 2 ^ k := Nat.two_pow_pos k
 rw [IntKind.wrap_u64, show ((p : Int) * 2 ^ k) = ((p * 2 ^ k : Nat) : Int) by rw [Int.natCast_mul, Int.natCast_pow]; rfl, show (18446744073709551616 : Int) = ((18446744073709551616 : Nat) : Int) from rfl, ← Int.natCast_emod, show ((2 : Int) ^ k) = ((2 ^ k : Nat) : Int) by rw [Int.natCast_pow]; rfl, ← Int.natCast_ediv] at he
 have he' : (p * 2 ^ k % 18446744073709551616) / 2 ^ k = p := by exact_mod_cast he
 have h1 : p * 2 ^ k % 18446744073709551616 < p * 2 ^ k := Nat.lt_of_lt_of_le (Nat.mod_lt _ (by omega)) h
 have h2 : (p * 2 ^ k % 18446744073709551616) / 2 ^ k < p := Nat.div_lt_of_lt_mul (by rw [Nat.mul_comm (2 ^ k) p]; exact h1)
 omega
def getL (l : List UInt8) : Nat × Nat := getF 0 0 l
set_option maxRecDepth 100000 in
theorem get_any (v : Value) (l : List UInt8) (w : World) (h : Bs w [] v l) (hl : l.length ≤ 4611686018427387904) :
  Calls Tryz.prog 185 #[v] w fun e w' => e = .returned (.tuple #[.int .u64 (getL l).1, .int .i64 (getL l).2]) ∧ ∃ q, w' = w.drewN q := by
 have H := Lib.hid h
 obtain ⟨A, c, rfl, hc⟩ := h.len
 clear h
 go_enter Tryz.func185, Tryz.ntmps185
 obtain ⟨m, hm⟩ : ∃ m, m = min l.length 10 := ⟨_, rfl⟩
 have hml : m ≤ l.length := by omega
 have hm10 : m ≤ 10 := by omega
 have Hm := Lib.hid hm
 go_upto_region 2 with (fail)
 go_cut [10, 11] (fun s t wx => s = .int .i64 m ∧ t = .int .i64 0 ∧ wx = w)
 case first =>
  by_cases h10 : l.length ≤ 10
  ·obtain rfl : m = l.length := by omega
   clear hm Hm
   go_wp2_with fail
   all_goals go_meet
   all_goals first | exact ⟨rfl, rfl, rfl⟩ | (exfalso; omega)
  ·obtain rfl : m = 10 := by omega
   clear hm Hm
   go_wp2_with fail
   all_goals go_meet
   all_goals first | exact ⟨rfl, rfl, rfl⟩ | (exfalso; omega)
 case rest =>
 obtain ⟨rfl, rfl, rfl⟩ := hcut
 clear hm
 go_wp2_with fail
 go_slots
 go_loopw [4, 11] (fun nn i wr => ∃ (x n q : Nat), nn = .int .u64 n ∧ i = .int .i64 x ∧ x ≤ m ∧ Hid (n < 2 ^ (7 * x)) ∧ Hid (getL l = getF x n (l.drop x)) ∧ wr = wc.drewN q) (fun _ i _ => m - (intOf i).toNat)
 case atStart => exact ⟨0, 0, 0, rfl, rfl, by omega, (show (0 : Nat) < 2 ^ (7 * 0) by omega), rfl, rfl⟩
 case round =>
  obtain ⟨x, n, q, rfl, rfl, hx, Hn, Hg, rfl⟩ := hrel
  by_cases hlm : x < m
  ·have hlt : x < l.length := by omega
   obtain ⟨g, off, _, e1, _, hg, _, h1⟩ := Rd.at_ (fun b => [bV b]) 1 (fun _ => rfl) (xs := l) (show Rd (wc.drewN q) [] 1 (.slice A l.length c) l.length (l.flatMap fun b => [bV b]) by rw [← List.map_eq_flatMap]; exact H.out) hlt
   obtain rfl : A = some ⟨g, off, none⟩ := by injection e1
   clear e1
   have c0 := h1 0 _ rfl
   clear h1
   rw [Nat.mul_one, Nat.add_zero] at c0
   simp only [bV] at c0
   have hb := UInt8.toNat_lt (l[x])
   have hdrop : l.drop x = l[x] :: l.drop (x + 1) := List.drop_eq_getElem_cons hlt
   have Hst := Lib.hid (show getL l = (if 10 ≤ x then (0, 0)
    else if 18446744073709551616 ≤ l[x].toNat % 128 * 2 ^ (7 * x) then (0, 0)
    else if 128 ≤ l[x].toNat then getF (x + 1) (n + l[x].toNat % 128 * 2 ^ (7 * x)) (l.drop (x + 1))
    else if l[x].toNat = 0 ∧ 0 < x then (0, 0) else (n + l[x].toNat % 128 * 2 ^ (7 * x), x + 1)) by rw [Hg.out, hdrop]; rfl)
   generalize l[x].toNat = cb at *
   have hx1 : (x : Int) < (l.length : Int) := by omega
   have hx2 : (x : Int) < (m : Int) := by omega
   have hcb : (cb : Int) < 256 := by omega
   have hpe := part_eq cb (by omega)
   have hpl : cb % 128 < 128 := Nat.mod_lt _ (by omega)
   generalize cb % 128 = p at *
   have h7 : 7 * x = x * 7 := by omega
   rw [h7] at Hst Hn
   have h64 : (2 : Nat) ^ (x * 7) ≤ 2 ^ 63 := Nat.pow_le_pow_right (by omega) (by omega)
   have hn64 : n < 18446744073709551616 := Nat.lt_of_lt_of_le Hn.out (by omega)
   clear hdrop h7
   by_cases hbig : 18446744073709551616 ≤ p * 2 ^ (x * 7)
   ·have hne := shl_lose p (x * 7) hbig
    have hbne : (IntKind.u64.wrap ((p : Int) * 2 ^ (x * 7)) / 2 ^ (x * 7) != (p : Int)) = true := by simpa using hne
    have hR : Hid (getL l = (0, 0)) := by show _ = _; rw [Hst.out, if_neg (by omega), if_pos hbig]
    clear hne hbig h64
    go_wp2
    go_ret2
    rw [hR.out]
    exact ⟨rfl, q, rfl⟩
   ·have hs1 := shl_fit p (x * 7) (by omega)
    have hs2 := shr_fit p (x * 7)
    have hs3 := or_eq n p (x * 7) Hn.out (by omega) hn64
    have HT : Hid (getL l = (if 128 ≤ cb then getF (x + 1) (n + p * 2 ^ (x * 7)) (l.drop (x + 1)) else if cb = 0 ∧ 0 < x then (0, 0) else (n + p * 2 ^ (x * 7), x + 1))) := by show _ = _; rw [Hst.out, if_neg (by omega), if_neg hbig]
    have Hnn : Hid (n + p * 2 ^ (x * 7) < 2 ^ (7 * (x + 1))) := by
     show _ < _
     rw [show 7 * (x + 1) = x * 7 + 7 by omega, Nat.pow_add]
     have h1 := Hn.out
     have h2 : (p + 1) * 2 ^ (x * 7) ≤ 128 * 2 ^ (x * 7) := Nat.mul_le_mul_right _ (by omega)
     rw [Nat.add_mul] at h2
     have h3 : (2 : Nat) ^ 7 = 128 := rfl
     rw [h3, Nat.mul_comm _ 128]
     omega
    have Hfit := Lib.hid (show p * 2 ^ (x * 7) < 18446744073709551616 by omega)
    generalize hT : p * 2 ^ (x * 7) = T at hs1 hs2 hs3 HT Hnn Hfit
    clear hbig h64 Hst hT
    have hself : ((p : Int) != (p : Int)) = false := by simp
    by_cases hc128 : 128 ≤ cb
    ·have hd : (128 : Int) ≤ (cb : Int) := by omega
     go_wp2
     go_roundw
     case rel => exact ⟨x + 1, n + T, q, rfl, by go_num, by omega, Hnn, by show _ = _; rw [HT.out, if_pos hc128], rfl⟩
     case measure => simp [intOf] <;> omega
    ·have hd : (cb : Int) < 128 := by omega
     by_cases h0 : cb = 0 ∧ 0 < x
     ·obtain ⟨h0, h1⟩ := h0
      have hR : Hid (getL l = (0, 0)) := by show _ = _; rw [HT.out, if_neg hc128, if_pos ⟨h0, h1⟩]
      have hcz : ((cb : Int) == 0) = true := by simp [h0]
      have hx0 : (0 : Int) < (x : Int) := by omega
      clear h0 HT
      go_wp2
      go_ret2
      rw [hR.out]
      exact ⟨rfl, q, rfl⟩
     ·have hR : Hid (getL l = (n + T, x + 1)) := by show _ = _; rw [HT.out, if_neg hc128, if_neg h0]
      by_cases hz : cb = 0
      ·have hcz : ((cb : Int) == 0) = true := by simp [hz]
       have hx0 : decide ((0 : Int) < (x : Int)) = false := decide_eq_false (by omega)
       have hx0' : ¬ 0 < x := by omega
       clear hz h0 HT
       go_wp2
       go_ret2
       rw [hR.out]
       exact ⟨by simp, q, rfl⟩
      ·have hcz : ((cb : Int) == 0) = false := by simp; omega
       go_wp2
       go_ret2
       rw [hR.out]
       exact ⟨by simp, q, rfl⟩
  ·obtain rfl : x = m := by omega
   have hR : Hid (getL l = (0, 0)) := by
    show _ = _
    rw [Hg.out]
    by_cases hl10 : l.length ≤ 10
    ·rw [List.drop_eq_nil_of_le (by have := Hm.out; omega)]; rfl
    ·have hm := Hm.out
     have hlt : x < l.length := by omega
     rw [List.drop_eq_getElem_cons hlt, getF, if_pos (by omega)]
   go_wp2
   go_ret2
   rw [hR.out]
   exact ⟨rfl, q, rfl⟩
theorem pow_room (p k : Nat) (hk : k ≤ 63) (h : p * 2 ^ k < 18446744073709551616) : (p + 1) * 2 ^ k ≤ 18446744073709551616 := by
 have h1 : (18446744073709551616 : Nat) = 2 ^ (64 - k) * 2 ^ k := by rw [← Nat.pow_add, Nat.sub_add_cancel (by omega)]
 rw [h1] at h ⊢
 exact Nat.mul_le_mul_right _ (Nat.lt_of_mul_lt_mul_right h)
theorem getF_le : ∀ (l : List UInt8) (i n : Nat), n < 2 ^ (7 * i) → n < 18446744073709551616 → ((getF i n l).2 = 0 ∧ (getF i n l).1 = 0 ∨ (i < (getF i n l).2 ∧ (getF i n l).2 ≤ i + l.length)) ∧ (getF i n l).1 < 18446744073709551616
 | [], i, n, _, _ => by simp [getF]
 | c :: r, i, n, h1, h2 => by
  rw [getF]
  by_cases h10 : 10 ≤ i
  ·rw [if_pos h10]; simp
  rw [if_neg h10]
  by_cases hb : 18446744073709551616 ≤ c.toNat % 128 * 2 ^ (7 * i)
  ·rw [if_pos hb]; simp
  rw [if_neg hb]
  have hp := pow_room (c.toNat % 128) (7 * i) (by omega) (by omega)
  rw [Nat.add_mul, Nat.one_mul] at hp
  have hn : n + c.toNat % 128 * 2 ^ (7 * i) < 18446744073709551616 := by omega
  have hn2 : n + c.toNat % 128 * 2 ^ (7 * i) < 2 ^ (7 * (i + 1)) := by
   rw [show 7 * (i + 1) = 7 * i + 7 by omega, Nat.pow_add]
   have h3 : (c.toNat % 128 + 1) * 2 ^ (7 * i) ≤ 128 * 2 ^ (7 * i) := Nat.mul_le_mul_right _ (by omega)
   rw [Nat.add_mul] at h3
   have h4 : (2 : Nat) ^ 7 = 128 := rfl
   rw [h4, Nat.mul_comm _ 128]
   omega
  by_cases hc : 128 ≤ c.toNat
  ·rw [if_pos hc]
   obtain ⟨h5, h6⟩ := getF_le r (i + 1) _ hn2 hn
   refine ⟨?_, h6⟩
   rw [List.length_cons]
   omega
  rw [if_neg hc]
  by_cases hz : c.toNat = 0 ∧ 0 < i
  ·rw [if_pos hz]; simp
  ·rw [if_neg hz]
   refine ⟨.inr ⟨by simp, by simp⟩, hn⟩
set_option maxRecDepth 100000 in
theorem getL_le (l : List UInt8) : (getL l).2 ≤ l.length ∧ (getL l).1 < 18446744073709551616 := by
 have := getF_le l 0 0 (by decide) (by decide)
 unfold getL
 omega
/-- The text at the front, and its bytes. -/
def cutL (l : List UInt8) : List UInt8 × Nat :=
 if (getL l).2 = 0 ∨ l.length - (getL l).2 < (getL l).1 then ([], 0) else ((l.drop (getL l).2).take (getL l).1, (getL l).2 + (getL l).1)
set_option maxRecDepth 100000 in
theorem conv_bytes {w : World} {M : List Nat} {A : Option Addr} {l : List UInt8} {c : Nat} (h : Bs w M (.slice A l.length c) l) :
  (convert 73 9 (.slice A l.length c)).run Tryz.prog w = .ok (.string ⟨l.toArray⟩) w := by
 obtain ⟨A', c', he, _, _, hr⟩ := h
 injection he with h1 h2 h3
 subst h1
 by_cases h0 : 0 < l.length
 ·obtain ⟨g, off, rfl, _, _, hx⟩ := hr h0
  have := run_convert_bytes_arg (P := Tryz.prog) w 73 5 Tryz.underlying73 Tryz.underlying5 g off l.length c (l.map fun b => (b.toNat : Int)) (by simp) (fun i hi => by
   rw [hx i (bV l[i]) (by simp [hi])]
   simp [bV, List.getD, hi]) 9 Tryz.underlying9
  rw [this]
  congr 3
  simp only [strOfNums, List.map_map]
  congr 1
  rw [show (fun n : Int => UInt8.ofNat n.toNat) ∘ (fun b : UInt8 => (b.toNat : Int)) = id from by funext b; simp]
  simp
 ·obtain rfl : l = [] := List.length_eq_zero_iff.1 (by omega)
  rw [run_convert_bytes_string w _ _ 5 _ _ c Tryz.underlying73 Tryz.underlying5 Tryz.underlying9]
  cases A <;> simp [Conv.bytesToString, loadCells]
  all_goals rfl
/-- A part of bytes. -/
theorem Bs.part {w : World} {M : List Nat} {g off c : Nat} {l : List UInt8} (h : Bs w M (.slice (some ⟨g, off, none⟩) l.length c) l) (k n : Nat) (hk : k + n ≤ l.length) (c' : Nat) (hc : n ≤ c') (a : Option Addr) (ha : 0 < n → a = some ⟨g, off + k, none⟩) :
  Bs w M (.slice a ((l.drop k).take n).length c') ((l.drop k).take n) := by
 obtain ⟨A', c'', he, _, _, hr⟩ := h
 injection he with h1 h2 h3
 subst h1
 have hlen : ((l.drop k).take n).length = n := by rw [List.length_take, List.length_drop]; omega
 refine ⟨a, c', rfl, by omega, by simp, fun hn => ?_⟩
 obtain ⟨g', off', e, hg, hm, hx⟩ := hr (by omega)
 injection e with e
 injection e with e1 e2 _
 subst e1 e2
 refine ⟨g, off + k, ha (by omega), hg, hm, fun j u hu => ?_⟩
 have hj : j < n := by have := (List.getElem?_eq_some_iff.1 hu).1; rw [List.length_map, hlen] at this; exact this
 rw [Nat.add_assoc]
 refine hx (k + j) u ?_
 rw [List.getElem?_map] at hu ⊢
 rw [List.getElem?_take_of_lt hj, List.getElem?_drop] at hu
 exact hu
set_option maxRecDepth 100000 in
theorem cut_any (v : Value) (l : List UInt8) (w : World) (h : Bs w [] v l) (hl : l.length ≤ 4611686018427387904) :
  Calls Tryz.prog 189 #[v] w fun e w' => e = .returned (.tuple #[.string ⟨(cutL l).1.toArray⟩, .int .i64 (cutL l).2]) ∧ ∃ q, w' = w.drewN q := by
 have hg := Lib.hid (get_any v l w h hl)
 obtain ⟨A, c, rfl, hc⟩ := h.len
 have H := Lib.hid h
 obtain ⟨hk, hn⟩ := getL_le l
 have HC := Lib.hid (show cutL l = (if (getL l).2 = 0 ∨ l.length - (getL l).2 < (getL l).1 then ([], 0) else ((l.drop (getL l).2).take (getL l).1, (getL l).2 + (getL l).1)) from rfl)
 clear h
 generalize (getL l).1 = n at *
 generalize (getL l).2 = k at *
 go_enter Tryz.func189, Tryz.ntmps189
 go_wp2_with fail
 refine hg.out.mono ?_
 rintro e w1 ⟨rfl, q, rfl⟩
 by_cases hk0 : k = 0
 ·have hR : Hid (cutL l = ([], 0)) := by show _ = _; rw [HC.out, if_pos (.inl hk0)]
  subst hk0
  clear hg HC
  go_wp2
  go_ret2
  rw [hR.out]
  exact ⟨rfl, q, rfl⟩
 ·have hkz : ((k : Int) == 0) = false := by simpa using hk0
  by_cases hgt : l.length - k < n
  ·have hR : Hid (cutL l = ([], 0)) := by show _ = _; rw [HC.out, if_pos (.inr hgt)]
   have hgi : (l.length : Int) - (k : Int) < (n : Int) := by omega
   have hgj : (0 : Int) ≤ (l.length : Int) - (k : Int) := by omega
   clear hg HC
   go_wp2
   go_ret2
   rw [hR.out]
   exact ⟨rfl, q, rfl⟩
  ·have hR : Hid (cutL l = ((l.drop k).take n, k + n)) := by show _ = _; rw [HC.out, if_neg (by omega)]
   have hgi : decide ((l.length : Int) - (k : Int) < (n : Int)) = false := decide_eq_false (by omega)
   have hgj : (0 : Int) ≤ (l.length : Int) - (k : Int) := by omega
   have hkn : (k : Int) + (n : Int) ≤ (l.length : Int) := by omega
   clear hg HC
   have hl0 : 0 < l.length := by omega
   obtain ⟨g, off, rfl⟩ : ∃ g off, A = some ⟨g, off, none⟩ := by
    obtain ⟨A', c', he, _, _, hr⟩ := H.out
    injection he with h1 h2 h3
    subst h1
    obtain ⟨g, off, e, _⟩ := hr hl0
    exact ⟨g, off, e⟩
   by_cases hck : c = k
   ·obtain rfl : n = 0 := by omega
    have hp : Bs (w.drewN q) [] (.slice (some ⟨g, off, none⟩) ([] : List UInt8).length 0) [] := ⟨_, 0, rfl, Nat.le_refl _, rfl, fun h => absurd h (by simp)⟩
    have hcv := conv_bytes hp
    rw [List.length_nil] at hcv
    rw [List.take_zero] at hR
    clear hp
    go_wp2
    go_ret2
    rw [hR.out]
    exact ⟨by simp, q, rfl⟩
   ·have hp := (H.out.keep (M' := []) ((Keeps.refl [] w).drewN q) (by simp)).part k n (by omega) (c - k) (by omega) (some ⟨g, off + k, none⟩) (fun _ => rfl)
    have hlen : ((l.drop k).take n).length = n := by rw [List.length_take, List.length_drop]; omega
    have hcv := conv_bytes hp
    rw [hlen] at hcv
    clear hp hlen
    go_wp2
    go_ret2
    rw [hR.out]
    exact ⟨by simp, q, rfl⟩
/-- A reader lies in block p: what is left, and whether something was not there. -/
def RdAt (w : World) (M : List Nat) (p : Nat) (l : List UInt8) (bad : Bool) : Prop := l.length ≤ 4611686018427387904 ∧ ∃ v, Blk w p 200 #[v, .bool bad] ∧ Bs w (p :: M) v l
theorem RdAt.lt {w : World} {M : List Nat} {p : Nat} {l : List UInt8} {bad : Bool} (h : RdAt w M p l bad) : p < w.heap.size := by obtain ⟨_, _, h, _⟩ := h; exact h.lt
theorem RdAt.keep {w w' : World} {M M' : List Nat} {p : Nat} {l : List UInt8} {bad : Bool} (h : RdAt w M p l bad) (k : Keeps M' w w') (hM : ∀ g ∈ M', g ∈ M ∨ w.heap.size ≤ g) (hp : p ∉ M') : RdAt w' M p l bad := by
 obtain ⟨hl, v, hb, hs⟩ := h
 exact ⟨hl, v, k.blk hb hp, hs.keep k (fun g hg => (hM g hg).imp (fun h => List.mem_cons_of_mem _ h) id)⟩
theorem RdAt.avoid {w : World} {M M' : List Nat} {p : Nat} {l : List UInt8} {bad : Bool} (h : RdAt w M p l bad) (hM : ∀ g ∈ M', g ∈ M ∨ w.heap.size ≤ g) : RdAt w M' p l bad := by
 obtain ⟨hl, v, hb, hs⟩ := h
 exact ⟨hl, v, hb, hs.avoid (fun g hg => by
  rcases List.mem_cons.1 hg with rfl | hg
  ·exact .inl (by simp)
  ·exact (hM g hg).imp (fun h => List.mem_cons_of_mem _ h) id)⟩
theorem RdAt.setBad {w : World} {M : List Nat} {p : Nat} {l : List UInt8} {bad : Bool} (h : RdAt w M p l bad) : RdAt (w.setCell ⟨p, 1, none⟩ (.bool true)) M p l true := by
 obtain ⟨hl, v, hb, hs⟩ := h
 exact ⟨hl, v, by simpa using hb.set_ 1 (.bool true), hs.keep (M' := [p]) ((Keeps.refl _ _).setCell (by simp) _) (fun g hg => .inl (by simp at hg; simp [hg]))⟩
theorem RdAt.setB {w : World} {M : List Nat} {p : Nat} {l l' : List UInt8} {bad : Bool} {v' : Value} (h : RdAt w M p l bad) (hl : l'.length ≤ l.length) (hv : Bs w (p :: M) v' l') : RdAt (w.setCell ⟨p, 0, none⟩ v') M p l' bad := by
 obtain ⟨hl0, v, hb, hs⟩ := h
 exact ⟨by omega, v', by simpa using hb.set_ 0 v', hv.keep (M' := [p]) ((Keeps.refl _ _).setCell (by simp) _) (fun g hg => .inl (by simp at hg; simp [hg]))⟩
/-- What is left behind k bytes. -/
theorem Bs.behind {w : World} {M : List Nat} {g off c : Nat} {l : List UInt8} (h : Bs w M (.slice (some ⟨g, off, none⟩) l.length c) l) (k : Nat) (hk : k ≤ l.length) (hc : l.length ≤ c) :
  Bs w M (.slice (some ⟨g, off + k, none⟩) (l.length - k) (c - k)) (l.drop k) := by
 have h1 := h.part k (l.length - k) (by omega) (c - k) (by omega) (some ⟨g, off + k, none⟩) (fun _ => rfl)
 have h2 : (l.drop k).take (l.length - k) = l.drop k := List.take_of_length_le (by rw [List.length_drop]; exact Nat.le_refl _)
 rw [h2, List.length_drop] at h1
 exact h1
theorem Bs.some_ {w : World} {M : List Nat} {A : Option Addr} {l : List UInt8} {c : Nat} (h : Bs w M (.slice A l.length c) l) (h0 : 0 < l.length) : ∃ g off, A = some ⟨g, off, none⟩ := by
 obtain ⟨A', c', he, _, _, hr⟩ := h
 injection he with h1 h2 h3
 subst h1
 obtain ⟨g, off, e, _⟩ := hr h0
 exact ⟨g, off, e⟩
theorem new_any (M : List Nat) (v : Value) (l : List UInt8) (w : World) (h : Bs w M v l) (hl : l.length ≤ 4611686018427387904) :
  Calls Tryz.prog 106 #[v] w fun e w' => e = .returned (.pointer (some ⟨w.heap.size, 0, none⟩)) ∧ RdAt w' M w.heap.size l false ∧ Below w.heap.size w w' := by
 have hR : Hid (RdAt (w.alloc (.cells #[v, .bool false] 200)) M w.heap.size l false) :=
  ⟨hl, v, Blk.new w _ _, (h.avoid (M' := w.heap.size :: M) (fun g hg => by rcases List.mem_cons.1 hg with rfl | hg; exact .inr (Nat.le_refl _); exact .inl hg)).keep (M' := []) ((Keeps.refl _ _).alloc _) (by simp)⟩
 obtain ⟨A, c, rfl, hc⟩ := h.len
 clear h
 go_enter Tryz.func106, Tryz.ntmps106
 go_wp2
 go_ret
 exact ⟨rfl, hR.out, (Below.refl _ _).alloc (Nat.le_refl _) _⟩
theorem done_any (M : List Nat) (p : Nat) (l : List UInt8) (bad : Bool) (w : World) (h : RdAt w M p l bad) :
  Calls Tryz.prog 109 #[.pointer (some ⟨p, 0, none⟩)] w fun e w' => e = .returned (.bool (!bad && l.isEmpty)) ∧ w = w' := by
 obtain ⟨hl, v, hb, hs⟩ := h
 obtain ⟨A, c, rfl, hc⟩ := hs.len
 have c0 : w.cell? ⟨p, 0, none⟩ = some (.slice A l.length c) := hb.cell 0
 have c1 : w.cell? ⟨p, 1, none⟩ = some (.bool bad) := hb.cell 1
 clear hb hs
 cases bad with
 | true =>
  go_enter Tryz.func109, Tryz.ntmps109
  go_wp2
  go_ret
  exact ⟨rfl, rfl⟩
 | false =>
  have hR : Hid (l.isEmpty = ((l.length : Int) == 0)) := by show _ = _; cases l <;> simp <;> omega
  go_enter Tryz.func109, Tryz.ntmps109
  go_wp2
  go_ret
  rw [hR.out]
  exact ⟨rfl, rfl⟩
/-- What a call of a reader answers: a value, and how the reader stands. -/
def RdPost (M : List Nat) (p : Nat) (v : Value) (l : List UInt8) (bad : Bool) (w : World) (e : Ending) (w' : World) : Prop := e = .returned v ∧ RdAt w' M p l bad ∧ Keeps [p] w w'
def numS (l : List UInt8) (bad : Bool) : Nat × List UInt8 × Bool := if bad = true ∨ (getL l).2 = 0 then (0, l, true) else ((getL l).1, l.drop (getL l).2, false)
set_option maxRecDepth 100000 in
set_option maxHeartbeats 600000 in
theorem number_any (M : List Nat) (p : Nat) (l : List UInt8) (bad : Bool) (w : World) (h : RdAt w M p l bad) :
  Calls Tryz.prog 133 #[.pointer (some ⟨p, 0, none⟩)] w fun e w' => RdPost M p (.int .u64 (numS l bad).1) (numS l bad).2.1 (numS l bad).2.2 w e w' := by
 obtain ⟨hl, v, hb, hs⟩ := id h
 obtain ⟨A, c, rfl, hc⟩ := hs.len
 have hg := Lib.hid (get_any _ l w (hs.avoid (M' := []) (by simp)) hl)
 have hr : Hid (∀ q, RdPost M p (.int .u64 0) l true w (.returned (.int .u64 0)) ((w.drewN q).setCell ⟨p, 1, none⟩ (.bool true))) := fun q =>
  ⟨rfl, (h.keep (M' := []) ((Keeps.refl _ _).drewN q) (by simp) (by simp)).setBad, ((Keeps.refl _ _).drewN q).setCell (by simp) _⟩
 have hr2 : Hid (∀ q v' l', bad = false → l'.length ≤ l.length → Bs w (p :: M) v' l' → ∀ n, RdPost M p (.int .u64 n) l' false w (.returned (.int .u64 n)) ((w.drewN q).setCell ⟨p, 0, none⟩ v')) := fun q v' l' hb0 hll hv n => by
  subst hb0
  exact ⟨rfl, (h.keep (M' := []) ((Keeps.refl _ _).drewN q) (by simp) (by simp)).setB hll (hv.keep (M' := []) ((Keeps.refl _ _).drewN q) (by simp)), ((Keeps.refl _ _).drewN q).setCell (by simp) _⟩
 have HN : Hid (numS l bad = if bad = true ∨ (getL l).2 = 0 then (0, l, true) else ((getL l).1, l.drop (getL l).2, false)) := rfl
 have hk := (getL_le l).1
 have Hs := Lib.hid hs
 have c0 : w.cell? ⟨p, 0, none⟩ = some (.slice A l.length c) := hb.cell 0
 have c1 : w.cell? ⟨p, 1, none⟩ = some (.bool bad) := hb.cell 1
 have f0 : w.frozen? ⟨p, 0, none⟩ = false := hb.frozen 0
 have f1 : w.frozen? ⟨p, 1, none⟩ = false := hb.frozen 1
 clear h hb hs
 generalize (getL l).1 = n at *
 generalize (getL l).2 = k at *
 cases bad with
 | true =>
  have hR : Hid (numS l true = (0, l, true)) := by show _ = _; rw [HN.out]; simp
  rw [hR.out]
  clear HN hr2
  go_enter Tryz.func133, Tryz.ntmps133
  go_wp2_with fail
  refine hg.out.mono ?_
  rintro e w1 ⟨rfl, q, rfl⟩
  go_wp2
  go_ret
  exact hr.out q
 | false =>
  by_cases hk0 : k = 0
  ·have hR : Hid (numS l false = (0, l, true)) := by show _ = _; rw [HN.out, if_pos (.inr hk0)]
   rw [hR.out]
   subst hk0
   clear HN hr2
   go_enter Tryz.func133, Tryz.ntmps133
   go_wp2_with fail
   refine hg.out.mono ?_
   rintro e w1 ⟨rfl, q, rfl⟩
   go_wp2
   go_ret
   exact hr.out q
  ·have hR : Hid (numS l false = (n, l.drop k, false)) := by show _ = _; rw [HN.out, if_neg (by simp [hk0])]
   rw [hR.out]
   have hkz : ((k : Int) == 0) = false := by simpa using hk0
   have hki : (k : Int) ≤ (l.length : Int) := by omega
   obtain ⟨g, off, rfl⟩ := Hs.out.some_ (by omega)
   clear HN hr
   by_cases hck : c = k
   ·have hd : Hid (l.drop k = []) := List.drop_eq_nil_of_le (by omega)
    have hp : Hid (∀ q, RdPost M p (.int .u64 n) (l.drop k) false w (.returned (.int .u64 n)) ((w.drewN q).setCell ⟨p, 0, none⟩ (.slice (some ⟨g, off, none⟩) 0 0))) := fun q => by
     rw [hd.out]
     exact hr2.out q _ [] rfl (by simp) ⟨_, 0, rfl, Nat.le_refl _, rfl, fun h => absurd h (by simp)⟩ n
    have hkl : l.length = k := by omega
    subst hck
    rw [hkl] at c0
    have hg2 := Lib.hid (show Calls Tryz.prog 185 #[.slice (some ⟨g, off, none⟩) c c] w fun e w' => e = .returned (.tuple #[.int .u64 n, .int .i64 c]) ∧ ∃ q, w' = w.drewN q by have := hg.out; rwa [hkl] at this)
    clear hg hr2 hki hk hc hd hkl Hs
    go_enter Tryz.func133, Tryz.ntmps133
    go_wp2_with fail
    refine hg2.out.mono ?_
    rintro e w1 ⟨rfl, q, rfl⟩
    go_wp2
    go_ret
    exact hp.out q
   ·have hp : Hid (∀ q, RdPost M p (.int .u64 n) (l.drop k) false w (.returned (.int .u64 n)) ((w.drewN q).setCell ⟨p, 0, none⟩ (.slice (some ⟨g, off + k, none⟩) (l.length - k) (c - k)))) := fun q =>
     hr2.out q _ (l.drop k) rfl (by rw [List.length_drop]; omega) (by have := Hs.out.behind k hk hc; rwa [← List.length_drop] at this ⊢) n
    go_enter Tryz.func133, Tryz.ntmps133
    go_wp2_with fail
    refine hg.out.mono ?_
    rintro e w1 ⟨rfl, q, rfl⟩
    go_wp2
    go_ret
    exact hp.out q
theorem cutL_le (l : List UInt8) : (cutL l).2 ≤ l.length := by
 have := (getL_le l).1
 unfold cutL
 split
 ·simp
 ·simp only; omega
def textS (l : List UInt8) (bad : Bool) : List UInt8 × List UInt8 × Bool := if bad = true ∨ (cutL l).2 = 0 then ([], l, true) else ((cutL l).1, l.drop (cutL l).2, false)
set_option maxRecDepth 100000 in
set_option maxHeartbeats 600000 in
theorem rtext_any (M : List Nat) (p : Nat) (l : List UInt8) (bad : Bool) (w : World) (h : RdAt w M p l bad) :
  Calls Tryz.prog 136 #[.pointer (some ⟨p, 0, none⟩)] w fun e w' => RdPost M p (.string ⟨(textS l bad).1.toArray⟩) (textS l bad).2.1 (textS l bad).2.2 w e w' := by
 obtain ⟨hl, v, hb, hs⟩ := id h
 obtain ⟨A, c, rfl, hc⟩ := hs.len
 have hg := Lib.hid (cut_any _ l w (hs.avoid (M' := []) (by simp)) hl)
 have hr : Hid (∀ q, RdPost M p (.string ⟨#[]⟩) l true w (.returned (.string ⟨#[]⟩)) ((w.drewN q).setCell ⟨p, 1, none⟩ (.bool true))) := fun q =>
  ⟨rfl, (h.keep (M' := []) ((Keeps.refl _ _).drewN q) (by simp) (by simp)).setBad, ((Keeps.refl _ _).drewN q).setCell (by simp) _⟩
 have hr2 : Hid (∀ q v' l', bad = false → l'.length ≤ l.length → Bs w (p :: M) v' l' → ∀ n : List UInt8, RdPost M p (.string ⟨n.toArray⟩) l' false w (.returned (.string ⟨n.toArray⟩)) ((w.drewN q).setCell ⟨p, 0, none⟩ v')) := fun q v' l' hb0 hll hv n => by
  subst hb0
  exact ⟨rfl, (h.keep (M' := []) ((Keeps.refl _ _).drewN q) (by simp) (by simp)).setB hll (hv.keep (M' := []) ((Keeps.refl _ _).drewN q) (by simp)), ((Keeps.refl _ _).drewN q).setCell (by simp) _⟩
 have HN : Hid (textS l bad = if bad = true ∨ (cutL l).2 = 0 then ([], l, true) else ((cutL l).1, l.drop (cutL l).2, false)) := rfl
 have hk := cutL_le l
 have Hs := Lib.hid hs
 have c0 : w.cell? ⟨p, 0, none⟩ = some (.slice A l.length c) := hb.cell 0
 have c1 : w.cell? ⟨p, 1, none⟩ = some (.bool bad) := hb.cell 1
 have f0 : w.frozen? ⟨p, 0, none⟩ = false := hb.frozen 0
 have f1 : w.frozen? ⟨p, 1, none⟩ = false := hb.frozen 1
 clear h hb hs
 generalize (cutL l).1 = n at *
 generalize (cutL l).2 = k at *
 cases bad with
 | true =>
  have hR : Hid (textS l true = ([], l, true)) := by show _ = _; rw [HN.out]; simp
  rw [hR.out]
  clear HN hr2
  go_enter Tryz.func136, Tryz.ntmps136
  go_wp2_with fail
  refine hg.out.mono ?_
  rintro e w1 ⟨rfl, q, rfl⟩
  go_wp2
  go_ret
  exact hr.out q
 | false =>
  by_cases hk0 : k = 0
  ·have hR : Hid (textS l false = ([], l, true)) := by show _ = _; rw [HN.out, if_pos (.inr hk0)]
   rw [hR.out]
   subst hk0
   clear HN hr2
   go_enter Tryz.func136, Tryz.ntmps136
   go_wp2_with fail
   refine hg.out.mono ?_
   rintro e w1 ⟨rfl, q, rfl⟩
   go_wp2
   go_ret
   exact hr.out q
  ·have hR : Hid (textS l false = (n, l.drop k, false)) := by show _ = _; rw [HN.out, if_neg (by simp [hk0])]
   rw [hR.out]
   have hkz : ((k : Int) == 0) = false := by simpa using hk0
   have hki : (k : Int) ≤ (l.length : Int) := by omega
   obtain ⟨g, off, rfl⟩ := Hs.out.some_ (by omega)
   clear HN hr
   by_cases hck : c = k
   ·have hd : Hid (l.drop k = []) := List.drop_eq_nil_of_le (by omega)
    have hp : Hid (∀ q, RdPost M p (.string ⟨n.toArray⟩) (l.drop k) false w (.returned (.string ⟨n.toArray⟩)) ((w.drewN q).setCell ⟨p, 0, none⟩ (.slice (some ⟨g, off, none⟩) 0 0))) := fun q => by
     rw [hd.out]
     exact hr2.out q _ [] rfl (by simp) ⟨_, 0, rfl, Nat.le_refl _, rfl, fun h => absurd h (by simp)⟩ n
    have hkl : l.length = k := by omega
    subst hck
    rw [hkl] at c0
    have hg2 := Lib.hid (show Calls Tryz.prog 189 #[.slice (some ⟨g, off, none⟩) c c] w fun e w' => e = .returned (.tuple #[.string ⟨n.toArray⟩, .int .i64 c]) ∧ ∃ q, w' = w.drewN q by have := hg.out; rwa [hkl] at this)
    clear hg hr2 hki hk hc hd hkl Hs
    go_enter Tryz.func136, Tryz.ntmps136
    go_wp2_with fail
    refine hg2.out.mono ?_
    rintro e w1 ⟨rfl, q, rfl⟩
    go_wp2
    go_ret
    exact hp.out q
   ·have hp : Hid (∀ q, RdPost M p (.string ⟨n.toArray⟩) (l.drop k) false w (.returned (.string ⟨n.toArray⟩)) ((w.drewN q).setCell ⟨p, 0, none⟩ (.slice (some ⟨g, off + k, none⟩) (l.length - k) (c - k)))) := fun q =>
     hr2.out q _ (l.drop k) rfl (by rw [List.length_drop]; omega) (by have := Hs.out.behind k hk hc; rwa [← List.length_drop] at this ⊢) n
    go_enter Tryz.func136, Tryz.ntmps136
    go_wp2_with fail
    refine hg.out.mono ?_
    rintro e w1 ⟨rfl, q, rfl⟩
    go_wp2
    go_ret
    exact hp.out q
def byteS (l : List UInt8) (bad : Bool) : UInt8 × List UInt8 × Bool := if bad = true then (0, l, true) else match l with | [] => (0, [], true) | c :: r => (c, r, false)
set_option maxRecDepth 100000 in
set_option maxHeartbeats 600000 in
theorem byte_any (M : List Nat) (p : Nat) (l : List UInt8) (bad : Bool) (w : World) (h : RdAt w M p l bad) :
  Calls Tryz.prog 187 #[.pointer (some ⟨p, 0, none⟩)] w fun e w' => RdPost M p (bV (byteS l bad).1) (byteS l bad).2.1 (byteS l bad).2.2 w e w' := by
 obtain ⟨hl, v, hb, hs⟩ := id h
 obtain ⟨A, c, rfl, hc⟩ := hs.len
 have hr : Hid (RdPost M p (bV 0) l true w (.returned (.int .u8 0)) (w.setCell ⟨p, 1, none⟩ (.bool true))) :=
  ⟨rfl, h.setBad, (Keeps.refl _ _).setCell (by simp) _⟩
 have hr2 : Hid (∀ v' l', bad = false → l'.length ≤ l.length → Bs w (p :: M) v' l' → ∀ x, RdPost M p (bV x) l' false w (.returned (bV x)) (w.setCell ⟨p, 0, none⟩ v')) := fun v' l' hb0 hll hv x => by
  subst hb0
  exact ⟨rfl, h.setB hll hv, (Keeps.refl _ _).setCell (by simp) _⟩
 have Hs := Lib.hid hs
 have c0 : w.cell? ⟨p, 0, none⟩ = some (.slice A l.length c) := hb.cell 0
 have c1 : w.cell? ⟨p, 1, none⟩ = some (.bool bad) := hb.cell 1
 have f0 : w.frozen? ⟨p, 0, none⟩ = false := hb.frozen 0
 have f1 : w.frozen? ⟨p, 1, none⟩ = false := hb.frozen 1
 clear h hb hs
 cases bad with
 | true =>
  clear hr2
  show Calls _ _ _ _ fun e w' => RdPost M p (bV 0) l true w e w'
  go_enter Tryz.func187, Tryz.ntmps187
  go_wp2
  go_ret
  exact hr.out
 | false =>
  cases l with
  | nil =>
   clear hr2
   show Calls _ _ _ _ fun e w' => RdPost M p (bV 0) [] true w e w'
   rw [List.length_nil] at c0
   go_enter Tryz.func187, Tryz.ntmps187
   go_wp2
   go_ret
   exact hr.out
  | cons x r =>
   show Calls _ _ _ _ fun e w' => RdPost M p (bV x) r false w e w'
   obtain ⟨g, off, rfl⟩ := Hs.out.some_ (by simp)
   have hx : w.cell? ⟨g, off, none⟩ = some (.int .u8 x.toNat) := by
    obtain ⟨A', c', he, _, _, hr⟩ := Hs.out
    injection he with h1 h2 h3
    subst h1
    obtain ⟨g', off', e, _, _, hx⟩ := hr (by simp)
    injection e with e
    injection e with e1 e2 _
    subst e1 e2
    exact hx 0 _ rfl
   obtain ⟨n, hn⟩ : ∃ n, n = r.length := ⟨_, rfl⟩
   have hln : (x :: r).length = n + 1 := by rw [hn]; rfl
   rw [hln] at c0 hc
   have hbe := Lib.hid (Hs.out.behind 1 (by simp) (by rw [hln]; exact hc))
   have hnz : (((n + 1 : Nat) : Int) == 0) = false := by simp; omega
   clear hr
   by_cases hck : c = 1
   ·subst hck
    obtain rfl : n = 0 := by omega
    obtain rfl : r = [] := List.length_eq_zero_iff.1 hn.symm
    have hp := Lib.hid (hr2.out (.slice (some ⟨g, off, none⟩) 0 0) [] rfl (by simp) ⟨_, 0, rfl, Nat.le_refl _, rfl, fun h => absurd h (by simp)⟩ x)
    unfold bV at hp
    clear hr2 hbe Hs hln hn
    go_enter Tryz.func187, Tryz.ntmps187
    go_wp2
    go_ret
    exact hp.out
   ·have hp : Hid (RdPost M p (bV x) r false w (.returned (.int .u8 x.toNat)) (w.setCell ⟨p, 0, none⟩ (.slice (some ⟨g, off + 1, none⟩) n (c - 1)))) :=
     hr2.out _ r rfl (by simp) (by have := hbe.out; rw [hln, Nat.add_sub_cancel, hn] at this; rw [hn]; exact this) x
    have h1c : (1 : Int) ≤ ((n + 1 : Nat) : Int) := by omega
    have h2c : ((n + 1 : Nat) : Int) ≤ (c : Int) := by omega
    clear hr2 hbe Hs hln hn
    go_enter Tryz.func187, Tryz.ntmps187
    go_wp2
    go_ret
    exact hp.out
def intS (l : List UInt8) (bad : Bool) : Nat × List UInt8 × Bool := if 9223372036854775807 < (numS l bad).1 then (0, (numS l bad).2.1, true) else numS l bad
theorem numS_lt (l : List UInt8) (bad : Bool) : (numS l bad).1 < 18446744073709551616 := by
 have := (getL_le l).2
 unfold numS
 split
 ·simp
 ·simpa using this
theorem rint_any (M : List Nat) (p : Nat) (l : List UInt8) (bad : Bool) (w : World) (h : RdAt w M p l bad) :
  Calls Tryz.prog 107 #[.pointer (some ⟨p, 0, none⟩)] w fun e w' => RdPost M p (.int .i64 (intS l bad).1) (intS l bad).2.1 (intS l bad).2.2 w e w' := by
 have hN := Lib.hid (number_any M p l bad w h)
 have hlt := numS_lt l bad
 have HI : Hid (intS l bad = if 9223372036854775807 < (numS l bad).1 then (0, (numS l bad).2.1, true) else numS l bad) := rfl
 generalize numS l bad = r at *
 obtain ⟨n, l', b'⟩ := r
 simp only at hN hlt HI
 clear h
 by_cases hbig : 9223372036854775807 < n
 ·have hR : Hid (intS l bad = (0, l', true)) := by show _ = _; rw [HI.out, if_pos hbig]
  rw [hR.out]
  have hbi : (9223372036854775807 : Int) < (n : Int) := by omega
  go_enter Tryz.func107, Tryz.ntmps107
  go_wp2_with fail
  refine hN.out.mono ?_
  rintro e w1 ⟨rfl, hA, hk⟩
  have hp : Hid (RdPost M p (.int .i64 0) l' true w (.returned (.int .i64 0)) (w1.setCell ⟨p, 1, none⟩ (.bool true))) := ⟨rfl, hA.setBad, hk.setCell (by simp) _⟩
  obtain ⟨_, v, hb, _⟩ := hA
  have c1 := hb.cell 1
  have f1 : w1.frozen? ⟨p, 1, none⟩ = false := hb.frozen 1
  simp only [List.getElem?_toArray, List.getElem?_cons_succ, List.getElem?_cons_zero] at c1
  clear hb hk
  go_wp2
  go_ret
  exact hp.out
 ·have hR : Hid (intS l bad = (n, l', b')) := by show _ = _; rw [HI.out, if_neg hbig]
  rw [hR.out]
  have hbi : decide ((9223372036854775807 : Int) < (n : Int)) = false := decide_eq_false (by omega)
  go_enter Tryz.func107, Tryz.ntmps107
  go_wp2_with fail
  refine hN.out.mono ?_
  rintro e w1 ⟨rfl, hA, hk⟩
  have hp : Hid (RdPost M p (.int .i64 n) l' b' w (.returned (.int .i64 n)) w1) := ⟨rfl, hA, hk⟩
  clear hA hk
  go_wp2
  go_ret
  exact hp.out
def countS (l : List UInt8) (bad : Bool) (most : Nat) : Nat × List UInt8 × Bool := if most < (intS l bad).1 then (0, (intS l bad).2.1, true) else intS l bad
theorem intS_lt (l : List UInt8) (bad : Bool) : (intS l bad).1 ≤ 9223372036854775807 := by
 unfold intS
 split
 ·simp
 ·omega
theorem count_any (M : List Nat) (p : Nat) (l : List UInt8) (bad : Bool) (most : Nat) (hm : most ≤ 1000000) (w : World) (h : RdAt w M p l bad) :
  Calls Tryz.prog 134 #[.pointer (some ⟨p, 0, none⟩), .int .i64 most] w fun e w' => RdPost M p (.int .i64 (countS l bad most).1) (countS l bad most).2.1 (countS l bad most).2.2 w e w' := by
 have hN := Lib.hid (rint_any M p l bad w h)
 have hlt := intS_lt l bad
 have HI : Hid (countS l bad most = if most < (intS l bad).1 then (0, (intS l bad).2.1, true) else intS l bad) := rfl
 generalize intS l bad = r at *
 obtain ⟨n, l', b'⟩ := r
 simp only at hN hlt HI
 clear h
 by_cases hbig : most < n
 ·have hR : Hid (countS l bad most = (0, l', true)) := by show _ = _; rw [HI.out, if_pos hbig]
  rw [hR.out]
  have hbi : (most : Int) < (n : Int) := by omega
  go_enter Tryz.func134, Tryz.ntmps134
  go_wp2_with fail
  refine hN.out.mono ?_
  rintro e w1 ⟨rfl, hA, hk⟩
  have hp : Hid (RdPost M p (.int .i64 0) l' true w (.returned (.int .i64 0)) (w1.setCell ⟨p, 1, none⟩ (.bool true))) := ⟨rfl, hA.setBad, hk.setCell (by simp) _⟩
  obtain ⟨_, v, hb, _⟩ := hA
  have c1 := hb.cell 1
  have f1 : w1.frozen? ⟨p, 1, none⟩ = false := hb.frozen 1
  simp only [List.getElem?_toArray, List.getElem?_cons_succ, List.getElem?_cons_zero] at c1
  clear hb hk
  go_wp2
  go_ret
  exact hp.out
 ·have hR : Hid (countS l bad most = (n, l', b')) := by show _ = _; rw [HI.out, if_neg hbig]
  rw [hR.out]
  have hbi : decide ((most : Int) < (n : Int)) = false := decide_eq_false (by omega)
  go_enter Tryz.func134, Tryz.ntmps134
  go_wp2_with fail
  refine hN.out.mono ?_
  rintro e w1 ⟨rfl, hA, hk⟩
  have hp : Hid (RdPost M p (.int .i64 n) l' b' w (.returned (.int .i64 n)) w1) := ⟨rfl, hA, hk⟩
  clear hA hk
  go_wp2
  go_ret
  exact hp.out
def charOk (c : UInt8) : Bool := (97 ≤ c.toNat && c.toNat ≤ 122) || (48 ≤ c.toNat && c.toNat ≤ 57) || c.toNat == 95
def nameOk (s : ByteArray) : Bool := decide (1 ≤ s.size) && decide (s.size ≤ 32) && (sB s).all charOk
theorem sB_len (s : ByteArray) : (sB s).length = s.size := rfl
set_option maxRecDepth 100000 in
set_option maxHeartbeats 1000000 in
theorem name_any (s : ByteArray) (w : World) : Calls Tryz.prog 241 #[.string s] w fun e w' => e = .returned (.bool (nameOk s)) ∧ w = w' := by
  have Hn : Hid (nameOk s = (decide (1 ≤ s.size) && decide (s.size ≤ 32) && (sB s).all charOk)) := rfl
  have hs0 : s.toList.length = s.size := by rw [ByteArray.toList_eq]; rfl
  by_cases h0 : s.size = 0
  · have hz : s.toList = [] := List.length_eq_zero_iff.1 (by rw [hs0, h0])
    have hz2 : s.toList.isEmpty = true := by rw [hz]; rfl
    have hR : Hid (nameOk s = false) := by show _ = _; rw [Hn.out]; simp [h0]
    rw [hR.out]
    go_enter Tryz.func241, Tryz.ntmps241
    go_wp2
    go_ret
    exact ⟨rfl, rfl⟩
  · have hz : s.toList ≠ [] := fun h => h0 (by rw [← hs0, h]; rfl)
    have hz2 : s.toList.isEmpty = false := by simpa using hz
    by_cases h32 : 32 < s.size
    · have hi : (32 : Int) < (s.size : Int) := by omega
      have hR : Hid (nameOk s = false) := by show _ = _; rw [Hn.out]; simp; omega
      rw [hR.out]
      go_enter Tryz.func241, Tryz.ntmps241
      go_wp2
      go_ret
      exact ⟨rfl, rfl⟩
    · have hi : decide ((32 : Int) < (s.size : Int)) = false := decide_eq_false (by omega)
      go_enter Tryz.func241, Tryz.ntmps241
      go_wp2_with fail
      go_loopw [14] (fun i wr => ∃ x : Nat, i = .int .i64 x ∧ x ≤ s.size ∧ Hid (((sB s).take x).all charOk = true) ∧ w = wr) (fun i _ => s.size - (intOf i).toNat)
      case atStart => exact ⟨0, rfl, by omega, rfl, rfl⟩
      case round =>
        obtain ⟨x, rfl, hx, Ht, rfl⟩ := hrel
        by_cases hlt : x < s.size
        · have hx1 : (x : Int) < (s.size : Int) := by omega
          have hxb : x < (sB s).length := hlt
          have hget : (sB s)[x] = s[x] := rfl
          have Hnx : Hid (((sB s).take (x + 1)).all charOk = charOk s[x]) := by
            show _ = _
            rw [List.take_succ_eq_append_getElem hxb, List.all_append, Ht.out, hget]; simp
          have Hall : Hid (charOk s[x] = false → nameOk s = false) := fun h => by
            rw [Hn.out]
            have : (sB s).all charOk = false := by
              rw [List.all_eq_false]
              exact ⟨(sB s)[x], List.getElem_mem _, by rw [hget, h]; simp⟩
            rw [this]; simp
          have Hch : Hid (charOk s[x] = ((decide (97 ≤ s[x].toNat) && decide (s[x].toNat ≤ 122)) || (decide (48 ≤ s[x].toNat) && decide (s[x].toNat ≤ 57)) || s[x].toNat == 95)) := rfl
          clear hget
          have Hny : Hid (charOk s[x] = true → ((sB s).take (x + 1)).all charOk = true) := fun h => Hnx.out.trans h
          clear Hnx
          go_wp2
          all_goals first
            | (go_roundw
               case rel =>
                 refine ⟨x + 1, by go_num, by omega, Hny.out ?_, trivial⟩
                 rw [Hch.out]
                 simp only [bne_eq_false_iff_eq, bne_iff_ne, ne_eq] at *
                 simp
                 omega
               case measure => simp [intOf] <;> omega)
            | (go_ret
               rw [Hall.out (by
                 rw [Hch.out]
                 simp only [bne_eq_false_iff_eq, bne_iff_ne, ne_eq] at *
                 simp
                 omega)]
               exact ⟨rfl, rfl⟩)
        · obtain rfl : x = s.size := by omega
          have hR : Hid (nameOk s = true) := by
            show _ = _
            rw [Hn.out]
            have := Ht.out
            rw [List.take_of_length_le (by rw [sB_len]; exact Nat.le_refl _)] at this
            rw [this]; simp; omega
          go_wp2
          go_ret
          rw [hR.out]
          exact ⟨rfl, rfl⟩
end Go.Proofs.YtdaceeijifjpeaaGreatDoor.Vi
end
