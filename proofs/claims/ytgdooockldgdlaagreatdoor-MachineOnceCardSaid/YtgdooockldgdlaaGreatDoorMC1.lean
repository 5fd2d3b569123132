/- Texts put together: CardW, Base, Mem, Data, Map, McQ, WinP, Clone, Var1, Var2, Var3, Var4, Read1, Read2, Lab1. -/
import Derived.Test.YtgdooockldgdlaaGreatDoorRows
import Derived.WalkKit
import Derived.ProofKit
import Derived.OpenShut
import Derived.Deep.DeepHandedRow
import Derived.Lib.LaidTab
import Derived.Lib.Hide
import Derived.Handy
import Derived.ChangeSame
import Derived.Laws.OwnMore
import Derived.Deep.AppendLies
import Derived.Deep.Draws
import Derived.Maps.AppendAt
import Derived.RegionTactic
import Derived.OwnWalk
import Derived.BigQuiet
import Derived.Deep.QuietTactic
import Derived.Maps.RangeWalk
import Derived.DeepKeys4
import Derived.Test.YtgdooockldgdlaaGreatDoorProg
import Derived.WalkSpells
import Derived.Lib.Varint
import Derived.Lib.VarintMem
import Derived.Lib.AppendStr
import Derived.Laws.BytesString
import Derived.Deep.DeepCutAuto
import Derived.Laws.BitsAllLaws
import Derived.Laws.BytesArg
set_option linter.unusedVariables false
set_option linter.unusedSimpArgs false
section
namespace Go.Proofs.YtgdooockldgdlaaGreatDoor.CardW
open Go.ChangeShapes Go.WideShapes Go.ChangeAt Go.RowKit
set_option maxRecDepth 100000 in
theorem max_cell {W : World} (h : W.ShapedOpen Tryz.prog) : ∃ m, W.cell? ⟨0, 0, none⟩ = some (.int .i64 m) := by
 obtain ⟨cs, hh, hs, hr⟩ := h.1 0 #[.int .i64 0] 3 (by decide +kernel) (by kernel_rfl)
 obtain ⟨ts, hts, _, hall⟩ := hr (by kernel_rfl)
 rw [show Tryz.prog.cellTypes Tryz.prog.depth 3 = some [3] by kernel_rfl] at hts
 cases hts
 have hs1 : cs.size = 1 := hs
 have h1 : 0 < cs.size := by omega
 obtain ⟨u, hu', hok⟩ := hall 0 cs[0] (by simp [h1])
 obtain rfl : u = 3 := by simpa using hu'.symm
 have hcell : W.cell? ⟨0, 0, none⟩ = some cs[0] := by simp [World.cell?, hh, h1]
 rw [hcell]
 unfold Cell.ok at hok
 rw [Tryz.underlying3] at hok
 cases hv : cs[0] with
 | int k n =>
  rw [hv] at hok
  simp at hok
  obtain ⟨rfl, _⟩ := hok
  exact ⟨n, rfl⟩
 | _ => rw [hv] at hok; simp at hok
def laidL : List (String × DataW Unit) := [("unicode/utf8.acceptRanges", Rows.laid_unicode_utf8_acceptRanges), ("unicode/utf8.first", Rows.laid_unicode_utf8_first)]
def lay (cs : Array Value) : Obj → Obj
 | .cells _ t frozen => .cells cs t frozen
 | o => o
noncomputable def laidWorld (os : Os) : World :=
 { World.holding Tryz.prog os ⟨#[], #[], []⟩ with heap := ((World.holding Tryz.prog os ⟨#[], #[], []⟩).heap.modify 2 (lay (#[128, 191, 160, 191, 128, 159, 144, 191, 128, 143, 0, 0, 0, 0, 0, 0, 0, 0, 0, 0, 0, 0, 0, 0, 0, 0, 0, 0, 0, 0, 0, 0].map (Value.int .u8 ·)))).modify 1 (lay (Go.Pinned.utf8FirstZ.map fun n => Value.int .u8 (n : Nat)).toArray) }
set_option maxRecDepth 100000 in
theorem laid_met (os : Os) (args : Array Value) : laidMet Tryz.prog laidL ((laidWorld os).forCall (fun _ _ => 0) ⟨#[], args, []⟩).memory :=
 laidMet_of_run' 8 (by kernel_rfl) (by kernel_rfl)
end Go.Proofs.YtgdooockldgdlaaGreatDoor.CardW
end
section
namespace Go.Proofs.YtgdooockldgdlaaGreatDoor.Base
open Go.RowKit
theorem ret_int {k : IntKind} {a b : Int} (h : a = b) : Ending.returned (.int k a) = .returned (.int k b) := by rw [h]
theorem ret_bool {a b : Bool} (h : a = b) : Ending.returned (.bool a) = .returned (.bool b) := by rw [h]
/-- Block g is just the cells cs of element type t, none frozen. -/
def Blk (w : World) (g : Nat) (t : TypeId) (cs : Array Value) : Prop := w.heap[g]? = some (.cells cs t (0, 0))
theorem Blk.lt {w : World} {g : Nat} {t : TypeId} {cs : Array Value} (h : Blk w g t cs) : g < w.heap.size := by
 rcases Nat.lt_or_ge g w.heap.size with hlt | hge
 ·exact hlt
 ·unfold Blk at h; rw [Array.getElem?_eq_none hge] at h; cases h
theorem Blk.cell {w : World} {g : Nat} {t : TypeId} {cs : Array Value} (h : Blk w g t cs) (i : Nat) : w.cell? ⟨g, i, none⟩ = cs[i]? := cell_of_row w g i cs t (0, 0) h
theorem Blk.frozen {w : World} {g : Nat} {t : TypeId} {cs : Array Value} (h : Blk w g t cs) (i : Nat) : w.frozen? ⟨g, i, none⟩ = false := by
 unfold Blk at h
 simp [World.frozen?, h]
theorem Blk.new (w : World) (t : TypeId) (cs : Array Value) : Blk (w.alloc (.cells cs t)) w.heap.size t cs := heap_alloc_new w _
theorem Blk.set_ {w : World} {g : Nat} {t : TypeId} {cs : Array Value} (h : Blk w g t cs) (i : Nat) (u : Value) : Blk (w.setCell ⟨g, i, none⟩ u) g t (cs.setIfInBounds i u) := by
 unfold Blk at h ⊢
 simp [World.setCell, Array.getElem?_modify, h]
theorem Blk.below {w w' : World} {g : Nat} {t : TypeId} {cs : Array Value} {B : Nat} (h : Blk w g t cs) (hb : Below B w w') (hg : g < B) : Blk w' g t cs := (hb.block g hg).trans h
theorem below_new {w w' : World} (h : Below w.heap.size w w') (o : Obj) : Below w.heap.size w (w'.alloc o) := h.alloc h.size o
theorem below_then {a b c : World} (h : Below a.heap.size a b) (k : Below b.heap.size b c) : Below a.heap.size a c := h.trans (k.mono h.size)
section
open Go.WideShapes Go.ChangeShapes
variable {H : Type} {enc : TypeId × Value → H} {P : Program}
end
end Go.Proofs.YtgdooockldgdlaaGreatDoor.Base
end
section
namespace Go.Proofs.YtgdooockldgdlaaGreatDoor.Mem
open Go.RowKit
theorem block_of_add (a : Addr) (n : Nat) : (a.add n).block = a.block := by unfold Addr.add; split <;> rfl
theorem add_of_add (a : Addr) (i j : Nat) : (a.add i).add j = a.add (i + j) := by
 unfold Addr.add
 by_cases hi : i = 0 <;> by_cases hj : j = 0 <;> simp [hi, hj, Nat.add_assoc]
def Reads (w : World) (B size : Nat) (A : Option Addr) (n : Nat) (xs : List Value) : Prop :=
 xs.length = n * size ∧ (0 < n → ∃ ad, A = some ad ∧ ad.block < B ∧ ∀ j u, xs[j]? = some u → w.cell? (ad.add j) = some u)
section
variable {w w' : World} {B B' size n : Nat} {A : Option Addr} {xs : List Value}
theorem Reads.at_ {k : Nat} (h : Reads w B 1 A n xs) (hk : k < n) : ∃ ad u, A = some ad ∧ ad.block < B ∧ xs[k]? = some u ∧ w.cell? (ad.add k) = some u := by
 obtain ⟨ad, e, hb, hc⟩ := h.2 (by omega)
 have hl : k < xs.length := by have := h.1; omega
 exact ⟨ad, xs[k], e, hb, List.getElem?_eq_getElem hl, hc k _ (List.getElem?_eq_getElem hl)⟩
theorem Reads.keep (h : Reads w B size A n xs) (hk : ∀ p : Addr, p.block < B → w'.cell? p = w.cell? p) : Reads w' B size A n xs :=
 ⟨h.1, fun hn => by
  obtain ⟨ad, e, hb, hc⟩ := h.2 hn
  exact ⟨ad, e, hb, fun j u hu => (hk _ (by rw [block_of_add]; exact hb)).trans (hc j u hu)⟩⟩
theorem Reads.more (h : Reads w B size A n xs) (hB : B ≤ B') : Reads w B' size A n xs :=
 ⟨h.1, fun hn => by
  obtain ⟨ad, e, hb, hc⟩ := h.2 hn
  exact ⟨ad, e, by omega, hc⟩⟩
theorem Reads.below (h : Reads w B size A n xs) (hb : Below B w w') : Reads w' B size A n xs := h.keep fun _ hp => hb.cell hp
theorem Reads.drew (h : Reads w B size A n xs) : Reads w.drew B size A n xs := h
theorem Reads.drewN (h : Reads w B size A n xs) (k : Nat) : Reads (w.drewN k) B size A n xs := h
theorem Reads.alloc (h : Reads w B size A n xs) (hB : B ≤ w.heap.size) (o : Obj) : Reads (w.alloc o) B size A n xs := h.keep fun p hp => World.cell?_alloc_lt w o p (by omega)
theorem Reads.setCell (h : Reads w B size A n xs) {p : Addr} (hB : B ≤ p.block) (u : Value) : Reads (w.setCell p u) B size A n xs :=
 h.keep fun q hq => World.cell?_setCell_other w p q u (fun e => by subst e; omega)
theorem Reads.grown (h : Reads w B size A n xs) {row : Option Nat} (hg : w.grownBy w' row) (hB : B ≤ w.heap.size) (hr : ∀ g, row = some g → B ≤ g) : Reads w' B size A n xs :=
 h.keep fun p hp => World.cell?_of_block (hg.block p.block (by omega) (fun e => by have := hr _ e.symm; omega))
theorem Reads.cut (h : Reads w B size A n xs) {k cap : Nat} (hk : k ≤ n) (hc : n ≤ cap) :
  Reads w B size (if cap = k then A else A.map (·.add (k * size))) (n - k) (xs.drop (k * size)) := by
 refine ⟨by rw [List.length_drop, h.1, Nat.sub_mul], fun hn => ?_⟩
 obtain ⟨ad, rfl, hb, hcell⟩ := h.2 (by omega)
 rw [if_neg (by omega)]
 refine ⟨ad.add (k * size), rfl, by rw [block_of_add]; exact hb, fun j u hu => ?_⟩
 rw [add_of_add]
 exact hcell _ u (by rw [← hu, List.getElem?_drop])
theorem Reads.of_own {base : Nat} {e : TypeId} {c : Nat} (h : w.ownsRow base e size (.slice A n c) n xs) : Reads w w.heap.size size A n xs := by
 refine ⟨h.1, fun hn => ?_⟩
 obtain ⟨g, cap, hv, _, hlt⟩ := h.form hn
 have hA : A = some ⟨g, 0, none⟩ := by injection hv
 subst hA
 exact ⟨_, rfl, hlt, h.cells (g := g) rfl⟩
end
section
variable {P : Program} (w : World)
theorem run_append_of_nil (base : Nat) (t ty e : TypeId) (i : TypeInfo) (size : Nat) (ht : P.underlying t = some (.slice e)) (hi : P.info? e = some i)
  (v : Value) (n : Nat) (xs : List Value) (hown : w.ownsRow base e size v n xs) (c : Nat) : (Builtin.append_ #[t, t] ty #[v, .slice none 0 c]).run P w = .ok v w := by
 rcases hown.2 with ⟨rfl, rfl⟩ | ⟨g, cap, cur, rfl, _, _, hnc, _⟩
 ·simp [Builtin.append_, run_underlying ht, sizeOf, typeInfo, hi, Builtin.lenOf, Builtin.firstCells]
 ·simp [Builtin.append_, run_underlying ht, sizeOf, typeInfo, hi, Builtin.lenOf, Builtin.firstCells, hnc, storeCells]
theorem run_append_any (base : Nat) (t ty e : TypeId) (i : TypeInfo) (z : Value) (size bytes : Nat) (ht : P.underlying t = some (.slice e)) (hi : P.info? e = some i) (hz : i.zero = some z)
  (hsize : i.size = size) (hby : i.bytes = bytes) (hzs : z.cells.size = size) (hsz : 0 < size)
  (v : Value) (n : Nat) (xs : List Value) (hown : w.ownsRow base e size v n xs)
  (B : Nat) (A : Option Addr) (m c : Nat) (news : List Value) (hr : Reads w B size A m news) (h1 : ∀ u ∈ news, u.oneCell' = true)
  (h63 : n + m ≤ maxLen) (hbytes : (n + m) * bytes ≤ 140737488355328) (hbase : base ≤ w.heap.size) :
  ∃ v' w', (Builtin.append_ #[t, t] ty #[v, .slice A m c]).run P w = .ok v' w' ∧ w'.ownsRow base e size v' (n + m) (xs ++ news) ∧ w.grownBy w' v.ownBlock ∧
   (v'.ownBlock = v.ownBlock ∨ v'.ownBlock = some w.heap.size) := by
 rcases A with _ | ad
 ·have hm : m = 0 := by
   rcases Nat.eq_zero_or_pos m with h0 | h0
   ·exact h0
   ·obtain ⟨ad, h, _⟩ := hr.2 h0
    cases h
  subst hm
  have hn : news = [] := List.eq_nil_of_length_eq_zero (by simpa using hr.1)
  subst hn
  exact ⟨v, w, run_append_of_nil w base t ty e i size ht hi v n xs hown c, by simpa using hown, World.grownBy.refl w _, .inl rfl⟩
 ·have hcells : ∀ j u, news[j]? = some u → w.cell? (ad.add j) = some u := by
   intro j u hu
   rcases Nat.eq_zero_or_pos m with h0 | h0
   ·subst h0
    have hn : news = [] := List.eq_nil_of_length_eq_zero (by simpa using hr.1)
    subst hn
    simp at hu
   ·obtain ⟨ad', h, _, hc⟩ := hr.2 h0
    injection h with h
    subst h
    exact hc j u hu
  obtain ⟨v', w', hrun, h2, h3, _, h5⟩ := run_append_own_at (P := P) w base t ty e i z size bytes ht hi hz hsize hby hzs hsz v n xs hown ad m c news hr.1 hcells h1 h63 hbytes hbase
  exact ⟨v', w', hrun, h2, h3, h5⟩
theorem wp_append_any {o : Oper} {a : Act} {K : Act → World → Prop} {Q : Exit → Act → World → Prop} (s x : Operand) (t : TypeId)
  (ho : o.op = .call { callee := .builtin .append, args := #[s, x], argTypes := #[t, t] })
  (base : Nat) (e : TypeId) (i : TypeInfo) (z : Value) (size bytes : Nat) (ht : P.underlying t = some (.slice e)) (hi : P.info? e = some i) (hz : i.zero = some z)
  (hsize : i.size = size) (hby : i.bytes = bytes) (hzs : z.cells.size = size) (hsz : 0 < size)
  (v : Value) (n : Nat) (xs : List Value) (hs : a.eval s = v) (hown : w.ownsRow base e size v n xs)
  (B : Nat) (A : Option Addr) (m c : Nat) (news : List Value) (hx : a.eval x = .slice A m c) (hr : Reads w B size A m news) (h1 : ∀ u ∈ news, u.oneCell' = true)
  (h63 : n + m ≤ maxLen) (hbytes : (n + m) * bytes ≤ 140737488355328) (hbase : base ≤ w.heap.size)
  (h : ∀ v' w', w'.ownsRow base e size v' (n + m) (xs ++ news) → w.grownBy w' v.ownBlock → (v'.ownBlock = v.ownBlock ∨ v'.ownBlock = some w.heap.size) → K (a.put o.dst v') w') : o.wp P a w K Q := by
 obtain ⟨v', w', hrun, h2, h3, h4⟩ := run_append_any (P := P) w base t o.type e i z size bytes ht hi hz hsize hby hzs hsz v n xs hown B A m c news hr h1 h63 hbytes hbase
 unfold Oper.wp execOp
 simp only [ho, resolve, invoke, builtin, Sem.run_bind, Sem.run_pure, Result.andThen_ok, List.map_toArray, List.map_cons, List.map_nil, hs, hx, hrun]
 exact h v' w' h2 h3 h4
theorem wpList_append_any {ops : Array Oper} {rest : List Oper} {o : Oper} {a : Act} {Q : Exit → Act → World → Prop} (hgd : o.guard = none) (s x : Operand) (t : TypeId)
  (ho : o.op = .call { callee := .builtin .append, args := #[s, x], argTypes := #[t, t] })
  (base : Nat) (e : TypeId) (i : TypeInfo) (z : Value) (size bytes : Nat) (ht : P.underlying t = some (.slice e)) (hi : P.info? e = some i) (hz : i.zero = some z)
  (hsize : i.size = size) (hby : i.bytes = bytes) (hzs : z.cells.size = size) (hsz : 0 < size)
  (v : Value) (n : Nat) (xs : List Value) (hs : a.eval s = v) (hown : w.ownsRow base e size v n xs)
  (B : Nat) (A : Option Addr) (m c : Nat) (news : List Value) (hx : a.eval x = .slice A m c) (hr : Reads w B size A m news) (h1 : ∀ u ∈ news, u.oneCell' = true)
  (h63 : n + m ≤ maxLen) (hbytes : (n + m) * bytes ≤ 140737488355328) (hbase : base ≤ w.heap.size)
  (h : ∀ v' w', w'.ownsRow base e size v' (n + m) (xs ++ news) → w.grownBy w' v.ownBlock → (v'.ownBlock = v.ownBlock ∨ v'.ownBlock = some w.heap.size) → wpList P ops Q rest (a.put o.dst v') w') : wpList P ops Q (o :: rest) a w :=
 wpList_plain hgd fun _ hK => wp_append_any w s x t ho base e i z size bytes ht hi hz hsize hby hzs hsz v n xs hs hown B A m c news hx hr h1 h63 hbytes hbase fun v' w' h2 h3 h4 => hK _ _ (h v' w' h2 h3 h4)
theorem step_append_any {ops : Array Oper} {o : Oper} {a : Act} {K : Act → World → Prop} {Q : Exit → Act → World → Prop} {E : Prop} (hgd : o.guard = none) (s x : Operand) (t : TypeId)
  (ho : o.op = .call { callee := .builtin .append, args := #[s, x], argTypes := #[t, t] })
  (base : Nat) (e : TypeId) (i : TypeInfo) (z : Value) (size bytes : Nat) (ht : P.underlying t = some (.slice e)) (hi : P.info? e = some i) (hz : i.zero = some z)
  (hsize : i.size = size) (hby : i.bytes = bytes) (hzs : z.cells.size = size) (hsz : 0 < size)
  (v : Value) (n : Nat) (xs : List Value) (hs : a.eval s = v) (hown : w.ownsRow base e size v n xs)
  (B : Nat) (A : Option Addr) (m c : Nat) (news : List Value) (hx : a.eval x = .slice A m c) (hr : Reads w B size A m news) (h1 : ∀ u ∈ news, u.oneCell' = true)
  (h63 : n + m ≤ maxLen) (hbytes : (n + m) * bytes ≤ 140737488355328) (hbase : base ≤ w.heap.size)
  (h : ∀ v' w', w'.ownsRow base e size v' (n + m) (xs ++ news) → w.grownBy w' v.ownBlock → (v'.ownBlock = v.ownBlock ∨ v'.ownBlock = some w.heap.size) → K (a.put o.dst v') w') :
  if Region.wanted o (yielded ops a.tmps) = true then Oper.wp P o a w K Q else E := by
 have hw : Region.wanted o (yielded ops a.tmps) = true := by simp [Region.wanted, hgd]
 rw [if_pos hw]
 exact wp_append_any w s x t ho base e i z size bytes ht hi hz hsize hby hzs hsz v n xs hs hown B A m c news hx hr h1 h63 hbytes hbase h
end
theorem below_new' (w : World) (o : Obj) : Below w.heap.size w (w.alloc o) := (Below.refl _ _).alloc (Nat.le_refl _) o
theorem quiet_left {P : Program} {f : FuncId} {args : Array Value} {w : World} {n : Nat} {v : Value}
  (h : Calls P f args (w.drewN n) fun e w' => e = .returned v ∧ w.drewN n = w') : Calls P f args (w.drewN n) fun e w'' => e = .returned v ∧ ∃ m, w'' = w.drewN m :=
 h.mono fun _ _ ⟨he, hm⟩ => ⟨he, n, hm.symm⟩
theorem quiet_add {P : Program} {f : FuncId} {args : Array Value} {w : World} {n : Nat} {v : Value}
  (h : Calls P f args (w.drewN n) fun e w' => e = .returned v ∧ ∃ m, w' = (w.drewN n).drewN m) : Calls P f args (w.drewN n) fun e w'' => e = .returned v ∧ ∃ m, w'' = w.drewN m :=
 h.mono fun _ _ ⟨he, m, hm⟩ => ⟨he, n + m, by rw [hm, World.drewN_drewN]⟩
/-- What lay in blocks other than those of M lies there still. -/
structure Keeps (M : List Nat) (w w' : World) : Prop where
 os : w'.os = w.os
 tape : w'.tape = w.tape
 output : w'.output = w.output
 size : w.heap.size ≤ w'.heap.size
 block : ∀ g, g < w.heap.size → g ∉ M → w'.heap[g]? = w.heap[g]?
section
variable {M M' : List Nat} {a w w' : World}
theorem Keeps.refl (M : List Nat) (w : World) : Keeps M w w := ⟨rfl, rfl, rfl, Nat.le_refl _, fun _ _ _ => rfl⟩
theorem Keeps.trans (h : Keeps M a w) (k : Keeps M' w w') (hM : ∀ g ∈ M', g ∈ M ∨ a.heap.size ≤ g) : Keeps M a w' :=
 ⟨k.os.trans h.os, k.tape.trans h.tape, k.output.trans h.output, Nat.le_trans h.size k.size, fun g hg hn =>
  (k.block g (Nat.lt_of_lt_of_le hg h.size) (fun hm => by rcases hM g hm with h1 | h1; exact hn h1; omega)).trans (h.block g hg hn)⟩
theorem Keeps.mono (h : Keeps M a w) (hM : ∀ g ∈ M, g ∈ M' ∨ a.heap.size ≤ g) : Keeps M' a w :=
 ⟨h.os, h.tape, h.output, h.size, fun g hg hn => h.block g hg (fun hm => by rcases hM g hm with h1 | h1; exact hn h1; omega)⟩
theorem Keeps.drew (h : Keeps M a w) : Keeps M a w.drew := ⟨h.os, h.tape, h.output, h.size, h.block⟩
theorem Keeps.drewN (h : Keeps M a w) (n : Nat) : Keeps M a (w.drewN n) := ⟨h.os, h.tape, h.output, h.size, h.block⟩
theorem Keeps.alloc (h : Keeps M a w) (o : Obj) : Keeps M a (w.alloc o) :=
 ⟨h.os, h.tape, h.output, Nat.le_trans h.size (by simp), fun g hg hn => (Below.heap_alloc w o g (Nat.lt_of_lt_of_le hg h.size)).trans (h.block g hg hn)⟩
theorem Keeps.setCell (h : Keeps M a w) {p : Addr} (hp : p.block ∈ M ∨ a.heap.size ≤ p.block) (u : Value) : Keeps M a (w.setCell p u) :=
 ⟨h.os, h.tape, h.output, by simpa [World.setCell] using h.size, fun g hg hn => (Below.heap_setCell w p u g (by
  rintro rfl
  rcases hp with hp | hp
  ·exact hn hp
  ·omega)).trans (h.block g hg hn)⟩
theorem Keeps.grown (h : Keeps M a w) {row : Option Nat} (hg : w.grownBy w' row) (hr : ∀ g, row = some g → g ∈ M ∨ a.heap.size ≤ g) : Keeps M a w' :=
 ⟨hg.os.trans h.os, hg.tape.trans h.tape, hg.output.trans h.output, Nat.le_trans h.size hg.size, fun g hlt hn =>
  (hg.block g (Nat.lt_of_lt_of_le hlt h.size) (fun e => by rcases hr g e.symm with h1 | h1; exact hn h1; omega)).trans (h.block g hlt hn)⟩
theorem Keeps.of_below (h : Below a.heap.size a w) : Keeps M a w := ⟨h.os, h.tape, h.output, h.size, fun g hg _ => h.block g hg⟩
theorem Keeps.below (h : Keeps [] a w) : Below a.heap.size a w := ⟨h.os, h.tape, h.output, h.size, fun g hg => h.block g hg (by simp)⟩
theorem Keeps.belowB (h : Keeps M a w) {B : Nat} (hB : B ≤ a.heap.size) (hM : ∀ g ∈ M, B ≤ g) : Below B a w :=
 ⟨h.os, h.tape, h.output, h.size, fun g hg => h.block g (by omega) (fun hm => by have := hM g hm; omega)⟩
theorem Keeps.cell (h : Keeps M w w') {p : Addr} (hp : p.block < w.heap.size) (hn : p.block ∉ M) : w'.cell? p = w.cell? p := World.cell?_of_block (h.block _ hp hn)
theorem Keeps.blk (h : Keeps M w w') {g : Nat} {t : TypeId} {cs : Array Value} (hb : Base.Blk w g t cs) (hn : g ∉ M) : Base.Blk w' g t cs := (h.block g hb.lt hn).trans hb
end
theorem reads_new (w : World) (t : TypeId) (size m : Nat) (xs : List Value) (h : xs.length = m * size) : Reads (w.alloc (.cells xs.toArray t)) (w.heap.size + 1) size (some ⟨w.heap.size, 0, none⟩) m xs :=
 ⟨h, fun _ => ⟨_, rfl, by show w.heap.size < _; omega, fun j u hu => by rw [show (⟨w.heap.size, 0, none⟩ : Addr).add j = ⟨w.heap.size, j, none⟩ by unfold Addr.add; split <;> simp_all, (Base.Blk.new w t _).cell j]; simpa using hu⟩⟩
theorem own_keep {M : List Nat} {w w1 : World} {base : Nat} {e : TypeId} {size n : Nat} {v : Value} {xs : List Value} (h : w.ownsRow base e size v n xs) (hk : Keeps M w w1) (hM : ∀ g ∈ M, g < base) : w1.ownsRow base e size v n xs := by
 obtain ⟨hl, h⟩ := h
 refine ⟨hl, ?_⟩
 rcases h with h | ⟨g, cap, cur, hv, hb, hg, rest⟩
 ·exact .inl h
 ·exact .inr ⟨g, cap, cur, hv, hb, (hk.block g (Array.getElem?_eq_some_iff.1 hg).1 (fun hm => by have := hM g hm; omega)).trans hg, rest⟩
/-- The slice v of n things of size cells each reads as xs; it lies in no block of M. -/
def Rd (w : World) (M : List Nat) (size : Nat) (v : Value) (n : Nat) (xs : List Value) : Prop :=
 ∃ A c, v = .slice A n c ∧ n ≤ c ∧ xs.length = n * size ∧
  (0 < n → ∃ g off, A = some ⟨g, off, none⟩ ∧ g < w.heap.size ∧ g ∉ M ∧ ∀ j u, xs[j]? = some u → w.cell? ⟨g, off + j, none⟩ = some u)
section
variable {M M' : List Nat} {w w' : World} {size n : Nat} {v : Value} {xs : List Value}
theorem addr_add (g off j : Nat) : (⟨g, off, none⟩ : Addr).add j = ⟨g, off + j, none⟩ := by unfold Addr.add; split <;> simp_all
theorem Rd.keep (h : Rd w M size v n xs) (k : Keeps M' w w') (hM : ∀ g ∈ M', g ∈ M ∨ w.heap.size ≤ g) : Rd w' M size v n xs := by
 obtain ⟨A, c, rfl, hc, hl, hr⟩ := h
 refine ⟨A, c, rfl, hc, hl, fun hn => ?_⟩
 obtain ⟨g, off, rfl, hg, hm, hx⟩ := hr hn
 refine ⟨g, off, rfl, Nat.lt_of_lt_of_le hg k.size, hm, fun j u hu => ?_⟩
 rw [World.cell?_of_block (k.block g hg (fun hm' => by rcases hM g hm' with h1 | h1; exact hm h1; omega))]
 exact hx j u hu
theorem Rd.avoid (h : Rd w M size v n xs) (hM : ∀ g ∈ M', g ∈ M ∨ w.heap.size ≤ g) : Rd w M' size v n xs := by
 obtain ⟨A, c, rfl, hc, hl, hr⟩ := h
 refine ⟨A, c, rfl, hc, hl, fun hn => ?_⟩
 obtain ⟨g, off, rfl, hg, hm, hx⟩ := hr hn
 exact ⟨g, off, rfl, hg, fun hm' => by rcases hM g hm' with h1 | h1; exact hm h1; omega, hx⟩
theorem Rd.reads (h : Rd w M size v n xs) : ∃ A c, v = .slice A n c ∧ n ≤ c ∧ Reads w w.heap.size size A n xs := by
 obtain ⟨A, c, rfl, hc, hl, hr⟩ := h
 refine ⟨A, c, rfl, hc, hl, fun hn => ?_⟩
 obtain ⟨g, off, rfl, hg, _, hx⟩ := hr hn
 exact ⟨_, rfl, hg, fun j u hu => by rw [addr_add]; exact hx j u hu⟩
theorem Rd.more {g : Nat} (h : Rd w (g :: M) size v n xs) : Rd w M size v n xs := h.avoid (fun _ hx => .inl (List.mem_cons_of_mem _ hx))
theorem Rd.of_own {base : Nat} {e : TypeId} (h : w.ownsRow base e size v n xs) (hM : ∀ g ∈ M, g < base) : Rd w M size v n xs := by
 obtain ⟨hl, h⟩ := h
 rcases h with ⟨rfl, rfl⟩ | ⟨g, cap, cur, rfl, hb, hg, hnc, _, hcs, ht⟩
 ·exact ⟨none, 0, rfl, Nat.le_refl _, hl, fun h => absurd h (by omega)⟩
 ·refine ⟨_, cap, rfl, hnc, hl, fun _ => ⟨g, 0, rfl, (Array.getElem?_eq_some_iff.1 hg).1, fun hm => by have := hM g hm; omega, fun j u hu => ?_⟩⟩
  rw [cell_of_row w g (0 + j) cur e (0, 0) hg]
  rw [← ht, List.getElem?_take] at hu
  split at hu
  ·simpa using hu
  ·cases hu
end
/-- What the frame of a proof says of a slice of integers that came in, in the words of the walks. -/
theorem row_view {k : IntKind} {w : World} {a : Option Addr} {len cap : Nat} {zs : List Int}
  (h : (a = none ∧ len = 0 ∧ cap = 0 ∧ zs = []) ∨ ∃ x, a = some x ∧ len ≤ cap ∧ cap ≤ maxLen ∧ zs.length = cap ∧ (∀ i, i < zs.length → w.cell? (x.add i) = some (.int k (zs.getD i 0))) ∧ ∀ n ∈ zs, (Lit.int k n).wf = true) :
  (zs.take len).length = len ∧ len ≤ cap ∧ cap ≤ 9223372036854775807 ∧ (∀ n ∈ zs.take len, (Lit.int k n).wf = true) ∧
  (0 < (zs.take len).length → ∃ g off, a = some ⟨g, off, none⟩ ∧ g < w.heap.size ∧ ∀ (j : Nat) (x : Int), (zs.take len)[j]? = some x → w.cell? ⟨g, off + j, none⟩ = some (.int k x)) := by
 rcases h with ⟨rfl, rfl, rfl, rfl⟩ | ⟨x, rfl, hl, hm, hz, hc, hw⟩
 ·exact ⟨rfl, Nat.le_refl _, by omega, by simp, by simp⟩
 ·refine ⟨by rw [List.length_take]; omega, hl, by simpa [maxLen] using hm, fun n hn => hw n (List.mem_of_mem_take hn), fun h0 => ?_⟩
  rw [List.length_take] at h0
  have h1 := hc 0 (by omega)
  obtain ⟨g, off, sp⟩ := x
  have hsp : sp = none := by
   cases sp with
   | none => rfl
   | some q =>
    rw [show (⟨g, off, some q⟩ : Addr).add 0 = ⟨g, off, some q⟩ from rfl] at h1
    unfold World.cell? at h1
    split at h1 <;> simp at h1
  subst hsp
  refine ⟨g, off, rfl, World.block_lt_of_cell? w _ h1, fun j y hj => ?_⟩
  rw [List.getElem?_take] at hj
  split at hj
  ·rename_i hlt
   have h2 := hc j (by omega)
   rw [addr_add] at h2
   rw [h2, List.getD_eq_getElem?_getD, hj]
   rfl
  ·cases hj
structure DeltaD where
 ser : ByteArray
 n : Int
structure EntryD where
 kind : Int
 ag : Int
 sh : Int
 seq : Int
 ep : Int
 ds : List DeltaD
 ser : ByteArray
 fr : Int
 tag : Int
def dCell (d : DeltaD) : List Value := [.string d.ser, .int .u64 d.n]
def dCells (ds : List DeltaD) : List Value := ds.flatMap dCell
def eCell (p : EntryD × Value) : List Value :=
 [.int .i64 p.1.kind, .int .i64 p.1.ag, .int .i64 p.1.sh, .int .i64 p.1.seq, .int .i64 p.1.ep, p.2, .string p.1.ser, .int .i64 p.1.fr, .int .i64 p.1.tag]
/-- v reads as these deltas. -/
def Ds (w : World) (M : List Nat) (v : Value) (ds : List DeltaD) : Prop := Rd w M 2 v ds.length (dCells ds)
/-- v reads as these entries. -/
def Ens (w : World) (M : List Nat) (v : Value) (l : List EntryD) : Prop :=
 ∃ ps : List (EntryD × Value), ps.map (·.1) = l ∧ Rd w M 9 v ps.length (ps.flatMap eCell) ∧ ∀ p ∈ ps, Ds w M p.2 p.1.ds
theorem flat_len {α : Type} (f : α → List Value) (c : Nat) (hf : ∀ x, (f x).length = c) (l : List α) : (l.flatMap f).length = l.length * c := by
 induction l with
 | nil => simp
 | cons x l ih => simp [hf, ih, Nat.add_mul]; omega
theorem flat_at {α : Type} (f : α → List Value) (c : Nat) (hf : ∀ x, (f x).length = c) (l : List α) (k j : Nat) (hk : k < l.length) (hj : j < c) : (l.flatMap f)[k * c + j]? = (f l[k])[j]? := by
 induction l generalizing k with
 | nil => simp at hk
 | cons x l ih =>
  cases k with
  | zero => simp only [List.flatMap_cons, Nat.zero_mul, Nat.zero_add, List.getElem_cons_zero]; rw [List.getElem?_append_left (by rw [hf]; exact hj)]
  | succ k =>
   simp only [List.flatMap_cons, List.getElem_cons_succ]
   rw [List.getElem?_append_right (by rw [hf, Nat.add_mul]; omega), hf, show (k + 1) * c + j - c = k * c + j by rw [Nat.add_mul]; omega]
   exact ih k (by simpa using hk)
theorem dCells_len (ds : List DeltaD) : (dCells ds).length = ds.length * 2 := flat_len dCell 2 (fun _ => rfl) ds
section
variable {w w' : World} {M M' : List Nat} {v : Value} {ds : List DeltaD} {l : List EntryD}
theorem Ds.keep (h : Ds w M v ds) (k : Keeps M' w w') (hM : ∀ g ∈ M', g ∈ M ∨ w.heap.size ≤ g) : Ds w' M v ds := Rd.keep h k hM
theorem Ds.avoid (h : Ds w M v ds) (hM : ∀ g ∈ M', g ∈ M ∨ w.heap.size ≤ g) : Ds w M' v ds := Rd.avoid h hM
theorem Ens.keep (h : Ens w M v l) (k : Keeps M' w w') (hM : ∀ g ∈ M', g ∈ M ∨ w.heap.size ≤ g) : Ens w' M v l := by
 obtain ⟨ps, hl, hr, hd⟩ := h
 exact ⟨ps, hl, hr.keep k hM, fun p hp => (hd p hp).keep k hM⟩
theorem Ens.avoid (h : Ens w M v l) (hM : ∀ g ∈ M', g ∈ M ∨ w.heap.size ≤ g) : Ens w M' v l := by
 obtain ⟨ps, hl, hr, hd⟩ := h
 exact ⟨ps, hl, hr.avoid hM, fun p hp => (hd p hp).avoid hM⟩
theorem Ens.len (h : Ens w M v l) : ∃ A c, v = .slice A l.length c ∧ l.length ≤ c := by
 obtain ⟨ps, rfl, ⟨A, c, rfl, hc, _⟩, _⟩ := h
 exact ⟨A, c, by simp, by simpa using hc⟩
theorem Ds.len (h : Ds w M v ds) : ∃ A c, v = .slice A ds.length c ∧ ds.length ≤ c := by
 obtain ⟨A, c, rfl, hc, _⟩ := h
 exact ⟨A, c, rfl, hc⟩
theorem Ens.nil (w : World) (M : List Nat) : Ens w M (.slice none 0 0) [] := ⟨[], rfl, ⟨none, 0, rfl, Nat.le_refl _, rfl, fun h => absurd h (by simp)⟩, by simp⟩
theorem Ds.nil (w : World) (M : List Nat) : Ds w M (.slice none 0 0) [] := ⟨none, 0, rfl, Nat.le_refl _, rfl, fun h => absurd h (by simp)⟩
/-- The cells of a slice's k-th thing. -/
theorem Rd.at_ {α : Type} (f : α → List Value) (c : Nat) (hf : ∀ x, (f x).length = c) {xs : List α} (h : Rd w M c v xs.length (xs.flatMap f)) {k : Nat} (hk : k < xs.length) :
  ∃ g off cap, v = .slice (some ⟨g, off, none⟩) xs.length cap ∧ xs.length ≤ cap ∧ g < w.heap.size ∧ g ∉ M ∧ ∀ j u, (f xs[k])[j]? = some u → w.cell? ⟨g, off + k * c + j, none⟩ = some u := by
 obtain ⟨A, cap, rfl, hc, hl, hr⟩ := h
 obtain ⟨g, off, rfl, hg, hm, hx⟩ := hr (by omega)
 refine ⟨g, off, cap, rfl, hc, hg, hm, fun j u hu => ?_⟩
 have hj : j < c := by
  rw [← hf xs[k]]
  exact (List.getElem?_eq_some_iff.1 hu).1
 rw [Nat.add_assoc]
 exact hx _ u (by rw [flat_at f c hf xs k j hk hj]; exact hu)
end
/-- The deltas of the entries that a row of the call's own holds lie in blocks that are neither old nor the row's. -/
def DsOwn (w wr : World) (out : Value) (qs : List (EntryD × Value)) : Prop := ∀ q ∈ qs, ∀ M', (∀ g ∈ M', g < w.heap.size ∨ out.ownBlock = some g) → Ds wr M' q.2 q.1.ds
theorem dsOwn_one {w w1 w2 : World} {out v' dv : Value} {o : Obj} {ds : List DeltaD}
  (h : ∀ M', (∀ g ∈ M', g < w.heap.size ∨ out.ownBlock = some g) → Ds w1 M' dv ds)
  (hg : (w1.alloc o).grownBy w2 out.ownBlock) (hat : v'.ownBlock = out.ownBlock ∨ v'.ownBlock = some (w1.heap.size + 1)) (M' : List Nat) (hM : ∀ g ∈ M', g < w.heap.size ∨ v'.ownBlock = some g) : Ds w2 M' dv ds := by
 have h1 := h (out.ownBlock.toList ++ M'.filter (fun g => decide (g < w.heap.size))) (by
  intro g hg
  rcases List.mem_append.1 hg with h1 | h1
  ·right; simpa using h1
  ·left; simpa using (List.mem_filter.1 h1).2)
 have h2 : Ds (w1.alloc o) (out.ownBlock.toList ++ M'.filter (fun g => decide (g < w.heap.size))) dv ds := h1.keep (M' := []) ((Keeps.refl _ _).alloc o) (by simp)
 have h3 : Ds (w1.alloc o) (out.ownBlock.toList ++ M') dv ds := h2.avoid (by
  intro g hg
  rcases List.mem_append.1 hg with h1 | h1
  ·exact .inl (List.mem_append_left _ h1)
  ·rcases hM g h1 with h4 | h4
   ·exact .inl (List.mem_append_right _ (List.mem_filter.2 ⟨h1, by simpa using h4⟩))
   ·rcases hat with h5 | h5
    ·exact .inl (List.mem_append_left _ (by rw [h5] at h4; simpa using h4))
    ·rw [h5] at h4; injection h4 with h4; right; simp; omega)
 have h4 : Keeps out.ownBlock.toList (w1.alloc o) w2 := (Keeps.refl _ _).grown hg (fun g hg => .inl (by simpa using hg))
 exact (h3.keep h4 (fun g hg => .inl (List.mem_append_left _ hg))).avoid (fun g hg => .inl (List.mem_append_right _ hg))
theorem dsOwn_stepK {Mk : List Nat} {w wr w1 w2 : World} {out v' dv' : Value} {o : Obj} {qs : List (EntryD × Value)} {e : EntryD} (hds : DsOwn w wr out qs) (hk : Keeps Mk wr w1) (hMk : ∀ g ∈ Mk, g < w.heap.size) (hlt : ∀ g, out.ownBlock = some g → g < wr.heap.size) (hw : w.heap.size ≤ wr.heap.size)
  (hnew : ∀ M', (∀ g ∈ M', g < wr.heap.size) → Ds w1 M' dv' e.ds)
  (hg : (w1.alloc o).grownBy w2 out.ownBlock) (hat : v'.ownBlock = out.ownBlock ∨ v'.ownBlock = some (w1.heap.size + 1)) : DsOwn w w2 v' (qs ++ [(e, dv')]) := by
 intro q hq M' hM
 rcases List.mem_append.1 hq with h1 | h1
 ·refine dsOwn_one (fun M'' hM'' => ?_) hg hat M' hM
  exact ((hds q h1 (Mk ++ M'') (by intro g hg; rcases List.mem_append.1 hg with h2 | h2; exact .inl (hMk g h2); exact hM'' g h2)).keep hk (fun _ hg => .inl (List.mem_append_left _ hg))).avoid (fun _ hg => .inl (List.mem_append_right _ hg))
 ·simp at h1
  subst h1
  exact dsOwn_one (fun M'' hM'' => hnew M'' (fun g hg => by rcases hM'' g hg with h | h; omega; exact hlt g h)) hg hat M' hM
end Go.Proofs.YtgdooockldgdlaaGreatDoor.Mem
end
section
namespace Go.Proofs.YtgdooockldgdlaaGreatDoor.Vi
open Go.RowKit Base Mem
open Go.Maps (Keyed)
section
variable {H : Type} {P : Program} {k e t : TypeId} {q : IntKind} {w w' : World} {b n r : Nat} {D : DataW H} {R : Value → Option (DataW H × List MemPlace)}
theorem om_keep {M : List Nat} (h : w.ownsMap P k R b n D) (hk : Keeps M w w') (hb : b ∉ M) : w'.ownsMap P k R b n D := by
 have hlt := h.lt
 obtain ⟨es, clock, h1, F, hs, hD⟩ := h
 exact ⟨es, clock, (hk.block b hlt hb).trans h1, F, hs, hD⟩
theorem rg_keep {M : List Nat} {left : Lit → Bool} {cnt : Nat} (h : w.ranges P k R b r n D left cnt) (hk : Keeps M w w') (hb : b ∉ M) (hr : r ∉ M) : w'.ranges P k R b r n D left cnt := by
 have h1 := h.owns.lt
 have h2 := h.lt
 obtain ⟨es, clock, since, seen, c0, hb', F, hs, hD, hr', rest⟩ := h
 exact ⟨es, clock, since, seen, c0, (hk.block b h1 hb).trans hb', F, hs, hD, (hk.block r h2 hr).trans hr', rest⟩
theorem turned_keeps (h : w.mapTurned w' b) : Keeps [b] w w' := (Keeps.refl _ _).grown h.grown (fun g hg => .inl (by cases hg; simp))
/-- The number at a key. -/
def numAt (q : IntKind) (D : DataW H) (kl : Lit) : Int := match D.atKey kl (.lit (.int q 0)) with | .lit (.int _ c) => c | _ => 0
theorem numAt_of {kl : Lit} {c : Int} (h : D.atKey kl (.lit (.int q 0)) = .lit (.int q c)) : numAt q D kl = c := by unfold numAt; rw [h]
theorem om_num (h : w.ownsMap P k (plainElem P e) b n D) (K : Keyed P k) (ht : P.underlying t = some (.map k e)) (he : P.underlying e = some (.int q)) (hz : (zeroValue e).run P w = .ok (.int q 0) w) {key : Value} {kl : Lit} (hkey : keyOf P k key = some kl) :
  (Instr.lookup t (.map (some b)) key false).run P w = .ok (.int q (numAt q D kl)) w ∧ D.atKey kl (.lit (.int q 0)) = .lit (.int q (numAt q D kl)) ∧ (Lit.int q (numAt q D kl)).wf = true := by
 obtain ⟨c, hrun, hat, hwf⟩ := h.lookup_int K ht he hz hkey
 rw [numAt_of hat]
 exact ⟨hrun, hat, hwf⟩
theorem numAt_same (hD : Maps.IsMap D) {kl : Lit} (hk : WideAt.IsKeyLit kl) (c : Int) : numAt q (D.put kl (.lit (.int q c))) kl = c := numAt_of (Maps.atKey_put_same hD hk _ _)
theorem numAt_other {kl kl' : Lit} (h : kl' ≠ kl) (d : DataW H) : numAt q (D.put kl d) kl' = numAt q D kl' := by unfold numAt; rw [Maps.atKey_put_other h]
theorem numAt_empty (kl : Lit) : numAt q (DataW.map [] : DataW H) kl = 0 := rfl
/-- A value as an element. -/
def heldElem (v : Value) : Option (DataW Value × List MemPlace) := some (.held v, [])
end
section
variable {H : Type} {P : Program} (w : World) {ops : Array Oper} {rest : List Oper} {o : Oper} {a : Act} {Q : Exit → Act → World → Prop}
theorem wpl_look_num (hg : o.guard = none) (m x : Operand) (t : TypeId) (hop : o.op = Op.lookup t m x false)
  (k e : TypeId) (q : IntKind) (K : Keyed P k) (ht : P.underlying t = some (.map k e)) (he : P.underlying e = some (.int q)) (hz : (zeroValue e).run P w = .ok (.int q 0) w) (b n : Nat) (D : DataW H)
  (hm : a.eval m = .map (some b)) (hown : w.ownsMap P k (plainElem P e) b n D) (key : Value) (kl : Lit) (hx : a.eval x = key) (hkey : keyOf P k key = some kl)
  (hK : wpList P ops Q rest (a.put o.dst (.int q (numAt q D kl))) w) : wpList P ops Q (o :: rest) a w :=
 wpList_lookup_own_int w hg m x t hop k e q K ht he hz b n D hm hown key kl hx hkey (fun c hat _ => by rw [← numAt_of hat]; exact hK)
theorem wpl_look_has (hg : o.guard = none) (m x : Operand) (t : TypeId) (hop : o.op = Op.lookup t m x true)
  (k e : TypeId) (q : IntKind) (K : Keyed P k) (ht : P.underlying t = some (.map k e)) (he : P.underlying e = some (.int q)) (hz : (zeroValue e).run P w = .ok (.int q 0) w) (b n : Nat) (D : DataW H)
  (hm : a.eval m = .map (some b)) (hown : w.ownsMap P k (plainElem P e) b n D) (key : Value) (kl : Lit) (hx : a.eval x = key) (hkey : keyOf P k key = some kl)
  (hK : wpList P ops Q rest (a.put o.dst (.tuple #[.int q (numAt q D kl), .bool (Maps.has D kl)])) w) : wpList P ops Q (o :: rest) a w :=
 wpList_lookup_own_ok_int w hg m x t hop k e q K ht he hz b n D hm hown key kl hx hkey (fun c hat _ => by rw [← numAt_of hat]; exact hK)
theorem wpl_look_held (hg : o.guard = none) (m x : Operand) (t : TypeId) (hop : o.op = Op.lookup t m x true)
  (k e : TypeId) (K : Keyed P k) (ht : P.underlying t = some (.map k e)) {z : Value} (hz : (zeroValue e).run P w = .ok z w) (b n : Nat) (D : DataW Value)
  (hm : a.eval m = .map (some b)) (hown : w.ownsMap P k heldElem b n D) (key : Value) (kl : Lit) (hx : a.eval x = key) (hkey : keyOf P k key = some kl) (v : Value) (hv : D.atKey kl (.held z) = .held v)
  (hK : wpList P ops Q rest (a.put o.dst (.tuple #[v, .bool (Maps.has D kl)])) w) : wpList P ops Q (o :: rest) a w :=
 wpList_lookup_own_ok w hg m x t hop k e K ht heldElem hz (.held z) [] rfl b n D hm hown key kl hx hkey (fun u ps hu => by
  have h1 : (DataW.held u : DataW Value) = .held v := by rw [← hv]; unfold heldElem at hu; injection hu with hu; injection hu
  injection h1 with h1
  subst h1
  exact hK)
end
end Go.Proofs.YtgdooockldgdlaaGreatDoor.Vi
end
section
namespace Go.Proofs.YtgdooockldgdlaaGreatDoor.Vi
open Go.RowKit Base Mem
/-- A series as a key. -/
def skey (s : ByteArray) : Lit := .string s.data.toList
theorem skey_inj {a b : ByteArray} (h : skey a = skey b) : a = b := by
 unfold skey at h
 injection h with h
 obtain ⟨⟨a⟩⟩ := a
 obtain ⟨⟨b⟩⟩ := b
 simp only [] at h
 rw [h]
theorem skey_key (s : ByteArray) : WideAt.IsKeyLit (skey s) := trivial
/-- What deltas come to, if they may be added one by one. -/
def mayL (DS : DataW Unit) : DataW Unit → List DeltaD → Option (DataW Unit)
 | more, [] => some more
 | more, d :: r =>
  if 18446744073709551615 - numAt .u64 more (skey d.ser) < d.n ∨ 18446744073709551615 - numAt .u64 DS (skey d.ser) < numAt .u64 more (skey d.ser) + d.n then none
  else mayL DS (more.put (skey d.ser) (.lit (.int .u64 (numAt .u64 more (skey d.ser) + d.n)))) r
/-- How many keys are new, of those that are left. -/
def leftN (DS more : DataW Unit) (left : Lit → Bool) : Nat := match more with | .map es => (es.filter fun p => left p.1 && !Maps.has DS p.1).length | _ => 0
def newS (DS more : DataW Unit) : Nat := leftN DS more (Maps.has more)
def mayS (DS : DataW Unit) (l : List DeltaD) : Int := match mayL DS (.map []) l with | none => 25 | some more => if 16 < Maps.size DS + newS DS more then 24 else 0
def addZ (a b : Int) : Int := if 18446744073709551615 < a + b then 18446744073709551615 else a + b
def addL : DataW Unit → List DeltaD → DataW Unit
 | DS, [] => DS
 | DS, d :: r => addL (DS.put (skey d.ser) (.lit (.int .u64 (addZ (numAt .u64 DS (skey d.ser)) d.n)))) r
theorem strike_left (DS : DataW Unit) (left : Lit → Bool) (kl : Lit) (hk : WideAt.IsKeyLit kl) (hl : left kl = true) : ∀ es : List (Lit × DataW Unit), es.Pairwise (fun p q => p.1 ≠ q.1) →
  ((∃ p ∈ es, p.1 = kl) → (es.filter fun p => left p.1 && !Maps.has DS p.1).length = (es.filter fun p => (left p.1 && !p.1.sameKey kl) && !Maps.has DS p.1).length + (if Maps.has DS kl = true then 0 else 1)) ∧
  ((∀ p ∈ es, p.1 ≠ kl) → (es.filter fun p => left p.1 && !Maps.has DS p.1).length = (es.filter fun p => (left p.1 && !p.1.sameKey kl) && !Maps.has DS p.1).length)
 | [], _ => ⟨fun ⟨_, h, _⟩ => by simp at h, fun _ => rfl⟩
 | y :: r, h => by
  obtain ⟨h1, h2⟩ := List.pairwise_cons.1 h
  obtain ⟨i1, i2⟩ := strike_left DS left kl hk hl r h2
  refine ⟨?_, ?_⟩
  ·rintro ⟨p, hp, he⟩
   by_cases hy : y.1 = kl
   ·have hr : ∀ p ∈ r, p.1 ≠ kl := fun p hp e => h1 p hp (by rw [hy, e])
    have i2' := i2 hr
    rw [List.filter_cons, List.filter_cons, hy, hl, WideAt.sameKey_self hk]
    cases hd : Maps.has DS kl <;> simp [i2']
   ·have hs := Maps.sameKey_ne hy
    have hin : ∃ p ∈ r, p.1 = kl := by
     rcases List.mem_cons.1 hp with rfl | hp
     ·exact absurd he hy
     ·exact ⟨p, hp, he⟩
    have i1' := i1 hin
    have hc : ((left y.1 && !y.1.sameKey kl) && !Maps.has DS y.1) = (left y.1 && !Maps.has DS y.1) := by rw [hs, Bool.not_false, Bool.and_true]
    rw [List.filter_cons, List.filter_cons, hc]
    split
    ·rw [List.length_cons, List.length_cons, i1']; omega
    ·exact i1'
  ·intro hall
   have hs := Maps.sameKey_ne (hall y (by simp))
   have i2' := i2 (fun p hp => hall p (by simp [hp]))
   have hc : ((left y.1 && !y.1.sameKey kl) && !Maps.has DS y.1) = (left y.1 && !Maps.has DS y.1) := by rw [hs, Bool.not_false, Bool.and_true]
   rw [List.filter_cons, List.filter_cons, hc]
   split
   ·rw [List.length_cons, List.length_cons, i2']
   ·exact i2'
theorem leftN_step {DS more : DataW Unit} (ht : Maps.Tidy more) {left : Lit → Bool} {kl : Lit} (hk : WideAt.IsKeyLit kl) (hl : left kl = true) (hh : Maps.has more kl = true) :
  leftN DS more left = leftN DS more (fun z => left z && !z.sameKey kl) + (if Maps.has DS kl = true then 0 else 1) := by
 obtain ⟨es, rfl, hp⟩ := ht
 obtain ⟨p, hp1, hp2⟩ := List.any_eq_true.1 hh
 exact (strike_left DS left kl hk hl es hp).1 ⟨p, hp1, WideAt.sameKey_eq hp2⟩
theorem leftN_end {DS more : DataW Unit} {left : Lit → Bool} (h : ∀ kl, left kl = false) : leftN DS more left = 0 := by
 unfold leftN
 cases more <;> try rfl
 simp [h]
theorem leftN_le (DS more : DataW Unit) (left : Lit → Bool) : leftN DS more left ≤ Maps.size more := by
 unfold leftN Maps.size
 cases more <;> try exact Nat.le_refl _
 exact List.length_filter_le _ _
theorem size_put_le {D : DataW Unit} (h : Maps.Tidy D) (kl : Lit) (d : DataW Unit) : Maps.size (D.put kl d) ≤ Maps.size D + 1 := by
 rw [Maps.size_put h]
 split <;> omega
end Go.Proofs.YtgdooockldgdlaaGreatDoor.Vi
end
section
namespace Go.Proofs.YtgdooockldgdlaaGreatDoor.Win
/-- Has number n been seen? All up to f are; behind it those of the mask. -/
def seenW (f : Int) (m : Nat) (n : Int) : Bool := decide (n ≤ f) || (decide (n - f - 1 < 64) && m.testBit (n - f - 1).toNat)
def farW (f : Int) (n : Int) : Bool := decide (f < n) && decide (64 ≤ n - f - 1)
def normW : Nat → Int → Nat → Int × Nat
 | 0, f, m => (f, m)
 | k + 1, f, m => if m % 2 = 1 then normW k (f + 1) (m / 2) else (f, m)
theorem seenW_step {f : Int} {m : Nat} (hm : m < 2 ^ 64) (h : m % 2 = 1) (n : Int) : seenW (f + 1) (m / 2) n = seenW f m n := by
 unfold seenW
 rcases Int.lt_trichotomy n (f + 1) with hlt | rfl | hgt
 ·have h1 : n ≤ f := by omega
  have h2 : n ≤ f + 1 := by omega
  simp [h1, h2]
 ·have h1 : ¬ (f + 1 ≤ f) := by omega
  have e : (f + 1 - f - 1).toNat = 0 := by omega
  have h3 : f + 1 - f - 1 < 64 := by omega
  simp [h1, h3, e, h]
 ·have h1 : ¬ (n ≤ f) := by omega
  have h2 : ¬ (n ≤ f + 1) := by omega
  obtain ⟨k, rfl⟩ : ∃ k : Nat, n = f + 2 + k := ⟨(n - f - 2).toNat, by omega⟩
  have e1 : (f + 2 + (k : Int) - (f + 1) - 1).toNat = k := by omega
  have e2 : (f + 2 + (k : Int) - f - 1).toNat = k + 1 := by omega
  rw [e1, e2, Nat.testBit_div_two]
  simp only [h1, h2, decide_false, Bool.false_or]
  by_cases hk : k < 63
  ·have a1 : f + 2 + (k : Int) - (f + 1) - 1 < 64 := by omega
   have a2 : f + 2 + (k : Int) - f - 1 < 64 := by omega
   simp [a1, a2]
  ·have a2 : ¬ (f + 2 + (k : Int) - f - 1 < 64) := by omega
   have hb : m.testBit (k + 1) = false := Nat.testBit_lt_two_pow (Nat.lt_of_lt_of_le hm (Nat.pow_le_pow_right (by omega) (by omega)))
   simp [a2, hb]
theorem normW_seen : ∀ (k : Nat) (f : Int) (m : Nat), m < 2 ^ 64 → ∀ n, seenW (normW k f m).1 (normW k f m).2 n = seenW f m n
 | 0, _, _, _, _ => rfl
 | k + 1, f, m, hm, n => by
  rw [normW]
  split
  ·rename_i h
   rw [normW_seen k (f + 1) (m / 2) (by omega) n, seenW_step hm h]
  ·rfl
theorem normW_bd : ∀ (k : Nat) (f : Int) (m : Nat), m < 2 ^ 64 → f ≤ (normW k f m).1 ∧ (normW k f m).1 ≤ f + k ∧ (normW k f m).2 < 2 ^ 64
 | 0, f, m, hm => ⟨Int.le_refl _, by simp [normW], hm⟩
 | k + 1, f, m, hm => by
  rw [normW]
  split
  ·obtain ⟨h1, h2, h3⟩ := normW_bd k (f + 1) (m / 2) (by omega)
   exact ⟨by omega, by omega, h3⟩
  ·exact ⟨Int.le_refl _, by omega, hm⟩
/-- The window with a number more. -/
def addW (f : Int) (m : Nat) (n : Int) : Int × Nat := normW 64 f (m ||| 2 ^ (n - f - 1).toNat)
theorem or_lt {m j : Nat} (hm : m < 2 ^ 64) (hj : j < 64) : m ||| 2 ^ j < 2 ^ 64 := Nat.or_lt_two_pow hm (Nat.pow_lt_pow_right (by omega) hj)
theorem addW_seen {f : Int} {m : Nat} {n : Int} (hm : m < 2 ^ 64) (h1 : f < n) (h2 : n - f - 1 < 64) (k : Int) : seenW (addW f m n).1 (addW f m n).2 k = (seenW f m k || k == n) := by
 unfold addW
 rw [normW_seen 64 f _ (or_lt hm (by omega)) k]
 unfold seenW
 by_cases hk : k ≤ f
 ·simp [hk]
 ·have hkf : decide (k ≤ f) = false := decide_eq_false hk
  rw [hkf, Bool.false_or, Bool.false_or, Nat.testBit_or, Nat.testBit_two_pow]
  by_cases hkn : k = n
  ·subst hkn
   simp [h2]
  ·have hne : (n - f - 1).toNat ≠ (k - f - 1).toNat := by omega
   have hd : decide ((n - f - 1).toNat = (k - f - 1).toNat) = false := decide_eq_false hne
   have hb : (k == n) = false := by simpa using hkn
   rw [hd, hb, Bool.or_false, Bool.or_false]
end Go.Proofs.YtgdooockldgdlaaGreatDoor.Win
end
section
namespace Go.Proofs.YtgdooockldgdlaaGreatDoor.Mem
open Go.RowKit
theorem grown_empty {w w1 : World} {t : TypeId} (h : (w.alloc (.cells #[] t)).grownBy w1 (Value.ownBlock (.slice (some ⟨w.heap.size, 0, none⟩) 0 0))) : Below w.heap.size w w1 :=
 (below_new' w _).grown h (by simp) (fun k hk => by simp [Value.ownBlock] at hk; omega)
theorem infoDelta : (Tryz.prog.info? 38).map (fun i => (i.zero, i.size, i.bytes)) = some (some (.agg #[.string ByteArray.empty, .int .u64 0]), 2, 24) := by kernel_rfl
theorem clipDelta (A : Option Addr) (n c : Nat) (w : World) (hn : n ≤ c) :
  Calls Tryz.prog 97 #[.slice A n c] w fun e w' => e = .returned (.slice A n n) ∧ w = w' := by
 go_enter Tryz.func97, Tryz.ntmps97
 go_wp2
 go_ret
 exact ⟨rfl, rfl⟩
theorem infoLabel : (Tryz.prog.info? 230).map (fun i => (i.zero, i.size, i.bytes)) = some (some (.agg #[.string ByteArray.empty, .string ByteArray.empty]), 2, 32) := by kernel_rfl
theorem cloneLabel (M : List Nat) (v : Value) (n : Nat) (xs : List Value) (w : World) (h : Rd w M 2 v n xs) (h1 : ∀ u ∈ xs, u.oneCell' = true) (hb : n * 32 ≤ 140737488355328) :
  Calls Tryz.prog 251 #[v] w fun e w' => ∃ v', e = .returned v' ∧ w'.ownsRow w.heap.size 230 2 v' n xs ∧ Below w.heap.size w w' := by
 obtain ⟨A, c, rfl, hc, hr⟩ := h.reads
 obtain ⟨i0, hi0, hz0, hz1, hz2⟩ := info_parts infoLabel
 have Hr := Lib.hid hr; have Hb := Lib.hid hb; have Hx := Lib.hid h1; have Hh := Lib.hid h
 have Hi0 := Lib.hid hi0; have Hz0 := Lib.hid hz0; have Hz1 := Lib.hid hz1; have Hz2 := Lib.hid hz2
 clear hr hb h1 h hi0 hz0 hz1 hz2
 have he := fun W => Lib.run_eql_slice_nil (P := Tryz.prog) W 163 _ A n c 0 0 Tryz.underlying163
 rcases A with _ | ad
 ·go_enter Tryz.func251, Tryz.ntmps251
  go_wp2
  go_ret
  have hn : n = 0 := by
   rcases Nat.eq_zero_or_pos n with h | h
   ·exact h
   ·obtain ⟨_, he, _⟩ := Hr.out.2 h; cases he
  subst hn
  have hx : xs = [] := List.eq_nil_of_length_eq_zero (by simpa using Hr.out.1)
  subst hx
  exact ⟨_, rfl, World.ownsRow_nil _ _ _ _, Below.refl _ _⟩
 ·go_enter Tryz.func251, Tryz.ntmps251
  go_wp2_with (at_builtin; refine wpList_append_any _ rfl (.tmp 5) (.tmp 6) _ rfl w.heap.size 230 i0 _ 2 32 Tryz.underlying163 Hi0.out Hz0.out Hz1.out Hz2.out rfl (by omega) (.slice (some ⟨w.heap.size, 0, none⟩) 0 0) 0 [] rfl (World.ownsRow_made w #[] 0 (Nat.le_refl _) (by unfold maxLen; omega) rfl) w.heap.size (some ad) n c xs rfl (Hr.out.alloc (Nat.le_refl _) _) Hx.out ?_ ?_ ?_ ?_)
  ·have := Hb.out; unfold maxLen; omega
  ·have := Hb.out; omega
  ·simp
  ·intro v' w1 hown hg hat
   have H1 := Lib.hid hown; clear hown
   have H2 := Lib.hid hg; clear hg
   clear hat
   go_wp2
   go_ret
   exact ⟨v', rfl, by simpa using H1.out, grown_empty H2.out⟩
theorem clipLabel (A : Option Addr) (n c : Nat) (w : World) (hn : n ≤ c) :
  Calls Tryz.prog 149 #[.slice A n c] w fun e w' => e = .returned (.slice A n n) ∧ w = w' := by
 go_enter Tryz.func149, Tryz.ntmps149
 go_wp2
 go_ret
 exact ⟨rfl, rfl⟩
theorem infoI64 : (Tryz.prog.info? 2).map (fun i => (i.zero, i.size, i.bytes)) = some (some (.int .i64 0), 1, 8) := by kernel_rfl
theorem cloneI64 (M : List Nat) (v : Value) (n : Nat) (xs : List Value) (w : World) (h : Rd w M 1 v n xs) (h1 : ∀ u ∈ xs, u.oneCell' = true) (hb : n * 8 ≤ 140737488355328) :
  Calls Tryz.prog 99 #[v] w fun e w' => ∃ v', e = .returned v' ∧ w'.ownsRow w.heap.size 2 1 v' n xs ∧ Below w.heap.size w w' := by
 obtain ⟨A, c, rfl, hc, hr⟩ := h.reads
 obtain ⟨i0, hi0, hz0, hz1, hz2⟩ := info_parts infoI64
 have Hr := Lib.hid hr; have Hb := Lib.hid hb; have Hx := Lib.hid h1; have Hh := Lib.hid h
 have Hi0 := Lib.hid hi0; have Hz0 := Lib.hid hz0; have Hz1 := Lib.hid hz1; have Hz2 := Lib.hid hz2
 clear hr hb h1 h hi0 hz0 hz1 hz2
 have he := fun W => Lib.run_eql_slice_nil (P := Tryz.prog) W 99 _ A n c 0 0 Tryz.underlying99
 rcases A with _ | ad
 ·go_enter Tryz.func99, Tryz.ntmps99
  go_wp2
  go_ret
  have hn : n = 0 := by
   rcases Nat.eq_zero_or_pos n with h | h
   ·exact h
   ·obtain ⟨_, he, _⟩ := Hr.out.2 h; cases he
  subst hn
  have hx : xs = [] := List.eq_nil_of_length_eq_zero (by simpa using Hr.out.1)
  subst hx
  exact ⟨_, rfl, World.ownsRow_nil _ _ _ _, Below.refl _ _⟩
 ·go_enter Tryz.func99, Tryz.ntmps99
  go_wp2_with (at_builtin; refine wpList_append_any _ rfl (.tmp 5) (.tmp 6) _ rfl w.heap.size 2 i0 _ 1 8 Tryz.underlying99 Hi0.out Hz0.out Hz1.out Hz2.out rfl (by omega) (.slice (some ⟨w.heap.size, 0, none⟩) 0 0) 0 [] rfl (World.ownsRow_made w #[] 0 (Nat.le_refl _) (by unfold maxLen; omega) rfl) w.heap.size (some ad) n c xs rfl (Hr.out.alloc (Nat.le_refl _) _) Hx.out ?_ ?_ ?_ ?_)
  ·have := Hb.out; unfold maxLen; omega
  ·have := Hb.out; omega
  ·simp
  ·intro v' w1 hown hg hat
   have H1 := Lib.hid hown; clear hown
   have H2 := Lib.hid hg; clear hg
   clear hat
   go_wp2
   go_ret
   exact ⟨v', rfl, by simpa using H1.out, grown_empty H2.out⟩

end Go.Proofs.YtgdooockldgdlaaGreatDoor.Mem
end
section
namespace Go.Proofs.YtgdooockldgdlaaGreatDoor.Vi
open Go.RowKit Base Mem
def bV (x : UInt8) : Value := .int .u8 x.toNat
/-- v reads as these bytes. -/
def Bs (w : World) (M : List Nat) (v : Value) (l : List UInt8) : Prop := Rd w M 1 v l.length (l.map bV)
theorem Bs.keep {w w' : World} {M M' : List Nat} {v : Value} {l : List UInt8} (h : Bs w M v l) (k : Keeps M' w w') (hM : ∀ g ∈ M', g ∈ M ∨ w.heap.size ≤ g) : Bs w' M v l := Rd.keep h k hM
theorem Bs.avoid {w : World} {M M' : List Nat} {v : Value} {l : List UInt8} (h : Bs w M v l) (hM : ∀ g ∈ M', g ∈ M ∨ w.heap.size ≤ g) : Bs w M' v l := Rd.avoid h hM
theorem Bs.len {w : World} {M : List Nat} {v : Value} {l : List UInt8} (h : Bs w M v l) : ∃ A c, v = .slice A l.length c ∧ l.length ≤ c := by
 obtain ⟨A, c, rfl, hc, _⟩ := h
 exact ⟨A, c, rfl, hc⟩
theorem Bs.nil (w : World) (M : List Nat) : Bs w M (.slice none 0 0) [] := ⟨none, 0, rfl, Nat.le_refl _, rfl, fun h => absurd h (by simp)⟩
/-- A string's bytes. -/
def sB (s : ByteArray) : List UInt8 := s.data.toList
/-- What an append onto a full row leaves. -/
structure Onto (w w' : World) (v v' : Value) (n m : Nat) (xs ys : List Value) : Prop where
 below : Below w.heap.size w w'
 reads : ∀ M, (∀ g ∈ M, g < w.heap.size) → Rd w M 1 v n xs → Rd w' M 1 v' (n + m) (xs ++ ys)

/-- A part of bytes. -/
theorem Bs.part {w : World} {M : List Nat} {g off c : Nat} {l : List UInt8} (h : Bs w M (.slice (some ⟨g, off, none⟩) l.length c) l) (k n : Nat) (hk : k + n ≤ l.length) (c' : Nat) (hc : n ≤ c') (a : Option Addr) (ha : 0 < n → a = some ⟨g, off + k, none⟩) :
  Bs w M (.slice a ((l.drop k).take n).length c') ((l.drop k).take n) := by
 obtain ⟨A', c'', he, _, _, hr⟩ := h
 injection he with h1 h2 h3
 subst h1
 have hlen : ((l.drop k).take n).length = n := by rw [List.length_take, List.length_drop]; omega
 refine ⟨a, c', rfl, by omega, by simp, fun hn => ?_⟩
 obtain ⟨g', off', e, hg, hm, hx⟩ := hr (by omega)
 injection e with e
 injection e with e1 e2 _
 subst e1 e2
 refine ⟨g, off + k, ha (by omega), hg, hm, fun j u hu => ?_⟩
 have hj : j < n := by have := (List.getElem?_eq_some_iff.1 hu).1; rw [List.length_map, hlen] at this; exact this
 rw [Nat.add_assoc]
 refine hx (k + j) u ?_
 rw [List.getElem?_map] at hu ⊢
 rw [List.getElem?_take_of_lt hj, List.getElem?_drop] at hu
 exact hu
/-- A reader lies in block p: what is left, and whether something was not there. -/
def RdAt (w : World) (M : List Nat) (p : Nat) (l : List UInt8) (bad : Bool) : Prop := l.length ≤ 4611686018427387904 ∧ ∃ v, Blk w p 287 #[v, .bool bad] ∧ Bs w (p :: M) v l
theorem RdAt.lt {w : World} {M : List Nat} {p : Nat} {l : List UInt8} {bad : Bool} (h : RdAt w M p l bad) : p < w.heap.size := by obtain ⟨_, _, h, _⟩ := h; exact h.lt
theorem RdAt.keep {w w' : World} {M M' : List Nat} {p : Nat} {l : List UInt8} {bad : Bool} (h : RdAt w M p l bad) (k : Keeps M' w w') (hM : ∀ g ∈ M', g ∈ M ∨ w.heap.size ≤ g) (hp : p ∉ M') : RdAt w' M p l bad := by
 obtain ⟨hl, v, hb, hs⟩ := h
 exact ⟨hl, v, k.blk hb hp, hs.keep k (fun g hg => (hM g hg).imp (fun h => List.mem_cons_of_mem _ h) id)⟩
theorem RdAt.avoid {w : World} {M M' : List Nat} {p : Nat} {l : List UInt8} {bad : Bool} (h : RdAt w M p l bad) (hM : ∀ g ∈ M', g ∈ M ∨ w.heap.size ≤ g) : RdAt w M' p l bad := by
 obtain ⟨hl, v, hb, hs⟩ := h
 exact ⟨hl, v, hb, hs.avoid (fun g hg => by
  rcases List.mem_cons.1 hg with rfl | hg
  ·exact .inl (by simp)
  ·exact (hM g hg).imp (fun h => List.mem_cons_of_mem _ h) id)⟩
theorem RdAt.setB {w : World} {M : List Nat} {p : Nat} {l l' : List UInt8} {bad : Bool} {v' : Value} (h : RdAt w M p l bad) (hl : l'.length ≤ l.length) (hv : Bs w (p :: M) v' l') : RdAt (w.setCell ⟨p, 0, none⟩ v') M p l' bad := by
 obtain ⟨hl0, v, hb, hs⟩ := h
 exact ⟨by omega, v', by simpa using hb.set_ 0 v', hv.keep (M' := [p]) ((Keeps.refl _ _).setCell (by simp) _) (fun g hg => .inl (by simp at hg; simp [hg]))⟩
/-- What is left behind k bytes. -/
theorem Bs.behind {w : World} {M : List Nat} {g off c : Nat} {l : List UInt8} (h : Bs w M (.slice (some ⟨g, off, none⟩) l.length c) l) (k : Nat) (hk : k ≤ l.length) (hc : l.length ≤ c) :
  Bs w M (.slice (some ⟨g, off + k, none⟩) (l.length - k) (c - k)) (l.drop k) := by
 have h1 := h.part k (l.length - k) (by omega) (c - k) (by omega) (some ⟨g, off + k, none⟩) (fun _ => rfl)
 have h2 : (l.drop k).take (l.length - k) = l.drop k := List.take_of_length_le (by rw [List.length_drop]; exact Nat.le_refl _)
 rw [h2, List.length_drop] at h1
 exact h1

def charOk (c : UInt8) : Bool := (97 ≤ c.toNat && c.toNat ≤ 122) || (48 ≤ c.toNat && c.toNat ≤ 57) || c.toNat == 95
def nameOk (s : ByteArray) : Bool := decide (1 ≤ s.size) && decide (s.size ≤ 32) && (sB s).all charOk
theorem sB_len (s : ByteArray) : (sB s).length = s.size := rfl
set_option maxRecDepth 100000 in
set_option maxHeartbeats 1000000 in
theorem name_any (s : ByteArray) (w : World) : Calls Tryz.prog 250 #[.string s] w fun e w' => e = .returned (.bool (nameOk s)) ∧ w = w' := by
  have Hn : Hid (nameOk s = (decide (1 ≤ s.size) && decide (s.size ≤ 32) && (sB s).all charOk)) := rfl
  have hs0 : s.toList.length = s.size := by rw [ByteArray.toList_eq]; rfl
  by_cases h0 : s.size = 0
  · have hz : s.toList = [] := List.length_eq_zero_iff.1 (by rw [hs0, h0])
    have hz2 : s.toList.isEmpty = true := by rw [hz]; rfl
    have hR : Hid (nameOk s = false) := by show _ = _; rw [Hn.out]; simp [h0]
    rw [hR.out]
    go_enter Tryz.func250, Tryz.ntmps250
    go_wp2
    go_ret
    exact ⟨rfl, rfl⟩
  · have hz : s.toList ≠ [] := fun h => h0 (by rw [← hs0, h]; rfl)
    have hz2 : s.toList.isEmpty = false := by simpa using hz
    by_cases h32 : 32 < s.size
    · have hi : (32 : Int) < (s.size : Int) := by omega
      have hR : Hid (nameOk s = false) := by show _ = _; rw [Hn.out]; simp; omega
      rw [hR.out]
      go_enter Tryz.func250, Tryz.ntmps250
      go_wp2
      go_ret
      exact ⟨rfl, rfl⟩
    · have hi : decide ((32 : Int) < (s.size : Int)) = false := decide_eq_false (by omega)
      go_enter Tryz.func250, Tryz.ntmps250
      go_wp2_with fail
      go_loopw [14] (fun i wr => ∃ x : Nat, i = .int .i64 x ∧ x ≤ s.size ∧ Hid (((sB s).take x).all charOk = true) ∧ w = wr) (fun i _ => s.size - (intOf i).toNat)
      case atStart => exact ⟨0, rfl, by omega, rfl, rfl⟩
      case round =>
        obtain ⟨x, rfl, hx, Ht, rfl⟩ := hrel
        by_cases hlt : x < s.size
        · have hx1 : (x : Int) < (s.size : Int) := by omega
          have hxb : x < (sB s).length := hlt
          have hget : (sB s)[x] = s[x] := rfl
          have Hnx : Hid (((sB s).take (x + 1)).all charOk = charOk s[x]) := by
            show _ = _
            rw [List.take_succ_eq_append_getElem hxb, List.all_append, Ht.out, hget]; simp
          have Hall : Hid (charOk s[x] = false → nameOk s = false) := fun h => by
            rw [Hn.out]
            have : (sB s).all charOk = false := by
              rw [List.all_eq_false]
              exact ⟨(sB s)[x], List.getElem_mem _, by rw [hget, h]; simp⟩
            rw [this]; simp
          have Hch : Hid (charOk s[x] = ((decide (97 ≤ s[x].toNat) && decide (s[x].toNat ≤ 122)) || (decide (48 ≤ s[x].toNat) && decide (s[x].toNat ≤ 57)) || s[x].toNat == 95)) := rfl
          clear hget
          have Hny : Hid (charOk s[x] = true → ((sB s).take (x + 1)).all charOk = true) := fun h => Hnx.out.trans h
          clear Hnx
          go_wp2
          all_goals first
            | (go_roundw
               case rel =>
                 refine ⟨x + 1, by go_num, by omega, Hny.out ?_, trivial⟩
                 rw [Hch.out]
                 simp only [bne_eq_false_iff_eq, bne_iff_ne, ne_eq] at *
                 simp
                 omega
               case measure => simp [intOf] <;> omega)
            | (go_ret
               rw [Hall.out (by
                 rw [Hch.out]
                 simp only [bne_eq_false_iff_eq, bne_iff_ne, ne_eq] at *
                 simp
                 omega)]
               exact ⟨rfl, rfl⟩)
        · obtain rfl : x = s.size := by omega
          have hR : Hid (nameOk s = true) := by
            show _ = _
            rw [Hn.out]
            have := Ht.out
            rw [List.take_of_length_le (by rw [sB_len]; exact Nat.le_refl _)] at this
            rw [this]; simp; omega
          go_wp2
          go_ret
          rw [hR.out]
          exact ⟨rfl, rfl⟩
end Go.Proofs.YtgdooockldgdlaaGreatDoor.Vi
end
