/- Texts put together: LeadP, RqT, RqI, RqK, McK, RqC, RSame, RLogs, RqD. -/
import Derived.Deep.DeepCutAuto
import Derived.Deep.RegionWith
import Derived.BigQuiet
import Derived.Test.YtdaceeijifjpeaaGreatDoorRT4
import Derived.Test.YtdaceeijifjpeaaGreatDoorRT6
import Derived.Test.YtdaceeijifjpeaaGreatDoorRT9
import Derived.Test.YtdaceeijifjpeaaGreatDoorRT11
import Derived.Test.YtdaceeijifjpeaaGreatDoorRT12
import Derived.Test.YtdaceeijifjpeaaGreatDoorRT13
set_option linter.unusedVariables false
set_option linter.unusedSimpArgs false
section
namespace Go.Proofs.YtdaceeijifjpeaaGreatDoor.Lead
open Go.RowKit Base Mem
/-- How many of a list are at least x, more than x. -/
def ge (l : List Int) (x : Int) : Nat := l.countP fun y => decide (x ≤ y)
def gt (l : List Int) (x : Int) : Nat := l.countP fun y => decide (x < y)
theorem sorted_split {l : List Int} (hs : l.Pairwise (· ≤ ·)) {j : Nat} (hj : j < l.length) : l.length - j ≤ ge l l[j] ∧ gt l l[j] ≤ l.length - 1 - j := by
 induction l generalizing j with
 | nil => simp at hj
 | cons a l ih =>
  obtain ⟨h1, h2⟩ := List.pairwise_cons.1 hs
  cases j with
  | zero =>
   constructor
   ·unfold ge
    have : (a :: l).countP (fun y => decide (a ≤ y)) = (a :: l).length := List.countP_eq_length.2 (by
     intro y hy; rcases List.mem_cons.1 hy with rfl | hy
     ·simp
     ·simpa using h1 y hy)
    simp only [List.getElem_cons_zero]; omega
   ·unfold gt
    simp only [List.getElem_cons_zero]
    rw [List.countP_cons_of_neg (by simp)]
    have := List.countP_le_length (p := fun y => decide (a < y)) (l := l)
    simp; omega
  | succ j =>
   have hj' : j < l.length := by simpa using hj
   obtain ⟨i1, i2⟩ := ih h2 hj'
   have ha := h1 l[j] (List.getElem_mem hj')
   constructor
   ·unfold ge at i1 ⊢
    simp only [List.getElem_cons_succ]
    rw [List.countP_cons]
    simp only [List.length_cons]; omega
   ·unfold gt at i2 ⊢
    simp only [List.getElem_cons_succ]
    rw [List.countP_cons_of_neg (by simpa using ha)]
    simp; omega
theorem med_mem {l : List Int} {k : Nat} (hk : 1 ≤ k) (hl : k ≤ l.length) : medS l k ∈ l.take k ∧ k / 2 < ge (l.take k) (medS l k) ∧ gt (l.take k) (medS l k) ≤ k / 2 := by
 have hp := List.mergeSort_perm (l.take k) fun x y => decide (x ≤ y)
 have hs : ((l.take k).mergeSort fun x y => decide (x ≤ y)).Pairwise (· ≤ ·) := by
  have := List.pairwise_mergeSort (le := fun x y : Int => decide (x ≤ y)) (by intro a b c h1 h2; simp at *; omega) (by intro a b; simp; omega) (l.take k)
  exact this.imp (by intro a b h; simpa using h)
 have hlen : ((l.take k).mergeSort fun x y => decide (x ≤ y)).length = k := by rw [List.length_mergeSort, List.length_take]; omega
 have hj : (k - 1) / 2 < ((l.take k).mergeSort fun x y => decide (x ≤ y)).length := by omega
 have hm : medS l k = ((l.take k).mergeSort fun x y => decide (x ≤ y))[(k - 1) / 2] := by
  unfold medS; rw [List.getD_eq_getElem?_getD, List.getElem?_eq_getElem hj]; rfl
 obtain ⟨h1, h2⟩ := sorted_split hs hj
 rw [← hm, hlen] at h1 h2
 refine ⟨?_, ?_, ?_⟩
 ·rw [hm]; exact hp.mem_iff.1 (List.getElem_mem hj)
 ·have : ge (l.take k) (medS l k) = ge ((l.take k).mergeSort fun x y => decide (x ≤ y)) (medS l k) := (hp.countP_eq _).symm
  omega
 ·have : gt (l.take k) (medS l k) = gt ((l.take k).mergeSort fun x y => decide (x ≤ y)) (medS l k) := (hp.countP_eq _).symm
  omega
end Go.Proofs.YtdaceeijifjpeaaGreatDoor.Lead
end
section
namespace Go.Proofs.YtdaceeijifjpeaaGreatDoor.Vi
open Go.RowKit Base Mem Go.Shelf Tape
open Lead (VoteD promiseS wonS accS medS termS newVote taken better med_mem ge)
open Px (upd upd_same upd_ne Quo Inv)
abbrev PSt := Px.St EntryD
theorem take_range (l : List Int) (n : Nat) (h : n ≤ l.length) : l.take n = (List.range n).map fun j => l.getD j 0 := by
 apply List.ext_getElem
 ·simp; omega
 ·intro i h1 h2
  simp at h1 h2
  rw [List.getElem_take, List.getElem_map, List.getElem_range, List.getD_eq_getElem?_getD, List.getElem?_eq_getElem (by omega)]
  rfl
theorem med_quo {l : List Int} {N : Nat} (h1 : 1 ≤ N) (h8 : N ≤ l.length) {f : Nat → Nat} (hf : ∀ j, j < N → l.getD j 0 = f j) : Quo N fun j => decide ((medS l N).toNat ≤ f j) := by
 obtain ⟨_, h2, _⟩ := med_mem h1 h8
 unfold ge at h2
 rw [take_range l N h8, List.countP_map] at h2
 unfold Quo
 have : (List.range N).countP ((fun y => decide (medS l N ≤ y)) ∘ fun j => l.getD j 0) ≤ (List.range N).countP fun j => decide ((medS l N).toNat ≤ f j) :=
  List.countP_mono_left (fun x hx hp => by
   simp only [Function.comp] at hp
   have := of_decide_eq_true hp
   rw [hf x (List.mem_range.1 hx)] at this
   exact decide_eq_true (by omega))
 omega
theorem count_range (l : List Bool) (N : Nat) (hN : N ≤ l.length) (ho : ∀ j, N ≤ j → l.getD j false = false) : l.count true = (List.range N).countP fun j => l.getD j false := by
 have h1 : l.count true = (l.take N).count true + (l.drop N).count true := by rw [← List.count_append, List.take_append_drop]
 have h2 : (l.drop N).count true = 0 := by
  rw [List.count_eq_zero]
  intro hm
  obtain ⟨i, hi, he⟩ := List.getElem_of_mem hm
  rw [List.getElem_drop] at he
  have h3 := ho (N + i) (by omega)
  rw [List.length_drop] at hi
  rw [List.getD_eq_getElem?_getD, List.getElem?_eq_getElem (by omega)] at h3
  simp at h3
  rw [h3] at he
  cases he
 have h3 : l.take N = (List.range N).map fun j => l.getD j false := by
  apply List.ext_getElem
  ·simp; omega
  ·intro i h1 h2
   simp at h1 h2
   rw [List.getElem_take, List.getElem_map, List.getElem_range, List.getD_eq_getElem?_getD, List.getElem?_eq_getElem (by omega)]
   rfl
 rw [h1, h2, h3, List.count_eq_countP, List.countP_map]
 simp only [Nat.add_zero]
 refine List.countP_congr (fun x _ => ?_)
 simp
/-- A vote, as the protocol sees it. -/
structure VRel (N : Nat) (v : VoteD) (x : Px.Vt EntryD) : Prop where
 term : v.term = x.term
 nodes : v.nodes = N
 pl : v.prom.length = 8
 prom : ∀ j, j < N → x.P j = v.prom.getD j false
 out : ∀ j, N ≤ j → v.prom.getD j false = false
 had : v.had = x.h
 best : v.best = x.best
 n1 : 1 ≤ v.n
 cnt : v.n = (v.prom.count true : Nat)
 al : v.acc.length = 8
 acc : ∀ j, j < N → v.acc.getD j 0 = x.acc j
structure NRel (N i : Nat) (R : RpD) (s : PSt) : Prop where
 nd : R.node = i ∧ R.nodes = N
 t : s.t i = R.x.t
 h : s.h i = R.x.h
 log : s.log i = R.x.log
 com : s.com i = R.com
 lead : s.lead i = R.leads
 v : (R.v = none ∧ s.v i = none) ∨ ∃ v x, R.v = some v ∧ s.v i = some x ∧ VRel N v x
 lw : R.leads = true → ∃ v, R.v = some v ∧ wonS v = true
def OthI (i : Nat) (s s' : PSt) : Prop := ∀ j, j ≠ i → s'.t j = s.t j ∧ s'.h j = s.h j ∧ s'.log j = s.log j ∧ s'.com j = s.com j ∧ s'.v j = s.v j ∧ s'.lead j = s.lead j
structure Says (s s' : PSt) : Prop where
 sp : ∀ a b c d, s.SP a b c d → s'.SP a b c d
 sa : ∀ a b c, s.SA a b c → s'.SA a b c
 sd : ∀ a b c, s.SD a b c → s'.SD a b c
structure Stp (N i : Nat) (s : PSt) (R : RpD) (s' : PSt) : Prop where
 inv : Inv N s'
 oth : OthI i s s'
 says : Says s s'
 rel : NRel N i R s'
theorem OthI.refl (i : Nat) (s : PSt) : OthI i s s := fun _ _ => ⟨rfl, rfl, rfl, rfl, rfl, rfl⟩
theorem OthI.trans {i : Nat} {s s1 s2 : PSt} (h : OthI i s s1) (k : OthI i s1 s2) : OthI i s s2 := fun j hj => by
 obtain ⟨a1, a2, a3, a4, a5, a6⟩ := h j hj
 obtain ⟨b1, b2, b3, b4, b5, b6⟩ := k j hj
 exact ⟨b1.trans a1, b2.trans a2, b3.trans a3, b4.trans a4, b5.trans a5, b6.trans a6⟩
theorem Says.refl (s : PSt) : Says s s := ⟨fun _ _ _ _ h => h, fun _ _ _ h => h, fun _ _ _ h => h⟩
theorem Says.trans {s s1 s2 : PSt} (h : Says s s1) (k : Says s1 s2) : Says s s2 := ⟨fun _ _ _ _ q => k.sp _ _ _ _ (h.sp _ _ _ _ q), fun _ _ _ q => k.sa _ _ _ (h.sa _ _ _ q), fun _ _ _ q => k.sd _ _ _ (h.sd _ _ _ q)⟩
theorem Stp.refl {N i : Nat} {s : PSt} {R : RpD} (hI : Inv N s) (h : NRel N i R s) : Stp N i s R s := ⟨hI, .refl i s, .refl s, h⟩
theorem Stp.after {N i : Nat} {s s1 s2 : PSt} {R1 R2 : RpD} (h : Stp N i s R1 s1) (k : Stp N i s1 R2 s2) : Stp N i s R2 s2 := ⟨k.inv, h.oth.trans k.oth, h.says.trans k.says, k.rel⟩
theorem NRel.other {N i j : Nat} {R : RpD} {s s' : PSt} (h : NRel N j R s) (ho : OthI i s s') (hj : j ≠ i) : NRel N j R s' := by
 obtain ⟨a1, a2, a3, a4, a5, a6⟩ := ho j hj
 exact ⟨h.nd, by rw [a1]; exact h.t, by rw [a2]; exact h.h, by rw [a3]; exact h.log, by rw [a4]; exact h.com, by rw [a6]; exact h.lead, by rw [a5]; exact h.v, h.lw⟩
/-- A letter that node k may have sent. -/
structure LetI (N : Nat) (s : PSt) (k : Nat) (m : MsgD) : Prop where
 ask : m.kd ≠ 1
 sp : m.kd = 4 → s.SP k m.term.toNat m.had.toNat m.log
 sa : m.kd = 5 → s.SA m.term.toNat m.log m.commit.toNat ∧ m.term.toNat % N = k
 sd : m.kd = 6 → s.SD k m.term.toNat m.len.toNat
theorem LetI.says {N k : Nat} {s s' : PSt} {m : MsgD} (h : LetI N s k m) (hs : Says s s') : LetI N s' k m := ⟨h.ask, fun e => hs.sp _ _ _ _ (h.sp e), fun e => ⟨hs.sa _ _ _ (h.sa e).1, (h.sa e).2⟩, fun e => hs.sd _ _ _ (h.sd e)⟩
section
variable {N i : Nat} {s : PSt} {R : RpD}
theorem down_st (hI : Inv N s) (h : NRel N i R s) : Stp N i s (rpDown R) (Px.down s i) :=
  ⟨hI.down i, fun j hj => ⟨rfl, rfl, rfl, rfl, upd_ne _ _ hj, upd_ne _ _ hj⟩, ⟨fun _ _ _ _ h => h, fun _ _ _ h => h, fun _ _ _ h => h⟩,
   ⟨h.nd, h.t, h.h, h.log, h.com, upd_same _ _ _, .inl ⟨rfl, upd_same _ _ _⟩, fun e => (nomatch e)⟩⟩
/-- A promise. -/
theorem prom_st (hI : Inv N s) (h : NRel N i R s) {term : Int} (hp : (rpPromise R term).1 = true) :
  (R.x.t : Int) < term ∧ (rpPromise R term).2 = rpKept R ⟨term.toNat, R.x.h, R.x.log⟩ ∧ Stp N i s (rpDown (rpPromise R term).2) (Px.prom s i term.toNat) := by
 have hlt : (R.x.t : Int) < term := Classical.byContradiction fun hc => by
  unfold rpPromise at hp
  rw [if_neg hc] at hp
  cases hp
 have hk : KpOk ⟨term.toNat, R.x.h, R.x.log⟩ R.b := Classical.byContradiction fun hc => by
  unfold rpPromise rpKeep at hp
  rw [if_pos hlt, if_neg hc] at hp
  cases hp
 have he : (rpPromise R term).2 = rpKept R ⟨term.toNat, R.x.h, R.x.log⟩ := by
  unfold rpPromise
  rw [if_pos hlt, rpKeep_ok hk]
 refine ⟨hlt, he, ?_⟩
 rw [he]
 have hst : s.t i < term.toNat := by rw [h.t]; omega
 exact ⟨hI.prom i _ hst, fun j hj => ⟨upd_ne _ _ hj, rfl, rfl, rfl, upd_ne _ _ hj, upd_ne _ _ hj⟩, ⟨fun _ _ _ _ h => .inl h, fun _ _ _ h => h, fun _ _ _ h => h⟩,
  ⟨h.nd, upd_same _ _ _, h.h, h.log, h.com, upd_same _ _ _, .inl ⟨rfl, upd_same _ _ _⟩, fun e => (nomatch e)⟩⟩
/-- Some are applied. -/
theorem rpApply_parts (R : RpD) (n : Int) : (rpApply R n).1.node = R.node ∧ (rpApply R n).1.nodes = R.nodes ∧ (rpApply R n).1.x = R.x ∧ (rpApply R n).1.v = R.v ∧ (rpApply R n).1.leads = R.leads ∧ (rpApply R n).1.com = max R.com (min n.toNat R.x.log.length) ∧ ∀ q ∈ (rpApply R n).2, q.m.kd = 2 := by
 obtain ⟨s1, s2, s3, s4, s5, _⟩ := rpSteps_same ((R.x.log.take n.toNat).drop R.com) R
 obtain ⟨c1, _⟩ := rpSteps_com ((R.x.log.take n.toNat).drop R.com) R
 refine ⟨s1, s2, s3, s4, s5, ?_, ?_⟩
 ·show (rpSteps _ R).1.com = _
  rw [c1, List.length_drop, List.length_take]
  omega
 ·have : ∀ (l : List EntryD) (R : RpD), ∀ q ∈ (rpSteps l R).2, q.m.kd = 2 := by
   intro l
   induction l with
   | nil => intro R q hq; cases hq
   | cons e l ih =>
    intro R q hq
    rcases List.mem_append.1 hq with h1 | h1
    ·unfold rpStep at h1
     simp only [] at h1
     split at h1
     ·simp at h1; subst h1; rfl
     ·cases h1
    ·exact ih _ q h1
  exact this _ R
theorem let2 {q : SentD} (s : PSt) (k : Nat) (h : q.m.kd = 2) : LetI N s k q.m := ⟨by omega, fun e => by omega, fun e => by omega, fun e => by omega⟩
theorem let3 {q : SentD} (s : PSt) (k : Nat) (h : q.m.kd = 3) : LetI N s k q.m := ⟨by omega, fun e => by omega, fun e => by omega, fun e => by omega⟩
/-- What is committed is set to more. -/
theorem com_st (hI : Inv N s) (h : NRel N i R s) (n : Nat) (hc : Inv N (Px.setCom s i (min n (s.log i).length))) (R' : RpD) (h1 : R'.node = R.node ∧ R'.nodes = R.nodes ∧ R'.x = R.x ∧ R'.v = R.v ∧ R'.leads = R.leads) (h2 : R'.com = max R.com (min n R.x.log.length)) :
  ∃ s', Stp N i s R' s' ∧ s'.lead i = s.lead i ∧ s'.h i = s.h i ∧ s'.t i = s.t i := by
 obtain ⟨a1, a2, a3, a4, a5⟩ := h1
 by_cases hlt : R.com < min n R.x.log.length
 ·refine ⟨_, ⟨hc, fun j hj => ⟨rfl, rfl, rfl, upd_ne _ _ hj, rfl, rfl⟩, ⟨fun _ _ _ _ h => h, fun _ _ _ h => h, fun _ _ _ h => h⟩, ⟨by rw [a1, a2]; exact h.nd, by rw [a3]; exact h.t, by rw [a3]; exact h.h, by rw [a3]; exact h.log, ?_, by rw [a5]; exact h.lead, by rw [a4]; exact h.v, by rw [a4, a5]; exact h.lw⟩⟩, rfl, rfl, rfl⟩
  show upd s.com i _ i = _
  rw [upd_same, h2, h.log]
  omega
 ·exact ⟨s, ⟨hI, .refl i s, .refl s, ⟨by rw [a1, a2]; exact h.nd, by rw [a3]; exact h.t, by rw [a3]; exact h.h, by rw [a3]; exact h.log, by rw [h2, h.com]; omega, by rw [a5]; exact h.lead, by rw [a4]; exact h.v, by rw [a4, a5]; exact h.lw⟩⟩, rfl, rfl, rfl⟩
theorem acc_get {l : List Int} (hl : l.length = 8) {k : Nat} (hk : k < 8) (n : Int) (j : Nat) : (l.set k n).getD j 0 = if j = k then n else l.getD j 0 := by
 rw [List.getD_eq_getElem?_getD, List.getElem?_set, List.getD_eq_getElem?_getD]
 by_cases e : k = j
 ·subst e
  rw [if_pos rfl, if_pos rfl, if_pos (by omega)]
  rfl
 ·rw [if_neg e, if_neg (fun h => e h.symm)]
/-- What a node has accepted is counted by a leader. -/
theorem counted_st (hI : Inv N s) (h : NRel N i R s) (hN : 1 ≤ N ∧ N ≤ 8) (hl : R.leads = true) {v : VoteD} (hv : R.v = some v) (k n : Nat) (hk : k < N) (hn : n ≤ s.A k v.term.toNat) :
  ∃ s', Stp N i s (rpCounted R v k n).1 s' ∧ s'.lead i = true ∧ s'.h i = s.h i ∧ s'.t i = s.t i ∧ ∀ q ∈ (rpCounted R v k n).2, q.m.kd = 2 := by
 obtain ⟨v', x, e1, e2, hV⟩ : ∃ v x, R.v = some v ∧ s.v i = some x ∧ VRel N v x := by
  rcases h.v with ⟨h1, _⟩ | h1
  ·rw [hv] at h1; cases h1
  ·exact h1
 rw [hv] at e1
 injection e1 with e1
 subst e1
 have hlead : s.lead i = true := by rw [h.lead]; exact hl
 have hterm : v.term.toNat = x.term := by rw [hV.term]; rfl
 have hk8 : k < 8 := by omega
 have hacc : accS v k n = v.acc.set k (max (v.acc.getD k 0) n) := by
  unfold accS
  rw [if_pos ⟨by omega, by rw [hV.nodes]; omega⟩, Int.toNat_natCast]
 obtain ⟨x', hx'⟩ : ∃ x' : Px.Vt EntryD, x' = { x with acc := upd x.acc k (max (x.acc k) n) } := ⟨_, rfl⟩
 have hI1 : Inv N (Px.setV s i x') := by rw [hx']; exact hI.note e2 k n (by rw [← hterm]; exact hn)
 have hV1 : VRel N { v with acc := accS v k n } x' := by
  rw [hx', hacc]
  refine ⟨hV.term, hV.nodes, hV.pl, hV.prom, hV.out, hV.had, hV.best, hV.n1, hV.cnt, by rw [List.length_set]; exact hV.al, fun j hj => ?_⟩
  show (v.acc.set k _).getD j 0 = ((upd x.acc k (max (x.acc k) n)) j : Nat)
  rw [acc_get hV.al hk8]
  by_cases e : j = k
  ·subst e
   rw [if_pos rfl, upd_same, hV.acc _ hj]
   omega
  ·rw [if_neg e, upd_ne _ _ e]
   exact hV.acc j hj
 obtain ⟨w1, hw1, hw2⟩ := h.lw hl
 rw [hv] at hw1
 injection hw1 with hw1
 subst hw1
 have hS1 : Stp N i s { R with v := some { v with acc := accS v k n } } (Px.setV s i x') := ⟨hI1, fun j hj => ⟨rfl, rfl, rfl, rfl, upd_ne _ _ hj, rfl⟩, ⟨fun _ _ _ _ h => h, fun _ _ _ h => h, fun _ _ _ h => h⟩,
  ⟨h.nd, h.t, h.h, h.log, h.com, h.lead, .inr ⟨_, x', rfl, upd_same _ _ _, hV1⟩, fun _ => ⟨_, rfl, hw2⟩⟩⟩
 have hq : Quo N fun j => decide ((medS (accS v k n) N).toNat ≤ x'.acc j) := med_quo hN.1 (by rw [hV1.al]; exact hN.2) hV1.acc
 have hvn : v.nodes.toNat = N := by rw [hV.nodes]; rfl
 obtain ⟨p1, p2, p3, p4, p5, p6, p7⟩ := rpApply_parts { R with v := some { v with acc := accS v k n } } (medS (accS v k n) v.nodes.toNat)
 have hcm := Inv.commits (i := i) hI1 (show (Px.setV s i x').lead i = true from hlead) (show (Px.setV s i x').v i = some x' from upd_same _ _ _) hq
 obtain ⟨s', hS', l1, l2, l3⟩ := com_st hI1 hS1.rel (medS (accS v k n) N).toNat hcm (rpCounted R v k n).1 ⟨p1, p2, p3, p4, p5⟩ (by rw [← hvn]; exact p6)
 exact ⟨s', hS1.after hS', l1.trans hlead, l2, l3, p7⟩
theorem toAll_mem {node : Int} {m : MsgD} {n : Nat} {q : SentD} (h : q ∈ toAll node m n) : q.m = m := by
 unfold toAll at h
 obtain ⟨a, _, hb⟩ := List.mem_flatMap.1 h
 split at hb
 ·cases hb
 ·simp at hb; subst hb; rfl
/-- A leader tells its row. -/
theorem accepts_st (hI : Inv N s) (h : NRel N i R s) (hl : R.leads = true) : ∃ s', Stp N i s R s' ∧ (∀ q ∈ rpAccepts R, LetI N s' i q.m) := by
 have hlead : s.lead i = true := by rw [h.lead]; exact hl
 refine ⟨_, ⟨hI.sends hlead, fun _ _ => ⟨rfl, rfl, rfl, rfl, rfl, rfl⟩, ⟨fun _ _ _ _ h => h, fun _ _ _ h => .inl h, fun _ _ _ h => h⟩, ⟨h.nd, h.t, h.h, h.log, h.com, h.lead, h.v, h.lw⟩⟩, fun q hq => ?_⟩
 have hm := toAll_mem hq
 rw [hm]
 refine ⟨by simp [acceptM], fun e => by simp [acceptM] at e, fun _ => ⟨.inr ⟨?_, h.log.symm, ?_⟩, ?_⟩, fun e => by simp [acceptM] at e⟩
 ·show (R.x.t : Int).toNat = s.t i
  rw [h.t]; rfl
 ·show (R.com : Int).toNat = s.com i
  rw [h.com]; rfl
 ·obtain ⟨_, _, v, hv, hvt, _⟩ := hI.leads hlead
  have := (hI.vt i v hv).2.1
  show (R.x.t : Int).toNat % N = i
  rw [Int.toNat_natCast, ← h.t, ← hvt]
  exact this
/-- The answers, and the row told to all. -/
theorem both_st (hI : Inv N s) (h : NRel N i R s) (hi : i < N) (hN : 1 ≤ N ∧ N ≤ 8) (hl : R.leads = true) {v : VoteD} (hv : R.v = some v) : ∃ s', Stp N i s (rpBoth R v).1 s' ∧ ∀ q ∈ (rpBoth R v).2, LetI N s' i q.m := by
 have hlead : s.lead i = true := by rw [h.lead]; exact hl
 obtain ⟨a1, a2, x, a3, a4, _⟩ := hI.leads hlead
 obtain ⟨v', x', e1, e2, hV⟩ : ∃ v x, R.v = some v ∧ s.v i = some x ∧ VRel N v x := by
  rcases h.v with ⟨h1, _⟩ | h1
  ·rw [hv] at h1; cases h1
  ·exact h1
 rw [hv] at e1
 injection e1 with e1
 subst e1
 rw [e2] at a3
 injection a3 with a3
 subst a3
 have hterm : v.term.toNat = s.h i := by rw [hV.term, a1, ← a4]; rfl
 obtain ⟨s1, hS1, l1, l2, l3, l4⟩ := counted_st hI h hN hl hv i R.x.log.length hi (by rw [hterm, hI.al i, h.log]; exact Nat.le_refl _)
 have hnode : (rpCounted R v R.node R.x.log.length) = (rpCounted R v i R.x.log.length) := by rw [h.nd.1]
 have hl2 : (rpCounted R v i R.x.log.length).1.leads = true := by rw [← hS1.rel.lead]; exact l1
 obtain ⟨s2, hS2, h3⟩ := accepts_st hS1.inv hS1.rel hl2
 refine ⟨s2, ?_, fun q hq => ?_⟩
 ·show Stp N i s (rpCounted R v R.node R.x.log.length).1 s2
  rw [hnode]
  exact hS1.after hS2
 ·have hq' : q ∈ (rpCounted R v R.node R.x.log.length).2 ++ rpAccepts (rpCounted R v R.node R.x.log.length).1 := hq
  rw [hnode] at hq'
  rcases List.mem_append.1 hq' with h4 | h4
  ·exact let2 _ _ (l4 q h4)
  ·exact h3 q h4
theorem take_kept {term : Int} {l : List EntryD} (ht : (rpTake R term l).1 = true) : AcOk R.x term l ∧ ((¬ accLong R.x term.toNat l ∧ term = R.x.t) ∧ (rpTake R term l).2 = R ∨ ¬ (¬ accLong R.x term.toNat l ∧ term = R.x.t) ∧ (rpTake R term l).2 = rpKept R (accW R.x term.toNat l)) := by
 unfold rpTake at ht ⊢
 split at ht
 ·rename_i hA
  refine ⟨hA, ?_⟩
  rw [if_pos hA]
  split at ht
  ·rename_i hB
   left
   rw [if_pos hB]
   exact ⟨hB, rfl⟩
  ·rename_i hB
   right
   refine ⟨hB, ?_⟩
   rw [if_neg hB]
   by_cases hk : KpOk (accW R.x term.toNat l) R.b
   ·rw [rpKeep_ok hk]
   ·unfold rpKeep at ht
    rw [if_neg hk] at ht
    cases ht
 ·cases ht
/-- A vote is won. -/
theorem won_st (hI : Inv N s) (h : NRel N i R s) (hi : i < N) (hN : 1 ≤ N ∧ N ≤ 8) (hl : R.leads = false) {v : VoteD} (hv : R.v = some v) (hw : wonS v = true) (hb : v.best.length ≤ 128 ∧ ∀ e ∈ v.best, EOk e) : ∃ s', Stp N i s (rpWon R v).1 s' ∧ ∀ q ∈ (rpWon R v).2, LetI N s' i q.m := by
 obtain ⟨v', x, e1, e2, hV⟩ : ∃ v x, R.v = some v ∧ s.v i = some x ∧ VRel N v x := by
  rcases h.v with ⟨h1, _⟩ | h1
  ·rw [hv] at h1; cases h1
  ·exact h1
 rw [hv] at e1
 injection e1 with e1
 subst e1
 have hlead : s.lead i = false := by rw [h.lead]; exact hl
 obtain ⟨va, vb, _, ⟨j0, vd⟩, _, vf⟩ := hI.vt i x e2
 unfold rpWon
 by_cases ht : (rpTake R v.term v.best).1 = true
 ·rw [if_pos ht]
  obtain ⟨hA, hB⟩ := take_kept ht
  have hpos : 0 < x.term := by have := (hI.sp _ _ _ _ vd).2.1; omega
  have hterm : v.term.toNat = x.term := by rw [hV.term]; rfl
  have hht : R.x.h < x.term := by
   have h1 := hI.ht i
   rw [← va] at h1
   rcases Nat.lt_or_eq_of_le h1 with h2 | h2
   ·rw [← h.h]; exact h2
   ·obtain ⟨l0, q1, _⟩ := hI.hw i (by omega)
    rw [h2, vf hlead] at q1
    cases q1
  have hL : accLong R.x v.term.toNat v.best := by rw [hterm]; exact .inl hht
  rcases hB with ⟨hB, _⟩ | ⟨_, hB⟩
  ·exact absurd hL hB.1
  rw [show accW R.x v.term.toNat v.best = ⟨v.term.toNat, v.term.toNat, v.best⟩ from if_pos hL] at hB
  have hq : Quo N x.P := by
   unfold Quo
   have h1 : (List.range N).countP x.P = (List.range N).countP fun j => v.prom.getD j false := List.countP_congr (fun y hy => by rw [hV.prom y (List.mem_range.1 hy)])
   have h2 := count_range v.prom N (by rw [hV.pl]; exact hN.2) hV.out
   unfold wonS at hw
   have h3 := of_decide_eq_true hw
   rw [hV.nodes, hV.cnt, h2] at h3
   rw [h1]
   omega
  have hS1 : Stp N i s { (rpTake R v.term v.best).2 with leads := true, own := (rpTake R v.term v.best).2.x.log.length, v := some v } (Px.win s i x) := by
   rw [hB]
   refine ⟨hI.win e2 hlead hq, fun j hj => ⟨rfl, upd_ne _ _ hj, upd_ne _ _ hj, rfl, rfl, upd_ne _ _ hj⟩, ⟨fun _ _ _ _ h => h, fun _ _ _ h => h, fun _ _ _ h => h⟩, ⟨h.nd, ?_, ?_, ?_, h.com, upd_same _ _ _, .inr ⟨v, x, rfl, e2, hV⟩, fun _ => ⟨v, rfl, hw⟩⟩⟩
   ·show s.t i = v.term.toNat
    rw [hterm, va]
   ·show upd s.h i x.term i = v.term.toNat
    rw [upd_same, hterm]
   ·show upd s.log i x.best i = v.best
    rw [upd_same, hV.best]
  obtain ⟨s2, hS2, h3⟩ := both_st hS1.inv hS1.rel hi hN rfl (v := v) rfl
  exact ⟨s2, hS1.after hS2, h3⟩
 ·rw [if_neg ht]
  exact ⟨_, down_st hI h, fun q hq => (nomatch hq)⟩
/-- A node tries to lead. -/
theorem lead_st (hI : Inv N s) (h : NRel N i R s) (hi : i < N) (hN : 1 ≤ N ∧ N ≤ 8) (hb : R.x.log.length ≤ 128 ∧ ∀ e ∈ R.x.log, EOk e) : ∃ s', Stp N i s (rpLead R).1 s' ∧ ∀ q ∈ (rpLead R).2, LetI N s' i q.m := by
 unfold rpLead
 simp only []
 by_cases hp : (rpPromise R (termS R.x.t R.node R.nodes)).1 = true
 ·rw [if_pos hp]
  obtain ⟨hlt, he, hS1⟩ := prom_st hI h hp
  obtain ⟨term, hterm⟩ : ∃ term, term = termS R.x.t R.node R.nodes := ⟨_, rfl⟩
  rw [← hterm] at hp hlt he hS1 ⊢
  have hok : Lead.okTerm R.x.t R.node R.nodes := Classical.byContradiction fun hc => by
   have : termS R.x.t R.node R.nodes = 0 := if_neg hc
   omega
  obtain ⟨t1, t2, t3, _⟩ := Lead.term_plain hok
  rw [← hterm, h.nd.1, h.nd.2] at t3
  have hmod : term.toNat % N = i := by
   have : ((term.toNat % N : Nat) : Int) = (i : Int) := by
    rw [Int.natCast_emod, Int.toNat_of_nonneg (by omega)]
    exact t3
   omega
  have hx1 : (rpDown (rpPromise R term).2).x.h = R.x.h := by rw [he]; rfl
  have hx2 : (rpDown (rpPromise R term).2).x.log = R.x.log := by rw [he]; rfl
  rw [hx1, hx2]
  have hnode : (0 : Int) ≤ R.node ∧ R.node < R.nodes ∧ R.node.toNat = i := by rw [h.nd.1, h.nd.2]; omega
  have hnp : (newVote term R.nodes).prom.getD R.node.toNat false = false := by
   show (List.replicate 8 false).getD _ false = false
   rw [List.getD_eq_getElem?_getD, List.getElem?_replicate]
   split <;> rfl
  have hpr : promiseS (newVote term R.nodes) R.node R.x.h R.x.log = (wonS (taken (newVote term R.nodes) i), { taken (newVote term R.nodes) i with had := R.x.h, best := R.x.log }) := by
   unfold promiseS
   rw [if_pos ⟨hnode.1, hnode.2.1, hnp⟩, if_neg, if_pos, hnode.2.2]
   ·show better (newVote term R.nodes) R.x.h R.x.log = true
    unfold better
    exact decide_eq_true (.inl rfl)
   ·unfold wonS
    show ¬ (decide (R.nodes < 2 * 0) = true)
    rw [h.nd.2]
    simp
  obtain ⟨v, hv⟩ : ∃ v : VoteD, v = { taken (newVote term R.nodes) i with had := R.x.h, best := R.x.log } := ⟨_, rfl⟩
  have hwv : wonS (taken (newVote term R.nodes) i) = wonS v := by rw [hv]; rfl
  rw [hpr]
  simp only []
  rw [← hv, hwv]
  have hi8 : i < 8 := by omega
  have hset : ∀ j, ((List.replicate 8 false).set i true).getD j false = decide (j = i) := fun j => by
   rw [List.getD_eq_getElem?_getD, List.getElem?_set]
   by_cases e : i = j
   ·subst e
    rw [if_pos rfl, if_pos (by simpa using hi8)]
    simp
   ·rw [if_neg e, List.getElem?_replicate, decide_eq_false (fun h => e h.symm)]
    split <;> rfl
  have hV : VRel N v (Px.tryV s i term.toNat) := by
   rw [hv]
   refine ⟨by show term = (term.toNat : Int); omega, h.nd.2, by simp [taken, newVote], fun j _ => (hset j).symm, fun j hj => (hset j).trans (decide_eq_false (by omega)), by show (R.x.h : Int) = s.h i; rw [h.h], h.log.symm, by show (1 : Int) ≤ 0 + 1; omega, ?_, by simp [taken, newVote], fun j _ => ?_⟩
   ·show (0 : Int) + 1 = (((List.replicate 8 false).set i true).count true : Nat)
    rw [count_set (by simpa using hi8) (by
     rw [List.getD_eq_getElem?_getD, List.getElem?_replicate]
     split <;> rfl)]
    simp
   ·show (List.replicate 8 (0 : Int)).getD j 0 = _
    rw [List.getD_eq_getElem?_getD, List.getElem?_replicate]
    split <;> rfl
  have hst : s.t i < term.toNat := by rw [h.t]; omega
  have hS2 : Stp N i s { rpDown (rpPromise R term).2 with v := some v } (Px.setV (Px.prom s i term.toNat) i (Px.tryV s i term.toNat)) :=
   ⟨hI.try_ i _ hst hmod, fun j hj => by
    obtain ⟨b1, b2, b3, b4, b5, b6⟩ := hS1.oth j hj
    exact ⟨b1, b2, b3, b4, (upd_ne _ _ hj).trans b5, b6⟩, ⟨hS1.says.sp, hS1.says.sa, hS1.says.sd⟩,
    ⟨hS1.rel.nd, hS1.rel.t, hS1.rel.h, hS1.rel.log, hS1.rel.com, hS1.rel.lead, .inr ⟨v, _, rfl, upd_same _ _ _, hV⟩, fun e => (nomatch e)⟩⟩
  by_cases hw : wonS v = true
  ·rw [if_pos hw]
   obtain ⟨s3, hS3, h3⟩ := won_st hS2.inv hS2.rel hi hN rfl (v := v) rfl hw (by rw [hv]; exact hb)
   exact ⟨s3, hS2.after hS3, h3⟩
  ·rw [if_neg hw]
   refine ⟨_, hS2, fun q hq => let3 _ _ ?_⟩
   rw [toAll_mem hq]
   rfl
 ·rw [if_neg hp]
  exact ⟨s, .refl hI h, fun q hq => (nomatch hq)⟩
/-- A node is asked. -/
theorem ask_st (hI : Inv N s) (h : NRel N i R s) (hi : i < N) (hN : 1 ≤ N ∧ N ≤ 8) (fr : Int) (e : EntryD) : ∃ s', Stp N i s (rpAsk R fr e).1 s' ∧ ∀ q ∈ (rpAsk R fr e).2, LetI N s' i q.m := by
 have hno : ∀ c : Int, ∃ s', Stp N i s R s' ∧ ∀ q ∈ ([⟨fr, answerM e.tag c 0⟩] : List SentD), LetI N s' i q.m := fun c => ⟨s, .refl hI h, fun q hq => by simp at hq; subst hq; exact let2 _ _ rfl⟩
 unfold rpAsk
 split
 ·rename_i v hl hv
  split
  ·rename_i hc
   obtain ⟨hA, hB⟩ := take_kept hc.2
   have hlead : s.lead i = true := by rw [h.lead]; exact hl
   obtain ⟨a1, a2, x, a3, a4, a5, l0, a6, a7⟩ := hI.leads hlead
   obtain ⟨v', x', e1, e2, hV⟩ : ∃ v x, R.v = some v ∧ s.v i = some x ∧ VRel N v x := by
    rcases h.v with ⟨h1, _⟩ | h1
    ·rw [hv] at h1; cases h1
    ·exact h1
   rw [hv] at e1
   injection e1 with e1
   subst e1
   rw [e2] at a3
   injection a3 with a3
   subst a3
   have hterm : v.term.toNat = s.t i := by rw [hV.term, ← a4]; rfl
   have hL : accLong R.x v.term.toNat (R.x.log ++ [askE e fr]) := .inr (by simp)
   rcases hB with ⟨hB, _⟩ | ⟨_, hB⟩
   ·exact absurd hL hB.1
   rw [show accW R.x v.term.toNat (R.x.log ++ [askE e fr]) = ⟨v.term.toNat, v.term.toNat, R.x.log ++ [askE e fr]⟩ from if_pos hL] at hB
   have hS1 : Stp N i s (rpTake R v.term (R.x.log ++ [askE e fr])).2 (Px.put s i (s.t i) (s.log i ++ [askE e fr]) (s.log i ++ [askE e fr])) := by
    rw [hB]
    refine ⟨hI.append hlead ⟨l0, a6, a7⟩ _, fun j hj => ⟨upd_ne _ _ hj, upd_ne _ _ hj, upd_ne _ _ hj, rfl, rfl, rfl⟩, ⟨fun _ _ _ _ h => h, fun _ _ _ h => h, fun _ _ _ h => h⟩, ⟨h.nd, ?_, ?_, ?_, h.com, h.lead, h.v, h.lw⟩⟩
    ·show upd s.t i (s.t i) i = v.term.toNat
     rw [upd_same, hterm]
    ·show upd s.h i (s.t i) i = v.term.toNat
     rw [upd_same, hterm]
    ·show upd s.log i _ i = R.x.log ++ [askE e fr]
     rw [upd_same, h.log]
   obtain ⟨s2, hS2, h3⟩ := both_st hS1.inv hS1.rel hi hN (by rw [hB]; exact hl) (v := v) (by rw [hB]; exact hv)
   exact ⟨s2, hS1.after hS2, h3⟩
  ·exact hno 7
 ·exact hno 6
/-- A row is accepted, or refused. -/
theorem acc_st (hI : Inv N s) (h : NRel N i R s) (hi : i < N) (k : Nat) (hk : k ≠ i) (m : MsgD) (hm : s.SA m.term.toNat m.log m.commit.toNat ∧ m.term.toNat % N = k) : ∃ s', Stp N i s (rpAcc R k m).1 s' ∧ ∀ q ∈ (rpAcc R k m).2, LetI N s' i q.m := by
 unfold rpAcc
 by_cases ht : (rpTake R m.term m.log).1 = true
 ·rw [if_pos ht]
  obtain ⟨hA, hB⟩ := take_kept ht
  have ht0 : (m.term.toNat : Int) = m.term := by have := hA.2.1; omega
  have hts : s.t i ≤ m.term.toNat := by rw [h.t]; have := hA.1; omega
  have hvx : ∀ x, s.v i = some x → x.term ≠ m.term.toNat := fun x hx e => by
   have := (hI.vt i x hx).2.1
   rw [e, hm.2] at this
   exact hk this
  simp only []
  -- the row is there, in either case
  obtain ⟨s1, hS1, hh, hno⟩ : ∃ s1, Stp N i s (if ((rpTake R m.term m.log).2.v.map (·.term)).getD m.term ≠ m.term then rpDown (rpTake R m.term m.log).2 else (rpTake R m.term m.log).2) s1 ∧ s1.h i = m.term.toNat ∧ s1.SA m.term.toNat m.log m.commit.toNat := by
   rcases hB with ⟨hB, he⟩ | ⟨hB, he⟩
   ·-- it was there
    have hnl := hB.1
    unfold accLong at hnl
    have hht := hI.ht i
    rw [h.h, h.t] at hht
    have hh : R.x.h = m.term.toNat := by have := hB.2; omega
    have hvn : R.v = none := by
     rcases h.v with ⟨h1, _⟩ | ⟨v, x, h1, h2, hV⟩
     ·exact h1
     ·exfalso
      have h3 := (hI.vt i x h2).1
      exact hvx x h2 (by rw [h3, h.t]; have := hB.2; omega)
    rw [he, hvn]
    rw [if_neg (by simp)]
    exact ⟨s, .refl hI h, by rw [h.h]; exact hh, hm.1⟩
   ·have hL : accLong R.x m.term.toNat m.log := Classical.byContradiction fun hc => by
     have h9 := hc
     unfold accLong at hc
     have hht := hI.ht i
     rw [h.h, h.t] at hht
     exact hB ⟨h9, by have := hA.1; omega⟩
    rw [show accW R.x m.term.toNat m.log = ⟨m.term.toNat, m.term.toNat, m.log⟩ from if_pos hL] at he
    have hdn := down_st hI h
    have hlong : (Px.down s i).h i < m.term.toNat ∨ (Px.down s i).h i = m.term.toNat ∧ ((Px.down s i).log i).length < m.log.length := by
     show s.h i < _ ∨ s.h i = _ ∧ (s.log i).length < _
     have hht := hI.ht i
     rw [h.h, h.log]
     rw [h.h] at hht
     rcases hL with hL | hL
     ·exact .inl hL
     ·by_cases hlt : R.x.h < m.term.toNat
      ·exact .inl hlt
      ·exact .inr ⟨by omega, hL⟩
    have hI1 := hdn.inv.accepts (i := i) (t' := m.term.toNat) (c := m.commit.toNat) (l := m.log) hm.1 hts hlong (upd_same _ _ _)
    have hR2 : (if ((rpTake R m.term m.log).2.v.map (·.term)).getD m.term ≠ m.term then rpDown (rpTake R m.term m.log).2 else (rpTake R m.term m.log).2) = rpDown (rpKept R ⟨m.term.toNat, m.term.toNat, m.log⟩) := by
     rw [he]
     rcases h.v with ⟨h1, h2⟩ | ⟨v, x, h1, h2, hV⟩
     ·have hl : R.leads = false := by
       cases hl : R.leads with
       | false => rfl
       | true =>
        obtain ⟨v, hv, _⟩ := h.lw hl
        rw [h1] at hv
        cases hv
      show (if (R.v.map (·.term)).getD m.term ≠ m.term then _ else _) = _
      rw [h1, if_neg (by simp)]
      unfold rpDown rpKept
      rw [← hl, ← h1]
     ·show (if (R.v.map (·.term)).getD m.term ≠ m.term then _ else _) = _
      rw [h1, if_pos]
      show v.term ≠ m.term
      rw [hV.term]
      have := hvx x h2
      omega
    rw [hR2]
    refine ⟨_, hdn.after ⟨hI1, fun j hj => ⟨upd_ne _ _ hj, upd_ne _ _ hj, upd_ne _ _ hj, rfl, rfl, rfl⟩, ⟨fun _ _ _ _ h => h, fun _ _ _ h => h, fun _ _ _ h => h⟩, ⟨h.nd, upd_same _ _ _, upd_same _ _ _, upd_same _ _ _, h.com, upd_same _ _ _, .inl ⟨rfl, upd_same _ _ _⟩, fun e => (nomatch e)⟩⟩, upd_same _ _ _, hm.1⟩
  obtain ⟨R2, hR2⟩ : ∃ R2, R2 = (if ((rpTake R m.term m.log).2.v.map (·.term)).getD m.term ≠ m.term then rpDown (rpTake R m.term m.log).2 else (rpTake R m.term m.log).2) := ⟨_, rfl⟩
  rw [← hR2] at hS1 ⊢
  obtain ⟨p1, p2, p3, p4, p5, p6, _⟩ := rpApply_parts R2 m.commit
  have hto := Inv.told (i := i) (c := m.commit.toNat) (l := m.log) hS1.inv (by rw [hh]; exact hno)
  obtain ⟨s2, hS2, l1, l2, l3⟩ := com_st hS1.inv hS1.rel m.commit.toNat hto (rpApply R2 m.commit).1 ⟨p1, p2, p3, p4, p5⟩ p6
  have hA2 : (rpApply R2 m.commit).1.x.log.length ≤ s2.A i m.term.toNat := by
   have := hS2.inv.al i
   rw [l2, hh, hS2.rel.log] at this
   omega
  refine ⟨Px.sendD s2 i m.term.toNat (rpApply R2 m.commit).1.x.log.length, (hS1.after hS2).after ⟨hS2.inv.sendD i _ _ hA2, fun _ _ => ⟨rfl, rfl, rfl, rfl, rfl, rfl⟩, ⟨fun _ _ _ _ h => h, fun _ _ _ h => h, fun _ _ _ h => .inl h⟩, ⟨hS2.rel.nd, hS2.rel.t, hS2.rel.h, hS2.rel.log, hS2.rel.com, hS2.rel.lead, hS2.rel.v, hS2.rel.lw⟩⟩, fun q hq => ?_⟩
  simp at hq
  subst hq
  exact ⟨by simp [acceptedM], fun e => by simp [acceptedM] at e, fun e => by simp [acceptedM] at e, fun _ => .inr ⟨rfl, rfl, by show ((rpApply R2 m.commit).1.x.log.length : Int).toNat = _; rw [Int.toNat_natCast]⟩⟩
 ·rw [if_neg ht]
  exact ⟨s, .refl hI h, fun q hq => (nomatch hq)⟩
/-- Another one's promise is counted. -/
theorem promise_st (hI : Inv N s) (h : NRel N i R s) (hi : i < N) (hN : 1 ≤ N ∧ N ≤ 8) {v : VoteD} (hv : R.v = some v) (hw : wonS v = false) (hvb : v.best.length ≤ 128 ∧ ∀ e ∈ v.best, EOk e) (k : Nat) (hk : k < N) (m : MsgD) (hvt : v.term = m.term) (hh0 : 0 ≤ m.had) (hm : s.SP k m.term.toNat m.had.toNat m.log) (hml : m.log.length ≤ 128 ∧ ∀ e ∈ m.log, EOk e) :
  ∃ s', Stp N i s (if (promiseS v k m.had m.log).1 = true then rpWon { R with v := some (promiseS v k m.had m.log).2 } (promiseS v k m.had m.log).2 else ({ R with v := some (promiseS v k m.had m.log).2 }, [])).1 s' ∧ ∀ q ∈ (if (promiseS v k m.had m.log).1 = true then rpWon { R with v := some (promiseS v k m.had m.log).2 } (promiseS v k m.had m.log).2 else ({ R with v := some (promiseS v k m.had m.log).2 }, [])).2, LetI N s' i q.m := by
 obtain ⟨v', x, e1, e2, hV⟩ : ∃ v x, R.v = some v ∧ s.v i = some x ∧ VRel N v x := by
  rcases h.v with ⟨h1, _⟩ | h1
  ·rw [hv] at h1; cases h1
  ·exact h1
 rw [hv] at e1
 injection e1 with e1
 subst e1
 have hl : R.leads = false := by
  cases hl : R.leads with
  | false => rfl
  | true =>
   obtain ⟨v2, hv2, hw2⟩ := h.lw hl
   rw [hv] at hv2
   injection hv2 with hv2
   subst hv2
   rw [hw] at hw2
   cases hw2
 have hlead : s.lead i = false := by rw [h.lead]; exact hl
 have hterm : m.term.toNat = x.term := by rw [← hvt, hV.term]; rfl
 rw [hterm] at hm
 by_cases hp : v.prom.getD k false = false
 ·have hk8 : k < 8 := by omega
  have hpr : promiseS v k m.had m.log = if better v m.had m.log = true then (wonS (taken v k), { taken v k with had := m.had, best := m.log }) else (wonS (taken v k), taken v k) := by
   unfold promiseS
   rw [if_pos ⟨by omega, by rw [hV.nodes]; omega, by rw [Int.toNat_natCast]; exact hp⟩, if_neg (by rw [hw]; simp), Int.toNat_natCast]
  have hget : ∀ j, (v.prom.set k true).getD j false = if j = k then true else v.prom.getD j false := fun j => by
   rw [List.getD_eq_getElem?_getD, List.getElem?_set, List.getD_eq_getElem?_getD]
   by_cases e : k = j
   ·subst e
    rw [if_pos rfl, if_pos rfl, if_pos (by rw [hV.pl]; omega)]
    rfl
   ·rw [if_neg e, if_neg (fun h => e h.symm)]
  have hgot := hI.got e2 hlead hm
  obtain ⟨v2, hv2, hw2, hV2, hb2⟩ : ∃ v2, (promiseS v k m.had m.log).2 = v2 ∧ (promiseS v k m.had m.log).1 = wonS v2 ∧ VRel N v2 (Px.gotV x k m.had.toNat m.log) ∧ (v2.best.length ≤ 128 ∧ ∀ e ∈ v2.best, EOk e) := by
   have hbt : better v m.had m.log = true ↔ (x.h < m.had.toNat ∨ m.had.toNat = x.h ∧ x.best.length < m.log.length) := by
    unfold better
    rw [decide_eq_true_iff, hV.had, hV.best]
    have := hV.n1
    omega
   have hpromt : ∀ j, j < N → upd x.P k true j = (v.prom.set k true).getD j false := fun j hj => by
    rw [hget]
    by_cases e : j = k
    ·subst e; rw [upd_same, if_pos rfl]
    ·rw [upd_ne _ _ e, if_neg e]; exact hV.prom j hj
   have hout : ∀ j, N ≤ j → (v.prom.set k true).getD j false = false := fun j hj => by
    rw [hget, if_neg (by omega)]; exact hV.out j hj
   have hcnt : v.n + 1 = ((v.prom.set k true).count true : Nat) := by
    rw [count_set (by rw [hV.pl]; omega) hp, hV.cnt]
    omega
   have hn1 := hV.n1
   rw [hpr]
   by_cases hb : better v m.had m.log = true
   ·rw [if_pos hb]
    refine ⟨_, rfl, rfl, ?_, hml⟩
    unfold Px.gotV
    rw [if_pos (hbt.1 hb)]
    exact ⟨hV.term, hV.nodes, by show (v.prom.set k true).length = 8; rw [List.length_set]; exact hV.pl, hpromt, hout, by show m.had = (m.had.toNat : Int); omega, rfl, by show (1 : Int) ≤ v.n + 1; omega, hcnt, hV.al, hV.acc⟩
   ·rw [if_neg hb]
    refine ⟨_, rfl, rfl, ?_, hvb⟩
    unfold Px.gotV
    rw [if_neg (fun hc => hb (hbt.2 hc))]
    exact ⟨hV.term, hV.nodes, by show (v.prom.set k true).length = 8; rw [List.length_set]; exact hV.pl, hpromt, hout, hV.had, hV.best, by show (1 : Int) ≤ v.n + 1; omega, hcnt, hV.al, hV.acc⟩
  rw [hw2, hv2]
  have hS1 : Stp N i s { R with v := some v2 } (Px.setV s i (Px.gotV x k m.had.toNat m.log)) := ⟨hgot, fun j hj => ⟨rfl, rfl, rfl, rfl, upd_ne _ _ hj, rfl⟩, ⟨fun _ _ _ _ h => h, fun _ _ _ h => h, fun _ _ _ h => h⟩,
   ⟨h.nd, h.t, h.h, h.log, h.com, h.lead, .inr ⟨v2, _, rfl, upd_same _ _ _, hV2⟩, fun e => by
    have e' : R.leads = true := e
    rw [hl] at e'; cases e'⟩⟩
  by_cases hwn : wonS v2 = true
  ·rw [if_pos hwn]
   obtain ⟨s2, hS2, h3⟩ := won_st hS1.inv hS1.rel hi hN hl (v := v2) rfl hwn hb2
   exact ⟨s2, hS1.after hS2, h3⟩
  ·rw [if_neg hwn]
   exact ⟨_, hS1, fun q hq => (nomatch hq)⟩
 ·have hpr : promiseS v k m.had m.log = (false, v) := by
   unfold promiseS
   rw [if_neg (fun hc => hp (by have := hc.2.2; rwa [Int.toNat_natCast] at this))]
  rw [hpr]
  rw [if_neg (by simp)]
  refine ⟨s, .refl hI ⟨h.nd, h.t, h.h, h.log, h.com, h.lead, ?_, ?_⟩, fun q hq => (nomatch hq)⟩
  ·show (some v = none ∧ _) ∨ _
   rw [← hv]; exact h.v
  ·intro hc
   obtain ⟨v9, q1, q2⟩ := h.lw hc
   exact ⟨v9, by rw [← hv]; exact q1, q2⟩
/-- Whatever comes to a node. -/
theorem recv_st (hI : Inv N s) (h : NRel N i R s) (hi : i < N) (hN : 1 ≤ N ∧ N ≤ 8) (hvb : ∀ v, R.v = some v → v.best.length ≤ 128 ∧ ∀ e ∈ v.best, EOk e) (fr : Int) (m : MsgD) (hs : MShort m) (hwf : ∀ e ∈ m.log, Wf e) (hm : m.kd = 1 ∨ ∃ k : Nat, fr = k ∧ LetI N s k m) :
  ∃ s', Stp N i s (rpRecv R fr m).1 s' ∧ ∀ q ∈ (rpRecv R fr m).2, LetI N s' i q.m := by
 have hno : ∃ s', Stp N i s R s' ∧ ∀ q ∈ ([] : List SentD), LetI N s' i q.m := ⟨s, .refl hI h, fun q hq => (nomatch hq)⟩
 unfold rpRecv
 by_cases hr : mrightS m ≠ 0
 ·rw [if_pos hr]; exact hno
 rw [if_neg hr]
 have hr0 : mrightS m = 0 := Classical.byContradiction hr
 by_cases hk1 : m.kd = 1
 ·rw [if_pos hk1]; exact ask_st hI h hi hN fr m.en
 rw [if_neg hk1]
 obtain ⟨k, rfl, hL⟩ := hm.resolve_left hk1
 have hb2 : bad2 m = false ∧ m.log.length ≤ 128 ∧ ∀ e ∈ m.log, rightE e = 0 := by
  unfold mrightS at hr0
  split at hr0
  ·exact absurd hr0 (by decide)
  split at hr0
  ·exact absurd hr0 (by decide)
  split at hr0
  ·exact absurd hr0 (by decide)
  rename_i h2 h3
  exact ⟨by simpa using h2, by omega, logRight_all hr0⟩
 have hml : m.log.length ≤ 128 ∧ ∀ e ∈ m.log, EOk e := ⟨hb2.2.1, fun e he => ⟨hb2.2.2 e he, hs.2.2 e he, hwf e he⟩⟩
 have hbd : 0 ≤ m.term ∧ 0 ≤ m.had ∧ 0 ≤ m.commit ∧ 0 ≤ m.len := by
  have h9 := hb2.1
  unfold bad2 at h9
  simp at h9
  omega
 by_cases hfr : (k : Int) < 0 ∨ R.nodes ≤ (k : Int) ∨ (k : Int) = R.node
 ·rw [if_pos hfr]; exact hno
 rw [if_neg hfr]
 have hkN : k < N ∧ k ≠ i := by
  rw [h.nd.1, h.nd.2] at hfr
  omega
 by_cases hk3 : m.kd = 3
 ·rw [if_pos hk3]
  unfold rpPrep
  by_cases hp : (rpPromise R m.term).1 = true
  ·rw [if_pos hp]
   obtain ⟨hlt, he, hS1⟩ := prom_st hI h hp
   refine ⟨_, hS1, fun q hq => ?_⟩
   simp at hq
   subst hq
   exact ⟨by simp [promiseM], fun _ => .inr ⟨rfl, rfl, by show (R.x.h : Int).toNat = s.h i; rw [h.h]; rfl, h.log.symm⟩, fun e => by simp [promiseM] at e, fun e => by simp [promiseM] at e⟩
  ·rw [if_neg hp]; exact hno
 rw [if_neg hk3]
 by_cases hk4 : m.kd = 4
 ·rw [if_pos hk4]
  split
  ·rename_i v hv
   split
   ·rename_i hc
    exact promise_st hI h hi hN hv hc.2 (hvb v hv) k hkN.1 m hc.1 hbd.2.1 (hL.sp hk4) hml
   ·exact hno
  ·exact hno
 rw [if_neg hk4]
 by_cases hk5 : m.kd = 5
 ·rw [if_pos hk5]
  exact acc_st hI h hi k hkN.2 m (hL.sa hk5)
 rw [if_neg hk5]
 by_cases hk6 : m.kd = 6
 ·rw [if_pos hk6]
  split
  ·rename_i v hl hv
   split
   ·rename_i hvt
    have hlen : ((m.len.toNat : Nat) : Int) = m.len := by omega
    have hA := hI.sd _ _ _ (hL.sd hk6)
    rw [← hvt] at hA
    obtain ⟨s', hS', _, _, _, h4⟩ := counted_st hI h hN hl hv k m.len.toNat hkN.1 hA
    rw [hlen] at hS' h4
    exact ⟨s', hS', fun q hq => let2 _ _ (h4 q hq)⟩
   ·exact hno
  ·exact hno
 rw [if_neg hk6]
 exact hno
/-- A tick tells the row. -/
theorem tick_st (hI : Inv N s) (h : NRel N i R s) : ∃ s', Stp N i s R s' ∧ ∀ q ∈ rpTick R, LetI N s' i q.m := by
 unfold rpTick
 by_cases hl : R.leads = true
 ·rw [if_pos hl]; exact accepts_st hI h hl
 ·rw [if_neg hl]; exact ⟨s, .refl hI h, fun q hq => (nomatch hq)⟩
/-- A crash: the word is kept. -/
theorem crash_st (hI : Inv N s) (h : NRel N i R s) (R' : RpD) (h1 : R'.node = R.node ∧ R'.nodes = R.nodes ∧ R'.x = R.x) (h2 : R'.v = none ∧ R'.leads = false ∧ R'.com = 0) : Stp N i s R' (Px.setCom (Px.down s i) i 0) :=
  ⟨hI.crash i, fun j hj => ⟨rfl, rfl, rfl, upd_ne _ _ hj, upd_ne _ _ hj, upd_ne _ _ hj⟩, ⟨fun _ _ _ _ h => h, fun _ _ _ h => h, fun _ _ _ h => h⟩,
   ⟨by rw [h1.1, h1.2.1]; exact h.nd, by rw [h1.2.2]; exact h.t, by rw [h1.2.2]; exact h.h, by rw [h1.2.2]; exact h.log, by rw [h2.2.2]; exact upd_same _ _ _, by rw [h2.2.1]; exact upd_same _ _ _, .inl ⟨h2.1, upd_same _ _ _⟩, fun e => by rw [h2.2.1] at e; cases e⟩⟩
end
end Go.Proofs.YtdaceeijifjpeaaGreatDoor.Vi
end
section
namespace Go.Proofs.YtdaceeijifjpeaaGreatDoor.Vi
open Go.RowKit Base Mem Go.Shelf Tape
open Lead (VoteD promiseS wonS accS medS termS newVote)
theorem good0 : GoodW word0 [] := ⟨[], by simp, rfl, rfl⟩
theorem lead_eq {R R1 : RpD} {T : Nat} (hT : termS R.x.t R.node R.nodes = T) (hp : rpPromise R T = (true, R1)) :
  rpLead R = if (promiseS (newVote T R.nodes) R.node R1.x.h R1.x.log).1 = true then rpWon { rpDown R1 with v := some (promiseS (newVote T R.nodes) R.node R1.x.h R1.x.log).2 } (promiseS (newVote T R.nodes) R.node R1.x.h R1.x.log).2
   else ({ rpDown R1 with v := some (promiseS (newVote T R.nodes) R.node R1.x.h R1.x.log).2 }, rpAll (rpDown R1) (prepareM T)) := by
 unfold rpLead
 simp only [hT, hp]
 rfl
theorem prom_any {R : RpD} {T : Nat} (h : R.x.t < T) (hk : KpOk ⟨T, R.x.h, R.x.log⟩ R.b) : rpPromise R T = (true, rpKept R ⟨T, R.x.h, R.x.log⟩) := by
 unfold rpPromise
 rw [if_pos (by omega), Int.toNat_natCast]
 exact rpKeep_ok hk
theorem prom_new (node nodes : Int) {T : Nat} (h : 1 ≤ T) (h2 : T ≤ 1000) : rpPromise (rpNew node nodes []) T = (true, rpKept (rpNew node nodes []) ⟨T, 0, []⟩) :=
 prom_any (R := rpNew node nodes []) h (show KpOk ⟨T, 0, []⟩ [] from kp40 (j := 0) h2 (by omega) (by simp) (by simp) (by simp) (by omega))
/-- A vote in which one has promised itself. -/
def vote1 (T n : Int) (had : Int) (l : List EntryD) : VoteD := { newVote T n with prom := (List.replicate 8 false).set 0 true, n := 1, had := had, best := l }
/-- Behind a first promise. -/
def rp1 (node nodes : Int) (T : Nat) : RpD := rpKept (rpNew node nodes []) ⟨T, 0, []⟩
theorem rp1_b (node nodes : Int) {T : Nat} (h2 : T ≤ 1000) : (rp1 node nodes T).b.length ≤ 32000 ∧ GoodW (rp1 node nodes T).x (rp1 node nodes T).b ∧ (rp1 node nodes T).k = (rp1 node nodes T).b.length := by
 obtain ⟨q1, q2⟩ := rec40 (T := T) (H := 0) (l := []) h2 (by omega) (by simp) (by simp)
 refine ⟨?_, ?_, ?_⟩
 ·show ([] ++ frameL (recL ⟨T, 0, []⟩)).length ≤ _
  simpa using q2
 ·exact good_kept (x := word0) (b := []) good0 (Nat.le_trans q1 (by decide)) (wok40 h2 (by omega) (by simp) (by simp))
 ·show ([] : List UInt8).length + _ = ([] ++ frameL (recL ⟨T, 0, []⟩)).length
  simp
theorem lead_three : rpLead (rpNew 0 3 []) = ({ rp1 0 3 3 with v := some (vote1 3 3 0 []) }, [⟨1, prepareM 3⟩, ⟨2, prepareM 3⟩]) := by
 rw [lead_eq (T := 3) (R1 := rp1 0 3 3) rfl (prom_new 0 3 (by omega) (by omega))]
 rfl
theorem both_none {X : RpD} {v : VoteD} {acc : List Int} (ha : accS v X.node X.x.log.length = acc) (hm : medS acc v.nodes.toNat ≤ X.com) : rpBoth X v = ({ X with v := some { v with acc := acc } }, rpAccepts { X with v := some { v with acc := acc } }) := by
 unfold rpBoth rpCounted
 rw [ha, rpApply_none (show medS acc v.nodes.toNat ≤ (({ X with v := some { v with acc := acc } } : RpD).com : Int) from hm), List.nil_append]
/-- A leader that has won begins. -/
theorem won_new {R : RpD} {T : Nat} {n : Int} {v : VoteD} (hn : R.node = 0) (hnn : R.nodes = n) (hx : R.x = ⟨T, 0, []⟩) (hv : v.term = T ∧ v.nodes = n ∧ v.acc = List.replicate 8 0 ∧ v.best = []) (h1 : 1 ≤ n) (hm : medS (List.replicate 8 0) n.toNat = 0) (hc : R.com = 0) (ha : R.ap = 0) (hb : R.b.length ≤ 32000) (hg : GoodW R.x R.b) (hT : 1 ≤ T) (hT2 : T ≤ 1000) :
  ∃ R', rpWon R v = (R', rpAccepts R') ∧ Lds R' n T [] (List.replicate 8 0) 0 2 ∧ R'.st = R.st := by
 obtain ⟨q1, q2⟩ := rec40 (T := T) (H := T) (l := []) hT2 hT2 (by simp) (by simp)
 have hk : KpOk ⟨T, T, []⟩ R.b := kp40 (j := 1) hT2 hT2 (by simp) (by simp) (by omega) (by omega)
 have hA : AcOk R.x T [] := by rw [hx]; exact ⟨Int.le_refl _, by omega, by simp, by simp⟩
 have hL : accLong R.x T [] := by rw [hx]; exact .inl (by show 0 < T; omega)
 have ht : rpTake R T [] = (true, rpKept R ⟨T, T, []⟩) := by
  unfold rpTake
  rw [if_pos hA, if_neg (fun hh => hh.1 (by simpa using hL))]
  show rpKeep R (accW R.x (T : Int).toNat []) = _
  rw [Int.toNat_natCast, show accW R.x T [] = ⟨T, T, []⟩ from if_pos hL, rpKeep_ok hk]
 have hacc : accS v 0 0 = List.replicate 8 0 := acc_set v 0 (by omega) (a := 0) (r := List.replicate 7 0) hv.2.2.1 (Int.le_refl _)
 refine ⟨{ rpKept R ⟨T, T, []⟩ with leads := true, own := 0, v := some { v with acc := List.replicate 8 0 } }, ?_, ⟨hn, hnn, rfl, rfl, rfl, ⟨_, rfl, hv.1, hv.2.1, rfl⟩, hc, by show R.ap = R.com; rw [ha, hc], ?_, good_kept hg (Nat.le_trans q1 (by decide)) (wok40 hT2 hT2 (by simp) (by simp)), ?_⟩, rfl⟩
 ·have hW : rpWon R v = rpBoth { rpKept R ⟨T, T, []⟩ with leads := true, own := 0, v := some v } v := by
   unfold rpWon
   rw [hv.1, hv.2.2.2, ht, if_pos rfl]
   rfl
  rw [hW]
  exact both_none (X := { rpKept R ⟨T, T, []⟩ with leads := true, own := 0, v := some v }) (v := v) (acc := List.replicate 8 0) (by show accS v R.node 0 = _; rw [hn]; exact hacc) (by rw [hv.2.1, hm]; show (0 : Int) ≤ (R.com : Int); omega)
 ·show (R.b ++ _).length ≤ _
  rw [List.length_append]
  omega
 ·show R.b.length + _ = (R.b ++ _).length
  rw [List.length_append]
theorem med0 : medS (List.replicate 8 0) (3 : Int).toNat = 0 ∧ medS (List.replicate 8 0) (1 : Int).toNat = 0 := ⟨medS_three 0 0 (List.replicate 5 0) (Int.le_refl _) (Int.le_refl _), medS_one 0 (List.replicate 7 0)⟩
theorem lead_one : ∃ R', rpLead (rpNew 0 1 []) = (R', []) ∧ Lds R' 1 1 [] (List.replicate 8 0) 0 2 ∧ R'.st = mc00 := by
 obtain ⟨hb, hg, _⟩ := rp1_b 0 1 (T := 1) (by omega)
 obtain ⟨R', h1, h2, h3⟩ := won_new (R := { rpDown (rp1 0 1 1) with v := some (vote1 1 1 0 []) }) (T := 1) (n := 1) (v := vote1 1 1 0 []) rfl rfl rfl ⟨rfl, rfl, rfl, rfl⟩ (by omega) med0.2 rfl rfl hb hg (by omega) (by omega)
 refine ⟨R', ?_, h2, h3⟩
 rw [lead_eq (T := 1) (R1 := rp1 0 1 1) rfl (prom_new 0 1 (by omega) (by omega))]
 show rpWon { rpDown (rp1 0 1 1) with v := some (vote1 1 1 0 []) } (vote1 1 1 0 []) = _
 rw [h1]
 unfold rpAccepts rpAll toAll
 rw [h2.node, h2.nodes]
 rfl
noncomputable def stL : McD → List EntryD → McD
 | st, [] => st
 | st, e :: r => stL (applyM st (pk e.ag e.sh) e).2.2 r
theorem stL_app : ∀ (l : List EntryD) (st : McD) (r : List EntryD), stL st (l ++ r) = stL (stL st l) r
 | [], _, _ => rfl
 | _ :: l, _, r => stL_app l _ r
/-- One of one that is asked answers. -/
theorem ask_one {R : RpD} {T : Nat} {l : List EntryD} {r : List Int} {e : EntryD} {fr : Int} {j : Nat} (h : Lds R 1 T l (l.length :: r) l.length j) (hT : 1 ≤ T) (hT2 : T ≤ 1000) (hl : l.length + 1 ≤ 26) (hok : ∀ a ∈ l ++ [askE e fr], EntryOk a) (hj : j ≤ 30) (hst : R.st = stL mc00 l) :
  ∃ R', rpAsk R fr e = (R', [⟨fr, answerM e.tag (applyM R.st (pk e.ag e.sh) (askE e fr)).1 (applyM R.st (pk e.ag e.sh) (askE e fr)).2.1⟩]) ∧ Lds R' 1 T (l ++ [askE e fr]) (((l ++ [askE e fr]).length : Nat) :: r) (l ++ [askE e fr]).length (j + 1) ∧ R'.st = stL mc00 (l ++ [askE e fr]) := by
 obtain ⟨v, hv, hvt, hvn, hva⟩ := h.v
 have hlen : (l ++ [askE e fr]).length = l.length + 1 := by simp
 obtain ⟨q1, q2⟩ := rec40 hT2 hT2 (by omega) hok
 obtain ⟨R', h1, h2, h3⟩ := rpAsk_one h.nodes h.node h.leads hv hvt hvn ⟨_, _, hva, Int.le_refl _⟩ h.x h.com (by rw [h.own]; exact Nat.zero_le _) hT (by omega) (fun a ha => (entry_right (hok a ha)).1) (kp40 hT2 hT2 (by omega) hok h.b hj) (e := e) (fr := fr)
 have hacc : accS v 0 ((l.length + 1 : Nat) : Int) = ((l.length + 1 : Nat) : Int) :: r := acc_set v _ (by omega) hva (by omega)
 have hL : Lds R' 1 T (l ++ [askE e fr]) (((l ++ [askE e fr]).length : Nat) :: r) (l ++ [askE e fr]).length (j + 1) := by
  rw [h3]
  refine ⟨h.node, h.nodes, rfl, h.leads, h.own, ⟨_, rfl, hvt, hvn, by rw [hlen]; exact hacc⟩, ?_, ?_, ?_, good_kept h.good.1 (Nat.le_trans q1 (by decide)) (wok40 hT2 hT2 (by omega) hok), ?_⟩
  ·show R.com + 1 = _
   rw [h.com, hlen]
  ·show R.ap + 1 = R.com + 1
   rw [h.ap]
  ·show (R.b ++ _).length ≤ _
   have := h.b
   rw [List.length_append]
   omega
  ·show R.b.length + _ = (R.b ++ _).length
   rw [List.length_append]
 refine ⟨R', Prod.ext h1 ?_, hL, ?_⟩
 ·rw [h2]
  have hacs : rpAccepts R' = [] := by
   unfold rpAccepts rpAll toAll
   rw [hL.node, hL.nodes]
   rfl
  rw [hacs, List.append_nil]
  show (if R.leads = true ∧ R.own ≤ R.com then _ else _) = _
  rw [if_pos ⟨h.leads, by rw [h.own]; exact Nat.zero_le _⟩]
  rfl
 ·rw [h3, stL_app, ← hst]
  rfl
/-- Chapter 16's known entry. -/
def knE : EntryD := ⟨1, 1, 0, 1, 1, [⟨kA, 5⟩], ByteArray.empty, 0, 9⟩
theorem knE_right : rightE (askE knE 5) = 0 := by decide +kernel
theorem knE_ok : EntryOk (askE knE 5) := by
 refine ⟨by decide, by decide, by decide, by decide, .inr ⟨rfl, rfl, by decide, by decide, by decide, by decide, by decide, by decide, by decide, by decide, by decide, by decide, fun d hd => ?_⟩⟩
 simp [knE, askE] at hd
 subst hd
 exact ⟨kA_ok, by decide, by decide⟩
theorem knE_apply : (applyM mc00 (pk 1 0) (askE knE 5)).1 = 1 := by
 have hf := fence_right (ag := 1) (by omega) 0 kA_ok (p := 1) (n := 5) (by omega) (by omega)
 have he : applyM mc00 (pk 1 0) (askE knE 5) = applyM mc0 (pk 1 0) (fenceE 1 0 kA 1 5) := by
  unfold applyM
  rw [if_pos knE_right, if_pos hf]
  rfl
 rw [he, fence_yes (by omega) (fence_start 1 (pk 1 0)) (by omega) kA_ok (by omega) (by omega) (by omega)]
end Go.Proofs.YtdaceeijifjpeaaGreatDoor.Vi
end
section
namespace Go.Proofs.YtdaceeijifjpeaaGreatDoor.Vi
open Go.RowKit Base Mem Go.Shelf Tape
open Lead (VoteD VoteAt promiseS wonS accS medS termS newVote)
open Px (upd upd_same upd_ne)
theorem knE_fit : MFit (askM knE) := by
 have hsh : ∀ d ∈ knE.ds, d = ⟨kA, 5⟩ := fun d hd => by simpa [knE] using hd
 refine ⟨⟨⟨by decide, fun d hd => ?_, by decide⟩, by simp [askM], by simp [askM]⟩, ⟨by decide, by decide, by decide, fun d hd => ?_⟩, by simp [askM], by decide, by decide⟩
 ·rw [hsh d hd]; decide
 ·rw [hsh d hd]; exact ⟨by decide, by decide⟩
theorem ask_first : rpRecv (rpNew 0 1 []) 5 (askM knE) = (rpNew 0 1 [], [⟨5, answerM 9 6 0⟩]) := by
 unfold rpRecv
 rw [right_ask (show EntryOk knE from by
  obtain ⟨_, _, h3, h4, h5⟩ := knE_ok
  exact ⟨by decide, by decide, h3, h4, h5⟩)]
 rfl
theorem acc_low : rpRecv { rp1 0 3 3 with v := some (vote1 3 3 0 []) } 1 (acceptM 1 [] 0) = ({ rp1 0 3 3 with v := some (vote1 3 3 0 []) }, []) := by
 unfold rpRecv
 rw [right_acc (by omega) (by omega) (by simp) rfl]
 show rpAcc { rp1 0 3 3 with v := some (vote1 3 3 0 []) } 1 (acceptM 1 [] 0) = _
 unfold rpAcc
 have h : rpTake { rp1 0 3 3 with v := some (vote1 3 3 0 []) } (acceptM 1 [] 0).term (acceptM 1 [] 0).log = (false, { rp1 0 3 3 with v := some (vote1 3 3 0 []) }) := by
  unfold rpTake
  rw [if_neg (fun hA => by have := hA.1; exact absurd this (by show ¬ ((3 : Nat) : Int) ≤ 1; decide))]
 rw [h]
 rfl
theorem acc_fit : MFit (acceptM 1 [] 0) := ⟨⟨⟨by decide, by simp [acceptM, en0], by decide⟩, by simp [acceptM], by simp [acceptM]⟩, ⟨by decide, by decide, by decide, by simp [acceptM, en0]⟩, by simp [acceptM], by decide, by decide⟩
set_option maxRecDepth 100000 in
set_option maxHeartbeats 2000000 in
theorem known16_any (m : Int) (w : World) (hm : w.cell? ⟨0, 0, none⟩ = some (.int .i64 m)) :
  Calls Tryz.prog 15 #[] w fun e w' => e = .returned (.bool true) ∧ Below w.heap.size w w' := by
 have Hm := Lib.hid hm
 have hw0 : 0 < w.heap.size := by
  have := World.block_lt_of_cell? w _ hm
  simpa using this
 clear hm
 go_enter Tryz.func15, Tryz.ntmps15
 go_wp2_with fail
 refine (dknew_any w).mono ?_
 rintro e w1 ⟨rfl, hd1, hb1⟩
 obtain ⟨b0, Hb0⟩ : ∃ b, Hid (b = w.heap.size) := ⟨_, rfl⟩
 obtain ⟨tg1, hs1, -, hbe1⟩ := (RSys.start (Below.refl w.heap.size w) (fun _ _ => 0) (fun _ => 0) (fun _ => 0) (fun _ => rpNew 0 1 [])).disk hb1 hd1
 rw [← Hb0.out] at hd1 hs1 hbe1 ⊢
 have HN := Lib.hid (hs1.newz (i := 0) id hd1 (by intro g hg; simp at hg; subst hg; exact ⟨hbe1.1, fun j _ => hbe1.2 j⟩) 0 1 (by omega) (by omega) (by omega) (by omega) Hm.out)
 clear hd1 hb1 hs1 hbe1
 go_wp2_with fail
 refine HN.out.mono ?_
 rintro e w2 ⟨ra, M2, tg2, rfl, hs2, -⟩
 have HS2 := Lib.hid hs2
 clear hs2 HN
 go_wp2_with fail
 refine (dknew_any w2).mono ?_
 rintro e w3 ⟨rfl, hd3, hb3⟩
 obtain ⟨b1, Hb1⟩ : ∃ b, Hid (b = w2.heap.size) := ⟨_, rfl⟩
 obtain ⟨tg3, hs3, -, hbe3⟩ := HS2.out.disk hb3 hd3
 rw [← Hb1.out] at hd3 hs3 hbe3 ⊢
 have HN := Lib.hid (hs3.newz (i := 1) (by simp) hd3 (by intro g hg; simp at hg; subst hg; exact ⟨hbe3.1, fun j _ => hbe3.2 j⟩) 0 3 (by omega) (by omega) (by omega) (by omega) Hm.out)
 clear hd3 hb3 hs3 hbe3 HS2
 go_wp2_with fail
 refine HN.out.mono ?_
 rintro e w4 ⟨rb, M4, tg4, rfl, hs4, -⟩
 have HS4 : Hid (Sys2 w w4 M4 tg4 ra rb b0 b1 (rpNew 0 1 []) (rpNew 0 3 [])) := Sys2.of hs4
 clear hs4 HN
 go_wp2_with fail
 refine (dknew_any w4).mono ?_
 rintro e w5 ⟨rfl, hd5, hb5⟩
 have HS5 := Lib.hid (HS4.out.keep0 (Keeps.of_below (M := []) hb5))
 clear hd5 hb5 HS4
 go_wp2_with fail
 refine (rpnew_no 1 1 _ (by omega)).mono ?_
 rintro e w6 ⟨rfl, rfl⟩
 obtain ⟨w6, hw6⟩ : ∃ w6, w6 = (w5.alloc (.cells #[.string { data := #[97, 61, 49] }, .int .u64 5] 91)).alloc (.cells #[.int .i64 1, .int .i64 1, .int .i64 0, .int .i64 1, .int .i64 1, .slice (some ⟨w5.heap.size, 0, none⟩) 1 1, .string ⟨#[]⟩, .int .i64 0, .int .i64 9] 33) := ⟨_, rfl⟩
 have hk6 : Keeps [] w5 w6 := by rw [hw6]; exact ((Keeps.refl _ _).alloc _).alloc _
 have HS6 := Lib.hid (HS5.out.keep0 hk6)
 have hBd : Blk w6 w5.heap.size 91 #[.string { data := #[97, 61, 49] }, .int .u64 5] := by
  rw [hw6]
  exact ((Keeps.refl [] _).alloc _).blk (Blk.new w5 _ _) (by simp)
 have hBe : Blk w6 (w5.heap.size + 1) 33 #[.int .i64 1, .int .i64 1, .int .i64 0, .int .i64 1, .int .i64 1, .slice (some ⟨w5.heap.size, 0, none⟩) 1 1, .string ⟨#[]⟩, .int .i64 0, .int .i64 9] := by
  have hE := Blk.new (w5.alloc (.cells #[.string { data := #[97, 61, 49] }, .int .u64 5] 91)) 33 #[.int .i64 1, .int .i64 1, .int .i64 0, .int .i64 1, .int .i64 1, .slice (some ⟨w5.heap.size, 0, none⟩) 1 1, .string ⟨#[]⟩, .int .i64 0, .int .i64 9]
  rw [World.size_alloc] at hE
  rw [hw6]
  exact hE
 have HOd : Hid (Out1 w6 M4 w5.heap.size [.string { data := #[97, 61, 49] }, .int .u64 5]) := Out1.new HS5.out (Nat.le_refl _) hBd.lt (fun j u hu => by rw [hBd.cell]; simpa using hu)
 have HOe : Hid (Out1 w6 M4 (w5.heap.size + 1) [.int .i64 1, .int .i64 1, .int .i64 0, .int .i64 1, .int .i64 1, .slice (some ⟨w5.heap.size, 0, none⟩) 1 1, .string ⟨#[]⟩, .int .i64 0, .int .i64 9]) := Out1.new HS5.out (Nat.le_succ _) hBe.lt (fun j u hu => by rw [hBe.cell]; simpa using hu)
 clear hBd hBe hk6 HS5
 go_upto_region 6 with (fail)
 try rw [← hw6]
 clear hw6
 obtain ⟨gD, HgD⟩ : ∃ g, Hid (g = w5.heap.size) := ⟨_, rfl⟩
 obtain ⟨gE, HgE⟩ : ∃ g, Hid (g = w5.heap.size + 1) := ⟨_, rfl⟩
 rw [← HgE.out] at HOe ⊢
 rw [← HgD.out] at HOd HOe
 clear HgD HgE
 have HFe : Hid (∀ (W : World) (M : List Nat), Out1 W M gD [.string { data := #[97, 61, 49] }, .int .u64 5] → MsgAt W M (askM knE) (.slice (some ⟨gD, 0, none⟩) 1 1) (.slice none 0 0)) := fun W M h => by
  refine ⟨⟨some ⟨gD, 0, none⟩, 1, rfl, Nat.le_refl _, rfl, fun _ => ⟨gD, 0, rfl, h.lt, h.out, fun j u hu => ?_⟩⟩, Ens.nil _ _⟩
  rw [Nat.zero_add]
  refine h.cell j u ?_
  have : dCells (askM knE).en.ds = [.string { data := #[97, 61, 49] }, .int .u64 5] := rfl
  rw [this] at hu
  exact hu
 have h0 := HOe.out.cell 0 _ rfl; have h1 := HOe.out.cell 1 _ rfl; have h2 := HOe.out.cell 2 _ rfl; have h3 := HOe.out.cell 3 _ rfl; have h4 := HOe.out.cell 4 _ rfl; have h5 := HOe.out.cell 5 _ rfl; have h6 := HOe.out.cell 6 _ rfl; have h7 := HOe.out.cell 7 _ rfl; have h8 := HOe.out.cell 8 _ rfl
 have HC := Lib.hid (HS6.out.recv0 5 (askM knE) _ _ (HFe.out _ _ HOd.out) knE_fit Hm.out ask_first)
 go_wp2_with fail
 refine (show Calls Tryz.prog 10 #[.pointer (some ⟨ra, 0, none⟩), .int .i64 5, .agg #[.int .i64 1, .int .i64 1, .int .i64 1, .int .i64 0, .int .i64 1, .int .i64 1, .slice (some ⟨gD, 0, none⟩) 1 1, .string ⟨#[]⟩, .int .i64 0, .int .i64 9, .int .i64 0, .int .i64 0, .int .u64 0, .int .i64 0, .int .i64 0, .slice none 0 0, .int .i64 0, .int .i64 0]] w6 _ from HC.out).mono ?_
 rintro e w7 ⟨v7, M7, tg7, rfl, hs7, hg7, hr7⟩
 have HS7 : Hid (Sys2 w w7 M7 tg7 ra rb b0 b1 (rpNew 0 1 []) (rpNew 0 3 [])) := hs7
 obtain ⟨ga, ca, dva, lva, rfl, hca, hma, -⟩ := srow_one hr7
 have HA7 := Lib.hid hma
 have HOd7 := Lib.hid (HOd.out.goes hg7); have HOe7 := Lib.hid (HOe.out.goes hg7)
 clear hs7 hg7 hr7 hma HC HS6 HOd HOe h0 h1 h2 h3 h4 h5 h6 h7 h8
 obtain ⟨R8, hR8, hL8, hst8⟩ := lead_one
 have HL8 := Lib.hid hL8; have Hst8 := Lib.hid hst8
 have HC := Lib.hid (HS7.out.lead0 Hm.out hR8)
 clear hL8 hst8 hR8
 go_wp2_with fail
 refine HC.out.mono ?_
 rintro e w8 ⟨v8, M8, tg8, rfl, hs8, hg8, hr8⟩
 have HS8 : Hid (Sys2 w w8 M8 tg8 ra rb b0 b1 R8 (rpNew 0 3 [])) := hs8
 obtain ⟨Al, cl, rfl⟩ := srow_nil hr8
 have HA8 := Lib.hid (HA7.out.goes hg8)
 have HOd8 := Lib.hid (HOd7.out.goes hg8); have HOe8 := Lib.hid (HOe7.out.goes hg8)
 clear hs8 hg8 hr8 HC HS7 HA7 HOd7 HOe7
 have h0 := HOe8.out.cell 0 _ rfl; have h1 := HOe8.out.cell 1 _ rfl; have h2 := HOe8.out.cell 2 _ rfl; have h3 := HOe8.out.cell 3 _ rfl; have h4 := HOe8.out.cell 4 _ rfl; have h5 := HOe8.out.cell 5 _ rfl; have h6 := HOe8.out.cell 6 _ rfl; have h7 := HOe8.out.cell 7 _ rfl; have h8 := HOe8.out.cell 8 _ rfl
 obtain ⟨R9, hR9, hL9, _⟩ := ask_one (l := []) (e := knE) (fr := 5) (j := 2) HL8.out (by omega) (by omega) (by simp) (by intro a ha; simp at ha; subst ha; exact knE_ok) (by omega) Hst8.out
 have HL9 := Lib.hid hL9
 have hR9' : rpRecv R8 5 (askM knE) = (R9, [⟨5, answerM 9 1 (applyM R8.st (pk 1 0) (askE knE 5)).2.1⟩]) := by
  have hc : (applyM R8.st (pk 1 0) (askE knE 5)).1 = 1 := by rw [Hst8.out]; exact knE_apply
  rw [recv_ask (show EntryOk knE from by
   obtain ⟨_, _, h3, h4, h5⟩ := knE_ok
   exact ⟨by decide, by decide, h3, h4, h5⟩), hR9]
  show (R9, [(⟨5, answerM 9 (applyM R8.st (pk 1 0) (askE knE 5)).1 _⟩ : SentD)]) = _
  rw [hc]
  rfl
 have HC := Lib.hid (HS8.out.recv0 5 (askM knE) _ _ (HFe.out _ _ HOd8.out) knE_fit Hm.out hR9')
 generalize (applyM R8.st (pk 1 0) (askE knE 5)).2.1 = sum9 at HC
 clear hL9 hR9 hR9' HFe
 go_wp2_with fail
 refine (show Calls Tryz.prog 10 #[.pointer (some ⟨ra, 0, none⟩), .int .i64 5, .agg #[.int .i64 1, .int .i64 1, .int .i64 1, .int .i64 0, .int .i64 1, .int .i64 1, .slice (some ⟨gD, 0, none⟩) 1 1, .string ⟨#[]⟩, .int .i64 0, .int .i64 9, .int .i64 0, .int .i64 0, .int .u64 0, .int .i64 0, .int .i64 0, .slice none 0 0, .int .i64 0, .int .i64 0]] w8 _ from HC.out).mono ?_
 rintro e w9 ⟨v9, M9, tg9, rfl, hs9, hg9, hr9⟩
 have HS9 : Hid (Sys2 w w9 M9 tg9 ra rb b0 b1 R9 (rpNew 0 3 [])) := hs9
 obtain ⟨gb, cb, dvb, lvb, rfl, hcb, hmb, -⟩ := srow_one hr9
 have HB9 := Lib.hid hmb
 have HA9 := Lib.hid (HA8.out.goes hg9)
 clear hs9 hg9 hr9 hmb HC HS8 HA8 HOd8 HOe8 h0 h1 h2 h3 h4 h5 h6 h7 h8 HL8 Hst8
 have HC := Lib.hid (HS9.out.lead1 Hm.out lead_three)
 go_wp2_with fail
 refine HC.out.mono ?_
 rintro e w10 ⟨v10, M10, tg10, rfl, hs10, hg10, hr10⟩
 have HS10 : Hid (Sys2 w w10 M10 tg10 ra rb b0 b1 R9 { rp1 0 3 3 with v := some (vote1 3 3 0 []) }) := hs10
 obtain ⟨gc, cc, dvc, lvc, dvc2, lvc2, rfl, hcc, hmc, -⟩ := srow_two hr10
 have HC10 := Lib.hid hmc
 have HA10 := Lib.hid (HA9.out.goes hg10); have HB10 := Lib.hid (HB9.out.goes hg10)
 clear hs10 hg10 hr10 hmc HC HS9 HA9 HB9
 have HC := Lib.hid (HS10.out.recv1 1 (acceptM 1 [] 0) (.slice none 0 0) (.slice none 0 0) ⟨Ds.nil _ _, Ens.nil _ _⟩ acc_fit Hm.out acc_low)
 go_wp2_with fail
 refine (show Calls Tryz.prog 10 #[.pointer (some ⟨rb, 0, none⟩), .int .i64 1, .agg #[.int .i64 5, .int .i64 0, .int .i64 0, .int .i64 0, .int .i64 0, .int .i64 0, .slice none 0 0, .string ⟨#[]⟩, .int .i64 0, .int .i64 0, .int .i64 0, .int .i64 0, .int .u64 0, .int .i64 1, .int .i64 0, .slice none 0 0, .int .i64 0, .int .i64 0]] w10 _ from HC.out).mono ?_
 rintro e w11 ⟨v11, M11, tg11, rfl, hs11, hg11, hr11⟩
 have HS11 : Hid (Sys2 w w11 M11 tg11 ra rb b0 b1 R9 { rp1 0 3 3 with v := some (vote1 3 3 0 []) }) := hs11
 obtain ⟨Ad, cd, rfl⟩ := srow_nil hr11
 have HA11 := Lib.hid (HA10.out.goes hg11); have HB11 := Lib.hid (HB10.out.goes hg11); have HC11 := Lib.hid (HC10.out.goes hg11)
 clear hs11 hg11 hr11 HC HS10 HA10 HB10 HC10
 have a0 : w11.cell? ⟨ga, 0, none⟩ = some (.int .i64 5) := HA11.out.cell 0 _ rfl
 have a1 : w11.cell? ⟨ga, 11, none⟩ = some (.int .i64 9) := HA11.out.cell 11 _ rfl
 have a2 : w11.cell? ⟨ga, 12, none⟩ = some (.int .i64 6) := HA11.out.cell 12 _ rfl
 have b0' : w11.cell? ⟨gb, 0, none⟩ = some (.int .i64 5) := HB11.out.cell 0 _ rfl
 have b2 : w11.cell? ⟨gb, 12, none⟩ = some (.int .i64 1) := HB11.out.cell 12 _ rfl
 have c0 : w11.cell? ⟨gc, 0, none⟩ = some (.int .i64 1) := HC11.out.cell 0 _ rfl
 have c1 : w11.cell? ⟨gc, 1, none⟩ = some (.int .i64 3) := HC11.out.cell 1 _ rfl
 have HF := Lib.hid HS11.out.bel
 have HL0 : Hid (Calls Tryz.prog 14 #[.pointer (some ⟨ra, 0, none⟩)] w11 fun e w' => e = .returned (.bool true) ∧ w11 = w') := by
  have := HS11.out.leads0 w11 (Keeps.refl _ _)
  rw [HL9.out.leads] at this
  exact this
 have HC0 : Hid (Calls Tryz.prog 13 #[.pointer (some ⟨ra, 0, none⟩)] w11 fun e w' => e = .returned (.int .i64 1) ∧ w11 = w') := by
  have := HS11.out.commit0 w11 (Keeps.refl _ _)
  rw [HL9.out.com] at this
  exact this
 have HL1 : Hid (Calls Tryz.prog 14 #[.pointer (some ⟨rb, 0, none⟩)] w11 fun e w' => e = .returned (.bool false) ∧ w11 = w') := HS11.out.leads1 w11 (Keeps.refl _ _)
 have HT1 : Hid (Calls Tryz.prog 47 #[.pointer (some ⟨rb, 0, none⟩)] w11 fun e w' => e = .returned (.int .i64 3) ∧ w11 = w') := HS11.out.term1 w11 (Keeps.refl _ _)
 clear HS11 HA11 HB11 HC11 HL9
 go_upto_region 11 with (fail)
 simp only [List.append]
 go_wp2_with fail
 refine HL0.out.mono ?_
 rintro e w12 ⟨rfl, rfl⟩
 go_wp2_with fail
 refine HC0.out.mono ?_
 rintro e w12 ⟨rfl, rfl⟩
 go_wp2_with fail
 refine HL1.out.mono ?_
 rintro e w12 ⟨rfl, rfl⟩
 go_wp2_with fail
 refine HT1.out.mono ?_
 rintro e w12 ⟨rfl, rfl⟩
 go_wp2_with fail
 go_ret
 exact ⟨rfl, HF.out⟩
end Go.Proofs.YtdaceeijifjpeaaGreatDoor.Vi
end
section
namespace Go.Proofs.YtdaceeijifjpeaaGreatDoor.Vi
open Go.RowKit Base Mem Tape

end Go.Proofs.YtdaceeijifjpeaaGreatDoor.Vi
end
section
namespace Go.Proofs.YtdaceeijifjpeaaGreatDoor.Vi
open Go.RowKit Base Mem Go.Shelf Tape
open Lead (VoteD VoteAt promiseS wonS accS medS termS newVote)
open Px (upd upd_same upd_ne Inv)
/-- What a step sends: no entry of its own, its row or none. -/
def OutF (T : Int) (P : RpD × List SentD) : Prop := ∀ q ∈ P.2, q.m.en = en0 ∧ (q.m.log = [] ∨ q.m.log = P.1.x.log) ∧ (q.m.term = 0 ∨ q.m.term = P.1.x.t ∨ q.m.term = T)
theorem outf_nil (T : Int) (R : RpD) : OutF T (R, []) := fun _ h => nomatch h
theorem outf_apply (T : Int) (R : RpD) (n : Int) : OutF T (rpApply R n) := by
 have : ∀ (l : List EntryD) (R : RpD), ∀ q ∈ (rpSteps l R).2, q.m.en = en0 ∧ q.m.log = [] ∧ q.m.term = 0 := by
  intro l
  induction l with
  | nil => intro R q hq; cases hq
  | cons e l ih =>
   intro R q hq
   rcases List.mem_append.1 hq with h1 | h1
   ·unfold rpStep at h1
    simp only [] at h1
    split at h1
    ·simp at h1; subst h1; exact ⟨rfl, rfl, rfl⟩
    ·cases h1
   ·exact ih _ q h1
 intro q hq
 obtain ⟨h1, h2, h3⟩ := this _ R q hq
 exact ⟨h1, .inl h2, .inl h3⟩
theorem outf_accepts (T : Int) (R : RpD) : OutF T (R, rpAccepts R) := fun q hq => by
 rw [toAll_mem hq]
 exact ⟨rfl, .inr rfl, .inr (.inl rfl)⟩
theorem outf_both (T : Int) (R : RpD) (v : VoteD) : OutF T (rpBoth R v) := fun q hq => by
 rcases List.mem_append.1 hq with h | h
 ·exact outf_apply T _ _ q h
 ·exact outf_accepts T _ q h
theorem outf_won (T : Int) (R : RpD) (v : VoteD) : OutF T (rpWon R v) := by
 unfold rpWon
 split
 ·exact outf_both T _ _
 ·exact outf_nil T _
theorem prom_x {R : RpD} {term : Int} (h : (rpPromise R term).1 = true) : (rpPromise R term).2 = rpKept R ⟨term.toNat, R.x.h, R.x.log⟩ ∧ (R.x.t : Int) < term := by
 unfold rpPromise rpKeep at h ⊢
 split at h
 ·rename_i hlt
  split at h
  ·rename_i hk
   rw [if_pos hlt, if_pos hk]
   exact ⟨rfl, hlt⟩
  ·cases h
 ·cases h
theorem outf_lead (T : Int) (R : RpD) : OutF T (rpLead R) := by
 unfold rpLead
 simp only []
 split
 ·rename_i hp
  obtain ⟨he, hlt⟩ := prom_x hp
  split
  ·exact outf_won T _ _
  ·intro q hq
   have hm := toAll_mem hq
   rw [hm]
   refine ⟨rfl, .inl rfl, .inr (.inl ?_)⟩
   show termS R.x.t R.node R.nodes = ((rpPromise R (termS R.x.t R.node R.nodes)).2.x.t : Int)
   rw [he]
   show _ = ((termS R.x.t R.node R.nodes).toNat : Int)
   omega
 ·exact outf_nil T _
theorem outf_recv (R : RpD) (fr : Int) (m : MsgD) : OutF m.term (rpRecv R fr m) := by
 unfold rpRecv
 split
 ·exact outf_nil _ _
 split
 ·unfold rpAsk
  split
  ·split
   ·exact outf_both _ _ _
   ·intro q hq; simp at hq; subst hq; exact ⟨rfl, .inl rfl, .inl rfl⟩
  ·intro q hq; simp at hq; subst hq; exact ⟨rfl, .inl rfl, .inl rfl⟩
 split
 ·exact outf_nil _ _
 split
 ·unfold rpPrep
  split
  ·rename_i hp
   obtain ⟨he, _⟩ := prom_x hp
   intro q hq
   simp at hq
   subst hq
   refine ⟨rfl, .inr ?_, .inr (.inr rfl)⟩
   show R.x.log = (rpPromise R m.term).2.x.log
   rw [he]
   rfl
  ·exact outf_nil _ _
 split
 ·split
  ·split
   ·simp only []
    split
    ·exact outf_won _ _ _
    ·exact outf_nil _ _
   ·exact outf_nil _ _
  ·exact outf_nil _ _
 split
 ·unfold rpAcc
  split
  ·intro q hq; simp at hq; subst hq; exact ⟨rfl, .inl rfl, .inr (.inr rfl)⟩
  ·exact outf_nil _ _
 split
 ·split
  ·split
   ·exact outf_apply _ _ _
   ·exact outf_nil _ _
  ·exact outf_nil _ _
 ·exact outf_nil _ _
theorem outf_tick (T : Int) (R : RpD) : OutF T (R, rpTick R) := by
 unfold rpTick
 split
 ·exact outf_accepts T R
 ·exact outf_nil T R
theorem OutF.fit {T : Int} {P : RpD × List SentD} (h : OutF T P) (hw : WOk P.1.x) (hT : T ≤ 9223372036854775807) : ∀ q ∈ P.2, MFit q.m := fun q hq => by
 obtain ⟨h1, h2, h3⟩ := h q hq
 have he : Short en0 ∧ Wf en0 := ⟨⟨by decide, by simp [en0], by decide⟩, ⟨by decide, by decide, by decide, by simp [en0]⟩⟩
 have hl : q.m.log.length ≤ 128 ∧ ∀ e ∈ q.m.log, EOk e := by
  rcases h2 with h2 | h2
  ·rw [h2]; exact ⟨by simp, by simp⟩
  ·rw [h2]; exact wok_own hw
 have ht := hw.1
 exact ⟨⟨by rw [h1]; exact he.1, by omega, fun e hx => (hl.2 e hx).2.1⟩, by rw [h1]; exact he.2, fun e hx => (hl.2 e hx).2.2, by rw [h1]; decide, by omega⟩
/-- The disk holds records, and the last of them is the word. -/
def GdB (R : RpD) : Prop := (∃ rs, (∀ r ∈ rs, r.length ≤ 65536) ∧ R.b = rs.flatMap frameL ∧ (R.x = word0 ∧ rs = [] ∨ ∃ r0, rs = r0 ++ [recL R.x])) ∧ R.k = R.b.length
theorem gd_new (node nodes : Int) : GdB (rpNew node nodes []) := ⟨⟨[], by simp, rfl, .inl ⟨rfl, rfl⟩⟩, rfl⟩
theorem gd_keep {R : RpD} (h : GdB R) (y : WordD) : GdB (rpKeep R y).2 := by
 unfold rpKeep
 split
 ·rename_i hk
  obtain ⟨⟨rs, h1, h2, _⟩, h4⟩ := h
  refine ⟨⟨rs ++ [recL y], fun r hm => ?_, ?_, .inr ⟨rs, rfl⟩⟩, ?_⟩
  ·rcases List.mem_append.1 hm with q | q
   ·exact h1 r q
   ·simp at q; subst q; exact hk.1
  ·show R.b ++ _ = _
   rw [h2]
   simp
  ·show R.b.length + _ = (R.b ++ _).length
   rw [List.length_append]
 ·exact h
theorem gd_prom {R : RpD} (h : GdB R) (t : Int) : GdB (rpPromise R t).2 := by
 unfold rpPromise
 split
 ·exact gd_keep h _
 ·exact h
theorem gd_take {R : RpD} (h : GdB R) (t : Int) (l : List EntryD) : GdB (rpTake R t l).2 := by
 unfold rpTake
 split
 ·split
  ·exact h
  ·exact gd_keep h _
 ·exact h
theorem gd_apply {R : RpD} (h : GdB R) (n : Int) : GdB (rpApply R n).1 := by
 obtain ⟨_, _, h3, _⟩ := rpSteps_same ((R.x.log.take n.toNat).drop R.com) R
 obtain ⟨_, _, c3, c4, _⟩ := rpSteps_com ((R.x.log.take n.toNat).drop R.com) R
 obtain ⟨⟨rs, h1, h2, h5⟩, h4⟩ := h
 exact ⟨⟨rs, h1, c3.trans h2, by rw [show (rpApply R n).1.x = R.x from h3]; exact h5⟩, by rw [show (rpApply R n).1.k = R.k from c4, show (rpApply R n).1.b = R.b from c3]; exact h4⟩
theorem gd_counted {R : RpD} (h : GdB R) (v : VoteD) (fr n : Int) : GdB (rpCounted R v fr n).1 := gd_apply (R := { R with v := some { v with acc := accS v fr n } }) h _
theorem gd_won {R : RpD} (h : GdB R) (v : VoteD) : GdB (rpWon R v).1 := by
 unfold rpWon
 split
 ·exact gd_counted (R := { (rpTake R v.term v.best).2 with leads := true, own := (rpTake R v.term v.best).2.x.log.length, v := some v }) (gd_take h v.term v.best) _ _ _
 ·exact h
theorem gd_lead {R : RpD} (h : GdB R) : GdB (rpLead R).1 := by
 unfold rpLead
 simp only []
 split
 ·split
  ·exact gd_won (R := { rpDown (rpPromise R (termS R.x.t R.node R.nodes)).2 with v := _ }) (gd_prom h _) _
  ·exact gd_prom h _
 ·exact h
theorem gd_recv {R : RpD} (h : GdB R) (fr : Int) (m : MsgD) : GdB (rpRecv R fr m).1 := by
 unfold rpRecv
 split
 ·exact h
 split
 ·unfold rpAsk
  split
  ·split
   ·exact gd_counted (gd_take h _ _) _ _ _
   ·exact h
  ·exact h
 split
 ·exact h
 split
 ·unfold rpPrep
  split
  ·exact gd_prom h _
  ·exact h
 split
 ·split
  ·split
   ·simp only []
    split
    ·refine gd_won ?_ _
     exact h
    ·exact h
   ·exact h
  ·exact h
 split
 ·unfold rpAcc
  split
  ·simp only []
   refine gd_apply ?_ _
   split
   ·exact gd_take h _ _
   ·exact gd_take h _ _
  ·exact h
 split
 ·split
  ·split
   ·exact gd_counted h _ _ _
   ·exact h
  ·exact h
 ·exact h
/-- A new one on the disk of another: its word is the same. -/
theorem gd_again {R : RpD} (h : GdB R) (hw : WOk R.x) (node nodes : Int) : GdB (rpNew node nodes R.b) ∧ (rpNew node nodes R.b).x = R.x := by
 obtain ⟨⟨rs, h1, h2, h3⟩, h4⟩ := h
 have hs : scanS R.b = (rs, R.b.length) := by rw [h2]; exact scanS_put rs h1
 have hx : (rpNew node nodes R.b).x = R.x := by
  show lastV word0 (scanS R.b).1 = R.x
  rw [hs]
  rcases h3 with ⟨h5, h6⟩ | ⟨r0, h5⟩
  ·rw [h6, h5]; rfl
  ·rw [h5]; exact lastV_snoc _ _ _ hw
 have hb : (rpNew node nodes R.b).b = R.b := by
  show R.b.take (scanS R.b).2 = R.b
  rw [hs]
  exact List.take_length
 refine ⟨⟨⟨rs, h1, hb.trans h2, by rw [hx]; exact h3⟩, ?_⟩, hx⟩
 show (scanS R.b).2 = (rpNew node nodes R.b).b.length
 rw [hs, hb]
/-- A letter under way. -/
structure LetD where
 fr : Nat
 dst : Nat
 m : MsgD
def ltCell (q : LetD × Value × Value) : List Value := .int .i64 q.1.fr :: .int .i64 q.1.dst :: mCell q.1.m q.2.1 q.2.2
theorem ltCells_len (qs : List (LetD × Value × Value)) : (qs.flatMap ltCell).length = qs.length * 20 := flat_len ltCell 20 (fun _ => rfl) qs
structure LtOk (s : PSt) (q : LetD) : Prop where
 fr : q.fr < 3
 dst : q.dst < 3
 fit : MFit q.m
 let_ : LetI 3 s q.fr q.m
/-- Three replicas, as the protocol sees them. -/
structure Pr3 (R : Nat → RpD) (s : PSt) : Prop where
 inv : Inv 3 s
 rel : ∀ i, i < 3 → NRel 3 i (R i) s
 gd : ∀ i, i < 3 → GdB (R i)
theorem Pr3.step {R : Nat → RpD} {s s' : PSt} {i : Nat} {R' : RpD} (h : Pr3 R s) (hs : Stp 3 i s R' s') (hg : GdB R') : Pr3 (upd R i R') s' :=
 ⟨hs.inv, fun j hj => by
  by_cases e : j = i
  ·subst e; rw [upd_same]; exact hs.rel
  ·rw [upd_ne _ _ e]; exact (h.rel j hj).other hs.oth e, fun j hj => by
  by_cases e : j = i
  ·subst e; rw [upd_same]; exact hg
  ·rw [upd_ne _ _ e]; exact h.gd j hj⟩
theorem LtOk.says {s s' : PSt} {q : LetD} (h : LtOk s q) (hs : Says s s') : LtOk s' q := ⟨h.fr, h.dst, h.fit, h.let_.says hs⟩
/-- What more than one has committed is the same. -/
theorem Pr3.agree {R : Nat → RpD} {s : PSt} (h : Pr3 R s) {i k : Nat} (hi : i < 3) (hk : k < 3) : min (R i).com (R k).com ≤ (R i).x.log.length ∧ min (R i).com (R k).com ≤ (R k).x.log.length ∧ (R i).x.log.take (min (R i).com (R k).com) = (R k).x.log.take (min (R i).com (R k).com) := by
 have := h.inv.agree i k (min (R i).com (R k).com) (by rw [(h.rel i hi).com]; omega) (by rw [(h.rel k hk).com]; omega)
 rw [(h.rel i hi).log, (h.rel k hk).log] at this
 exact this
/-- A row of letters in memory. -/
structure UnS (w W : World) (M : List Nat) (tg : Nat → Nat → Nat) (v : Value) (ls : List (LetD × Value × Value)) : Prop where
 row : W.ownsRow w.heap.size 55 20 v ls.length (ls.flatMap ltCell)
 bes : ∀ g, v.ownBlock = some g → Bes M tg g
 msg : ∀ q ∈ ls, MsgAt W M q.1.m q.2.1 q.2.2
section
variable {w W V : World} {M M' : List Nat} {tg tg' : Nat → Nat → Nat} {v : Value} {ls : List (LetD × Value × Value)}
theorem UnS.goes (h : UnS w W M tg v ls) (g : Goes W M tg V M' tg') : UnS w V M' tg' v ls := by
 obtain ⟨L, h1, h2⟩ := g.kx
 exact ⟨own_other2 h.row h2 (fun x hx hm => (h1 x hm).2 (h.bes x hx)), fun x hx => g.bes x (h.row.lt x hx).2 (h.bes x hx), fun q hq => g.msg (h.msg q hq)⟩
/-- A block beside is turned. -/
theorem UnS.beside (h : UnS w W M tg v ls) {L : List Nat} (hL : ∀ g ∈ L, Bes M tg g ∧ v.ownBlock ≠ some g) (hk : Keeps L W V) : UnS w V M tg v ls :=
 ⟨own_other2 h.row hk (fun x hx hm => (hL x hm).2 hx), h.bes, fun q hq => (h.msg q hq).keep hk (fun g hg => .inl (hL g hg).1.1)⟩
theorem UnS.keep0 (h : UnS w W M tg v ls) (hk : Keeps [] W V) : UnS w V M tg v ls := h.beside (L := []) (by simp) hk
theorem UnS.nil : UnS w W M tg (.slice none 0 0) [] := ⟨World.ownsRow_nil _ _ _ _, fun g hg => (nomatch hg), fun q hq => (nomatch hq)⟩
end
end Go.Proofs.YtdaceeijifjpeaaGreatDoor.Vi
end
section
namespace Go.Proofs.YtdaceeijifjpeaaGreatDoor.Vi
open Go.RowKit Base Mem
set_option maxRecDepth 100000 in
theorem rsameDs_eq (va vb : Value) (ds : List DeltaD) (w : World) (ha : Ds w [] va ds) (hb : Ds w [] vb ds) (hl : ds.length ≤ 1048576) :
  Calls Tryz.prog 21 #[va, vb] w fun e w' => e = .returned (.bool true) ∧ ∃ n, w' = w.drewN n := by
 have Ha := Lib.hid ha; have Hb := Lib.hid hb
 obtain ⟨Aa, ca, rfl, hca⟩ := ha.len
 obtain ⟨Ab, cb, rfl, hcb⟩ := hb.len
 clear ha hb
 go_enter Tryz.func21, Tryz.ntmps21
 go_wp2_with fail
 go_slots
 go_loopw [13] (fun i wr => ∃ (x q : Nat), i = .int .i64 x ∧ x ≤ ds.length ∧ wr = w.drewN q) (fun i _ => ds.length - (intOf i).toNat)
 case atStart => exact ⟨0, 0, rfl, by omega, rfl⟩
 case round =>
  obtain ⟨x, q, rfl, hx, rfl⟩ := hrel
  by_cases hlt : x < ds.length
  ·obtain ⟨ga, oa, _, e1, _, hga, _, h1⟩ := Rd.at_ dCell 2 (fun _ => rfl) Ha.out hlt
   obtain ⟨gb, ob, _, e2, _, hgb, _, h2⟩ := Rd.at_ dCell 2 (fun _ => rfl) Hb.out hlt
   obtain rfl : Aa = some ⟨ga, oa, none⟩ := by injection e1
   obtain rfl : Ab = some ⟨gb, ob, none⟩ := by injection e2
   clear e1 e2
   have c1 : w.cell? ⟨ga, oa + x * 2 + 0, none⟩ = some (.string ds[x].ser) := h1 0 _ rfl
   have c2 : w.cell? ⟨ga, oa + x * 2 + 1, none⟩ = some (.int .u64 ds[x].n) := h1 1 _ rfl
   have c3 : w.cell? ⟨gb, ob + x * 2 + 0, none⟩ = some (.string ds[x].ser) := h2 0 _ rfl
   have c4 : w.cell? ⟨gb, ob + x * 2 + 1, none⟩ = some (.int .u64 ds[x].n) := h2 1 _ rfl
   rw [Nat.add_zero] at c1 c3
   generalize ds[x].ser = sx at *
   generalize ds[x].n = nx at *
   clear h1 h2
   have hx1 : (x : Int) < (ds.length : Int) := by omega
   go_wp2
   go_quiet (fail)
   go_wp2
   go_roundw
   case rel => exact ⟨x + 1, _, by go_num, by omega, rfl⟩
   case measure => simp [intOf] <;> omega
  ·obtain rfl : x = ds.length := by omega
   go_wp2
   go_ret
   exact ⟨rfl, q, rfl⟩
def eVal (e : EntryD) (v : Value) : Value := .agg #[.int .i64 e.kind, .int .i64 e.ag, .int .i64 e.sh, .int .i64 e.seq, .int .i64 e.ep, v, .string e.ser, .int .i64 e.fr, .int .i64 e.tag]
set_option maxRecDepth 100000 in
theorem rsame_eq (va vb : Value) (e : EntryD) (w : World) (ha : Ds w [] va e.ds) (hb : Ds w [] vb e.ds) (hl : e.ds.length ≤ 1048576) :
  Calls Tryz.prog 82 #[eVal e va, eVal e vb] w fun r w' => r = .returned (.bool true) ∧ Below w.heap.size w w' := by
 have Ha := Lib.hid ha; have Hb := Lib.hid hb
 obtain ⟨Aa, ca, rfl, hca⟩ := ha.len
 obtain ⟨Ab, cb, rfl, hcb⟩ := hb.len
 obtain ⟨kind, ag, sh, seq, ep, ds, ser, fr, tag⟩ := e
 simp only [eVal]
 clear ha hb
 go_enter Tryz.func82, Tryz.ntmps82
 go_wp2_with fail
 have hk : Keeps [] w ((w.alloc (.cells #[.int .i64 kind, .int .i64 ag, .int .i64 sh, .int .i64 seq, .int .i64 ep, .slice Aa ds.length ca, .string ser, .int .i64 fr, .int .i64 tag] 33)).alloc (.cells #[.int .i64 kind, .int .i64 ag, .int .i64 sh, .int .i64 seq, .int .i64 ep, .slice Ab ds.length cb, .string ser, .int .i64 fr, .int .i64 tag] 33)) := ((Keeps.refl _ _).alloc _).alloc _
 refine (rsameDs_eq _ _ ds _ (Ha.out.keep hk (by simp)) (Hb.out.keep hk (by simp)) hl).mono ?_
 rintro e w1 ⟨rfl, n, rfl⟩
 have Hk := Lib.hid (hk.drewN n).below
 clear hk
 go_wp2
 go_ret
 exact ⟨rfl, Hk.out⟩
set_option maxRecDepth 100000 in
theorem rlogs_eq (va vb : Value) (l : List EntryD) (w : World) (ha : Ens w [] va l) (hb : Ens w [] vb l) (hsm : l.length ≤ 1048576 ∧ ∀ e ∈ l, e.ds.length ≤ 1048576) :
  Calls Tryz.prog 52 #[va, vb] w fun r w' => r = .returned (.bool true) ∧ Below w.heap.size w w' := by
 have Ha := Lib.hid ha; have Hb := Lib.hid hb; have Hsm := Lib.hid hsm
 obtain ⟨Aa, ca, rfl, hca⟩ := ha.len
 obtain ⟨Ab, cb, rfl, hcb⟩ := hb.len
 have hll : l.length ≤ 1048576 := hsm.1
 clear ha hb hsm
 go_enter Tryz.func52, Tryz.ntmps52
 go_wp2_with fail
 go_slots
 go_loopw [13] (fun i wr => ∃ (x : Nat), i = .int .i64 x ∧ x ≤ l.length ∧ Hid (Below w.heap.size w wr)) (fun i _ => l.length - (intOf i).toNat)
 case atStart => exact ⟨0, rfl, by omega, Below.refl _ _⟩
 case round =>
  obtain ⟨x, rfl, hx, Hbe⟩ := hrel
  by_cases hlt : x < l.length
  ·have ha2 := Ha.out.keep (Keeps.of_below (M := []) Hbe.out) (by simp)
   have hb2 := Hb.out.keep (Keeps.of_below (M := []) Hbe.out) (by simp)
   obtain ⟨ga, oa, _, da, e1, hga, _, hda, h1⟩ := ens_at ha2 hlt
   obtain ⟨gb, ob, _, db, e2, hgb, _, hdb, h2⟩ := ens_at hb2 hlt
   obtain rfl : Aa = some ⟨ga, oa, none⟩ := by injection e1
   obtain rfl : Ab = some ⟨gb, ob, none⟩ := by injection e2
   have hsame := Lib.hid (fun n => rsame_eq da db l[x] (wr.drewN n) (hda.keep (M' := []) ((Keeps.refl _ _).drewN n) (by simp)) (hdb.keep (M' := []) ((Keeps.refl _ _).drewN n) (by simp)) (Hsm.out.2 _ (List.getElem_mem _)))
   clear e1 e2 hda hdb ha2 hb2
   generalize l[x] = en at *
   obtain ⟨kind, ag, sh, seq, ep, ds, ser, fr, tag⟩ := en
   have a0 := h1 0 _ rfl; have a1 := h1 1 _ rfl; have a2 := h1 2 _ rfl; have a3 := h1 3 _ rfl; have a4 := h1 4 _ rfl; have a5 := h1 5 _ rfl; have a6 := h1 6 _ rfl; have a7 := h1 7 _ rfl; have a8 := h1 8 _ rfl
   have b0 := h2 0 _ rfl; have b1 := h2 1 _ rfl; have b2 := h2 2 _ rfl; have b3 := h2 3 _ rfl; have b4 := h2 4 _ rfl; have b5 := h2 5 _ rfl; have b6 := h2 6 _ rfl; have b7 := h2 7 _ rfl; have b8 := h2 8 _ rfl
   rw [Nat.add_zero] at a0 b0
   simp only [] at a0 a1 a2 a3 a4 a5 a6 a7 a8 b0 b1 b2 b3 b4 b5 b6 b7 b8
   simp only [eVal] at hsame
   clear h1 h2
   have hx1 : (x : Int) < (l.length : Int) := by omega
   go_wp2
   go_region_with ((go_at_call 82; refine (hsame.out 1).mono ?_; rintro e w2 ⟨rfl, hb2⟩; have Hb2 := Lib.hid (below_then Hbe.out (show Below wr.heap.size wr w2 from ⟨hb2.os, hb2.tape, hb2.output, hb2.size, hb2.block⟩)); clear hb2))
   all_goals
    go_wp2
    go_roundw
    case rel => exact ⟨x + 1, by go_num, by omega, Hb2⟩
    case measure => simp [intOf] <;> omega
  ·obtain rfl : x = l.length := by omega
   go_wp2
   go_ret
   exact ⟨rfl, Hbe.out⟩
end Go.Proofs.YtdaceeijifjpeaaGreatDoor.Vi
end
section
namespace Go.Proofs.YtdaceeijifjpeaaGreatDoor.Vi
open Go.RowKit Base Mem Go.Shelf Tape
open Lead (VoteD VoteAt promiseS wonS accS medS termS newVote)
open Px (upd upd_same upd_ne Inv)
theorem sys_log {I : Nat → Prop} {w W : World} {M : List Nat} {tg : Nat → Nat → Nat} {r d : Nat → Nat} {R : Nat → RpD} (h : RSys I w W M tg r d R) {i : Nat} (hi : I i) (V : World) (hk : Keeps [] W V) :
  Calls Tryz.prog 51 #[.pointer (some ⟨r i, 0, none⟩)] V fun e w' => EnsPost (R i).x.log V e w' := by
 obtain ⟨_, C, _, hv⟩ := (h.keep0 hk).rp i hi
 exact rplog_any hv
theorem sys_wok {I : Nat → Prop} {w W : World} {M : List Nat} {tg : Nat → Nat → Nat} {r d : Nat → Nat} {R : Nat → RpD} (h : RSys I w W M tg r d R) {i : Nat} (hi : I i) : WOk (R i).x := by
 obtain ⟨_, C, _, hv⟩ := h.rp i hi
 exact hv.st.ok
theorem ens_take {W : World} {M : List Nat} {A : Option Addr} {l : List EntryD} {c n : Nat} (h : Ens W M (.slice A l.length c) l) (hn : n ≤ l.length) : Ens W M (.slice A n c) (l.take n) := by
 obtain ⟨ps, rfl, hr, hd⟩ := h
 rw [List.length_map] at hr hn
 refine ⟨ps.take n, by rw [List.map_take], ?_, fun p hp => hd p (List.mem_of_mem_take hp)⟩
 obtain ⟨A', c', h1, h2, h3, h4⟩ := hr
 injection h1 with h1 h5 h6
 subst h1 h6
 have hl : (ps.take n).length = n := by rw [List.length_take]; omega
 rw [hl]
 have hpre : (ps.take n).flatMap eCell <+: ps.flatMap eCell := by
  have := List.take_append_drop n ps
  exact ⟨(ps.drop n).flatMap eCell, by rw [← List.flatMap_append, this]⟩
 refine ⟨A, c, rfl, by omega, by rw [flat_len eCell 9 (fun _ => rfl), hl], fun h0 => ?_⟩
 obtain ⟨g, off, e1, e2, e3, e4⟩ := h4 (by omega)
 refine ⟨g, off, e1, e2, e3, fun j u hu => e4 j u ?_⟩
 have hj := (List.getElem?_eq_some_iff.1 hu).1
 obtain ⟨t, ht⟩ := hpre
 rw [← ht, List.getElem?_append_left hj]
 exact hu
set_option maxRecDepth 100000 in
set_option maxHeartbeats 2000000 in
theorem agree_any {w W : World} {M : List Nat} {tg : Nat → Nat → Nat} {r d : Nat → Nat} {R : Nat → RpD} {s : PSt} (h : RSys (fun j => j < 3) w W M tg r d R) (hp : Pr3 R s) :
    Calls Tryz.prog 19 #[.agg #[.pointer (some ⟨r 0, 0, none⟩), .pointer (some ⟨r 1, 0, none⟩), .pointer (some ⟨r 2, 0, none⟩)]] W fun e V => e = .returned (.bool true) ∧ Keeps [] W V := by
  obtain ⟨w1, hw1⟩ : ∃ w1, w1 = W.alloc (.cells #[.pointer (some ⟨r 0, 0, none⟩), .pointer (some ⟨r 1, 0, none⟩), .pointer (some ⟨r 2, 0, none⟩)] 50) := ⟨_, rfl⟩
  have hk1 : Keeps [] W w1 := by rw [hw1]; exact (Keeps.refl _ _).alloc _
  have hB : Blk w1 W.heap.size 50 #[.pointer (some ⟨r 0, 0, none⟩), .pointer (some ⟨r 1, 0, none⟩), .pointer (some ⟨r 2, 0, none⟩)] := by rw [hw1]; exact Blk.new W _ _
  have HC : Hid (∀ V, Keeps [] w1 V → ∀ x, x < 3 → V.cell? ⟨W.heap.size, x, none⟩ = some (.pointer (some ⟨r x, 0, none⟩))) := fun V hk x hx => by
    have hb := hk.blk hB (by simp)
    match x, hx with
    | 0, _ => exact hb.cell 0
    | 1, _ => exact hb.cell 1
    | 2, _ => exact hb.cell 2
  have Hk1 := Lib.hid hk1
  have HLg0 := Lib.hid (fun (x : Nat) (hx : x < 3) V (hk : Keeps [] W V) => sys_log h hx V hk)
  have HLg : Hid (∀ (x : Nat) (hx : x < 3) V, Keeps [] w1 V → Calls Tryz.prog 51 #[.pointer (some ⟨r x, 0, none⟩)] V fun e w' => EnsPost (R x).x.log V e w') := fun x hx V hk => HLg0.out x hx V (Hk1.out.trans hk (by simp))
  have HCm : Hid (∀ (x : Nat) (hx : x < 3) V, Keeps [] w1 V → Calls Tryz.prog 13 #[.pointer (some ⟨r x, 0, none⟩)] V fun e w' => e = .returned (.int .i64 (R x).com) ∧ V = w') := fun x hx V hk => sys_commit h hx V (Hk1.out.trans hk (by simp))
  have HWk : Hid (∀ x, x < 3 → WOk (R x).x) := fun x hx => sys_wok h hx
  have HAg : Hid (∀ x y, x < 3 → y < 3 → min (R x).com (R y).com ≤ (R x).x.log.length ∧ min (R x).com (R y).com ≤ (R y).x.log.length ∧ (R x).x.log.take (min (R x).com (R y).com) = (R y).x.log.take (min (R x).com (R y).com)) := fun x y hx hy => hp.agree hx hy
  clear h hp hk1 hB HLg0
  go_enter Tryz.func19, Tryz.ntmps19
  go_upto_region 1 with (fail)
  try rw [← hw1]
  clear hw1
  generalize W.heap.size = gb at *
  go_wp2_with fail
  go_loopw [8] (fun i wr => ∃ x : Nat, i = .int .i64 x ∧ x ≤ 3 ∧ Hid (Keeps [] w1 wr)) (fun i _ => 3 - (intOf i).toNat)
  case atStart => exact ⟨0, rfl, by omega, Keeps.refl _ _⟩
  case round =>
    obtain ⟨x, rfl, hx, Hko⟩ := hrel
    obtain ⟨wo, rfl⟩ : ∃ wo : World, wo = wr := ⟨_, rfl⟩
    by_cases hlt : x < 3
    · have hxi : (x : Int) < 3 := by omega
      go_wp2_with fail
      go_loopw [11] (fun i wr => ∃ y : Nat, i = .int .i64 y ∧ y ≤ 3 ∧ Hid (Keeps [] w1 wr)) (fun i _ => 3 - (intOf i).toNat)
      case atStart => exact ⟨0, rfl, by omega, Hko⟩
      case round =>
        obtain ⟨y, rfl, hy, Hkw⟩ := hrel
        by_cases hlt2 : y < 3
        · have hyi : (y : Int) < 3 := by omega
          have HC2 : Hid (∀ V, Keeps [] wr V → V.cell? ⟨gb, x, none⟩ = some (.pointer (some ⟨r x, 0, none⟩)) ∧ V.cell? ⟨gb, y, none⟩ = some (.pointer (some ⟨r y, 0, none⟩))) := fun V hk => ⟨HC.out V (Hkw.out.trans hk (by simp)) x hlt, HC.out V (Hkw.out.trans hk (by simp)) y hlt2⟩
          go_upto_region 7 with (fail)
          refine wp_region_held_drew (S := (fun W => W.cell? ⟨gb, x, none⟩ = some (.pointer (some ⟨r x, 0, none⟩)) ∧ W.cell? ⟨gb, y, none⟩ = some (.pointer (some ⟨r y, 0, none⟩)))) (by kernel_rfl) (HC2.out _ ((Keeps.refl _ _).drew)) (fun hHeld => ?_)
          refine wT 0 (v := ?v0u1) (by kernel_rfl) rfl (by rfl) ?y0u1 (fun _ _ _ h => h) (by assumption) ?r0u1
          case y0u1 => (intro w hSw; (obtain ⟨hS0, hS1⟩ := hSw); go_simp <;> with_reducible rfl)
          try simp only [sgl, Act.put]
          refine wT 1 (v := ?v1u2) (by kernel_rfl) rfl (by rfl) ?y1u2 (fun _ _ _ h => h) (by assumption) ?r1u2
          case y1u2 => (intro w hSw; (obtain ⟨hS0, hS1⟩ := hSw); go_simp <;> with_reducible rfl)
          try simp only [sgl, Act.put]
          refine wT 2 (v := ?v2u3) (by kernel_rfl) rfl (by rfl) ?y2u3 (fun _ _ _ h => h) (by assumption) ?r2u3
          case y2u3 => (intro w hSw; (obtain ⟨hS0, hS1⟩ := hSw); go_simp <;> with_reducible rfl)
          try simp only [sgl, Act.put]
          refine wT 4 (v := ?v4u4) (by kernel_rfl) rfl (by rfl) ?y4u4 (fun _ _ _ h => h) (by assumption) ?r4u4
          case y4u4 => (intro w hSw; (obtain ⟨hS0, hS1⟩ := hSw); go_simp <;> with_reducible rfl)
          try simp only [sgl, Act.put]
          refine wT 5 (v := ?v5u5) (by kernel_rfl) rfl (by rfl) ?y5u5 (fun _ _ _ h => h) (by assumption) ?r5u5
          case y5u5 => (intro w hSw; (obtain ⟨hS0, hS1⟩ := hSw); go_simp <;> with_reducible rfl)
          try simp only [sgl, Act.put]
          refine wT 6 (v := ?v6u6) (by kernel_rfl) rfl (by rfl) ?y6u6 (fun _ _ _ h => h) (by assumption) ?r6u6
          case y6u6 => (intro w hSw; (obtain ⟨hS0, hS1⟩ := hSw); go_simp <;> with_reducible rfl)
          try simp only [sgl, Act.put]
          refine wpAnyH_ready (rs := [3]) (by kernel_rfl) (by simp) ?_
          refine AllReadyH.cons (o := _) rfl (fun K hK => ?_) AllReadyH.nil
          go_simp
          refine (HLg.out x (by omega) _ ((Hkw.out.trans (Keeps.refl [] wr).drew (by simp)))).mono ?_
          rintro e w2 ⟨Ax, rfl, hEx, hkx⟩
          have HEx := Lib.hid (hEx [] (by simp))
          have Hkx : Hid (Keeps [] wr w2) := ((Keeps.refl [] wr).drew).trans hkx (by simp)
          clear hEx hkx
          refine hK.out _ _ (HC2.out _ Hkx.out) (fun hHeld2 => ?_)
          clear hK K hHeld
          have hHeld := hHeld2
          clear hHeld2
          try simp only [sgl, Act.put]
          refine wpAnyH_ready (rs := [7]) (by kernel_rfl) (by simp) ?_
          refine AllReadyH.cons (o := _) rfl (fun K hK => ?_) AllReadyH.nil
          go_simp
          refine (HLg.out y (by omega) _ (Hkw.out.trans Hkx.out (by simp))).mono ?_
          rintro e w3 ⟨Ay, rfl, hEy, hky⟩
          have HEy := Lib.hid (hEy [] (by simp))
          have HEx3 := Lib.hid (HEx.out.keep hky (by simp))
          have Hky : Hid (Keeps [] wr w3) := Hkx.out.trans hky (by simp)
          clear hEy hky
          refine hK.out _ _ (HC2.out _ Hky.out) (fun hHeld2 => ?_)
          clear hK K hHeld
          have hHeld := hHeld2
          clear hHeld2
          try simp only [sgl, Act.put]
          refine wT 8 (v := ?v8u7) (by kernel_rfl) rfl (by rfl) ?y8u7 (fun _ _ _ h => h) (by assumption) ?r8u7
          case y8u7 => (intro w hSw; (obtain ⟨hS0, hS1⟩ := hSw); go_simp <;> with_reducible rfl)
          try simp only [sgl, Act.put]
          refine wT 9 (v := ?v9u8) (by kernel_rfl) rfl (by rfl) ?y9u8 (fun _ _ _ h => h) (by assumption) ?r9u8
          case y9u8 => (intro w hSw; (obtain ⟨hS0, hS1⟩ := hSw); go_simp <;> with_reducible rfl)
          try simp only [sgl, Act.put]
          refine wpAnyH_done (by kernel_rfl) ?_ _
          clear hHeld
          obtain ⟨m1, m2, m3⟩ := HAg.out x y hlt hlt2
          have hcx := Lib.hid (HCm.out x hlt); have hcy := Lib.hid (HCm.out y hlt2)
          have HCx : Hid (∀ V, Keeps [] w3 V → Calls Tryz.prog 13 #[.pointer (some ⟨r x, 0, none⟩)] V fun e w' => e = .returned (.int .i64 (R x).com) ∧ V = w') := fun V hk => hcx.out V ((Hkw.out.trans Hky.out (by simp)).trans hk (by simp))
          have HCy : Hid (∀ V, Keeps [] w3 V → Calls Tryz.prog 13 #[.pointer (some ⟨r y, 0, none⟩)] V fun e w' => e = .returned (.int .i64 (R y).com) ∧ V = w') := fun V hk => hcy.out V ((Hkw.out.trans Hky.out (by simp)).trans hk (by simp))
          have HC3 : Hid (∀ V, Keeps [] w3 V → V.cell? ⟨gb, x, none⟩ = some (.pointer (some ⟨r x, 0, none⟩)) ∧ V.cell? ⟨gb, y, none⟩ = some (.pointer (some ⟨r y, 0, none⟩))) := fun V hk => HC2.out V (Hky.out.trans hk (by simp))
          have Hm1 := Lib.hid m1; have Hm2 := Lib.hid m2; have Hm3 := Lib.hid m3
          have Hlx : Hid ((R x).x.log.length ≤ 128 ∧ ∀ e ∈ (R x).x.log, EOk e) := wok_own (HWk.out x hlt)
          have Hly : Hid ((R y).x.log.length ≤ 128 ∧ ∀ e ∈ (R y).x.log, EOk e) := wok_own (HWk.out y hlt2)
          clear m1 m2 m3 hcx hcy
          generalize (R x).com = cx at *
          generalize (R y).com = cy at *
          generalize (R x).x.log = lx at *
          generalize (R y).x.log = ly at *
          go_upto_region 8 with (fail)
          refine wp_region_held_drew (S := (fun W => W.cell? ⟨gb, x, none⟩ = some (.pointer (some ⟨r x, 0, none⟩)) ∧ W.cell? ⟨gb, y, none⟩ = some (.pointer (some ⟨r y, 0, none⟩)))) (by kernel_rfl) (HC3.out _ ((Keeps.refl _ _).drew)) (fun hHeld => ?_)
          refine wT 0 (v := ?v0u9) (by kernel_rfl) rfl (by rfl) ?y0u9 (fun _ _ _ h => h) (by assumption) ?r0u9
          case y0u9 => (intro w hSw; (obtain ⟨hS0, hS1⟩ := hSw); go_simp <;> with_reducible rfl)
          try simp only [sgl, Act.put]
          refine wT 1 (v := ?v1u10) (by kernel_rfl) rfl (by rfl) ?y1u10 (fun _ _ _ h => h) (by assumption) ?r1u10
          case y1u10 => (intro w hSw; (obtain ⟨hS0, hS1⟩ := hSw); go_simp <;> with_reducible rfl)
          try simp only [sgl, Act.put]
          refine wT 2 (v := ?v2u11) (by kernel_rfl) rfl (by rfl) ?y2u11 (fun _ _ _ h => h) (by assumption) ?r2u11
          case y2u11 => (intro w hSw; (obtain ⟨hS0, hS1⟩ := hSw); go_simp <;> with_reducible rfl)
          try simp only [sgl, Act.put]
          refine wT 4 (v := ?v4u12) (by kernel_rfl) rfl (by rfl) ?y4u12 (fun _ _ _ h => h) (by assumption) ?r4u12
          case y4u12 => (intro w hSw; (obtain ⟨hS0, hS1⟩ := hSw); go_simp <;> with_reducible rfl)
          try simp only [sgl, Act.put]
          refine wT 5 (v := ?v5u13) (by kernel_rfl) rfl (by rfl) ?y5u13 (fun _ _ _ h => h) (by assumption) ?r5u13
          case y5u13 => (intro w hSw; (obtain ⟨hS0, hS1⟩ := hSw); go_simp <;> with_reducible rfl)
          try simp only [sgl, Act.put]
          refine wT 6 (v := ?v6u14) (by kernel_rfl) rfl (by rfl) ?y6u14 (fun _ _ _ h => h) (by assumption) ?r6u14
          case y6u14 => (intro w hSw; (obtain ⟨hS0, hS1⟩ := hSw); go_simp <;> with_reducible rfl)
          try simp only [sgl, Act.put]
          refine wpAnyH_ready (rs := [3]) (by kernel_rfl) (by simp) ?_
          refine AllReadyH.cons (o := _) rfl (fun K hK => ?_) AllReadyH.nil
          go_simp
          refine (HCx.out _ ((Keeps.refl [] w3).drew)).mono ?_
          rintro e w4 ⟨rfl, rfl⟩
          refine hK.out _ _ (HC3.out _ ((Keeps.refl [] w3).drew)) (fun hHeld2 => ?_)
          clear hK K hHeld
          have hHeld := hHeld2
          clear hHeld2
          try simp only [sgl, Act.put]
          refine wpAnyH_ready (rs := [7]) (by kernel_rfl) (by simp) ?_
          refine AllReadyH.cons (o := _) rfl (fun K hK => ?_) AllReadyH.nil
          go_simp
          refine (HCy.out _ ((Keeps.refl [] w3).drew)).mono ?_
          rintro e w4 ⟨rfl, rfl⟩
          refine hK.out _ _ (HC3.out _ ((Keeps.refl [] w3).drew)) (fun hHeld2 => ?_)
          clear hK K hHeld
          have hHeld := hHeld2
          clear hHeld2
          try simp only [sgl, Act.put]
          refine wT 8 (v := ?v8u15) (by kernel_rfl) rfl (by rfl) ?y8u15 (fun _ _ _ h => h) (by assumption) ?r8u15
          case y8u15 => (intro w hSw; (obtain ⟨hS0, hS1⟩ := hSw); go_simp <;> with_reducible rfl)
          try simp only [sgl, Act.put]
          refine wT 9 (v := ?v9u16) (by kernel_rfl) rfl (by rfl) ?y9u16 (fun _ _ _ h => h) (by assumption) ?r9u16
          case y9u16 => (intro w hSw; (obtain ⟨hS0, hS1⟩ := hSw); go_simp <;> with_reducible rfl)
          try simp only [sgl, Act.put]
          refine wpAnyH_done (by kernel_rfl) ?_ _
          clear hHeld
          obtain ⟨n, Hn⟩ : ∃ n : Nat, Hid (n = min cx cy) := ⟨_, rfl⟩
          have hmin : min (cx : Int) (cy : Int) = (n : Int) := by have := Hn.out; omega
          rw [hmin]
          rw [← Hn.out] at Hm1 Hm2 Hm3
          have hn1 : (n : Int) ≤ (lx.length : Int) := by have := Hm1.out; omega
          have hn2 : (n : Int) ≤ (ly.length : Int) := by have := Hm2.out; omega
          have e1 : decide (lx.length < n) = false := decide_eq_false (by omega)
          have e2 : decide (ly.length < n) = false := decide_eq_false (by omega)
          have hlx : lx.length ≤ 128 := Hlx.out.1
          have hly : ly.length ≤ 128 := Hly.out.1
          have HLo : Hid (∀ V, Keeps [] w3 V → Calls Tryz.prog 52 #[.slice Ax n lx.length, .slice Ay n ly.length] V fun e w' => e = .returned (.bool true) ∧ Keeps [] V w') := fun V hk => by
            have ha := ens_take (n := n) (HEx3.out.keep hk (by simp)) Hm1.out
            have hb := ens_take (n := n) (HEy.out.keep hk (by simp)) Hm2.out
            rw [← Hm3.out] at hb
            refine (rlogs_eq _ _ _ V ha hb ⟨by rw [List.length_take]; omega, fun e he => by have := eok_ds8 (Hlx.out.2 e (List.mem_of_mem_take he)); omega⟩).mono ?_
            rintro e V' ⟨he, hb⟩
            exact ⟨he, Keeps.of_below (M := []) hb⟩
          have Hkw3 : Hid (Keeps [] w1 w3) := Hkw.out.trans Hky.out (by simp)
          clear hmin HCx HCy HC2 HC3 HEx HEx3 HEy Hkx Hky Hn Hm1 Hm2 Hm3 Hlx Hly
          go_upto_region 9 with (fail)
          go_region_held3 (fun _ => True) (trivial)
            (first
              | (go_at_call 52
                 refine (HLo.out _ (Keeps.refl [] w3).drew.drew).mono ?_
                 rintro e w4 ⟨rfl, hk4⟩
                 have Hk4 : Hid (Keeps [] w3 w4) := ((Keeps.refl [] w3).drew.drew).trans hk4 (by simp)
                 clear hk4))
          have HK4 : Hid (Keeps [] w1 w4) := Hkw3.out.trans Hk4.out (by simp)
          go_wp2_with fail
          go_roundw
          case rel => exact ⟨y + 1, by go_num, by omega, HK4⟩
          case measure => simp [intOf] <;> omega
        · obtain rfl : y = 3 := by omega
          have hyi : ¬ (((3 : Nat) : Int) < 3) := by omega
          go_wp2_with fail
          go_roundw
          case rel => exact ⟨x + 1, by go_num, by omega, Hkw⟩
          case measure => simp [intOf] <;> omega
    · obtain rfl : x = 3 := by omega
      have hxi : ¬ (((3 : Nat) : Int) < 3) := by omega
      have HF := Lib.hid (Hk1.out.trans Hko.out (by simp))
      go_wp2_with fail
      go_ret
      exact ⟨rfl, HF.out⟩
end Go.Proofs.YtdaceeijifjpeaaGreatDoor.Vi
end
