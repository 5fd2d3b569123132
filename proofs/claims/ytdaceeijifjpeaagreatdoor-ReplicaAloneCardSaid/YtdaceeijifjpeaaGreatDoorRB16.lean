/- Texts put together: RqI, RqK, RSame, RqM in part. -/
import Derived.Deep.DeepCutAuto
import Derived.ChangeOld
import Derived.Below
import Derived.Test.YtdaceeijifjpeaaGreatDoorRA1
import Derived.Test.YtdaceeijifjpeaaGreatDoorRA4
import Derived.Test.YtdaceeijifjpeaaGreatDoorRA9
import Derived.Test.YtdaceeijifjpeaaGreatDoorRA10
import Derived.Test.YtdaceeijifjpeaaGreatDoorRA14
import Derived.Test.YtdaceeijifjpeaaGreatDoorRA15
set_option linter.unusedVariables false
set_option linter.unusedSimpArgs false
section
namespace Go.Proofs.YtdaceeijifjpeaaGreatDoor.Vi
open Go.RowKit Base Mem Go.Shelf Tape
open Lead (VoteD promiseS wonS accS medS termS newVote)
theorem good0 : GoodW word0 [] := ⟨[], by simp, rfl, rfl⟩
theorem lead_eq {R R1 : RpD} {T : Nat} (hT : termS R.x.t R.node R.nodes = T) (hp : rpPromise R T = (true, R1)) :
  rpLead R = if (promiseS (newVote T R.nodes) R.node R1.x.h R1.x.log).1 = true then rpWon { rpDown R1 with v := some (promiseS (newVote T R.nodes) R.node R1.x.h R1.x.log).2 } (promiseS (newVote T R.nodes) R.node R1.x.h R1.x.log).2
   else ({ rpDown R1 with v := some (promiseS (newVote T R.nodes) R.node R1.x.h R1.x.log).2 }, rpAll (rpDown R1) (prepareM T)) := by
 unfold rpLead
 simp only [hT, hp]
 rfl
theorem prom_any {R : RpD} {T : Nat} (h : R.x.t < T) (hk : KpOk ⟨T, R.x.h, R.x.log⟩ R.b) : rpPromise R T = (true, rpKept R ⟨T, R.x.h, R.x.log⟩) := by
 unfold rpPromise
 rw [if_pos (by omega), Int.toNat_natCast]
 exact rpKeep_ok hk
theorem prom_new (node nodes : Int) {T : Nat} (h : 1 ≤ T) (h2 : T ≤ 1000) : rpPromise (rpNew node nodes []) T = (true, rpKept (rpNew node nodes []) ⟨T, 0, []⟩) :=
 prom_any (R := rpNew node nodes []) h (show KpOk ⟨T, 0, []⟩ [] from kp40 (j := 0) h2 (by omega) (by simp) (by simp) (by simp) (by omega))
/-- A vote in which one has promised itself. -/
def vote1 (T n : Int) (had : Int) (l : List EntryD) : VoteD := { newVote T n with prom := (List.replicate 8 false).set 0 true, n := 1, had := had, best := l }
theorem promise_one (T had : Int) (l : List EntryD) : promiseS (newVote T 1) 0 had l = (true, vote1 T 1 had l) := rfl
/-- Behind a first promise. -/
def rp1 (node nodes : Int) (T : Nat) : RpD := rpKept (rpNew node nodes []) ⟨T, 0, []⟩
theorem rp1_b (node nodes : Int) {T : Nat} (h2 : T ≤ 1000) : (rp1 node nodes T).b.length ≤ 32000 ∧ GoodW (rp1 node nodes T).x (rp1 node nodes T).b ∧ (rp1 node nodes T).k = (rp1 node nodes T).b.length := by
 obtain ⟨q1, q2⟩ := rec40 (T := T) (H := 0) (l := []) h2 (by omega) (by simp) (by simp)
 refine ⟨?_, ?_, ?_⟩
 ·show ([] ++ frameL (recL ⟨T, 0, []⟩)).length ≤ _
  simpa using q2
 ·exact good_kept (x := word0) (b := []) good0 (Nat.le_trans q1 (by decide)) (wok40 h2 (by omega) (by simp) (by simp))
 ·show ([] : List UInt8).length + _ = ([] ++ frameL (recL ⟨T, 0, []⟩)).length
  simp
theorem lead_three : rpLead (rpNew 0 3 []) = ({ rp1 0 3 3 with v := some (vote1 3 3 0 []) }, [⟨1, prepareM 3⟩, ⟨2, prepareM 3⟩]) := by
 rw [lead_eq (T := 3) (R1 := rp1 0 3 3) rfl (prom_new 0 3 (by omega) (by omega))]
 rfl
theorem both_none {X : RpD} {v : VoteD} {acc : List Int} (ha : accS v X.node X.x.log.length = acc) (hm : medS acc v.nodes.toNat ≤ X.com) : rpBoth X v = ({ X with v := some { v with acc := acc } }, rpAccepts { X with v := some { v with acc := acc } }) := by
 unfold rpBoth rpCounted
 rw [ha, rpApply_none (show medS acc v.nodes.toNat ≤ (({ X with v := some { v with acc := acc } } : RpD).com : Int) from hm), List.nil_append]
/-- A leader that has won begins. -/
theorem won_new {R : RpD} {T : Nat} {n : Int} {v : VoteD} (hn : R.node = 0) (hnn : R.nodes = n) (hx : R.x = ⟨T, 0, []⟩) (hv : v.term = T ∧ v.nodes = n ∧ v.acc = List.replicate 8 0 ∧ v.best = []) (h1 : 1 ≤ n) (hm : medS (List.replicate 8 0) n.toNat = 0) (hc : R.com = 0) (ha : R.ap = 0) (hb : R.b.length ≤ 32000) (hg : GoodW R.x R.b) (hT : 1 ≤ T) (hT2 : T ≤ 1000) :
  ∃ R', rpWon R v = (R', rpAccepts R') ∧ Lds R' n T [] (List.replicate 8 0) 0 2 ∧ R'.st = R.st := by
 obtain ⟨q1, q2⟩ := rec40 (T := T) (H := T) (l := []) hT2 hT2 (by simp) (by simp)
 have hk : KpOk ⟨T, T, []⟩ R.b := kp40 (j := 1) hT2 hT2 (by simp) (by simp) (by omega) (by omega)
 have hA : AcOk R.x T [] := by rw [hx]; exact ⟨Int.le_refl _, by omega, by simp, by simp⟩
 have hL : accLong R.x T [] := by rw [hx]; exact .inl (by show 0 < T; omega)
 have ht : rpTake R T [] = (true, rpKept R ⟨T, T, []⟩) := by
  unfold rpTake
  rw [if_pos hA, if_neg (fun hh => hh.1 (by simpa using hL))]
  show rpKeep R (accW R.x (T : Int).toNat []) = _
  rw [Int.toNat_natCast, show accW R.x T [] = ⟨T, T, []⟩ from if_pos hL, rpKeep_ok hk]
 have hacc : accS v 0 0 = List.replicate 8 0 := acc_set v 0 (by omega) (a := 0) (r := List.replicate 7 0) hv.2.2.1 (Int.le_refl _)
 refine ⟨{ rpKept R ⟨T, T, []⟩ with leads := true, own := 0, v := some { v with acc := List.replicate 8 0 } }, ?_, ⟨hn, hnn, rfl, rfl, rfl, ⟨_, rfl, hv.1, hv.2.1, rfl⟩, hc, by show R.ap = R.com; rw [ha, hc], ?_, good_kept hg (Nat.le_trans q1 (by decide)) (wok40 hT2 hT2 (by simp) (by simp)), ?_⟩, rfl⟩
 ·have hW : rpWon R v = rpBoth { rpKept R ⟨T, T, []⟩ with leads := true, own := 0, v := some v } v := by
   unfold rpWon
   rw [hv.1, hv.2.2.2, ht, if_pos rfl]
   rfl
  rw [hW]
  exact both_none (X := { rpKept R ⟨T, T, []⟩ with leads := true, own := 0, v := some v }) (v := v) (acc := List.replicate 8 0) (by show accS v R.node 0 = _; rw [hn]; exact hacc) (by rw [hv.2.1, hm]; show (0 : Int) ≤ (R.com : Int); omega)
 ·show (R.b ++ _).length ≤ _
  rw [List.length_append]
  omega
 ·show R.b.length + _ = (R.b ++ _).length
  rw [List.length_append]
theorem med0 : medS (List.replicate 8 0) (3 : Int).toNat = 0 ∧ medS (List.replicate 8 0) (1 : Int).toNat = 0 := ⟨medS_three 0 0 (List.replicate 5 0) (Int.le_refl _) (Int.le_refl _), medS_one 0 (List.replicate 7 0)⟩
/-- A second promise of three: it leads. -/
theorem begin_three : ∃ R' out, rpRecv { rp1 0 3 3 with v := some (vote1 3 3 0 []) } 1 (promiseM 3 0 []) = (R', out) ∧ Lds R' 3 3 [] (List.replicate 8 0) 0 2 := by
 obtain ⟨hb, hg, _⟩ := rp1_b 0 3 (T := 3) (by omega)
 obtain ⟨R', h1, h2, _⟩ := won_new (R := { rp1 0 3 3 with v := some { vote1 3 3 0 [] with prom := ((List.replicate 8 false).set 0 true).set 1 true, n := 2 } }) (T := 3) (n := 3) (v := { vote1 3 3 0 [] with prom := ((List.replicate 8 false).set 0 true).set 1 true, n := 2 }) rfl rfl rfl ⟨rfl, rfl, rfl, rfl⟩ (by omega) med0.1 rfl rfl hb hg (by omega) (by omega)
 refine ⟨R', rpAccepts R', ?_, h2⟩
 rw [← h1]
 unfold rpRecv
 rw [right_prom (by omega) (by omega) (by simp) rfl]
 rfl
theorem follow_new : ∃ F', rpRecv (rpNew 1 3 []) 0 (prepareM 3) = (F', [⟨0, promiseM 3 0 []⟩]) ∧ Fls F' 3 [] 0 1 := by
 obtain ⟨hb, hg, _⟩ := rp1_b 1 3 (T := 3) (by omega)
 refine ⟨rpDown (rp1 1 3 3), ?_, ⟨rfl, rfl, rfl, .inr ⟨rfl, rfl⟩, rfl, rfl, rfl, rfl, hb⟩⟩
 unfold rpRecv
 rw [right_prep (by omega)]
 show rpPrep (rpNew 1 3 []) 0 3 = _
 unfold rpPrep
 rw [show rpPromise (rpNew 1 3 []) 3 = _ from prom_new 1 3 (T := 3) (by omega) (by omega), if_pos rfl]
 rfl
theorem lead_one : ∃ R', rpLead (rpNew 0 1 []) = (R', []) ∧ Lds R' 1 1 [] (List.replicate 8 0) 0 2 ∧ R'.st = mc00 := by
 obtain ⟨hb, hg, _⟩ := rp1_b 0 1 (T := 1) (by omega)
 obtain ⟨R', h1, h2, h3⟩ := won_new (R := { rpDown (rp1 0 1 1) with v := some (vote1 1 1 0 []) }) (T := 1) (n := 1) (v := vote1 1 1 0 []) rfl rfl rfl ⟨rfl, rfl, rfl, rfl⟩ (by omega) med0.2 rfl rfl hb hg (by omega) (by omega)
 refine ⟨R', ?_, h2, h3⟩
 rw [lead_eq (T := 1) (R1 := rp1 0 1 1) rfl (prom_new 0 1 (by omega) (by omega))]
 show rpWon { rpDown (rp1 0 1 1) with v := some (vote1 1 1 0 []) } (vote1 1 1 0 []) = _
 rw [h1]
 unfold rpAccepts rpAll toAll
 rw [h2.node, h2.nodes]
 rfl
noncomputable def stL : McD → List EntryD → McD
 | st, [] => st
 | st, e :: r => stL (applyM st (pk e.ag e.sh) e).2.2 r
theorem stL_app : ∀ (l : List EntryD) (st : McD) (r : List EntryD), stL st (l ++ r) = stL (stL st l) r
 | [], _, _ => rfl
 | _ :: l, _, r => stL_app l _ r
theorem rpSteps_st : ∀ (l : List EntryD) (R : RpD), (rpSteps l R).1.st = stL R.st l
 | [], _ => rfl
 | _ :: l, R => rpSteps_st l _
/-- One of one that is asked answers. -/
theorem ask_one {R : RpD} {T : Nat} {l : List EntryD} {r : List Int} {e : EntryD} {fr : Int} {j : Nat} (h : Lds R 1 T l (l.length :: r) l.length j) (hT : 1 ≤ T) (hT2 : T ≤ 1000) (hl : l.length + 1 ≤ 26) (hok : ∀ a ∈ l ++ [askE e fr], EntryOk a) (hj : j ≤ 30) (hst : R.st = stL mc00 l) :
  ∃ R', rpAsk R fr e = (R', [⟨fr, answerM e.tag (applyM R.st (pk e.ag e.sh) (askE e fr)).1 (applyM R.st (pk e.ag e.sh) (askE e fr)).2.1⟩]) ∧ Lds R' 1 T (l ++ [askE e fr]) (((l ++ [askE e fr]).length : Nat) :: r) (l ++ [askE e fr]).length (j + 1) ∧ R'.st = stL mc00 (l ++ [askE e fr]) := by
 obtain ⟨v, hv, hvt, hvn, hva⟩ := h.v
 have hlen : (l ++ [askE e fr]).length = l.length + 1 := by simp
 obtain ⟨q1, q2⟩ := rec40 hT2 hT2 (by omega) hok
 obtain ⟨R', h1, h2, h3⟩ := rpAsk_one h.nodes h.node h.leads hv hvt hvn ⟨_, _, hva, Int.le_refl _⟩ h.x h.com (by rw [h.own]; exact Nat.zero_le _) hT (by omega) (fun a ha => (entry_right (hok a ha)).1) (kp40 hT2 hT2 (by omega) hok h.b hj) (e := e) (fr := fr)
 have hacc : accS v 0 ((l.length + 1 : Nat) : Int) = ((l.length + 1 : Nat) : Int) :: r := acc_set v _ (by omega) hva (by omega)
 have hL : Lds R' 1 T (l ++ [askE e fr]) (((l ++ [askE e fr]).length : Nat) :: r) (l ++ [askE e fr]).length (j + 1) := by
  rw [h3]
  refine ⟨h.node, h.nodes, rfl, h.leads, h.own, ⟨_, rfl, hvt, hvn, by rw [hlen]; exact hacc⟩, ?_, ?_, ?_, good_kept h.good.1 (Nat.le_trans q1 (by decide)) (wok40 hT2 hT2 (by omega) hok), ?_⟩
  ·show R.com + 1 = _
   rw [h.com, hlen]
  ·show R.ap + 1 = R.com + 1
   rw [h.ap]
  ·show (R.b ++ _).length ≤ _
   have := h.b
   rw [List.length_append]
   omega
  ·show R.b.length + _ = (R.b ++ _).length
   rw [List.length_append]
 refine ⟨R', Prod.ext h1 ?_, hL, ?_⟩
 ·rw [h2]
  have hacs : rpAccepts R' = [] := by
   unfold rpAccepts rpAll toAll
   rw [hL.node, hL.nodes]
   rfl
  rw [hacs, List.append_nil]
  show (if R.leads = true ∧ R.own ≤ R.com then _ else _) = _
  rw [if_pos ⟨h.leads, by rw [h.own]; exact Nat.zero_le _⟩]
  rfl
 ·rw [h3, stL_app, ← hst]
  rfl
/-- One of one begins anew on its disk: it is as it was. -/
theorem again_one {R : RpD} {l : List EntryD} {r : List Int} {j : Nat} (h : Lds R 1 1 l (l.length :: r) l.length j) (hl : l.length ≤ 26) (hok : ∀ a ∈ l, EntryOk a) (hj : j ≤ 28) (hst : R.st = stL mc00 l) (b : List UInt8) (hb : b = R.b) :
  ∃ S' out, (rpNew 0 1 b).com = 0 ∧ (rpNew 0 1 b).leads = false ∧ (rpNew 0 1 b).ap = 0 ∧ rpLead (rpNew 0 1 b) = (S', out) ∧ S'.leads = true ∧ S'.com = l.length ∧ S'.st = R.st ∧ S'.ap = S'.com := by
 subst hb
 obtain ⟨rs, hs, hlast⟩ := h.good.1.scan
 have hx : (rpNew 0 1 R.b).x = ⟨1, 1, l⟩ := by
  show lastV word0 (scanS R.b).1 = _
  rw [hs, hlast, h.x]
 have hbb : (rpNew 0 1 R.b).b = R.b := by
  show R.b.take (scanS R.b).2 = _
  rw [hs]
  exact List.take_length
 obtain ⟨q1, q2⟩ := rec40 (T := 2) (H := 1) (by omega) (by omega) hl hok
 have hbl := h.b
 have hk : KpOk ⟨2, 1, l⟩ R.b := kp40 (by omega) (by omega) hl hok h.b (by omega)
 have hp : rpPromise (rpNew 0 1 R.b) (2 : Nat) = (true, rpKept (rpNew 0 1 R.b) ⟨2, 1, l⟩) := by
  have := prom_any (R := rpNew 0 1 R.b) (T := 2) (by rw [hx]; show 1 < 2; omega) (by rw [hx, hbb]; exact hk)
  rw [hx] at this
  exact this
 have ht2 : termS (rpNew 0 1 R.b).x.t (rpNew 0 1 R.b).node (rpNew 0 1 R.b).nodes = (2 : Nat) := by
  rw [hx]
  show termS 1 0 1 = 2
  decide
 refine ⟨(rpLead (rpNew 0 1 R.b)).1, (rpLead (rpNew 0 1 R.b)).2, rfl, rfl, rfl, rfl, ?_⟩
 rw [lead_eq ht2 hp]
 show (if (promiseS (newVote 2 1) 0 1 l).1 = true then _ else _ : RpD × List SentD).1.leads = true ∧ _
 rw [promise_one, if_pos rfl]
 obtain ⟨S, hS⟩ : ∃ S, S = ({ rpDown (rpKept (rpNew 0 1 R.b) ⟨2, 1, l⟩) with v := some (vote1 2 1 1 l) } : RpD) := ⟨_, rfl⟩
 have hkb : KpOk ⟨2, 2, l⟩ S.b := by
  rw [hS]
  show KpOk ⟨2, 2, l⟩ ((rpNew 0 1 R.b).b ++ _)
  rw [hbb]
  refine kp40 (j := j + 1) (by omega) (by omega) hl hok ?_ (by omega)
  rw [List.length_append]
  omega
 have hA : AcOk S.x (2 : Nat) l := by rw [hS]; exact ⟨Int.le_refl _, by omega, by omega, fun a ha => (entry_right (hok a ha)).1⟩
 have hL : accLong S.x 2 l := by rw [hS]; exact .inl (by show 1 < 2; omega)
 have ht : rpTake S (2 : Nat) l = (true, rpKept S ⟨2, 2, l⟩) := by
  unfold rpTake
  rw [if_pos hA, if_neg (fun hh => hh.1 (by simpa using hL))]
  show rpKeep S (accW S.x 2 l) = _
  rw [show accW S.x 2 l = ⟨2, 2, l⟩ from if_pos hL, rpKeep_ok hkb]
 show (rpWon { rpDown (rpKept (rpNew 0 1 R.b) ⟨2, 1, l⟩) with v := some (vote1 2 1 1 l) } (vote1 2 1 1 l)).1.leads = true ∧ (rpWon { rpDown (rpKept (rpNew 0 1 R.b) ⟨2, 1, l⟩) with v := some (vote1 2 1 1 l) } (vote1 2 1 1 l)).1.com = _ ∧ (rpWon { rpDown (rpKept (rpNew 0 1 R.b) ⟨2, 1, l⟩) with v := some (vote1 2 1 1 l) } (vote1 2 1 1 l)).1.st = _ ∧ (rpWon { rpDown (rpKept (rpNew 0 1 R.b) ⟨2, 1, l⟩) with v := some (vote1 2 1 1 l) } (vote1 2 1 1 l)).1.ap = (rpWon { rpDown (rpKept (rpNew 0 1 R.b) ⟨2, 1, l⟩) with v := some (vote1 2 1 1 l) } (vote1 2 1 1 l)).1.com
 rw [← hS]
 have hSn : S.node = 0 := by rw [hS]; rfl
 have hSc : S.com = 0 := by rw [hS]; rfl
 have hSa : S.ap = 0 := by rw [hS]; rfl
 have hSt : S.st = mc00 := by rw [hS]; rfl
 have hw : (rpWon S (vote1 2 1 1 l)).1 = (rpSteps l { rpKept S ⟨2, 2, l⟩ with leads := true, own := l.length, v := some { vote1 2 1 1 l with acc := (l.length : Int) :: List.replicate 7 0 } }).1 := by
  unfold rpWon
  rw [show (vote1 2 1 1 l).term = ((2 : Nat) : Int) from rfl, show (vote1 2 1 1 l).best = l from rfl, ht, if_pos rfl]
  unfold rpBoth rpCounted rpApply
  show (rpSteps ((l.take (medS (accS (vote1 2 1 1 l) S.node (l.length : Int)) 1).toNat).drop S.com) { { rpKept S ⟨2, 2, l⟩ with leads := true, own := l.length, v := some (vote1 2 1 1 l) } with v := some { vote1 2 1 1 l with acc := accS (vote1 2 1 1 l) S.node (l.length : Int) } }).1 = _
  rw [hSn, hSc, acc_set (vote1 2 1 1 l) (l.length : Int) (by show (1 : Int) ≤ 1; omega) (a := 0) (r := List.replicate 7 0) rfl (by omega), medS_one, Int.toNat_natCast, List.take_length, List.drop_zero]
 have c1 := rpSteps_com l { rpKept S ⟨2, 2, l⟩ with leads := true, own := l.length, v := some { vote1 2 1 1 l with acc := (l.length : Int) :: List.replicate 7 0 } }
 have c2 := rpSteps_same l { rpKept S ⟨2, 2, l⟩ with leads := true, own := l.length, v := some { vote1 2 1 1 l with acc := (l.length : Int) :: List.replicate 7 0 } }
 have c3 := rpSteps_st l { rpKept S ⟨2, 2, l⟩ with leads := true, own := l.length, v := some { vote1 2 1 1 l with acc := (l.length : Int) :: List.replicate 7 0 } }
 rw [hw]
 obtain ⟨s1, s2, s3, s4, s5, s6, _⟩ := c2
 obtain ⟨d1, d2, _⟩ := c1
 refine ⟨s5, ?_, ?_, ?_⟩
 ·rw [d1]
  show S.com + _ = _
  rw [hSc]
  omega
 ·rw [c3, hst]
  show stL S.st l = _
  rw [hSt]
 ·rw [d1, d2]
  show S.ap + _ = S.com + _
  rw [hSa, hSc]
/-- Chapter 16's known entry. -/
def knE : EntryD := ⟨1, 1, 0, 1, 1, [⟨kA, 5⟩], ByteArray.empty, 0, 9⟩
theorem knE_right : rightE (askE knE 5) = 0 := by decide +kernel
theorem knE_ok : EntryOk (askE knE 5) := by
 refine ⟨by decide, by decide, by decide, by decide, .inr ⟨rfl, rfl, by decide, by decide, by decide, by decide, by decide, by decide, by decide, by decide, by decide, by decide, fun d hd => ?_⟩⟩
 simp [knE, askE] at hd
 subst hd
 exact ⟨kA_ok, by decide, by decide⟩
theorem knE_apply : (applyM mc00 (pk 1 0) (askE knE 5)).1 = 1 := by
 have hf := fence_right (ag := 1) (by omega) 0 kA_ok (p := 1) (n := 5) (by omega) (by omega)
 have he : applyM mc00 (pk 1 0) (askE knE 5) = applyM mc0 (pk 1 0) (fenceE 1 0 kA 1 5) := by
  unfold applyM
  rw [if_pos knE_right, if_pos hf]
  rfl
 rw [he, fence_yes (by omega) (fence_start 1 (pk 1 0)) (by omega) kA_ok (by omega) (by omega) (by omega)]
end Go.Proofs.YtdaceeijifjpeaaGreatDoor.Vi
end
section
namespace Go.Proofs.YtdaceeijifjpeaaGreatDoor.Vi
open Go.RowKit Base Mem Go.Shelf Tape
open Lead (VoteD VoteAt promiseS wonS accS medS termS newVote)
open Px (upd upd_same upd_ne)
theorem knE_fit : MFit (askM knE) := by
 have hsh : ∀ d ∈ knE.ds, d = ⟨kA, 5⟩ := fun d hd => by simpa [knE] using hd
 refine ⟨⟨⟨by decide, fun d hd => ?_, by decide⟩, by simp [askM], by simp [askM]⟩, ⟨by decide, by decide, by decide, fun d hd => ?_⟩, by simp [askM], by decide, by decide⟩
 ·rw [hsh d hd]; decide
 ·rw [hsh d hd]; exact ⟨by decide, by decide⟩
theorem ask_first : rpRecv (rpNew 0 1 []) 5 (askM knE) = (rpNew 0 1 [], [⟨5, answerM 9 6 0⟩]) := by
 unfold rpRecv
 rw [right_ask (show EntryOk knE from by
  obtain ⟨_, _, h3, h4, h5⟩ := knE_ok
  exact ⟨by decide, by decide, h3, h4, h5⟩)]
 rfl
theorem acc_low : rpRecv { rp1 0 3 3 with v := some (vote1 3 3 0 []) } 1 (acceptM 1 [] 0) = ({ rp1 0 3 3 with v := some (vote1 3 3 0 []) }, []) := by
 unfold rpRecv
 rw [right_acc (by omega) (by omega) (by simp) rfl]
 show rpAcc { rp1 0 3 3 with v := some (vote1 3 3 0 []) } 1 (acceptM 1 [] 0) = _
 unfold rpAcc
 have h : rpTake { rp1 0 3 3 with v := some (vote1 3 3 0 []) } (acceptM 1 [] 0).term (acceptM 1 [] 0).log = (false, { rp1 0 3 3 with v := some (vote1 3 3 0 []) }) := by
  unfold rpTake
  rw [if_neg (fun hA => by have := hA.1; exact absurd this (by show ¬ ((3 : Nat) : Int) ≤ 1; decide))]
 rw [h]
 rfl
theorem acc_fit : MFit (acceptM 1 [] 0) := ⟨⟨⟨by decide, by simp [acceptM, en0], by decide⟩, by simp [acceptM], by simp [acceptM]⟩, ⟨by decide, by decide, by decide, by simp [acceptM, en0]⟩, by simp [acceptM], by decide, by decide⟩
set_option maxRecDepth 100000 in
set_option maxHeartbeats 2000000 in
theorem known16_any (m : Int) (w : World) (hm : w.cell? ⟨0, 0, none⟩ = some (.int .i64 m)) :
  Calls Tryz.prog 15 #[] w fun e w' => e = .returned (.bool true) ∧ Below w.heap.size w w' := by
 have Hm := Lib.hid hm
 have hw0 : 0 < w.heap.size := by
  have := World.block_lt_of_cell? w _ hm
  simpa using this
 clear hm
 go_enter Tryz.func15, Tryz.ntmps15
 go_wp2_with fail
 refine (dknew_any w).mono ?_
 rintro e w1 ⟨rfl, hd1, hb1⟩
 obtain ⟨b0, Hb0⟩ : ∃ b, Hid (b = w.heap.size) := ⟨_, rfl⟩
 obtain ⟨tg1, hs1, -, hbe1⟩ := (RSys.start (Below.refl w.heap.size w) (fun _ _ => 0) (fun _ => 0) (fun _ => 0) (fun _ => rpNew 0 1 [])).disk hb1 hd1
 rw [← Hb0.out] at hd1 hs1 hbe1 ⊢
 have HN := Lib.hid (hs1.newz (i := 0) id hd1 (by intro g hg; simp at hg; subst hg; exact ⟨hbe1.1, fun j _ => hbe1.2 j⟩) 0 1 (by omega) (by omega) (by omega) (by omega) Hm.out)
 clear hd1 hb1 hs1 hbe1
 go_wp2_with fail
 refine HN.out.mono ?_
 rintro e w2 ⟨ra, M2, tg2, rfl, hs2, -⟩
 have HS2 := Lib.hid hs2
 clear hs2 HN
 go_wp2_with fail
 refine (dknew_any w2).mono ?_
 rintro e w3 ⟨rfl, hd3, hb3⟩
 obtain ⟨b1, Hb1⟩ : ∃ b, Hid (b = w2.heap.size) := ⟨_, rfl⟩
 obtain ⟨tg3, hs3, -, hbe3⟩ := HS2.out.disk hb3 hd3
 rw [← Hb1.out] at hd3 hs3 hbe3 ⊢
 have HN := Lib.hid (hs3.newz (i := 1) (by simp) hd3 (by intro g hg; simp at hg; subst hg; exact ⟨hbe3.1, fun j _ => hbe3.2 j⟩) 0 3 (by omega) (by omega) (by omega) (by omega) Hm.out)
 clear hd3 hb3 hs3 hbe3 HS2
 go_wp2_with fail
 refine HN.out.mono ?_
 rintro e w4 ⟨rb, M4, tg4, rfl, hs4, -⟩
 have HS4 : Hid (Sys2 w w4 M4 tg4 ra rb b0 b1 (rpNew 0 1 []) (rpNew 0 3 [])) := Sys2.of hs4
 clear hs4 HN
 go_wp2_with fail
 refine (dknew_any w4).mono ?_
 rintro e w5 ⟨rfl, hd5, hb5⟩
 have HS5 := Lib.hid (HS4.out.keep0 (Keeps.of_below (M := []) hb5))
 clear hd5 hb5 HS4
 go_wp2_with fail
 refine (rpnew_no 1 1 _ (by omega)).mono ?_
 rintro e w6 ⟨rfl, rfl⟩
 obtain ⟨w6, hw6⟩ : ∃ w6, w6 = (w5.alloc (.cells #[.string { data := #[97, 61, 49] }, .int .u64 5] 91)).alloc (.cells #[.int .i64 1, .int .i64 1, .int .i64 0, .int .i64 1, .int .i64 1, .slice (some ⟨w5.heap.size, 0, none⟩) 1 1, .string ⟨#[]⟩, .int .i64 0, .int .i64 9] 33) := ⟨_, rfl⟩
 have hk6 : Keeps [] w5 w6 := by rw [hw6]; exact ((Keeps.refl _ _).alloc _).alloc _
 have HS6 := Lib.hid (HS5.out.keep0 hk6)
 have hBd : Blk w6 w5.heap.size 91 #[.string { data := #[97, 61, 49] }, .int .u64 5] := by
  rw [hw6]
  exact ((Keeps.refl [] _).alloc _).blk (Blk.new w5 _ _) (by simp)
 have hBe : Blk w6 (w5.heap.size + 1) 33 #[.int .i64 1, .int .i64 1, .int .i64 0, .int .i64 1, .int .i64 1, .slice (some ⟨w5.heap.size, 0, none⟩) 1 1, .string ⟨#[]⟩, .int .i64 0, .int .i64 9] := by
  have hE := Blk.new (w5.alloc (.cells #[.string { data := #[97, 61, 49] }, .int .u64 5] 91)) 33 #[.int .i64 1, .int .i64 1, .int .i64 0, .int .i64 1, .int .i64 1, .slice (some ⟨w5.heap.size, 0, none⟩) 1 1, .string ⟨#[]⟩, .int .i64 0, .int .i64 9]
  rw [World.size_alloc] at hE
  rw [hw6]
  exact hE
 have HOd : Hid (Out1 w6 M4 w5.heap.size [.string { data := #[97, 61, 49] }, .int .u64 5]) := Out1.new HS5.out (Nat.le_refl _) hBd.lt (fun j u hu => by rw [hBd.cell]; simpa using hu)
 have HOe : Hid (Out1 w6 M4 (w5.heap.size + 1) [.int .i64 1, .int .i64 1, .int .i64 0, .int .i64 1, .int .i64 1, .slice (some ⟨w5.heap.size, 0, none⟩) 1 1, .string ⟨#[]⟩, .int .i64 0, .int .i64 9]) := Out1.new HS5.out (Nat.le_succ _) hBe.lt (fun j u hu => by rw [hBe.cell]; simpa using hu)
 clear hBd hBe hk6 HS5
 go_upto_region 6 with (fail)
 try rw [← hw6]
 clear hw6
 obtain ⟨gD, HgD⟩ : ∃ g, Hid (g = w5.heap.size) := ⟨_, rfl⟩
 obtain ⟨gE, HgE⟩ : ∃ g, Hid (g = w5.heap.size + 1) := ⟨_, rfl⟩
 rw [← HgE.out] at HOe ⊢
 rw [← HgD.out] at HOd HOe
 clear HgD HgE
 have HFe : Hid (∀ (W : World) (M : List Nat), Out1 W M gD [.string { data := #[97, 61, 49] }, .int .u64 5] → MsgAt W M (askM knE) (.slice (some ⟨gD, 0, none⟩) 1 1) (.slice none 0 0)) := fun W M h => by
  refine ⟨⟨some ⟨gD, 0, none⟩, 1, rfl, Nat.le_refl _, rfl, fun _ => ⟨gD, 0, rfl, h.lt, h.out, fun j u hu => ?_⟩⟩, Ens.nil _ _⟩
  rw [Nat.zero_add]
  refine h.cell j u ?_
  have : dCells (askM knE).en.ds = [.string { data := #[97, 61, 49] }, .int .u64 5] := rfl
  rw [this] at hu
  exact hu
 have h0 := HOe.out.cell 0 _ rfl; have h1 := HOe.out.cell 1 _ rfl; have h2 := HOe.out.cell 2 _ rfl; have h3 := HOe.out.cell 3 _ rfl; have h4 := HOe.out.cell 4 _ rfl; have h5 := HOe.out.cell 5 _ rfl; have h6 := HOe.out.cell 6 _ rfl; have h7 := HOe.out.cell 7 _ rfl; have h8 := HOe.out.cell 8 _ rfl
 have HC := Lib.hid (HS6.out.recv0 5 (askM knE) _ _ (HFe.out _ _ HOd.out) knE_fit Hm.out ask_first)
 go_wp2_with fail
 refine (show Calls Tryz.prog 10 #[.pointer (some ⟨ra, 0, none⟩), .int .i64 5, .agg #[.int .i64 1, .int .i64 1, .int .i64 1, .int .i64 0, .int .i64 1, .int .i64 1, .slice (some ⟨gD, 0, none⟩) 1 1, .string ⟨#[]⟩, .int .i64 0, .int .i64 9, .int .i64 0, .int .i64 0, .int .u64 0, .int .i64 0, .int .i64 0, .slice none 0 0, .int .i64 0, .int .i64 0]] w6 _ from HC.out).mono ?_
 rintro e w7 ⟨v7, M7, tg7, rfl, hs7, hg7, hr7⟩
 have HS7 : Hid (Sys2 w w7 M7 tg7 ra rb b0 b1 (rpNew 0 1 []) (rpNew 0 3 [])) := hs7
 obtain ⟨ga, ca, dva, lva, rfl, hca, hma, -⟩ := srow_one hr7
 have HA7 := Lib.hid hma
 have HOd7 := Lib.hid (HOd.out.goes hg7); have HOe7 := Lib.hid (HOe.out.goes hg7)
 clear hs7 hg7 hr7 hma HC HS6 HOd HOe h0 h1 h2 h3 h4 h5 h6 h7 h8
 obtain ⟨R8, hR8, hL8, hst8⟩ := lead_one
 have HL8 := Lib.hid hL8; have Hst8 := Lib.hid hst8
 have HC := Lib.hid (HS7.out.lead0 Hm.out hR8)
 clear hL8 hst8 hR8
 go_wp2_with fail
 refine HC.out.mono ?_
 rintro e w8 ⟨v8, M8, tg8, rfl, hs8, hg8, hr8⟩
 have HS8 : Hid (Sys2 w w8 M8 tg8 ra rb b0 b1 R8 (rpNew 0 3 [])) := hs8
 obtain ⟨Al, cl, rfl⟩ := srow_nil hr8
 have HA8 := Lib.hid (HA7.out.goes hg8)
 have HOd8 := Lib.hid (HOd7.out.goes hg8); have HOe8 := Lib.hid (HOe7.out.goes hg8)
 clear hs8 hg8 hr8 HC HS7 HA7 HOd7 HOe7
 have h0 := HOe8.out.cell 0 _ rfl; have h1 := HOe8.out.cell 1 _ rfl; have h2 := HOe8.out.cell 2 _ rfl; have h3 := HOe8.out.cell 3 _ rfl; have h4 := HOe8.out.cell 4 _ rfl; have h5 := HOe8.out.cell 5 _ rfl; have h6 := HOe8.out.cell 6 _ rfl; have h7 := HOe8.out.cell 7 _ rfl; have h8 := HOe8.out.cell 8 _ rfl
 obtain ⟨R9, hR9, hL9, _⟩ := ask_one (l := []) (e := knE) (fr := 5) (j := 2) HL8.out (by omega) (by omega) (by simp) (by intro a ha; simp at ha; subst ha; exact knE_ok) (by omega) Hst8.out
 have HL9 := Lib.hid hL9
 have hR9' : rpRecv R8 5 (askM knE) = (R9, [⟨5, answerM 9 1 (applyM R8.st (pk 1 0) (askE knE 5)).2.1⟩]) := by
  have hc : (applyM R8.st (pk 1 0) (askE knE 5)).1 = 1 := by rw [Hst8.out]; exact knE_apply
  rw [recv_ask (show EntryOk knE from by
   obtain ⟨_, _, h3, h4, h5⟩ := knE_ok
   exact ⟨by decide, by decide, h3, h4, h5⟩), hR9]
  show (R9, [(⟨5, answerM 9 (applyM R8.st (pk 1 0) (askE knE 5)).1 _⟩ : SentD)]) = _
  rw [hc]
  rfl
 have HC := Lib.hid (HS8.out.recv0 5 (askM knE) _ _ (HFe.out _ _ HOd8.out) knE_fit Hm.out hR9')
 generalize (applyM R8.st (pk 1 0) (askE knE 5)).2.1 = sum9 at HC
 clear hL9 hR9 hR9' HFe
 go_wp2_with fail
 refine (show Calls Tryz.prog 10 #[.pointer (some ⟨ra, 0, none⟩), .int .i64 5, .agg #[.int .i64 1, .int .i64 1, .int .i64 1, .int .i64 0, .int .i64 1, .int .i64 1, .slice (some ⟨gD, 0, none⟩) 1 1, .string ⟨#[]⟩, .int .i64 0, .int .i64 9, .int .i64 0, .int .i64 0, .int .u64 0, .int .i64 0, .int .i64 0, .slice none 0 0, .int .i64 0, .int .i64 0]] w8 _ from HC.out).mono ?_
 rintro e w9 ⟨v9, M9, tg9, rfl, hs9, hg9, hr9⟩
 have HS9 : Hid (Sys2 w w9 M9 tg9 ra rb b0 b1 R9 (rpNew 0 3 [])) := hs9
 obtain ⟨gb, cb, dvb, lvb, rfl, hcb, hmb, -⟩ := srow_one hr9
 have HB9 := Lib.hid hmb
 have HA9 := Lib.hid (HA8.out.goes hg9)
 clear hs9 hg9 hr9 hmb HC HS8 HA8 HOd8 HOe8 h0 h1 h2 h3 h4 h5 h6 h7 h8 HL8 Hst8
 have HC := Lib.hid (HS9.out.lead1 Hm.out lead_three)
 go_wp2_with fail
 refine HC.out.mono ?_
 rintro e w10 ⟨v10, M10, tg10, rfl, hs10, hg10, hr10⟩
 have HS10 : Hid (Sys2 w w10 M10 tg10 ra rb b0 b1 R9 { rp1 0 3 3 with v := some (vote1 3 3 0 []) }) := hs10
 obtain ⟨gc, cc, dvc, lvc, dvc2, lvc2, rfl, hcc, hmc, -⟩ := srow_two hr10
 have HC10 := Lib.hid hmc
 have HA10 := Lib.hid (HA9.out.goes hg10); have HB10 := Lib.hid (HB9.out.goes hg10)
 clear hs10 hg10 hr10 hmc HC HS9 HA9 HB9
 have HC := Lib.hid (HS10.out.recv1 1 (acceptM 1 [] 0) (.slice none 0 0) (.slice none 0 0) ⟨Ds.nil _ _, Ens.nil _ _⟩ acc_fit Hm.out acc_low)
 go_wp2_with fail
 refine (show Calls Tryz.prog 10 #[.pointer (some ⟨rb, 0, none⟩), .int .i64 1, .agg #[.int .i64 5, .int .i64 0, .int .i64 0, .int .i64 0, .int .i64 0, .int .i64 0, .slice none 0 0, .string ⟨#[]⟩, .int .i64 0, .int .i64 0, .int .i64 0, .int .i64 0, .int .u64 0, .int .i64 1, .int .i64 0, .slice none 0 0, .int .i64 0, .int .i64 0]] w10 _ from HC.out).mono ?_
 rintro e w11 ⟨v11, M11, tg11, rfl, hs11, hg11, hr11⟩
 have HS11 : Hid (Sys2 w w11 M11 tg11 ra rb b0 b1 R9 { rp1 0 3 3 with v := some (vote1 3 3 0 []) }) := hs11
 obtain ⟨Ad, cd, rfl⟩ := srow_nil hr11
 have HA11 := Lib.hid (HA10.out.goes hg11); have HB11 := Lib.hid (HB10.out.goes hg11); have HC11 := Lib.hid (HC10.out.goes hg11)
 clear hs11 hg11 hr11 HC HS10 HA10 HB10 HC10
 have a0 : w11.cell? ⟨ga, 0, none⟩ = some (.int .i64 5) := HA11.out.cell 0 _ rfl
 have a1 : w11.cell? ⟨ga, 11, none⟩ = some (.int .i64 9) := HA11.out.cell 11 _ rfl
 have a2 : w11.cell? ⟨ga, 12, none⟩ = some (.int .i64 6) := HA11.out.cell 12 _ rfl
 have b0' : w11.cell? ⟨gb, 0, none⟩ = some (.int .i64 5) := HB11.out.cell 0 _ rfl
 have b2 : w11.cell? ⟨gb, 12, none⟩ = some (.int .i64 1) := HB11.out.cell 12 _ rfl
 have c0 : w11.cell? ⟨gc, 0, none⟩ = some (.int .i64 1) := HC11.out.cell 0 _ rfl
 have c1 : w11.cell? ⟨gc, 1, none⟩ = some (.int .i64 3) := HC11.out.cell 1 _ rfl
 have HF := Lib.hid HS11.out.bel
 have HL0 : Hid (Calls Tryz.prog 14 #[.pointer (some ⟨ra, 0, none⟩)] w11 fun e w' => e = .returned (.bool true) ∧ w11 = w') := by
  have := HS11.out.leads0 w11 (Keeps.refl _ _)
  rw [HL9.out.leads] at this
  exact this
 have HC0 : Hid (Calls Tryz.prog 13 #[.pointer (some ⟨ra, 0, none⟩)] w11 fun e w' => e = .returned (.int .i64 1) ∧ w11 = w') := by
  have := HS11.out.commit0 w11 (Keeps.refl _ _)
  rw [HL9.out.com] at this
  exact this
 have HL1 : Hid (Calls Tryz.prog 14 #[.pointer (some ⟨rb, 0, none⟩)] w11 fun e w' => e = .returned (.bool false) ∧ w11 = w') := HS11.out.leads1 w11 (Keeps.refl _ _)
 have HT1 : Hid (Calls Tryz.prog 47 #[.pointer (some ⟨rb, 0, none⟩)] w11 fun e w' => e = .returned (.int .i64 3) ∧ w11 = w') := HS11.out.term1 w11 (Keeps.refl _ _)
 clear HS11 HA11 HB11 HC11 HL9
 go_upto_region 11 with (fail)
 simp only [List.append]
 go_wp2_with fail
 refine HL0.out.mono ?_
 rintro e w12 ⟨rfl, rfl⟩
 go_wp2_with fail
 refine HC0.out.mono ?_
 rintro e w12 ⟨rfl, rfl⟩
 go_wp2_with fail
 refine HL1.out.mono ?_
 rintro e w12 ⟨rfl, rfl⟩
 go_wp2_with fail
 refine HT1.out.mono ?_
 rintro e w12 ⟨rfl, rfl⟩
 go_wp2_with fail
 go_ret
 exact ⟨rfl, HF.out⟩
end Go.Proofs.YtdaceeijifjpeaaGreatDoor.Vi
end
section
namespace Go.Proofs.YtdaceeijifjpeaaGreatDoor.Vi
open Go.RowKit Base Mem

end Go.Proofs.YtdaceeijifjpeaaGreatDoor.Vi
end
section
namespace Go.Proofs.YtdaceeijifjpeaaGreatDoor.Vi
open Go.RowKit Base Mem Go.Shelf Tape
open Lead (VoteD VoteAt promiseS wonS accS medS termS newVote)
open Px (upd upd_same upd_ne)
theorem msg_range {W : World} {g : Nat} {dst : Int} {m : MsgD} {dv lv : Value} {r : List Value} (h : ∀ j u, (sCell dst m dv lv ++ r)[j]? = some u → W.cell? ⟨g, j, none⟩ = some u) : W.rangeAt g 1 (mCell m dv lv) := fun j v hj => by
 have hl : j < (mCell m dv lv).length := List.getElem?_eq_some_iff.1 hj |>.1
 rw [Nat.add_comm]
 refine h (j + 1) v ?_
 unfold sCell
 rw [List.cons_append, List.getElem?_cons_succ, List.getElem?_append_left hl]
 exact hj
theorem msg_range1 {W : World} {g : Nat} {dst : Int} {m : MsgD} {dv lv : Value} (h : ∀ j u, (sCell dst m dv lv)[j]? = some u → W.cell? ⟨g, j, none⟩ = some u) : W.rangeAt g 1 (mCell m dv lv) := msg_range (r := []) (by rw [List.append_nil]; exact h)
theorem en0_fit : Short en0 ∧ Wf en0 := ⟨⟨by decide, by simp [en0], by decide⟩, ⟨by decide, by decide, by decide, by simp [en0]⟩⟩
theorem fit_prep (T : Nat) (h : T ≤ 1000) : MFit (prepareM T) := ⟨⟨en0_fit.1, by simp [prepareM], by simp [prepareM]⟩, en0_fit.2, by simp [prepareM], by simp [prepareM, en0], by show (T : Int) ≤ _; omega⟩
theorem fit_prom (T H : Nat) (h : T ≤ 1000) : MFit (promiseM T H []) := ⟨⟨en0_fit.1, by simp [promiseM], by simp [promiseM]⟩, en0_fit.2, by simp [promiseM], by simp [promiseM, en0], by show (T : Int) ≤ _; omega⟩
theorem fit_acc (T c : Nat) (l : List EntryD) (h : T ≤ 1000) (hl : l.length ≤ 128) (hok : ∀ e ∈ l, EntryOk e) : MFit (acceptM T l c) := ⟨⟨en0_fit.1, by show l.length ≤ _; omega, fun e he => (entry_right (hok e he)).2.1⟩, en0_fit.2, fun e he => (entry_right (hok e he)).2.2, by simp [acceptM, en0], by show (T : Int) ≤ _; omega⟩
theorem fit_accd (T c : Nat) (h : T ≤ 1000) : MFit (acceptedM T c) := ⟨⟨en0_fit.1, by simp [acceptedM], by simp [acceptedM]⟩, en0_fit.2, by simp [acceptedM], by simp [acceptedM, en0], by show (T : Int) ≤ _; omega⟩
theorem fit_ask {e : EntryD} (h : EntryOk e) : MFit (askM e) := ⟨⟨(entry_right h).2.1, by simp [askM], by simp [askM]⟩, (entry_right h).2.2, by simp [askM], by have := eok_ds8 (entry_eokW h); show e.ds.length ≤ _; omega, by show (0 : Int) ≤ _; decide⟩
theorem ask_ok {e : EntryD} (h : EntryOk e) {fr : Int} (h0 : 0 ≤ fr ∧ fr < 8) : EntryOk (askE e fr) := by
 obtain ⟨_, _, h3, h4, h5⟩ := h
 exact ⟨h0.1, h0.2, h3, h4, h5⟩
end Go.Proofs.YtdaceeijifjpeaaGreatDoor.Vi
end
