/- Texts put together: CtB, AhG, RSame, AhH. -/
import Derived.Deep.RegionHeld3
import Derived.Deep.DeepCutAuto
import Derived.Test.YtgdooockldgdlaaGreatDoorAS3
import Derived.Test.YtgdooockldgdlaaGreatDoorAS4
import Derived.Test.YtgdooockldgdlaaGreatDoorAS12
set_option linter.unusedVariables false
set_option linter.unusedSimpArgs false
section
namespace Go.Proofs.YtgdooockldgdlaaGreatDoor.Vi
open Go.RowKit Base Mem
open Go.Maps (Keyed)
theorem wf_u64_bd {c : Int} (h : (Lit.int .u64 c).wf = true) : 0 ≤ c ∧ c ≤ 18446744073709551615 := by
 unfold Lit.wf at h
 rw [Bool.and_eq_true, decide_eq_true_eq, decide_eq_true_eq] at h
 exact h
theorem om_bd {w : World} {b N : Nat} {D : DataW Unit} (h : w.ownsMap Tryz.prog 9 (plainElem Tryz.prog 34) b N D) {s : ByteArray} (hs : s.size ≤ 9223372036854775807) : 0 ≤ numAt .u64 D (skey s) ∧ numAt .u64 D (skey s) ≤ 18446744073709551615 :=
 wf_u64_bd (om_num h lawS uMS uU64 (zU64 _) (skey_of hs)).2.2
theorem invKS : ∀ key kl, keyOf Tryz.prog 9 key = some kl → ∃ x, key = Value.string x := fun key kl h => by
 cases key <;> simp [keyOf, uStr, mapKey] at h
 exact ⟨_, rfl⟩
theorem invVU : ∀ v (y : DataW Unit × List MemPlace), plainElem Tryz.prog 34 v = some y → ∃ c, v = Value.int .u64 c := fun v y h => by
 obtain ⟨c, rfl, _⟩ := plainElem_int_inv uU64 h
 exact ⟨c, rfl⟩
end Go.Proofs.YtgdooockldgdlaaGreatDoor.Vi
end
section
namespace Go.Proofs.YtgdooockldgdlaaGreatDoor.Vi
open Go.RowKit Base Mem Go.Shelf Tape
structure SuSt (w W : World) (M : List Nat) (tg : Nat → Nat) (a d : Nat) (A : AgD) (b : Nat) (lx : List Int) (k bs n : Nat) (D : DataW Unit) : Prop where
 kn : KnSt w W M tg a d A
 tp : TpBe w W M tg b lx k
 ms : W.ownsMap Tryz.prog 9 (plainElem Tryz.prog 34) bs n D
 inM : bs ∈ M
 tag : tg bs = 99
 ne : bs ≠ b
section
variable {w W V : World} {M M' : List Nat} {tg tg' : Nat → Nat} {a d : Nat} {A B : AgD} {b k bs n : Nat} {lx : List Int} {D D' : DataW Unit}
theorem SuSt.step (h : SuSt w W M tg a d A b lx k bs n D) (x : Ext W M tg V M' tg') (hk : Keeps (sel M tg (List.range 30)) W V) (ag : AgAt V M' tg' a d B) : SuSt w V M' tg' a d B b lx k bs n D :=
 ⟨h.kn.step x hk ag, h.tp.step h.kn.old x hk, om_keep h.ms hk (fun hm => by have := (mem_sel.1 hm).2; rw [h.tag] at this; simp at this), x.sub _ h.inM, by rw [x.tag _ (x.old _ h.inM)]; exact h.tag, h.ne⟩
theorem SuSt.keep0 (h : SuSt w W M tg a d A b lx k bs n D) (hk : Keeps [] W V) : SuSt w V M tg a d A b lx k bs n D :=
 ⟨h.kn.keep0 hk, h.tp.keep0 hk, om_keep h.ms hk (by simp), h.inM, h.tag, h.ne⟩
theorem SuSt.store (h : SuSt w W M tg a d A b lx k bs n D) (hk : Keeps [bs] W V) (hm : V.ownsMap Tryz.prog 9 (plainElem Tryz.prog 34) bs (n + 1) D') : SuSt w V M tg a d A b lx k bs (n + 1) D' :=
 ⟨h.kn.beside (by simp; exact ⟨h.inM, h.tag⟩) hk, h.tp.other hk (by simp; exact ⟨h.kn.old _ h.inM, h.ne⟩), hm, h.inM, h.tag, h.ne⟩
theorem SuSt.series (h : SuSt w W M tg a d A b lx k bs n D) :
  Calls Tryz.prog 19 #[.pointer (some ⟨b, 0, none⟩)] W fun e V => ∃ (s : ByteArray) (k' : Nat), e = .returned (.string s) ∧ NameOk s ∧ SuSt w V M tg a d A b lx k' bs n D := by
 refine (h.kn.series h.tp).mono ?_
 rintro e V ⟨s, k', rfl, hs, h1, h2, h3⟩
 exact ⟨s, k', rfl, hs, h1, h2, om_keep h.ms h3 (by simp; exact h.ne), h.inM, h.tag, h.ne⟩
theorem SuSt.next (h : SuSt w W M tg a d A b lx k bs n D) (m : Int) (hm : 1 ≤ m) :
  Calls Tryz.prog 26 #[.pointer (some ⟨b, 0, none⟩), .int .i64 m] W fun e V => ∃ (v : Int) (k' : Nat), e = .returned (.int .i64 v) ∧ (0 ≤ v ∧ v < m) ∧ SuSt w V M tg a d A b lx k' bs n D := by
 refine (h.kn.next h.tp m hm).mono ?_
 rintro e V ⟨v, k', rfl, hv, h1, h2, h3⟩
 exact ⟨v, k', rfl, hv, h1, h2, om_keep h.ms h3 (by simp; exact h.ne), h.inM, h.tag, h.ne⟩
/-- A map is made beside. -/
theorem SuSt.made (h : KnSt w W M tg a d A) (t : TpBe w W M tg b lx k) : SuSt w (W.alloc (.map #[] 0)) ([W.heap.size] ++ M) (fun x => if x ∈ [W.heap.size] then 99 else tg x) a d A b lx k W.heap.size 0 (.map []) := by
 have hk : Keeps [] W (W.alloc (.map #[] 0)) := (Keeps.refl _ _).alloc _
 have hb := t.at_.lt
 refine ⟨h.more hk [W.heap.size] (by simp), ⟨t.at_.keep2 hk (by simp), by simp [t.inM], ?_⟩, World.ownsMap_made _ _ _ _, by simp, by simp, by omega⟩
 show (if b ∈ [W.heap.size] then 99 else tg b) = 99
 rw [if_neg (by simp; omega)]
 exact t.tag
end
/-- What the map says behind i samples. -/
structure SuPl (A : AgD) (D : DataW Unit) (i : Nat) : Prop where
 log : ∃ rs, LogI A rs (200 + 10747 * i)
 small : ∀ d ∈ A.bk.sa, d.n ≤ 65535
 len : A.bk.sa.length ≤ i
 num : ∀ s, numAt .u64 D (skey s) = (tot A s : Nat)
 bd : ∀ s, tot A s ≤ 9 * i
 node : A.node = 1
theorem SuPl.sample {A : AgD} {D : DataW Unit} {i : Nat} (h : SuPl A D i) (hi : i < 25) (hD : Maps.IsMap D) {s : ByteArray} (hs : NameOk s) {v : Int} (hv : 0 ≤ v ∧ v < 9) (hns : s.size ≤ 9223372036854775807) :
  mayB A.bk ⟨s, 1 + v⟩ = 0 ∧ (agIng A ⟨s, 1 + v⟩).1 = 0 ∧ SuPl (agIng A ⟨s, 1 + v⟩).2 (D.put (skey s) (.lit (.int .u64 (numAt .u64 D (skey s) + (1 + v))))) (i + 1) ∧ (∃ rs, LogI (agIng A ⟨s, 1 + v⟩).2 rs (200 + 10747 * i + 59)) ∧ 0 ≤ numAt .u64 D (skey s) ∧ numAt .u64 D (skey s) ≤ 225 := by
 obtain ⟨rs, hL⟩ := h.log
 have hlen := h.len
 obtain ⟨r1, r2, ⟨rs', r3⟩, r4, r5, r6⟩ := ing_tot hL h.small (x := ⟨s, 1 + v⟩) ⟨hs, by show 1 ≤ 1 + v; omega, by show 1 + v < _; omega⟩ (by show 1 + v ≤ _; omega) (by omega) (by omega)
 have hb := h.bd s
 have hn := h.num s
 refine ⟨r1, r2, ⟨⟨rs', r3.mono (by omega)⟩, fun d hd => ?_, by rw [r6, List.length_append]; simp; omega, fun t => ?_, fun t => ?_, ?_⟩, ⟨rs', r3⟩, by omega, by omega⟩
 ·rw [r6] at hd
  rcases List.mem_append.1 hd with h1 | h1
  ·exact h.small d h1
  ·simp at h1; subst h1; show 1 + v ≤ _; omega
 ·rw [r4 t]
  by_cases he : s = t
  ·subst he
   rw [numAt_same hD (lawS.key (skey_of hns)), hn, if_pos ((ser_iff _ _).2 rfl)]
   show _ + (1 + v) = ((tot A s + (1 + v).toNat : Nat) : Int)
   omega
  ·rw [numAt_other (fun e => he (skey_inj e).symm), h.num t, ser_ne he]
   simp
 ·rw [r4 t]
  have h1 := h.bd t
  have h2 : (1 + v).toNat ≤ 9 := Int.toNat_le.2 (by omega)
  show tot A t + (if (s.toList == t.toList) = true then (1 + v).toNat else 0) ≤ _
  split
  ·have := Nat.add_le_add h1 h2
   exact Nat.le_trans this (Nat.le_of_eq (by omega))
  ·have := Nat.add_le_add h1 (Nat.zero_le 9)
   exact Nat.le_trans (Nat.add_le_add h1 (Nat.le_refl 0)) (show 9 * i + 0 ≤ 9 * (i + 1) by omega)
 ·have hnode : (agIng A ⟨s, 1 + v⟩).2.node = A.node := by
   unfold agIng
   split
   ·rfl
   ·split <;> rfl
  rw [hnode]
  exact h.node
theorem SuPl.log26 {A : AgD} {D : DataW Unit} {i : Nat} (h : SuPl A D i) : ∃ rs, LogI A rs (200 + 10747 * i) := h.log
theorem SuPl.cut {A : AgD} {D : DataW Unit} {i : Nat} (h : SuPl A D i) {B : Nat} (hL : ∃ rs, LogI A rs B) {i' : Nat} (hii : i ≤ i' ∧ i' ≤ 26) (hB : B + 10688 ≤ 200 + 10747 * i') : SuPl (agCutAll A).1 D i' ∧ (FullQ (agCutAll A).1 ∨ (agCutAll A).1.bk.sa = []) := by
 obtain ⟨rs, hL⟩ := hL
 obtain ⟨⟨rs', r1⟩, r2, r3, r4, r5⟩ := cut_tot hL h.small (by omega)
 have hsl : (agCutAll A).1.bk.sa.length ≤ A.bk.sa.length := by
  obtain ⟨e1, -⟩ := agCutAll_bk A
  rw [e1]
  exact all_len A.bk.sh.toNat 0 A []
 refine ⟨⟨⟨rs', r1.mono (by omega)⟩, fun d hd => h.small d (r4 d hd), Nat.le_trans (Nat.le_trans hsl h.len) hii.1, fun s => by rw [r2 s]; exact h.num s, fun s => by rw [r2 s]; have := h.bd s; omega, ?_⟩, r5⟩
 rw [(agCutAll_bk A).2.2.1, (all_ep A.bk.sh.toNat 0 A []).2]
 exact h.node
/-- The start: so many shards. -/
theorem sh_start (n : Int) (hn : 1 ≤ n ∧ n ≤ 4) : (agSh pA n).1 = 0 ∧ SuPl (agSh pA n).2 (.map []) 0 := by
 have hrl : (recN n.toNat).length ≤ 20 := by
  have u1 := Lib.uvarint_length64 (x := 4) (by omega)
  have u2 := Lib.uvarint_length64 (x := n.toNat) (by omega)
  unfold recN
  simp
  omega
 have hfr := frame_bd (l := recN n.toNat) (by omega)
 have hL := p_start.log
 have hsz := hL.size
 have hw : waCode (recN n.toNat) pA.b = 0 := by
  unfold waCode
  rw [if_neg (by omega), if_neg (by omega)]
 have e : agSh pA n = (0, { pA with b := pA.b ++ frameL (recN n.toNat), k := pA.b.length + (frameL (recN n.toNat)).length, n := pA.n + 1, bk := { pA.bk with sh := n } }) := by
  unfold agSh
  rw [if_neg (by omega), if_neg (by rw [hw]; simp)]
 have h0 : pA.bk.sa = [] := List.length_eq_zero_iff.1 p_facts.2.2.1
 have ht : ∀ s, tot (agSh pA n).2 s = 0 := fun s => by
  rw [e]
  unfold tot
  show sumS pA.bk.sa s + (qSum (pA.bk.q 0) s + qSum (pA.bk.q 1) s + qSum (pA.bk.q 2) s + qSum (pA.bk.q 3) s) = 0
  rw [h0, pA_bk]
  rfl
 refine ⟨by rw [e], ⟨⟨[recE 1] ++ [recN n.toNat], ?_⟩, ?_, ?_, fun s => by rw [ht s]; rfl, fun s => by rw [ht s]; omega, by rw [e]; exact p_facts.2.2.2.2.2.1⟩⟩
 ·rw [e]
  refine ⟨?_, fun l hl => ?_, ?_, ?_, ?_, ?_, fun k => ?_, ?_⟩
  ·show pA.b ++ frameL (recN n.toNat) = _
   rw [frames_app, hL.b]
   simp
  ·rcases List.mem_append.1 hl with h1 | h1
   ·exact hL.len l h1
   ·simp at h1; subst h1; omega
  ·rw [takesB_app, hL.tk]
   show takeB pA.bk (recN n.toNat) = _
   rw [takeB_recN pA.bk n.toNat (by omega) (by omega)]
   show ({ pA.bk with sh := ((n.toNat : Nat) : Int) } : BkD) = _
   rw [Int.toNat_of_nonneg (by omega)]
  ·show ∀ d ∈ pA.bk.sa, _
   rw [h0]; simp
  ·show pA.bk.sa.length ≤ 32
   rw [h0]; simp
  ·exact ⟨hn.1, hn.2⟩
  ·obtain ⟨q1, q2⟩ := hL.qu k
   refine ⟨q1, ?_⟩
   show (pA.bk.q k).last ≤ ((pA.b ++ frameL (recN n.toNat)).length : Nat)
   rw [List.length_append]; omega
  ·show (pA.b ++ frameL (recN n.toNat)).length ≤ _
   rw [List.length_append]; omega
 ·rw [e]
  show ∀ d ∈ pA.bk.sa, _
  rw [h0]; simp
 ·rw [e]
  show pA.bk.sa.length ≤ 0
  rw [h0]; simp
/-- What is left to take off, behind some batches. -/
def restQ (A : AgD) (y : Nat) (s : ByteArray) : Nat := (((qBats A).drop y).map fun p => sumS p.2.ds s).sum
theorem restQ_start {A : AgD} {D : DataW Unit} {i : Nat} (h : SuPl A D i) (s : ByteArray) : numAt .u64 D (skey s) = (sumS A.bk.sa s + restQ A 0 s : Nat) := by
 rw [h.num s]
 unfold tot restQ
 rw [List.drop_zero, bats_sum]
theorem restQ_step {A : AgD} {y : Nat} (hy : y < (qBats A).length) (s : ByteArray) : restQ A y s = sumS ((qBats A)[y]).2.ds s + restQ A (y + 1) s := by
 unfold restQ
 rw [← List.getElem_cons_drop hy, List.map_cons, List.sum_cons]
theorem restQ_end {A : AgD} (s : ByteArray) : restQ A (qBats A).length s = 0 := by
 unfold restQ
 rw [List.drop_length]
 rfl
theorem sumS_drop {ds : List DeltaD} {z : Nat} (hz : z < ds.length) (s : ByteArray) : sumS (ds.drop z) s = (if (ds[z].ser.toList == s.toList) = true then ds[z].n.toNat else 0) + sumS (ds.drop (z + 1)) s := by
 rw [← List.getElem_cons_drop hz, sumS_cons]
theorem bats_len {A : AgD} (hq : ∀ k, QuOk (A.bk.q k)) : (qBats A).length ≤ 64 := by
 have e : qBats A = (A.bk.q 0).l.map (fun b => (0, b)) ++ ((A.bk.q 1).l.map (fun b => (1, b)) ++ ((A.bk.q 2).l.map (fun b => (2, b)) ++ ((A.bk.q 3).l.map (fun b => (3, b)) ++ []))) := rfl
 rw [e]
 simp only [List.length_append, List.length_map, List.length_nil]
 have h0 := (hq 0).1; have h1 := (hq 1).1; have h2 := (hq 2).1; have h3 := (hq 3).1
 omega
theorem queued_at {A : AgD} (hn : A.node = 1) {y : Nat} (hy : y < (qBats A).length) (h : y < (agQueued A).length) : (agQueued A)[y] = (1, ((qBats A)[y].1 : Int), (qBats A)[y].2.seq) := by
 refine (List.getElem_of_eq (queued_bats A) h).trans ?_
 rw [List.getElem_map]
 exact Prod.ext hn rfl
theorem bat_in {A : AgD} {p : Nat × BatD} (hp : p ∈ qBats A) : p.2 ∈ (A.bk.q p.1).l := by
 unfold qBats at hp
 obtain ⟨k, hk, hb⟩ := List.mem_flatMap.1 hp
 obtain ⟨b, hb2, rfl⟩ := List.mem_map.1 hb
 exact hb2
end Go.Proofs.YtgdooockldgdlaaGreatDoor.Vi
end
section
namespace Go.Proofs.YtgdooockldgdlaaGreatDoor.Vi
open Go.RowKit Base Mem

end Go.Proofs.YtgdooockldgdlaaGreatDoor.Vi
end
section
namespace Go.Proofs.YtgdooockldgdlaaGreatDoor.Vi
open Go.RowKit Base Mem Go.Shelf Tape
set_option maxRecDepth 100000 in
set_option maxHeartbeats 8000000 in
theorem sums_walk (Av : Option Addr) (c : Nat) (lx : List Int) (n0 : Int) (mx : Int) (w : World) (hN : Nums w Av c lx) (hm : w.cell? ⟨0, 0, none⟩ = some (.int .i64 mx)) :
  Calls Tryz.prog 7 #[.slice Av lx.length c, .int .i64 n0] w fun e w' => SamePost true w e w' := by
 have Hm := Lib.hid hm; have HN := Lib.hid hN
 have hw0 : 0 < w.heap.size := by
  have := World.block_lt_of_cell? w _ hm
  simpa using this
 have hmm := @run_makeMap Tryz.prog
 obtain ⟨N0, HN0⟩ : ∃ N0, Hid (N0 = withinS n0 0 3) := ⟨_, rfl⟩
 have hnb : 0 ≤ N0 ∧ N0 ≤ 3 := by rw [HN0.out]; exact within_bd n0 0 3 (by omega)
 obtain ⟨hnb1, hnb2⟩ := hnb
 have Hwi : Hid (∀ W, Calls Tryz.prog 21 #[.int .i64 n0, .int .i64 0, .int .i64 3] W fun e w' => e = .returned (.int .i64 N0) ∧ W = w') := fun W => by rw [HN0.out]; exact within_any n0 0 3 W (by omega) (by omega) (by omega)
 obtain ⟨hs0, HP0⟩ := sh_start (1 + N0) (by omega)
 have HPL0 := Lib.hid HP0
 clear hm hN HP0
 go_enter Tryz.func7, Tryz.ntmps7
 go_wp2_with fail
 refine (dknew_any w).mono ?_
 rintro e w1 ⟨rfl, hd1, hb1⟩
 obtain ⟨d, Hd⟩ : ∃ d, Hid (d = w.heap.size) := ⟨_, rfl⟩
 rw [← Hd.out] at hd1 ⊢
 have hnw := Lib.hid (agnew_any hd1 1 3 mx (by have := Hd.out; simp; omega) ((hb1.cell (p := ⟨0, 0, none⟩) hw0).trans Hm.out))
 have Hb1 := Lib.hid hb1
 clear hd1 hb1
 go_wp2_with fail
 refine hnw.out.mono ?_
 intro e w2 hp
 rw [pA_eq] at hp
 obtain ⟨a, M2, tg2, rfl, hs2⟩ := kn_new (b := []) (k := 0) Hb1.out (by simp [Hd.out]) hp
 have HS2 := Lib.hid hs2
 have hsh := Lib.hid (agshards_any hs2.ag hs2.lt (1 + N0))
 clear hp hs2 hnw Hb1
 go_wp2_with fail
 refine (Hwi.out w2).mono ?_
 rintro e w3 ⟨rfl, rfl⟩
 go_wp2_with fail
 refine hsh.out.mono ?_
 rintro e w3 ⟨rfl, M3, tg3, h1, h2, h3⟩
 have hs3 := HS2.out.step h2 h3 h1
 clear h1 h2 h3 hsh HS2
 generalize (agSh pA (1 + N0)).1 = cs at *
 subst hs0
 generalize (agSh pA (1 + N0)).2 = A3 at *
 obtain ⟨hs4, ht4⟩ := hs3.tape HN.out
 obtain ⟨w4, hw4⟩ : ∃ w4, w4 = w3.alloc (.cells #[.slice Av lx.length c, .int .i64 0] 49) := ⟨_, rfl⟩
 rw [← hw4] at hs4 ht4
 generalize ([w3.heap.size] ++ M3) = M4 at *
 generalize (fun x => if x ∈ [w3.heap.size] then 99 else tg3 x) = tg4 at *
 have hs5 := SuSt.made hs4 ht4
 rw [show w4.heap.size = w3.heap.size + 1 from by rw [hw4]; exact World.size_alloc _ _] at hs5
 have HS5 := Lib.hid hs5
 have Hw4 := Lib.hid hw4
 clear hs3 hs4 ht4 HN hw4 hs5
 go_upto_region 6 with (fail)
 rw [← Hw4.out]
 clear Hw4
 generalize w4.alloc (.map #[] 0) = w5 at *
 generalize ([w3.heap.size + 1] ++ M4) = M5 at *
 generalize (fun x => if x ∈ [w3.heap.size + 1] then 99 else tg4 x) = tg5 at *
 generalize w3.heap.size = b at *
 generalize b + 1 = bs at *
 go_wp2_with fail
 go_loopw [8] (fun i wr => ∃ (x k : Nat) (A : AgD) (M : List Nat) (tg : Nat → Nat) (D : DataW Unit), i = .int .i64 x ∧ x ≤ 25 ∧ Hid (SuSt w wr M tg a d A b lx k bs x D) ∧ Hid (SuPl A D x)) (fun i _ => 25 - (intOf i).toNat)
 case atStart => exact ⟨0, 0, A3, M5, tg5, .map [], rfl, by omega, HS5, HPL0⟩
 case round =>
  obtain ⟨x, k, A, M, tg, D, rfl, hx, HS, HP⟩ := hrel
  clear HS5 HPL0
  by_cases hx25 : x < 25
  ·have hx1 : (x : Int) < 25 := by omega
   have hse := Lib.hid HS.out.series
   clear hmm
   go_wp2_with fail
   refine hse.out.mono ?_
   rintro e w6 ⟨s, k6, rfl, hs, hs6⟩
   have HS6 := Lib.hid hs6; have Hs := Lib.hid hs
   have hne := Lib.hid (hs6.next 9 (by omega))
   clear hse hs hs6 HS
   go_wp2_with fail
   refine hne.out.mono ?_
   rintro e w7 ⟨v, k7, rfl, ⟨hv0, hv9⟩, hs7⟩
   have hns : s.size ≤ 9223372036854775807 := by
    have := (GdD.ser (d := ⟨s, 1⟩) ⟨Hs.out, by show (1 : Int) ≤ 1; omega, by show (1 : Int) < _; omega⟩).2
    have h2 : s.size ≤ 15 := this
    omega
   obtain ⟨i1, i2, i3, i4, i5, i6⟩ := HP.out.sample hx25 hs7.ms.isMap Hs.out ⟨hv0, hv9⟩ hns
   have HS7 := Lib.hid hs7; have HP7 := Lib.hid i3; have HL7 := Lib.hid i4
   have hin := Lib.hid (aging_yes hs7.kn.ag hs7.kn.lt ⟨s, 1 + v⟩ ⟨by show 0 ≤ 1 + v; omega, by show 1 + v < _; omega⟩ (by
    have := (GdD.ser (d := ⟨s, 1⟩) ⟨Hs.out, by show (1 : Int) ≤ 1; omega, by show (1 : Int) < _; omega⟩).2
    have h2 : s.size ≤ 15 := this
    show s.size < _
    omega) mx (hs7.kn.cell0 Hm.out).1 i1)
   have hw1 : IntKind.u64.wrap v = v := by rw [IntKind.wrap_u64]; omega
   have hw2 : IntKind.u64.wrap (1 + v) = 1 + v := by rw [IntKind.wrap_u64]; omega
   clear hne hs7 i1 i3 i4 HS6 HP
   go_upto_region 10 with (fail)
   go_wp2_with fail
   refine (show Calls Tryz.prog 18 #[.pointer (some ⟨a, 0, none⟩), .string s, .int .u64 (1 + v)] w7 _ from hin.out).mono ?_
   rintro e w8 ⟨rfl, M8, tg8, h1, h2, h3⟩
   have HS8 := Lib.hid (HS7.out.step h2 h3 h1)
   clear h1 h2 h3 hin HS7
   have hlk := (om_num HS8.out.ms lawS uMS uU64 (zU64 _) (skey_of hns)).1
   have hw3 : IntKind.u64.wrap (numAt .u64 D (skey s) + (1 + v)) = numAt .u64 D (skey s) + (1 + v) := by rw [IntKind.wrap_u64]; omega
   obtain ⟨w9, hupd, hown9, hturn⟩ := HS8.out.ms.store lawS uMS (by unfold maxLen; omega) (skey_of hns) (plainElem_int uU64 (WalkArith.wf_u64 ⟨by omega, by omega⟩) : plainElem (H := Unit) Tryz.prog 34 (.int .u64 (numAt .u64 D (skey s) + (1 + v))) = _)
   have HS9 := Lib.hid (HS8.out.store (turned_keeps hturn) hown9)
   have hne5 := Lib.hid (HS9.out.next 5 (by omega))
   clear hown9 hturn HS8
   generalize D.put (skey s) (.lit (.int .u64 (numAt .u64 D (skey s) + (1 + v)))) = D9 at *
   generalize numAt .u64 D (skey s) = cN at *
   generalize (agIng A ⟨s, 1 + v⟩).1 = ci at *
   subst i2
   generalize (agIng A ⟨s, 1 + v⟩).2 = A8 at *
   go_wp2_with fail
   refine hne5.out.mono ?_
   rintro e w10 ⟨v5, k10, rfl, ⟨hv50, hv55⟩, hs10⟩
   have HS10 := Lib.hid hs10
   clear hs10 hne5 HS9 hlk hupd
   by_cases hv5 : v5 = 0
   ·subst hv5
    have hqu := Lib.hid (agqueued_any HS10.out.kn.ag HS10.out.kn.lt)
    go_wp2_with fail
    refine hqu.out.mono ?_
    rintro e w11 ⟨vq, rfl, hrow, hb⟩
    obtain ⟨Aq, cq, rfl, _⟩ := own_slice2 hrow
    have HS11 := Lib.hid (HS10.out.keep0 (Keeps.of_below (M := []) hb))
    clear hrow hb hqu HS10
    by_cases hq8 : (agQueued A8).length < 8
    ·have hq8i : ((agQueued A8).length : Int) < 8 := by omega
     have hcu := Lib.hid (agcutall_any HS11.out.kn.ag HS11.out.kn.lt)
     go_wp2_with fail
     refine hcu.out.mono ?_
     rintro e w12 ⟨vc, rfl, _, M12, tg12, h1, h2, h3, _⟩
     have HS12 := Lib.hid (HS11.out.step h2 h3 h1)
     have HP12 := Lib.hid (HP7.out.cut HL7.out (i' := x + 1) (by omega) (by omega)).1
     clear h1 h2 h3 hcu HS11
     go_wp2_with fail
     go_roundw
     case rel => exact ⟨x + 1, k10, _, M12, tg12, D9, by go_num, by omega, HS12, HP12⟩
     case measure => simp [intOf] <;> omega
    ·have hq8i : ¬ ((agQueued A8).length : Int) < 8 := by omega
     go_wp2_with fail
     go_roundw
     case rel => exact ⟨x + 1, k10, _, M8, tg8, D9, by go_num, by omega, HS11, HP7⟩
     case measure => simp [intOf] <;> omega
   ·go_wp2_with fail
    go_roundw
    case rel => exact ⟨x + 1, k10, _, M8, tg8, D9, by go_num, by omega, HS10, HP7⟩
    case measure => simp [intOf] <;> omega
  ·obtain rfl : x = 25 := by omega
   have hcu := Lib.hid (agcutall_any HS.out.kn.ag HS.out.kn.lt)
   go_wp2_with fail
   refine hcu.out.mono ?_
   rintro e w6 ⟨vc, rfl, _, M6, tg6, h1, h2, h3, _⟩
   obtain ⟨hpl, hfu⟩ := HP.out.cut HP.out.log26 (i' := 26) (by omega) (by omega)
   have HS6 := Lib.hid (HS.out.step h2 h3 h1)
   have HP6 := Lib.hid hpl; have HF6 := Lib.hid hfu
   clear h1 h2 h3 hcu hpl hfu HS HP
   generalize (agCutAll A).1 = A6 at *
   have hqu := Lib.hid (agqueued_any HS6.out.kn.ag HS6.out.kn.lt)
   go_wp2_with fail
   refine hqu.out.mono ?_
   rintro e w7 ⟨vq, rfl, hrow, hb⟩
   have hq : ∀ k, QuOk (A6.bk.q k) := fun k => by obtain ⟨rs, hL⟩ := HP6.out.log; exact (hL.qu k).1
   have hbo : BkOk A6.bk := by obtain ⟨_, C, _, hv⟩ := HS6.out.kn.ag; exact hv.bk.1
   have hlen : (agQueued A6).length = (qBats A6).length := by rw [queued_bats, List.length_map]
   obtain ⟨Aq, cq, rfl, hcq⟩ := own_slice2 hrow
   have hrd := Rd.of_own (M := [bs]) hrow (by simp; exact HS6.out.kn.lt _ HS6.out.inM)
   have Hrow : Hid (∀ y, (hy : y < (qBats A6).length) → ∃ g off, Aq = some ⟨g, off, none⟩ ∧ g < w7.heap.size ∧ g ≠ bs ∧ w7.cell? ⟨g, off + y * 3, none⟩ = some (.int .i64 1) ∧ w7.cell? ⟨g, off + y * 3 + 1, none⟩ = some (.int .i64 (qBats A6)[y].1) ∧ w7.cell? ⟨g, off + y * 3 + 2, none⟩ = some (.int .i64 (qBats A6)[y].2.seq)) := fun y hy => by
    obtain ⟨g, off, cap, e1, _, hg, hgM, hcell⟩ := Rd.at_ idCell 3 (fun _ => rfl) hrd (k := y) (by rw [hlen]; exact hy)
    injection e1 with e1
    have hid := queued_at HP6.out.node hy (show y < (agQueued A6).length by rw [hlen]; exact hy)
    rw [hid] at hcell
    exact ⟨g, off, e1, hg, by simpa using hgM, hcell 0 _ rfl, hcell 1 _ rfl, hcell 2 _ rfl⟩
   have Hbat : Hid (∀ p ∈ qBats A6, agBatch A6 1 (p.1 : Int) p.2.seq = p.2.ds ∧ p.2.ds.length ≤ 8 ∧ ∀ x ∈ p.2.ds, SaOk x) := fun p hp => by
    have h1 := (batch_of hq hp).1
    rw [HP6.out.node] at h1
    have h2 := bat_in hp
    exact ⟨h1, ((hq p.1).2.2.2.1 p.2 h2).2.2.2.1, hbo.2.2.2.2.2.2.1 p.1 p.2 h2⟩
   have hq64 : (qBats A6).length ≤ 64 := bats_len hq
   have HS7 := Lib.hid (HS6.out.keep0 (Keeps.of_below (M := []) hb))
   have HR0 := Lib.hid (restQ_start HP6.out)
   clear hrow hb hqu HS6 hq hbo hrd hcq
   rw [hlen]
   clear hlen
   go_frame
   go_wp2_with fail
   go_loopw [71] (fun i wr => ∃ (y n : Nat) (D : DataW Unit), i = .int .i64 y ∧ y ≤ (qBats A6).length ∧ n ≤ 25 + 8 * y ∧ Hid (SuSt w wr M6 tg6 a d A6 b lx k bs n D) ∧ Hid (∀ s, numAt .u64 D (skey s) = (sumS A6.bk.sa s + restQ A6 y s : Nat)) ∧ Hid (Keeps [bs] w7 wr)) (fun i _ => (qBats A6).length - (intOf i).toNat)
   case atStart => exact ⟨0, 25, D, rfl, by omega, by omega, HS7, HR0, Keeps.refl _ _⟩
   case round =>
    obtain ⟨y, n, D2, rfl, hy, hn, HSy, HRy, HKy⟩ := hrel
    clear HS7 HR0
    by_cases hyl : y < (qBats A6).length
    ·have hy1 : (y : Int) < ((qBats A6).length : Int) := by omega
     obtain ⟨g, off, rfl, hg, hgb, j0, j1, j2⟩ := Hrow.out y hyl
     obtain ⟨b1, b2, b3⟩ := Hbat.out _ (List.getElem_mem hyl)
     have HRs := Lib.hid (fun s => restQ_step hyl s)
     have Hb3 := Lib.hid b3
     generalize (qBats A6)[y] = p at *
     obtain ⟨pk, psq, ds⟩ := p
     simp only [] at j0 j1 j2 b1 b2 Hb3 HRs
     have p0 := (HKy.out.cell (p := ⟨g, off + y * 3, none⟩) hg (by simpa using hgb)).trans j0
     have p1 := (HKy.out.cell (p := ⟨g, off + y * 3 + 1, none⟩) hg (by simpa using hgb)).trans j1
     have p2 := (HKy.out.cell (p := ⟨g, off + y * 3 + 2, none⟩) hg (by simpa using hgb)).trans j2
     have hka : Keeps [] wr (wr.alloc (.cells #[.int .i64 1, .int .i64 pk, .int .i64 psq] 30)) := (Keeps.refl _ _).alloc _
     have HSa := Lib.hid (HSy.out.keep0 hka)
     have HKa : Hid (Keeps [bs] w7 (wr.alloc (.cells #[.int .i64 1, .int .i64 pk, .int .i64 psq] 30))) := HKy.out.trans hka (by simp)
     have HBI := Lib.hid (Blk.new wr 30 #[.int .i64 1, .int .i64 pk, .int .i64 psq])
     clear hka j0 j1 j2 HSy HKy b3 hg hgb
     go_upto_region 19 with (fail)
     clear p0 p1 p2
     generalize wr.alloc (.cells #[.int .i64 1, .int .i64 pk, .int .i64 psq] 30) = wa at *
     generalize wr.heap.size = gI at *
     have c0 := HBI.out.cell 0; have c1 := HBI.out.cell 1; have c2 := HBI.out.cell 2
     simp only [List.getElem?_toArray, List.getElem?_cons_succ, List.getElem?_cons_zero] at c0 c1 c2
     have hba := Lib.hid (agbatch_any HSa.out.kn.ag HSa.out.kn.lt 1 pk psq)
     rw [b1] at hba
     clear b1
     go_wp2_with fail
     refine hba.out.mono ?_
     rintro e w8 ⟨Ad, nd, cd, rfl, hds, hb8⟩
     obtain ⟨Ad', cd', e1, hcd⟩ := (hds [bs] (by simp; exact HSa.out.kn.lt _ HSa.out.inM)).len
     injection e1 with e1 e2 e3
     subst e1 e2 e3
     have HD8 := Lib.hid (hds [bs] (by simp; exact HSa.out.kn.lt _ HSa.out.inM))
     have HS8 := Lib.hid (HSa.out.keep0 (Keeps.of_below (M := []) hb8))
     have HK8 : Hid (Keeps [bs] w7 w8) := HKa.out.trans (Keeps.of_below (M := []) hb8) (by simp)
     have HR8 : Hid (∀ s, numAt .u64 D2 (skey s) = (sumS A6.bk.sa s + (sumS (ds.drop 0) s + restQ A6 (y + 1) s) : Nat)) := fun s => by rw [HRy.out s, HRs.out s]; rfl
     clear hds hb8 hba HSa HKa HBI c0 c1 c2 HRy HRs
     go_wp2_with fail
     go_loopw [79] (fun i wr => ∃ (z n2 : Nat) (D3 : DataW Unit), i = .int .i64 z ∧ z ≤ ds.length ∧ n2 ≤ 25 + 8 * y + z ∧ Hid (SuSt w wr M6 tg6 a d A6 b lx k bs n2 D3) ∧ Hid (∀ s, numAt .u64 D3 (skey s) = (sumS A6.bk.sa s + (sumS (ds.drop z) s + restQ A6 (y + 1) s) : Nat)) ∧ Hid (Keeps [bs] w8 wr)) (fun i _ => ds.length - (intOf i).toNat)
     case atStart => exact ⟨0, n, D2, rfl, by omega, by omega, HS8, HR8, Keeps.refl _ _⟩
     case round =>
      obtain ⟨z, n2, D3, rfl, hz, hn2, HSz, HRz, HKz⟩ := hrel
      clear HS8 HR8
      by_cases hzl : z < ds.length
      ·have hz1 : (z : Int) < (ds.length : Int) := by omega
       obtain ⟨g3, off3, _, e3, _, hg3, hg3M, hcell⟩ := Rd.at_ dCell 2 (fun _ => rfl) (HD8.out.keep HKz.out (by simp)) hzl
       obtain rfl : Ad = some ⟨g3, off3, none⟩ := by injection e3
       clear e3
       have p0 := hcell 0 _ rfl
       have p1 := hcell 1 _ rfl
       rw [Nat.add_zero] at p0
       obtain ⟨⟨hn0, hn1⟩, hns0⟩ := Hb3.out ds[z] (List.getElem_mem _)
       have hdr := Lib.hid (fun s => sumS_drop hzl s)
       generalize ds[z] = dd at *
       obtain ⟨ser, nd⟩ := dd
       simp only [] at p0 p1 hn0 hn1 hns0 hdr
       have hns : ser.size ≤ 9223372036854775807 := by omega
       obtain ⟨hc0, hc1⟩ := om_bd HSz.out.ms hns
       have hval := HRz.out ser
       rw [hdr.out ser, if_pos ((ser_iff _ _).2 rfl)] at hval
       have hge : 0 ≤ numAt .u64 D3 (skey ser) - nd := by omega
       have hiM := HSz.out.ms.isMap
       have HR9 : Hid (∀ s, numAt .u64 (D3.put (skey ser) (.lit (.int .u64 (numAt .u64 D3 (skey ser) - nd)))) (skey s) = (sumS A6.bk.sa s + (sumS (ds.drop (z + 1)) s + restQ A6 (y + 1) s) : Nat)) := fun s => by
        by_cases he : ser = s
        ·subst he
         rw [numAt_same hiM (lawS.key (skey_of hns))]
         omega
        ·rw [numAt_other (fun e => he (skey_inj e).symm), HRz.out s, hdr.out s, ser_ne he]
         simp
       have hka : Keeps [] wr (wr.alloc (.cells #[.string ser, .int .u64 nd] 38)) := (Keeps.refl _ _).alloc _
       have HBd := Lib.hid (Blk.new wr 38 #[.string ser, .int .u64 nd])
       have HSd := Lib.hid (HSz.out.keep0 hka)
       have HKd : Hid (Keeps [bs] w8 (wr.alloc (.cells #[.string ser, .int .u64 nd] 38))) := HKz.out.trans hka (by simp)
       clear hka hcell HSz HRz HKz hdr hval hg3 hg3M hiM hns0
       go_upto_region 22 with (fail)
       clear p0 p1
       generalize wr.alloc (.cells #[.string ser, .int .u64 nd] 38) = wd at *
       generalize wr.heap.size = gD at *
       have c0 := HBd.out.cell 0; have c1 := HBd.out.cell 1
       simp only [List.getElem?_toArray, List.getElem?_cons_succ, List.getElem?_cons_zero] at c0 c1
       have hlk := (om_num HSd.out.ms lawS uMS uU64 (zU64 _) (skey_of hns)).1
       have hw3 : IntKind.u64.wrap (numAt .u64 D3 (skey ser) - nd) = numAt .u64 D3 (skey ser) - nd := by rw [IntKind.wrap_u64]; omega
       obtain ⟨we, hupd, howne, hturn⟩ := HSd.out.ms.store lawS uMS (by unfold maxLen; omega) (skey_of hns) (plainElem_int uU64 (WalkArith.wf_u64 ⟨by omega, by omega⟩) : plainElem (H := Unit) Tryz.prog 34 (.int .u64 (numAt .u64 D3 (skey ser) - nd)) = _)
       have HSe := Lib.hid (HSd.out.store (turned_keeps hturn) howne)
       have HKe : Hid (Keeps [bs] w8 we) := HKd.out.trans (turned_keeps hturn) (by simp)
       clear howne hturn HSd HKd HBd
       generalize D3.put (skey ser) (.lit (.int .u64 (numAt .u64 D3 (skey ser) - nd))) = D4 at *
       generalize numAt .u64 D3 (skey ser) = cN at *
       go_wp2_with fail
       go_roundw
       case rel => exact ⟨z + 1, n2 + 1, D4, by go_num, by omega, by omega, HSe, HR9, HKe⟩
       case measure => simp [intOf] <;> omega
      ·obtain rfl : z = ds.length := by omega
       have HR9 : Hid (∀ s, numAt .u64 D3 (skey s) = (sumS A6.bk.sa s + restQ A6 (y + 1) s : Nat)) := fun s => by
        have h9 := HRz.out s
        rw [List.drop_length] at h9
        rw [h9]
        show ((sumS A6.bk.sa s + (0 + restQ A6 (y + 1) s) : Nat) : Int) = _
        rw [Nat.zero_add]
       have HKe : Hid (Keeps [bs] w7 wr) := HK8.out.trans HKz.out (fun _ h => .inl h)
       clear HRz HKz
       go_wp2_with fail
       go_roundw
       case rel => exact ⟨y + 1, n2, D3, by go_num, by omega, by omega, HSz, HR9, HKe⟩
       case measure => simp [intOf] <;> omega
    ·obtain rfl : y = (qBats A6).length := by omega
     have hwt := Lib.hid (agwaits_any HSy.out.kn.ag)
     have HZ : Hid (∀ s, numAt .u64 D2 (skey s) = (sumS A6.bk.sa s : Nat)) := fun s => by
      have h9 := HRy.out s
      rw [restQ_end, Nat.add_zero] at h9
      exact h9
     clear HRy HKy
     by_cases h0 : A6.bk.sa = []
     ·have hw0 : Hid (Calls Tryz.prog 29 #[.pointer (some ⟨a, 0, none⟩)] wr fun e w' => e = .returned (.int .i64 0) ∧ wr = w') := by
       have h9 := hwt.out
       rw [h0] at h9
       exact h9
      have HZ0 : Hid (∀ s, numAt .u64 D2 (skey s) = 0) := fun s => by rw [HZ.out s, h0]; rfl
      clear HZ h0 hwt
      go_wp2_with fail
      refine hw0.out.mono ?_
      rintro e w8 ⟨rfl, rfl⟩
      clear hw0
      go_wp2_with (at_range; refine wpList_range_own _ rfl _ 25 rfl 9 34 lawS uMS _ bs n D2 rfl HSy.out.ms ?_; intro w0 hrg0 hg0 hs0)
      have Hrg0 := Lib.hid hrg0
      have Hk0 : Hid (Keeps [] wr w0) := (Keeps.refl _ _).grown hg0 (fun j hj => by cases hj)
      obtain ⟨r, Hr⟩ : ∃ r, Hid (r = wr.heap.size) := ⟨_, rfl⟩
      clear hrg0 hg0 hs0
      rw [← Hr.out] at Hrg0 ⊢
      go_frame
      go_loopw [] (fun wq => ∃ (left : Lit → Bool) (cnt : Nat), Hid (wq.ranges Tryz.prog 9 (plainElem Tryz.prog 34) bs r n D2 left cnt) ∧ Hid (Keeps [r] w0 wq)) (fun wq => wq.rangeLeft bs r)
      case atStart => exact ⟨_, _, Hrg0, Keeps.refl _ _⟩
      case round =>
       rename_i wq
       obtain ⟨left, cnt, Hrg, Hkr⟩ := hrel
       clear Hrg0
       go_wp2_with (at_next; refine wpList_next_ranges _ rfl _ rfl 9 lawS (plainElem Tryz.prog 34) Value.string (Value.int .u64) invKS invVU bs r n D2 left cnt rfl Hrg.out ?_ ?_)
       ·intro hc0 hl0
        have HSq := Lib.hid (HSy.out.keep0 (Hk0.out.trans Hkr.out (fun x hx => .inr (by simp at hx; rw [hx, Hr.out]; exact Nat.le_refl _))))
        have hkn := Lib.hid (known19_any mx _ (HSq.out.kn.cell0 Hm.out).1)
        have HB := Lib.hid HSq.out.kn.bel
        clear hl0
        go_wp2_with fail
        refine hkn.out.mono ?_
        rintro e w9 ⟨rfl, hb9⟩
        have hP : Hid (SamePost true w (.returned (.bool true)) w9) := ⟨rfl, HB.out.trans ((Keeps.of_below (M := []) hb9).belowB HB.out.size (by simp))⟩
        go_wp2
        go_ret
        exact hP.out
       ·intro x c kl yd yp w9 cnt2 hkey hlk hv hat hrg2 hlt2 hg2 hs2 hen
        have hks : kl = skey x := by
         simp [keyOf, uStr, mapKey] at hkey
         exact hkey.2.symm
        subst hks
        have hnum : c = 0 := by
         have h1 := hat (.lit (.int .u64 0))
         obtain ⟨c', e1, e2, _⟩ := plainElem_int_inv uU64 hv
         injection e1 with _ e1
         subst e1
         injection e2 with e2 _
         rw [e2] at h1
         rw [← numAt_of h1]
         exact HZ0.out x
        subst hnum
        have hm0 := Hrg.out.left_eq
        have Hrg2 := Lib.hid hrg2
        have hm2 := hrg2.left_eq
        have Hk2 : Hid (Keeps [r] w0 w9) := Hkr.out.grown hg2 (fun j hj => .inl (by cases hj; simp))
        clear hg2 hrg2 hat hv hlk hkey hs2 Hrg Hkr
        go_wp2_with fail
        go_roundw
        case rel => exact ⟨_, cnt2, Hrg2, Hk2⟩
        case measure => rw [hm0, hm2]; exact hlt2
     ·have hpos : (0 : Int) < (A6.bk.sa.length : Int) := by
       rcases Nat.eq_zero_or_pos A6.bk.sa.length with h | h
       ·exact absurd (List.length_eq_zero_iff.1 h) h0
       ·omega
      have hf16 := full_queued (HF6.out.resolve_right h0)
      have hq8 : (8 : Int) ≤ ((agQueued A6).length : Int) := by omega
      have hqu := Lib.hid (agqueued_any HSy.out.kn.ag HSy.out.kn.lt)
      clear h0 HZ hf16
      go_wp2_with fail
      refine hwt.out.mono ?_
      rintro e w8 ⟨rfl, rfl⟩
      clear hwt
      go_wp2_with fail
      refine hqu.out.mono ?_
      rintro e w9 ⟨vz, rfl, hrow, hb⟩
      obtain ⟨Az, cz, rfl, _⟩ := own_slice2 hrow
      have HSq := Lib.hid (HSy.out.keep0 (Keeps.of_below (M := []) hb))
      have hkn := Lib.hid (known19_any mx _ (HSq.out.kn.cell0 Hm.out).1)
      have HB := Lib.hid HSq.out.kn.bel
      clear hrow hb hqu
      go_wp2_with fail
      refine hkn.out.mono ?_
      rintro e w10 ⟨rfl, hb9⟩
      have hP : Hid (SamePost true w (.returned (.bool true)) w10) := ⟨rfl, HB.out.trans ((Keeps.of_below (M := []) hb9).belowB HB.out.size (by simp))⟩
      go_wp2
      go_ret
      exact hP.out
end Go.Proofs.YtgdooockldgdlaaGreatDoor.Vi
end
