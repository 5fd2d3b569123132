/- Texts put together: OnN, OnW. -/
import Derived.Deep.DeepCutAuto
import Derived.Test.YtgdooockldgdlaaGreatDoorMC6
set_option linter.unusedVariables false
set_option linter.unusedSimpArgs false
section
namespace Go.Proofs.YtgdooockldgdlaaGreatDoor.Vi
open Go.RowKit Base Mem Tape
theorem eCellsL_one (l : List (EntryD × Value)) (hl : ∀ p ∈ l, ∃ A n c, p.2 = .slice A n c) : ∀ u ∈ l.flatMap eCell, u.oneCell' = true := by
 intro u hu
 obtain ⟨d, hd, hu⟩ := List.mem_flatMap.1 hu
 obtain ⟨A, n, c, e⟩ := hl d hd
 simp [eCell, e] at hu
 rcases hu with rfl | rfl | rfl | rfl | rfl | rfl | rfl | rfl | rfl <;> rfl
theorem RnSt.keepM {w W W' : World} {g : Nat} {X M : List Nat} {st : McD} {i : Nat} {mx : Int} (h : RnSt w W g X st i mx) (hk : Keeps M W W') (hM : ∀ x ∈ M, x ∉ X) (ho : ∀ x ∈ M, w.heap.size ≤ x) : RnSt w W' g X st i mx :=
 ⟨h.mc.keep hk (fun x hx hm => hM x hm hx), fun x hx => Nat.lt_of_lt_of_le (h.lt x hx) hk.size, h.old, h.kp.trans hk (fun x hx => .inr (ho x hx)), h.rd, h.cm⟩
/-- A machine on the way, beside the law's own maps. -/
structure OnSt (w W : World) (g bs ba bb : Nat) (X : List Nat) (st : McD) (Dl Da Db : DataW Unit) (n i : Nat) (mx : Int) : Prop where
 rn : RnSt w W g X st i mx
 ms : W.ownsMap Tryz.prog 9 (plainElem Tryz.prog 34) bs n Dl
 ma : W.ownsMap Tryz.prog 30 (plainElem Tryz.prog 3) ba n Da
 mb : W.ownsMap Tryz.prog 30 (plainElem Tryz.prog 3) bb n Db
 ns : bs ∉ X
 na : ba ∉ X
 nb : bb ∉ X
 sa : bs ≠ ba
 sb : bs ≠ bb
 ab : ba ≠ bb
 os : w.heap.size ≤ bs
 oa : w.heap.size ≤ ba
 ob : w.heap.size ≤ bb
section
variable {w W W' : World} {g bs ba bb : Nat} {X : List Nat} {st : McD} {Dl Da Db : DataW Unit} {n i : Nat} {mx : Int}
theorem OnSt.keep (h : OnSt w W g bs ba bb X st Dl Da Db n i mx) (hk : Keeps [] W W') : OnSt w W' g bs ba bb X st Dl Da Db n i mx :=
 { h with rn := h.rn.keep hk, ms := om_keep h.ms hk (by simp), ma := om_keep h.ma hk (by simp), mb := om_keep h.mb hk (by simp) }
theorem OnSt.more {n' : Nat} (h : OnSt w W g bs ba bb X st Dl Da Db n i mx) (hn : n ≤ n') : OnSt w W g bs ba bb X st Dl Da Db n' i mx :=
 { h with ms := h.ms.mono hn, ma := h.ma.mono hn, mb := h.mb.mono hn }
theorem OnSt.setS {D' : DataW Unit} (h : OnSt w W g bs ba bb X st Dl Da Db n i mx) (hk : Keeps [bs] W W') (hm : W'.ownsMap Tryz.prog 9 (plainElem Tryz.prog 34) bs (n + 1) D') : OnSt w W' g bs ba bb X st D' Da Db (n + 1) i mx :=
 { h with rn := h.rn.keepM hk (by simp; exact h.ns) (by simp; exact h.os), ms := hm, ma := om_keep (h.ma.mono (Nat.le_succ _)) hk (by simp; exact Ne.symm h.sa), mb := om_keep (h.mb.mono (Nat.le_succ _)) hk (by simp; exact Ne.symm h.sb) }
theorem OnSt.setA {D' : DataW Unit} (h : OnSt w W g bs ba bb X st Dl Da Db n i mx) (hk : Keeps [ba] W W') (hm : W'.ownsMap Tryz.prog 30 (plainElem Tryz.prog 3) ba (n + 1) D') : OnSt w W' g bs ba bb X st Dl D' Db (n + 1) i mx :=
 { h with rn := h.rn.keepM hk (by simp; exact h.na) (by simp; exact h.oa), ma := hm, ms := om_keep (h.ms.mono (Nat.le_succ _)) hk (by simp; exact h.sa), mb := om_keep (h.mb.mono (Nat.le_succ _)) hk (by simp; exact Ne.symm h.ab) }
theorem OnSt.setB {D' : DataW Unit} (h : OnSt w W g bs ba bb X st Dl Da Db n i mx) (hk : Keeps [bb] W W') (hm : W'.ownsMap Tryz.prog 30 (plainElem Tryz.prog 3) bb (n + 1) D') : OnSt w W' g bs ba bb X st Dl Da D' (n + 1) i mx :=
 { h with rn := h.rn.keepM hk (by simp; exact h.nb) (by simp; exact h.ob), mb := hm, ms := om_keep (h.ms.mono (Nat.le_succ _)) hk (by simp; exact h.sb), ma := om_keep (h.ma.mono (Nat.le_succ _)) hk (by simp; exact h.ab) }
def OnA (w W : World) (g bs ba bb : Nat) (X : List Nat) (r : Int × Int × McD) (Dl Da Db : DataW Unit) (n i : Nat) (mx : Int) (e : Ending) (W' : World) : Prop :=
 e = .returned (.tuple #[.int .i64 r.1, .int .u64 r.2.1]) ∧ ∃ X', OnSt w W' g bs ba bb X' r.2.2 Dl Da Db n (i + 1) mx ∧ (∀ x ∈ X', x ∈ X ∨ W.heap.size ≤ x) ∧ Keeps X W W'
theorem OnSt.apply (h : OnSt w W g bs ba bb X st Dl Da Db n i mx) (hi : i ≤ 1000) (e : EntryD) (dv : Value) (ha : I64 e.ag) (hs : I64 e.sh) (hq : I64 e.seq) (hp : I64 e.ep) (hd : Ds W X dv e.ds) (hok : ∀ d ∈ e.ds, DOk d) (hn : ∀ d ∈ e.ds, NameOk d.ser) (hl : e.ds.length ≤ 4) (hsh : Short e) :
  Calls Tryz.prog 12 #[.pointer (some ⟨g, 0, none⟩), .agg (eCell (e, dv)).toArray] W fun r W' => OnA w W g bs ba bb X (applyM st (pk e.ag e.sh) e) Dl Da Db n i mx r W' := by
 refine (h.rn.apply hi e dv ha hs hq hp hd hok hn hl hsh).mono ?_
 rintro r W' ⟨h1, X', h2, h3, h4⟩
 have k1 := h.ms.lt; have k2 := h.ma.lt; have k3 := h.mb.lt
 refine ⟨h1, X', ⟨h2, om_keep h.ms h4 h.ns, om_keep h.ma h4 h.na, om_keep h.mb h4 h.nb, ?_, ?_, ?_, h.sa, h.sb, h.ab, h.os, h.oa, h.ob⟩, h3, h4⟩
 ·exact fun hm => by rcases h3 _ hm with h5 | h5; exact h.ns h5; omega
 ·exact fun hm => by rcases h3 _ hm with h5 | h5; exact h.na h5; omega
 ·exact fun hm => by rcases h3 _ hm with h5 | h5; exact h.nb h5; omega
theorem OnSt.has (h : OnSt w W g bs ba bb X st Dl Da Db n i mx) {a k m : Int} (ha : I64 a) (hk : I64 k) (hm : m ≤ 9223372036854775807) :
  Calls Tryz.prog 13 #[.pointer (some ⟨g, 0, none⟩), .agg #[.int .i64 a, .int .i64 k, .int .i64 m]] W fun e W' => HsP (hasM st (pk a k) m) W e W' := by
 obtain ⟨c, DH, h1⟩ := h.rn.mc
 exact mchas_any g c X st _ DH a k m W h1 ha hk hm
end
theorem name_ser' {D : DataW Unit} (hn : NamesIn D) {s : ByteArray} (h : Maps.has D (skey s) = true) : s.size ≤ 9223372036854775807 := by
 have h1 := hn _ h
 unfold nameK at h1
 obtain ⟨b, hb, he⟩ := List.mem_map.1 h1
 have hs : NameOk s := ⟨b, hb, by
  unfold skey at he
  injection he with he
  obtain ⟨⟨s⟩⟩ := s
  simp only [] at he
  rw [he]⟩
 have := (name_ser hs).2
 omega
/-- Where the three maps have been made. -/
theorem on_made {w w1 : World} {g : Nat} {X : List Nat} {mx : Int} (h : RnSt w w1 g X mc0 0 mx) :
  OnSt w (((w1.alloc (.map #[] 0)).alloc (.map #[] 0)).alloc (.map #[] 0)) g w1.heap.size (w1.heap.size + 1) (w1.heap.size + 1 + 1) X mc0 (.map []) (.map []) (.map []) 0 0 mx := by
 have hz := h.kp.size
 have hno : ∀ k, w1.heap.size + k ∉ X := fun k hm => by have := h.lt _ hm; omega
 have hk3 : Keeps [] w1 (((w1.alloc (.map #[] 0)).alloc (.map #[] 0)).alloc (.map #[] 0)) := (((Keeps.refl _ _).alloc _).alloc _).alloc _
 have h1 : (w1.alloc (.map #[] 0)).ownsMap Tryz.prog 9 (plainElem (H := Unit) Tryz.prog 34) w1.heap.size 0 (.map []) := World.ownsMap_made _ _ _ _
 have h2 : ((w1.alloc (.map #[] 0)).alloc (.map #[] 0)).ownsMap Tryz.prog 30 (plainElem (H := Unit) Tryz.prog 3) (w1.heap.size + 1) 0 (.map []) := by
  have := World.ownsMap_made (H := Unit) (w1.alloc (.map #[] 0)) Tryz.prog 30 (plainElem Tryz.prog 3)
  rwa [World.size_alloc] at this
 have h3 : (((w1.alloc (.map #[] 0)).alloc (.map #[] 0)).alloc (.map #[] 0)).ownsMap Tryz.prog 30 (plainElem (H := Unit) Tryz.prog 3) (w1.heap.size + 1 + 1) 0 (.map []) := by
  have := World.ownsMap_made (H := Unit) ((w1.alloc (.map #[] 0)).alloc (.map #[] 0)) Tryz.prog 30 (plainElem Tryz.prog 3)
  rwa [World.size_alloc, World.size_alloc] at this
 exact ⟨h.keep hk3, (h1.alloc _).alloc _, h2.alloc _, h3, hno 0, hno 1, hno (1 + 1), by omega, by omega, by omega, hz, by omega, by omega⟩
/-- Two rows of entries, one put behind the other. -/
theorem ens_two {w0 w1 w2 w3 : World} {v1 v' : Value} {qs1 : List (EntryD × Value)} {es2 : List EntryD} {M : List Nat}
  (hM : ∀ g ∈ M, g < w0.heap.size) (ho1 : w1.ownsRow w0.heap.size 33 9 v1 qs1.length (qs1.flatMap eCell)) (hd1 : DsOwn w0 w1 v1 qs1) (hk2 : Keeps [] w1 w2)
  (ps2 : List (EntryD × Value)) (he2 : ps2.map (·.1) = es2) (hd2 : ∀ p ∈ ps2, Ds w2 (v1.ownBlock.toList ++ M) p.2 p.1.ds)
  (hown : w3.ownsRow w0.heap.size 33 9 v' (qs1.length + ps2.length) (qs1.flatMap eCell ++ ps2.flatMap eCell)) (hg : w2.grownBy w3 v1.ownBlock) :
  Ens w3 M v' (qs1.map (·.1) ++ es2) := by
 have hk3 : Keeps v1.ownBlock.toList w2 w3 := (Keeps.refl _ _).grown hg (fun x hx => .inl (by simpa using hx))
 refine ⟨qs1 ++ ps2, by rw [List.map_append, he2], ?_, fun p hp => ?_⟩
 ·rw [List.length_append, List.flatMap_append]
  exact Rd.of_own hown hM
 ·rcases List.mem_append.1 hp with h | h
  ·have h1 : Ds w1 (v1.ownBlock.toList ++ M) p.2 p.1.ds := hd1 p h _ (fun x hx => by
    rcases List.mem_append.1 hx with h2 | h2
    ·exact .inr (by simpa using h2)
    ·exact .inl (hM x h2))
   have h2 : Ds w2 (v1.ownBlock.toList ++ M) p.2 p.1.ds := h1.keep hk2 (by simp)
   exact (h2.keep hk3 (fun _ hg => .inl (List.mem_append_left _ hg))).avoid (fun _ hg => .inl (List.mem_append_right _ hg))
  ·exact ((hd2 p h).keep hk3 (fun _ hg => .inl (List.mem_append_left _ hg))).avoid (fun _ hg => .inl (List.mem_append_right _ hg))
theorem nums_keep {w W : World} {A : Option Addr} {c : Nat} {l : List Int} (h : Nums w A c l) (hk : Keeps [] w W) : Nums W A c l := by
 obtain ⟨h1, h2, h3⟩ := h
 refine ⟨h1, h2, fun h => ?_⟩
 obtain ⟨g', off, e, hg, hx⟩ := h3 h
 exact ⟨g', off, e, Nat.lt_of_lt_of_le hg hk.size, fun q x hq => (hk.cell (p := ⟨g', off + q, none⟩) hg (by simp)).trans (hx q x hq)⟩
/-- Behind the switch. -/
def OnCut (w W wx : World) (g bs ba bb : Nat) (X : List Nat) (st : McD) (n i : Nat) (mx : Int) : Prop := ∃ Da Db, OnSt w wx g bs ba bb X st st.DS Da Db n i mx ∧ OnOk st Da Db ∧ Keeps [bs, ba, bb] W wx
theorem OnCut.mk' {w W wx : World} {g bs ba bb : Nat} {X : List Nat} {st : McD} {Dl Da Db : DataW Unit} {n n' i : Nat} {mx : Int} (h : OnSt w wx g bs ba bb X st Dl Da Db n i mx) (hD : st.DS = Dl) (ho : OnOk st Da Db) (hk : Keeps [bs, ba, bb] W wx) (hn : n ≤ n') : OnCut w W wx g bs ba bb X st n' i mx :=
 ⟨Da, Db, by rw [hD]; exact h.more hn, ho, hk⟩
theorem entry_seq {e : EntryD} (h : EntryOk e) (hk : e.kind ≠ 2) : 1 ≤ e.seq := by
 obtain ⟨_, _, _, _, h5⟩ := h
 rcases h5 with ⟨hk', _⟩ | ⟨_, _, _, _, _, _, h, _⟩
 ·exact absurd hk' hk
 ·exact h
theorem entry_ser {e : EntryD} (h : EntryOk e) : e.ser.size ≤ 9223372036854775807 := by
 have := (entry_right h).2.1.1
 omega
theorem one_wf : (Lit.int .i64 1).wf = true := by decide
set_option maxRecDepth 100000 in
set_option maxHeartbeats 16000000 in
theorem once_walk (A : Option Addr) (c : Nat) (l : List Int) (A2 : Option Addr) (c2 : Nat) (l2 : List Int) (mx : Int) (w : World) (hN : Nums w A c l) (hN2 : Nums w A2 c2 l2) (hm : w.cell? ⟨0, 0, none⟩ = some (.int .i64 mx)) :
  Calls Tryz.prog 3 #[.slice A l.length c, .slice A2 l2.length c2] w fun e w' => SamePost true w e w' := by
 have hw0 : 0 < w.heap.size := by
  have := World.block_lt_of_cell? w _ hm
  simpa using this
 have Hm : Hid (∀ W, Keeps [] w W → W.cell? ⟨0, 0, none⟩ = some (.int .i64 mx)) := fun W hk => (hk.cell (p := ⟨0, 0, none⟩) hw0 (by simp)).trans hm
 have HN := Lib.hid hN; have HN2 := Lib.hid hN2
 have hmm := @run_makeMap Tryz.prog
 obtain ⟨i0, hi0, hz0, hz1, hz2⟩ := info_parts infoEnt4
 have Hi0 := Lib.hid hi0; have Hz0 := Lib.hid hz0; have Hz1 := Lib.hid hz1; have Hz2 := Lib.hid hz2
 clear hN hN2 hm hi0 hz0 hz1 hz2
 go_enter Tryz.func3, Tryz.ntmps3
 go_wp2_with fail
 refine (mcnew_any w).mono ?_
 rintro e w1 ⟨g, X0, rfl, hmc0, hx0, hb1⟩
 obtain ⟨X, hmc, hxx, hlt⟩ := mc0_core hmc0
 have HS1 : Hid (OnSt w (((w1.alloc (.map #[] 0)).alloc (.map #[] 0)).alloc (.map #[] 0)) g w1.heap.size (w1.heap.size + 1) (w1.heap.size + 1 + 1) X mc0 (.map []) (.map []) (.map []) 0 0 mx) :=
  on_made ⟨hmc, hlt, fun x hx => hx0 _ (hxx _ hx), Keeps.of_below (M := []) hb1, rd_start, Hm.out⟩
 have Hb4 : Hid (w1.heap.size + 1 + 1 < (((w1.alloc (.map #[] 0)).alloc (.map #[] 0)).alloc (.map #[] 0)).heap.size) := by show _ < _; rw [World.size_alloc, World.size_alloc, World.size_alloc]; omega
 clear hmc0 hx0 hmc hxx hlt hb1
 go_upto_region 7 with (fail)
 generalize ((w1.alloc (.map #[] 0)).alloc (.map #[] 0)).alloc (.map #[] 0) = w4 at *
 generalize w1.heap.size = bs at *
 have HK4 := Lib.hid HS1.out.rn.kp
 obtain ⟨W4, HW4⟩ : ∃ W4, Hid (W4 = w4.heap.size) := ⟨_, rfl⟩
 go_wp2_with fail
 refine (entries_own A c l 50 w4 (nums_keep HN.out HK4.out) (by omega)).mono ?_
 rintro e w5 ⟨v1, qs1, rfl, hok1, hl1, hown1, hds1, hk5⟩
 obtain ⟨A1, c1, rfl, hc1⟩ : ∃ A1 c1, v1 = .slice A1 qs1.length c1 ∧ qs1.length ≤ c1 := by
  obtain ⟨A1, c1, h1, h2, _⟩ := Rd.of_own hown1 (M := []) (by simp)
  exact ⟨A1, c1, h1, h2⟩
 have Hok1 := Lib.hid hok1; have Hown1 := Lib.hid hown1; have Hds1 := Lib.hid hds1
 have HK5 : Hid (Keeps [] w w5) := HK4.out.trans hk5 (by simp)
 have HS5 := Lib.hid (HS1.out.keep hk5)
 have Hz5 := Lib.hid hk5.size
 have HM0 : Hid (∀ x ∈ bs :: (bs + 1) :: (bs + 1 + 1) :: X, x < w4.heap.size) := fun x hx => by
  have h9 := Hb4.out
  simp at hx
  rcases hx with rfl | rfl | rfl | hx
  ·omega
  ·omega
  ·omega
  ·exact HS1.out.rn.lt x hx
 clear hok1 hown1 hds1 hk5 HS1 HN
 go_wp2_with fail
 refine (entries_any A2 c2 l2 50 w5 (nums_keep HN2.out HK5.out) (by omega)).mono ?_
 rintro e w6 ⟨v2, es2, rfl, hok2, hl2, hat2, hk6⟩
 obtain ⟨ps2, hp2, hr2, hd2⟩ := hat2 ((Value.slice A1 qs1.length c1).ownBlock.toList ++ (bs :: (bs + 1) :: (bs + 1 + 1) :: X)) (fun x hx => by
  rcases List.mem_append.1 hx with h1 | h1
  ·exact (Hown1.out.lt x (by simpa using h1)).2
  ·exact Nat.lt_of_lt_of_le (HM0.out x h1) Hz5.out)
 have hn2 : ps2.length ≤ 50 := by rw [← hp2, List.length_map] at hl2; exact hl2
 have Hone := Lib.hid (eCellsL_one ps2 (fun p hp => by obtain ⟨A', c', e, _⟩ := (hd2 p hp).len; exact ⟨_, _, _, e⟩))
 obtain ⟨Ab, cb, rfl, hcb, hrd⟩ := hr2.reads
 have Hrd := Lib.hid hrd; have Hp2 := Lib.hid hp2; have Hd2 := Lib.hid hd2; have Hok2 := Lib.hid hok2
 have Hown6 := Lib.hid (own_keep Hown1.out hk6 (by simp))
 have HS6 := Lib.hid (HS5.out.keep hk6)
 have Hk6 := Lib.hid hk6
 have Hz6 := Lib.hid hk6.size
 clear hok2 hat2 hr2 hd2 hrd hp2 hk6 HS5 HN2 hl2
 go_wp2_with (at_builtin; refine wpList_append_any _ rfl (.tmp 25) (.tmp 27) _ rfl w4.heap.size 33 i0 _ 9 96 Tryz.underlying27 Hi0.out Hz0.out Hz1.out Hz2.out rfl (by omega) (.slice A1 qs1.length c1) qs1.length (qs1.flatMap eCell) rfl Hown6.out w6.heap.size Ab ps2.length cb (ps2.flatMap eCell) rfl Hrd.out Hone.out (by unfold maxLen; omega) (by omega) (by have := Hz5.out; have := Hz6.out; omega) ?_)
 intro v' w7 hown7 hg7 hat7
 have HE := Lib.hid (ens_two HM0.out Hown1.out Hds1.out Hk6.out ps2 Hp2.out Hd2.out hown7 hg7)
 have hkg : Keeps (Value.slice A1 qs1.length c1).ownBlock.toList w6 w7 := (Keeps.refl _ _).grown hg7 (fun x hx => .inl (by simpa using hx))
 have HS7 : Hid (OnSt w w7 g bs (bs + 1) (bs + 1 + 1) X mc0 (.map []) (.map []) (.map []) 0 0 mx) := by
  have hno : ∀ x ∈ (Value.slice A1 qs1.length c1).ownBlock.toList, w4.heap.size ≤ x := fun x hx => (Hown6.out.lt x (by simpa using hx)).1
  have h9 := HM0.out
  have hnb : ∀ y ∈ bs :: (bs + 1) :: (bs + 1 + 1) :: X, y ∉ (Value.slice A1 qs1.length c1).ownBlock.toList := fun y hy hm => by have := hno y hm; have := h9 y hy; omega
  have h0 := HS6.out
  exact { h0 with rn := h0.rn.keepM hkg (fun x hx hm => hnb x (by simp [hm]) hx) (fun x hx => Nat.le_trans HK4.out.size (hno x hx)), ms := om_keep h0.ms hkg (hnb _ (by simp)), ma := om_keep h0.ma hkg (hnb _ (by simp)), mb := om_keep h0.mb hkg (hnb _ (by simp)) }
 have Hok : Hid (∀ en ∈ qs1.map (·.1) ++ es2, EntryOk en) := fun en hen => by
  rcases List.mem_append.1 hen with h | h
  ·obtain ⟨q, hq, rfl⟩ := List.mem_map.1 h
   exact Hok1.out q hq
  ·exact Hok2.out en h
 have hlen : (qs1.map (·.1) ++ es2).length ≤ 100 := by rw [List.length_append, List.length_map, ← Hp2.out, List.length_map]; omega
 have HLen := Lib.hid hlen
 clear hown7 hg7 hat7 hkg Hok1 Hok2 Hown1 Hown6 Hds1 Hd2 Hp2 Hrd Hone HS6 Hk6 Hz6 Hz5 HM0 Hb4 HK5 HK4 HW4 hn2 hl1 hc1 hcb hlen
 generalize qs1.map (·.1) ++ es2 = es at *
 obtain ⟨Ae, ce, rfl, _⟩ := HE.out.len
 have Hab : Hid (bs ≠ bs + 1 ∧ bs ≠ bs + 1 + 1 ∧ bs + 1 ≠ bs + 1 + 1) := by show _ ∧ _ ∧ _; omega
 generalize bs + 1 = ba at *
 generalize ba + 1 = bb at *
 go_wp2_with fail
 go_loopw [30] (fun i wr => ∃ (x : Nat) (X : List Nat) (st : McD) (Da Db : DataW Unit), i = .int .i64 x ∧ x ≤ es.length ∧ Hid (OnSt w wr g bs ba bb X st st.DS Da Db (8 * x) x mx) ∧ Hid (OnOk st Da Db) ∧ Hid (Ens wr (bs :: ba :: bb :: X) (.slice Ae es.length ce) es)) (fun i _ => es.length - (intOf i).toNat)
 case atStart => exact ⟨0, X, mc0, .map [], .map [], rfl, by omega, HS7, on_start, HE⟩
 case round =>
  obtain ⟨x, X, st, Da, Db, rfl, hx, HS, HO, HEn⟩ := hrel
  clear HS7 HE
  by_cases hlx : x < es.length
  ·have hx1 : (x : Int) < (es.length : Int) := by omega
   obtain ⟨ge, off, cap, dv, e1, hge, hgX, hds, hcell⟩ := ens_at HEn.out hlx
   obtain rfl : Ae = some ⟨ge, off, none⟩ := by injection e1
   clear e1
   have hoke := Hok.out es[x] (List.getElem_mem _)
   have J := Lib.hid (entry_i64 hoke)
   have Hsh := Lib.hid (entry_right hoke)
   have Hseq := Lib.hid (entry_seq hoke)
   have Hser := Lib.hid (entry_ser hoke)
   have HRn := Lib.hid HS.out.rn.rd
   obtain ⟨Ad, cd, rfl, _⟩ := hds.len
   generalize hee : es[x] = e at *
   have FR := Lib.hid (fun h : e.kind = 2 => apply_read (st := st) (kl := pk e.ag e.sh) Hsh.out.1 h)
   have FS := Lib.hid (fun h : e.kind ≠ 2 => on_step HRn.out HO.out J.out.1 J.out.2.1 (Hseq.out h) J.out.2.2.1.2 HS.out.ma.isMap HS.out.mb.isMap Hsh.out.1 h)
   have HDs := Lib.hid hds
   clear hds hoke hee HRn
   have p0 := hcell 0 _ rfl; have p1 := hcell 1 _ rfl; have p2 := hcell 2 _ rfl; have p3 := hcell 3 _ rfl; have p4 := hcell 4 _ rfl; have p5 := hcell 5 _ rfl; have p6 := hcell 6 _ rfl; have p7 := hcell 7 _ rfl; have p8 := hcell 8 _ rfl
   rw [Nat.add_zero] at p0
   clear hcell
   have hx50 : x ≤ 900 := by have := HLen.out; omega
   obtain ⟨gE, HgE⟩ : ∃ gE, Hid (gE = wr.heap.size) := ⟨_, rfl⟩
   have HBE := Lib.hid (Blk.new wr 33 #[.int .i64 e.kind, .int .i64 e.ag, .int .i64 e.sh, .int .i64 e.seq, .int .i64 e.ep, .slice Ad e.ds.length cd, .string e.ser, .int .i64 e.fr, .int .i64 e.tag])
   have hka : Keeps [] wr (wr.alloc (.cells #[.int .i64 e.kind, .int .i64 e.ag, .int .i64 e.sh, .int .i64 e.seq, .int .i64 e.ep, .slice Ad e.ds.length cd, .string e.ser, .int .i64 e.fr, .int .i64 e.tag] 33)) := (Keeps.refl _ _).alloc _
   have HSa := Lib.hid (HS.out.keep hka)
   have HEa := Lib.hid (HEn.out.keep hka (by simp))
   have HDa := Lib.hid (HDs.out.keep hka (by simp))
   have HnE : Hid (gE ∉ bs :: ba :: bb :: X) := fun hm => by
    have h1 := HS.out.rn.lt; have h2 := HS.out.ms.lt; have h3 := HS.out.ma.lt; have h4 := HS.out.mb.lt; have h5 := HgE.out
    simp at hm
    rcases hm with h | h | h | h
    ·omega
    ·omega
    ·omega
    ·have := h1 _ h; omega
   clear hka HS HEn HDs
   go_upto_region 10 with (fail)
   clear p0 p1 p2 p3 p4 p5 p6 p7 p8
   generalize wr.alloc (.cells #[.int .i64 e.kind, .int .i64 e.ag, .int .i64 e.sh, .int .i64 e.seq, .int .i64 e.ep, .slice Ad e.ds.length cd, .string e.ser, .int .i64 e.fr, .int .i64 e.tag] 33) = wa at *
   rw [← HgE.out] at HBE ⊢
   clear HgE
   have hb3 := HBE.out
   have c0 := hb3.cell 0; have c1 := hb3.cell 1; have c2 := hb3.cell 2; have c3' := hb3.cell 3; have c4 := hb3.cell 4; have c5 := hb3.cell 5; have c6 := hb3.cell 6; have c7 := hb3.cell 7; have c8 := hb3.cell 8
   simp only [List.getElem?_toArray, List.getElem?_cons_succ, List.getElem?_cons_zero] at c0 c1 c2 c3' c4 c5 c6 c7 c8
   clear hb3
   have HAp := Lib.hid (HSa.out.apply (by omega) e _ J.out.1 J.out.2.1 J.out.2.2.1 J.out.2.2.2.1 (HDa.out.avoid (fun _ hg => .inl (by simp [hg]))) J.out.2.2.2.2.1 J.out.2.2.2.2.2.1 J.out.2.2.2.2.2.2 Hsh.out.2.1)
   simp only [eCell] at HAp
   go_wp2_with fail
   refine HAp.out.mono ?_
   rintro r w4' ⟨rfl, X4, hS4, hx4, hk4⟩
   have HS4 := Lib.hid hS4
   have hx4' : ∀ y ∈ bs :: ba :: bb :: X4, y ∈ bs :: ba :: bb :: X ∨ wa.heap.size ≤ y := fun y hy => by
    simp at hy ⊢
    rcases hy with h | h | h | h
    ·exact .inl (.inl h)
    ·exact .inl (.inr (.inl h))
    ·exact .inl (.inr (.inr (.inl h)))
    ·rcases hx4 y h with h | h
     ·exact .inl (.inr (.inr (.inr h)))
     ·exact .inr h
   have hk4' : Keeps (bs :: ba :: bb :: X) wa w4' := hk4.mono (fun y hy => by simp [hy])
   have HE4 := Lib.hid (ensA HEa.out hx4' hk4'); have HDs4 := Lib.hid (dsA HDa.out hx4' hk4'); have HB4 := Lib.hid (hk4'.blk HBE.out HnE.out)
   have HnE4 : Hid (gE ∉ bs :: ba :: bb :: X4) := fun hm => by
    rcases hx4' gE hm with h | h
    ·exact HnE.out h
    ·exact absurd HBE.out.lt (Nat.not_lt.2 h)
   clear hS4 hx4 hk4 hx4' hk4' HSa HEa HDa HBE HnE HAp c0 c1 c2 c3' c4 c5 c6 c7 c8
   have hb4 := HB4.out
   have c0 := hb4.cell 0; have c6 := hb4.cell 6
   simp only [List.getElem?_toArray, List.getElem?_cons_succ, List.getElem?_cons_zero] at c0 c6
   clear hb4
   by_cases hk2 : e.kind = 2
   ·have hki : (e.kind == 2) = true := beq_iff_eq.2 hk2
    rw [FR.out hk2] at HS4 ⊢
    simp only [] at HS4
    have hlk := (om_num HS4.out.ms lawS uMS uU64 (zU64 _) (skey_of Hser.out)).1
    generalize numAt .u64 st.DS (skey e.ser) = nn at *
    have HSn := Lib.hid (HS4.out.more (n' := 8 * (x + 1)) (by omega))
    clear HS4 FR FS
    go_wp2_with fail
    go_roundw
    case rel => exact ⟨x + 1, X4, st, Da, Db, by go_num, by omega, HSn, HO, HE4⟩
    case measure => simp [intOf] <;> omega
   ·have hki : (e.kind == 2) = false := beq_eq_false_iff_ne.2 hk2
    have FS1 := Lib.hid (FS.out hk2)
    have Hs1 := Lib.hid (Hseq.out hk2)
    clear FR FS Hseq
    generalize applyM st (pk e.ag e.sh) e = r1 at *
    obtain ⟨code, n, st1⟩ := r1
    simp only [] at HS4
    go_upto_region 14 with (fail)
    clear c0 c6
    have hcc : ∀ W, Keeps [bs, ba, bb] w4' W → W.cell? ⟨gE, 1, none⟩ = some (.int .i64 e.ag) ∧ W.cell? ⟨gE, 2, none⟩ = some (.int .i64 e.sh) ∧ W.cell? ⟨gE, 3, none⟩ = some (.int .i64 e.seq) := fun W hk => by
     have hb := hk.blk HB4.out (by have := HnE4.out; simp at this ⊢; exact ⟨this.1, this.2.1, this.2.2.1⟩)
     have c1 := hb.cell 1; have c2 := hb.cell 2; have c3 := hb.cell 3
     simp only [List.getElem?_toArray, List.getElem?_cons_succ, List.getElem?_cons_zero] at c1 c2 c3
     exact ⟨c1, c2, c3⟩
    have HCC := Lib.hid hcc
    clear hcc
    have Hik := Lib.hid (ik_of J.out.1 J.out.2.1 J.out.2.2.1)
    go_cut [53] (fun s wx => s = .int .i64 code ∧ w4' = wx)
    case first =>
     go_wp2_with fail
     go_meet
     exact ⟨rfl, rfl⟩
    obtain ⟨hs53, hw53⟩ := hcut
    subst hs53 hw53
    go_step
    go_cut [] (fun wx => Hid (OnCut w w4' wx g bs ba bb X4 st1 (8 * x + 5) (x + 1) mx))
    case first =>
     obtain ⟨c1, c2, c3⟩ := HCC.out _ (Keeps.refl _ _)
     have hlA := (om_num HS4.out.ma lawK uMK uInt (zInt _) Hik.out).1
     have hlB := (om_num HS4.out.mb lawK uMK uInt (zInt _) Hik.out).1
     rcases FS1.out with ⟨hcd, fa, fb, fo, fd, fm, _⟩ | ⟨hcd, fa, fo, fd, _⟩ | ⟨hcd, fa, fo, fd, _⟩ | ⟨hcd, fa, fb, fo, fd, _⟩
     ·simp only [] at hcd fa fb fo fd fm
      subst hcd
      rw [fa] at hlA
      rw [fb] at hlB
      have Fo := Lib.hid fo; have Fd := Lib.hid fd
      have Ff := Lib.hid (fits_may fm HS4.out.ms.isMap)
      have Hfa := Lib.hid fa
      clear fo fd fm fb fa FS1
      go_upto_region 20 with (fail)
      clear c1 c2 c3 hlA hlB
      have Hma := Lib.hid (HS4.out.ma.drew)
      obtain ⟨st9, w8, hme, hk8, hl8, hst8⟩ := om_entry Hma.out klK uMK uInt zInt (by unfold maxLen; omega) Hik.out
      have hlA := (om_num Hma.out lawK uMK uInt (zInt _) Hik.out).1
      rw [Hfa.out] at hme hl8 hlA
      obtain ⟨w9, hes, hown9, hk9⟩ := hst8 w8 rfl 1 one_wf
      have hw1 : IntKind.i64.wrap 1 = 1 := by decide
      have HkA : Hid (Keeps [ba] w4' w9) := ((Keeps.refl _ _).drew.trans hk8 (by simp)).trans hk9 (by simp)
      have HkB : Hid (Keeps [ba] w4' w8) := (Keeps.refl _ _).drew.trans hk8 (by simp)
      have HSq : Hid (∀ W, Keeps [ba] w4' W → W.cell? ⟨gE, 1, none⟩ = some (.int .i64 e.ag) ∧ W.cell? ⟨gE, 2, none⟩ = some (.int .i64 e.sh) ∧ W.cell? ⟨gE, 3, none⟩ = some (.int .i64 e.seq)) := fun W hk => HCC.out W (hk.mono (by simp))
      have HS9 := Lib.hid (HS4.out.setA HkA.out hown9)
      clear hst8 hown9 hk9 hk8
      go_cut [] (fun wx => Hid (OnSt w wx g bs ba bb X4 st1 st.DS (Da.put (ik e.ag e.sh e.seq) (.lit (.int .i64 1))) Db (8 * x + 1) (x + 1) mx ∧ Keeps [ba] w4' wx))
      case first =>
       refine wp_region_held_drew (S := (fun W => W.cell? ⟨gE, 1, none⟩ = some (.int .i64 e.ag) ∧ W.cell? ⟨gE, 2, none⟩ = some (.int .i64 e.sh) ∧ W.cell? ⟨gE, 3, none⟩ = some (.int .i64 e.seq))) (by kernel_rfl) (HSq.out _ (Keeps.refl _ _).drew) (fun hHeld => ?_)
       refine wpAnyH_take (i := 0) (oi := _) (v := ?v0q) rfl (by kernel_rfl) (by kernel_rfl) (by kernel_rfl) (fun _ _ _ h => h) (Or.inl ⟨by rfl, ?y0q⟩) (by assumption) ?r0q
       case y0q => (intro w hSw; (obtain ⟨hS0, hS1, hS2⟩ := hSw); go_simp <;> with_reducible rfl)
       try simp only [List.getElem_toArray, List.getElem_cons_succ, List.getElem_cons_zero, Act.put, List.setIfInBounds_toArray, List.set_cons_zero, List.set_cons_succ]
       refine wpAnyH_take (i := 1) (oi := _) (v := ?v1q) rfl (by kernel_rfl) (by kernel_rfl) (by kernel_rfl) (fun _ _ _ h => h) (Or.inl ⟨by rfl, ?y1q⟩) (by assumption) ?r1q
       case y1q => (intro w hSw; (obtain ⟨hS0, hS1, hS2⟩ := hSw); go_simp <;> with_reducible rfl)
       try simp only [List.getElem_toArray, List.getElem_cons_succ, List.getElem_cons_zero, Act.put, List.setIfInBounds_toArray, List.set_cons_zero, List.set_cons_succ]
       refine wpAnyH_take (i := 2) (oi := _) (v := ?v2q) rfl (by kernel_rfl) (by kernel_rfl) (by kernel_rfl) (fun _ _ _ h => h) (Or.inl ⟨by rfl, ?y2q⟩) (by assumption) ?r2q
       case y2q => (intro w hSw; (obtain ⟨hS0, hS1, hS2⟩ := hSw); go_simp <;> with_reducible rfl)
       try simp only [List.getElem_toArray, List.getElem_cons_succ, List.getElem_cons_zero, Act.put, List.setIfInBounds_toArray, List.set_cons_zero, List.set_cons_succ]
       refine wpAnyH_ready (rs := [3, 5]) (by kernel_rfl) (by simp) ?_
       refine AllReadyH.cons (o := _) rfl (fun K hK => ?_) (AllReadyH.cons (o := _) rfl (fun K hK => ?_) AllReadyH.nil)
       ·go_simp
        refine hK.out _ _ (HSq.out _ (Keeps.refl _ _).drew) (fun hHeld2 => ?_)
        clear hK K hHeld
        have hHeld := hHeld2
        clear hHeld2
        try simp only [List.getElem_toArray, List.getElem_cons_succ, List.getElem_cons_zero, Act.put, List.setIfInBounds_toArray, List.set_cons_zero, List.set_cons_succ]
        refine wpAnyH_take (i := 4) (oi := _) (v := ?v4a) rfl (by kernel_rfl) (by kernel_rfl) (by kernel_rfl) (fun _ _ _ h => h) (Or.inl ⟨by rfl, ?y4a⟩) (by assumption) ?r4a
        case y4a => (intro w hSw; (obtain ⟨hS0, hS1, hS2⟩ := hSw); go_simp <;> with_reducible rfl)
        try simp only [List.getElem_toArray, List.getElem_cons_succ, List.getElem_cons_zero, Act.put, List.setIfInBounds_toArray, List.set_cons_zero, List.set_cons_succ]
        refine wpAnyH_ready (rs := [5]) (by kernel_rfl) (by simp) ?_
        refine AllReadyH.cons (o := _) rfl (fun K hK => ?_) AllReadyH.nil
        go_simp
        refine hK.out _ _ (HSq.out _ HkB.out) (fun hHeld2 => ?_)
        clear hK K hHeld
        have hHeld := hHeld2
        clear hHeld2
        try simp only [List.getElem_toArray, List.getElem_cons_succ, List.getElem_cons_zero, Act.put, List.setIfInBounds_toArray, List.set_cons_zero, List.set_cons_succ]
        refine wpAnyH_take (i := 6) (oi := _) (v := ?v6a) rfl (by kernel_rfl) (by kernel_rfl) (by kernel_rfl) (fun _ _ _ h => h) (Or.inl ⟨by rfl, ?y6a⟩) (by assumption) ?r6a
        case y6a => (intro w hSw; (obtain ⟨hS0, hS1, hS2⟩ := hSw); go_simp <;> with_reducible rfl)
        try simp only [List.getElem_toArray, List.getElem_cons_succ, List.getElem_cons_zero, Act.put, List.setIfInBounds_toArray, List.set_cons_zero, List.set_cons_succ]
        refine wpAnyH_ready (rs := [7]) (by kernel_rfl) (by simp) ?_
        refine AllReadyH.cons (o := _) rfl (fun K hK => ?_) AllReadyH.nil
        go_simp
        refine hK.out _ _ (HSq.out _ HkA.out) (fun hHeld2 => ?_)
        clear hK K hHeld
        have hHeld := hHeld2
        clear hHeld2
        try simp only [List.getElem_toArray, List.getElem_cons_succ, List.getElem_cons_zero, Act.put, List.setIfInBounds_toArray, List.set_cons_zero, List.set_cons_succ]
        refine wpAnyH_done (by kernel_rfl) ?_ _
        clear hme hl8 hlA hes
        go_wp2_with fail
        go_meet
        exact ⟨HS9.out, HkA.out⟩
       ·go_simp
        refine hK.out _ _ (HSq.out _ HkB.out) (fun hHeld2 => ?_)
        clear hK K hHeld
        have hHeld := hHeld2
        clear hHeld2
        try simp only [List.getElem_toArray, List.getElem_cons_succ, List.getElem_cons_zero, Act.put, List.setIfInBounds_toArray, List.set_cons_zero, List.set_cons_succ]
        refine wpAnyH_take (i := 6) (oi := _) (v := ?v6b) rfl (by kernel_rfl) (by kernel_rfl) (by kernel_rfl) (fun _ _ _ h => h) (Or.inl ⟨by rfl, ?y6b⟩) (by assumption) ?r6b
        case y6b => (intro w hSw; (obtain ⟨hS0, hS1, hS2⟩ := hSw); go_simp <;> with_reducible rfl)
        try simp only [List.getElem_toArray, List.getElem_cons_succ, List.getElem_cons_zero, Act.put, List.setIfInBounds_toArray, List.set_cons_zero, List.set_cons_succ]
        refine wpAnyH_ready (rs := [3]) (by kernel_rfl) (by simp) ?_
        refine AllReadyH.cons (o := _) rfl (fun K hK => ?_) AllReadyH.nil
        go_simp
        refine hK.out _ _ (HSq.out _ HkB.out) (fun hHeld2 => ?_)
        clear hK K hHeld
        have hHeld := hHeld2
        clear hHeld2
        try simp only [List.getElem_toArray, List.getElem_cons_succ, List.getElem_cons_zero, Act.put, List.setIfInBounds_toArray, List.set_cons_zero, List.set_cons_succ]
        refine wpAnyH_take (i := 4) (oi := _) (v := ?v4b) rfl (by kernel_rfl) (by kernel_rfl) (by kernel_rfl) (fun _ _ _ h => h) (Or.inl ⟨by rfl, ?y4b⟩) (by assumption) ?r4b
        case y4b => (intro w hSw; (obtain ⟨hS0, hS1, hS2⟩ := hSw); go_simp <;> with_reducible rfl)
        try simp only [List.getElem_toArray, List.getElem_cons_succ, List.getElem_cons_zero, Act.put, List.setIfInBounds_toArray, List.set_cons_zero, List.set_cons_succ]
        refine wpAnyH_ready (rs := [7]) (by kernel_rfl) (by simp) ?_
        refine AllReadyH.cons (o := _) rfl (fun K hK => ?_) AllReadyH.nil
        go_simp
        refine hK.out _ _ (HSq.out _ HkA.out) (fun hHeld2 => ?_)
        clear hK K hHeld
        have hHeld := hHeld2
        clear hHeld2
        try simp only [List.getElem_toArray, List.getElem_cons_succ, List.getElem_cons_zero, Act.put, List.setIfInBounds_toArray, List.set_cons_zero, List.set_cons_succ]
        refine wpAnyH_done (by kernel_rfl) ?_ _
        clear hme hl8 hlA hes
        go_wp2_with fail
        go_meet
        exact ⟨HS9.out, HkA.out⟩
      case rest =>
       obtain ⟨hS10, hk10⟩ := hcut.out
       have HS10 := Lib.hid hS10; have HK10 := Lib.hid hk10
       have HDs10 : Hid (Ds wc [bs] (.slice Ad e.ds.length cd) e.ds) := ((HDs4.out.keep hk10 (fun _ hg => .inl (by simp at hg; simp [hg]))).avoid (fun _ hg => .inl (by simp at hg; simp [hg])))
       have hb10 := hk10.blk HB4.out (by have := HnE4.out; simp at this ⊢; exact this.2.1)
       have c5 := hb10.cell 5
       simp only [List.getElem?_toArray, List.getElem?_cons_succ, List.getElem?_cons_zero] at c5
       clear hcut hS10 hk10 hb10 HS4 HSq Hma HkA HkB HS9
       have HJ : Hid (∀ d ∈ e.ds, DOk d) := J.out.2.2.2.2.1
       have hd4 : e.ds.length ≤ 4 := J.out.2.2.2.2.2.2
       have HD4 := Lib.hid hd4
       generalize e.ds = ds at *
       go_wp2_with fail
       go_loopw [90] (fun i wr => ∃ (y : Nat) (Dx : DataW Unit), i = .int .i64 y ∧ y ≤ ds.length ∧ Hid (OnSt w wr g bs ba bb X4 st1 Dx (Da.put (ik e.ag e.sh e.seq) (.lit (.int .i64 1))) Db (8 * x + 1 + y) (x + 1) mx) ∧ Hid (addL st.DS ds = addL Dx (ds.drop y)) ∧ Hid (fitsL Dx (ds.drop y)) ∧ Hid (Keeps [bs] wc wr)) (fun i _ => ds.length - (intOf i).toNat)
       case atStart => exact ⟨0, st.DS, rfl, by omega, HS10, rfl, Ff, Keeps.refl _ _⟩
       case round =>
        obtain ⟨y, Dx, rfl, hy, HSy, Hadd, Hfit, Hky⟩ := hrel
        clear HS10 Ff
        by_cases hyl : y < ds.length
        ·have hy1 : (y : Int) < (ds.length : Int) := by omega
         obtain ⟨g3, off3, _, e3, _, hg3, _, hcell⟩ := Rd.at_ dCell 2 (fun _ => rfl) (HDs10.out.keep Hky.out (by simp)) hyl
         obtain rfl : Ad = some ⟨g3, off3, none⟩ := by injection e3
         clear e3
         have p0 := hcell 0 _ rfl
         have p1 := hcell 1 _ rfl
         rw [Nat.add_zero] at p0
         obtain ⟨hn0, hn1, hns⟩ := HJ.out ds[y] (List.getElem_mem _)
         have hM0 := Hadd.out
         have hF0 := Hfit.out
         rw [← List.getElem_cons_drop hyl] at hM0 hF0
         rw [addL_cons] at hM0
         clear hcell Hadd Hfit
         generalize ds[y] = d at *
         obtain ⟨ser, nd⟩ := d
         obtain ⟨hf1, hf2⟩ := hF0
         simp only [] at p0 p1 hn0 hn1 hns hM0 hf1 hf2
         obtain ⟨hc0, hc1⟩ := om_bd HSy.out.ms hns
         have hz : addZ (numAt .u64 Dx (skey ser)) nd = numAt .u64 Dx (skey ser) + nd := by unfold addZ; rw [if_neg (by omega)]
         rw [hz] at hM0 hf2
         have HM1 := Lib.hid hM0; have HF1 := Lib.hid hf2
         have hBx := Blk.new wr 38 #[.string ser, .int .u64 nd]
         have hkd : Keeps [] wr (wr.alloc (.cells #[.string ser, .int .u64 nd] 38)) := (Keeps.refl _ _).alloc _
         have HSd := Lib.hid (HSy.out.keep hkd)
         have HKd : Hid (Keeps [bs] wc (wr.alloc (.cells #[.string ser, .int .u64 nd] 38))) := Hky.out.trans hkd (by simp)
         have d0 := hBx.cell 0; have d1 := hBx.cell 1
         simp only [List.getElem?_toArray, List.getElem?_cons_succ, List.getElem?_cons_zero] at d0 d1
         clear hBx hkd HSy hz
         go_upto_region 24 with (fail)
         clear p0 p1
         generalize wr.alloc (.cells #[.string ser, .int .u64 nd] 38) = wd at *
         generalize wr.heap.size = g7 at *
         have hlk := (om_num HSd.out.ms lawS uMS uU64 (zU64 _) (skey_of hns)).1
         have hw3 : IntKind.u64.wrap (numAt .u64 Dx (skey ser) + nd) = numAt .u64 Dx (skey ser) + nd := by rw [IntKind.wrap_u64]; omega
         obtain ⟨we, hupd, howne, hturn⟩ := HSd.out.ms.store lawS uMS (by have := HD4.out; have := HLen.out; unfold maxLen; omega) (skey_of hns) (plainElem_int uU64 (WalkArith.wf_u64 ⟨by omega, by omega⟩) : plainElem (H := Unit) Tryz.prog 34 (.int .u64 (numAt .u64 Dx (skey ser) + nd)) = _)
         have hke := turned_keeps hturn
         have HSe := Lib.hid (HSd.out.setS hke howne)
         have HKe : Hid (Keeps [bs] wc we) := HKd.out.trans hke (by simp)
         clear howne hturn hke HSd HKd
         generalize numAt .u64 Dx (skey ser) = cN at *
         go_wp2_with fail
         go_roundw
         case rel => exact ⟨y + 1, _, by go_num, by omega, HSe, HM1, HF1, HKe⟩
         case measure => simp [intOf] <;> omega
        ·obtain rfl : y = ds.length := by omega
         have hadd := Hadd.out
         rw [List.drop_length] at hadd
         have HCut : Hid (OnCut w w4' wr g bs ba bb X4 st1 (8 * x + 5) (x + 1) mx) := OnCut.mk' HSy.out (by rw [Fd.out, hadd]; rfl) Fo.out (((HK10.out.mono (fun _ h => by simp at h; simp [h]) : Keeps [bs, ba, bb] w4' wc)).trans Hky.out (fun _ h => .inl (by simp at h; simp [h]))) (by have := HD4.out; omega)
         clear hadd
         go_wp2_with fail
         go_meet
         exact HCut
     ·simp only [] at hcd fa fo fd
      subst hcd
      rw [fa] at hlA
      have HCut : Hid (OnCut w w4' w4' g bs ba bb X4 st1 (8 * x + 5) (x + 1) mx) := OnCut.mk' HS4.out fd fo (Keeps.refl _ _) (by omega)
      clear fa fo fd FS1 HS4 hlB
      go_wp2_with fail
      go_meet
      exact HCut
     ·simp only [] at hcd fa fo fd
      subst hcd
      rw [fa] at hlA
      obtain ⟨w9, hupd, hown9, hturn⟩ := HS4.out.mb.store lawK uMK (by have := HLen.out; unfold maxLen; omega) Hik.out (plainElem_int uInt one_wf : plainElem (H := Unit) Tryz.prog 3 (.int .i64 1) = _)
      have hk9 := turned_keeps hturn
      have HCut : Hid (OnCut w w4' w9 g bs ba bb X4 st1 (8 * x + 5) (x + 1) mx) := OnCut.mk' (HS4.out.setB hk9 hown9) fd fo (hk9.mono (by simp)) (by omega)
      clear fa fo fd FS1 HS4 hlB hown9 hturn hk9
      go_wp2_with fail
      go_meet
      exact HCut
     ·simp only [] at hcd fa fb fo fd
      rw [fa] at hlA
      rw [fb] at hlB
      have HCut : Hid (OnCut w w4' w4' g bs ba bb X4 st1 (8 * x + 5) (x + 1) mx) := OnCut.mk' HS4.out fd fo (Keeps.refl _ _) (by omega)
      clear fa fb fo fd FS1 HS4
      rcases hcd with hcd | hcd
      ·subst hcd
       go_wp2_with fail
       go_meet
       exact HCut
      ·subst hcd
       go_wp2_with fail
       go_meet
       exact HCut
    case rest =>
     obtain ⟨Da2, Db2, hSc, hOc, hkc⟩ := hcut.out
     have HSc := Lib.hid hSc; have HOc := Lib.hid hOc
     have HBc := Lib.hid (hkc.blk HB4.out (by have := HnE4.out; simp at this ⊢; exact ⟨this.1, this.2.1, this.2.2.1⟩))
     have HEc := Lib.hid (HE4.out.keep hkc (fun _ hg => .inl (by simp at hg ⊢; rcases hg with h | h | h <;> simp [h])))
     have HHas := Lib.hid (fun W (hk : Keeps [] wc W) => (HSc.out.keep hk).has J.out.1 J.out.2.1 J.out.2.2.1.2)
     have hhs := has_of hOc J.out.1 J.out.2.1 Hs1.out J.out.2.2.1.2
     have hrun : ∀ W, Keeps [] wc W → (Instr.lookup 26 (.map (some ba)) (.agg #[.int .i64 e.ag, .int .i64 e.sh, .int .i64 e.seq]) false).run Tryz.prog W = .ok (.int .i64 (numAt .i64 Da2 (ik e.ag e.sh e.seq))) W := fun W hk => (om_num (HSc.out.keep hk).ma lawK uMK uInt (zInt _) Hik.out).1
     clear hcut hSc hOc hkc HS4 HB4 HE4 HDs4 FS1 HCC
     generalize numAt .i64 Da2 (ik e.ag e.sh e.seq) = na at *
     have HSB : Hid (∀ W, Keeps [] wc W → W.cell? ⟨gE, 1, none⟩ = some (.int .i64 e.ag) ∧ W.cell? ⟨gE, 2, none⟩ = some (.int .i64 e.sh) ∧ W.cell? ⟨gE, 3, none⟩ = some (.int .i64 e.seq) ∧ (Instr.lookup 26 (.map (some ba)) (.agg #[.int .i64 e.ag, .int .i64 e.sh, .int .i64 e.seq]) false).run Tryz.prog W = .ok (.int .i64 na) W) := fun W hk => by
      have hb := hk.blk HBc.out (by simp)
      have c1 := hb.cell 1; have c2 := hb.cell 2; have c3 := hb.cell 3
      simp only [List.getElem?_toArray, List.getElem?_cons_succ, List.getElem?_cons_zero] at c1 c2 c3
      exact ⟨c1, c2, c3, hrun W hk⟩
     clear hrun
     rw [hhs] at HHas
     clear hhs
     have hq : (!decide (na = 1) == (na == 1)) = false := by by_cases h : na = 1 <;> simp [h]
     go_wp2_with fail
     refine wp_region_held_drew (S := (fun W => W.cell? ⟨gE, 1, none⟩ = some (.int .i64 e.ag) ∧ W.cell? ⟨gE, 2, none⟩ = some (.int .i64 e.sh) ∧ W.cell? ⟨gE, 3, none⟩ = some (.int .i64 e.seq) ∧ (Instr.lookup 26 (.map (some ba)) (.agg #[.int .i64 e.ag, .int .i64 e.sh, .int .i64 e.seq]) false).run Tryz.prog W = .ok (.int .i64 na) W)) (by kernel_rfl) (HSB.out _ (Keeps.refl _ _).drew) (fun hHeld => ?_)
     refine wpAnyH_take (i := 0) (oi := _) (v := ?v0z) rfl (by kernel_rfl) (by kernel_rfl) (by kernel_rfl) (fun _ _ _ h => h) (Or.inl ⟨by rfl, ?y0z⟩) (by assumption) ?r0z
     case y0z => (intro w hSw; (obtain ⟨hS0, hS1, hS2, hS3⟩ := hSw); go_simp <;> with_reducible rfl)
     try simp only [List.getElem_toArray, List.getElem_cons_succ, List.getElem_cons_zero, Act.put, List.setIfInBounds_toArray, List.set_cons_zero, List.set_cons_succ]
     refine wpAnyH_take (i := 1) (oi := _) (v := ?v1z) rfl (by kernel_rfl) (by kernel_rfl) (by kernel_rfl) (fun _ _ _ h => h) (Or.inl ⟨by rfl, ?y1z⟩) (by assumption) ?r1z
     case y1z => (intro w hSw; (obtain ⟨hS0, hS1, hS2, hS3⟩ := hSw); go_simp <;> with_reducible rfl)
     try simp only [List.getElem_toArray, List.getElem_cons_succ, List.getElem_cons_zero, Act.put, List.setIfInBounds_toArray, List.set_cons_zero, List.set_cons_succ]
     refine wpAnyH_take (i := 2) (oi := _) (v := ?v2z) rfl (by kernel_rfl) (by kernel_rfl) (by kernel_rfl) (fun _ _ _ h => h) (Or.inl ⟨by rfl, ?y2z⟩) (by assumption) ?r2z
     case y2z => (intro w hSw; (obtain ⟨hS0, hS1, hS2, hS3⟩ := hSw); go_simp <;> with_reducible rfl)
     try simp only [List.getElem_toArray, List.getElem_cons_succ, List.getElem_cons_zero, Act.put, List.setIfInBounds_toArray, List.set_cons_zero, List.set_cons_succ]
     refine wpAnyH_take (i := 4) (oi := _) (v := ?v4z) rfl (by kernel_rfl) (by kernel_rfl) (by kernel_rfl) (fun _ _ _ h => h) (Or.inl ⟨by rfl, ?y4z⟩) (by assumption) ?r4z
     case y4z => (intro w hSw; (obtain ⟨hS0, hS1, hS2, hS3⟩ := hSw); go_simp <;> with_reducible rfl)
     try simp only [List.getElem_toArray, List.getElem_cons_succ, List.getElem_cons_zero, Act.put, List.setIfInBounds_toArray, List.set_cons_zero, List.set_cons_succ]
     refine wpAnyH_take (i := 5) (oi := _) (v := ?v5z) rfl (by kernel_rfl) (by kernel_rfl) (by kernel_rfl) (fun _ _ _ h => h) (Or.inl ⟨by rfl, ?y5z⟩) (by assumption) ?r5z
     case y5z => (intro w hSw; (obtain ⟨hS0, hS1, hS2, hS3⟩ := hSw); go_simp <;> with_reducible rfl)
     try simp only [List.getElem_toArray, List.getElem_cons_succ, List.getElem_cons_zero, Act.put, List.setIfInBounds_toArray, List.set_cons_zero, List.set_cons_succ]
     refine wpAnyH_take (i := 6) (oi := _) (v := ?v6z) rfl (by kernel_rfl) (by kernel_rfl) (by kernel_rfl) (fun _ _ _ h => h) (Or.inl ⟨by rfl, ?y6z⟩) (by assumption) ?r6z
     case y6z => (intro w hSw; (obtain ⟨hS0, hS1, hS2, hS3⟩ := hSw); go_simp <;> with_reducible rfl)
     try simp only [List.getElem_toArray, List.getElem_cons_succ, List.getElem_cons_zero, Act.put, List.setIfInBounds_toArray, List.set_cons_zero, List.set_cons_succ]
     refine wpAnyH_take (i := 7) (oi := _) (v := ?v7z) rfl (by kernel_rfl) (by kernel_rfl) (by kernel_rfl) (fun _ _ _ h => h) (Or.inl ⟨by rfl, ?y7z⟩) (by assumption) ?r7z
     case y7z => (intro w hSw; (obtain ⟨hS0, hS1, hS2, hS3⟩ := hSw); go_simp <;> with_reducible rfl)
     try simp only [List.getElem_toArray, List.getElem_cons_succ, List.getElem_cons_zero, Act.put, List.setIfInBounds_toArray, List.set_cons_zero, List.set_cons_succ]
     refine wpAnyH_take (i := 8) (oi := _) (v := ?v8z) rfl (by kernel_rfl) (by kernel_rfl) (by kernel_rfl) (fun _ _ _ h => h) (Or.inl ⟨by rfl, ?y8z⟩) (by assumption) ?r8z
     case y8z => (intro w hSw; (obtain ⟨hS0, hS1, hS2, hS3⟩ := hSw); go_simp <;> with_reducible rfl)
     try simp only [List.getElem_toArray, List.getElem_cons_succ, List.getElem_cons_zero, Act.put, List.setIfInBounds_toArray, List.set_cons_zero, List.set_cons_succ]
     refine wpAnyH_ready (rs := [3]) (by kernel_rfl) (by simp) ?_
     refine AllReadyH.cons (o := _) rfl (fun K hK => ?_) AllReadyH.nil
     go_simp
     refine (HHas.out _ (Keeps.refl _ _).drew).mono ?_
     rintro e w7' ⟨rfl, hk7⟩
     have HK7 : Hid (Keeps [] wc w7') := (Keeps.refl _ _).drew.trans hk7 (by simp)
     clear hk7
     refine hK.out _ _ (HSB.out _ HK7.out) (fun hHeld2 => ?_)
     clear hK K hHeld
     have hHeld := hHeld2
     clear hHeld2
     try simp only [List.getElem_toArray, List.getElem_cons_succ, List.getElem_cons_zero, Act.put, List.setIfInBounds_toArray, List.set_cons_zero, List.set_cons_succ]
     refine wpAnyH_take (i := 9) (oi := _) (v := ?v9z) rfl (by kernel_rfl) (by kernel_rfl) (by kernel_rfl) (fun _ _ _ h => h) (Or.inl ⟨by rfl, ?y9z⟩) (by assumption) ?r9z
     case y9z => (intro w hSw; (obtain ⟨hS0, hS1, hS2, hS3⟩ := hSw); go_simp <;> with_reducible rfl)
     try simp only [List.getElem_toArray, List.getElem_cons_succ, List.getElem_cons_zero, Act.put, List.setIfInBounds_toArray, List.set_cons_zero, List.set_cons_succ]
     refine wpAnyH_done (by kernel_rfl) ?_ _
     have HSn : Hid (OnSt w w7' g bs ba bb X4 st1 st1.DS Da2 Db2 (8 * (x + 1)) (x + 1) mx) := (HSc.out.keep HK7.out).more (by omega)
     have HEn : Hid (Ens w7' (bs :: ba :: bb :: X4) (.slice (some ⟨ge, off, none⟩) es.length ce) es) := HEc.out.keep HK7.out (by simp)
     clear HSB HHas HSc HEc HBc HK7
     go_wp2_with fail
     go_roundw
     case rel => exact ⟨x + 1, X4, st1, Da2, Db2, by go_num, by omega, HSn, HOc, HEn⟩
     case measure => simp [intOf] <;> omega
  ·obtain rfl : x = es.length := by omega
   have h12 := HS.out.rn.rd.keys.size HS.out.rn.rd.names
   have HRd := Lib.hid HS.out.rn.rd
   go_wp2_with fail
   refine HS.out.rn.sums.mono ?_
   rintro r w3 ⟨v3, l3, rfl, ha3, hl3, hd3, hk3⟩
   have HD3 := Lib.hid (hd3 X HS.out.rn.lt)
   obtain ⟨A3, c3, rfl, _⟩ := HD3.out.len
   have Ha3 := Lib.hid ha3
   have HS3 := Lib.hid (HS.out.keep hk3)
   have hll := isAll_len ha3 HRd.out.keys HRd.out.names
   have Hll := Lib.hid hll
   clear ha3 hd3 hk3 HS HEn hll HO
   go_wp2_with fail
   go_loopw [137] (fun i wr => ∃ (y : Nat), i = .int .i64 y ∧ y ≤ l3.length ∧ Hid (Keeps [] w3 wr)) (fun i _ => l3.length - (intOf i).toNat)
   case atStart => exact ⟨0, rfl, by omega, Keeps.refl _ _⟩
   case round =>
    obtain ⟨y, rfl, hy, Hky⟩ := hrel
    by_cases hyl : y < l3.length
    ·have hy1 : (y : Int) < (l3.length : Int) := by omega
     obtain ⟨g3, off3, _, e3, _, hg3, _, hcell⟩ := Rd.at_ dCell 2 (fun _ => rfl) (HD3.out.keep Hky.out (by simp)) hyl
     obtain rfl : A3 = some ⟨g3, off3, none⟩ := by injection e3
     clear e3
     have p0 := hcell 0 _ rfl
     have p1 := hcell 1 _ rfl
     rw [Nat.add_zero] at p0
     have hdn := ((Ha3.out.2 l3[y]).1 (List.getElem_mem _))
     have hnm := name_ser' HRd.out.names hdn.1
     have hdn2 := hdn.2
     clear hcell hdn
     generalize l3[y] = d at *
     obtain ⟨ser, nd⟩ := d
     simp only [] at p0 p1 hdn2 hnm
     have hBx := Blk.new wr 38 #[.string ser, .int .u64 nd]
     have hkd : Keeps [] wr (wr.alloc (.cells #[.string ser, .int .u64 nd] 38)) := (Keeps.refl _ _).alloc _
     have HKd : Hid (Keeps [] w3 (wr.alloc (.cells #[.string ser, .int .u64 nd] 38))) := Hky.out.trans hkd (by simp)
     have hlk := (om_num (HS3.out.keep HKd.out).ms lawS uMS uU64 (zU64 _) (skey_of hnm)).1
     rw [← hdn2] at hlk
     have d0 := hBx.cell 0; have d1 := hBx.cell 1
     simp only [List.getElem?_toArray, List.getElem?_cons_succ, List.getElem?_cons_zero] at d0 d1
     clear hBx hkd hdn2 hnm
     go_upto_region 40 with (fail)
     clear p0 p1
     generalize wr.alloc (.cells #[.string ser, .int .u64 nd] 38) = wd at *
     generalize wr.heap.size = g7 at *
     go_wp2_with fail
     go_roundw
     case rel => exact ⟨y + 1, by go_num, by omega, HKd⟩
     case measure => simp [intOf] <;> omega
    ·obtain rfl : y = l3.length := by omega
     have HSf := Lib.hid (HS3.out.keep Hky.out)
     have hln := fun ty => HSf.out.ms.len uMS ty
     rw [← Hll.out] at hln
     have Hk := Lib.hid HSf.out.rn.kp
     clear HS3 Hky
     go_wp2_with fail
     refine (mknown_any mx wr (Hm.out wr Hk.out)).mono ?_
     rintro r w5 ⟨rfl, hk5⟩
     have hP : Hid (SamePost true w (.returned (.bool true)) w5) := ⟨rfl, (Hk.out.trans hk5 (by simp)).below⟩
     clear hk5 hln
     go_wp2
     go_ret
     exact hP.out
end Go.Proofs.YtgdooockldgdlaaGreatDoor.Vi
end
