/- Texts put together: McH, Kn13, Kn13b, TNum0, RSame, MfN. -/
import Derived.Test.YtinnifhnabncfaaGreatDoorMF3
import Derived.Test.YtinnifhnabncfaaGreatDoorMF4
set_option linter.unusedVariables false
set_option linter.unusedSimpArgs false
section
namespace Go.Proofs.YtinnifhnabncfaaGreatDoor.Vi
open Go.RowKit Base Mem Tape
theorem McAt.more {w : World} {g : Nat} {X : List Nat} {st : McD} {N N' : Nat} (h : McAt w g X st N) (hN : N ≤ N') : McAt w g X st N' := by
 obtain ⟨c, DH, h⟩ := h
 exact ⟨c, DH, h.more hN⟩
def ApA (g : Nat) (X : List Nat) (r : Int × Int × McD) (N' : Nat) (w : World) (e : Ending) (w' : World) : Prop :=
 e = .returned (.tuple #[.int .i64 r.1, .int .u64 r.2.1]) ∧ ∃ X', McAt w' g X' r.2.2 N' ∧ (∀ x ∈ X', x < w'.heap.size) ∧ (∀ x ∈ X', x ∈ X ∨ w.heap.size ≤ x) ∧ Keeps X w w'
theorem mcapply_at (g : Nat) (X : List Nat) (st : McD) (N N' : Nat) (e : EntryD) (dv : Value) (mx : Int) (w : World) (h : McAt w g X st N) (hX : ∀ x ∈ X, x < w.heap.size) (hmay : mayS st.DS e.ds = 0) (hf : (st.get (pk e.ag e.sh)).f ≤ 4611686018427387000)
  (ha : I64 e.ag) (hs : I64 e.sh) (hq : I64 e.seq) (hp : I64 e.ep) (hd : Ds w X dv e.ds) (hok : ∀ d ∈ e.ds, DOk d) (hl : e.ds.length ≤ 1000000) (hsh : Short e) (hN : N ≤ 1000000000) (hN' : N + e.ds.length + 2 ≤ N') (hm : w.cell? ⟨0, 0, none⟩ = some (.int .i64 mx)) :
  Calls Tryz.prog 56 #[.pointer (some ⟨g, 0, none⟩), .agg (eCell (e, dv)).toArray] w fun r w' => ApA g X (applyM st (pk e.ag e.sh) e) N' w r w' := by
 obtain ⟨c, DH, h⟩ := h
 refine (mcapply_any g c X st N DH e dv mx w h (fun _ _ hsn hfr W p F hin hsh' hsome hnone hd' => mcount_ok g c X (stE st e) (N + 1) DH p F e dv W hin hsh' hsome hnone ha hs hq.2 hd' hok (by omega) (by omega) hmay hsn hfr hf) ha hs hq hp hd hsh (by omega) hX hm).mono ?_
 rintro r w' ⟨h1, X', h2, h3, h4⟩
 refine ⟨h1, X', h2.more hN', fun x hx => ?_, fun x hx => (h3 x hx).imp id (·.1), h4⟩
 rcases h3 x hx with h5 | h5
 ·exact Nat.lt_of_lt_of_le (hX x h5) h4.size
 ·exact h5.2
theorem apply_dup {st : McD} {kl : Lit} {e : EntryD} (hr : rightE e = 0) (hk : e.kind ≠ 2) (hs : (st.get kl).seen e.seq = true) (hb : (st.get kl).bad = []) : applyM st kl e = (2, 0, st) := by
 unfold applyM
 rw [if_pos hr, if_neg hk, if_pos hs, hb]
 rfl
theorem apply_read {st : McD} {kl : Lit} {e : EntryD} (hr : rightE e = 0) (hk : e.kind = 2) : applyM st kl e = (8, numAt .u64 st.DS (skey e.ser), st) := by
 unfold applyM
 rw [if_pos hr, if_pos hk]
theorem apply_wrong {st : McD} {kl : Lit} {e : EntryD} (hr : rightE e ≠ 0) : applyM st kl e = (0, 0, st) := by
 unfold applyM
 rw [if_neg hr]
def kA : ByteArray := { data := #[97, 61, 49] }
theorem kA_ok : NameOk kA := ⟨[97, 61, 49], by simp [nameL], rfl⟩
noncomputable def kS : McD := fenceS 1 0 kA 2 5 (pk 1 0) mc0
theorem kS_ok : FenceOk 1 1 2 (pk 1 0) kS := (fence_next (fence_start 1 (pk 1 0)) (by omega) kA_ok ⟨by omega, by omega⟩).1
theorem kS_seen : (kS.get (pk 1 0)).seen 1 = true := (fence_next (fence_start 1 (pk 1 0)) (by omega) kA_ok (n := 5) (p := 2) ⟨by omega, by omega⟩).2
theorem kS_sum : numAt .u64 kS.DS (skey kA) = 5 := by
 show numAt .u64 ((DataW.map [] : DataW Unit).put (skey kA) (.lit (.int .u64 (addZ (numAt .u64 (DataW.map [] : DataW Unit) (skey kA)) 5)))) (skey kA) = 5
 rw [numAt_same Maps.isMap_empty (skey_key _)]
 rfl
theorem kS_ep : numAt .i64 kS.DE (ekey (-1)) = 0 := by
 show numAt .i64 ((DataW.map [] : DataW Unit).put (ekey 1) (.lit (.int .i64 2))) (ekey (-1)) = 0
 rw [numAt_other (fun h => by unfold ekey at h; injection h with _ h; omega), numAt_empty]
theorem kS_f : (kS.get (pk 1 0)).f = 1 := by
 unfold kS fenceS
 rw [McD.get_set]
 show (Win.addW 0 0 (((0 : Nat) : Int) + 1)).1 = 1
 decide +kernel
/-- A machine, an entry's block and its deltas' block, unlike one another. -/
structure KSt (W : World) (g gE dB : Nat) (X : List Nat) (st : McD) (N : Nat) (ep seq : Int) (mx : Int) : Prop where
 mc : McAt W g X st N
 lt : ∀ x ∈ X, x < W.heap.size
 bE : Blk W gE 26 #[.int .i64 1, .int .i64 1, .int .i64 0, .int .i64 seq, .int .i64 ep, .slice (some ⟨dB, 0, none⟩) 1 1, .string ⟨#[]⟩, .int .i64 0, .int .i64 0]
 bD : Blk W dB 86 #[.string kA, .int .u64 5]
 nE : gE ∉ X
 nD : dB ∉ X
 ne : gE ≠ dB
 cm : W.cell? ⟨0, 0, none⟩ = some (.int .i64 mx)
 n0 : 0 ∉ X
 e0 : gE ≠ 0
theorem KSt.ds {W : World} {g gE dB : Nat} {X : List Nat} {st : McD} {N : Nat} {ep seq mx : Int} (h : KSt W g gE dB X st N ep seq mx) : Ds W X (.slice (some ⟨dB, 0, none⟩) 1 1) [⟨kA, 5⟩] :=
 ⟨_, _, rfl, Nat.le_refl _, rfl, fun _ => ⟨dB, 0, rfl, h.bD.lt, h.nD, fun j u hu => by
  rw [Nat.zero_add, h.bD.cell]
  simpa [dCells, dCell] using hu⟩⟩
theorem KSt.next {W W' : World} {g gE dB : Nat} {X X' : List Nat} {st st' : McD} {N N' : Nat} {ep seq mx : Int} (h : KSt W g gE dB X st N ep seq mx) (h1 : McAt W' g X' st' N') (h2 : ∀ x ∈ X', x < W'.heap.size) (h3 : ∀ x ∈ X', x ∈ X ∨ W.heap.size ≤ x) (h4 : Keeps X W W') : KSt W' g gE dB X' st' N' ep seq mx := by
 have l1 := h.bE.lt
 have l2 := h.bD.lt
 have l0 : 0 < W.heap.size := by
  have := World.block_lt_of_cell? W _ h.cm
  simpa using this
 have no : ∀ b, b < W.heap.size → b ∉ X → b ∉ X' := fun b hb hn hx => by
  rcases h3 b hx with h | h
  ·exact hn h
  ·omega
 exact ⟨h1, h2, h4.blk h.bE h.nE, h4.blk h.bD h.nD, no _ l1 h.nE, no _ l2 h.nD, h.ne, (h4.cell (p := ⟨0, 0, none⟩) l0 h.n0).trans h.cm, no _ l0 h.n0, h.e0⟩
theorem KSt.keep {W W' : World} {g gE dB : Nat} {X : List Nat} {st : McD} {N : Nat} {ep seq mx : Int} (h : KSt W g gE dB X st N ep seq mx) (h4 : Keeps [] W W') : KSt W' g gE dB X st N ep seq mx :=
 h.next (h.mc.keep h4 (by simp)) (fun x hx => Nat.lt_of_lt_of_le (h.lt x hx) h4.size) (fun x hx => .inl hx) (h4.mono (by simp))
def KnP (w : World) (e : Ending) (w' : World) : Prop := e = .returned (.bool true) ∧ Keeps [] w w'
def kE (i : Nat) (p : Int) : EntryD := fenceE 1 i kA p 5
theorem kE_short (i : Nat) (p : Int) : Short (kE i p) := ⟨by show ByteArray.empty.size < _; decide, by intro d hd; simp [kE, fenceE] at hd; subst hd; show kA.size < _; decide, by simp [kE, fenceE]⟩
theorem kE_ok (i : Nat) (p : Int) : ∀ d ∈ (kE i p).ds, DOk d := by
 intro d hd
 simp [kE, fenceE] at hd
 subst hd
 exact ⟨by show (0 : Int) ≤ 5; omega, by show (5 : Int) ≤ _; omega, by show kA.size ≤ _; decide⟩
theorem KSt.apply {W : World} {g gE dB : Nat} {X : List Nat} {st : McD} {N : Nat} {mx : Int} (i : Nat) (p : Int) (h : KSt W g gE dB X st N p ((i : Int) + 1) mx) (hi : i < 40) (hp : I64 p) (hN : N ≤ 1000) (hmay : mayS st.DS [⟨kA, 5⟩] = 0) (hf : (st.get (pk 1 0)).f ≤ 4611686018427387000) :
  Calls Tryz.prog 56 #[.pointer (some ⟨g, 0, none⟩), .agg #[.int .i64 1, .int .i64 1, .int .i64 0, .int .i64 ((i : Int) + 1), .int .i64 p, .slice (some ⟨dB, 0, none⟩) 1 1, .string ⟨#[]⟩, .int .i64 0, .int .i64 0]] W
   fun r w' => ∃ X', r = .returned (.tuple #[.int .i64 (applyM st (pk 1 0) (kE i p)).1, .int .u64 (applyM st (pk 1 0) (kE i p)).2.1]) ∧ KSt w' g gE dB X' (applyM st (pk 1 0) (kE i p)).2.2 (N + 3) p ((i : Int) + 1) mx ∧ (∀ x ∈ X', x ∈ X ∨ W.heap.size ≤ x) ∧ Keeps X W w' := by
 refine (mcapply_at g X st N (N + 3) (kE i p) (.slice (some ⟨dB, 0, none⟩) 1 1) mx W h.mc h.lt hmay hf ⟨by show _ ≤ (1 : Int); omega, by show (1 : Int) ≤ _; omega⟩ ⟨by show _ ≤ (0 : Int); omega, by show (0 : Int) ≤ _; omega⟩ ⟨by show _ ≤ ((i : Int) + 1); omega, by show ((i : Int) + 1) ≤ _; omega⟩ hp h.ds (kE_ok i p) (by simp [kE, fenceE]) (kE_short i p) (by omega) (by simp [kE, fenceE]) h.cm).mono ?_
 rintro r w' ⟨h1, X', h2, h3, h4, h5⟩
 exact ⟨X', h1, h.next h2 h3 h4 h5, h4, h5⟩
theorem KSt.other {W : World} {g gE dB : Nat} {X : List Nat} {st : McD} {N : Nat} {ep seq mx : Int} (h : KSt W g gE dB X st N ep seq mx) (k : Int) (ser : ByteArray) (hser : ser.size ≤ 100) (hN : N ≤ 1000) (hmay : mayS st.DS [] = 0) (hf : (st.get (pk 0 0)).f ≤ 4611686018427387000) :
  Calls Tryz.prog 56 #[.pointer (some ⟨g, 0, none⟩), .agg #[.int .i64 k, .int .i64 0, .int .i64 0, .int .i64 0, .int .i64 0, .slice none 0 0, .string ser, .int .i64 0, .int .i64 0]] W
   fun r w' => ∃ X', r = .returned (.tuple #[.int .i64 (applyM st (pk 0 0) ⟨k, 0, 0, 0, 0, [], ser, 0, 0⟩).1, .int .u64 (applyM st (pk 0 0) ⟨k, 0, 0, 0, 0, [], ser, 0, 0⟩).2.1]) ∧ KSt w' g gE dB X' (applyM st (pk 0 0) ⟨k, 0, 0, 0, 0, [], ser, 0, 0⟩).2.2 (N + 3) ep seq mx ∧ (∀ x ∈ X', x ∈ X ∨ W.heap.size ≤ x) ∧ Keeps X W w' := by
 have hz : I64 0 := ⟨by omega, by omega⟩
 refine (mcapply_at g X st N (N + 3) ⟨k, 0, 0, 0, 0, [], ser, 0, 0⟩ (.slice none 0 0) mx W h.mc h.lt hmay hf hz hz hz hz (Ds.nil _ _) (by simp) (by simp) ⟨by show ser.size < _; omega, by simp, by simp⟩ (by omega) (by simp) h.cm).mono ?_
 rintro r w' ⟨h1, X', h2, h3, h4, h5⟩
 exact ⟨X', h1, h.next h2 h3 h4 h5, h4, h5⟩
theorem mc0_core {w : World} {g : Nat} {X : List Nat} {N : Nat} (h : McAt w g X mc0 N) : ∃ X2, McAt w g X2 mc0 N ∧ (∀ x ∈ X2, x ∈ X) ∧ ∀ x ∈ X2, x < w.heap.size := by
 obtain ⟨c, DH, h⟩ := h
 refine ⟨c.core g, ⟨c, DH, h.b0, h.sm, h.m2, h.m3, h.nd, h.sh, h.no, h.dj, fun x hx => hx, fun kl hk => absurd rfl hk⟩, h.inX, fun x hx => ?_⟩
 simp only [McC.core, List.mem_cons, List.not_mem_nil, or_false] at hx
 rcases hx with rfl | rfl | rfl | rfl | rfl
 ·exact h.b0.lt
 ·exact h.sm.1.lt
 ·exact h.sm.2.1.lt
 ·exact h.m2.lt
 ·exact h.m3.lt
theorem KSt.set {W : World} {g gE dB : Nat} {X : List Nat} {st : McD} {N : Nat} {ep seq mx : Int} (h : KSt W g gE dB X st N ep seq mx) (ep' seq' : Int) : KSt ((W.setCell ⟨gE, 4, none⟩ (.int .i64 ep')).setCell ⟨gE, 3, none⟩ (.int .i64 seq')) g gE dB X st N ep' seq' mx := by
 have hk : Keeps [gE] W ((W.setCell ⟨gE, 4, none⟩ (.int .i64 ep')).setCell ⟨gE, 3, none⟩ (.int .i64 seq')) := ((Keeps.refl _ _).setCell (by simp) _).setCell (by simp) _
 have hb := (h.bE.set_ 4 (.int .i64 ep')).set_ 3 (.int .i64 seq')
 have l0 : 0 < W.heap.size := by
  have := World.block_lt_of_cell? W _ h.cm
  simpa using this
 refine ⟨h.mc.keep hk (fun x hx e => ?_), fun x hx => Nat.lt_of_lt_of_le (h.lt x hx) hk.size, by simpa using hb, hk.blk h.bD (by simp; exact Ne.symm h.ne), h.nE, h.nD, h.ne, (hk.cell (p := ⟨0, 0, none⟩) l0 (by simp; exact Ne.symm h.e0)).trans h.cm, h.n0, h.e0⟩
 simp at e
 subst e
 exact h.nE hx
theorem KSt.cells {W : World} {g gE dB : Nat} {X : List Nat} {st : McD} {N : Nat} {ep seq mx : Int} (h : KSt W g gE dB X st N ep seq mx) :
  W.cell? ⟨gE, 0, none⟩ = some (.int .i64 1) ∧ W.cell? ⟨gE, 1, none⟩ = some (.int .i64 1) ∧ W.cell? ⟨gE, 2, none⟩ = some (.int .i64 0) ∧ W.cell? ⟨gE, 3, none⟩ = some (.int .i64 seq) ∧ W.cell? ⟨gE, 4, none⟩ = some (.int .i64 ep) ∧ W.cell? ⟨gE, 5, none⟩ = some (.slice (some ⟨dB, 0, none⟩) 1 1) ∧ W.cell? ⟨gE, 6, none⟩ = some (.string ⟨#[]⟩) ∧ W.cell? ⟨gE, 7, none⟩ = some (.int .i64 0) ∧ W.cell? ⟨gE, 8, none⟩ = some (.int .i64 0) ∧ W.frozen? ⟨gE, 3, none⟩ = false ∧ W.frozen? ⟨gE, 4, none⟩ = false :=
 ⟨h.bE.cell 0, h.bE.cell 1, h.bE.cell 2, h.bE.cell 3, h.bE.cell 4, h.bE.cell 5, h.bE.cell 6, h.bE.cell 7, h.bE.cell 8, h.bE.frozen 3, h.bE.frozen 4⟩
def KAp (W : World) (g gE dB : Nat) (X : List Nat) (st : McD) (N : Nat) (ep seq mx code n : Int) (r : Ending) (w' : World) : Prop :=
 ∃ X', r = .returned (.tuple #[.int .i64 code, .int .u64 n]) ∧ KSt w' g gE dB X' st N ep seq mx ∧ (∀ x ∈ X', x ∈ X ∨ W.heap.size ≤ x) ∧ Keeps X W w'
set_option maxRecDepth 100000 in
set_option maxHeartbeats 4000000 in
theorem mknown_any (mx : Int) (w : World) (hm : w.cell? ⟨0, 0, none⟩ = some (.int .i64 mx)) : Calls Tryz.prog 59 #[] w fun e w' => KnP w e w' := by
 have hw0 : 0 < w.heap.size := by
  have := World.block_lt_of_cell? w _ hm
  simpa using this
 go_enter Tryz.func59, Tryz.ntmps59
 go_wp2_with fail
 refine (mcnew_any w).mono ?_
 rintro e w1 ⟨g, X0, rfl, hmc0, hx0, hb1⟩
 obtain ⟨X, hmc, hxx, hlt⟩ := mc0_core hmc0
 have hs1 := hb1.size
 have Hs1 := Lib.hid hs1
 have HK : Hid (KSt ((w1.alloc (.cells #[.string { data := #[97, 61, 49] }, .int .u64 5] 86)).alloc (.cells #[.int .i64 1, .int .i64 1, .int .i64 0, .int .i64 1, .int .i64 2, .slice (some ⟨w1.heap.size, 0, none⟩) 1 1, .string ⟨#[]⟩, .int .i64 0, .int .i64 0] 26)) g (w1.heap.size + 1) w1.heap.size X mc0 0 2 (((0 : Nat) : Int) + 1) mx) := by
  have hk : Keeps [] w1 ((w1.alloc (.cells #[.string { data := #[97, 61, 49] }, .int .u64 5] 86)).alloc (.cells #[.int .i64 1, .int .i64 1, .int .i64 0, .int .i64 1, .int .i64 2, .slice (some ⟨w1.heap.size, 0, none⟩) 1 1, .string ⟨#[]⟩, .int .i64 0, .int .i64 0] 26)) := ((Keeps.refl _ _).alloc _).alloc _
  have hE := Blk.new (w1.alloc (.cells #[.string { data := #[97, 61, 49] }, .int .u64 5] 86)) 26 #[.int .i64 1, .int .i64 1, .int .i64 0, .int .i64 1, .int .i64 2, .slice (some ⟨w1.heap.size, 0, none⟩) 1 1, .string ⟨#[]⟩, .int .i64 0, .int .i64 0]
  rw [World.size_alloc] at hE
  refine ⟨hmc.keep hk (by simp), fun x hx => Nat.lt_of_lt_of_le (hlt x hx) hk.size, hE, ?_, fun hx => by have := hlt _ hx; omega, fun hx => by have := hlt _ hx; omega, by omega, ?_, fun hx => by have := hx0 _ (hxx _ hx); omega, by omega⟩
  ·exact ((Keeps.refl [] _).alloc _).blk (Blk.new w1 _ _) (by simp)
  ·rw [hk.cell (p := ⟨0, 0, none⟩) (by show 0 < w1.heap.size; omega) (by simp)]
   exact (hb1.cell (p := ⟨0, 0, none⟩) hw0).trans hm
 have Hk1 : Hid (Keeps [] w ((w1.alloc (.cells #[.string { data := #[97, 61, 49] }, .int .u64 5] 86)).alloc (.cells #[.int .i64 1, .int .i64 1, .int .i64 0, .int .i64 1, .int .i64 2, .slice (some ⟨w1.heap.size, 0, none⟩) 1 1, .string ⟨#[]⟩, .int .i64 0, .int .i64 0] 26))) := (((Keeps.of_below (M := []) hb1).alloc _).alloc _)
 have HX : Hid (∀ x ∈ X, w.heap.size ≤ x) := fun x hx => hx0 _ (hxx _ hx)
 clear hmc0 hx0 hmc hxx hlt hb1 hs1
 go_upto_region 5 with (fail)
 generalize (w1.alloc (.cells #[.string { data := #[97, 61, 49] }, .int .u64 5] 86)).alloc (.cells #[.int .i64 1, .int .i64 1, .int .i64 0, .int .i64 1, .int .i64 2, .slice (some ⟨w1.heap.size, 0, none⟩) 1 1, .string ⟨#[]⟩, .int .i64 0, .int .i64 0] 26) = w2 at *
 obtain ⟨gE, HgE⟩ : ∃ gE, Hid (gE = w1.heap.size + 1) := ⟨_, rfl⟩
 rw [← HgE.out] at HK ⊢
 have HgE2 : Hid (w.heap.size ≤ gE) := by show _ ≤ _; rw [HgE.out]; have := Hs1.out; omega
 generalize w1.heap.size = dB at *
 have HK2 : Hid (KSt w2 g gE dB X mc0 0 2 1 mx) := HK.out
 clear HK HgE
 obtain ⟨c0, c1, c2, c3, c4, c5, c6, c7, c8, _, _⟩ := HK2.out.cells
 have KF : Hid ((kS.get (pk 0 0)).f ≤ 4611686018427387000) := by
  show _ ≤ _
  unfold kS fenceS
  rw [McD.get_other _ _ (fun h => by have := lawP.inj (pk_of (a := 0) (s := 0) ⟨by omega, by omega⟩ ⟨by omega, by omega⟩) (h ▸ pk_of (a := 1) (s := 0) ⟨by omega, by omega⟩ ⟨by omega, by omega⟩); simp at this)]
  show (0 : Int) ≤ _
  omega
 have h40 : (0 : Nat) < 40 := by omega
 have h41 : (1 : Nat) < 40 := by omega
 have i2 : I64 2 := ⟨by omega, by omega⟩
 have i1 : I64 1 := ⟨by omega, by omega⟩
 have i0 : I64 0 := ⟨by omega, by omega⟩
 have hag : (0 : Int) ≤ 1 ∧ (1 : Int) < 8 := by omega
 have HA1 : Hid (Calls Tryz.prog 56 #[.pointer (some ⟨g, 0, none⟩), .agg #[.int .i64 1, .int .i64 1, .int .i64 0, .int .i64 1, .int .i64 2, .slice (some ⟨dB, 0, none⟩) 1 1, .string ⟨#[]⟩, .int .i64 0, .int .i64 0]] w2 fun r w' => KAp w2 g gE dB X kS 3 2 1 mx 1 0 r w') := by
  have h := KSt.apply 0 2 HK2.out h40 i2 (by omega) (may_fence (fence_start 1 (pk 1 0)) h40 kA ⟨by omega, by omega⟩) (by show (0 : Int) ≤ _; omega)
  have he : applyM mc0 (pk 1 0) (kE 0 2) = (1, 0, kS) := fence_yes hag (fence_start 1 (pk 1 0)) h40 kA_ok (by omega) ⟨by omega, by omega⟩ (by omega)
  rw [he] at h
  exact h
 go_wp2_with fail
 refine HA1.out.mono ?_
 rintro r w3 ⟨X3, rfl, hK3, hx3, hk3⟩
 have HK3 := Lib.hid hK3
 have Hk3 : Hid (Keeps [] w w3) := Hk1.out.trans hk3 (fun x hx => .inr (HX.out x hx))
 have hs2 := Hk1.out.size
 have HX3 : Hid (∀ x ∈ X3, w.heap.size ≤ x) := fun x hx => by rcases hx3 x hx with h | h; exact HX.out x h; omega
 clear hK3 hx3 hk3 hs2 HA1 HK2 HX Hk1 c0 c1 c2 c3 c4 c5 c6 c7 c8
 obtain ⟨c0, c1, c2, c3, c4, c5, c6, c7, c8, _, _⟩ := HK3.out.cells
 have HA2 : Hid (Calls Tryz.prog 56 #[.pointer (some ⟨g, 0, none⟩), .agg #[.int .i64 1, .int .i64 1, .int .i64 0, .int .i64 1, .int .i64 2, .slice (some ⟨dB, 0, none⟩) 1 1, .string ⟨#[]⟩, .int .i64 0, .int .i64 0]] w3 fun r w' => KAp w3 g gE dB X3 kS 6 2 1 mx 2 0 r w') := by
  have h := KSt.apply 0 2 HK3.out h40 i2 (by omega) (may_fence kS_ok h41 kA ⟨by omega, by omega⟩) (by rw [kS_f]; omega)
  have he : applyM kS (pk 1 0) (kE 0 2) = (2, 0, kS) := apply_dup (fence_right hag 0 kA_ok (by omega) (by omega)) (by show (1 : Int) ≠ 2; omega) kS_seen kS_ok.bad
  rw [he] at h
  exact h
 go_wp2_with fail
 refine HA2.out.mono ?_
 rintro r w4 ⟨X4, rfl, hK4, hx4, hk4⟩
 have HK4 := Lib.hid (hK4.set 1 2)
 have Hk4 : Hid (Keeps [] w w4) := Hk3.out.trans hk4 (fun x hx => .inr (HX3.out x hx))
 have HX4 : Hid (∀ x ∈ X4, w.heap.size ≤ x) := fun x hx => by rcases hx4 x hx with h | h; exact HX3.out x h; have := Hk3.out.size; omega
 obtain ⟨d0, d1, d2, d3, d4, d5, d6, d7, d8, f3, f4⟩ := hK4.cells
 have hE4 : w.heap.size ≤ gE := HgE2.out
 have Hk5 : Hid (Keeps [] w ((w4.setCell ⟨gE, 4, none⟩ (.int .i64 1)).setCell ⟨gE, 3, none⟩ (.int .i64 2))) := (Hk4.out.setCell (.inr hE4) _).setCell (.inr hE4) _
 clear hK4 hx4 hk4 HA2 HK3 HX3 Hk3 Hk4 hE4 c0 c1 c2 c3 c4 c5 c6 c7 c8
 go_upto_region 8 with (fail)
 clear d0 d1 d2 d3 d4 d5 d6 d7 d8 f3 f4
 generalize (w4.setCell ⟨gE, 4, none⟩ (.int .i64 1)).setCell ⟨gE, 3, none⟩ (.int .i64 2) = w5 at *
 obtain ⟨c0, c1, c2, c3, c4, c5, c6, c7, c8, _, _⟩ := HK4.out.cells
 have HA3 : Hid (Calls Tryz.prog 56 #[.pointer (some ⟨g, 0, none⟩), .agg #[.int .i64 1, .int .i64 1, .int .i64 0, .int .i64 2, .int .i64 1, .slice (some ⟨dB, 0, none⟩) 1 1, .string ⟨#[]⟩, .int .i64 0, .int .i64 0]] w5 fun r w' => KAp w5 g gE dB X4 kS 9 1 2 mx 4 0 r w') := by
  have h := KSt.apply 1 1 HK4.out h41 i1 (by omega) (may_fence kS_ok h41 kA ⟨by omega, by omega⟩) (by rw [kS_f]; omega)
  have he : applyM kS (pk 1 0) (kE 1 1) = (4, 0, kS) := fence_no hag kS_ok kA_ok (by omega) (by omega) (by omega)
  rw [he] at h
  exact h
 go_wp2_with fail
 refine HA3.out.mono ?_
 rintro r w6 ⟨X6, rfl, hK6, hx6, hk6⟩
 have HK6 := Lib.hid hK6
 have Hk6 : Hid (Keeps [] w w6) := Hk5.out.trans hk6 (fun x hx => .inr (HX4.out x hx))
 have HX6 : Hid (∀ x ∈ X6, w.heap.size ≤ x) := fun x hx => by rcases hx6 x hx with h | h; exact HX4.out x h; have := Hk5.out.size; omega
 clear hK6 hx6 hk6 HA3 HK4 HX4 Hk5 c0 c1 c2 c3 c4 c5 c6 c7 c8
 have HA4 : Hid (Calls Tryz.prog 56 #[.pointer (some ⟨g, 0, none⟩), .agg #[.int .i64 2, .int .i64 0, .int .i64 0, .int .i64 0, .int .i64 0, .slice none 0 0, .string { data := #[97, 61, 49] }, .int .i64 0, .int .i64 0]] w6 fun r w' => KAp w6 g gE dB X6 kS 12 1 2 mx 8 5 r w') := by
  have h := KSt.other HK6.out 2 kA (by show kA.size ≤ 100; decide) (by omega) (may_none kS_ok) (KF.out)
  have he : applyM kS (pk 0 0) ⟨2, 0, 0, 0, 0, [], kA, 0, 0⟩ = (8, 5, kS) := by
   rw [apply_read (entry_right (e := ⟨2, 0, 0, 0, 0, [], kA, 0, 0⟩) ⟨by simp, by simp, by simp, by simp, .inl ⟨rfl, kA_ok, rfl, rfl, rfl, rfl, rfl⟩⟩).1 rfl]
   show ((8 : Int), numAt .u64 kS.DS (skey kA), kS) = _
   rw [kS_sum]
  rw [he] at h
  exact h
 go_wp2_with fail
 refine HA4.out.mono ?_
 rintro r w7 ⟨X7, rfl, hK7, hx7, hk7⟩
 have HK7 := Lib.hid hK7
 have Hk7 : Hid (Keeps [] w w7) := Hk6.out.trans hk7 (fun x hx => .inr (HX6.out x hx))
 have HX7 : Hid (∀ x ∈ X7, w.heap.size ≤ x) := fun x hx => by rcases hx7 x hx with h | h; exact HX6.out x h; have := Hk6.out.size; omega
 clear hK7 hx7 hk7 HA4 HK6 HX6 Hk6
 have HA5 : Hid (Calls Tryz.prog 56 #[.pointer (some ⟨g, 0, none⟩), .agg #[.int .i64 0, .int .i64 0, .int .i64 0, .int .i64 0, .int .i64 0, .slice none 0 0, .string ⟨#[]⟩, .int .i64 0, .int .i64 0]] w7 fun r w' => KAp w7 g gE dB X7 kS 15 1 2 mx 0 0 r w') := by
  have h := KSt.other HK7.out 0 ⟨#[]⟩ (by show (0 : Nat) ≤ 100; omega) (by omega) (may_none kS_ok) (KF.out)
  have he : applyM kS (pk 0 0) ⟨0, 0, 0, 0, 0, [], ⟨#[]⟩, 0, 0⟩ = (0, 0, kS) := apply_wrong (by unfold rightE kindS; simp)
  rw [he] at h
  exact h
 go_wp2_with fail
 refine HA5.out.mono ?_
 rintro r w8 ⟨X8, rfl, hK8, hx8, hk8⟩
 have HK8 := Lib.hid hK8
 have Hk8 : Hid (Keeps [] w w8) := Hk7.out.trans hk8 (fun x hx => .inr (HX7.out x hx))
 clear hK8 hx8 hk8 HA5 HK7 HX7 Hk7
 obtain ⟨c, DH, hin⟩ := HK8.out.mc
 have HIn : Hid (∀ W, Keeps [] w8 W → McIn W g c X8 kS 15 DH) := fun W hk => hin.keep hk (by simp)
 have HC : Hid (∀ W, Keeps [] w8 W → W.cell? ⟨gE, 1, none⟩ = some (.int .i64 1) ∧ W.cell? ⟨gE, 2, none⟩ = some (.int .i64 0) ∧ W.cell? ⟨gE, 3, none⟩ = some (.int .i64 2)) := fun W hk => by
  have h := (HK8.out.keep hk).cells
  exact ⟨h.2.1, h.2.2.1, h.2.2.2.1⟩
 clear hin HK8
 go_wp2_with fail
 refine (mcfloor_any g c X8 kS 15 DH 1 0 w8 (HIn.out w8 (Keeps.refl _ _)) i1 i0).mono ?_
 rintro r w9 ⟨rfl, hk9⟩
 rw [kS_f]
 have Hk9 := Lib.hid hk9
 clear hk9
 go_wp2_with fail
 refine (mcepoch_any g c X8 kS 15 DH 1 w9 (HIn.out w9 Hk9.out) i1).mono ?_
 rintro r w10 ⟨rfl, rfl⟩
 rw [kS_ok.ep]
 go_wp2_with fail
 have HH1 : Hid (hasM kS (pk 1 0) 1 = true) := by
  show _ = _
  unfold hasM
  rw [kS_seen, kS_ok.bad]
  rfl
 have HH2 : Hid (hasM kS (pk 1 0) 2 = false) := by
  show _ = _
  unfold hasM
  rw [kS_ok.new 2 (by omega)]
  rfl
 refine (mchas_any g c X8 kS 15 DH 1 0 1 w9 (HIn.out w9 Hk9.out) i1 i0 (by omega)).mono ?_
 rintro r w10 ⟨rfl, hk10⟩
 rw [HH1.out]
 have Hk10 : Hid (Keeps [] w8 w10) := Hk9.out.trans hk10 (by simp)
 clear hk10
 obtain ⟨c1, c2, c3⟩ := HC.out w10 Hk10.out
 go_wp2_with fail
 refine (mchas_any g c X8 kS 15 DH 1 0 2 w10 (HIn.out w10 Hk10.out) i1 i0 (by omega)).mono ?_
 rintro r w11 ⟨rfl, hk11⟩
 rw [HH2.out]
 have Hk11 : Hid (Keeps [] w8 w11) := Hk10.out.trans hk11 (by simp)
 clear hk11 c1 c2 c3
 go_wp2_with fail
 refine (mcbad_any g c X8 kS 15 DH 1 0 w11 (HIn.out w11 Hk11.out) i1 i0).mono ?_
 rintro r w12 ⟨v, rfl, hown, hk12⟩
 rw [kS_ok.bad] at hown
 obtain ⟨A, cc, rfl, _⟩ := rd_own (own_low hown (Nat.zero_le _))
 have Hk12 : Hid (Keeps [] w8 w12) := Hk11.out.trans hk12 (by simp)
 clear hown hk12
 go_wp2_with fail
 refine (mcepoch_any g c X8 kS 15 DH (-1) w12 (HIn.out w12 Hk12.out) ⟨by omega, by omega⟩).mono ?_
 rintro r w13 ⟨rfl, rfl⟩
 rw [kS_ep]
 have hP : Hid (KnP w (.returned (.bool true)) w12) := ⟨rfl, Hk8.out.trans Hk12.out (by simp)⟩
 go_wp2
 go_ret
 exact hP.out
/-- A slice of numbers that came in. -/
def Nums (w : World) (A : Option Addr) (c : Nat) (l : List Int) : Prop := l.length ≤ c ∧ c ≤ 9223372036854775807 ∧ (0 < l.length → ∃ g off, A = some ⟨g, off, none⟩ ∧ g < w.heap.size ∧ ∀ (j : Nat) (x : Int), l[j]? = some x → w.cell? ⟨g, off + j, none⟩ = some (.int .i64 x))
theorem tape_new {w w1 : World} {A : Option Addr} {c : Nat} {l : List Int} (h : Nums w A c l) (hb : Below w.heap.size w w1) :
  TapeAt (w1.alloc (.cells #[.slice A l.length c, .int .i64 0] 31)) w1.heap.size ⟨l, w.heap.size⟩ 0 := by
 obtain ⟨h1, h2, h3⟩ := h
 refine ⟨Nat.zero_le _, Nat.le_trans h1 h2, hb.size, A, c, Blk.new w1 _ _, h1, fun h0 => ?_⟩
 obtain ⟨g, off, e, hg, hx⟩ := h3 h0
 exact ⟨g, off, e, hg, fun j x hj => ((below_new hb _).cell (p := ⟨g, off + j, none⟩) hg).trans (hx j x hj)⟩
end Go.Proofs.YtinnifhnabncfaaGreatDoor.Vi
end
section
namespace Go.Proofs.YtinnifhnabncfaaGreatDoor.Vi
open Go.RowKit Base Mem

end Go.Proofs.YtinnifhnabncfaaGreatDoor.Vi
end
section
namespace Go.Proofs.YtinnifhnabncfaaGreatDoor.Vi
open Go.RowKit Base Mem Tape
structure FnSt (w W : World) (g b : Nat) (L : TapeL) (X : List Nat) (st : McD) (j k : Nat) (top mx : Int) : Prop where
 mc : McAt W g X st (3 * j)
 lt : ∀ x ∈ X, x < W.heap.size
 old : ∀ x ∈ X, w.heap.size ≤ x
 tp : TapeAt W b L k
 nb : b ∉ X
 bo : w.heap.size ≤ b
 fo : FenceOk 2 j top (pk 2 0) st
 kp : Keeps [] w W
 t0 : 0 ≤ top
 t8 : top ≤ 8
theorem fence_dok {ag : Int} {i : Nat} {s : ByteArray} {p : Int} (hs : NameOk s) : ∀ d ∈ (fenceE ag i s p 1).ds, DOk d := by
 intro d hd
 simp [fenceE] at hd
 subst hd
 have := (name_ser hs).2
 exact ⟨by show (0 : Int) ≤ 1; omega, by show (1 : Int) ≤ _; omega, by show s.size ≤ _; omega⟩
theorem fence_short {ag : Int} {i : Nat} {s : ByteArray} {p : Int} (hs : NameOk s) : Short (fenceE ag i s p 1) := ⟨by show ByteArray.empty.size < _; decide, by
 intro d hd
 simp [fenceE] at hd
 subst hd
 have := (name_ser hs).2
 show s.size < _
 omega, by simp [fenceE]⟩
/-- Where the entry has been made. -/
def FnCut (wr : World) (b : Nat) (L : TapeL) (j : Nat) (p : Int) (s9 : Value) (wx : World) : Prop := ∃ (gE dB : Nat) (s : ByteArray) (k3 : Nat), s9 = .pointer (some ⟨gE, 0, none⟩) ∧ NameOk s ∧ TapeAt wx b L k3 ∧ Blk wx gE 26 #[.int .i64 1, .int .i64 2, .int .i64 0, .int .i64 ((j : Int) + 1), .int .i64 p, .slice (some ⟨dB, 0, none⟩) 1 1, .string ⟨#[]⟩, .int .i64 0, .int .i64 0] ∧ Blk wx dB 86 #[.string s, .int .u64 1] ∧ gE ≠ dB ∧ wr.heap.size ≤ gE ∧ wr.heap.size ≤ dB ∧ Keeps [b] wr wx
theorem fncut_a {wr w3 : World} {b : Nat} {L : TapeL} {j : Nat} {p : Int} {s : ByteArray} {k3 : Nat} (hs : NameOk s) (ht : TapeAt w3 b L k3) (hk : Keeps [b] wr w3) :
  Hid (FnCut wr b L j p (.pointer (some ⟨w3.heap.size + 1, 0, none⟩)) ((w3.alloc (.cells #[.string s, .int .u64 1] 86)).alloc (.cells #[.int .i64 1, .int .i64 2, .int .i64 0, .int .i64 ((j : Int) + 1), .int .i64 p, .slice (some ⟨w3.heap.size, 0, none⟩) 1 1, .string ⟨#[]⟩, .int .i64 0, .int .i64 0] 26))) := by
 have hE := Blk.new (w3.alloc (.cells #[.string s, .int .u64 1] 86)) 26 #[.int .i64 1, .int .i64 2, .int .i64 0, .int .i64 ((j : Int) + 1), .int .i64 p, .slice (some ⟨w3.heap.size, 0, none⟩) 1 1, .string ⟨#[]⟩, .int .i64 0, .int .i64 0]
 rw [World.size_alloc] at hE
 have h := hk.size
 exact ⟨w3.heap.size + 1, w3.heap.size, s, k3, rfl, hs, ht.keep (M' := []) (((Keeps.refl _ _).alloc _).alloc _) (by simp), hE, ((Keeps.refl [] _).alloc _).blk (Blk.new w3 _ _) (by simp), by omega, by omega, by omega, (hk.alloc _).alloc _⟩
theorem fncut_b {wr w3 : World} {b : Nat} {L : TapeL} {j : Nat} {p : Int} {s : ByteArray} {k3 : Nat} (hs : NameOk s) (ht : TapeAt w3 b L k3) (hk : Keeps [b] wr w3) :
  Hid (FnCut wr b L j p (.pointer (some ⟨w3.heap.size, 0, none⟩)) ((w3.alloc (.cells #[.int .i64 1, .int .i64 2, .int .i64 0, .int .i64 ((j : Int) + 1), .int .i64 p, .slice (some ⟨w3.heap.size + 1, 0, none⟩) 1 1, .string ⟨#[]⟩, .int .i64 0, .int .i64 0] 26)).alloc (.cells #[.string s, .int .u64 1] 86))) := by
 have hD := Blk.new (w3.alloc (.cells #[.int .i64 1, .int .i64 2, .int .i64 0, .int .i64 ((j : Int) + 1), .int .i64 p, .slice (some ⟨w3.heap.size + 1, 0, none⟩) 1 1, .string ⟨#[]⟩, .int .i64 0, .int .i64 0] 26)) 86 #[.string s, .int .u64 1]
 rw [World.size_alloc] at hD
 have h := hk.size
 exact ⟨w3.heap.size, w3.heap.size + 1, s, k3, rfl, hs, ht.keep (M' := []) (((Keeps.refl _ _).alloc _).alloc _) (by simp), ((Keeps.refl [] _).alloc _).blk (Blk.new w3 _ _) (by simp), hD, by omega, by omega, by omega, (hk.alloc _).alloc _⟩
theorem fncut_ck {wr w3 : World} {b : Nat} {o : Obj} (hk : Keeps [b] (wr.drew.alloc o) w3) : Keeps [b] wr w3 := ((Keeps.refl [b] wr).drew.alloc o).trans hk (by simp)
theorem fncut_z {wr w3 : World} {b : Nat} (hk : Keeps [b] (wr.drew.alloc (.cells zeroE 26)) w3) (hb : b < wr.heap.size) : Blk w3 wr.heap.size 26 zeroE := hk.blk (Blk.new wr.drew _ _) (by show wr.heap.size ∉ [b]; simp; omega)
theorem fncut_c {wr w3 : World} {b : Nat} {L : TapeL} {j : Nat} {p : Int} {s : ByteArray} {k3 : Nat} (hs : NameOk s) (ht : TapeAt w3 b L k3) (hk : Keeps [b] (wr.drew.alloc (.cells zeroE 26)) w3) (hb : b < wr.heap.size) (hL : L.B ≤ wr.heap.size) :
  Hid (FnCut wr b L j p (.pointer (some ⟨wr.heap.size, 0, none⟩)) ((((((((((w3.alloc (.cells #[.string s, .int .u64 1] 86)).setCell ⟨wr.heap.size, 0, none⟩ (.int .i64 1)).setCell ⟨wr.heap.size, 1, none⟩ (.int .i64 2)).setCell ⟨wr.heap.size, 2, none⟩ (.int .i64 0)).setCell ⟨wr.heap.size, 3, none⟩ (.int .i64 ((j : Int) + 1))).setCell ⟨wr.heap.size, 4, none⟩ (.int .i64 p)).setCell ⟨wr.heap.size, 5, none⟩ (.slice (some ⟨w3.heap.size, 0, none⟩) 1 1)).setCell ⟨wr.heap.size, 6, none⟩ (.string ⟨#[]⟩)).setCell ⟨wr.heap.size, 7, none⟩ (.int .i64 0)).setCell ⟨wr.heap.size, 8, none⟩ (.int .i64 0))) := by
 have hz := fncut_z hk hb
 have hlt := hz.lt
 have hb0 := ((Keeps.refl [] w3).alloc (.cells #[.string s, .int .u64 1] 86)).blk hz (by simp)
 have hE := (((((((((hb0.set_ 0 (.int .i64 1)).set_ 1 (.int .i64 2)).set_ 2 (.int .i64 0)).set_ 3 (.int .i64 ((j : Int) + 1))).set_ 4 (.int .i64 p)).set_ 5 (.slice (some ⟨w3.heap.size, 0, none⟩) 1 1)).set_ 6 (.string ⟨#[]⟩)).set_ 7 (.int .i64 0)).set_ 8 (.int .i64 0))
 have hkk : Keeps [wr.heap.size] w3 ((((((((((w3.alloc (.cells #[.string s, .int .u64 1] 86)).setCell ⟨wr.heap.size, 0, none⟩ (.int .i64 1)).setCell ⟨wr.heap.size, 1, none⟩ (.int .i64 2)).setCell ⟨wr.heap.size, 2, none⟩ (.int .i64 0)).setCell ⟨wr.heap.size, 3, none⟩ (.int .i64 ((j : Int) + 1))).setCell ⟨wr.heap.size, 4, none⟩ (.int .i64 p)).setCell ⟨wr.heap.size, 5, none⟩ (.slice (some ⟨w3.heap.size, 0, none⟩) 1 1)).setCell ⟨wr.heap.size, 6, none⟩ (.string ⟨#[]⟩)).setCell ⟨wr.heap.size, 7, none⟩ (.int .i64 0)).setCell ⟨wr.heap.size, 8, none⟩ (.int .i64 0)) := (((((((((((((((((((Keeps.refl [wr.heap.size] w3).alloc (.cells #[.string s, .int .u64 1] 86)).setCell (by simp) (.int .i64 1))).setCell (by simp) (.int .i64 2))).setCell (by simp) (.int .i64 0))).setCell (by simp) (.int .i64 ((j : Int) + 1)))).setCell (by simp) (.int .i64 p))).setCell (by simp) (.slice (some ⟨w3.heap.size, 0, none⟩) 1 1))).setCell (by simp) (.string ⟨#[]⟩))).setCell (by simp) (.int .i64 0))).setCell (by simp) (.int .i64 0))
 have hkw : Keeps [] (w3.alloc (.cells #[.string s, .int .u64 1] 86)) (w3.alloc (.cells #[.string s, .int .u64 1] 86)) := Keeps.refl _ _
 refine ⟨wr.heap.size, w3.heap.size, s, k3, rfl, hs, ht.keep2 hkk (by intro g hg; simp at hg; subst hg; exact ⟨hL, by omega⟩), by simpa [zeroE] using hE, ?_, by omega, Nat.le_refl _, ?_, ?_⟩
 ·have hD := Blk.new w3 86 #[.string s, .int .u64 1]
  have hk2 : Keeps [wr.heap.size] (w3.alloc (.cells #[.string s, .int .u64 1] 86)) ((((((((((w3.alloc (.cells #[.string s, .int .u64 1] 86)).setCell ⟨wr.heap.size, 0, none⟩ (.int .i64 1)).setCell ⟨wr.heap.size, 1, none⟩ (.int .i64 2)).setCell ⟨wr.heap.size, 2, none⟩ (.int .i64 0)).setCell ⟨wr.heap.size, 3, none⟩ (.int .i64 ((j : Int) + 1))).setCell ⟨wr.heap.size, 4, none⟩ (.int .i64 p)).setCell ⟨wr.heap.size, 5, none⟩ (.slice (some ⟨w3.heap.size, 0, none⟩) 1 1)).setCell ⟨wr.heap.size, 6, none⟩ (.string ⟨#[]⟩)).setCell ⟨wr.heap.size, 7, none⟩ (.int .i64 0)).setCell ⟨wr.heap.size, 8, none⟩ (.int .i64 0)) := (((((((((((((((((((Keeps.refl [wr.heap.size] (w3.alloc (.cells #[.string s, .int .u64 1] 86)))).setCell (by simp) (.int .i64 1))).setCell (by simp) (.int .i64 2))).setCell (by simp) (.int .i64 0))).setCell (by simp) (.int .i64 ((j : Int) + 1)))).setCell (by simp) (.int .i64 p))).setCell (by simp) (.slice (some ⟨w3.heap.size, 0, none⟩) 1 1))).setCell (by simp) (.string ⟨#[]⟩))).setCell (by simp) (.int .i64 0))).setCell (by simp) (.int .i64 0))
  exact hk2.blk hD (by simp; omega)
 ·have := hk.size
  simp at this
  omega
 ·exact (fncut_ck hk).trans hkk (by intro g hg; simp at hg; subst hg; exact .inr (Nat.le_refl _))
set_option maxRecDepth 100000 in
set_option maxHeartbeats 8000000 in
theorem fences_walk (A : Option Addr) (c : Nat) (l : List Int) (Ae : Option Addr) (ce : Nat) (le : List Int) (mx : Int) (w : World) (hN : Nums w A c l) (hE : Nums w Ae ce le) (hm : w.cell? ⟨0, 0, none⟩ = some (.int .i64 mx)) :
  Calls Tryz.prog 12 #[.slice A l.length c, .slice Ae le.length ce] w fun e w' => SamePost true w e w' := by
 have hw0 : 0 < w.heap.size := by
  have := World.block_lt_of_cell? w _ hm
  simpa using this
 have Hm : Hid (∀ W, Keeps [] w W → W.cell? ⟨0, 0, none⟩ = some (.int .i64 mx)) := fun W hk => (hk.cell (p := ⟨0, 0, none⟩) hw0 (by simp)).trans hm
 have HN := Lib.hid hN; have HE := Lib.hid hE
 have hle : le.length ≤ 9223372036854775807 := Nat.le_trans hE.1 hE.2.1
 clear hN hE hm
 go_enter Tryz.func12, Tryz.ntmps12
 go_wp2_with fail
 refine (mcnew_any w).mono ?_
 rintro e w1 ⟨g, X0, rfl, hmc0, hx0, hb1⟩
 obtain ⟨X, hmc, hxx, hlt⟩ := mc0_core hmc0
 have hs1 := hb1.size
 have HS : Hid (FnSt w (w1.alloc (.cells #[.slice A l.length c, .int .i64 0] 31)) g w1.heap.size ⟨l, w.heap.size⟩ X mc0 0 0 0 mx) :=
  ⟨hmc.keep (M := []) ((Keeps.refl _ _).alloc _) (by simp), fun x hx => by rw [World.size_alloc]; have := hlt x hx; omega, fun x hx => hx0 _ (hxx _ hx), tape_new HN.out hb1, fun hx => by have := hlt _ hx; omega, hs1, fence_start 2 (pk 2 0), (Keeps.of_below (M := []) hb1).alloc _, by omega, by omega⟩
 clear hmc0 hx0 hmc hxx hlt hb1 hs1 HN
 go_upto_region 7 with (fail)
 go_wp2_with fail
 generalize w1.alloc (.cells #[.slice A l.length c, .int .i64 0] 31) = w2 at *
 generalize w1.heap.size = b at *
 go_loopw [7, 8] (fun tp i wr => ∃ (j k : Nat) (top : Int) (X : List Nat) (st : McD), tp = .int .i64 top ∧ i = .int .i64 j ∧ j ≤ 40 ∧ j ≤ le.length ∧ Hid (FnSt w wr g b ⟨l, w.heap.size⟩ X st j k top mx)) (fun _ i _ => 40 - (intOf i).toNat)
 case atStart => exact ⟨0, 0, 0, X, mc0, rfl, rfl, by omega, by omega, HS.out⟩
 case round =>
  obtain ⟨j, k, top, X, st, rfl, rfl, hj40, hjl, HF⟩ := hrel
  clear HS
  by_cases h1 : j < le.length
  ·have h1i : (j : Int) < (le.length : Int) := by omega
   by_cases h2 : j < 40
   ·have h2i : (j : Int) < 40 := by omega
    obtain ⟨ge, off, hAe, hge, hcell⟩ := HE.out.2.2 (by omega)
    subst hAe
    have p0 := hcell j le[j] (List.getElem?_eq_getElem h1)
    clear hcell
    generalize le[j] = ep0 at *
    have HP : Hid (∀ W, Keeps [] w W → W.cell? ⟨ge, off + j, none⟩ = some (.int .i64 ep0)) := fun W hk => (hk.cell (p := ⟨ge, off + j, none⟩) hge (by simp)).trans p0
    have hand : bits .and .i64 ep0 7 = ep0 % 8 := mask_7 ep0
    have he0 : 0 ≤ ep0 % 8 := Int.emod_nonneg _ (by omega)
    have he8 : ep0 % 8 < 8 := Int.emod_lt_of_pos _ (by omega)
    clear p0
    generalize ep0 % 8 = e8 at *
    have hw1 : IntKind.i64.wrap ((j : Int) + 1) = (j : Int) + 1 := by rw [IntKind.wrap_i64]; omega
    have hw2 : IntKind.i64.wrap (1 + e8) = 1 + e8 := by rw [IntKind.wrap_i64]; omega
    go_upto_region 9 with (fail)
    have HP1 : Hid (∀ W, Keeps [b] wr W → W.cell? ⟨ge, off + j, none⟩ = some (.int .i64 ep0)) := fun W hk => HP.out W ((HF.out.kp.trans hk (fun x hx => by simp at hx; subst hx; exact .inr HF.out.bo)))
    go_cut [9] (fun s9 wx => Hid (FnCut wr b ⟨l, w.heap.size⟩ j (1 + e8) s9 wx))
    case first =>
     refine wp_region_held_drew (S := (fun W => W.cell? ⟨ge, off + j, none⟩ = some (.int .i64 ep0))) (by kernel_rfl) (HP1.out _ (Keeps.refl _ _).drew) (fun hHeld => ?_)
     refine wpAnyH_take (i := 0) (oi := _) (v := ?v0a) rfl (by kernel_rfl) (by kernel_rfl) (by kernel_rfl) (fun _ _ _ h => h) (Or.inl ⟨by rfl, ?y0a⟩) (by assumption) ?r0a
     case y0a => (intro w hSw; (try dsimp only at hSw); go_simp <;> with_reducible rfl)
     try simp only [List.getElem_toArray, List.getElem_cons_succ, List.getElem_cons_zero, Act.put, List.setIfInBounds_toArray, List.set_cons_zero, List.set_cons_succ]
     refine wpAnyH_take (i := 1) (oi := _) (v := ?v1a) rfl (by kernel_rfl) (by kernel_rfl) (by kernel_rfl) (fun _ _ _ h => h) (Or.inl ⟨by rfl, ?y1a⟩) (by assumption) ?r1a
     case y1a => (intro w hSw; (try dsimp only at hSw); go_simp <;> with_reducible rfl)
     try simp only [List.getElem_toArray, List.getElem_cons_succ, List.getElem_cons_zero, Act.put, List.setIfInBounds_toArray, List.set_cons_zero, List.set_cons_succ]
     refine wpAnyH_take (i := 2) (oi := _) (v := ?v2a) rfl (by kernel_rfl) (by kernel_rfl) (by kernel_rfl) (fun _ _ _ h => h) (Or.inl ⟨by rfl, ?y2a⟩) (by assumption) ?r2a
     case y2a => (intro w hSw; (try dsimp only at hSw); go_simp <;> with_reducible rfl)
     try simp only [List.getElem_toArray, List.getElem_cons_succ, List.getElem_cons_zero, Act.put, List.setIfInBounds_toArray, List.set_cons_zero, List.set_cons_succ]
     refine wpAnyH_take (i := 3) (oi := _) (v := ?v3a) rfl (by kernel_rfl) (by kernel_rfl) (by kernel_rfl) (fun _ _ _ h => h) (Or.inl ⟨by rfl, ?y3a⟩) (by assumption) ?r3a
     case y3a => (intro w hSw; (try dsimp only at hSw); go_simp <;> with_reducible rfl)
     try simp only [List.getElem_toArray, List.getElem_cons_succ, List.getElem_cons_zero, Act.put, List.setIfInBounds_toArray, List.set_cons_zero, List.set_cons_succ]
     refine wpAnyH_take (i := 4) (oi := _) (v := ?v4a) rfl (by kernel_rfl) (by kernel_rfl) (by kernel_rfl) (fun _ _ _ h => h) (Or.inl ⟨by rfl, ?y4a⟩) (by assumption) ?r4a
     case y4a => (intro w hSw; (try dsimp only at hSw); go_simp <;> with_reducible rfl)
     try simp only [List.getElem_toArray, List.getElem_cons_succ, List.getElem_cons_zero, Act.put, List.setIfInBounds_toArray, List.set_cons_zero, List.set_cons_succ]
     refine wpAnyH_take (i := 5) (oi := _) (v := ?v5a) rfl (by kernel_rfl) (by kernel_rfl) (by kernel_rfl) (fun _ _ _ h => h) (Or.inl ⟨by rfl, ?y5a⟩) (by assumption) ?r5a
     case y5a => (intro w hSw; (try dsimp only at hSw); go_simp <;> with_reducible rfl)
     try simp only [List.getElem_toArray, List.getElem_cons_succ, List.getElem_cons_zero, Act.put, List.setIfInBounds_toArray, List.set_cons_zero, List.set_cons_succ]
     refine wpAnyH_take (i := 6) (oi := _) (v := ?v6a) rfl (by kernel_rfl) (by kernel_rfl) (by kernel_rfl) (fun _ _ _ h => h) (Or.inl ⟨by rfl, ?y6a⟩) (by assumption) ?r6a
     case y6a => (intro w hSw; (try dsimp only at hSw); go_simp <;> with_reducible rfl)
     try simp only [List.getElem_toArray, List.getElem_cons_succ, List.getElem_cons_zero, Act.put, List.setIfInBounds_toArray, List.set_cons_zero, List.set_cons_succ]
     refine wpAnyH_take (i := 7) (oi := _) (v := ?v7a) rfl (by kernel_rfl) (by kernel_rfl) (by kernel_rfl) (fun _ _ _ h => h) (Or.inl ⟨by rfl, ?y7a⟩) (by assumption) ?r7a
     case y7a => (intro w hSw; (try dsimp only at hSw); go_simp <;> with_reducible rfl)
     try simp only [List.getElem_toArray, List.getElem_cons_succ, List.getElem_cons_zero, Act.put, List.setIfInBounds_toArray, List.set_cons_zero, List.set_cons_succ]
     refine wpAnyH_take (i := 8) (oi := _) (v := ?v8a) rfl (by kernel_rfl) (by kernel_rfl) (by kernel_rfl) (fun _ _ _ h => h) (Or.inl ⟨by rfl, ?y8a⟩) (by assumption) ?r8a
     case y8a => (intro w hSw; (try dsimp only at hSw); go_simp <;> with_reducible rfl)
     try simp only [List.getElem_toArray, List.getElem_cons_succ, List.getElem_cons_zero, Act.put, List.setIfInBounds_toArray, List.set_cons_zero, List.set_cons_succ]
     refine wpAnyH_take (i := 9) (oi := _) (v := ?v9a) rfl (by kernel_rfl) (by kernel_rfl) (by kernel_rfl) (fun _ _ _ h => h) (Or.inl ⟨by rfl, ?y9a⟩) (by assumption) ?r9a
     case y9a => (intro w hSw; (try dsimp only at hSw); go_simp <;> with_reducible rfl)
     try simp only [List.getElem_toArray, List.getElem_cons_succ, List.getElem_cons_zero, Act.put, List.setIfInBounds_toArray, List.set_cons_zero, List.set_cons_succ]
     refine wpAnyH_ready (rs := [10, 14]) (by kernel_rfl) (by simp) ?_
     refine AllReadyH.cons (o := _) rfl (fun K hK => ?_) ?_
     ·go_simp
      refine (series_any b _ k _ (HF.out.tp.drewN 1)).mono ?_
      rintro r w3 ⟨s, k3, rfl, hs, ht3, hk3⟩
      have Hs := Lib.hid hs; have Ht3 := Lib.hid ht3
      have Hk3 : Hid (Keeps [b] wr.drew w3) := hk3
      clear hs ht3 hk3
      have Hk03 : Hid (Keeps [b] wr w3) := (Keeps.refl [b] wr).drew.trans Hk3.out (by simp)
      refine hK.out _ _ (HP1.out _ Hk03.out) (fun hHeld2 => ?_)
      clear hK K hHeld
      have hHeld := hHeld2
      clear hHeld2
      try simp only [List.getElem_toArray, List.getElem_cons_succ, List.getElem_cons_zero, Act.put, List.setIfInBounds_toArray, List.set_cons_zero, List.set_cons_succ]
      refine wpAnyH_take (i := 11) (oi := _) (v := ?v11a) rfl (by kernel_rfl) (by kernel_rfl) (by kernel_rfl) (fun _ _ _ h => h) (Or.inl ⟨by rfl, ?y11a⟩) (by assumption) ?r11a
      case y11a => (intro w hSw; (try dsimp only at hSw); go_simp <;> with_reducible rfl)
      try simp only [List.getElem_toArray, List.getElem_cons_succ, List.getElem_cons_zero, Act.put, List.setIfInBounds_toArray, List.set_cons_zero, List.set_cons_succ]
      refine wpAnyH_ready (rs := [12, 14]) (by kernel_rfl) (by simp) ?_
      refine AllReadyH.cons (o := _) rfl (fun K hK => ?_) ?_
      ·go_simp
       refine hK.out _ _ (HP1.out _ (Hk03.out.alloc _)) (fun hHeld2 => ?_)
       clear hK K hHeld
       have hHeld := hHeld2
       clear hHeld2
       try simp only [List.getElem_toArray, List.getElem_cons_succ, List.getElem_cons_zero, Act.put, List.setIfInBounds_toArray, List.set_cons_zero, List.set_cons_succ]
       refine wpAnyH_take (i := 13) (oi := _) (v := ?v13a) rfl (by kernel_rfl) (by kernel_rfl) (by kernel_rfl) (fun _ _ _ h => h) (Or.inl ⟨by rfl, ?y13a⟩) (by assumption) ?r13a
       case y13a => (intro w hSw; (try dsimp only at hSw); go_simp <;> with_reducible rfl)
       try simp only [List.getElem_toArray, List.getElem_cons_succ, List.getElem_cons_zero, Act.put, List.setIfInBounds_toArray, List.set_cons_zero, List.set_cons_succ]
       refine wpAnyH_ready (rs := [14]) (by kernel_rfl) (by simp) ?_
       refine AllReadyH.cons (o := _) rfl (fun K hK => ?_) ?_
       ·go_simp
        refine hK.out _ _ (HP1.out _ ((Hk03.out.alloc _).alloc _)) (fun hHeld2 => ?_)
        clear hK K hHeld
        have hHeld := hHeld2
        clear hHeld2
        try simp only [List.getElem_toArray, List.getElem_cons_succ, List.getElem_cons_zero, Act.put, List.setIfInBounds_toArray, List.set_cons_zero, List.set_cons_succ]
        refine wpAnyH_ready (rs := [15]) (by kernel_rfl) (by simp) ?_
        refine AllReadyH.cons (o := _) rfl (fun K hK => ?_) ?_
        ·go_simp
         refine hK.out _ _ (HP1.out _ ((Hk03.out.alloc _).alloc _)) (fun hHeld2 => ?_)
         clear hK K hHeld
         have hHeld := hHeld2
         clear hHeld2
         try simp only [List.getElem_toArray, List.getElem_cons_succ, List.getElem_cons_zero, Act.put, List.setIfInBounds_toArray, List.set_cons_zero, List.set_cons_succ]
         refine wpAnyH_done (by kernel_rfl) ?_ _
         go_wp2_with fail
         go_meet
         exact (fncut_a Hs.out Ht3.out Hk03.out)
        exact AllReadyH.nil
       exact AllReadyH.nil
      refine AllReadyH.cons (o := _) rfl (fun K hK => ?_) ?_
      ·go_simp
       refine hK.out _ _ (HP1.out _ (Hk03.out.alloc _)) (fun hHeld2 => ?_)
       clear hK K hHeld
       have hHeld := hHeld2
       clear hHeld2
       try simp only [List.getElem_toArray, List.getElem_cons_succ, List.getElem_cons_zero, Act.put, List.setIfInBounds_toArray, List.set_cons_zero, List.set_cons_succ]
       refine wpAnyH_ready (rs := [12]) (by kernel_rfl) (by simp) ?_
       refine AllReadyH.cons (o := _) rfl (fun K hK => ?_) ?_
       ·go_simp
        refine hK.out _ _ (HP1.out _ ((Hk03.out.alloc _).alloc _)) (fun hHeld2 => ?_)
        clear hK K hHeld
        have hHeld := hHeld2
        clear hHeld2
        try simp only [List.getElem_toArray, List.getElem_cons_succ, List.getElem_cons_zero, Act.put, List.setIfInBounds_toArray, List.set_cons_zero, List.set_cons_succ]
        refine wpAnyH_take (i := 13) (oi := _) (v := ?v13b) rfl (by kernel_rfl) (by kernel_rfl) (by kernel_rfl) (fun _ _ _ h => h) (Or.inl ⟨by rfl, ?y13b⟩) (by assumption) ?r13b
        case y13b => (intro w hSw; (try dsimp only at hSw); go_simp <;> with_reducible rfl)
        try simp only [List.getElem_toArray, List.getElem_cons_succ, List.getElem_cons_zero, Act.put, List.setIfInBounds_toArray, List.set_cons_zero, List.set_cons_succ]
        refine wpAnyH_ready (rs := [15]) (by kernel_rfl) (by simp) ?_
        refine AllReadyH.cons (o := _) rfl (fun K hK => ?_) ?_
        ·go_simp
         refine hK.out _ _ (HP1.out _ ((Hk03.out.alloc _).alloc _)) (fun hHeld2 => ?_)
         clear hK K hHeld
         have hHeld := hHeld2
         clear hHeld2
         try simp only [List.getElem_toArray, List.getElem_cons_succ, List.getElem_cons_zero, Act.put, List.setIfInBounds_toArray, List.set_cons_zero, List.set_cons_succ]
         refine wpAnyH_done (by kernel_rfl) ?_ _
         go_wp2_with fail
         go_meet
         exact (fncut_b Hs.out Ht3.out Hk03.out)
        exact AllReadyH.nil
       exact AllReadyH.nil
      exact AllReadyH.nil
     refine AllReadyH.cons (o := _) rfl (fun K hK => ?_) ?_
     ·go_simp
      refine hK.out _ _ (HP1.out _ ((Keeps.refl _ _).drew.alloc _)) (fun hHeld2 => ?_)
      clear hK K hHeld
      have hHeld := hHeld2
      clear hHeld2
      try simp only [List.getElem_toArray, List.getElem_cons_succ, List.getElem_cons_zero, Act.put, List.setIfInBounds_toArray, List.set_cons_zero, List.set_cons_succ]
      refine wpAnyH_ready (rs := [10]) (by kernel_rfl) (by simp) ?_
      refine AllReadyH.cons (o := _) rfl (fun K hK => ?_) ?_
      ·go_simp
       refine (series_any b _ k _ (HF.out.tp.keep (M' := []) ((Keeps.refl _ _).drew.alloc _) (by simp))).mono ?_
       rintro r w3 ⟨s, k3, rfl, hs, ht3, hk3⟩
       have Hs := Lib.hid hs; have Ht3 := Lib.hid ht3
       have Hk3 : Hid (Keeps [b] (wr.drew.alloc (.cells zeroE 26)) w3) := hk3
       clear hs ht3 hk3
       refine hK.out _ _ (HP1.out _ (fncut_ck Hk3.out)) (fun hHeld2 => ?_)
       clear hK K hHeld
       have hHeld := hHeld2
       clear hHeld2
       try simp only [List.getElem_toArray, List.getElem_cons_succ, List.getElem_cons_zero, Act.put, List.setIfInBounds_toArray, List.set_cons_zero, List.set_cons_succ]
       refine wpAnyH_take (i := 11) (oi := _) (v := ?v11c) rfl (by kernel_rfl) (by kernel_rfl) (by kernel_rfl) (fun _ _ _ h => h) (Or.inl ⟨by rfl, ?y11c⟩) (by assumption) ?r11c
       case y11c => (intro w hSw; (try dsimp only at hSw); go_simp <;> with_reducible rfl)
       try simp only [List.getElem_toArray, List.getElem_cons_succ, List.getElem_cons_zero, Act.put, List.setIfInBounds_toArray, List.set_cons_zero, List.set_cons_succ]
       refine wpAnyH_ready (rs := [12]) (by kernel_rfl) (by simp) ?_
       refine AllReadyH.cons (o := _) rfl (fun K hK => ?_) ?_
       ·go_simp
        refine hK.out _ _ (HP1.out _ ((fncut_ck Hk3.out).alloc _)) (fun hHeld2 => ?_)
        clear hK K hHeld
        have hHeld := hHeld2
        clear hHeld2
        try simp only [List.getElem_toArray, List.getElem_cons_succ, List.getElem_cons_zero, Act.put, List.setIfInBounds_toArray, List.set_cons_zero, List.set_cons_succ]
        refine wpAnyH_take (i := 13) (oi := _) (v := ?v13c) rfl (by kernel_rfl) (by kernel_rfl) (by kernel_rfl) (fun _ _ _ h => h) (Or.inl ⟨by rfl, ?y13c⟩) (by assumption) ?r13c
        case y13c => (intro w hSw; (try dsimp only at hSw); go_simp <;> with_reducible rfl)
        try simp only [List.getElem_toArray, List.getElem_cons_succ, List.getElem_cons_zero, Act.put, List.setIfInBounds_toArray, List.set_cons_zero, List.set_cons_succ]
        obtain ⟨W9, hW9⟩ : ∃ W9, W9 = w3.alloc (.cells #[.string s, .int .u64 1] 86) := ⟨_, rfl⟩
        rw [← hW9] at hHeld ⊢
        have HW9 := Lib.hid hW9
        have hz : Blk W9 wr.heap.size 26 zeroE := by rw [hW9]; exact ((Keeps.refl [] w3).alloc _).blk (fncut_z Hk3.out HF.out.tp.lt) (by simp)
        obtain ⟨z0, z1, z2, z3, z4, z5, z6, z7, z8, zf⟩ := blk_cells hz
        have hz0 := zf 0; have hz1 := zf 1; have hz2 := zf 2; have hz3 := zf 3; have hz4 := zf 4; have hz5 := zf 5; have hz6 := zf 6; have hz7 := zf 7; have hz8 := zf 8
        clear hW9 hz zf
        refine wpAnyH_ready (rs := [15]) (by kernel_rfl) (by simp) ?_
        refine AllReadyH.cons (o := _) rfl (fun K hK => ?_) ?_
        ·go_simp
         refine hK.out _ _ ?_ (fun hHeld2 => ?_)
         ·(refine HP1.out _ ?_; rw [HW9.out]; repeat (first | (with_reducible exact ((fncut_ck Hk3.out).alloc _)) | refine Keeps.setCell ?_ (.inr (Nat.le_refl _)) _))
         clear hK K hHeld
         have hHeld := hHeld2
         clear hHeld2
         try simp only [List.getElem_toArray, List.getElem_cons_succ, List.getElem_cons_zero, Act.put, List.setIfInBounds_toArray, List.set_cons_zero, List.set_cons_succ]
         refine wpAnyH_done (by kernel_rfl) ?_ _
         go_wp2_with fail
         go_meet
         exact (by rw [HW9.out]; exact fncut_c Hs.out Ht3.out Hk3.out HF.out.tp.lt HF.out.kp.size)
        exact AllReadyH.nil
       exact AllReadyH.nil
      exact AllReadyH.nil
     exact AllReadyH.nil
    case rest =>
    obtain ⟨gE, dB, s, k3, rfl, hs, ht5, hbE, hbD, hne, hgE0, hdB0, hkr5⟩ := hcut.out
    clear hcut HP HP1
    have Hs := Lib.hid hs; have Ht5 := Lib.hid ht5; have HBE := Lib.hid hbE
    have hp1 : 1 ≤ 1 + e8 := by omega
    have hp9 : 1 + e8 ≤ 8 := by omega
    have Hd5 : Hid (Ds wc X (.slice (some ⟨dB, 0, none⟩) 1 1) [⟨s, 1⟩]) :=
     ⟨_, _, rfl, Nat.le_refl _, rfl, fun _ => ⟨dB, 0, rfl, hbD.lt, fun hx => by have := HF.out.lt _ hx; omega, fun q u hu => by
      rw [Nat.zero_add, hbD.cell]
      simpa [dCells, dCell] using hu⟩⟩
    have Hmc : Hid (McAt wc g X st (3 * j)) := HF.out.mc.keep hkr5 (fun x hx e => HF.out.nb (by simp at e; exact e ▸ hx))
    have Hlt : Hid (∀ x ∈ X, x < wc.heap.size) := fun x hx => Nat.lt_of_lt_of_le (HF.out.lt x hx) hkr5.size
    have Hold := Lib.hid HF.out.old
    have Hnb := Lib.hid HF.out.nb
    have Hk5 : Hid (Keeps [] w wc) := HF.out.kp.trans hkr5 (fun x hx => by simp at hx; subst hx; exact .inr HF.out.bo)
    have HFo := Lib.hid HF.out.fo
    have ht0 := HF.out.t0; have ht8 := HF.out.t8; have hbo := HF.out.bo
    have HnE : Hid (gE ∉ X) := fun hx => by have := HF.out.lt _ hx; omega
    have hgb : gE ≠ b := by have := HF.out.tp.lt; omega
    clear hs ht5 hbE hbD hne hgE0 hdB0 hkr5 HF hand hw2
    generalize 1 + e8 = p at *
    generalize wc = w5 at *
    have hgE' : gE < w5.heap.size := HBE.out.lt
    have hbl5 : b < w5.heap.size := Ht5.out.lt
    have hc0 := HBE.out.cell 0; have hc1 := HBE.out.cell 1; have hc2 := HBE.out.cell 2; have hc3 := HBE.out.cell 3; have hc4 := HBE.out.cell 4; have hc5 := HBE.out.cell 5; have hc6 := HBE.out.cell 6; have hc7 := HBE.out.cell 7; have hc8 := HBE.out.cell 8
    simp only [List.getElem?_toArray, List.getElem?_cons_succ, List.getElem?_cons_zero] at hc0 hc1 hc2 hc3 hc4 hc5 hc6 hc7 hc8
    obtain ⟨c0, c1, c2, c3, c4, c5, c6, c7, c8⟩ : _ ∧ _ ∧ _ ∧ _ ∧ _ ∧ _ ∧ _ ∧ _ ∧ _ := ⟨hc0, hc1, hc2, hc3, hc4, hc5, hc6, hc7, hc8⟩
    clear hc0 hc1 hc2 hc3 hc4 hc5 hc6 hc7 hc8
    have h28 : (0 : Int) ≤ 2 ∧ (2 : Int) < 8 := by omega
    have Hap0 : Hid (Calls Tryz.prog 56 #[.pointer (some ⟨g, 0, none⟩), .agg #[.int .i64 1, .int .i64 2, .int .i64 0, .int .i64 ((j : Int) + 1), .int .i64 p, .slice (some ⟨dB, 0, none⟩) 1 1, .string ⟨#[]⟩, .int .i64 0, .int .i64 0]] w5 fun r w' => ApA g X (applyM st (pk 2 0) (fenceE 2 j s p 1)) (3 * (j + 1)) w5 r w') :=
     mcapply_at g X st (3 * j) (3 * (j + 1)) (fenceE 2 j s p 1) (.slice (some ⟨dB, 0, none⟩) 1 1) mx w5 Hmc.out Hlt.out (may_fence HFo.out h2 s ⟨by omega, by omega⟩) (by have := HFo.out.fi; show (st.get (pk 2 0)).f ≤ _; omega)
      ⟨by show _ ≤ (2 : Int); omega, by show (2 : Int) ≤ _; omega⟩ ⟨by show _ ≤ (0 : Int); omega, by show (0 : Int) ≤ _; omega⟩ ⟨by show _ ≤ ((j : Int) + 1); omega, by show ((j : Int) + 1) ≤ _; omega⟩ ⟨by show _ ≤ p; omega, by show p ≤ _; omega⟩ Hd5.out (fence_dok Hs.out) (by simp [fenceE]) (fence_short Hs.out) (by omega) (by simp [fenceE]; omega) (Hm.out w5 Hk5.out)
    by_cases hcmp : p < top
    ·skip
     have Hap := Lib.hid (Hap0.out.mono (fun r w' h => by rw [fence_no h28 HFo.out Hs.out hp1 (by omega) hcmp] at h; exact h) : Calls Tryz.prog 56 #[.pointer (some ⟨g, 0, none⟩), .agg #[.int .i64 1, .int .i64 2, .int .i64 0, .int .i64 ((j : Int) + 1), .int .i64 p, .slice (some ⟨dB, 0, none⟩) 1 1, .string ⟨#[]⟩, .int .i64 0, .int .i64 0]] w5 fun r w' => ApA g X (4, 0, st) (3 * (j + 1)) w5 r w')
     clear Hap0
     go_wp2_with fail
     refine Hap.out.mono ?_
     rintro r w6 ⟨rfl, X6, hmc6, hlt6, hx6, hk6⟩
     have Hmc6 : Hid (McAt w6 g X6 st (3 * (j + 1))) := hmc6
     have Hk6 : Hid (Keeps [] w w6) := Hk5.out.trans hk6 (fun x hx => .inr (Hold.out x hx))
     have Hlt6 := Lib.hid hlt6
     have hs5 := Hk5.out.size
     have Hold6 : Hid (∀ x ∈ X6, w.heap.size ≤ x) := fun x hx => by rcases hx6 x hx with h | h; exact Hold.out x h; omega
     have Hnb6 : Hid (b ∉ X6) := fun hx => by rcases hx6 b hx with h | h; exact Hnb.out h; omega
     have HnE6 : Hid (gE ∉ X6) := fun hx => by rcases hx6 gE hx with h | h; exact HnE.out h; omega
     have Ht6 : Hid (TapeAt w6 b ⟨l, w.heap.size⟩ k3) := Ht5.out.keep2 hk6 (fun x hx => ⟨Hold.out x hx, fun e => Hnb.out (e ▸ hx)⟩)
     have HB6 := Lib.hid (hk6.blk HBE.out HnE.out)
     have HCE : Hid (∀ W, Keeps [] w6 W → W.cell? ⟨gE, 4, none⟩ = some (.int .i64 p) ∧ W.cell? ⟨gE, 1, none⟩ = some (.int .i64 2) ∧ W.cell? ⟨gE, 2, none⟩ = some (.int .i64 0) ∧ W.cell? ⟨gE, 3, none⟩ = some (.int .i64 ((j : Int) + 1))) := fun W hk => by
      have h := hk.blk HB6.out (by simp)
      exact ⟨h.cell 4, h.cell 1, h.cell 2, h.cell 3⟩
     have HFo6 : Hid (FenceOk 2 (j + 1) top (pk 2 0) st) := HFo.out.mono
     have HHas : Hid (hasM st (pk 2 0) ((j : Int) + 1) = false) := by
      show _ = _
      unfold hasM
      rw [HFo.out.new _ (by omega), Bool.and_false, Bool.false_and]
     obtain ⟨d4, d1, d2, d3⟩ := HCE.out w6 (Keeps.refl _ _)
     have hci : decide (p < top) = true := decide_eq_true hcmp
     have hmax : max top p = top := by omega
     clear hmc6 hlt6 hx6 hk6 Hap Hmc Hlt Hold Hnb HnE Ht5 Hk5 HBE c0 c1 c2 c3 c4 c5 c6 c7 c8
     go_wp2_with fail
     obtain ⟨cc, DH, hin⟩ := Hmc6.out
     refine (mcepoch_any g cc X6 st (3 * (j + 1)) DH 2 w6 hin ⟨by omega, by omega⟩).mono ?_
     rintro r w7 ⟨rfl, rfl⟩
     rw [HFo6.out.ep]
     go_wp2_with fail
     refine (mchas_any g cc X6 st (3 * (j + 1)) DH 2 0 ((j : Int) + 1) w6 hin ⟨by omega, by omega⟩ ⟨by omega, by omega⟩ (by omega)).mono ?_
     rintro r w7 ⟨rfl, hk7⟩
     rw [HHas.out]
     have HF7 : Hid (FnSt w w7 g b ⟨l, w.heap.size⟩ X6 st (j + 1) k3 top mx) := ⟨Hmc6.out.keep hk7 (by simp), fun x hx => Nat.lt_of_lt_of_le (Hlt6.out x hx) hk7.size, Hold6.out, Ht6.out.keep (M' := []) hk7 (by simp), Hnb6.out, hbo, HFo6.out, Hk6.out.trans hk7 (by simp), by omega, by omega⟩
     clear hk7 hin
     go_wp2_with fail
     go_roundw
     case rel => exact ⟨j + 1, k3, top, X6, st, rfl, by go_num, by omega, by omega, HF7.out⟩
     case measure => simp [intOf] <;> omega
    ·have hcmp : top ≤ p := by omega
     have Hap := Lib.hid (Hap0.out.mono (fun r w' h => by rw [fence_yes h28 HFo.out h2 Hs.out hp1 ⟨by omega, by omega⟩ hcmp] at h; exact h) : Calls Tryz.prog 56 #[.pointer (some ⟨g, 0, none⟩), .agg #[.int .i64 1, .int .i64 2, .int .i64 0, .int .i64 ((j : Int) + 1), .int .i64 p, .slice (some ⟨dB, 0, none⟩) 1 1, .string ⟨#[]⟩, .int .i64 0, .int .i64 0]] w5 fun r w' => ApA g X (1, 0, (fenceS 2 j s p 1 (pk 2 0) st)) (3 * (j + 1)) w5 r w')
     clear Hap0
     go_wp2_with fail
     refine Hap.out.mono ?_
     rintro r w6 ⟨rfl, X6, hmc6, hlt6, hx6, hk6⟩
     have Hmc6 : Hid (McAt w6 g X6 (fenceS 2 j s p 1 (pk 2 0) st) (3 * (j + 1))) := hmc6
     have Hk6 : Hid (Keeps [] w w6) := Hk5.out.trans hk6 (fun x hx => .inr (Hold.out x hx))
     have Hlt6 := Lib.hid hlt6
     have hs5 := Hk5.out.size
     have Hold6 : Hid (∀ x ∈ X6, w.heap.size ≤ x) := fun x hx => by rcases hx6 x hx with h | h; exact Hold.out x h; omega
     have Hnb6 : Hid (b ∉ X6) := fun hx => by rcases hx6 b hx with h | h; exact Hnb.out h; omega
     have HnE6 : Hid (gE ∉ X6) := fun hx => by rcases hx6 gE hx with h | h; exact HnE.out h; omega
     have Ht6 : Hid (TapeAt w6 b ⟨l, w.heap.size⟩ k3) := Ht5.out.keep2 hk6 (fun x hx => ⟨Hold.out x hx, fun e => Hnb.out (e ▸ hx)⟩)
     have HB6 := Lib.hid (hk6.blk HBE.out HnE.out)
     have HCE : Hid (∀ W, Keeps [] w6 W → W.cell? ⟨gE, 4, none⟩ = some (.int .i64 p) ∧ W.cell? ⟨gE, 1, none⟩ = some (.int .i64 2) ∧ W.cell? ⟨gE, 2, none⟩ = some (.int .i64 0) ∧ W.cell? ⟨gE, 3, none⟩ = some (.int .i64 ((j : Int) + 1))) := fun W hk => by
      have h := hk.blk HB6.out (by simp)
      exact ⟨h.cell 4, h.cell 1, h.cell 2, h.cell 3⟩
     have HFo6 : Hid (FenceOk 2 (j + 1) p (pk 2 0) (fenceS 2 j s p 1 (pk 2 0) st)) := (fence_next HFo.out h2 Hs.out ⟨by omega, by omega⟩).1
     have HHas : Hid (hasM (fenceS 2 j s p 1 (pk 2 0) st) (pk 2 0) ((j : Int) + 1) = true) := by
      show _ = _
      unfold hasM
      rw [(fence_next HFo.out h2 Hs.out ⟨by omega, by omega⟩).2, HFo6.out.bad, decide_eq_true (by omega)]
      rfl
     obtain ⟨d4, d1, d2, d3⟩ := HCE.out w6 (Keeps.refl _ _)
     have hci : decide (p < top) = false := decide_eq_false (by omega)
     have hmax : max top p = p := by omega
     clear hmc6 hlt6 hx6 hk6 Hap Hmc Hlt Hold Hnb HnE Ht5 Hk5 HBE c0 c1 c2 c3 c4 c5 c6 c7 c8
     go_wp2_with fail
     obtain ⟨cc, DH, hin⟩ := Hmc6.out
     refine (mcepoch_any g cc X6 (fenceS 2 j s p 1 (pk 2 0) st) (3 * (j + 1)) DH 2 w6 hin ⟨by omega, by omega⟩).mono ?_
     rintro r w7 ⟨rfl, rfl⟩
     rw [HFo6.out.ep]
     go_wp2_with fail
     refine (mchas_any g cc X6 (fenceS 2 j s p 1 (pk 2 0) st) (3 * (j + 1)) DH 2 0 ((j : Int) + 1) w6 hin ⟨by omega, by omega⟩ ⟨by omega, by omega⟩ (by omega)).mono ?_
     rintro r w7 ⟨rfl, hk7⟩
     rw [HHas.out]
     have HF7 : Hid (FnSt w w7 g b ⟨l, w.heap.size⟩ X6 (fenceS 2 j s p 1 (pk 2 0) st) (j + 1) k3 p mx) := ⟨Hmc6.out.keep hk7 (by simp), fun x hx => Nat.lt_of_lt_of_le (Hlt6.out x hx) hk7.size, Hold6.out, Ht6.out.keep (M' := []) hk7 (by simp), Hnb6.out, hbo, HFo6.out, Hk6.out.trans hk7 (by simp), by omega, by omega⟩
     clear hk7 hin
     go_wp2_with fail
     go_roundw
     case rel => exact ⟨j + 1, k3, p, X6, (fenceS 2 j s p 1 (pk 2 0) st), rfl, by go_num, by omega, by omega, HF7.out⟩
     case measure => simp [intOf] <;> omega
   ·have h2i : decide ((j : Int) < 40) = false := decide_eq_false (by omega)
    have Hk := Lib.hid HF.out.kp
    clear HF
    go_wp2_with fail
    refine (mknown_any mx wr (Hm.out wr Hk.out)).mono ?_
    rintro r w3 ⟨rfl, hk3⟩
    have hP : Hid (SamePost true w (.returned (.bool true)) w3) := ⟨rfl, (Hk.out.trans hk3 (by simp)).below⟩
    clear hk3
    go_wp2
    go_ret
    exact hP.out
  ·have h1i : decide ((j : Int) < (le.length : Int)) = false := decide_eq_false (by omega)
   have Hk := Lib.hid HF.out.kp
   clear HF
   go_wp2_with fail
   refine (mknown_any mx wr (Hm.out wr Hk.out)).mono ?_
   rintro r w3 ⟨rfl, hk3⟩
   have hP : Hid (SamePost true w (.returned (.bool true)) w3) := ⟨rfl, (Hk.out.trans hk3 (by simp)).below⟩
   clear hk3
   go_wp2
   go_ret
   exact hP.out
end Go.Proofs.YtinnifhnabncfaaGreatDoor.Vi
end
