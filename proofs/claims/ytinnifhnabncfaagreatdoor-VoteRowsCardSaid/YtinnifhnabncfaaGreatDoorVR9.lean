/- Texts put together: Scan, Wal1, Copies, Vote1, Vote2, Vote3, Vote4. -/
import Derived.Deep.RegionHeld3
import Derived.Deep.RegionWith
import Derived.StillTailTactics
import Derived.Test.YtinnifhnabncfaaGreatDoorVR1
import Derived.Test.YtinnifhnabncfaaGreatDoorVR2
import Derived.Test.YtinnifhnabncfaaGreatDoorVR7
import Derived.Test.YtinnifhnabncfaaGreatDoorVR8
/- Contract of frame.Scan; rows of rows of bytes. -/
section
namespace Go.Proofs.YtinnifhnabncfaaGreatDoor.Vi
open Go.RowKit Base Mem
theorem rdOwn_one {w w1 w2 : World} {out v' dv : Value} {o : Obj} {size n : Nat} {xs : List Value}
    (h : ∀ M', (∀ g ∈ M', g < w.heap.size ∨ out.ownBlock = some g) → Rd w1 M' size dv n xs)
    (hg : (w1.alloc o).grownBy w2 out.ownBlock) (hat : v'.ownBlock = out.ownBlock ∨ v'.ownBlock = some (w1.heap.size + 1)) (M' : List Nat) (hM : ∀ g ∈ M', g < w.heap.size ∨ v'.ownBlock = some g) : Rd w2 M' size dv n xs := by
  have h1 := h (out.ownBlock.toList ++ M'.filter (fun g => decide (g < w.heap.size))) (by
    intro g hg
    rcases List.mem_append.1 hg with h1 | h1
    · right; simpa using h1
    · left; simpa using (List.mem_filter.1 h1).2)
  have h2 : Rd (w1.alloc o) (out.ownBlock.toList ++ M'.filter (fun g => decide (g < w.heap.size))) size dv n xs := h1.keep (M' := []) ((Keeps.refl _ _).alloc o) (by simp)
  have h3 : Rd (w1.alloc o) (out.ownBlock.toList ++ M') size dv n xs := h2.avoid (by
    intro g hg
    rcases List.mem_append.1 hg with h1 | h1
    · exact .inl (List.mem_append_left _ h1)
    · rcases hM g h1 with h4 | h4
      · exact .inl (List.mem_append_right _ (List.mem_filter.2 ⟨h1, by simpa using h4⟩))
      · rcases hat with h5 | h5
        · exact .inl (List.mem_append_left _ (by rw [h5] at h4; simpa using h4))
        · rw [h5] at h4; injection h4 with h4; right; simp; omega)
  have h4 : Keeps out.ownBlock.toList (w1.alloc o) w2 := (Keeps.refl _ _).grown hg (fun g hg => .inl (by simpa using hg))
  exact (h3.keep h4 (fun g hg => .inl (List.mem_append_left _ hg))).avoid (fun g hg => .inl (List.mem_append_right _ hg))
/-- The rows that a row of the call's own holds lie in blocks that are neither old nor the row's. -/
def BsOwn (w wr : World) (out : Value) (qs : List (List UInt8 × Value)) : Prop := ∀ q ∈ qs, ∀ M', (∀ g ∈ M', g < w.heap.size ∨ out.ownBlock = some g) → Bs wr M' q.2 q.1
theorem bsOwn_step {w wr w1 w2 : World} {out v' dv' : Value} {o : Obj} {qs : List (List UInt8 × Value)} {e : List UInt8} (hds : BsOwn w wr out qs) (hb1 : Below wr.heap.size wr w1) (hlt : ∀ g, out.ownBlock = some g → g < wr.heap.size) (hw : w.heap.size ≤ wr.heap.size)
    (hnew : ∀ M', (∀ g ∈ M', g < wr.heap.size) → Bs w1 M' dv' e)
    (hg : (w1.alloc o).grownBy w2 out.ownBlock) (hat : v'.ownBlock = out.ownBlock ∨ v'.ownBlock = some (w1.heap.size + 1)) : BsOwn w w2 v' (qs ++ [(e, dv')]) := by
  intro q hq M' hM
  rcases List.mem_append.1 hq with h1 | h1
  · exact rdOwn_one (fun M'' hM'' => Rd.keep (M' := []) (hds q h1 M'' hM'') (Keeps.of_below hb1) (by simp)) hg hat M' hM
  · simp at h1
    subst h1
    exact rdOwn_one (fun M'' hM'' => hnew M'' (fun g hg => by rcases hM'' g hg with h | h; omega; exact hlt g h)) hg hat M' hM
/-- v reads as these rows of bytes. -/
def Bss (w : World) (M : List Nat) (v : Value) (rs : List (List UInt8)) : Prop :=
  ∃ qs : List (List UInt8 × Value), qs.map (·.1) = rs ∧ Rd w M 1 v qs.length (qs.map (·.2)) ∧ ∀ q ∈ qs, Bs w M q.2 q.1
theorem Bss.keep {w w' : World} {M M' : List Nat} {v : Value} {rs : List (List UInt8)} (h : Bss w M v rs) (k : Keeps M' w w') (hM : ∀ g ∈ M', g ∈ M ∨ w.heap.size ≤ g) : Bss w' M v rs := by
  obtain ⟨ps, hl, hr, hd⟩ := h
  exact ⟨ps, hl, hr.keep k hM, fun p hp => (hd p hp).keep k hM⟩
theorem Bss.len {w : World} {M : List Nat} {v : Value} {rs : List (List UInt8)} (h : Bss w M v rs) : ∃ A c, v = .slice A rs.length c ∧ rs.length ≤ c := by
  obtain ⟨ps, rfl, ⟨A, c, rfl, hc, _⟩, _⟩ := h
  exact ⟨A, c, by simp, by simpa using hc⟩
theorem Bss.at_ {w : World} {M : List Nat} {v : Value} {rs : List (List UInt8)} (h : Bss w M v rs) {k : Nat} (hk : k < rs.length) :
    ∃ g off cap bv, v = .slice (some ⟨g, off, none⟩) rs.length cap ∧ g < w.heap.size ∧ g ∉ M ∧ w.cell? ⟨g, off + k, none⟩ = some bv ∧ Bs w M bv rs[k] := by
  obtain ⟨ps, rfl, ⟨A, c, rfl, hc, _, hr⟩, hd⟩ := h
  have hk' : k < ps.length := by simpa using hk
  obtain ⟨g, off, rfl, hg, hm, hx⟩ := hr (by omega)
  exact ⟨g, off, c, ps[k].2, by simp, hg, hm, hx k _ (by rw [List.getElem?_map, List.getElem?_eq_getElem hk']; rfl), by simpa using hd ps[k] (List.getElem_mem _)⟩
theorem Bs.tail {w : World} {M : List Nat} {A : Option Addr} {c : Nat} {l : List UInt8} (h : Bs w M (.slice A l.length c) l) (a : Nat) (ha : a ≤ l.length) : Bs w M (.slice (if c = a then A else A.map (·.add a)) (l.length - a) (c - a)) (l.drop a) := by
  obtain ⟨A', c', e, hcc, hl, hr⟩ := h
  injection e with e1 _ e3
  subst e1 e3
  show Rd _ _ _ _ (l.drop a).length _
  rw [List.length_drop]
  refine ⟨_, c - a, rfl, by omega, by simp, fun hn => ?_⟩
  obtain ⟨g, off, rfl, hg, hm, hx⟩ := hr (by omega)
  rw [if_neg (by omega)]
  refine ⟨g, off + a, by simp [addr_add], hg, hm, fun j u hu => ?_⟩
  rw [Nat.add_assoc]
  refine hx (a + j) u ?_
  rw [List.getElem?_map] at hu ⊢
  rw [List.getElem?_drop] at hu
  exact hu
def ScPost (R : List (List UInt8) × Nat) (w : World) (e : Ending) (w' : World) : Prop :=
  ∃ v, e = .returned (.tuple #[v, .int .i64 R.2]) ∧ (∀ M, (∀ g ∈ M, g < w.heap.size) → Bss w' M v R.1) ∧ Below w.heap.size w w'
theorem infoB : (Tryz.prog.info? 36).map (fun i => (i.zero, i.size, i.bytes)) = some (some (.slice none 0 0), 1, 24) := by kernel_rfl
set_option maxRecDepth 100000 in
set_option maxHeartbeats 1000000 in
theorem scan_any (v : Value) (l : List UInt8) (w : World) (h : Bs w [] v l) (hl : l.length ≤ 100000000) :
    Calls Tryz.prog 136 #[v] w fun e w' => ScPost (scanS l) w e w' := by
  obtain ⟨i0, hi0, hz0, hz1, hz2⟩ := info_parts infoB
  have Hi0 := Lib.hid hi0; have Hz0 := Lib.hid hz0; have Hz1 := Lib.hid hz1; have Hz2 := Lib.hid hz2
  have H := Lib.hid h
  obtain ⟨A, c, rfl, hc⟩ := h.len
  have HS : Hid (scanS l = scanF l.length l) := rfl
  clear h hi0 hz0 hz1 hz2
  generalize scanS l = R at *
  obtain ⟨rs, rn⟩ := R
  go_enter Tryz.func136, Tryz.ntmps136
  go_wp2_with fail
  go_loopw [4, 5] (fun out ai wr => ∃ (a f : Nat) (qs : List (List UInt8 × Value)), ai = .int .i64 a ∧ a ≤ l.length ∧ l.length - a ≤ f ∧ qs.length * 5 ≤ a ∧ Hid ((rs, rn) = (qs.map (·.1) ++ (scanF f (l.drop a)).1, a + (scanF f (l.drop a)).2)) ∧ Hid (wr.ownsRow w.heap.size 36 1 out qs.length (qs.map (·.2))) ∧ Hid (BsOwn w wr out qs) ∧ Hid (Below w.heap.size w wr)) (fun _ ai _ => l.length - (intOf ai).toNat)
  case atStart => exact ⟨0, l.length, [], rfl, by omega, by omega, by simp, (by show _ = _; rw [HS.out]; simp), World.ownsRow_nil _ _ _ _, (show BsOwn _ _ _ _ from by intro q hq; cases hq), Below.refl _ _⟩
  case round =>
    obtain ⟨a, f, qs, rfl, ha, hf, hq5, HR, Hown, Hds, Hb⟩ := hrel
    have hai : (a : Int) ≤ (l.length : Int) := by omega
    have hstep := scanF_step (f := f) (l := l.drop a) (by rw [List.length_drop]; exact hf)
    have HBr := Lib.hid (H.out.keep (Keeps.of_below (M := []) Hb.out) (by simp))
    have hdl : (l.drop a).length = l.length - a := List.length_drop
    have HBn : Hid (¬ c = a → Bs wr [] (.slice (A.map (·.add a)) (l.length - a) (c - a)) (l.drop a)) := fun hn => by
      have := HBr.out.tail a ha
      rwa [if_neg hn] at this
    have HBe : Hid (c = a → Bs wr [] (.slice A (l.length - a) 0) (l.drop a)) := fun he => by
      have := HBr.out.tail a ha
      rwa [if_pos he, he, Nat.sub_self] at this
    have hf2 : Hid (∀ v, Bs wr [] v (l.drop a) → Calls Tryz.prog 101 #[v] wr fun e w' => FrRead (l.drop a) wr e w') := fun v hv => framer_any v (l.drop a) wr hv (by omega)
    have hac : (a : Int) ≤ (c : Int) := by omega
    have hbd := Lib.hid (fun x n (h : readF (l.drop a) = some (x, n)) => readF_bd h)
    rw [hdl] at hbd
    have HSt := Lib.hid hstep
    clear hstep HBr hdl
    have HF : Hid (∀ e W, FrRead (l.drop a) wr e W → (readF (l.drop a) = none ∧ e = .returned (.tuple #[.slice none 0 0, .int .i64 0, .bool false]) ∧ Below wr.heap.size wr W) ∨ (∃ x n, readF (l.drop a) = some (x, n) ∧ ∃ A c, e = .returned (.tuple #[.slice A x.length c, .int .i64 n, .bool true]) ∧ (∀ M, (∀ g ∈ M, g < wr.heap.size) → Bs W M (.slice A x.length c) x) ∧ Below wr.heap.size wr W)) := fun e W h => by
      unfold FrRead at h
      cases hr : readF (l.drop a) with
      | none => rw [hr] at h; exact .inl ⟨rfl, h⟩
      | some p => obtain ⟨x, n⟩ := p; rw [hr] at h; exact .inr ⟨x, n, rfl, h⟩
    go_wp2_with fail
    · refine Calls.mono (by first | exact hf2.out _ (HBn.out (by assumption)) | exact hf2.out _ (HBe.out (by assumption)) | exact hf2.out _ (HBe.out rfl)) ?_
      intro e w3 hpost
      rcases HF.out _ _ hpost with ⟨hr, rfl, hb3⟩ | ⟨x, n, hr, A3, c3, rfl, hB3, hb3⟩
      · have hp : Hid (ScPost (rs, rn) w (.returned (.tuple #[u4, .int .i64 a])) w3) := by
          have h1 := HSt.out
          rw [hr] at h1
          simp only [] at h1
          have h2 := HR.out
          rw [h1] at h2
          simp only [List.append_nil, Nat.add_zero] at h2
          rw [h2]
          refine ⟨u4, rfl, fun M hM => ⟨qs, rfl, ?_, fun q hq => (Hds.out q hq M (fun g hg => .inl (hM g hg))).keep (Keeps.of_below (M := []) hb3) (by simp)⟩, below_then Hb.out hb3⟩
          exact (Rd.of_own Hown.out hM).keep (Keeps.of_below (M := []) hb3) (by simp)
        clear hb3 hpost
        obtain ⟨Ao, co, e0⟩ : ∃ Ao co, u4 = .slice Ao qs.length co := by
          rcases Hown.out.2 with ⟨h, h'⟩ | ⟨g, cap, cur, h, _⟩
          · exact ⟨none, 0, by rw [h, h']⟩
          · exact ⟨_, _, h⟩
        subst e0
        go_wp2
        go_ret2
        exact hp.out
      · obtain ⟨h5, hnl, hx6, hxn⟩ := hbd.out x n hr
        exfalso; omega
    · refine Calls.mono (by first | exact hf2.out _ (HBn.out (by assumption)) | exact hf2.out _ (HBe.out (by assumption)) | exact hf2.out _ (HBe.out rfl)) ?_
      intro e w3 hpost
      rcases HF.out _ _ hpost with ⟨hr, rfl, hb3⟩ | ⟨x, n, hr, A3, c3, rfl, hB3, hb3⟩
      · have hp : Hid (ScPost (rs, rn) w (.returned (.tuple #[u4, .int .i64 a])) w3) := by
          have h1 := HSt.out
          rw [hr] at h1
          simp only [] at h1
          have h2 := HR.out
          rw [h1] at h2
          simp only [List.append_nil, Nat.add_zero] at h2
          rw [h2]
          refine ⟨u4, rfl, fun M hM => ⟨qs, rfl, ?_, fun q hq => (Hds.out q hq M (fun g hg => .inl (hM g hg))).keep (Keeps.of_below (M := []) hb3) (by simp)⟩, below_then Hb.out hb3⟩
          exact (Rd.of_own Hown.out hM).keep (Keeps.of_below (M := []) hb3) (by simp)
        clear hb3 hpost
        obtain ⟨Ao, co, e0⟩ : ∃ Ao co, u4 = .slice Ao qs.length co := by
          rcases Hown.out.2 with ⟨h, h'⟩ | ⟨g, cap, cur, h, _⟩
          · exact ⟨none, 0, by rw [h, h']⟩
          · exact ⟨_, _, h⟩
        subst e0
        go_wp2
        go_ret2
        exact hp.out
      · obtain ⟨h5, hnl, hx6, hxn⟩ := hbd.out x n hr
        have hown1 := Lib.hid ((own_below Hown.out hb3).alloc (.cells #[.slice A3 x.length c3] 36))
        have HB3 := Lib.hid hB3; have Hb3 := Lib.hid hb3
        clear hb3 hB3 hpost
        have hq6 : qs.length ≤ 20000000 := by omega
        simp only []
        go_wp2_with (at_builtin; refine wpList_append_any _ rfl (.tmp 21) (.tmp 23) _ rfl w.heap.size 36 i0 _ 1 24 Tryz.underlying114 Hi0.out Hz0.out Hz1.out Hz2.out rfl (by omega) u4 qs.length (qs.map (·.2)) rfl hown1.out (w3.heap.size + 1) (some ⟨w3.heap.size, 0, none⟩) 1 1 [.slice A3 x.length c3] rfl (reads_new _ _ _ _ _ rfl) ?_ ?_ ?_ ?_ ?_)
        · intro u hu; simp at hu; subst hu; rfl
        · unfold maxLen; omega
        · omega
        · have := Hb.out.size; have := Hb3.out.size; simp; omega
        · intro v2 w2 hown2 hg2 hat2
          have hlt0 : ∀ g, u4.ownBlock = some g → w.heap.size ≤ g ∧ g < wr.heap.size := Hown.out.lt
          have R1 := Lib.hid (bsOwn_step (e := x) Hds.out Hb3.out (fun g hg => (hlt0 g hg).2) Hb.out.size HB3.out hg2 hat2)
          have R2 := Lib.hid (below_step Hb.out Hb3.out hg2 (fun g hg => (hlt0 g hg).1))
          have R3 : Hid (w2.ownsRow w.heap.size 36 1 v2 (qs ++ [(x, Value.slice A3 x.length c3)]).length ((qs ++ [(x, Value.slice A3 x.length c3)]).map (·.2))) := by
            show World.ownsRow _ _ _ _ _ _ _
            rw [List.map_append, List.length_append]
            simpa using hown2
          have R4 : Hid ((rs, rn) = ((qs ++ [(x, Value.slice A3 x.length c3)]).map (·.1) ++ (scanF (f - 1) (l.drop (a + n))).1, (a + n) + (scanF (f - 1) (l.drop (a + n))).2)) := by
            show _ = _
            have h1 := HSt.out
            rw [hr] at h1
            simp only [List.drop_drop] at h1
            rw [HR.out, h1]
            simp [Nat.add_assoc]
          clear hown2 hg2 hat2 hlt0 hown1 HB3
          go_wp2
          go_roundw
          case rel => exact ⟨a + n, f - 1, qs ++ [(x, .slice A3 x.length c3)], by go_num, by omega, by omega, by simp; omega, R4, R3, R1, R2.out⟩
          case measure => simp [intOf] <;> omega
end Go.Proofs.YtinnifhnabncfaaGreatDoor.Vi
end
/- Contracts of wal's functions. -/
section
namespace Go.Proofs.YtinnifhnabncfaaGreatDoor.Vi
open Go.RowKit Base Mem
/-- A log lies in block p, its disk in d. -/
def LgAt (w : World) (p : Nat) (Y : List Nat) (d : Nat) (b : List UInt8) (k n : Nat) : Prop :=
  Blk w p 180 #[.pointer (some ⟨d, 0, none⟩), .int .i64 n] ∧ DkAt w Y d b k ∧ p ∉ Y ∧ n ≤ b.length
theorem LgAt.keep {w w' : World} {M Y : List Nat} {p d k n : Nat} {b : List UInt8} (h : LgAt w p Y d b k n) (hk : Keeps M w w') (hM : ∀ g ∈ p :: Y, g ∉ M) : LgAt w' p Y d b k n :=
  ⟨hk.blk h.1 (hM p (by simp)), h.2.1.keep hk (fun g hg => hM g (by simp [hg])), h.2.2⟩
theorem LgAt.keep0 {w w' : World} {Y : List Nat} {p d k n : Nat} {b : List UInt8} (h : LgAt w p Y d b k n) (hk : Keeps [] w w') : LgAt w' p Y d b k n := h.keep hk (by simp)
theorem DkAt.inX {w : World} {X : List Nat} {d k : Nat} {b : List UInt8} (h : DkAt w X d b k) : d ∈ X := by obtain ⟨_, _, _, h, _⟩ := h; exact h
theorem DkAt.old {w : World} {X : List Nat} {d k : Nat} {b : List UInt8} (h : DkAt w X d b k) : ∀ g ∈ X, g < w.heap.size := by obtain ⟨_, _, _, _, _, _, _, h⟩ := h; exact h
theorem Bss.avoid {w : World} {M M' : List Nat} {v : Value} {rs : List (List UInt8)} (h : Bss w M v rs) (hM : ∀ g ∈ M', g ∈ M ∨ w.heap.size ≤ g) : Bss w M' v rs := by
  obtain ⟨ps, hl, hr, hd⟩ := h
  exact ⟨ps, hl, hr.avoid hM, fun p hp => (hd p hp).avoid hM⟩
def WoPost (Y : List Nat) (d : Nat) (b : List UInt8) (w : World) (e : Ending) (w' : World) : Prop :=
  ∃ p v, e = .returned (.tuple #[.pointer (some ⟨p, 0, none⟩), v]) ∧ w.heap.size ≤ p ∧ LgAt w' p Y d (b.take (scanS b).2) (scanS b).2 (scanS b).1.length ∧ (∀ M, (∀ g ∈ M, g < w.heap.size) → Bss w' (p :: M) v (scanS b).1) ∧ Keeps Y w w'
set_option maxRecDepth 100000 in
theorem wopen_any (Y : List Nat) (d k : Nat) (b : List UInt8) (w : World) (h : DkAt w Y d b k) :
    Calls Tryz.prog 78 #[.pointer (some ⟨d, 0, none⟩)] w fun e w' => WoPost Y d b w e w' := by
  have hle := h.le
  have H := Lib.hid h
  have hall := Lib.hid (dkall_any w h)
  obtain ⟨hs1, _, hs3⟩ := scanS_bd b
  have hsc : Hid (∀ W v, Bs W [] v b → Calls Tryz.prog 136 #[v] W fun e w' => ScPost (scanS b) W e w') := fun W v hv => scan_any v b W hv (by omega)
  have HP : Hid (∀ e W, WoPost Y d b w e W = ∃ p v, e = .returned (.tuple #[.pointer (some ⟨p, 0, none⟩), v]) ∧ w.heap.size ≤ p ∧ LgAt W p Y d (b.take (scanS b).2) (scanS b).2 (scanS b).1.length ∧ (∀ M, (∀ g ∈ M, g < w.heap.size) → Bss W (p :: M) v (scanS b).1) ∧ Keeps Y w W) := fun _ _ => rfl
  have hdY := h.inX
  have hN : Hid ((scanS b).1.length ≤ (scanS b).2) := by
    have : ∀ (f : Nat) (l : List UInt8), (scanF f l).1.length ≤ (scanF f l).2 := by
      intro f
      induction f with
      | zero => intro l; simp [scanF]
      | succ f ih =>
        intro l
        rw [scanF]
        cases hr : readF l with
        | none => simp
        | some p =>
          obtain ⟨x, n⟩ := p
          have := readF_bd hr
          have := ih (l.drop n)
          simp only [List.length_cons]; omega
    exact this _ _
  clear h
  generalize scanS b = R at *
  obtain ⟨rs, n⟩ := R
  simp only [] at hs1 hs3 HP hN
  go_enter Tryz.func78, Tryz.ntmps78
  go_wp2_with fail
  refine hall.out.mono ?_
  rintro e w1 ⟨v1, rfl, hown, hb1⟩
  have HB1 : Hid (Bs w1 [] v1 b) := by
    have := Rd.of_own (M := []) hown (by simp)
    exact this
  have Hk1 := Lib.hid (Keeps.of_below (M := []) hb1)
  clear hown hb1 hall
  go_wp2_with fail
  refine (hsc.out _ _ HB1.out).mono ?_
  rintro e w2 ⟨v2, rfl, hbs, hb2⟩
  have Hk2 := Lib.hid (Hk1.out.trans (Keeps.of_below (M := []) hb2) (by simp))
  have Hbs := Lib.hid (fun (M : List Nat) (hM : ∀ g ∈ M, g < w.heap.size) => hbs M (fun g hg => Nat.lt_of_lt_of_le (hM g hg) Hk1.out.size))
  clear hbs hb2 Hk1 HB1 hsc
  simp only []
  go_wp2_with fail
  refine (dkcut_any w2 (H.out.keep0 Hk2.out) n hs1).mono ?_
  rintro e w3 ⟨rfl, hD, hk3⟩
  have Hk3 : Hid (Keeps Y w w3) := (Hk2.out.mono (M' := Y) (by simp)).trans hk3 (fun g hg => by simp at hg; subst hg; exact .inl hdY)
  have hdw := H.out.lt
  have HB3 := Lib.hid (fun (M : List Nat) (hM : ∀ g ∈ M, g < w.heap.size) => ((Hbs.out (d :: M) (fun g hg => by rcases List.mem_cons.1 hg with rfl | hg; exact hdw; exact hM g hg)).keep hk3 (fun g hg => .inl (by simp at hg; simp [hg]))).avoid (M' := M) (fun g hg => .inl (by simp [hg])))
  have HD := Lib.hid hD
  have hlen : (b.take n).length = n := by rw [List.length_take]; omega
  have hR : Hid (WoPost Y d b w (.returned (.tuple #[.pointer (some ⟨w3.heap.size, 0, none⟩), v2])) (w3.alloc (.cells #[.pointer (some ⟨d, 0, none⟩), .int .i64 rs.length] 180))) := by
    show WoPost _ _ _ _ _ _
    have hka : Keeps [] w3 (w3.alloc (.cells #[.pointer (some ⟨d, 0, none⟩), .int .i64 rs.length] 180)) := (Keeps.refl _ _).alloc _
    rw [HP.out]
    refine ⟨w3.heap.size, v2, rfl, Hk3.out.size, ⟨Blk.new w3 _ _, HD.out.keep0 hka, fun hm => by have := HD.out.old _ hm; omega, by rw [hlen]; exact hN.out⟩, fun M hM => ?_, Hk3.out.trans hka (by simp)⟩
    exact ((HB3.out M hM).avoid (M' := w3.heap.size :: M) (fun g hg => by rcases List.mem_cons.1 hg with rfl | hg; exact .inr (Nat.le_refl _); exact .inl hg)).keep hka (by simp)
  obtain ⟨A2, c2, rfl, _⟩ := (HB3.out [] (by simp)).len
  clear hD hk3
  go_wp2
  go_ret2
  exact hR.out
def WaPost (p : Nat) (Y : List Nat) (d : Nat) (b l : List UInt8) (k n : Nat) (sync : Bool) (w : World) (e : Ending) (w' : World) : Prop :=
  if l.length ≤ 65536 ∧ b.length + (frameL l).length ≤ 1048576 then e = .returned (.int .i64 0) ∧ ∃ Y', LgAt w' p Y' d (b ++ frameL l) (if sync = true then b.length + (frameL l).length else k) (n + 1) ∧ Grows Y w Y' ∧ Keeps (p :: Y) w w'
  else ∃ c : Int, e = .returned (.int .i64 c) ∧ c ≠ 0 ∧ Keeps [] w w'
set_option maxRecDepth 100000 in
theorem wappend_any (p : Nat) (Y : List Nat) (d k n : Nat) (b : List UInt8) (w : World) (h : LgAt w p Y d b k n) (v : Value) (l : List UInt8) (hv : Bs w [] v l) :
    Calls Tryz.prog 181 #[.pointer (some ⟨p, 0, none⟩), v] w fun e w' => WaPost p Y d b l k n false w e w' := by
  have hle := h.2.1.le
  have hfl := frameL_len l
  have hnb := h.2.2.2
  have H := Lib.hid h
  have hp := h.1.lt
  by_cases hlong : 65536 < l.length
  · have HP : Hid (∀ e W, (∃ c : Int, e = .returned (.int .i64 c) ∧ c ≠ 0 ∧ Keeps [] w W) → WaPost p Y d b l k n false w e W) := fun e W h => by unfold WaPost; rw [if_neg (by omega)]; exact h
    have hf := Lib.hid (frame_long v l w hv hlong)
    obtain ⟨A, c, rfl, _⟩ := hv.len
    clear h hv
    go_enter Tryz.func181, Tryz.ntmps181
    go_wp2_with fail
    refine hf.out.mono ?_
    rintro e w1 ⟨rfl, rfl⟩
    go_wp2
    go_ret
    exact HP.out _ _ ⟨3, rfl, by omega, Keeps.refl _ _⟩
  · have hf := Lib.hid (frame_any v l w hv (by omega))
    obtain ⟨A, c, rfl, _⟩ := hv.len
    have hul := Lib.uvarint_length64 (x := l.length) (by omega)
    clear hv h
    have HP : Hid (∀ e W, (b.length + (frameL l).length ≤ 1048576 → e = .returned (.int .i64 0) ∧ ∃ Y', LgAt W p Y' d (b ++ frameL l) k (n + 1) ∧ Grows Y w Y' ∧ Keeps (p :: Y) w W) → (¬ b.length + (frameL l).length ≤ 1048576 → ∃ c : Int, e = .returned (.int .i64 c) ∧ c ≠ 0 ∧ Keeps [] w W) → WaPost p Y d b l k n false w e W) := fun e W h1 h2 => by
      unfold WaPost
      by_cases hr : b.length + (frameL l).length ≤ 1048576
      · rw [if_pos ⟨by omega, hr⟩]; exact h1 hr
      · rw [if_neg (by omega)]; exact h2 hr
    have HFr : Hid (∀ e W, FrPost l w e W → ∃ A c, e = .returned (.tuple #[.slice A (frameL l).length c, .int .i64 0]) ∧ (∀ M, (∀ g ∈ M, g < w.heap.size) → Bs W M (.slice A (frameL l).length c) (frameL l)) ∧ Below w.heap.size w W) := fun _ _ h => h
    generalize frameL l = x at *
    have hx5 : 5 ≤ x.length := by have := Lib.uvarint_pos l.length; omega
    have hx6 : x.length ≤ 65600 := by omega
    clear hfl hul
    go_enter Tryz.func181, Tryz.ntmps181
    go_wp2_with fail
    refine hf.out.mono ?_
    intro e w1 hfp
    obtain ⟨A1, c1, rfl, hB, hb1⟩ := HFr.out _ _ hfp
    have Hk1 := Lib.hid (Keeps.of_below (M := []) hb1)
    have HB := Lib.hid (hB [] (by simp))
    have HL1 := Lib.hid (H.out.keep0 Hk1.out)
    have q0 := HL1.out.1.cell 0
    simp only [List.getElem?_toArray, List.getElem?_cons_zero] at q0
    clear hB hb1 hf
    simp only []
    go_wp2_with fail
    refine (dkappend_any w1 HL1.out.2.1 _ x [] HB.out (by omega) (by omega)).mono ?_
    intro e w2 hpost
    by_cases hr : b.length + x.length ≤ 1048576
    · unfold DaPost at hpost
      rw [if_pos hr] at hpost
      obtain ⟨rfl, Y', hD, hG, hK⟩ := hpost
      have hB2 : Blk w2 p 180 #[.pointer (some ⟨d, 0, none⟩), .int .i64 n] := hK.blk HL1.out.1 HL1.out.2.2.1
      have q1 := hB2.cell 1
      have f1 := hB2.frozen 1
      simp only [List.getElem?_toArray, List.getElem?_cons_succ, List.getElem?_cons_zero] at q1
      have hR : Hid (WaPost p Y d b l k n false w (.returned (.int .i64 0)) (w2.setCell ⟨p, 1, none⟩ (.int .i64 ((n : Int) + 1)))) := by
        refine HP.out _ _ (fun _ => ⟨rfl, Y', ?_, ?_, ?_⟩) (fun h => absurd hr h)
        · have hk3 : Keeps [p] w2 (w2.setCell ⟨p, 1, none⟩ (.int .i64 ((n : Int) + 1))) := (Keeps.refl _ _).setCell (by simp) _
          have hpY : p ∉ Y' := fun hm => by
            rcases hG p hm with h | h
            · exact HL1.out.2.2.1 h
            · have := Hk1.out.size; omega
          refine ⟨?_, hD.keep hk3 (fun g hg => by rintro hm; simp at hm; subst hm; exact hpY hg), hpY, by rw [List.length_append]; omega⟩
          have := hB2.set_ 1 (.int .i64 ((n : Int) + 1))
          simpa using this
        · intro g hg
          rcases hG g hg with h | h
          · exact .inl h
          · exact .inr (Nat.le_trans Hk1.out.size h)
        · exact (((Hk1.out.mono (M' := p :: Y) (by simp)).trans hK (fun g hg => .inl (by simp [hg]))).setCell (by simp) _)
      clear hD hG hK hB2
      go_wp2
      go_ret
      exact hR.out
    · unfold DaPost at hpost
      rw [if_neg hr] at hpost
      obtain ⟨rfl, rfl⟩ := hpost
      have hR : Hid (WaPost p Y d b l k n false w (.returned (.int .i64 24)) w1) := HP.out _ _ (fun h => absurd h hr) (fun _ => ⟨24, rfl, by omega, Hk1.out⟩)
      go_wp2
      go_ret
      exact hR.out
theorem wsync_any (p : Nat) (Y : List Nat) (d k n : Nat) (b : List UInt8) (w : World) (h : LgAt w p Y d b k n) :
    Calls Tryz.prog 182 #[.pointer (some ⟨p, 0, none⟩)] w fun e w' => e = .returned (.tuple #[]) ∧ LgAt w' p Y d b b.length n ∧ Keeps Y w w' := by
  have H := Lib.hid h
  have q0 := h.1.cell 0
  simp only [List.getElem?_toArray, List.getElem?_cons_zero] at q0
  have hs := Lib.hid (dksync_any w h.2.1)
  have hp := h.1.lt
  clear h
  go_enter Tryz.func182, Tryz.ntmps182
  go_wp2_with fail
  refine hs.out.mono ?_
  rintro e w1 ⟨rfl, hD, hk⟩
  have hR : Hid (LgAt w1 p Y d b b.length n ∧ Keeps Y w w1) := ⟨⟨hk.blk H.out.1 (by simp; rintro rfl; exact H.out.2.2.1 H.out.2.1.inX), hD, H.out.2.2⟩, hk.mono (fun g hg => by simp at hg; subst hg; exact .inl H.out.2.1.inX)⟩
  clear hD hk
  go_wp2
  go_end0
  exact ⟨rfl, hR.out⟩
set_option maxRecDepth 100000 in
theorem wwrite_any (p : Nat) (Y : List Nat) (d k n : Nat) (b : List UInt8) (w : World) (h : LgAt w p Y d b k n) (v : Value) (l : List UInt8) (hv : Bs w [] v l) :
    Calls Tryz.prog 141 #[.pointer (some ⟨p, 0, none⟩), v] w fun e w' => WaPost p Y d b l k n true w e w' := by
  have ha := Lib.hid (wappend_any p Y d k n b w h v l hv)
  obtain ⟨A, c, rfl, _⟩ := hv.len
  have hlen : (b ++ frameL l).length = b.length + (frameL l).length := List.length_append
  clear h hv
  by_cases hr : l.length ≤ 65536 ∧ b.length + (frameL l).length ≤ 1048576
  · have HP : Hid (∀ e W, (e = .returned (.int .i64 0) ∧ ∃ Y', LgAt W p Y' d (b ++ frameL l) (b.length + (frameL l).length) (n + 1) ∧ Grows Y w Y' ∧ Keeps (p :: Y) w W) → WaPost p Y d b l k n true w e W) := fun e W h => by unfold WaPost; rw [if_pos hr]; exact h
    have HA : Hid (∀ e W, WaPost p Y d b l k n false w e W → (e = .returned (.int .i64 0) ∧ ∃ Y', LgAt W p Y' d (b ++ frameL l) k (n + 1) ∧ Grows Y w Y' ∧ Keeps (p :: Y) w W)) := fun e W h => by unfold WaPost at h; rw [if_pos hr] at h; exact h
    go_enter Tryz.func141, Tryz.ntmps141
    go_wp2_with fail
    refine ha.out.mono ?_
    intro e w1 hpost
    obtain ⟨rfl, Y', hL, hG, hK⟩ := HA.out _ _ hpost
    have HL := Lib.hid hL; have HG := Lib.hid hG; have HK := Lib.hid hK
    clear hL hG hK hpost
    go_wp2_with fail
    refine (wsync_any p Y' d k (n + 1) _ w1 HL.out).mono ?_
    rintro e w2 ⟨rfl, hL2, hk2⟩
    have hR : Hid (WaPost p Y d b l k n true w (.returned (.int .i64 0)) w2) := by
      refine HP.out _ _ ⟨rfl, Y', by rw [← hlen]; exact hL2, HG.out, HK.out.trans hk2 (fun g hg => ?_)⟩
      rcases HG.out g hg with h | h
      · exact .inl (by simp [h])
      · exact .inr h
    clear hL2 hk2
    go_wp2
    go_ret
    exact hR.out
  · have HP : Hid (∀ e W, (∃ c : Int, e = .returned (.int .i64 c) ∧ c ≠ 0 ∧ Keeps [] w W) → WaPost p Y d b l k n true w e W) := fun e W h => by unfold WaPost; rw [if_neg hr]; exact h
    have HA : Hid (∀ e W, WaPost p Y d b l k n false w e W → ∃ c : Int, e = .returned (.int .i64 c) ∧ c ≠ 0 ∧ Keeps [] w W) := fun e W h => by unfold WaPost at h; rw [if_neg hr] at h; exact h
    go_enter Tryz.func141, Tryz.ntmps141
    go_wp2_with fail
    refine ha.out.mono ?_
    intro e w1 hpost
    obtain ⟨x, rfl, hx, hk⟩ := HA.out _ _ hpost
    have hR : Hid (WaPost p Y d b l k n true w (.returned (.int .i64 x)) w1) := HP.out _ _ ⟨x, rfl, hx, hk⟩
    have hx0 : (x == 0) = false := by simpa using hx
    clear hpost hk
    go_wp2
    go_ret
    exact hR.out
end Go.Proofs.YtinnifhnabncfaaGreatDoor.Vi
end
/- Contracts of entry.Copy and entry.Copies. -/
section
namespace Go.Proofs.YtinnifhnabncfaaGreatDoor.Mem
open Go.RowKit
theorem copy_any (M : List Nat) (e : EntryD) (dv : Value) (w : World) (h : Ds w M dv e.ds) (hb : e.ds.length * 24 ≤ 140737488355328) :
    Calls Tryz.prog 138 #[.agg (eCell (e, dv)).toArray] w fun r w' => ∃ dv', r = .returned (.agg (eCell (e, dv')).toArray) ∧ (∀ M', (∀ g ∈ M', g < w.heap.size) → Ds w' M' dv' e.ds) ∧ Below w.heap.size w w' := by
  unfold eCell
  go_enter Tryz.func138, Tryz.ntmps138
  go_wp2_with fail
  refine (cloneDelta M dv _ _ _ ((h.keep (Keeps.refl [] _) (by simp)).keep (((Keeps.refl [] w).alloc _).alloc _) (by simp)) (dCells_one _) hb).mono ?_
  rintro r w1 ⟨v', rfl, hown, hbel⟩
  obtain ⟨hc, hf⟩ := bcell hbel
  have hc5 : w1.cell? ⟨w.heap.size, 5, none⟩ = some dv := by rw [hc _ _ (by simp; omega)]; go_simp
  have hz : w.heap.size + 1 < w1.heap.size := by have := hbel.size; simp at this; omega
  have hrd : ∀ M', (∀ g ∈ M', g < w.heap.size + 2) → Rd w1 M' 2 v' e.ds.length (dCells e.ds) := fun M' hM => Rd.of_own hown (by intro g hg; have := hM g hg; simp; omega)
  have hb2 : Below w.heap.size w w1 := ((Below.refl _ _).alloc (Nat.le_refl _) _).alloc (by simp) _ |>.trans (hbel.mono (by simp; omega))
  clear hown hbel
  obtain ⟨A, c, rfl, hc2, _⟩ := hrd [] (by simp)
  have Hrd := Lib.hid hrd; have Hb2 := Lib.hid hb2; have Hh := Lib.hid h; have Hb := Lib.hid hb
  clear hrd hb2 h hb
  go_wp2_with (go_at_call 76; refine (clipDelta A _ c _ hc2).mono ?_; rintro e w' ⟨rfl, rfl⟩)
  have hd : ∀ o, o < 9 → ∃ u, w1.cell? ⟨w.heap.size + 1, o, none⟩ = some u := by
    intro o ho
    rw [hc _ _ (by simp)]
    rcases (show o = 0 ∨ o = 1 ∨ o = 2 ∨ o = 3 ∨ o = 4 ∨ o = 5 ∨ o = 6 ∨ o = 7 ∨ o = 8 by omega) with rfl | rfl | rfl | rfl | rfl | rfl | rfl | rfl | rfl <;> exact ⟨_, by go_simp; rfl⟩
  obtain ⟨u0, d0⟩ := hd 0 (by omega); obtain ⟨u1, d1⟩ := hd 1 (by omega); obtain ⟨u2, d2⟩ := hd 2 (by omega); obtain ⟨u3, d3⟩ := hd 3 (by omega)
  obtain ⟨u4, d4⟩ := hd 4 (by omega); obtain ⟨u5, d5⟩ := hd 5 (by omega); obtain ⟨u6, d6⟩ := hd 6 (by omega); obtain ⟨u7, d7⟩ := hd 7 (by omega); obtain ⟨u8, d8⟩ := hd 8 (by omega)
  refine bodyPost_ret (v := .agg #[.int .i64 e.kind, .int .i64 e.ag, .int .i64 e.sh, .int .i64 e.seq, .int .i64 e.ep, .slice A e.ds.length e.ds.length, .string e.ser, .int .i64 e.fr, .int .i64 e.tag]) (by simp [results, Tryz.results138, go_sem, d0, d1, d2, d3, d4, d5, d6, d7, d8]) rfl ⟨_, rfl, ?_, ?_⟩
  · intro M' hM
    have h0 := (Hrd.out (w.heap.size :: (w.heap.size + 1) :: M') (by intro g hg; simp at hg; rcases hg with rfl | rfl | hg; omega; omega; have := hM g hg; omega)).clip
    refine (h0.keep (M' := [w.heap.size, w.heap.size + 1]) ?_ ?_).more.more
    · repeat (first | (with_reducible refine Keeps.setCell ?_ (by simp) _) | (with_reducible exact Keeps.refl _ _))
    · intro g hg; simp at hg; rcases hg with rfl | rfl <;> simp
  · repeat (first | (with_reducible refine Below.setCell ?_ (by simp) _) | (with_reducible exact Hb2.out))
theorem infoEntry : (Tryz.prog.info? 26).map (fun i => (i.zero, i.size, i.bytes)) = some (some (.agg #[.int .i64 0, .int .i64 0, .int .i64 0, .int .i64 0, .int .i64 0, .slice none 0 0, .string ByteArray.empty, .int .i64 0, .int .i64 0]), 9, 96) := by kernel_rfl
set_option maxRecDepth 100000 in
set_option maxHeartbeats 400000 in
theorem copies_any (M : List Nat) (v : Value) (l : List EntryD) (w : World) (h : Ens w M v l) (hn : l.length ≤ 1048576) (hb : ∀ e ∈ l, e.ds.length ≤ 1048576) :
    Calls Tryz.prog 81 #[v] w fun r w' => ∃ A, r = .returned (.slice A l.length l.length) ∧ (∀ M', (∀ g ∈ M', g < w.heap.size) → Ens w' M' (.slice A l.length l.length) l) ∧ Below w.heap.size w w' := by
  obtain ⟨A, c, rfl, hc⟩ := h.len
  obtain ⟨i0, hi0, hz0, hz1, hz2⟩ := info_parts infoEntry
  have Hh := Lib.hid h; have Hb := Lib.hid hb
  have Hi0 := Lib.hid hi0; have Hz0 := Lib.hid hz0; have Hz1 := Lib.hid hz1; have Hz2 := Lib.hid hz2
  clear h hb hi0 hz0 hz1 hz2
  go_enter Tryz.func81, Tryz.ntmps81
  go_wp2
  go_loopw [3, 8] (fun out i wr => ∃ (k : Nat) (qs : List (EntryD × Value)), k ≤ l.length ∧ i = .int .i64 k ∧ Hid (qs.map (·.1) = l.take k) ∧ Hid (wr.ownsRow w.heap.size 26 9 out k (qs.flatMap eCell)) ∧ Hid (DsOwn w wr out qs) ∧ Below w.heap.size w wr)
    (fun _ i _ => l.length - (intOf i).toNat)
  case atStart => exact ⟨0, [], by omega, rfl, rfl, World.ownsRow_nil _ _ _ _, (show DsOwn _ _ _ _ from by intro q hq; cases hq), Below.refl _ _⟩
  case round =>
    obtain ⟨k, qs, hk, rfl, hq, hown, hds, hbel⟩ := hrel
    have Hbel := Lib.hid hbel; clear hbel
    by_cases hlt : k < l.length
    · obtain ⟨ps, hps, hr, hd⟩ := Hh.out.keep (Keeps.of_below (M := []) Hbel.out) (by simp)
      have hpk : k < ps.length := by rw [← List.length_map (f := (·.1)), hps]; exact hlt
      obtain ⟨g, off, cap, he, hcap, hg, hgM, hcell⟩ := Rd.at_ eCell 9 (fun _ => rfl) hr hpk
      injection he with he1 he2 he3
      subst he1
      have Hhyp := Lib.hid hcell
      have hc0 : wr.cell? ⟨g, off + k * 9, none⟩ = _ := hcell 0 _ rfl; have hc1 := hcell 1 _ rfl; have hc2 := hcell 2 _ rfl; have hc3 := hcell 3 _ rfl; have hc4 := hcell 4 _ rfl; have hc5 := hcell 5 _ rfl; have hc6 := hcell 6 _ rfl; have hc7 := hcell 7 _ rfl; have hc8 := hcell 8 _ rfl
      clear hcell
      have hdk := hd ps[k] (List.getElem_mem hpk)
      have hek : ps[k].1 = l[k] := by subst hps; simp
      have hmk := List.getElem_mem hlt
      have Hps := Lib.hid hps; have Hr := Lib.hid hr; have Hd := Lib.hid hd
      clear hps hr hd he3 hcap he2
      generalize ps[k] = pk at *
      obtain ⟨ek, dvk⟩ := pk
      obtain ⟨Ad, cd, hdv, hcd⟩ := hdk.len
      simp only at hdv hek hcd
      subst hdv
      have Hdk := Lib.hid hdk; have Hek := Lib.hid hek; have Hmk := Lib.hid hmk
      clear hdk hek hmk
      go_wp2_with fail
      refine (copy_any [] ek (.slice Ad ek.ds.length cd) _ ?_ ?_).mono ?_
      · exact (Hdk.out.avoid (M' := []) (by simp)).keep (M' := []) ((Keeps.refl _ _).alloc _) (by simp)
      · have := Hb.out _ Hmk.out; rw [← Hek.out] at this; omega
      rintro r w1 ⟨dv', rfl, hds', hbel'⟩
      obtain ⟨Ad', cd', hdv', hcd'⟩ := (hds' [] (by simp)).len
      subst hdv'
      simp only [eCell]
      have hb1 : Below wr.heap.size wr w1 := (below_new' wr _).trans (hbel'.mono (by simp))
      have hown1 := Lib.hid ((own_below hown.out hb1).alloc (.cells (eCell (ek, .slice Ad' ek.ds.length cd')).toArray 26))
      have Hds' := Lib.hid hds'; have Hbel' := Lib.hid hb1
      clear hds' hbel' hb1
      go_wp2_with (at_builtin; refine wpList_append_any _ rfl (.tmp 12) (.tmp 15) _ rfl w.heap.size 26 i0 _ 9 96 Tryz.underlying52 Hi0.out Hz0.out Hz1.out Hz2.out rfl (by omega) u3 k (qs.flatMap eCell) rfl hown1.out (w1.heap.size + 1) (some ⟨w1.heap.size, 0, none⟩) 1 1 (eCell (ek, .slice Ad' ek.ds.length cd')) rfl (reads_new _ _ _ _ _ rfl) ?_ ?_ ?_ ?_ ?_)
      · intro u hu; simp [eCell] at hu; rcases hu with rfl | rfl | rfl | rfl | rfl | rfl | rfl | rfl | rfl <;> rfl
      · unfold maxLen; omega
      · omega
      · have := Hbel.out.size; have := Hbel'.out.size; simp; omega
      · intro v2 w2 hown2 hg2 hat2
        have hlt0 : ∀ g, u3.ownBlock = some g → w.heap.size ≤ g ∧ g < wr.heap.size := hown.out.lt
        have R1 := Lib.hid (dsOwn_step (e := ek) hds.out Hbel'.out (fun g hg => (hlt0 g hg).2) Hbel.out.size (fun M' hM => Hds'.out M' (fun g hg => by have := hM g hg; simp; omega)) hg2 hat2)
        have R2 := Lib.hid (below_step Hbel.out Hbel'.out hg2 (fun g hg => (hlt0 g hg).1))
        have R3 := Lib.hid hown2
        clear hown2 hg2 hat2 hlt0
        go_wp2
        go_roundw
        case rel => exact ⟨k + 1, qs ++ [(ek, .slice Ad' ek.ds.length cd')], by omega, by go_num, (by show _ = _; rw [List.map_append, hq.out, List.take_succ_eq_append_getElem hlt, ← Hek.out]; rfl), (by show World.ownsRow _ _ _ _ _ _ _; rw [List.flatMap_append]; simpa using R3.out), R1, R2.out⟩
        case measure => simp [intOf]; omega
    · have hk' : k = l.length := by omega
      subst hk'
      have hqs : qs.map (·.1) = l := by rw [hq.out, List.take_length]
      have hlen : qs.length = l.length := by rw [← hqs, List.length_map]
      have hens : ∀ M', (∀ g ∈ M', g < w.heap.size) → Ens wr M' u3 l := fun M' hM => ⟨qs, hqs, by rw [hlen]; exact Rd.of_own hown.out hM, fun p hp => hds.out p hp M' (fun g hg => .inl (hM g hg))⟩
      obtain ⟨Ao, co, rfl, hco⟩ := (hens [] (by simp)).len
      have Hens := Lib.hid hens
      clear hens hqs hlen
      go_wp2_with (go_at_call 139; refine (clipEntry Ao _ co _ hco).mono ?_; rintro e w' ⟨rfl, rfl⟩)
      go_ret
      refine ⟨Ao, rfl, fun M' hM => ?_, Hbel.out⟩
      obtain ⟨ps, h1, h2, h3⟩ := Hens.out M' hM
      have hl : ps.length = l.length := by rw [← h1, List.length_map]
      exact ⟨ps, h1, by rw [hl] at h2 ⊢; exact h2.clip, h3⟩
end Go.Proofs.YtinnifhnabncfaaGreatDoor.Mem
end
/- Contract of vote.read. -/
section
namespace Go.Proofs.YtinnifhnabncfaaGreatDoor.Vi
open Go.RowKit Base Mem Tape Go.Shelf
def VrPost (R : Option WordD) (w : World) (e : Ending) (w' : World) : Prop := match R with
  | some x => ∃ lv, e = .returned (.tuple #[.agg #[.int .i64 x.t, .int .i64 x.h, lv], .bool true]) ∧ (∀ M, (∀ g ∈ M, g < w.heap.size) → Ens w' M lv x.log) ∧ Keeps [] w w'
  | none => ∃ (a b : Int) (A : Option Addr) (n c : Nat), e = .returned (.tuple #[.agg #[.int .i64 a, .int .i64 b, .slice A n c], .bool false]) ∧ Keeps [] w w'
set_option maxRecDepth 100000 in
set_option maxHeartbeats 1000000 in
theorem vread_any (v : Value) (l : List UInt8) (m : Int) (w : World) (h : Bs w [] v l) (hl : l.length ≤ 65536) (hm : w.cell? ⟨0, 0, none⟩ = some (.int .i64 m)) :
    Calls Tryz.prog 79 #[v] w fun e w' => VrPost (readV l) w e w' := by
  have hw0 : 0 < w.heap.size := by
    have := World.block_lt_of_cell? w _ hm
    simpa using this
  have hkeepm : Hid (∀ W, Keeps [] w W → W.cell? ⟨0, 0, none⟩ = some (.int .i64 m)) := fun W hb => (hb.cell (p := ⟨0, 0, none⟩) hw0 (by simp)).trans hm
  have HR : Hid (readV l = match mgetS (intS (intS l false).2.1 (intS l false).2.2).2.1 (intS (intS l false).2.1 (intS l false).2.2).2.2 with
  | (none, _) => none
  | (some es, l', bad) => if bad = false ∧ l'.isEmpty = true then some ⟨(intS l false).1, (intS (intS l false).2.1 (intS l false).2.2).1, es⟩ else none) := rfl
  have h1 := intS_lt l false
  have l1 := intS_len l false
  have hnew := Lib.hid (fun W (hk : Keeps [] w W) => new_any [] v l W (h.keep hk (by simp)) (by omega))
  have hi1 := Lib.hid (fun W p (hr : RdAt W [] p l false) => rint_any [] p l false W hr)
  obtain ⟨A, c, rfl, hc⟩ := h.len
  clear h hm
  generalize intS l false = r1 at *
  obtain ⟨t, l1', b1⟩ := r1
  simp only [] at h1 l1 HR hi1
  have h2 := intS_lt l1' b1
  have l2 := intS_len l1' b1
  have hi2 := Lib.hid (fun W p (hr : RdAt W [] p l1' b1) => rint_any [] p l1' b1 W hr)
  generalize intS l1' b1 = r2 at *
  obtain ⟨hd, l2', b2⟩ := r2
  simp only [] at h2 l2 HR hi2
  have hg := Lib.hid (fun W M p (hr : RdAt W M p l2' b2) (hp : p ≠ 0) (hmW : W.cell? ⟨0, 0, none⟩ = some (.int .i64 m)) => mget_any M p l2' b2 m W hr (by omega) hmW hp)
  generalize mgetS l2' b2 = r3 at *
  go_enter Tryz.func79, Tryz.ntmps79
  go_wp2_with fail
  obtain ⟨w0, hw0e⟩ : ∃ w0, w0 = w.alloc (.cells #[.int .i64 0, .int .i64 0, .slice none 0 0] 118) := ⟨_, rfl⟩
  have hk0 : Keeps [] w w0 := by rw [hw0e]; exact (Keeps.refl _ _).alloc _
  have hZ0 : Blk w0 w.heap.size 118 #[.int .i64 0, .int .i64 0, .slice none 0 0] := by rw [hw0e]; exact Blk.new w _ _
  have hlt0 := hZ0.lt
  rw [← hw0e]
  clear hw0e
  refine (hnew.out w0 hk0).mono ?_
  rintro e w1 ⟨rfl, hA1, hb1⟩
  have hk1 : Keeps [] w w1 := hk0.trans (Keeps.of_below (M := []) hb1) (by simp)
  have hZ1 := hZ0.below hb1 hlt0
  have hpl := hA1.lt
  obtain ⟨g0, Hg0⟩ : ∃ g0, Hid (w.heap.size = g0) := ⟨_, rfl⟩
  rw [Hg0.out] at hZ1 hlt0 ⊢
  generalize w0.heap.size = p at *
  have HA1 := Lib.hid hA1; have Hk1 := Lib.hid hk1; have HZ1 := Lib.hid hZ1
  clear hk0 hZ0 hA1 hk1 hZ1 hb1 hnew
  go_wp2_with fail
  refine (hi1.out w1 p HA1.out).mono ?_
  rintro e w2 ⟨rfl, hA2, hk2⟩
  have HA2 := Lib.hid hA2; have Hk2 : Hid (Keeps [p] w w2) := (Hk1.out.mono (M' := [p]) (by simp)).trans hk2 (fun g hg => .inl hg)
  have HZ2 := Lib.hid (hk2.blk HZ1.out (by simp; omega))
  clear hA2 hk2 Hk1 HA1 HZ1
  go_wp2_with fail
  refine (hi2.out w2 p HA2.out).mono ?_
  rintro e w3 ⟨rfl, hA3, hk3⟩
  have hZ3 := hk3.blk HZ2.out (by simp; omega)
  have hpl3 := hA3.lt; have hgl3 := hZ3.lt
  obtain ⟨w4, hw4⟩ : ∃ w4, w4 = w3.alloc (.cells #[.int .i64 t, .int .i64 hd, .slice none 0 0] 118) := ⟨_, rfl⟩
  have hk34 : Keeps [] w3 w4 := by rw [hw4]; exact (Keeps.refl _ _).alloc _
  have HB4 : Hid (Blk w4 w3.heap.size 118 #[.int .i64 t, .int .i64 hd, .slice none 0 0]) := by show Blk _ _ _ _; rw [hw4]; exact Blk.new w3 _ _
  have HZ4 := Lib.hid (hk34.blk hZ3 (by simp))
  have HA4 := Lib.hid ((hA3.avoid (M' := [w3.heap.size]) (fun g hg => .inr (by simp at hg; omega))).keep hk34 (by simp) (by simp))
  have Hk4 : Hid (Keeps [p] w w4) := (Hk2.out.trans hk3 (fun g hg => .inl hg)).trans hk34 (by simp)
  have hs34 : g0 ≤ w3.heap.size := by
    rw [← Hg0.out]; exact (Hk2.out.trans hk3 (fun g hg => .inl hg)).size
  clear hA3 hk3 HA2 Hk2 HZ2 hZ3 hk34
  go_wp2_with fail
  rw [← hw4]
  clear hw4
  obtain ⟨g5, Hg5⟩ : ∃ g5, Hid (w3.heap.size = g5) := ⟨_, rfl⟩
  rw [Hg5.out] at HA4 HB4 hpl3 hgl3 hs34 ⊢
  refine (hg.out w4 [g5] p HA4.out (by omega) ((Hk4.out.cell (p := ⟨0, 0, none⟩) hw0 (by simp; omega)).trans (hkeepm.out w (Keeps.refl _ _)))).mono ?_
  intro e w5 hpost
  obtain ⟨r31, r32⟩ := r3
  cases r31 with
  | none =>
    simp only [MGetPost] at hpost
    obtain ⟨rfl, hk5⟩ := hpost
    have hB5 := hk5.blk HB4.out (by simp; omega)
    have hZ5 := hk5.blk HZ4.out (by simp; omega)
    obtain ⟨w6, hw6⟩ : ∃ w6, w6 = w5.setCell ⟨g5, 2, none⟩ (.slice none 0 0) := ⟨_, rfl⟩
    have hB6 : Blk w6 g5 118 #[.int .i64 t, .int .i64 hd, .slice none 0 0] := by rw [hw6]; simpa using hB5.set_ 2 (.slice none 0 0)
    have hk6 : Keeps [g5] w5 w6 := by rw [hw6]; exact (Keeps.refl _ _).setCell (by simp) _
    have hZ6 : Blk w6 g0 118 #[.int .i64 0, .int .i64 0, .slice none 0 0] := hk6.blk hZ5 (by simp; omega)
    have HB6 := Lib.hid hB6; have HZ6 := Lib.hid hZ6
    have hK6 : Hid (Keeps [p, g5] w4 w6) := (hk5.mono (M' := [p, g5]) (fun g hg => .inl (by simp at hg; simp [hg]))).trans hk6 (fun g hg => .inl (by simp at hg; simp [hg]))
    have HC : Hid (∀ W, Keeps [g0] w6 W → (fun W => W.cell? ⟨g5, 0, none⟩ = some (.int .i64 t) ∧ W.cell? ⟨g5, 1, none⟩ = some (.int .i64 hd) ∧ W.cell? ⟨g5, 2, none⟩ = some (.slice none 0 0)) W) := fun W hk => by
      have hb := hk.blk HB6.out (by simp; omega)
      exact ⟨hb.cell 0, hb.cell 1, hb.cell 2⟩
    have z0 := hZ6.cell 0; have z1 := hZ6.cell 1; have z2 := hZ6.cell 2; have f0 := hZ6.frozen 0; have f1 := hZ6.frozen 1; have f2 := hZ6.frozen 2
    simp only [List.getElem?_toArray, List.getElem?_cons_succ, List.getElem?_cons_zero] at z0 z1 z2
    have hgl : g0 < w6.heap.size := hZ6.lt
    have c52 : w5.cell? ⟨g5, 2, none⟩ = some (.slice none 0 0) := hB5.cell 2
    have f52 := hB5.frozen 2
    clear hB6 hk6 hZ6
    go_wp2_with fail
    rw [← hw6]
    clear hw6 c52 f52
    obtain ⟨b0, b1, b2⟩ := HC.out w6 (Keeps.refl _ _)
    have hk9 : Hid (Keeps [] w ((((w6.setCell ⟨g0, 0, none⟩ (.int .i64 t)).setCell ⟨g0, 1, none⟩ (.int .i64 hd)).setCell ⟨g0, 2, none⟩ (.slice none 0 0)).drew)) := by
      have hk9 : Keeps [p, g5, g0] w w6 := (Hk4.out.mono (M' := [p, g5, g0]) (fun g hg => .inl (by simp at hg; simp [hg]))).trans hK6.out (fun g hg => .inl (by simp at hg ⊢; omega))
      exact (((hk9.setCell (by simp) _).setCell (by simp) _).setCell (by simp) _).drew.mono (M' := []) (fun g hg => .inr (by rw [Hg0.out]; simp at hg; omega))
    have HR2 : Hid (readV l = none) := HR.out
    have hP : Hid (VrPost (readV l) w (.returned (.tuple #[.agg #[.int .i64 t, .int .i64 hd, .slice none 0 0], .bool false])) (((w6.setCell ⟨g0, 0, none⟩ (.int .i64 t)).setCell ⟨g0, 1, none⟩ (.int .i64 hd)).setCell ⟨g0, 2, none⟩ (.slice none 0 0)).drew) := by
      show VrPost _ _ _ _
      rw [HR2.out]
      exact ⟨t, hd, none, 0, 0, rfl, hk9.out⟩
    refine wp_region_held_drew (S := (fun W => W.cell? ⟨g5, 0, none⟩ = some (.int .i64 t) ∧ W.cell? ⟨g5, 1, none⟩ = some (.int .i64 hd) ∧ W.cell? ⟨g5, 2, none⟩ = some (.slice none 0 0))) (by kernel_rfl) (HC.out _ (Keeps.refl _ _).drew) (fun hHeld => ?_)
    refine wpAnyH_take (i := 0) (oi := _) (v := ?v0u1) rfl (by kernel_rfl) (by kernel_rfl) (by kernel_rfl) (fun _ _ _ h => h) (Or.inl ⟨by rfl, ?y0u1⟩) (by assumption) ?r0u1
    case y0u1 => (intro w hSw; (try dsimp only at hSw); go_simp <;> with_reducible rfl)
    try simp only [List.getElem_toArray, List.getElem_cons_succ, List.getElem_cons_zero, Act.put, List.setIfInBounds_toArray, List.set_cons_zero, List.set_cons_succ]
    refine wpAnyH_take (i := 1) (oi := _) (v := ?v1u2) rfl (by kernel_rfl) (by kernel_rfl) (by kernel_rfl) (fun _ _ _ h => h) (Or.inl ⟨by rfl, ?y1u2⟩) (by assumption) ?r1u2
    case y1u2 => (intro w hSw; (try dsimp only at hSw); go_simp <;> with_reducible rfl)
    try simp only [List.getElem_toArray, List.getElem_cons_succ, List.getElem_cons_zero, Act.put, List.setIfInBounds_toArray, List.set_cons_zero, List.set_cons_succ]
    refine wpAnyH_take (i := 2) (oi := _) (v := ?v2u3) rfl (by kernel_rfl) (by kernel_rfl) (by kernel_rfl) (fun _ _ _ h => h) (Or.inl ⟨by rfl, ?y2u3⟩) (by assumption) ?r2u3
    case y2u3 => (intro w hSw; (try dsimp only at hSw); go_simp <;> with_reducible rfl)
    try simp only [List.getElem_toArray, List.getElem_cons_succ, List.getElem_cons_zero, Act.put, List.setIfInBounds_toArray, List.set_cons_zero, List.set_cons_succ]
    refine wpAnyH_take (i := 3) (oi := _) (v := undef) rfl (by kernel_rfl) (by kernel_rfl) (by kernel_rfl) (fun _ _ _ h => h) (Or.inr ⟨by rfl, rfl⟩) (by assumption) ?_
    try simp only [List.getElem_toArray, List.getElem_cons_succ, List.getElem_cons_zero, Act.put, List.setIfInBounds_toArray, List.set_cons_zero, List.set_cons_succ]
    refine wpAnyH_take (i := 4) (oi := _) (v := undef) rfl (by kernel_rfl) (by kernel_rfl) (by kernel_rfl) (fun _ _ _ h => h) (Or.inr ⟨by rfl, rfl⟩) (by assumption) ?_
    try simp only [List.getElem_toArray, List.getElem_cons_succ, List.getElem_cons_zero, Act.put, List.setIfInBounds_toArray, List.set_cons_zero, List.set_cons_succ]
    refine wpAnyH_take (i := 5) (oi := _) (v := ?v5u4) rfl (by kernel_rfl) (by kernel_rfl) (by kernel_rfl) (fun _ _ _ h => h) (Or.inl ⟨by rfl, ?y5u4⟩) (by assumption) ?r5u4
    case y5u4 => (intro w hSw; (try dsimp only at hSw); go_simp <;> with_reducible rfl)
    try simp only [List.getElem_toArray, List.getElem_cons_succ, List.getElem_cons_zero, Act.put, List.setIfInBounds_toArray, List.set_cons_zero, List.set_cons_succ]
    refine wpAnyH_ready (rs := [6]) (by kernel_rfl) (by simp) ?_
    refine AllReadyH.cons (o := _) rfl (fun K hK => ?_) AllReadyH.nil
    go_simp
    refine hK.out _ _ (HC.out _ ((((Keeps.refl _ _).drew.setCell (by simp) _).setCell (by simp) _).setCell (by simp) _)) (fun hHeld2 => ?_)
    clear hK K hHeld
    have hHeld := hHeld2
    clear hHeld2
    try simp only [List.getElem_toArray, List.getElem_cons_succ, List.getElem_cons_zero, Act.put, List.setIfInBounds_toArray, List.set_cons_zero, List.set_cons_succ]
    refine wpAnyH_take (i := 7) (oi := _) (v := ?v7u5) rfl (by kernel_rfl) (by kernel_rfl) (by kernel_rfl) (fun _ _ _ h => h) (Or.inl ⟨by rfl, ?y7u5⟩) (by assumption) ?r7u5
    case y7u5 => (intro w hSw; (try dsimp only at hSw); go_simp <;> with_reducible rfl)
    try simp only [List.getElem_toArray, List.getElem_cons_succ, List.getElem_cons_zero, Act.put, List.setIfInBounds_toArray, List.set_cons_zero, List.set_cons_succ]
    refine wpAnyH_done (by kernel_rfl) ?_ _
    have hZ9 : Blk (((w6.setCell ⟨g0, 0, none⟩ (.int .i64 t)).setCell ⟨g0, 1, none⟩ (.int .i64 hd)).setCell ⟨g0, 2, none⟩ (.slice none 0 0)).drew g0 118 #[.int .i64 t, .int .i64 hd, .slice none 0 0] := by
      have := ((HZ6.out.set_ 0 (.int .i64 t)).set_ 1 (.int .i64 hd)).set_ 2 (.slice none 0 0)
      simp at this
      exact this
    go_wp2_with fail
    refine bodyPost_ret (results_cell2 rfl _ _ g0 118 #[.int .i64 t, .int .i64 hd, .slice none 0 0] _ rfl hZ9 Tryz.underlying118 rfl (by kernel_rfl)) rfl ?_
    exact hP.out
  | some es =>
    obtain ⟨l3, b3⟩ := r32
    simp only [MGetPost] at hpost
    obtain ⟨lv, rfl, hE, hA5, hk5⟩ := hpost
    obtain ⟨Al, cl, rfl, _⟩ := (hE [] (by simp)).len
    have hB5 := hk5.blk HB4.out (by simp; omega)
    have hZ5 := hk5.blk HZ4.out (by simp; omega)
    have hsz45 : g0 < w4.heap.size := by have := HZ4.out.lt; omega
    have HE := Lib.hid hE
    have h54 : g5 < w4.heap.size := HB4.out.lt
    obtain ⟨w6, hw6⟩ : ∃ w6, w6 = w5.setCell ⟨g5, 2, none⟩ (.slice Al es.length cl) := ⟨_, rfl⟩
    have hB6 : Blk w6 g5 118 #[.int .i64 t, .int .i64 hd, .slice Al es.length cl] := by rw [hw6]; simpa using hB5.set_ 2 (.slice Al es.length cl)
    have hk6 : Keeps [g5] w5 w6 := by rw [hw6]; exact (Keeps.refl _ _).setCell (by simp) _
    have hZ6 : Blk w6 g0 118 #[.int .i64 0, .int .i64 0, .slice none 0 0] := hk6.blk hZ5 (by simp; omega)
    have HB6 := Lib.hid hB6; have HZ6 := Lib.hid hZ6
    have hK6 : Hid (Keeps [p, g5] w4 w6) := (hk5.mono (M' := [p, g5]) (fun g hg => .inl (by simp at hg; simp [hg]))).trans hk6 (fun g hg => .inl (by simp at hg; simp [hg]))
    have HC : Hid (∀ W, Keeps [g0] w6 W → (fun W => W.cell? ⟨g5, 0, none⟩ = some (.int .i64 t) ∧ W.cell? ⟨g5, 1, none⟩ = some (.int .i64 hd) ∧ W.cell? ⟨g5, 2, none⟩ = some (.slice Al es.length cl)) W) := fun W hk => by
      have hb := hk.blk HB6.out (by simp; omega)
      exact ⟨hb.cell 0, hb.cell 1, hb.cell 2⟩
    have z0 := hZ6.cell 0; have z1 := hZ6.cell 1; have z2 := hZ6.cell 2; have f0 := hZ6.frozen 0; have f1 := hZ6.frozen 1; have f2 := hZ6.frozen 2
    simp only [List.getElem?_toArray, List.getElem?_cons_succ, List.getElem?_cons_zero] at z0 z1 z2
    have hgl : g0 < w6.heap.size := hZ6.lt
    have c52 : w5.cell? ⟨g5, 2, none⟩ = some (.slice none 0 0) := hB5.cell 2
    have f52 := hB5.frozen 2
    have HK56e := Lib.hid hk6
    have HA6 := Lib.hid (hA5.keep hk6 (fun g hg => .inl hg) (by simp; omega))
    clear hB6 hk6 hZ6
    go_wp2_with fail
    rw [← hw6]
    clear hw6 c52 f52
    obtain ⟨b0, b1, b2⟩ := HC.out w6 (Keeps.refl _ _)
    have hk9 : Hid (Keeps [] w ((((w6.setCell ⟨g0, 0, none⟩ (.int .i64 t)).setCell ⟨g0, 1, none⟩ (.int .i64 hd)).setCell ⟨g0, 2, none⟩ (.slice Al es.length cl)).drew)) := by
      have hk9 : Keeps [p, g5, g0] w w6 := (Hk4.out.mono (M' := [p, g5, g0]) (fun g hg => .inl (by simp at hg; simp [hg]))).trans hK6.out (fun g hg => .inl (by simp at hg ⊢; omega))
      exact (((hk9.setCell (by simp) _).setCell (by simp) _).setCell (by simp) _).drew.mono (M' := []) (fun g hg => .inr (by rw [Hg0.out]; simp at hg; omega))
    have HK56 : Hid (Keeps [g5, g0] w5 w6) := HK56e.out.mono (fun g hg => .inl (by simp at hg; simp [hg]))
    have hEns : Hid (∀ M, (∀ g ∈ M, g < w.heap.size) → Ens (((w6.setCell ⟨g0, 0, none⟩ (.int .i64 t)).setCell ⟨g0, 1, none⟩ (.int .i64 hd)).setCell ⟨g0, 2, none⟩ (.slice Al es.length cl)).drew M (.slice Al es.length cl) es) := fun M hM => by
      rw [Hg0.out] at hM
      have h1 := HE.out (p :: g5 :: g0 :: M) (fun g hg => by
        simp only [List.mem_cons] at hg
        rcases hg with h | h | h | h
        · omega
        · omega
        · omega
        · have := hM g h; omega)
      have hk59 : Keeps [g5, g0] w5 ((((w6.setCell ⟨g0, 0, none⟩ (.int .i64 t)).setCell ⟨g0, 1, none⟩ (.int .i64 hd)).setCell ⟨g0, 2, none⟩ (.slice Al es.length cl)).drew) := (((HK56.out.setCell (by simp) _).setCell (by simp) _).setCell (by simp) _).drew
      exact (h1.keep hk59 (fun g hg => .inl (by simp at hg ⊢; omega))).avoid (fun g hg => .inl (by simp [hg]))
    cases b3 with
    | true =>
      have HR2 : Hid (readV l = none) := by show _ = _; rw [HR.out]; simp
      have hP : Hid (VrPost (readV l) w (.returned (.tuple #[.agg #[.int .i64 t, .int .i64 hd, .slice Al es.length cl], .bool false])) (((w6.setCell ⟨g0, 0, none⟩ (.int .i64 t)).setCell ⟨g0, 1, none⟩ (.int .i64 hd)).setCell ⟨g0, 2, none⟩ (.slice Al es.length cl)).drew) := by
        show VrPost _ _ _ _
        rw [HR2.out]
        exact ⟨t, hd, _, _, _, rfl, hk9.out⟩
      refine wp_region_held_drew (S := (fun W => W.cell? ⟨g5, 0, none⟩ = some (.int .i64 t) ∧ W.cell? ⟨g5, 1, none⟩ = some (.int .i64 hd) ∧ W.cell? ⟨g5, 2, none⟩ = some (.slice Al es.length cl))) (by kernel_rfl) (HC.out _ (Keeps.refl _ _).drew) (fun hHeld => ?_)
      refine wpAnyH_take (i := 0) (oi := _) (v := ?v0u6) rfl (by kernel_rfl) (by kernel_rfl) (by kernel_rfl) (fun _ _ _ h => h) (Or.inl ⟨by rfl, ?y0u6⟩) (by assumption) ?r0u6
      case y0u6 => (intro w hSw; (try dsimp only at hSw); go_simp <;> with_reducible rfl)
      try simp only [List.getElem_toArray, List.getElem_cons_succ, List.getElem_cons_zero, Act.put, List.setIfInBounds_toArray, List.set_cons_zero, List.set_cons_succ]
      refine wpAnyH_take (i := 1) (oi := _) (v := ?v1u7) rfl (by kernel_rfl) (by kernel_rfl) (by kernel_rfl) (fun _ _ _ h => h) (Or.inl ⟨by rfl, ?y1u7⟩) (by assumption) ?r1u7
      case y1u7 => (intro w hSw; (try dsimp only at hSw); go_simp <;> with_reducible rfl)
      try simp only [List.getElem_toArray, List.getElem_cons_succ, List.getElem_cons_zero, Act.put, List.setIfInBounds_toArray, List.set_cons_zero, List.set_cons_succ]
      refine wpAnyH_take (i := 2) (oi := _) (v := ?v2u8) rfl (by kernel_rfl) (by kernel_rfl) (by kernel_rfl) (fun _ _ _ h => h) (Or.inl ⟨by rfl, ?y2u8⟩) (by assumption) ?r2u8
      case y2u8 => (intro w hSw; (try dsimp only at hSw); go_simp <;> with_reducible rfl)
      try simp only [List.getElem_toArray, List.getElem_cons_succ, List.getElem_cons_zero, Act.put, List.setIfInBounds_toArray, List.set_cons_zero, List.set_cons_succ]
      refine wpAnyH_take (i := 3) (oi := _) (v := undef) rfl (by kernel_rfl) (by kernel_rfl) (by kernel_rfl) (fun _ _ _ h => h) (Or.inr ⟨by rfl, rfl⟩) (by assumption) ?_
      try simp only [List.getElem_toArray, List.getElem_cons_succ, List.getElem_cons_zero, Act.put, List.setIfInBounds_toArray, List.set_cons_zero, List.set_cons_succ]
      refine wpAnyH_take (i := 4) (oi := _) (v := undef) rfl (by kernel_rfl) (by kernel_rfl) (by kernel_rfl) (fun _ _ _ h => h) (Or.inr ⟨by rfl, rfl⟩) (by assumption) ?_
      try simp only [List.getElem_toArray, List.getElem_cons_succ, List.getElem_cons_zero, Act.put, List.setIfInBounds_toArray, List.set_cons_zero, List.set_cons_succ]
      refine wpAnyH_take (i := 5) (oi := _) (v := ?v5u9) rfl (by kernel_rfl) (by kernel_rfl) (by kernel_rfl) (fun _ _ _ h => h) (Or.inl ⟨by rfl, ?y5u9⟩) (by assumption) ?r5u9
      case y5u9 => (intro w hSw; (try dsimp only at hSw); go_simp <;> with_reducible rfl)
      try simp only [List.getElem_toArray, List.getElem_cons_succ, List.getElem_cons_zero, Act.put, List.setIfInBounds_toArray, List.set_cons_zero, List.set_cons_succ]
      refine wpAnyH_ready (rs := [6]) (by kernel_rfl) (by simp) ?_
      refine AllReadyH.cons (o := _) rfl (fun K hK => ?_) AllReadyH.nil
      go_simp
      refine hK.out _ _ (HC.out _ ((((Keeps.refl _ _).drew.setCell (by simp) _).setCell (by simp) _).setCell (by simp) _)) (fun hHeld2 => ?_)
      clear hK K hHeld
      have hHeld := hHeld2
      clear hHeld2
      try simp only [List.getElem_toArray, List.getElem_cons_succ, List.getElem_cons_zero, Act.put, List.setIfInBounds_toArray, List.set_cons_zero, List.set_cons_succ]
      refine wpAnyH_take (i := 7) (oi := _) (v := ?v7u10) rfl (by kernel_rfl) (by kernel_rfl) (by kernel_rfl) (fun _ _ _ h => h) (Or.inl ⟨by rfl, ?y7u10⟩) (by assumption) ?r7u10
      case y7u10 => (intro w hSw; (try dsimp only at hSw); go_simp <;> with_reducible rfl)
      try simp only [List.getElem_toArray, List.getElem_cons_succ, List.getElem_cons_zero, Act.put, List.setIfInBounds_toArray, List.set_cons_zero, List.set_cons_succ]
      refine wpAnyH_done (by kernel_rfl) ?_ _
      have hZ9 : Blk (((w6.setCell ⟨g0, 0, none⟩ (.int .i64 t)).setCell ⟨g0, 1, none⟩ (.int .i64 hd)).setCell ⟨g0, 2, none⟩ (.slice Al es.length cl)).drew g0 118 #[.int .i64 t, .int .i64 hd, .slice Al es.length cl] := by
        have := ((HZ6.out.set_ 0 (.int .i64 t)).set_ 1 (.int .i64 hd)).set_ 2 (.slice Al es.length cl)
        simp at this
        exact this
      go_wp2_with fail
      refine bodyPost_ret (results_cell2 rfl _ _ g0 118 #[.int .i64 t, .int .i64 hd, .slice Al es.length cl] _ rfl hZ9 Tryz.underlying118 rfl (by kernel_rfl)) rfl ?_
      exact hP.out
    | false =>
      have HDn : Hid (∀ W, Keeps [] w6 W → Calls Tryz.prog 105 #[.pointer (some ⟨p, 0, none⟩)] W fun e w' => e = .returned (.bool (l3.isEmpty)) ∧ W = w') := fun W hk => by
        have := done_any [] p l3 false W ((HA6.out.avoid (M' := []) (by simp)).keep hk (by simp) (by simp))
        simpa using this
      cases hem : l3.isEmpty with
      | false =>
        rw [hem] at HDn
        have HR2 : Hid (readV l = none) := by show _ = _; rw [HR.out]; simp [hem]
        have hP : Hid (VrPost (readV l) w (.returned (.tuple #[.agg #[.int .i64 t, .int .i64 hd, .slice Al es.length cl], .bool false])) (((w6.setCell ⟨g0, 0, none⟩ (.int .i64 t)).setCell ⟨g0, 1, none⟩ (.int .i64 hd)).setCell ⟨g0, 2, none⟩ (.slice Al es.length cl)).drew) := by
          show VrPost _ _ _ _
          rw [HR2.out]
          exact ⟨t, hd, _, _, _, rfl, hk9.out⟩
        refine wp_region_held_drew (S := (fun W => W.cell? ⟨g5, 0, none⟩ = some (.int .i64 t) ∧ W.cell? ⟨g5, 1, none⟩ = some (.int .i64 hd) ∧ W.cell? ⟨g5, 2, none⟩ = some (.slice Al es.length cl))) (by kernel_rfl) (HC.out _ (Keeps.refl _ _).drew) (fun hHeld => ?_)
        refine wpAnyH_take (i := 0) (oi := _) (v := ?v0u11) rfl (by kernel_rfl) (by kernel_rfl) (by kernel_rfl) (fun _ _ _ h => h) (Or.inl ⟨by rfl, ?y0u11⟩) (by assumption) ?r0u11
        case y0u11 => (intro w hSw; (try dsimp only at hSw); go_simp <;> with_reducible rfl)
        try simp only [List.getElem_toArray, List.getElem_cons_succ, List.getElem_cons_zero, Act.put, List.setIfInBounds_toArray, List.set_cons_zero, List.set_cons_succ]
        refine wpAnyH_take (i := 1) (oi := _) (v := ?v1u12) rfl (by kernel_rfl) (by kernel_rfl) (by kernel_rfl) (fun _ _ _ h => h) (Or.inl ⟨by rfl, ?y1u12⟩) (by assumption) ?r1u12
        case y1u12 => (intro w hSw; (try dsimp only at hSw); go_simp <;> with_reducible rfl)
        try simp only [List.getElem_toArray, List.getElem_cons_succ, List.getElem_cons_zero, Act.put, List.setIfInBounds_toArray, List.set_cons_zero, List.set_cons_succ]
        refine wpAnyH_take (i := 2) (oi := _) (v := ?v2u13) rfl (by kernel_rfl) (by kernel_rfl) (by kernel_rfl) (fun _ _ _ h => h) (Or.inl ⟨by rfl, ?y2u13⟩) (by assumption) ?r2u13
        case y2u13 => (intro w hSw; (try dsimp only at hSw); go_simp <;> with_reducible rfl)
        try simp only [List.getElem_toArray, List.getElem_cons_succ, List.getElem_cons_zero, Act.put, List.setIfInBounds_toArray, List.set_cons_zero, List.set_cons_succ]
        refine wpAnyH_take (i := 3) (oi := _) (v := ?v3u14) rfl (by kernel_rfl) (by kernel_rfl) (by kernel_rfl) (fun _ _ _ h => h) (Or.inl ⟨by rfl, ?y3u14⟩) (by assumption) ?r3u14
        case y3u14 => (intro w hSw; (try dsimp only at hSw); go_simp <;> with_reducible rfl)
        try simp only [List.getElem_toArray, List.getElem_cons_succ, List.getElem_cons_zero, Act.put, List.setIfInBounds_toArray, List.set_cons_zero, List.set_cons_succ]
        refine wpAnyH_ready (rs := [4]) (by kernel_rfl) (by simp) ?_
        refine AllReadyH.cons (o := _) rfl (fun K hK => ?_) AllReadyH.nil
        go_simp
        refine (HDn.out _ (Keeps.refl _ _).drew).mono ?_
        rintro e w7 ⟨rfl, rfl⟩
        refine hK.out _ _ (HC.out _ (Keeps.refl _ _).drew) (fun hHeld2 => ?_)
        clear hK K hHeld
        have hHeld := hHeld2
        clear hHeld2
        try simp only [List.getElem_toArray, List.getElem_cons_succ, List.getElem_cons_zero, Act.put, List.setIfInBounds_toArray, List.set_cons_zero, List.set_cons_succ]
        refine wpAnyH_take (i := 5) (oi := _) (v := ?v5u15) rfl (by kernel_rfl) (by kernel_rfl) (by kernel_rfl) (fun _ _ _ h => h) (Or.inl ⟨by rfl, ?y5u15⟩) (by assumption) ?r5u15
        case y5u15 => (intro w hSw; (try dsimp only at hSw); go_simp <;> with_reducible rfl)
        try simp only [List.getElem_toArray, List.getElem_cons_succ, List.getElem_cons_zero, Act.put, List.setIfInBounds_toArray, List.set_cons_zero, List.set_cons_succ]
        refine wpAnyH_ready (rs := [6]) (by kernel_rfl) (by simp) ?_
        refine AllReadyH.cons (o := _) rfl (fun K hK => ?_) AllReadyH.nil
        go_simp
        refine hK.out _ _ (HC.out _ ((((Keeps.refl _ _).drew.setCell (by simp) _).setCell (by simp) _).setCell (by simp) _)) (fun hHeld2 => ?_)
        clear hK K hHeld
        have hHeld := hHeld2
        clear hHeld2
        try simp only [List.getElem_toArray, List.getElem_cons_succ, List.getElem_cons_zero, Act.put, List.setIfInBounds_toArray, List.set_cons_zero, List.set_cons_succ]
        refine wpAnyH_take (i := 7) (oi := _) (v := ?v7u16) rfl (by kernel_rfl) (by kernel_rfl) (by kernel_rfl) (fun _ _ _ h => h) (Or.inl ⟨by rfl, ?y7u16⟩) (by assumption) ?r7u16
        case y7u16 => (intro w hSw; (try dsimp only at hSw); go_simp <;> with_reducible rfl)
        try simp only [List.getElem_toArray, List.getElem_cons_succ, List.getElem_cons_zero, Act.put, List.setIfInBounds_toArray, List.set_cons_zero, List.set_cons_succ]
        refine wpAnyH_done (by kernel_rfl) ?_ _
        have hZ9 : Blk (((w6.setCell ⟨g0, 0, none⟩ (.int .i64 t)).setCell ⟨g0, 1, none⟩ (.int .i64 hd)).setCell ⟨g0, 2, none⟩ (.slice Al es.length cl)).drew g0 118 #[.int .i64 t, .int .i64 hd, .slice Al es.length cl] := by
          have := ((HZ6.out.set_ 0 (.int .i64 t)).set_ 1 (.int .i64 hd)).set_ 2 (.slice Al es.length cl)
          simp at this
          exact this
        go_wp2_with fail
        refine bodyPost_ret (results_cell2 rfl _ _ g0 118 #[.int .i64 t, .int .i64 hd, .slice Al es.length cl] _ rfl hZ9 Tryz.underlying118 rfl (by kernel_rfl)) rfl ?_
        exact hP.out
      | true =>
        rw [hem] at HDn
        have HR2 : Hid (readV l = some ⟨t, hd, es⟩) := by show _ = _; rw [HR.out]; simp [hem]
        have hP : Hid (VrPost (readV l) w (.returned (.tuple #[.agg #[.int .i64 t, .int .i64 hd, .slice Al es.length cl], .bool true])) (((w6.setCell ⟨g0, 0, none⟩ (.int .i64 t)).setCell ⟨g0, 1, none⟩ (.int .i64 hd)).setCell ⟨g0, 2, none⟩ (.slice Al es.length cl)).drew) := by
          show VrPost _ _ _ _
          rw [HR2.out]
          exact ⟨_, rfl, hEns.out, hk9.out⟩
        refine wp_region_held_drew (S := (fun W => W.cell? ⟨g5, 0, none⟩ = some (.int .i64 t) ∧ W.cell? ⟨g5, 1, none⟩ = some (.int .i64 hd) ∧ W.cell? ⟨g5, 2, none⟩ = some (.slice Al es.length cl))) (by kernel_rfl) (HC.out _ (Keeps.refl _ _).drew) (fun hHeld => ?_)
        refine wpAnyH_take (i := 0) (oi := _) (v := ?v0u17) rfl (by kernel_rfl) (by kernel_rfl) (by kernel_rfl) (fun _ _ _ h => h) (Or.inl ⟨by rfl, ?y0u17⟩) (by assumption) ?r0u17
        case y0u17 => (intro w hSw; (try dsimp only at hSw); go_simp <;> with_reducible rfl)
        try simp only [List.getElem_toArray, List.getElem_cons_succ, List.getElem_cons_zero, Act.put, List.setIfInBounds_toArray, List.set_cons_zero, List.set_cons_succ]
        refine wpAnyH_take (i := 1) (oi := _) (v := ?v1u18) rfl (by kernel_rfl) (by kernel_rfl) (by kernel_rfl) (fun _ _ _ h => h) (Or.inl ⟨by rfl, ?y1u18⟩) (by assumption) ?r1u18
        case y1u18 => (intro w hSw; (try dsimp only at hSw); go_simp <;> with_reducible rfl)
        try simp only [List.getElem_toArray, List.getElem_cons_succ, List.getElem_cons_zero, Act.put, List.setIfInBounds_toArray, List.set_cons_zero, List.set_cons_succ]
        refine wpAnyH_take (i := 2) (oi := _) (v := ?v2u19) rfl (by kernel_rfl) (by kernel_rfl) (by kernel_rfl) (fun _ _ _ h => h) (Or.inl ⟨by rfl, ?y2u19⟩) (by assumption) ?r2u19
        case y2u19 => (intro w hSw; (try dsimp only at hSw); go_simp <;> with_reducible rfl)
        try simp only [List.getElem_toArray, List.getElem_cons_succ, List.getElem_cons_zero, Act.put, List.setIfInBounds_toArray, List.set_cons_zero, List.set_cons_succ]
        refine wpAnyH_take (i := 3) (oi := _) (v := ?v3u20) rfl (by kernel_rfl) (by kernel_rfl) (by kernel_rfl) (fun _ _ _ h => h) (Or.inl ⟨by rfl, ?y3u20⟩) (by assumption) ?r3u20
        case y3u20 => (intro w hSw; (try dsimp only at hSw); go_simp <;> with_reducible rfl)
        try simp only [List.getElem_toArray, List.getElem_cons_succ, List.getElem_cons_zero, Act.put, List.setIfInBounds_toArray, List.set_cons_zero, List.set_cons_succ]
        refine wpAnyH_ready (rs := [4]) (by kernel_rfl) (by simp) ?_
        refine AllReadyH.cons (o := _) rfl (fun K hK => ?_) AllReadyH.nil
        go_simp
        refine (HDn.out _ (Keeps.refl _ _).drew).mono ?_
        rintro e w7 ⟨rfl, rfl⟩
        refine hK.out _ _ (HC.out _ (Keeps.refl _ _).drew) (fun hHeld2 => ?_)
        clear hK K hHeld
        have hHeld := hHeld2
        clear hHeld2
        try simp only [List.getElem_toArray, List.getElem_cons_succ, List.getElem_cons_zero, Act.put, List.setIfInBounds_toArray, List.set_cons_zero, List.set_cons_succ]
        refine wpAnyH_take (i := 5) (oi := _) (v := ?v5u21) rfl (by kernel_rfl) (by kernel_rfl) (by kernel_rfl) (fun _ _ _ h => h) (Or.inl ⟨by rfl, ?y5u21⟩) (by assumption) ?r5u21
        case y5u21 => (intro w hSw; (try dsimp only at hSw); go_simp <;> with_reducible rfl)
        try simp only [List.getElem_toArray, List.getElem_cons_succ, List.getElem_cons_zero, Act.put, List.setIfInBounds_toArray, List.set_cons_zero, List.set_cons_succ]
        refine wpAnyH_ready (rs := [6]) (by kernel_rfl) (by simp) ?_
        refine AllReadyH.cons (o := _) rfl (fun K hK => ?_) AllReadyH.nil
        go_simp
        refine hK.out _ _ (HC.out _ ((((Keeps.refl _ _).drew.setCell (by simp) _).setCell (by simp) _).setCell (by simp) _)) (fun hHeld2 => ?_)
        clear hK K hHeld
        have hHeld := hHeld2
        clear hHeld2
        try simp only [List.getElem_toArray, List.getElem_cons_succ, List.getElem_cons_zero, Act.put, List.setIfInBounds_toArray, List.set_cons_zero, List.set_cons_succ]
        refine wpAnyH_take (i := 7) (oi := _) (v := ?v7u22) rfl (by kernel_rfl) (by kernel_rfl) (by kernel_rfl) (fun _ _ _ h => h) (Or.inl ⟨by rfl, ?y7u22⟩) (by assumption) ?r7u22
        case y7u22 => (intro w hSw; (try dsimp only at hSw); go_simp <;> with_reducible rfl)
        try simp only [List.getElem_toArray, List.getElem_cons_succ, List.getElem_cons_zero, Act.put, List.setIfInBounds_toArray, List.set_cons_zero, List.set_cons_succ]
        refine wpAnyH_done (by kernel_rfl) ?_ _
        have hZ9 : Blk (((w6.setCell ⟨g0, 0, none⟩ (.int .i64 t)).setCell ⟨g0, 1, none⟩ (.int .i64 hd)).setCell ⟨g0, 2, none⟩ (.slice Al es.length cl)).drew g0 118 #[.int .i64 t, .int .i64 hd, .slice Al es.length cl] := by
          have := ((HZ6.out.set_ 0 (.int .i64 t)).set_ 1 (.int .i64 hd)).set_ 2 (.slice Al es.length cl)
          simp at this
          exact this
        go_wp2_with fail
        refine bodyPost_ret (results_cell2 rfl _ _ g0 118 #[.int .i64 t, .int .i64 hd, .slice Al es.length cl] _ rfl hZ9 Tryz.underlying118 rfl (by kernel_rfl)) rfl ?_
        exact hP.out
end Go.Proofs.YtinnifhnabncfaaGreatDoor.Vi
end
/- Contracts of vote's plain functions and of keep. -/
section
namespace Go.Proofs.YtinnifhnabncfaaGreatDoor.Vi
open Go.RowKit Base Mem Tape Go.Shelf
/-- A replica's word lies in block s, its log in p, its disk in d. -/
def StAt (w : World) (s p : Nat) (Y : List Nat) (x : WordD) (d : Nat) (b : List UInt8) (k n : Nat) : Prop :=
  ∃ lv, Blk w s 120 #[.int .i64 x.t, .int .i64 x.h, lv, .pointer (some ⟨p, 0, none⟩)] ∧ Ens w (s :: p :: Y) lv x.log ∧ LgAt w p Y d b k n ∧ s ∉ p :: Y ∧ WOk x
theorem LgAt.old {w : World} {p : Nat} {Y : List Nat} {d k n : Nat} {b : List UInt8} (h : LgAt w p Y d b k n) : ∀ g ∈ p :: Y, g < w.heap.size := fun g hg => by
  rcases List.mem_cons.1 hg with rfl | hg
  · exact h.1.lt
  · exact h.2.1.old g hg
section
variable {w w' : World} {s p : Nat} {Y : List Nat} {x : WordD} {d k n : Nat} {b : List UInt8}
theorem StAt.old (h : StAt w s p Y x d b k n) : ∀ g ∈ s :: p :: Y, g < w.heap.size := fun g hg => by
  obtain ⟨lv, hb, _, hl, _⟩ := h
  rcases List.mem_cons.1 hg with rfl | hg
  · exact hb.lt
  · exact hl.old g hg
theorem StAt.ok (h : StAt w s p Y x d b k n) : WOk x := by obtain ⟨_, _, _, _, _, h⟩ := h; exact h
theorem StAt.keep {M : List Nat} (h : StAt w s p Y x d b k n) (hk : Keeps M w w') (hM : ∀ g ∈ M, w.heap.size ≤ g) : StAt w' s p Y x d b k n := by
  have ho := h.old
  obtain ⟨lv, hb, he, hl, hs, ho'⟩ := h
  exact ⟨lv, hk.blk hb (fun hm => by have := hM s hm; have := ho s (by simp); omega), he.keep hk (fun g hg => .inr (hM g hg)), hl.keep hk (fun g hg hm => by have := hM g hm; have := ho g (by simp at hg ⊢; exact .inr hg); omega), hs, ho'⟩
theorem StAt.keep0 (h : StAt w s p Y x d b k n) (hk : Keeps [] w w') : StAt w' s p Y x d b k n := h.keep hk (by simp)
theorem StAt.lv (h : StAt w s p Y x d b k n) : ∃ A c, Blk w s 120 #[.int .i64 x.t, .int .i64 x.h, .slice A x.log.length c, .pointer (some ⟨p, 0, none⟩)] ∧ Ens w (s :: p :: Y) (.slice A x.log.length c) x.log := by
  obtain ⟨lv, hb, he, _⟩ := h
  obtain ⟨A, c, rfl, _⟩ := he.len
  exact ⟨A, c, hb, he⟩
end
theorem blk4 {w : World} {g : Nat} {t : TypeId} {c0 c1 c2 c3 : Value} (h : Blk w g t #[c0, c1, c2, c3]) :
    w.cell? ⟨g, 0, none⟩ = some c0 ∧ w.cell? ⟨g, 1, none⟩ = some c1 ∧ w.cell? ⟨g, 2, none⟩ = some c2 ∧ w.cell? ⟨g, 3, none⟩ = some c3 ∧ g < w.heap.size := ⟨h.cell 0, h.cell 1, h.cell 2, h.cell 3, h.lt⟩
section
variable {s p : Nat} {Y : List Nat} {x : WordD} {d k n : Nat} {b : List UInt8}
theorem vterm_any (w : World) (h : StAt w s p Y x d b k n) :
    Calls Tryz.prog 31 #[.pointer (some ⟨s, 0, none⟩)] w fun e w' => e = .returned (.int .i64 x.t) ∧ w = w' := by
  obtain ⟨A, c, hb, _⟩ := h.lv
  obtain ⟨c0, c1, c2, c3, hlt⟩ := blk4 hb
  clear h hb
  go_enter Tryz.func31, Tryz.ntmps31
  go_wp2
  go_ret
  exact ⟨rfl, rfl⟩
theorem vhad_any (w : World) (h : StAt w s p Y x d b k n) :
    Calls Tryz.prog 32 #[.pointer (some ⟨s, 0, none⟩)] w fun e w' => e = .returned (.int .i64 x.h) ∧ w = w' := by
  obtain ⟨A, c, hb, _⟩ := h.lv
  obtain ⟨c0, c1, c2, c3, hlt⟩ := blk4 hb
  clear h hb
  go_enter Tryz.func32, Tryz.ntmps32
  go_wp2
  go_ret
  exact ⟨rfl, rfl⟩
/-- What a call answers that makes a row of entries. -/
def EnsPost (l : List EntryD) (w : World) (e : Ending) (w' : World) : Prop := ∃ A, e = .returned (.slice A l.length l.length) ∧ (∀ M, (∀ g ∈ M, g < w.heap.size) → Ens w' M (.slice A l.length l.length) l) ∧ Keeps [] w w'
theorem eok_ds8 {e : EntryD} (h : EOk e) : e.ds.length ≤ 8 := by
  obtain ⟨hr, _⟩ := h
  have hk := right_kind hr
  rcases (right_facts hr).2 with h | h
  · have : e.ds = [] := by
      unfold kindS at hk
      simp [h] at hk
      first | exact hk.2 | exact hk.2.2 | exact hk
    rw [this]; simp
  · exact h.2.2.2.2.2.2.2
theorem vlog_any (w : World) (h : StAt w s p Y x d b k n) :
    Calls Tryz.prog 33 #[.pointer (some ⟨s, 0, none⟩)] w fun e w' => EnsPost x.log w e w' := by
  have hok := h.ok
  obtain ⟨A, c, hb, he⟩ := h.lv
  obtain ⟨c0, c1, c2, c3, hlt⟩ := blk4 hb
  have hc := Lib.hid (copies_any _ _ x.log w he (by have := hok.2.2.1; omega) (fun e hm => by have := eok_ds8 (hok.2.2.2 e hm); omega))
  clear h hb he
  go_enter Tryz.func33, Tryz.ntmps33
  go_wp2_with fail
  refine hc.out.mono ?_
  rintro e w1 ⟨A1, rfl, hE, hb1⟩
  have hP : Hid (EnsPost x.log w (.returned (.slice A1 x.log.length x.log.length)) w1) := ⟨A1, rfl, hE, Keeps.of_below hb1⟩
  clear hE hb1
  go_wp2
  go_ret
  exact hP.out
end
def KpOk (y : WordD) (b : List UInt8) : Prop := (recL y).length ≤ 65536 ∧ b.length + (frameL (recL y)).length ≤ 1048576
instance (y : WordD) (b : List UInt8) : Decidable (KpOk y b) := inferInstanceAs (Decidable (_ ∧ _))
def KpPost (s p : Nat) (Y : List Nat) (y : WordD) (d : Nat) (b : List UInt8) (n : Nat) (w : World) (e : Ending) (w' : World) : Prop :=
  if KpOk y b then e = .returned (.bool true) ∧ ∃ Y', StAt w' s p Y' y d (b ++ frameL (recL y)) (b.length + (frameL (recL y)).length) (n + 1) ∧ Grows Y w Y' ∧ Keeps (s :: p :: Y) w w'
  else e = .returned (.bool false) ∧ Keeps [] w w'
set_option maxRecDepth 100000 in
set_option maxHeartbeats 1000000 in
theorem vkeep_any (s p : Nat) (Y : List Nat) (x y : WordD) (d k n : Nat) (b : List UInt8) (w : World) (h : StAt w s p Y x d b k n) (lv : Value) (he : Ens w (s :: p :: Y) lv y.log) (hy : WOk y) (m : Int) (hm : w.cell? ⟨0, 0, none⟩ = some (.int .i64 m)) :
    Calls Tryz.prog 82 #[.pointer (some ⟨s, 0, none⟩), .agg #[.int .i64 y.t, .int .i64 y.h, lv]] w fun e w' => KpPost s p Y y d b n w e w' := by
  have hw0 : 0 < w.heap.size := by
    have := World.block_lt_of_cell? w _ hm
    simpa using this
  have hkeepm : Hid (∀ W, Keeps [] w W → W.cell? ⟨0, 0, none⟩ = some (.int .i64 m)) := fun W hb => (hb.cell (p := ⟨0, 0, none⟩) hw0 (by simp)).trans hm
  obtain ⟨Al, cl, rfl, _⟩ := he.len
  have H := Lib.hid h; have HE := Lib.hid he; have HY := Lib.hid hy
  have hut := Lib.uvarint_length64 (x := y.t) (by have := hy.1; omega)
  have huh := Lib.uvarint_length64 (x := y.h) (by have := hy.2.1; omega)
  have wt : IntKind.u64.wrap (y.t : Int) = (y.t : Int) := by rw [IntKind.wrap_u64]; have := hy.1; omega
  have wh : IntKind.u64.wrap (y.h : Int) = (y.h : Int) := by rw [IntKind.wrap_u64]; have := hy.2.1; omega
  obtain ⟨w1, hw1⟩ : ∃ w1, w1 = w.alloc (.cells #[.int .i64 y.t, .int .i64 y.h, .slice Al y.log.length cl] 118) := ⟨_, rfl⟩
  have hB1 : Blk w1 w.heap.size 118 #[.int .i64 y.t, .int .i64 y.h, .slice Al y.log.length cl] := by rw [hw1]; exact Blk.new w _ _
  have hk1 : Keeps [] w w1 := by rw [hw1]; exact (Keeps.refl _ _).alloc _
  have HB1 := Lib.hid hB1; have Hk1 := Lib.hid hk1
  have HP1 : Hid (∀ W, Calls Tryz.prog 118 #[.slice none 0 0, .int .u64 y.t] W fun e w' => BsPost ([] ++ Lib.uvarint y.t) W e w') := fun W => put_any _ [] y.t W (Bs.nil _ _) (by have := hy.1; omega) (by simp)
  obtain ⟨L1, hL1⟩ : ∃ L1, L1 = [] ++ Lib.uvarint y.t := ⟨_, rfl⟩
  obtain ⟨L2, hL2⟩ : ∃ L2, L2 = L1 ++ Lib.uvarint y.h := ⟨_, rfl⟩
  have hl1 : L1.length ≤ 10 := by rw [hL1]; simpa using hut
  have hl2 : L2.length ≤ 20 := by rw [hL2, List.length_append]; omega
  have HP2 : Hid (∀ W A, Bs W [] (.slice A L1.length L1.length) L1 → Calls Tryz.prog 118 #[.slice A L1.length L1.length, .int .u64 y.h] W fun e w' => BsPost L2 W e w') := fun W A hv => by
    rw [hL2]; exact put_any _ L1 y.h W hv (by have := hy.2.1; omega) (by omega)
  have HP3 : Hid (∀ W A, Keeps [] w W → Bs W [] (.slice A L2.length L2.length) L2 → Calls Tryz.prog 140 #[.slice A L2.length L2.length, .slice Al y.log.length cl] W fun e w' => BsPost (recL y) W e w') := fun W A hk hv => by
    have := mput_any _ L2 _ y.log m W hv ((he.avoid (M' := []) (by simp)).keep hk (by simp)) hy.2.2.2 hy.2.2.1 (by omega) (hkeepm.out W hk)
    have e : L2 ++ putLog y.log = recL y := by rw [hL2, hL1]; rfl
    rwa [e] at this
  rw [← hL1] at HP1
  obtain ⟨lx, cx, hbx, _⟩ := h.lv
  obtain ⟨hin, hw1s, hsY⟩ : Hid (LgAt w p Y d b k n) ∧ w.heap.size < w1.heap.size ∧ Hid (s ∉ p :: Y) := by
    obtain ⟨_, _, _, hl, hs, _⟩ := h
    exact ⟨hl, HB1.out.lt, hs⟩
  have hsz := h.old s (by simp)
  have HBx := Lib.hid hbx
  have HT : Hid (∀ e W, KpOk y b → (e = .returned (.bool true) ∧ ∃ Y', StAt W s p Y' y d (b ++ frameL (recL y)) (b.length + (frameL (recL y)).length) (n + 1) ∧ Grows Y w Y' ∧ Keeps (s :: p :: Y) w W) → KpPost s p Y y d b n w e W) := fun e W h1 h2 => by unfold KpPost; rw [if_pos h1]; exact h2
  have HF : Hid (∀ e W, ¬ KpOk y b → (e = .returned (.bool false) ∧ Keeps [] w W) → KpPost s p Y y d b n w e W) := fun e W h1 h2 => by unfold KpPost; rw [if_neg h1]; exact h2
  have HK : Hid (KpOk y b ↔ (recL y).length ≤ 65536 ∧ b.length + (frameL (recL y)).length ≤ 1048576) := (Iff.rfl : _ ↔ _)
  generalize recL y = R at *
  clear h he hy hm hk1 hB1 hL1 hL2 hbx
  have HC : Hid (∀ W, Keeps [] w1 W → W.cell? ⟨w.heap.size, 0, none⟩ = some (.int .i64 y.t) ∧ W.cell? ⟨w.heap.size, 1, none⟩ = some (.int .i64 y.h) ∧ W.cell? ⟨w.heap.size, 2, none⟩ = some (.slice Al y.log.length cl)) := fun W hk => by
    have hb := hk.blk HB1.out (by simp)
    exact ⟨hb.cell 0, hb.cell 1, hb.cell 2⟩
  have hk1 := Lib.hid (Keeps.refl [] w1)
  go_enter Tryz.func82, Tryz.ntmps82
  go_wp2_with fail
  rw [← hw1]
  clear hw1
  go_region_held3 (fun W => W.cell? ⟨w.heap.size, 0, none⟩ = some (.int .i64 y.t) ∧ W.cell? ⟨w.heap.size, 1, none⟩ = some (.int .i64 y.h) ∧ W.cell? ⟨w.heap.size, 2, none⟩ = some (.slice Al y.log.length cl)) (first | exact HC.out _ hk4.out | exact HC.out _ hk4.out.drew | exact HC.out _ hk3.out | exact HC.out _ hk3.out.drew | exact HC.out _ hk2.out | exact HC.out _ hk2.out.drew | exact HC.out _ hk1.out | exact HC.out _ hk1.out.drew) (first
    | (go_at_call 118
       with_reducible refine (HP1.out _).mono ?_
       rintro e w2 ⟨A2, rfl, hS, hb⟩
       have HS2 := Lib.hid (hS [] (by simp))
       have hk2 := Lib.hid (hk1.out.drew.trans (Keeps.of_below (M := []) hb) (by simp))
       clear hS hb)
    | (go_at_call 118
       with_reducible refine (HP2.out _ _ HS2.out).mono ?_
       rintro e w3 ⟨A3, rfl, hS, hb⟩
       have HS3 := Lib.hid (hS [] (by simp))
       have hk3 := Lib.hid (hk2.out.trans (Keeps.of_below (M := []) hb) (by simp))
       clear hS hb)
    | (go_at_call 140
       with_reducible refine (HP3.out _ _ (Hk1.out.trans hk3.out (by simp)) HS3.out).mono ?_
       rintro e w4 ⟨A4, rfl, hS, hb⟩
       have HS4 := Lib.hid (hS [] (by simp))
       have hk4 := Lib.hid (hk3.out.trans (Keeps.of_below (M := []) hb) (by simp))
       clear hS hb))
  have HK4 : Hid (Keeps [] w w4) := Hk1.out.trans hk4.out (by simp)
  have HB4 := Lib.hid (hk4.out.blk HB1.out (by simp))
  have HL4 := Lib.hid (hin.out.keep0 HK4.out)
  have HX4 := Lib.hid (HK4.out.blk HBx.out (by simp))
  obtain ⟨x0, x1, x2, x3, hsz4⟩ := blk4 HX4.out
  clear hk1 hk2 hk3 hk4 Hk1 HC HP1 HP2 HP3 HB1 HBx hkeepm x0 x1 x2
  go_wp2_with fail
  refine (wwrite_any p Y d k n b w4 HL4.out _ R HS4.out).mono ?_
  intro e w5 hpost
  by_cases hr : KpOk y b
  · have hr2 := HK.out.1 hr
    unfold WaPost at hpost
    rw [if_pos hr2] at hpost
    obtain ⟨rfl, Y', hL5, hG5, hK5⟩ := hpost
    simp only [if_true] at hL5
    have hB5 := hK5.blk HX4.out hsY.out
    have hg5 : w.heap.size ∉ p :: Y := fun hm => by have := hin.out.old _ hm; omega
    have hW5 := hK5.blk HB4.out hg5
    obtain ⟨x0, x1, x2, x3, hsz5⟩ := blk4 hB5
    have f0 := hB5.frozen 0; have f1 := hB5.frozen 1; have f2 := hB5.frozen 2
    have q0 : w5.cell? ⟨w.heap.size, 0, none⟩ = some (.int .i64 y.t) := hW5.cell 0
    have q1 : w5.cell? ⟨w.heap.size, 1, none⟩ = some (.int .i64 y.h) := hW5.cell 1
    have q2 : w5.cell? ⟨w.heap.size, 2, none⟩ = some (.slice Al y.log.length cl) := hW5.cell 2
    have hne : w.heap.size ≠ s := by omega
    have hR : Hid (KpPost s p Y y d b n w (.returned (.bool true)) (((w5.setCell ⟨s, 0, none⟩ (.int .i64 y.t)).setCell ⟨s, 1, none⟩ (.int .i64 y.h)).setCell ⟨s, 2, none⟩ (.slice Al y.log.length cl))) := by
      refine HT.out _ _ hr ⟨rfl, Y', ?_, ?_, ?_⟩
      · have hks : Keeps [s] w5 (((w5.setCell ⟨s, 0, none⟩ (.int .i64 y.t)).setCell ⟨s, 1, none⟩ (.int .i64 y.h)).setCell ⟨s, 2, none⟩ (.slice Al y.log.length cl)) := (((Keeps.refl _ _).setCell (by simp) _).setCell (by simp) _).setCell (by simp) _
        have hsY' : s ∉ p :: Y' := fun hm => by
          rcases List.mem_cons.1 hm with rfl | hm
          · exact hsY.out (by simp)
          · rcases hG5 s hm with h | h
            · exact hsY.out (by simp [h])
            · omega
        have hall : Keeps (s :: p :: Y) w (((w5.setCell ⟨s, 0, none⟩ (.int .i64 y.t)).setCell ⟨s, 1, none⟩ (.int .i64 y.h)).setCell ⟨s, 2, none⟩ (.slice Al y.log.length cl)) := by
          exact ((HK4.out.mono (M' := s :: p :: Y) (by simp)).trans hK5 (fun g hg => .inl (List.mem_cons_of_mem _ hg))).trans hks (fun g hg => by simp at hg; subst hg; exact .inl (by simp))
        have he6 := ((HE.out.avoid (M' := (s :: p :: Y) ++ Y') (fun g hg => by
          rcases List.mem_append.1 hg with h | h
          · exact .inl h
          · rcases hG5 g h with h' | h'
            · exact .inl (by simp [h'])
            · exact .inr (Nat.le_trans HK4.out.size h'))).keep hall (fun g hg => .inl (List.mem_append_left _ hg))).avoid (M' := s :: p :: Y') (fun g hg => by
          left
          simp only [List.mem_cons, List.mem_append] at hg ⊢
          rcases hg with h | h | h
          · exact .inl (.inl h)
          · exact .inl (.inr (.inl h))
          · exact .inr h)
        exact ⟨.slice Al y.log.length cl, by simpa using ((hB5.set_ 0 (.int .i64 y.t)).set_ 1 (.int .i64 y.h)).set_ 2 (.slice Al y.log.length cl), he6, hL5.keep hks (fun g hg hm => by simp at hm; subst hm; exact hsY' hg), hsY', HY.out⟩
      · intro g hg
        rcases hG5 g hg with h | h
        · exact .inl h
        · exact .inr (Nat.le_trans HK4.out.size h)
      · have hks : Keeps [s] w5 (((w5.setCell ⟨s, 0, none⟩ (.int .i64 y.t)).setCell ⟨s, 1, none⟩ (.int .i64 y.h)).setCell ⟨s, 2, none⟩ (.slice Al y.log.length cl)) := (((Keeps.refl _ _).setCell (by simp) _).setCell (by simp) _).setCell (by simp) _
        exact ((HK4.out.mono (M' := s :: p :: Y) (by simp)).trans hK5 (fun g hg => .inl (List.mem_cons_of_mem _ hg))).trans hks (fun g hg => by simp at hg; subst hg; exact .inl (by simp))
    clear hL5 hG5 hK5 hB5 hW5
    go_wp2_with fail
    go_ret
    exact hR.out
  · unfold WaPost at hpost
    rw [if_neg (fun h => hr (HK.out.2 h))] at hpost
    obtain ⟨z, rfl, hz, hk⟩ := hpost
    have hR : Hid (KpPost s p Y y d b n w (.returned (.bool false)) w5) := HF.out _ _ hr ⟨rfl, HK4.out.trans hk (by simp)⟩
    have hz0 : (z != 0) = true := by simpa using hz
    clear hk
    go_wp2_with fail
    go_ret
    exact hR.out
end Go.Proofs.YtinnifhnabncfaaGreatDoor.Vi
end
/- Contract of vote.Open. -/
section
namespace Go.Proofs.YtinnifhnabncfaaGreatDoor.Vi
open Go.RowKit Base Mem Tape Go.Shelf
def VoPost (Y : List Nat) (d : Nat) (b : List UInt8) (w : World) (e : Ending) (w' : World) : Prop :=
  ∃ s p, e = .returned (.pointer (some ⟨s, 0, none⟩)) ∧ StAt w' s p Y (lastV word0 (scanS b).1) d (b.take (scanS b).2) (scanS b).2 (scanS b).1.length ∧ Keeps Y w w' ∧ w.heap.size ≤ s ∧ w.heap.size ≤ p
/-- The word of a state is set anew. -/
theorem StAt.turn {w w' : World} {s p : Nat} {Y : List Nat} {x y : WordD} {d k n : Nat} {b : List UInt8} {lv : Value} (h : StAt w s p Y x d b k n) (hk : Keeps [] w w') (he : Ens w' (s :: p :: Y) lv y.log) (hy : WOk y) :
    StAt (((w'.setCell ⟨s, 0, none⟩ (.int .i64 y.t)).setCell ⟨s, 1, none⟩ (.int .i64 y.h)).setCell ⟨s, 2, none⟩ lv) s p Y y d b k n := by
  have h' := h.keep0 hk
  obtain ⟨l0, hb, _, hl, hs, _⟩ := h'
  have hks : Keeps [s] w' (((w'.setCell ⟨s, 0, none⟩ (.int .i64 y.t)).setCell ⟨s, 1, none⟩ (.int .i64 y.h)).setCell ⟨s, 2, none⟩ lv) := (((Keeps.refl _ _).setCell (by simp) _).setCell (by simp) _).setCell (by simp) _
  exact ⟨lv, by simpa using ((hb.set_ 0 (.int .i64 y.t)).set_ 1 (.int .i64 y.h)).set_ 2 lv, he.keep hks (fun g hg => by simp at hg; subst hg; exact .inl (by simp)), hl.keep hks (fun g hg hm => by simp at hm; subst hm; exact hs hg), hs, hy⟩
theorem lastV_succ (x : WordD) (rs : List (List UInt8)) (j : Nat) (hj : j < rs.length) : lastV x (rs.take (j + 1)) = (readV rs[j]).getD (lastV x (rs.take j)) := by
  unfold lastV
  rw [List.take_succ_eq_append_getElem hj, List.foldl_append]
  rfl
set_option maxRecDepth 100000 in
set_option maxHeartbeats 1000000 in
theorem vopen_any (Y : List Nat) (d k : Nat) (b : List UInt8) (w : World) (h : DkAt w Y d b k) (m : Int) (hm : w.cell? ⟨0, 0, none⟩ = some (.int .i64 m)) (h0 : 0 ∉ Y) :
    Calls Tryz.prog 29 #[.pointer (some ⟨d, 0, none⟩)] w fun e w' => VoPost Y d b w e w' := by
  have hw0 : 0 < w.heap.size := by
    have := World.block_lt_of_cell? w _ hm
    simpa using this
  have ho := wopen_any Y d k b w h
  have hle := h.le
  have hYo := h.old
  obtain ⟨hs1, hs2, hs3⟩ := scanS_bd b
  have hkeepm : Hid (∀ W, Keeps Y w W → W.cell? ⟨0, 0, none⟩ = some (.int .i64 m)) := fun W hb => (hb.cell (p := ⟨0, 0, none⟩) hw0 h0).trans hm
  have Ho := Lib.hid ho; have HYo := Lib.hid hYo
  have HP : Hid (∀ s p W, StAt W s p Y (lastV word0 (scanS b).1) d (b.take (scanS b).2) (scanS b).2 (scanS b).1.length → Keeps Y w W → w.heap.size ≤ s → w.heap.size ≤ p → VoPost Y d b w (.returned (.pointer (some ⟨s, 0, none⟩))) W) := fun s p W h1 h2 h3 h4 => ⟨s, p, rfl, h1, h2, h3, h4⟩
  have HO : Hid (∀ e W, WoPost Y d b w e W → ∃ p v, e = .returned (.tuple #[.pointer (some ⟨p, 0, none⟩), v]) ∧ w.heap.size ≤ p ∧ LgAt W p Y d (b.take (scanS b).2) (scanS b).2 (scanS b).1.length ∧ (∀ M, (∀ g ∈ M, g < w.heap.size) → Bss W (p :: M) v (scanS b).1) ∧ Keeps Y w W) := fun _ _ h => h
  clear h ho hYo hm
  generalize scanS b = R at *
  obtain ⟨rs, n⟩ := R
  simp only [] at hs1 hs2 hs3 HP HO
  go_enter Tryz.func29, Tryz.ntmps29
  go_wp2_with fail
  refine Ho.out.mono ?_
  intro e w1 hpost
  obtain ⟨p, v, rfl, hp, hL, hB, hK⟩ := HO.out _ _ hpost
  have HL := Lib.hid hL; have HK := Lib.hid hK
  have hpw := hL.1.lt
  obtain ⟨w2, hw2⟩ : ∃ w2, w2 = w1.alloc (.cells #[.int .i64 0, .int .i64 0, .slice none 0 0, .pointer (some ⟨p, 0, none⟩)] 120) := ⟨_, rfl⟩
  have hk2 : Keeps [] w1 w2 := by rw [hw2]; exact (Keeps.refl _ _).alloc _
  have hS2 : StAt w2 w1.heap.size p Y word0 d (b.take n) n rs.length := by
    refine ⟨.slice none 0 0, by rw [hw2]; exact Blk.new w1 _ _, Ens.nil _ _, hL.keep0 hk2, fun hm => by have := hL.old _ hm; omega, word0_ok⟩
  have HB2 : Hid (Bss w2 [w1.heap.size] v rs) := ((hB [] (by simp)).avoid (M' := [w1.heap.size]) (fun g hg => by simp at hg; subst hg; exact .inr (Nat.le_refl _))).keep hk2 (by simp)
  have HS2 := Lib.hid hS2
  have HK2 : Hid (Keeps Y w w2) := hK.trans hk2 (by simp)
  have hs0 : w.heap.size ≤ w1.heap.size := hK.size
  obtain ⟨A, c, rfl, hc⟩ := HB2.out.len
  clear hpost hL hB hK hk2 hS2
  go_wp2_with fail
  rw [← hw2]
  clear hw2
  generalize w1.heap.size = s at *
  go_loopw [22] (fun i wr => ∃ j : Nat, i = .int .i64 j ∧ j ≤ rs.length ∧ Hid (StAt wr s p Y (lastV word0 (rs.take j)) d (b.take n) n rs.length) ∧ Hid (Keeps [s] w2 wr)) (fun i _ => rs.length - (intOf i).toNat)
  case atStart => exact ⟨0, rfl, by omega, (by show StAt _ _ _ _ _ _ _ _ _; exact HS2.out), Keeps.refl _ _⟩
  case round =>
    obtain ⟨j, rfl, hj, HS, HKr⟩ := hrel
    by_cases hlt : j < rs.length
    · have hji : (j : Int) < (rs.length : Int) := by omega
      have HBr := Lib.hid (HB2.out.keep HKr.out (fun g hg => .inl hg))
      obtain ⟨g, off, cap, bv, e1, hg, hgs, hcell, hbv⟩ := HBr.out.at_ hlt
      injection e1 with e1 _ e3
      subst e1 e3
      obtain ⟨Ab, cb, rfl, _⟩ := hbv.len
      have hKw : Keeps Y w wr := HK2.out.trans HKr.out (fun g hg => by simp at hg; subst hg; exact .inr hs0)
      have hrd := Lib.hid (vread_any _ rs[j] m wr (hbv.avoid (by simp)) (hs2 _ (List.getElem_mem hlt)) (hkeepm.out wr hKw))
      have HX := Lib.hid (lastV_succ word0 rs j hlt)
      have hxk := Lib.hid (fun (y : WordD) (h : readV rs[j] = some y) => readV_ok (by have := hs2 _ (List.getElem_mem hlt); omega) h)
      clear hbv hKw
      generalize readV rs[j] = rv at *
      generalize rs[j] = rj at *
      have hcc := hcell
      go_wp2_with fail
      refine hrd.out.mono ?_
      intro e w3 hpost
      cases rv with
      | none =>
        simp only [VrPost] at hpost
        obtain ⟨a0, b0, A0, n0, c0, rfl, hk3⟩ := hpost
        have HS3 : Hid (StAt (w3.alloc (.cells #[.int .i64 a0, .int .i64 b0, .slice A0 n0 c0] 118)) s p Y (lastV word0 (rs.take (j + 1))) d (b.take n) n rs.length) := by
          show StAt _ _ _ _ _ _ _ _ _
          rw [HX.out]
          exact HS.out.keep0 (hk3.alloc _)
        have HK3 : Hid (Keeps [s] w2 (w3.alloc (.cells #[.int .i64 a0, .int .i64 b0, .slice A0 n0 c0] 118))) := HKr.out.trans (hk3.alloc _) (by simp)
        clear hk3 hrd
        go_wp2_with fail
        go_roundw
        case rel => exact ⟨j + 1, by go_num, by omega, HS3, HK3⟩
        case measure => simp [intOf] <;> omega
      | some y =>
        simp only [VrPost] at hpost
        obtain ⟨lv, rfl, hE, hk3⟩ := hpost
        obtain ⟨Al, cl, rfl, _⟩ := (hE [] (by simp)).len
        have hyk := hxk.out y rfl
        have hE3 : Ens w3 (s :: p :: Y) (.slice Al y.log.length cl) y.log := hE (s :: p :: Y) (fun g hg => HS.out.old g hg)
        have HT := HS.out.turn hk3 hE3 hyk
        have hS3 := HS.out.keep0 hk3
        obtain ⟨As, cs, hbs, _⟩ := hS3.lv
        obtain ⟨s0, s1, s2, s3, hsl⟩ := blk4 hbs
        have f0 := hbs.frozen 0; have f1 := hbs.frozen 1; have f2 := hbs.frozen 2
        have HK5 : Keeps [s] w2 (((w3.setCell ⟨s, 0, none⟩ (.int .i64 y.t)).setCell ⟨s, 1, none⟩ (.int .i64 y.h)).setCell ⟨s, 2, none⟩ (.slice Al y.log.length cl)) :=
          (((HKr.out.trans hk3 (by simp)).setCell (by simp) _).setCell (by simp) _).setCell (by simp) _
        have HX2 : Hid (lastV word0 (rs.take (j + 1)) = y) := HX.out
        have HS5 : Hid (StAt ((((w3.setCell ⟨s, 0, none⟩ (.int .i64 y.t)).setCell ⟨s, 1, none⟩ (.int .i64 y.h)).setCell ⟨s, 2, none⟩ (.slice Al y.log.length cl)).alloc (.cells #[.int .i64 y.t, .int .i64 y.h, .slice Al y.log.length cl] 118)) s p Y (lastV word0 (rs.take (j + 1))) d (b.take n) n rs.length) := by
          show StAt _ _ _ _ _ _ _ _ _
          rw [HX2.out]
          exact HT.keep0 ((Keeps.refl _ _).alloc _)
        have HK6 := Lib.hid (HK5.alloc (.cells #[.int .i64 y.t, .int .i64 y.h, .slice Al y.log.length cl] 118))
        clear hE hk3 hrd hE3 hS3 hbs HX HK5 HT HX2
        go_wp2_with fail
        go_roundw
        case rel => exact ⟨j + 1, by go_num, by omega, HS5, HK6⟩
        case measure => simp [intOf] <;> omega
    · obtain rfl : j = rs.length := by omega
      have hji : ¬ (rs.length : Int) < (rs.length : Int) := by omega
      have hfin : Hid (VoPost Y d b w (.returned (.pointer (some ⟨s, 0, none⟩))) wr) := HP.out s p wr (by have := HS.out; rwa [List.take_length] at this) (HK2.out.trans HKr.out (fun g hg => by simp at hg; subst hg; exact .inr hs0)) hs0 hp
      go_wp2
      go_ret
      exact hfin.out
end Go.Proofs.YtinnifhnabncfaaGreatDoor.Vi
end
/- Contract of vote.Promise. -/
section
namespace Go.Proofs.YtinnifhnabncfaaGreatDoor.Vi
open Go.RowKit Base Mem Tape Go.Shelf
def PmPost (s p : Nat) (Y : List Nat) (x : WordD) (d : Nat) (b : List UInt8) (n : Nat) (term : Int) (w : World) (e : Ending) (w' : World) : Prop :=
  if (x.t : Int) < term then KpPost s p Y ⟨term.toNat, x.h, x.log⟩ d b n w e w' else e = .returned (.bool false) ∧ Keeps [] w w'
theorem KpPost.drew {s p : Nat} {Y : List Nat} {y : WordD} {d : Nat} {b : List UInt8} {n : Nat} {w w0 w' : World} {e : Ending} (h : KpPost s p Y y d b n w0 e w') (hk : Keeps [] w w0) : KpPost s p Y y d b n w e w' := by
  unfold KpPost at h ⊢
  split at h
  · rename_i hc
    rw [if_pos hc]
    obtain ⟨he, Y', h1, h2, h3⟩ := h
    refine ⟨he, Y', h1, fun g hg => (h2 g hg).imp id (Nat.le_trans hk.size), (hk.mono (M' := s :: p :: Y) (by simp)).trans h3 (fun g hg => .inl hg)⟩
  · rename_i hc
    rw [if_neg hc]
    exact ⟨h.1, hk.trans h.2 (by simp)⟩
theorem KpPost.val {s p : Nat} {Y : List Nat} {y : WordD} {d : Nat} {b : List UInt8} {n : Nat} {w w' : World} {e : Ending} (h : KpPost s p Y y d b n w e w') : e = .returned (.bool (decide (KpOk y b))) := by
  unfold KpPost at h
  split at h
  · rename_i hc; rw [decide_eq_true hc]; exact h.1
  · rename_i hc; rw [decide_eq_false hc]; exact h.1
set_option maxRecDepth 100000 in
theorem vpromise_any (s p : Nat) (Y : List Nat) (x : WordD) (d k n : Nat) (b : List UInt8) (w : World) (h : StAt w s p Y x d b k n) (term : Int) (ht : term ≤ 9223372036854775807) (m : Int) (hm : w.cell? ⟨0, 0, none⟩ = some (.int .i64 m)) :
    Calls Tryz.prog 36 #[.pointer (some ⟨s, 0, none⟩), .int .i64 term] w fun e w' => PmPost s p Y x d b n term w e w' := by
  have hw0 : 0 < w.heap.size := by
    have := World.block_lt_of_cell? w _ hm
    simpa using this
  obtain ⟨A, c, hb, he⟩ := h.lv
  obtain ⟨c0, c1, c2, c3, hlt⟩ := blk4 hb
  have hok := h.ok
  by_cases hc : (x.t : Int) < term
  · have HP : Hid (∀ e W, KpPost s p Y ⟨term.toNat, x.h, x.log⟩ d b n w e W → PmPost s p Y x d b n term w e W) := fun e W h => by unfold PmPost; rw [if_pos hc]; exact h
    obtain ⟨t, rfl⟩ : ∃ t : Nat, term = t := ⟨term.toNat, by omega⟩
    have hkp : Hid (∀ W, Keeps [] w W → Calls Tryz.prog 82 #[.pointer (some ⟨s, 0, none⟩), .agg #[.int .i64 t, .int .i64 x.h, .slice A x.log.length c]] W fun e w' => PmPost s p Y x d b n t w e w') := fun W hk => by
      refine (vkeep_any s p Y x ⟨t, x.h, x.log⟩ d k n b W (h.keep0 hk) _ (he.keep hk (by simp)) ⟨by simp only []; omega, hok.2⟩ m ((hk.cell (p := ⟨0, 0, none⟩) hw0 (by simp)).trans hm)).mono ?_
      intro e W' hq
      exact HP.out e W' (by simpa using hq.drew hk)
    have hv : Hid (∀ e W, PmPost s p Y x d b n t w e W → ∃ v, e = .returned (.bool v)) := fun e W h => by
      unfold PmPost at h
      rw [if_pos hc] at h
      exact ⟨_, h.val⟩
    clear h hb he hm
    have hd : decide ((x.t : Int) < (t : Int)) = true := decide_eq_true hc
    go_enter Tryz.func36, Tryz.ntmps36
    go_wp2_with fail
    go_still_tail 21, (by kernel_rfl)
    change wpList _ _ _ _ _ w.drew
    go_wp2_with fail
    refine (hkp.out _ ((Keeps.refl _ _).drew)).mono ?_
    intro e w1 hq
    obtain ⟨v, rfl⟩ := hv.out _ _ hq
    have Hq := Lib.hid hq
    clear hq
    go_wp2_with fail
    go_ret
    exact Hq.out
  · have HP : Hid (∀ q, PmPost s p Y x d b n term w (.returned (.bool false)) (w.drewN q)) := fun q => by unfold PmPost; rw [if_neg hc]; exact ⟨rfl, (Keeps.refl _ _).drewN q⟩
    have hd : decide ((x.t : Int) < term) = false := decide_eq_false hc
    clear h hb he hm
    go_enter Tryz.func36, Tryz.ntmps36
    go_wp2_with fail
    go_quiet (fail)
    go_wp2
    go_ret
    exact HP.out nq
end Go.Proofs.YtinnifhnabncfaaGreatDoor.Vi
end
