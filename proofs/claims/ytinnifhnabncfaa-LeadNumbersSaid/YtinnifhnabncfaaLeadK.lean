/- The walk of known, of the statements of lead. -/
import Derived.Test.YtinnifhnabncfaaLeadE
import Derived.Test.YtinnifhnabncfaaLeadP
import Derived.Deep.DeepCutAuto
import Derived.Deep.RegionHeld3
import Derived.Deep.RegionWith
namespace Go.Proofs.Ytinnifhnabncfaa.Lead
open Go.RowKit Base Mem
theorem vote_neq_nil {w : World} (a : Addr) : (binOp .eql 40 (.pointer (some a)) (.pointer none)).run Try.prog w = .ok (.bool false) w := by kernel_rfl
def E0 : EntryD := ⟨2, 0, 0, 0, 0, [], ⟨#[97, 61, 49]⟩, 0, 0⟩
def e0c : Array Value := #[.int .i64 2, .int .i64 0, .int .i64 0, .int .i64 0, .int .i64 0, .slice none 0 0, .string ⟨#[97, 61, 49]⟩, .int .i64 0, .int .i64 0]
structure KnownSt (w wx : World) (b be : Nat) (s : VoteD) : Prop where
  vote : VoteAt wx [] b s
  ent : Blk wx be 74 e0c
  bel : Below w.heap.size w wx
  old : w.heap.size ≤ b
  lt : b < be
theorem VoteAt.lt {w : World} {M : List Nat} {b : Nat} {s : VoteD} (h : VoteAt w M b s) : b < w.heap.size := by obtain ⟨_, _, _, hb, _⟩ := h; exact hb.lt
theorem KnownSt.alloc {w wx : World} {b be : Nat} {s : VoteD} (h : KnownSt w wx b be s) (o : Obj) : KnownSt w (wx.alloc o) b be s :=
  ⟨h.vote.keep (M' := []) ((Keeps.refl _ _).alloc o) (by simp) (by simp), h.ent.below (below_new' wx o) h.ent.lt, below_new h.bel o, h.old, h.lt⟩
theorem KnownSt.drewN {w wx : World} {b be : Nat} {s : VoteD} (h : KnownSt w wx b be s) (n : Nat) : KnownSt w (wx.drewN n) b be s :=
  ⟨h.vote.drewN n, h.ent, h.bel.trans (Keeps.below ((Keeps.refl [] wx).drewN n) |>.mono h.bel.size), h.old, h.lt⟩
theorem KnownSt.keep {w wx w' : World} {b be : Nat} {s s' : VoteD} (h : KnownSt w wx b be s) (hv : VoteAt w' [] b s') (hk : Keeps [b] wx w') : KnownSt w w' b be s' :=
  ⟨hv, hk.blk h.ent (by have := h.lt; simp; omega), h.bel.trans (hk.belowB h.bel.size (by simpa using h.old)), h.old, h.lt⟩
/-- One, two entries that were just laid. -/
theorem ens_new {w : World} {M : List Nat} (l : List EntryD) (hl : ∀ e ∈ l, e.ds = []) (hM : ∀ g ∈ M, g < w.heap.size) :
    Ens (w.alloc (.cells ((l.map fun e => (e, Value.slice none 0 0)).flatMap eCell).toArray 74)) M (.slice (some ⟨w.heap.size, 0, none⟩) l.length l.length) l := by
  refine ⟨l.map fun e => (e, Value.slice none 0 0), by simp [Function.comp_def], ⟨_, l.length, by simp, by simp, eCells_len _, fun _ => ⟨w.heap.size, 0, rfl, by simp, fun hm => by have := hM _ hm; omega, fun j u hu => ?_⟩⟩, ?_⟩
  · rw [(Blk.new w _ _).cell]; simpa using hu
  · intro p hp
    obtain ⟨e, he, rfl⟩ := List.mem_map.1 hp
    simp only
    rw [hl e he]
    exact Ds.nil _ _
theorem kn_promise {w wx : World} {b be : Nat} {s s' : VoteD} {r : Bool} (fr had : Int) (lv : Value) (l : List EntryD) (h : KnownSt w wx b be s) (hl : Ens wx [b] lv l) (hsm : Small l) (hn : s.nodes ≤ 8) (h0 : 0 ≤ s.n) (h8 : s.n ≤ 8) (hp : promiseS s fr had l = (r, s')) :
    Calls Try.prog 29 #[.pointer (some ⟨b, 0, none⟩), .int .i64 fr, .int .i64 had, lv] wx fun e w' => e = .returned (.bool r) ∧ Hid (KnownSt w w' b be s') ∧ Hid (Keeps [b] wx w') :=
  (promise_any [] b s fr had lv l wx h.vote (by simp) hl hsm hn h0 h8).mono fun e w' ⟨he, hv, hk⟩ => by
    rw [hp] at he hv
    exact ⟨he, h.keep hv hk, hk⟩
def s1 : VoteD := ⟨7, 3, [true, false, false, false, false, false, false, false], List.replicate 8 0, 1, [], 1⟩
def s2 : VoteD := ⟨7, 3, [true, false, true, false, false, false, false, false], List.replicate 8 0, 2, [E0], 2⟩
def s3 : VoteD := ⟨7, 3, [true, true, true, false, false, false, false, false], List.replicate 8 0, 2, [E0], 3⟩
theorem p1 : promiseS (newVote 7 3) 0 1 [] = (false, s1) := by rfl
theorem p2 : promiseS s1 0 9 [E0] = (false, s1) := by rfl
theorem p3 : promiseS s1 2 2 [E0] = (true, s2) := by rfl
theorem p4 : promiseS s2 1 5 [E0, E0] = (false, s3) := by rfl
theorem ent_cells {w wx : World} {b be : Nat} {s : VoteD} (h : KnownSt w wx b be s) :
    wx.cell? ⟨be, 0, none⟩ = some (.int .i64 2) ∧ wx.cell? ⟨be, 1, none⟩ = some (.int .i64 0) ∧ wx.cell? ⟨be, 2, none⟩ = some (.int .i64 0) ∧ wx.cell? ⟨be, 3, none⟩ = some (.int .i64 0) ∧ wx.cell? ⟨be, 4, none⟩ = some (.int .i64 0) ∧
    wx.cell? ⟨be, 5, none⟩ = some (.slice none 0 0) ∧ wx.cell? ⟨be, 6, none⟩ = some (.string ⟨#[97, 61, 49]⟩) ∧ wx.cell? ⟨be, 7, none⟩ = some (.int .i64 0) ∧ wx.cell? ⟨be, 8, none⟩ = some (.int .i64 0) ∧ be < wx.heap.size :=
  ⟨h.ent.cell 0, h.ent.cell 1, h.ent.cell 2, h.ent.cell 3, h.ent.cell 4, h.ent.cell 5, h.ent.cell 6, h.ent.cell 7, h.ent.cell 8, h.ent.lt⟩
set_option maxRecDepth 100000 in
set_option maxHeartbeats 1000000 in
theorem known_walk (w : World) : Calls Try.prog 24 #[] w fun e w' => e = .returned (.bool true) ∧ Below w.heap.size w w' := by
  go_enter Try.func24, Try.ntmps24
  go_wp2_with fail
  refine (new_yes 7 3 w (by omega) (by omega)).mono ?_
  rintro e w1 ⟨rfl, hv, hb, hlt⟩
  have hne := fun W => vote_neq_nil (w := W) ⟨w.heap.size, 0, none⟩
  go_wp2_with fail
  refine (new_no 1 0 w1 (by omega)).mono ?_
  rintro e w2 ⟨rfl, rfl⟩
  have hnn : ∀ W, (binOp .neq 40 (.pointer none) (.pointer none)).run Try.prog W = .ok (.bool false) W := fun W => by kernel_rfl
  go_upto_region 5 with (fail)
  have K0 : KnownSt w (w1.alloc (.cells e0c 74)) w.heap.size w1.heap.size (newVote 7 3) :=
    ⟨(hv []).keep (M' := []) ((Keeps.refl _ _).alloc _) (by simp) (by simp), Blk.new w1 _ _, below_new hb _, Nat.le_refl _, hlt⟩
  obtain ⟨b, hbe⟩ : ∃ b, b = w.heap.size := ⟨_, rfl⟩
  obtain ⟨be, hbe2⟩ : ∃ b, b = w1.heap.size := ⟨_, rfl⟩
  rw [← hbe, ← hbe2] at K0
  have HK0 := Lib.hid K0
  rw [← hbe, ← hbe2]
  rw [← hbe] at hne
  unfold e0c at HK0
  clear hv hb hlt K0 hbe hbe2
  generalize (w1.alloc (.cells #[.int .i64 2, .int .i64 0, .int .i64 0, .int .i64 0, .int .i64 0, .slice none 0 0, .string ⟨#[97, 61, 49]⟩, .int .i64 0, .int .i64 0] 74)) = W at *
  obtain ⟨q0, q1, q2, q3, q4, q5, q6, q7, q8, qf⟩ := ent_cells HK0.out
  clear qf
  go_cut [3, 4] (fun x y wx => x = .bool false ∧ y = .bool false ∧ Hid (KnownSt w wx b be s1))
  case first =>
    go_region_with (first
      | (go_at_call_of 29 (Value.int .i64 1)
         refine (kn_promise (w := w) (be := be) (s := newVote 7 3) (s' := s1) (r := false) 0 1 _ [] ?_ (Ens.nil _ _) ⟨by simp, by simp⟩ (by decide) (by decide) (by decide) p1).mono ?_
         first | exact HK0.out | exact HK0.out.alloc _ | exact HK0.out.drewN 1 | exact (HK0.out.alloc _).drewN 1
         rintro e w' ⟨rfl, H1, HKK⟩
         obtain ⟨q0, q1, q2, q3, q4, q5, q6, q7, q8, qf⟩ := ent_cells H1.out
         clear qf)
      | (go_at_call_of 29 (Value.int .i64 9)
         refine (kn_promise (w := w) (be := be) (s := s1) (s' := s1) (r := false) 0 9 _ [E0] ?_ ?_ ⟨by simp, by simp [E0]⟩ (by decide) (by decide) (by decide) p2).mono ?_
         first | exact H1.out | exact H1.out.alloc _
         first | exact ens_new [E0] (by simp [E0]) (by simpa using H1.out.vote.lt) | exact (ens_new [E0] (by simp [E0]) (by simpa using HK0.out.vote.lt)).keep HKK.out (by simp) | exact ((ens_new (w := W) [E0] (by simp [E0]) (by simpa using HK0.out.vote.lt)).keep (M' := []) ((Keeps.refl [] _).drew) (by simp)).keep HKK.out (by simp)
         rintro e w'' ⟨rfl, H2, _⟩))
    all_goals (go_wp2_with fail; go_meet; exact ⟨rfl, rfl, H2⟩)
  case rest =>
    obtain ⟨rfl, rfl, H1⟩ := hcut
    clear q0 q1 q2 q3 q4 q5 q6 q7 q8 HK0
    go_wp2_with fail
    refine (won_any [] b s1 _ H1.out.vote (by decide) (by decide)).mono ?_
    rintro e w3 ⟨rfl, nq, rfl⟩
    have H1' := Lib.hid (H1.out.drewN nq)
    clear H1
    obtain ⟨q0, q1, q2, q3, q4, q5, q6, q7, q8, qf⟩ := ent_cells H1'.out
    clear qf
    go_wp2_with fail
    refine (kn_promise (w := w) (be := be) (s := s1) (s' := s2) (r := true) 2 2 _ [E0] (H1'.out.alloc _) (ens_new [E0] (by simp [E0]) (by simpa using H1'.out.vote.lt)) ⟨by simp, by simp [E0]⟩ (by decide) (by decide) (by decide) p3).mono ?_
    rintro e w4 ⟨rfl, H2, _⟩
    clear q0 q1 q2 q3 q4 q5 q6 q7 q8 H1'
    obtain ⟨q0, q1, q2, q3, q4, q5, q6, q7, q8, qf⟩ := ent_cells H2.out
    clear qf
    go_wp2_with fail
    refine (kn_promise (w := w) (be := be) (s := s2) (s' := s3) (r := false) 1 5 _ [E0, E0] (H2.out.alloc _) (ens_new [E0, E0] (by simp [E0]) (by simpa using H2.out.vote.lt)) ⟨by simp, by simp [E0]⟩ (by decide) (by decide) (by decide) p4).mono ?_
    rintro e w5 ⟨rfl, H3, _⟩
    clear q0 q1 q2 q3 q4 q5 q6 q7 q8 H2
    go_wp2_with fail
    refine (accepted_any [] b s3 0 4 w5 H3.out.vote (by decide) (by decide)).mono ?_
    rintro e w6 ⟨rfl, hv6, hk6⟩
    have H6 := Lib.hid (H3.out.keep hv6 hk6)
    clear hv6 hk6 H3
    go_wp2_with fail
    refine (accepted_any [] b _ 1 2 w6 H6.out.vote (by decide) (by decide)).mono ?_
    rintro e w7 ⟨rfl, hv7, hk7⟩
    have H7 := Lib.hid (H6.out.keep hv7 hk7)
    clear hv7 hk7 H6
    have t1 : termS 0 1 3 = 1 := by decide
    have t2 : termS 1 1 3 = 4 := by decide
    have t3 : termS 5 0 0 = 0 := by decide
    have m1 : medS (accS s3 0 4) s3.nodes.toNat = 0 := by rw [← rb_med (by decide) (by decide) (by decide)]; decide
    have m2 : medS (accS { s3 with acc := accS s3 0 4 } 1 2) ({ s3 with acc := accS s3 0 4 } : VoteD).nodes.toNat = 2 := by rw [← rb_med (by decide) (by decide) (by decide)]; decide
    rw [m1, m2]
    go_wp2_with (first
      | (go_at_call 22; refine (term_any _ _ _ _).mono ?_; rintro e w' ⟨rfl, rfl⟩)
      | fail)
    refine (won_any [] b _ _ H7.out.vote (by decide) (by decide)).mono ?_
    rintro e w8 ⟨rfl, nq, rfl⟩
    have H8 := Lib.hid (H7.out.drewN nq)
    go_wp2_with fail
    refine (best_any [] b _ _ H8.out.vote ⟨by decide, by simp [s3, E0]⟩).mono ?_
    rintro e w9 ⟨A, rfl, _, hb9⟩
    have H9 := Lib.hid (H8.out.keep (H8.out.vote.keep (Keeps.of_below (M := []) hb9) (by simp) (by simp)) (Keeps.of_below hb9))
    clear hb9
    simp only [s3, List.length_cons, List.length_nil]
    go_wp2_with fail
    refine (vterm_any [] b _ _ H9.out.vote).mono ?_
    rintro e w' ⟨rfl, rfl⟩
    simp only [s3]
    go_wp2
    go_ret
    exact ⟨rfl, H9.out.bel⟩
end Go.Proofs.Ytinnifhnabncfaa.Lead
