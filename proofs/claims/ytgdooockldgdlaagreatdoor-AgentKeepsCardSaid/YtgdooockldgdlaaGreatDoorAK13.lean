/- Texts put together: AhC, AhD, AhK, CtB, AhG, RefK, RSame, AhL, AgentKeepsProof, AhA. -/
import Derived.Deep.RegionHeld3
import Derived.Deep.DeepCutAuto
import Derived.Test.YtgdooockldgdlaaGreatDoorCards
import Derived.Test.YtgdooockldgdlaaGreatDoorTie
import Derived.ChangeOld
import Derived.Below
import Derived.Test.YtgdooockldgdlaaGreatDoorAK1
import Derived.Test.YtgdooockldgdlaaGreatDoorAK3
import Derived.Test.YtgdooockldgdlaaGreatDoorAK4
import Derived.Test.YtgdooockldgdlaaGreatDoorAK12
set_option linter.unusedVariables false
set_option linter.unusedSimpArgs false
section
namespace Go.Proofs.YtgdooockldgdlaaGreatDoor.Vi
open Go.RowKit Base Mem Tape
def qSum (q : QuD) (s : ByteArray) : Nat := (q.l.map fun b => sumS b.ds s).sum
/-- Of a series: what waits, and what is queued. -/
def tot (A : AgD) (s : ByteArray) : Nat := sumS A.bk.sa s + (qSum (A.bk.q 0) s + qSum (A.bk.q 1) s + qSum (A.bk.q 2) s + qSum (A.bk.q 3) s)
theorem sumS_cons (d : DeltaD) (l : List DeltaD) (s : ByteArray) : sumS (d :: l) s = (if (d.ser.toList == s.toList) = true then d.n.toNat else 0) + sumS l s := by
 unfold sumS
 rw [List.map_cons, List.sum_cons]
theorem sumS_filter (p : DeltaD → Bool) (s : ByteArray) : ∀ (l : List DeltaD), (∀ d ∈ l, d.ser = s → p d = true) → sumS (l.filter p) s = sumS l s
 | [], _ => rfl
 | d :: l, h => by
  have ih := sumS_filter p s l (fun x hx => h x (by simp [hx]))
  rw [List.filter_cons]
  by_cases hp : p d = true
  ·rw [if_pos hp, sumS_cons, sumS_cons, ih]
  ·rw [if_neg hp, sumS_cons, ih, ser_ne (fun e => hp (h d (by simp) e))]
   simp
theorem sumS_dist : ∀ (l : List DeltaD), Dist l → ∀ d ∈ l, sumS l d.ser = d.n.toNat
 | [], _, d, hd => by cases hd
 | x :: l, h, d, hd => by
  unfold Dist at h
  rw [List.map_cons, List.pairwise_cons] at h
  rw [sumS_cons]
  rcases List.mem_cons.1 hd with rfl | hd'
  ·rw [if_pos ((ser_iff _ _).2 rfl), sumS_none l d.ser (fun y hy e => h.1 y.ser (List.mem_map_of_mem hy) e.symm)]
   omega
  ·rw [ser_ne (h.1 d.ser (List.mem_map_of_mem hd')), sumS_dist l h.2 d hd']
   simp
theorem inDs_iff (ds : List DeltaD) (d : DeltaD) : inDs ds d = true ↔ ∃ x ∈ ds, x.ser = d.ser := by
 unfold inDs
 rw [List.any_eq_true]
 exact ⟨fun ⟨x, h1, h2⟩ => ⟨x, h1, (ser_iff _ _).1 h2⟩, fun ⟨x, h1, h2⟩ => ⟨x, h1, (ser_iff _ _).2 h2⟩⟩
/-- Of each series of these deltas: what waits of it. -/
def CkI (sa l : List DeltaD) : Prop := Dist l ∧ ∀ d ∈ l, d.n = (sumS sa d.ser : Nat)
theorem cut_sums {sa ds : List DeltaD} (h : CkI sa ds) (s : ByteArray) : sumS (sa.filter fun d => !inDs ds d) s + sumS ds s = sumS sa s := by
 by_cases hs : ∃ x ∈ ds, x.ser = s
 ·obtain ⟨x, hx, rfl⟩ := hs
  rw [sumS_none (sa.filter _) x.ser (fun d hd e => by
   have h1 := (List.mem_filter.1 hd).2
   have h2 : inDs ds d = true := (inDs_iff ds d).2 ⟨x, hx, e.symm⟩
   rw [h2] at h1
   simp at h1), sumS_dist ds h.1 x hx, h.2 x hx]
  omega
 ·rw [sumS_none ds s (fun d hd e => hs ⟨d, hd, e⟩), sumS_filter]
  ·omega
  ·intro d hd e
   have h2 : inDs ds d = false := by
    rw [Bool.eq_false_iff]
    intro h3
    obtain ⟨x, hx, e2⟩ := (inDs_iff ds d).1 h3
    exact hs ⟨x, hx, e2.trans e⟩
   rw [h2]
   rfl
theorem qSum_snoc (l : List BatD) (b : BatD) (x : Int) (y : Int) (s : ByteArray) : qSum ⟨l ++ [b], x⟩ s = qSum ⟨l, y⟩ s + sumS b.ds s := by
 unfold qSum
 simp
theorem qSum_setQ (q : Nat → QuD) (k : Nat) (hk : k < 4) (b : BatD) (x : Int) (s : ByteArray) :
  qSum (setQ q k ⟨(q k).l ++ [b], x⟩ 0) s + qSum (setQ q k ⟨(q k).l ++ [b], x⟩ 1) s + qSum (setQ q k ⟨(q k).l ++ [b], x⟩ 2) s + qSum (setQ q k ⟨(q k).l ++ [b], x⟩ 3) s = qSum (q 0) s + qSum (q 1) s + qSum (q 2) s + qSum (q 3) s + sumS b.ds s := by
 have e : ∀ j, qSum ⟨(q j).l ++ [b], x⟩ s = qSum (q j) s + sumS b.ds s := fun j => qSum_snoc (q j).l b x (q j).last s
 have : k = 0 ∨ k = 1 ∨ k = 2 ∨ k = 3 := by omega
 rcases this with rfl | rfl | rfl | rfl
 ·show qSum ⟨(q 0).l ++ [b], x⟩ s + qSum (q 1) s + qSum (q 2) s + qSum (q 3) s = _
  rw [e]; omega
 ·show qSum (q 0) s + qSum ⟨(q 1).l ++ [b], x⟩ s + qSum (q 2) s + qSum (q 3) s = _
  rw [e]; omega
 ·show qSum (q 0) s + qSum (q 1) s + qSum ⟨(q 2).l ++ [b], x⟩ s + qSum (q 3) s = _
  rw [e]; omega
 ·show qSum (q 0) s + qSum (q 1) s + qSum (q 2) s + qSum ⟨(q 3).l ++ [b], x⟩ s = _
  rw [e]; omega
/-- A queue is full. -/
def FullQ (A : AgD) : Prop := ∃ k, k < 4 ∧ 16 ≤ (A.bk.q k).l.length
theorem chunks_tot {k : Nat} (hk : k < 4) : ∀ (f : Nat) (A : AgD) (rs : List (List UInt8)) (B : Nat) (l : List DeltaD) (out : List (Int × Int × Int)), LogI A rs B → (∀ d ∈ l, GdD d) → CkI A.bk.sa l → B + 334 * f ≤ 1000000 → l.length ≤ 8 * f →
  (∀ s, tot (chunksC f A k l out).2.1 s = tot A s) ∧ (chunksC f A k l out).2.1.bk.sh = A.bk.sh ∧ (∀ d ∈ (chunksC f A k l out).2.1.bk.sa, d ∈ A.bk.sa) ∧ ((chunksC f A k l out).1 = true ∧ FullQ (chunksC f A k l out).2.1 ∨ (chunksC f A k l out).1 = false ∧ ∀ d ∈ (chunksC f A k l out).2.1.bk.sa, ∀ x ∈ l, x.ser ≠ d.ser)
 | 0, A, rs, B, l, out, h, hl, hc, hB, hf => by
  have hn : l = [] := List.length_eq_zero_iff.1 (by omega)
  subst hn
  exact ⟨fun s => rfl, rfl, fun d hd => hd, .inr ⟨rfl, by simp⟩⟩
 | f + 1, A, rs, B, l, out, h, hl, hc, hB, hf => by
  unfold chunksC
  by_cases h0 : l.length = 0
  ·rw [if_pos h0]
   have hn : l = [] := List.length_eq_zero_iff.1 h0
   subst hn
   exact ⟨fun s => rfl, rfl, fun d hd => hd, .inr ⟨rfl, by simp⟩⟩
  ·rw [if_neg h0]
   have hne : l.take 8 ≠ [] := fun e => by
    have := congrArg List.length e
    simp at this
    rw [this] at h0
    simp at h0
   have hdist : Dist (l.take 8) ∧ Dist (l.drop 8) ∧ ∀ x ∈ l.take 8, ∀ y ∈ l.drop 8, x.ser ≠ y.ser := by
    have h9 := hc.1
    unfold Dist at h9 ⊢
    rw [← List.take_append_drop 8 l, List.map_append, List.pairwise_append] at h9
    obtain ⟨a1, a2, a3⟩ := h9
    exact ⟨a1, a2, fun x hx y hy => a3 x.ser (List.mem_map_of_mem hx) y.ser (List.mem_map_of_mem hy)⟩
   obtain ⟨hd1, hd2, hd3⟩ := hdist
   have hc1 : CkI A.bk.sa (l.take 8) := ⟨hd1, fun d hd => hc.2 d (List.mem_of_mem_take hd)⟩
   rcases h.cut hk hne (by simp; omega) (fun d hd => hl d (List.mem_of_mem_take hd)) (by omega) with ⟨e, h16⟩ | ⟨e1, hlt, hbk, rs1, hL, _⟩
   ·rw [e, if_neg (by simp)]
    exact ⟨fun s => rfl, rfl, fun d hd => hd, .inl ⟨rfl, k, hk, h16⟩⟩
   ·rw [if_pos e1]
    generalize hA1 : (agCut A k (l.take 8)).2 = A1 at *
    have hsa : A1.bk.sa = A.bk.sa.filter fun d => !inDs (l.take 8) d := by rw [hbk]
    have hc2 : CkI A1.bk.sa (l.drop 8) := ⟨hd2, fun d hd => by
     rw [hc.2 d (List.mem_of_mem_drop hd), hsa, sumS_filter]
     intro x hx e
     have h2 : inDs (l.take 8) x = false := by
      rw [Bool.eq_false_iff]
      intro h3
      obtain ⟨y, hy, e2⟩ := (inDs_iff _ _).1 h3
      exact hd3 y hy d hd (e2.trans e)
     rw [h2]
     rfl⟩
    obtain ⟨r1, r2, r3, r4⟩ := chunks_tot hk f A1 rs1 (B + 334) (l.drop 8) (out ++ [(A.node, (k : Int), (A1.bk.q k).last)]) hL (fun d hd => hl d (List.mem_of_mem_drop hd)) hc2 (by omega) (by simp; omega)
    have ht : ∀ s, tot A1 s = tot A s := fun s => by
     unfold tot
     rw [hsa]
     have e2 := cut_sums hc1 s
     have e3 := qSum_setQ A.bk.q k hk ⟨(A.bk.q k).last + 1, l.take 8⟩ ((A.bk.q k).last + 1) s
     have e4 : A1.bk.q = setQ A.bk.q k ⟨(A.bk.q k).l ++ [⟨(A.bk.q k).last + 1, l.take 8⟩], (A.bk.q k).last + 1⟩ := by rw [hbk]
     rw [e4]
     simp only [] at e3
     omega
    have hs1 : ∀ d ∈ A1.bk.sa, d ∈ A.bk.sa ∧ ∀ x ∈ l.take 8, x.ser ≠ d.ser := fun d hd => by
     rw [hsa] at hd
     obtain ⟨g1, g2⟩ := List.mem_filter.1 hd
     refine ⟨g1, fun x hx e => ?_⟩
     have h2 : inDs (l.take 8) d = true := (inDs_iff _ _).2 ⟨x, hx, e⟩
     rw [h2] at g2
     simp at g2
    refine ⟨fun s => (r1 s).trans (ht s), r2.trans (by rw [hbk]), fun d hd => (hs1 d (r3 d hd)).1, ?_⟩
    rcases r4 with r4 | ⟨r4, r5⟩
    ·exact .inl r4
    ·refine .inr ⟨r4, fun d hd x hx => ?_⟩
     rw [← List.take_append_drop 8 l] at hx
     rcases List.mem_append.1 hx with h5 | h5
     ·exact (hs1 d (r3 d hd)).2 x h5
     ·exact r5 d hd x h5
theorem shard_cki {A : AgD} {rs : List (List UInt8)} {B : Nat} (h : LogI A rs B) (hs : ∀ d ∈ A.bk.sa, d.n ≤ 65535) (k : Nat) : CkI A.bk.sa (joinD (shardL A k)) ∧ (∀ d ∈ shardL A k, ∃ y ∈ joinD (shardL A k), y.ser = d.ser) ∧ (joinD (shardL A k)).length ≤ 32 ∧ ∀ y ∈ joinD (shardL A k), GdD y := by
 have hsub : ∀ d ∈ shardL A k, d ∈ A.bk.sa ∧ shardS d.ser A.bk.sh = k := fun d hd => by
  obtain ⟨h1, h2⟩ := List.mem_filter.1 hd
  exact ⟨h1, by simpa using h2⟩
 have hlen : (shardL A k).length ≤ 32 := Nat.le_trans (List.length_filter_le _ _) h.n32
 have hg : ∀ y ∈ joinD (shardL A k), GdD y := joinD_gd (fun y hy => h.sa y (hsub y hy).1)
 have hj := join_inv (shardL A k) (fun d hd => ⟨by have := (h.sa d (hsub d hd).1).2.1; omega, hs d (hsub d hd).1⟩) (by omega)
 refine ⟨⟨hj.dist, fun y hy => ?_⟩, hj.all, Nat.le_trans (joinD_len _) hlen, hg⟩
 have hn := hj.sums y hy
 have hsh : shardS y.ser A.bk.sh = k := by
  apply Classical.byContradiction
  intro hne
  rw [sumS_none (shardL A k) y.ser (fun d hd e => hne (by rw [← e]; exact (hsub d hd).2))] at hn
  have := (hg y hy).2.1
  omega
 rw [hn]
 unfold shardL
 rw [sumS_filter]
 intro d hd e
 rw [e, hsh]
 simp
set_option maxRecDepth 100000 in
theorem all_tot : ∀ (j k : Nat) (A : AgD) (rs : List (List UInt8)) (B : Nat) (out : List (Int × Int × Int)), LogI A rs B → (∀ d ∈ A.bk.sa, d.n ≤ 65535) → ((k + j : Nat) : Int) = A.bk.sh → (∀ d ∈ A.bk.sa, k ≤ shardS d.ser A.bk.sh) → B + 2672 * j ≤ 1000000 →
  (∀ s, tot (cutAll j k A out).1 s = tot A s) ∧ (cutAll j k A out).1.bk.sh = A.bk.sh ∧ (∀ d ∈ (cutAll j k A out).1.bk.sa, d ∈ A.bk.sa) ∧ (FullQ (cutAll j k A out).1 ∨ (cutAll j k A out).1.bk.sa = [])
 | 0, k, A, rs, B, out, h, hs, hk, hg, hB => by
  refine ⟨fun s => rfl, rfl, fun d hd => hd, .inr ?_⟩
  show A.bk.sa = []
  rw [List.eq_nil_iff_forall_not_mem]
  intro d hd
  have h1 := hg d hd
  have h2 : shardS d.ser A.bk.sh < (max 1 (min A.bk.sh 4)).toNat := by
   unfold shardS
   exact Nat.mod_lt _ (by omega)
  have := h.sh
  omega
 | j + 1, k, A, rs, B, out, h, hs, hk, hg, hB => by
  have hsh := h.sh
  obtain ⟨c1, c2, c3, c4⟩ := shard_cki h hs k
  obtain ⟨rs1, hL, _, _, _, _⟩ := LogI.chunks (k := k) (by omega) 8 A rs B (joinD (shardL A k)) out h c4 (by omega)
  obtain ⟨r1, r2, r3, r4⟩ := chunks_tot (k := k) (by omega) 8 A rs B (joinD (shardL A k)) out h c4 c1 (by omega) (by omega)
  unfold cutAll
  rcases r4 with ⟨e, hf⟩ | ⟨e, hno⟩
  ·rw [if_pos e]
   exact ⟨r1, r2, r3, .inl hf⟩
  ·rw [if_neg (by rw [e]; simp)]
   obtain ⟨g1, g2, g3, g4⟩ := all_tot j (k + 1) (chunksC 8 A k (joinD (shardL A k)) out).2.1 rs1 (B + 2672) (chunksC 8 A k (joinD (shardL A k)) out).2.2 (hL.mono (by omega)) (fun d hd => hs d (r3 d hd)) (by rw [r2]; omega) (fun d hd => by
    have h5 := hg d (r3 d hd)
    rw [r2]
    rcases Nat.lt_or_ge k (shardS d.ser A.bk.sh) with h6 | h6
    ·exact h6
    ·exfalso
     have h7 : shardS d.ser A.bk.sh = k := by omega
     obtain ⟨y, hy, e2⟩ := c2 d (List.mem_filter.2 ⟨r3 d hd, by rw [h7]; simp⟩)
     exact hno d hd y hy e2) (by omega)
   exact ⟨fun s => (g1 s).trans (r1 s), g2.trans r2, fun d hd => r3 d (g3 d hd), g4⟩
theorem agCutAll_bk (A : AgD) : (agCutAll A).1.bk = (cutAll A.bk.sh.toNat 0 A []).1.bk ∧ (agCutAll A).1.b = (cutAll A.bk.sh.toNat 0 A []).1.b ∧ (agCutAll A).1.node = (cutAll A.bk.sh.toNat 0 A []).1.node ∧ (agCutAll A).2 = (cutAll A.bk.sh.toNat 0 A []).2 := by
 unfold agCutAll
 split <;> exact ⟨rfl, rfl, rfl, rfl⟩
theorem tot_bk {A B : AgD} (h : A.bk = B.bk) (s : ByteArray) : tot A s = tot B s := by unfold tot; rw [h]
theorem LogI.bk {A B : AgD} {rs : List (List UInt8)} {K : Nat} (h : LogI A rs K) (e1 : B.bk = A.bk) (e2 : B.b = A.b) : LogI B rs K := by
 obtain ⟨h1, h2, h3, h4, h5, h6, h7, h8⟩ := h
 exact ⟨by rw [e2]; exact h1, h2, by rw [e1]; exact h3, by rw [e1]; exact h4, by rw [e1]; exact h5, by rw [e1]; exact h6, fun k => by rw [e1, e2]; exact h7 k, by rw [e2]; exact h8⟩
/-- All that waits is cut, or a queue is full. -/
theorem cut_tot {A : AgD} {rs : List (List UInt8)} {B : Nat} (h : LogI A rs B) (hs : ∀ d ∈ A.bk.sa, d.n ≤ 65535) (hB : B + 10688 ≤ 1000000) :
  (∃ rs', LogI (agCutAll A).1 rs' (B + 10688)) ∧ (∀ s, tot (agCutAll A).1 s = tot A s) ∧ (agCutAll A).1.bk.sh = A.bk.sh ∧ (∀ d ∈ (agCutAll A).1.bk.sa, d ∈ A.bk.sa) ∧ (FullQ (agCutAll A).1 ∨ (agCutAll A).1.bk.sa = []) := by
 obtain ⟨e1, e2, e3, e4⟩ := agCutAll_bk A
 have hsh := h.sh
 obtain ⟨rs', hL, _⟩ := LogI.all A.bk.sh.toNat 0 A rs B [] h (by omega) (by omega)
 obtain ⟨r1, r2, r3, r4⟩ := all_tot A.bk.sh.toNat 0 A rs B [] h hs (by omega) (fun d _ => Nat.zero_le _) (by omega)
 refine ⟨⟨rs', (hL.bk e1 e2).mono (by omega)⟩, fun s => (tot_bk e1 s).trans (r1 s), by rw [e1]; exact r2, fun d hd => r3 d (by rw [← e1]; exact hd), ?_⟩
 rcases r4 with ⟨k, hk, h16⟩ | r4
 ·exact .inl ⟨k, hk, by rw [e1]; exact h16⟩
 ·exact .inr (by rw [e1]; exact r4)
theorem over_small (ser : ByteArray) : ∀ (l : List DeltaD) (sum : Int), (∀ d ∈ l, d.n ≤ 65535) → sum + 65536 * l.length ≤ 1000000000 → overL ser sum l = false
 | [], _, _, _ => rfl
 | x :: l, sum, h, hs => by
  have h1 := h x (by simp)
  rw [List.length_cons] at hs
  unfold overL
  by_cases hx : x.ser = ser
  ·rw [if_pos hx, if_neg (by omega)]
   exact over_small ser l _ (fun d hd => h d (by simp [hd])) (by omega)
  ·rw [if_neg hx]
   exact over_small ser l _ (fun d hd => h d (by simp [hd])) (by omega)
/-- A sample is taken. -/
theorem ing_tot {A : AgD} {rs : List (List UInt8)} {B : Nat} (h : LogI A rs B) (hs : ∀ d ∈ A.bk.sa, d.n ≤ 65535) {x : DeltaD} (hx : GdD x) (hn : x.n ≤ 65535) (hl : A.bk.sa.length < 32) (hB : B ≤ 1000000) :
  mayB A.bk x = 0 ∧ (agIng A x).1 = 0 ∧ (∃ rs', LogI (agIng A x).2 rs' (B + 59)) ∧ (∀ s, tot (agIng A x).2 s = tot A s + if (x.ser.toList == s.toList) = true then x.n.toNat else 0) ∧ (agIng A x).2.bk.sh = A.bk.sh ∧ (agIng A x).2.bk.sa = A.bk.sa ++ [x] := by
 have hm : mayB A.bk x = 0 := by
  unfold mayB
  rw [if_neg (by rw [hx.good]; simp), if_neg (by omega), over_small x.ser A.bk.sa x.n hs (by omega)]
  simp
 have hw : waCode (recS x) A.b = 0 := by
  have h1 := recS_len hx
  have h2 := frame_bd (l := recS x) (by omega)
  have := h.size
  unfold waCode
  rw [if_neg (by omega), if_neg (by omega)]
 have e : agIng A x = (0, { A with b := A.b ++ frameL (recS x), n := A.n + 1, bk := { A.bk with sa := A.bk.sa ++ [x] } }) := by
  unfold agIng
  rw [if_neg (by rw [hm]; simp), if_neg (by rw [hw]; simp)]
 obtain ⟨rs', hL, _⟩ := h.ing hx
 refine ⟨hm, by rw [e], ⟨rs', hL⟩, fun s => ?_, by rw [e], by rw [e]⟩
 rw [e]
 unfold tot
 show sumS (A.bk.sa ++ [x]) s + _ = _
 rw [sumS_snoc]
 show _ + _ + (qSum (A.bk.q 0) s + qSum (A.bk.q 1) s + qSum (A.bk.q 2) s + qSum (A.bk.q 3) s) = _
 omega
/-- All that is queued. -/
def qBats (A : AgD) : List (Nat × BatD) := (List.range 4).flatMap fun k => (A.bk.q k).l.map fun b => (k, b)
theorem queued_bats (A : AgD) : agQueued A = (qBats A).map fun p => (A.node, (p.1 : Int), p.2.seq) := by
 unfold agQueued qBats quIds
 rw [List.map_flatMap]
 congr 1
 funext k
 rw [List.map_map]
 rfl
theorem batch_of {A : AgD} (hq : ∀ k, QuOk (A.bk.q k)) {p : Nat × BatD} (hp : p ∈ qBats A) : agBatch A A.node (p.1 : Int) p.2.seq = p.2.ds ∧ p.1 < 4 := by
 unfold qBats at hp
 obtain ⟨k, hk, hb⟩ := List.mem_flatMap.1 hp
 obtain ⟨b, hb2, rfl⟩ := List.mem_map.1 hb
 clear hb
 rw [List.mem_range] at hk
 refine ⟨?_, hk⟩
 unfold agBatch
 rw [if_neg (by show ¬ (A.node ≠ A.node ∨ (k : Int) < 0 ∨ 4 ≤ (k : Int)); omega)]
 show findB b.seq (A.bk.q (k : Int).toNat).l = b.ds
 rw [Int.toNat_natCast]
 have hpw := (hq k).2.2.2.2
 generalize (A.bk.q k).l = l at *
 clear hp hq
 induction l with
 | nil => cases hb2
 | cons x l ih =>
  rw [List.map_cons, List.pairwise_cons] at hpw
  unfold findB
  rw [List.find?_cons]
  rcases List.mem_cons.1 hb2 with rfl | hb'
  ·simp
  ·have hlt := hpw.1 b.seq (List.mem_map_of_mem hb')
   have : (x.seq == b.seq) = false := by simp; omega
   rw [this]
   exact ih hb' hpw.2
theorem takeB_smp (S : BkD) (d : DeltaD) (h : GdD d) : ∃ more, takeB S (recS d) = { S with sa := S.sa ++ more } := by
 by_cases hm : mayB S d = 0
 ·exact ⟨[d], takeB_recS S d h.n (by have := h.ser.2; omega) hm⟩
 ·refine ⟨[], ?_⟩
  have e1 : numS (recS d) false = (2, [d].flatMap dBytes, false) := numS_put 2 _ (by omega)
  have e2 : getDs 1 ([d].flatMap dBytes) false = ([d], [], false) := by
   have := getDs_put [d] [] (by simpa using h.n) (by have := h.ser.2; simp; omega)
   simpa using this
  unfold takeB
  simp only [e1, e2]
  rw [if_neg (by omega), if_pos trivial, if_neg (by simp only [doneR, Bool.not_false, List.isEmpty_nil, Bool.and_true, Bool.true_and, decide_eq_true_eq]; exact hm), List.append_nil]
def Smps (l : List (List UInt8)) : Prop := ∀ r ∈ l, ∃ d, GdD d ∧ r = recS d
theorem takes_smp : ∀ (l : List (List UInt8)) (S : BkD), Smps l → ∃ more, takesB S l = { S with sa := S.sa ++ more }
 | [], S, _ => ⟨[], by simp [takesB]⟩
 | r :: l, S, h => by
  obtain ⟨d, hd, rfl⟩ := h r (by simp)
  obtain ⟨m1, e1⟩ := takeB_smp S d hd
  obtain ⟨m2, e2⟩ := takes_smp l (takeB S (recS d)) (fun x hx => h x (by simp [hx]))
  refine ⟨m1 ++ m2, ?_⟩
  show takesB (takeB S (recS d)) l = _
  rw [e2, e1]
  simp
/-- What lasts of the log is all but samples. -/
structure KpI (A : AgD) (rs : List (List UInt8)) (j B : Nat) : Prop where
 log : LogI A rs B
 jle : j ≤ rs.length
 k : A.k = ((rs.take j).flatMap frameL).length
 smp : Smps (rs.drop j)
 ep : A.bk.ep = 1
 node : A.node = 1
theorem KpI.mono {A : AgD} {rs : List (List UInt8)} {j B B' : Nat} (h : KpI A rs j B) (hb : B ≤ B') : KpI A rs j B' := ⟨h.log.mono hb, h.jle, h.k, h.smp, h.ep, h.node⟩
theorem takes_ep : ∀ (f k : Nat) (A : AgD) (l : List DeltaD) (out : List (Int × Int × Int)), (chunksC f A k l out).2.1.bk.ep = A.bk.ep ∧ (chunksC f A k l out).2.1.node = A.node := by
 intro f
 induction f with
 | zero => intro k A l out; exact ⟨rfl, rfl⟩
 | succ f ih =>
  intro k A l out
  unfold chunksC
  split
  ·exact ⟨rfl, rfl⟩
  ·split
   ·obtain ⟨h1, h2⟩ := ih k (agCut A k (l.take 8)).2 (l.drop 8) (out ++ [(A.node, (k : Int), ((agCut A k (l.take 8)).2.bk.q k).last)])
    rw [h1, h2]
    unfold agCut
    split
    ·exact ⟨rfl, rfl⟩
    ·refine ⟨?_, rfl⟩
     show (addB A.bk k _).ep = _
     unfold addB
     split <;> rfl
   ·exact ⟨rfl, rfl⟩
theorem all_ep : ∀ (j k : Nat) (A : AgD) (out : List (Int × Int × Int)), (cutAll j k A out).1.bk.ep = A.bk.ep ∧ (cutAll j k A out).1.node = A.node := by
 intro j
 induction j with
 | zero => intro k A out; exact ⟨rfl, rfl⟩
 | succ j ih =>
  intro k A out
  obtain ⟨c1, c2⟩ := takes_ep 8 k A (joinD (shardL A k)) out
  unfold cutAll
  split
  ·exact ⟨c1, c2⟩
  ·obtain ⟨h1, h2⟩ := ih (k + 1) (chunksC 8 A k (joinD (shardL A k)) out).2.1 (chunksC 8 A k (joinD (shardL A k)) out).2.2
   exact ⟨h1.trans c1, h2.trans c2⟩
theorem chunks_len : ∀ (f k : Nat) (A : AgD) (l : List DeltaD) (out : List (Int × Int × Int)), (chunksC f A k l out).2.1.bk.sa.length ≤ A.bk.sa.length := by
 intro f
 induction f with
 | zero => intro k A l out; exact Nat.le_refl _
 | succ f ih =>
  intro k A l out
  unfold chunksC
  split
  ·exact Nat.le_refl _
  ·split
   ·refine Nat.le_trans (ih k (agCut A k (l.take 8)).2 (l.drop 8) _) ?_
    unfold agCut
    split
    ·exact Nat.le_refl _
    ·show (addB A.bk k _).sa.length ≤ _
     unfold addB
     split
     ·exact List.length_filter_le _ _
     ·exact Nat.le_refl _
   ·exact Nat.le_refl _
theorem all_len : ∀ (j k : Nat) (A : AgD) (out : List (Int × Int × Int)), (cutAll j k A out).1.bk.sa.length ≤ A.bk.sa.length := by
 intro j
 induction j with
 | zero => intro k A out; exact Nat.le_refl _
 | succ j ih =>
  intro k A out
  have c1 := chunks_len 8 k A (joinD (shardL A k)) out
  unfold cutAll
  split
  ·exact c1
  ·exact Nat.le_trans (ih (k + 1) (chunksC 8 A k (joinD (shardL A k)) out).2.1 (chunksC 8 A k (joinD (shardL A k)) out).2.2) c1
theorem KpI.ing {A : AgD} {rs : List (List UInt8)} {j B : Nat} (h : KpI A rs j B) {x : DeltaD} (hx : GdD x) : ∃ rs', KpI (agIng A x).2 rs' j (B + 59) := by
 obtain ⟨rs', hL, hc⟩ := h.log.ing hx
 rcases hc with ⟨rfl, e⟩ | ⟨rfl, e⟩
 ·rw [e] at hL ⊢
  exact ⟨rs', hL, h.jle, h.k, h.smp, h.ep, h.node⟩
 ·refine ⟨_, hL, by have := h.jle; simp; omega, ?_, fun r hr => ?_, ?_, ?_⟩
  ·rw [e, List.take_append_of_le_length h.jle]; exact h.k
  ·rw [List.drop_append_of_le_length h.jle] at hr
   rcases List.mem_append.1 hr with h1 | h1
   ·exact h.smp r h1
   ·simp at h1; exact ⟨x, hx, h1⟩
  ·rw [e]; exact h.ep
  ·rw [e]; exact h.node
theorem LogI.full {A : AgD} {rs : List (List UInt8)} {B : Nat} (h : LogI A rs B) : A.b.length = ((rs.take rs.length).flatMap frameL).length := by rw [List.take_length, h.b]
theorem KpI.sync {A : AgD} {rs : List (List UInt8)} {j B : Nat} (h : KpI A rs j B) : KpI { A with k := A.b.length } rs rs.length B :=
 ⟨h.log.bk rfl rfl, Nat.le_refl _, h.log.full, fun r hr => (by rw [List.drop_length] at hr; exact (nomatch hr)), h.ep, h.node⟩
theorem KpI.cut {A : AgD} {rs : List (List UInt8)} {j B : Nat} (h : KpI A rs j B) (hB : B + 10688 ≤ 1000000) : ∃ rs' j', KpI (agCutAll A).1 rs' j' (B + 10688) := by
 have hsh := h.log.sh
 obtain ⟨rs', hL, _, more, h2, h3⟩ := LogI.all A.bk.sh.toNat 0 A rs B [] h.log (by omega) (by omega)
 obtain ⟨e1, e2⟩ := all_ep A.bk.sh.toNat 0 A []
 unfold agCutAll
 by_cases h0 : (cutAll A.bk.sh.toNat 0 A []).2.length = 0
 ·rw [if_pos h0]
  have hm : more = [] := by
   rw [h2] at h0
   simpa using h0
  obtain ⟨a1, a2⟩ := h3 hm
  rw [a2]
  exact ⟨rs, j, h.mono (by omega)⟩
 ·rw [if_neg h0]
  have hL2 := hL.mono (B' := B + 10688) (by omega)
  exact ⟨rs', rs'.length, hL2.bk rfl rfl, Nat.le_refl _, hL2.full, fun r hr => (by rw [List.drop_length] at hr; exact (nomatch hr)), e1.trans h.ep, e2.trans h.node⟩
/-- Behind a crash. -/
theorem KpI.crash {A : AgD} {rs : List (List UInt8)} {j B : Nat} (h : KpI A rs j B) (hB : B ≤ 1000000) (m : Nat) (hm : A.k ≤ m) :
  ∃ G, agNew 1 3 (A.b.take m) = some G ∧ G.bk.ep = 2 ∧ G.bk.q = A.bk.q ∧ G.node = 1 ∧ G.bk.sa.length ≤ A.bk.sa.length ∧ (A.k = A.b.length → G.bk.sa.length = A.bk.sa.length) := by
 obtain ⟨j', h1, h2, h3, h4⟩ := scan_take rs m h.log.len
 rw [← h.log.b] at h2
 have hjj : j ≤ j' := h3 j h.jle (by rw [← h.k]; exact hm)
 have hsp : takesB (takesB bk0 (rs.take j')) (rs.drop j') = A.bk := by rw [← takesB_app, List.take_append_drop, h.log.tk]
 obtain ⟨more, e⟩ := takes_smp (rs.drop j') (takesB bk0 (rs.take j')) (fun r hr => h.smp r (by
  have : rs.drop j' = (rs.drop j).drop (j' - j) := by rw [List.drop_drop]; congr 1; omega
  rw [this] at hr
  exact List.mem_of_mem_drop hr))
 rw [hsp] at e
 have hnb : newBk (A.b.take m) = { takesB bk0 (rs.take j') with ep := (takesB bk0 (rs.take j')).ep + 1 } := by unfold newBk; rw [h2]
 have hep : (takesB bk0 (rs.take j')).ep = 1 := by
  have := h.ep
  rw [e] at this
  exact this
 have hep2 : (newBk (A.b.take m)).ep = 2 := by rw [hnb]; show _ + 1 = _; omega
 have hwc : waCode (recE (newBk (A.b.take m)).ep.toNat) ((A.b.take m).take (scanS (A.b.take m)).2) = 0 := by
  rw [hep2]
  have hl : (recE (2 : Int).toNat).length = 2 := by decide +kernel
  have hf : (frameL (recE (2 : Int).toNat)).length ≤ 16 := by
   have := frame_bd (l := recE (2 : Int).toNat) (by omega)
   omega
  have hs := h.log.size
  have hle : ((A.b.take m).take (scanS (A.b.take m)).2).length ≤ A.b.length := by
   rw [List.length_take, List.length_take]; omega
  unfold waCode
  rw [if_neg (by omega), if_neg (by omega)]
 refine ⟨_, by unfold agNew; rw [if_neg (by decide), if_neg (by rw [hep2]; omega), if_neg (by rw [hwc]; simp)], hep2, ?_, rfl, ?_, fun hk => ?_⟩
 ·show (newBk (A.b.take m)).q = _
  rw [hnb, e]
 ·show (newBk (A.b.take m)).sa.length ≤ _
  rw [hnb, e]
  show (takesB bk0 (rs.take j')).sa.length ≤ ((takesB bk0 (rs.take j')).sa ++ more).length
  rw [List.length_append]; omega
 ·show (newBk (A.b.take m)).sa.length = _
  have hfull : rs.length ≤ j' := h3 rs.length (Nat.le_refl _) (by rw [← h.log.full, ← hk]; exact hm)
  have hT : takesB bk0 (rs.take j') = A.bk := by rw [List.take_of_length_le hfull, h.log.tk]
  rw [hnb, hT]
def pA : AgD := (agNew 1 3 []).getD ag0
theorem pA_eq : agNew 1 3 [] = some pA := by
 have h : (agNew 1 3 []).isSome = true := by decide +kernel
 unfold pA
 cases h2 : agNew 1 3 [] with
 | none => rw [h2] at h; cases h
 | some x => rfl
theorem p_facts : pA.b = [recE 1].flatMap frameL ∧ pA.bk.ep = 1 ∧ pA.bk.sa.length = 0 ∧ pA.bk.sh = 1 ∧ pA.k = pA.b.length ∧ pA.node = 1 ∧ pA.b.length ≤ 100 ∧ pA.cn = 0 ∧ pA.reps = 3 := by decide +kernel
theorem pA_bk : pA.bk = { bk0 with ep := 1 } := by
 have h := pA_eq
 unfold agNew at h
 rw [if_neg (by decide)] at h
 split at h
 ·cases h
 ·split at h
  ·cases h
  ·injection h with h
   rw [← h]
   show newBk [] = _
   have e : scanS [] = ([], 0) := by decide +kernel
   unfold newBk
   rw [e]
   rfl
theorem p_start : KpI pA [recE 1] 1 100 := by
 obtain ⟨f1, f2, f3, f4, f5, f6, f7, f8, f9⟩ := p_facts
 have hl : (recE 1).length ≤ 65536 := by decide +kernel
 refine ⟨⟨f1, by simpa using hl, ?_, ?_, by omega, by omega, fun k => ?_, f7⟩, by simp, ?_, ?_, f2, f6⟩
 ·rw [pA_bk]
  show takeB bk0 (recE 1) = _
  exact takeB_recE bk0 1 (by omega) (by omega)
 ·rw [List.length_eq_zero_iff.1 f3]; simp
 ·rw [pA_bk]
  exact ⟨quOk0, by show (0 : Int) ≤ _; omega⟩
 ·rw [f5, f1]; rfl
 ·intro r hr; simp at hr
end Go.Proofs.YtgdooockldgdlaaGreatDoor.Vi
end
section
namespace Go.Proofs.YtgdooockldgdlaaGreatDoor.Vi
open Go.RowKit Base Mem Go.Shelf Tape
theorem infoDl : (Tryz.prog.info? 31).map (fun i => (i.zero, i.size, i.bytes)) = some (some (.slice none 0 0), 1, 24) := by kernel_rfl
/-- The slices of deltas that a row of the call's own holds. -/
def DlOwn (w wr : World) (out : Value) (ps : List (List DeltaD × Value)) : Prop := ∀ q ∈ ps, ∀ M', (∀ g ∈ M', g < w.heap.size ∨ out.ownBlock = some g) → Ds wr M' q.2 q.1
theorem dlOwn_step {w wr w1 w2 : World} {out v' dv : Value} {o : Obj} {ps : List (List DeltaD × Value)} {ds : List DeltaD} (hds : DlOwn w wr out ps) (hk : Keeps [] wr w1) (hlt : ∀ g, out.ownBlock = some g → g < wr.heap.size) (hw : w.heap.size ≤ wr.heap.size)
  (hnew : ∀ M', (∀ g ∈ M', g < wr.heap.size) → Ds w1 M' dv ds) (hg : (w1.alloc o).grownBy w2 out.ownBlock) (hat : v'.ownBlock = out.ownBlock ∨ v'.ownBlock = some (w1.heap.size + 1)) : DlOwn w w2 v' (ps ++ [(ds, dv)]) := by
 intro q hq M' hM
 rcases List.mem_append.1 hq with h1 | h1
 ·exact dsOwn_one (fun M'' hM'' => (hds q h1 M'' hM'').keep (M' := []) hk (by simp)) hg hat M' hM
 ·simp at h1
  subst h1
  exact dsOwn_one (fun M'' hM'' => hnew M'' (fun g hg => by
   rcases hM'' g hg with h | h
   ·omega
   ·exact hlt g h)) hg hat M' hM
/-- What is kept of the agent that crashed: its epoch's cells. -/
theorem KnSt.epoch {w W : World} {M : List Nat} {tg : Nat → Nat} {a d : Nat} {A : AgD} (h : KnSt w W M tg a d A) :
  ∃ s Y, DkAt W Y d A.b A.k ∧ (∀ g ∈ Y, g ∈ M) ∧ a ∉ Y ∧ s ∉ Y ∧ a < W.heap.size ∧ s < W.heap.size ∧ W.cell? ⟨a, 3, none⟩ = some (.pointer (some ⟨s, 0, none⟩)) ∧ W.cell? ⟨s, 0, none⟩ = some (.int .i64 A.bk.ep) := by
 obtain ⟨_, C, rfl, hv⟩ := h.ag
 obtain ⟨-, -, -, c3, -, -, -, -, -, hal⟩ := agcells hv
 obtain ⟨_, vs, vc, qb, hb⟩ := hv.bk
 obtain ⟨b0, -, -, -, -, -, -, -, hsl⟩ := blk8 hb.blk
 refine ⟨C.s, C.Y, hv.lg.2.1, fun g hg => (hv.yM g hg).1, fun hm => ?_, fun hm => ?_, hal, hsl, c3, b0⟩
 ·have h1 := (hv.yM _ hm).2; have h2 := hv.ta; omega
 ·have h1 := (hv.yM _ hm).2; have h2 := hb.ts; omega
theorem agQueued_eq {A G : AgD} (h1 : G.bk.q = A.bk.q) (h2 : G.node = A.node) : agQueued G = agQueued A := by unfold agQueued; rw [h1, h2]
theorem agBatch_eq {A G : AgD} (h1 : G.bk.q = A.bk.q) (h2 : G.node = A.node) (x y z : Int) : agBatch G x y z = agBatch A x y z := by unfold agBatch; rw [h1, h2]
end Go.Proofs.YtgdooockldgdlaaGreatDoor.Vi
end
section
namespace Go.Proofs.YtgdooockldgdlaaGreatDoor.Vi
open Go.RowKit Base Mem
open Go.Maps (Keyed)

end Go.Proofs.YtgdooockldgdlaaGreatDoor.Vi
end
section
namespace Go.Proofs.YtgdooockldgdlaaGreatDoor.Vi
open Go.RowKit Base Mem Go.Shelf Tape
structure SuSt (w W : World) (M : List Nat) (tg : Nat → Nat) (a d : Nat) (A : AgD) (b : Nat) (lx : List Int) (k bs n : Nat) (D : DataW Unit) : Prop where
 kn : KnSt w W M tg a d A
 tp : TpBe w W M tg b lx k
 ms : W.ownsMap Tryz.prog 9 (plainElem Tryz.prog 34) bs n D
 inM : bs ∈ M
 tag : tg bs = 99
 ne : bs ≠ b
section
variable {w W V : World} {M M' : List Nat} {tg tg' : Nat → Nat} {a d : Nat} {A B : AgD} {b k bs n : Nat} {lx : List Int} {D D' : DataW Unit}
theorem SuSt.step (h : SuSt w W M tg a d A b lx k bs n D) (x : Ext W M tg V M' tg') (hk : Keeps (sel M tg (List.range 30)) W V) (ag : AgAt V M' tg' a d B) : SuSt w V M' tg' a d B b lx k bs n D :=
 ⟨h.kn.step x hk ag, h.tp.step h.kn.old x hk, om_keep h.ms hk (fun hm => by have := (mem_sel.1 hm).2; rw [h.tag] at this; simp at this), x.sub _ h.inM, by rw [x.tag _ (x.old _ h.inM)]; exact h.tag, h.ne⟩
theorem SuSt.keep0 (h : SuSt w W M tg a d A b lx k bs n D) (hk : Keeps [] W V) : SuSt w V M tg a d A b lx k bs n D :=
 ⟨h.kn.keep0 hk, h.tp.keep0 hk, om_keep h.ms hk (by simp), h.inM, h.tag, h.ne⟩
theorem SuSt.store (h : SuSt w W M tg a d A b lx k bs n D) (hk : Keeps [bs] W V) (hm : V.ownsMap Tryz.prog 9 (plainElem Tryz.prog 34) bs (n + 1) D') : SuSt w V M tg a d A b lx k bs (n + 1) D' :=
 ⟨h.kn.beside (by simp; exact ⟨h.inM, h.tag⟩) hk, h.tp.other hk (by simp; exact ⟨h.kn.old _ h.inM, h.ne⟩), hm, h.inM, h.tag, h.ne⟩
theorem SuSt.series (h : SuSt w W M tg a d A b lx k bs n D) :
  Calls Tryz.prog 19 #[.pointer (some ⟨b, 0, none⟩)] W fun e V => ∃ (s : ByteArray) (k' : Nat), e = .returned (.string s) ∧ NameOk s ∧ SuSt w V M tg a d A b lx k' bs n D := by
 refine (h.kn.series h.tp).mono ?_
 rintro e V ⟨s, k', rfl, hs, h1, h2, h3⟩
 exact ⟨s, k', rfl, hs, h1, h2, om_keep h.ms h3 (by simp; exact h.ne), h.inM, h.tag, h.ne⟩
theorem SuSt.next (h : SuSt w W M tg a d A b lx k bs n D) (m : Int) (hm : 1 ≤ m) :
  Calls Tryz.prog 26 #[.pointer (some ⟨b, 0, none⟩), .int .i64 m] W fun e V => ∃ (v : Int) (k' : Nat), e = .returned (.int .i64 v) ∧ (0 ≤ v ∧ v < m) ∧ SuSt w V M tg a d A b lx k' bs n D := by
 refine (h.kn.next h.tp m hm).mono ?_
 rintro e V ⟨v, k', rfl, hv, h1, h2, h3⟩
 exact ⟨v, k', rfl, hv, h1, h2, om_keep h.ms h3 (by simp; exact h.ne), h.inM, h.tag, h.ne⟩
end
/-- What the map says behind i samples. -/
structure SuPl (A : AgD) (D : DataW Unit) (i : Nat) : Prop where
 log : ∃ rs, LogI A rs (200 + 10747 * i)
 small : ∀ d ∈ A.bk.sa, d.n ≤ 65535
 len : A.bk.sa.length ≤ i
 num : ∀ s, numAt .u64 D (skey s) = (tot A s : Nat)
 bd : ∀ s, tot A s ≤ 9 * i
 node : A.node = 1
theorem SuPl.sample {A : AgD} {D : DataW Unit} {i : Nat} (h : SuPl A D i) (hi : i < 25) (hD : Maps.IsMap D) {s : ByteArray} (hs : NameOk s) {v : Int} (hv : 0 ≤ v ∧ v < 9) (hns : s.size ≤ 9223372036854775807) :
  mayB A.bk ⟨s, 1 + v⟩ = 0 ∧ (agIng A ⟨s, 1 + v⟩).1 = 0 ∧ SuPl (agIng A ⟨s, 1 + v⟩).2 (D.put (skey s) (.lit (.int .u64 (numAt .u64 D (skey s) + (1 + v))))) (i + 1) ∧ (∃ rs, LogI (agIng A ⟨s, 1 + v⟩).2 rs (200 + 10747 * i + 59)) ∧ 0 ≤ numAt .u64 D (skey s) ∧ numAt .u64 D (skey s) ≤ 225 := by
 obtain ⟨rs, hL⟩ := h.log
 have hlen := h.len
 obtain ⟨r1, r2, ⟨rs', r3⟩, r4, r5, r6⟩ := ing_tot hL h.small (x := ⟨s, 1 + v⟩) ⟨hs, by show 1 ≤ 1 + v; omega, by show 1 + v < _; omega⟩ (by show 1 + v ≤ _; omega) (by omega) (by omega)
 have hb := h.bd s
 have hn := h.num s
 refine ⟨r1, r2, ⟨⟨rs', r3.mono (by omega)⟩, fun d hd => ?_, by rw [r6, List.length_append]; simp; omega, fun t => ?_, fun t => ?_, ?_⟩, ⟨rs', r3⟩, by omega, by omega⟩
 ·rw [r6] at hd
  rcases List.mem_append.1 hd with h1 | h1
  ·exact h.small d h1
  ·simp at h1; subst h1; show 1 + v ≤ _; omega
 ·rw [r4 t]
  by_cases he : s = t
  ·subst he
   rw [numAt_same hD (lawS.key (skey_of hns)), hn, if_pos ((ser_iff _ _).2 rfl)]
   show _ + (1 + v) = ((tot A s + (1 + v).toNat : Nat) : Int)
   omega
  ·rw [numAt_other (fun e => he (skey_inj e).symm), h.num t, ser_ne he]
   simp
 ·rw [r4 t]
  have h1 := h.bd t
  have h2 : (1 + v).toNat ≤ 9 := Int.toNat_le.2 (by omega)
  show tot A t + (if (s.toList == t.toList) = true then (1 + v).toNat else 0) ≤ _
  split
  ·have := Nat.add_le_add h1 h2
   exact Nat.le_trans this (Nat.le_of_eq (by omega))
  ·have := Nat.add_le_add h1 (Nat.zero_le 9)
   exact Nat.le_trans (Nat.add_le_add h1 (Nat.le_refl 0)) (show 9 * i + 0 ≤ 9 * (i + 1) by omega)
 ·have hnode : (agIng A ⟨s, 1 + v⟩).2.node = A.node := by
   unfold agIng
   split
   ·rfl
   ·split <;> rfl
  rw [hnode]
  exact h.node
theorem SuPl.cut {A : AgD} {D : DataW Unit} {i : Nat} (h : SuPl A D i) {B : Nat} (hL : ∃ rs, LogI A rs B) {i' : Nat} (hii : i ≤ i' ∧ i' ≤ 26) (hB : B + 10688 ≤ 200 + 10747 * i') : SuPl (agCutAll A).1 D i' ∧ (FullQ (agCutAll A).1 ∨ (agCutAll A).1.bk.sa = []) := by
 obtain ⟨rs, hL⟩ := hL
 obtain ⟨⟨rs', r1⟩, r2, r3, r4, r5⟩ := cut_tot hL h.small (by omega)
 have hsl : (agCutAll A).1.bk.sa.length ≤ A.bk.sa.length := by
  obtain ⟨e1, -⟩ := agCutAll_bk A
  rw [e1]
  exact all_len A.bk.sh.toNat 0 A []
 refine ⟨⟨⟨rs', r1.mono (by omega)⟩, fun d hd => h.small d (r4 d hd), Nat.le_trans (Nat.le_trans hsl h.len) hii.1, fun s => by rw [r2 s]; exact h.num s, fun s => by rw [r2 s]; have := h.bd s; omega, ?_⟩, r5⟩
 rw [(agCutAll_bk A).2.2.1, (all_ep A.bk.sh.toNat 0 A []).2]
 exact h.node
theorem bats_len {A : AgD} (hq : ∀ k, QuOk (A.bk.q k)) : (qBats A).length ≤ 64 := by
 have e : qBats A = (A.bk.q 0).l.map (fun b => (0, b)) ++ ((A.bk.q 1).l.map (fun b => (1, b)) ++ ((A.bk.q 2).l.map (fun b => (2, b)) ++ ((A.bk.q 3).l.map (fun b => (3, b)) ++ []))) := rfl
 rw [e]
 simp only [List.length_append, List.length_map, List.length_nil]
 have h0 := (hq 0).1; have h1 := (hq 1).1; have h2 := (hq 2).1; have h3 := (hq 3).1
 omega
theorem queued_at {A : AgD} (hn : A.node = 1) {y : Nat} (hy : y < (qBats A).length) (h : y < (agQueued A).length) : (agQueued A)[y] = (1, ((qBats A)[y].1 : Int), (qBats A)[y].2.seq) := by
 refine (List.getElem_of_eq (queued_bats A) h).trans ?_
 rw [List.getElem_map]
 exact Prod.ext hn rfl
theorem bat_in {A : AgD} {p : Nat × BatD} (hp : p ∈ qBats A) : p.2 ∈ (A.bk.q p.1).l := by
 unfold qBats at hp
 obtain ⟨k, hk, hb⟩ := List.mem_flatMap.1 hp
 obtain ⟨b, hb2, rfl⟩ := List.mem_map.1 hb
 exact hb2
end Go.Proofs.YtgdooockldgdlaaGreatDoor.Vi
end
section
namespace Go.Proofs.YtgdooockldgdlaaGreatDoor.Vi
open Go.RowKit Base Mem Go.Shelf
theorem dEq_iff (x y : DeltaD) : dEq x y = true ↔ x = y := by
 have := dsEq_iff [x] [y]
 unfold dsEq at this
 simpa [Lib.allEq] using this
theorem ds_len {a b : List DeltaD} (h : a.length ≠ b.length) : dsEq a b = false := by
 rw [Bool.eq_false_iff]
 intro e
 exact h (by rw [(dsEq_iff a b).1 e])
theorem ds_diff {a b : List DeltaD} {x : Nat} (ha : x < a.length) (hb : x < b.length) (h : dEq a[x] b[x] = false) : dsEq a b = false := by
 rw [Bool.eq_false_iff]
 intro e
 have := (dsEq_iff a b).1 e
 subst this
 rw [(dEq_iff _ _).2 rfl] at h
 cases h
theorem ds_next {a b : List DeltaD} {x : Nat} (ha : x < a.length) (hb : x < b.length) (h : dEq a[x] b[x] = true) (ht : a.take x = b.take x) : a.take (x + 1) = b.take (x + 1) := by
 rw [List.take_succ_eq_append_getElem ha, List.take_succ_eq_append_getElem hb, ht, (dEq_iff _ _).1 h]
set_option maxRecDepth 100000 in
theorem rsameDs_any (va vb : Value) (a b : List DeltaD) (w : World) (ha : Ds w [] va a) (hb : Ds w [] vb b) (hl : a.length ≤ 4611686018427387904) (hl2 : b.length ≤ 4611686018427387904) :
  Calls Tryz.prog 34 #[va, vb] w fun e w' => e = .returned (.bool (dsEq a b)) ∧ Below w.heap.size w w' := by
 have Ha := Lib.hid ha; have Hb := Lib.hid hb
 obtain ⟨Aa, ca, rfl, hca⟩ := ha.len
 obtain ⟨Ab, cb, rfl, hcb⟩ := hb.len
 clear ha hb
 by_cases hn : a.length = b.length
 ·have hni : ((a.length : Int) != (b.length : Int)) = false := by simp [hn]
  have Hn := Lib.hid hn
  have Hfin : Hid (∀ x, x = a.length → a.take x = b.take x → dsEq a b = true) := fun x hx ht => by
   subst hx
   rw [List.take_length, List.take_of_length_le (by omega)] at ht
   exact (dsEq_iff a b).2 ht
  clear hn
  go_enter Tryz.func34, Tryz.ntmps34
  go_wp2_with fail
  go_loopw [13] (fun i wr => ∃ (x q : Nat), i = .int .i64 x ∧ x ≤ a.length ∧ Hid (a.take x = b.take x) ∧ wr = w.drewN q) (fun i _ => a.length - (intOf i).toNat)
  case atStart => exact ⟨0, 0, rfl, by omega, (show a.take 0 = b.take 0 by simp), rfl⟩
  case round =>
   obtain ⟨x, q, rfl, hx, Ht, rfl⟩ := hrel
   by_cases hlt : x < a.length
   ·have hltb : x < b.length := by have := Hn.out; omega
    obtain ⟨ga, oa, _, e1, _, hga, _, h1⟩ := Rd.at_ dCell 2 (fun _ => rfl) Ha.out hlt
    obtain ⟨gb, ob, _, e2, _, hgb, _, h2⟩ := Rd.at_ dCell 2 (fun _ => rfl) Hb.out hltb
    obtain rfl : Aa = some ⟨ga, oa, none⟩ := by injection e1
    obtain rfl : Ab = some ⟨gb, ob, none⟩ := by injection e2
    clear e1 e2
    have c1 : w.cell? ⟨ga, oa + x * 2 + 0, none⟩ = some (.string a[x].ser) := h1 0 _ rfl
    have c2 : w.cell? ⟨ga, oa + x * 2 + 1, none⟩ = some (.int .u64 a[x].n) := h1 1 _ rfl
    have c3 : w.cell? ⟨gb, ob + x * 2 + 0, none⟩ = some (.string b[x].ser) := h2 0 _ rfl
    have c4 : w.cell? ⟨gb, ob + x * 2 + 1, none⟩ = some (.int .u64 b[x].n) := h2 1 _ rfl
    rw [Nat.add_zero] at c1 c3
    have hx1 : (x : Int) < (a.length : Int) := by omega
    have hx2 : (x : Int) < (b.length : Int) := by omega
    have Hd := Lib.hid (ds_diff hlt hltb)
    have Hx := Lib.hid (fun h => ds_next hlt hltb h Ht.out)
    have he := fun W => dEq_at.1 a[x] b[x] W
    simp only [dCell] at he
    clear h1 h2
    generalize a[x] = da at *
    generalize b[x] = db at *
    obtain ⟨sa, na⟩ := da
    obtain ⟨sb, nb⟩ := db
    simp only [] at c1 c2 c3 c4 he
    cases hd : dEq ⟨sa, na⟩ ⟨sb, nb⟩ with
    | true =>
     rw [hd] at he
     have hnx := Lib.hid (Hx.out hd)
     clear Hd Hx hd
     go_wp2_with fail
     go_quiet (fail)
     go_wp2
     go_roundw
     case rel => exact ⟨x + 1, _, by go_num, by omega, hnx, rfl⟩
     case measure => simp [intOf] <;> omega
    | false =>
     rw [hd] at he
     have hf := Lib.hid (Hd.out hd)
     clear Hd Hx hd
     go_wp2_with fail
     go_quiet (fail)
     go_wp2
     go_ret
     rw [hf.out]
     exact ⟨rfl, (((Keeps.refl [] w).drewN _).drewN _).below⟩
   ·obtain rfl : x = a.length := by omega
    have hf := Lib.hid (Hfin.out _ rfl Ht.out)
    go_wp2
    go_ret
    rw [hf.out]
    exact ⟨rfl, ((Keeps.refl [] w).drewN _).below⟩
 ·have hni : ((a.length : Int) != (b.length : Int)) = true := by rw [bne_iff_ne]; omega
  have hf := Lib.hid (ds_len hn)
  clear hn Ha Hb
  go_enter Tryz.func34, Tryz.ntmps34
  go_wp2
  go_ret
  rw [hf.out]
  exact ⟨rfl, Below.refl _ _⟩
end Go.Proofs.YtgdooockldgdlaaGreatDoor.Vi
end
section
namespace Go.Proofs.YtgdooockldgdlaaGreatDoor.Vi
open Go.RowKit Base Mem

end Go.Proofs.YtgdooockldgdlaaGreatDoor.Vi
end
section
namespace Go.Proofs.YtgdooockldgdlaaGreatDoor.Vi
open Go.RowKit Base Mem Go.Shelf Tape
set_option maxRecDepth 100000 in
set_option maxHeartbeats 8000000 in
theorem keeps_walk (Av : Option Addr) (c : Nat) (lx : List Int) (kp : Int) (mx : Int) (w : World) (hN : Nums w Av c lx) (hm : w.cell? ⟨0, 0, none⟩ = some (.int .i64 mx)) :
  Calls Tryz.prog 6 #[.slice Av lx.length c, .int .i64 kp] w fun e w' => SamePost true w e w' := by
 have Hm := Lib.hid hm; have HN := Lib.hid hN
 have hw0 : 0 < w.heap.size := by
  have := World.block_lt_of_cell? w _ hm
  simpa using this
 have HPL0 : Hid (∃ rs j, KpI pA rs j (100 + 10688 * 0)) := ⟨_, _, p_start⟩
 obtain ⟨i0, hi0, hz0, hz1, hz2⟩ := info_parts infoDl
 have Hi0 := Lib.hid hi0; have Hz0 := Lib.hid hz0; have Hz1 := Lib.hid hz1; have Hz2 := Lib.hid hz2
 clear hm hN hi0 hz0 hz1 hz2
 go_enter Tryz.func6, Tryz.ntmps6
 go_wp2_with fail
 refine (dknew_any w).mono ?_
 rintro e w1 ⟨rfl, hd1, hb1⟩
 obtain ⟨d, Hd⟩ : ∃ d, Hid (d = w.heap.size) := ⟨_, rfl⟩
 rw [← Hd.out] at hd1 ⊢
 have hnw := Lib.hid (agnew_any hd1 1 3 mx (by have := Hd.out; simp; omega) ((hb1.cell (p := ⟨0, 0, none⟩) hw0).trans Hm.out))
 have Hb1 := Lib.hid hb1
 clear hd1 hb1
 go_wp2_with fail
 refine hnw.out.mono ?_
 intro e w2 hp
 rw [pA_eq] at hp
 obtain ⟨a, M2, tg2, rfl, hs2⟩ := kn_new (b := []) (k := 0) Hb1.out (by simp [Hd.out]) hp
 obtain ⟨hs3, ht3⟩ := hs2.tape HN.out
 have HS3 := Lib.hid hs3; have HT3 := Lib.hid ht3
 clear hp hs2 hnw Hb1 hs3 ht3 HN
 go_upto_region 6 with (fail)
 generalize w2.alloc (.cells #[.slice Av lx.length c, .int .i64 0] 49) = w3 at *
 generalize ([w2.heap.size] ++ M2) = M3 at *
 generalize (fun x => if x ∈ [w2.heap.size] then 99 else tg2 x) = tg3 at *
 generalize w2.heap.size = b at *
 go_wp2_with fail
 go_loopw [8] (fun i wr => ∃ (x k : Nat) (A : AgD) (M : List Nat) (tg : Nat → Nat), i = .int .i64 x ∧ x ≤ 30 ∧ Hid (KnSt w wr M tg a d A) ∧ Hid (TpBe w wr M tg b lx k) ∧ Hid (∃ rs j, KpI A rs j (100 + 10688 * x))) (fun i _ => 30 - (intOf i).toNat)
 case atStart => exact ⟨0, 0, pA, M3, tg3, rfl, by omega, HS3, HT3, HPL0⟩
 case round =>
  obtain ⟨x, k, A, M, tg, rfl, hx, HS, HT, HP⟩ := hrel
  clear HS3 HT3 HPL0
  by_cases hx30 : x < 30
  ·have hx1 : (x : Int) < 30 := by omega
   have hne := Lib.hid (HS.out.next HT.out 6 (by omega))
   go_wp2_with fail
   refine hne.out.mono ?_
   rintro e w6 ⟨v, k6, rfl, ⟨hv0, hv6⟩, hs6, ht6, hk6⟩
   have HS6 := Lib.hid hs6; have HT6 := Lib.hid ht6
   clear hne hs6 ht6 hk6 HS HT
   by_cases hv : v = 0
   ·subst hv
    have hcu := Lib.hid (agcutall_any HS6.out.ag HS6.out.lt)
    go_wp2_with fail
    refine hcu.out.mono ?_
    rintro e w12 ⟨vc, rfl, _, M12, tg12, h1, h2, h3, _⟩
    have HS12 := Lib.hid (HS6.out.step h2 h3 h1)
    have HT12 := Lib.hid (HT6.out.step HS6.out.old h2 h3)
    have HP12 : Hid (∃ rs j, KpI (agCutAll A).1 rs j (100 + 10688 * (x + 1))) := by
     obtain ⟨rs, j, h⟩ := HP.out
     obtain ⟨rs', j', h'⟩ := h.cut (by omega)
     exact ⟨rs', j', h'.mono (by omega)⟩
    clear h1 h2 h3 hcu HS6 HT6 HP
    go_wp2_with fail
    go_roundw
    case rel => exact ⟨x + 1, k6, _, M12, tg12, by go_num, by omega, HS12, HT12, HP12⟩
    case measure => simp [intOf] <;> omega
   ·by_cases hv1 : v = 1
    ·subst hv1
     clear hv
     have hsy := Lib.hid (agsync_any HS6.out.ag HS6.out.lt)
     go_wp2_with fail
     refine hsy.out.mono ?_
     rintro e w12 ⟨rfl, M12, tg12, h1, h2, h3⟩
     have HS12 := Lib.hid (HS6.out.step h2 h3 h1)
     have HT12 := Lib.hid (HT6.out.step HS6.out.old h2 h3)
     have HP12 : Hid (∃ rs j, KpI { A with k := A.b.length } rs j (100 + 10688 * (x + 1))) := by
      obtain ⟨rs, j, h⟩ := HP.out
      exact ⟨_, _, h.sync.mono (by omega)⟩
     clear h1 h2 h3 hsy HS6 HT6 HP
     go_wp2_with fail
     go_roundw
     case rel => exact ⟨x + 1, k6, _, M12, tg12, by go_num, by omega, HS12, HT12, HP12⟩
     case measure => simp [intOf] <;> omega
    ·have hse := Lib.hid (HS6.out.series HT6.out)
     go_wp2_with fail
     refine hse.out.mono ?_
     rintro e w7 ⟨s, k7, rfl, hs, hs7, ht7, hk7⟩
     have HS7 := Lib.hid hs7; have HT7 := Lib.hid ht7; have Hs := Lib.hid hs
     have hne := Lib.hid (hs7.next ht7 9 (by omega))
     clear hse hs hs7 ht7 hk7 HS6 HT6
     go_wp2_with fail
     refine hne.out.mono ?_
     rintro e w8 ⟨v9, k8, rfl, ⟨hv90, hv99⟩, hs8, ht8, hk8⟩
     have HS8 := Lib.hid hs8; have HT8 := Lib.hid ht8
     have hgd : GdD ⟨s, 1 + v9⟩ := ⟨Hs.out, by show 1 ≤ 1 + v9; omega, by show 1 + v9 < _; omega⟩
     have hss : s.size ≤ 15 := hgd.ser.2
     have hin := Lib.hid (aging_any hs8.ag hs8.lt ⟨s, 1 + v9⟩ hgd.n (by show s.size < _; omega) mx (hs8.cell0 Hm.out).1)
     have HP12 : Hid (∃ rs j, KpI (agIng A ⟨s, 1 + v9⟩).2 rs j (100 + 10688 * (x + 1))) := by
      obtain ⟨rs, j, h⟩ := HP.out
      obtain ⟨rs', h'⟩ := h.ing hgd
      exact ⟨rs', j, h'.mono (by omega)⟩
     have hw1 : IntKind.u64.wrap v9 = v9 := by rw [IntKind.wrap_u64]; omega
     have hw2 : IntKind.u64.wrap (1 + v9) = 1 + v9 := by rw [IntKind.wrap_u64]; omega
     clear hne hs8 ht8 hk8 HS7 HT7 HP hgd hss
     go_wp2_with fail
     refine (show Calls Tryz.prog 18 #[.pointer (some ⟨a, 0, none⟩), .string s, .int .u64 (1 + v9)] w8 _ from hin.out).mono ?_
     rintro e w9 ⟨rfl, M9, tg9, h1, h2, h3⟩
     have HS9 := Lib.hid (HS8.out.step h2 h3 h1)
     have HT9 := Lib.hid (HT8.out.step HS8.out.old h2 h3)
     clear h1 h2 h3 hin HS8 HT8
     go_wp2_with fail
     go_roundw
     case rel => exact ⟨x + 1, k8, _, M9, tg9, by go_num, by omega, HS9, HT9, HP12⟩
     case measure => simp [intOf] <;> omega
  ·obtain rfl : x = 30 := by omega
   clear HT
   obtain ⟨s0, Y, hdk, hYM, haY, hsY, hal, hsl, c3, b0⟩ := HS.out.epoch
   have hbo : BkOk A.bk := by obtain ⟨_, C, _, hv⟩ := HS.out.ag; exact hv.bk.1
   have Hdk := Lib.hid hdk; have HYM := Lib.hid hYM
   have HE := Lib.hid (show a ∉ Y ∧ s0 ∉ Y ∧ a < wr.heap.size ∧ s0 < wr.heap.size ∧ wr.cell? ⟨a, 3, none⟩ = some (.pointer (some ⟨s0, 0, none⟩)) ∧ wr.cell? ⟨s0, 0, none⟩ = some (.int .i64 A.bk.ep) from ⟨haY, hsY, hal, hsl, c3, b0⟩)
   obtain ⟨dw, Hdw⟩ : ∃ dw : Int, Hid (dw = (A.b.length : Int) - A.k) := ⟨_, rfl⟩
   have hdw := Lib.hid (dkwaits_any wr hdk)
   rw [← Hdw.out] at hdw
   clear hdk hYM haY hsY hal hsl c3 b0
   go_wp2_with fail
   refine hdw.out.mono ?_
   rintro e w6 ⟨rfl, q6, hw6⟩
   have Hk6 : Hid (Keeps [] wr w6) := by rw [hw6]; exact (Keeps.refl _ _).drewN _
   clear hw6 hdw
   have HS6 := Lib.hid (HS.out.keep0 Hk6.out)
   have hwt := Lib.hid (agwaits_any HS6.out.ag)
   go_wp2_with fail
   refine hwt.out.mono ?_
   rintro e w7 ⟨rfl, rfl⟩
   have hqu := Lib.hid (agqueued_any HS6.out.ag HS6.out.lt)
   clear hwt HS
   go_wp2_with fail
   refine hqu.out.mono ?_
   rintro e w7 ⟨vq, rfl, hrow, hb⟩
   have hq : ∀ k, QuOk (A.bk.q k) := fun k => by obtain ⟨rs, j, hL⟩ := HP.out; exact (hL.log.qu k).1
   have hlen : (agQueued A).length = (qBats A).length := by rw [queued_bats, List.length_map]
   have hnode : A.node = 1 := by obtain ⟨rs, j, hL⟩ := HP.out; exact hL.node
   have Hnode := Lib.hid hnode
   obtain ⟨Aq, cq, rfl, hcq⟩ := own_slice2 hrow
   have HYb : Hid (∀ g ∈ Y, g < w6.heap.size) := fun g hg => HS6.out.lt g (HYM.out g hg)
   have HId := Lib.hid (show Idr w7 Y (.slice Aq (agQueued A).length cq) (agQueued A) from Rd.of_own (M := Y) hrow HYb.out)
   have Hrow : Hid (∀ y, (hy : y < (qBats A).length) → ∃ g off, Aq = some ⟨g, off, none⟩ ∧ g < w7.heap.size ∧ g ∉ Y ∧ w7.cell? ⟨g, off + y * 3, none⟩ = some (.int .i64 1) ∧ w7.cell? ⟨g, off + y * 3 + 1, none⟩ = some (.int .i64 (qBats A)[y].1) ∧ w7.cell? ⟨g, off + y * 3 + 2, none⟩ = some (.int .i64 (qBats A)[y].2.seq)) := fun y hy => by
    obtain ⟨g, off, cap, e1, _, hg, hgM, hcell⟩ := Rd.at_ idCell 3 (fun _ => rfl) HId.out (k := y) (by rw [hlen]; exact hy)
    injection e1 with e1
    have hid := queued_at hnode hy (show y < (agQueued A).length by rw [hlen]; exact hy)
    rw [hid] at hcell
    exact ⟨g, off, e1, hg, hgM, hcell 0 _ rfl, hcell 1 _ rfl, hcell 2 _ rfl⟩
   have Hbat : Hid (∀ p ∈ qBats A, agBatch A 1 (p.1 : Int) p.2.seq = p.2.ds ∧ p.2.ds.length ≤ 8) := fun p hp => by
    have h1 := (batch_of hq hp).1
    rw [hnode] at h1
    have h2 := bat_in hp
    exact ⟨h1, ((hq p.1).2.2.2.1 p.2 h2).2.2.2.1⟩
   have hq64 : (qBats A).length ≤ 64 := bats_len hq
   have HS7 := Lib.hid (HS6.out.keep0 (Keeps.of_below (M := []) hb))
   have Hk67 : Hid (Keeps [] wr w7) := Hk6.out.trans (Keeps.of_below (M := []) hb) (by simp)
   have hsz67 : w6.heap.size ≤ w7.heap.size := hb.size
   clear hrow hb hqu HS6 hq hcq Hk6 hbo hnode
   rw [hlen] at HId ⊢
   clear hlen
   go_frame
   go_wp2_with fail
   go_loopw [12, 61] (fun dv iv wq => ∃ (y : Nat) (ps : List (List DeltaD × Value)), iv = .int .i64 y ∧ y ≤ (qBats A).length ∧ Hid (ps.map (·.1) = ((qBats A).take y).map (·.2.ds)) ∧ Hid (Keeps [] w7 wq) ∧ Hid (wq.ownsRow w7.heap.size 31 1 dv y (ps.map (·.2))) ∧ Hid (DlOwn w7 wq dv ps)) (fun _ iv _ => (qBats A).length - (intOf iv).toNat)
   case atStart => exact ⟨0, [], rfl, by omega, rfl, Keeps.refl _ _, World.ownsRow_nil _ _ _ _, (show DlOwn w7 w7 _ [] from fun q hq => by cases hq)⟩
   case round =>
    rename_i wq
    obtain ⟨y, ps, rfl, hy, HM, HKy, Hown, HDl⟩ := hrel
    obtain ⟨Ao, co, rfl, hco⟩ := own_slice2 Hown.out
    by_cases hyl : y < (qBats A).length
    ·have hy1 : (y : Int) < ((qBats A).length : Int) := by omega
     obtain ⟨g, off, rfl, hg, hgb, j0, j1, j2⟩ := Hrow.out y hyl
     obtain ⟨b1, b2⟩ := Hbat.out _ (List.getElem_mem hyl)
     have HM1 : Hid (((qBats A).take (y + 1)).map (·.2.ds) = ((qBats A).take y).map (·.2.ds) ++ [(qBats A)[y].2.ds]) := by
      show _ = _
      rw [List.take_succ_eq_append_getElem hyl, List.map_append]
      rfl
     generalize (qBats A)[y] = p at *
     obtain ⟨pk, psq, ds⟩ := p
     simp only [] at j0 j1 j2 b1 b2 HM1
     have p0 := (HKy.out.cell (p := ⟨g, off + y * 3, none⟩) hg (by simp)).trans j0
     have p1 := (HKy.out.cell (p := ⟨g, off + y * 3 + 1, none⟩) hg (by simp)).trans j1
     have p2 := (HKy.out.cell (p := ⟨g, off + y * 3 + 2, none⟩) hg (by simp)).trans j2
     have hka : Keeps [] wr (wr.alloc (.cells #[.int .i64 1, .int .i64 pk, .int .i64 psq] 30)) := (Keeps.refl _ _).alloc _
     have HKa := Lib.hid hka
     have HSa := Lib.hid (HS7.out.keep0 (HKy.out.trans hka (by simp)))
     have HBI := Lib.hid (Blk.new wr 30 #[.int .i64 1, .int .i64 pk, .int .i64 psq])
     have hzr := HKy.out.size
     clear hka j0 j1 j2 hg hgb
     go_upto_region 21 with (fail)
     clear p0 p1 p2
     generalize wr.alloc (.cells #[.int .i64 1, .int .i64 pk, .int .i64 psq] 30) = wa at *
     generalize hgI : wr.heap.size = gI at HBI ⊢
     have hzI : gI = wr.heap.size := hgI.symm
     clear hgI
     have c0 := HBI.out.cell 0; have c1 := HBI.out.cell 1; have c2 := HBI.out.cell 2
     simp only [List.getElem?_toArray, List.getElem?_cons_succ, List.getElem?_cons_zero] at c0 c1 c2
     have hba := Lib.hid (agbatch_any HSa.out.ag HSa.out.lt 1 pk psq)
     rw [b1] at hba
     have HzI := Lib.hid hzI
     clear b1 hzI
     go_wp2_with fail
     refine hba.out.mono ?_
     rintro e w8 ⟨Ad, nd, cd, rfl, hds, hb8⟩
     have hk8 : Keeps [] wr w8 := HKa.out.trans (Keeps.of_below (M := []) hb8) (by simp)
     have Hk8 := Lib.hid hk8
     have HzA := HKa.out.size
     have HDs : Hid (∀ M', (∀ g ∈ M', g < wr.heap.size) → Ds w8 M' (.slice Ad nd cd) ds) := fun M' hM' => hds M' (fun g hg => Nat.lt_of_lt_of_le (hM' g hg) HzA)
     have hownA : (w8.alloc (.cells #[.slice Ad nd cd] 31)).ownsRow w7.heap.size 31 1 (.slice Ao y co) y (ps.map (·.2)) := (own_keep Hown.out hk8 (by simp)).alloc _
     have HownA := Lib.hid hownA
     have hz8 : w7.heap.size ≤ w8.heap.size := Nat.le_trans hzr hk8.size
     have hpl : (ps.map (·.2)).length = y := by have := hownA.1; omega
     have Hlt0 := Lib.hid Hown.out.lt
     clear hds hb8 hba HSa HBI c0 c1 c2 hk8 hownA hpl HzA
     go_wp2_with (at_builtin; refine wpList_append_any _ rfl (.tmp 65) (.tmp 69) _ rfl w7.heap.size 31 i0 _ 1 24 Tryz.underlying68 Hi0.out Hz0.out Hz1.out Hz2.out rfl (by omega) (.slice Ao y co) y (ps.map (·.2)) rfl HownA.out (w8.heap.size + 1) (some ⟨w8.heap.size, 0, none⟩) 1 1 [.slice Ad nd cd] rfl (reads_new _ _ _ _ _ rfl) (by intro u hu; simp at hu; subst hu; rfl) (by unfold maxLen; omega) (by omega) (by simp; omega) ?_)
     intro v9 w9 hown9 hg9 hat9
     have hk9 : Keeps (Value.slice Ao y co).ownBlock.toList w8 w9 := ((Keeps.refl _ _).alloc _).grown hg9 (fun k hk => .inl (by simp [hk]))
     have HK9 : Hid (Keeps [] w7 w9) := (HKy.out.trans Hk8.out (by simp)).trans hk9 (fun k hk => .inr (Hlt0.out k (by simpa using hk)).1)
     have HDl9 : Hid (DlOwn w7 w9 v9 (ps ++ [(ds, .slice Ad nd cd)])) := dlOwn_step HDl.out Hk8.out (fun g hg => (Hlt0.out g hg).2) hzr HDs.out hg9 hat9
     have Hown9 : Hid (w9.ownsRow w7.heap.size 31 1 v9 (y + 1) ((ps ++ [(ds, Value.slice Ad nd cd)]).map (·.2))) := by
      show World.ownsRow _ _ _ _ _ _ _
      rw [List.map_append]
      exact hown9
     have HM9 : Hid ((ps ++ [(ds, Value.slice Ad nd cd)]).map (·.1) = ((qBats A).take (y + 1)).map (·.2.ds)) := by
      show _ = _
      rw [HM1.out, List.map_append, HM.out]
      rfl
     clear hown9 hg9 hat9 hk9 HM1 HM HownA Hown HDl Hk8 HKa HDs Hlt0 HzI
     go_wp2_with fail
     go_roundw
     case rel => exact ⟨y + 1, _, by go_num, by omega, HM9, HK9, Hown9, HDl9⟩
     case measure => simp [intOf] <;> omega
    ·obtain rfl : y = (qBats A).length := by omega
     have HROW : Hid (∀ z, (hz : z < (qBats A).length) → ∃ gd off dv, Ao = some ⟨gd, off, none⟩ ∧ gd < wr.heap.size ∧ gd ∉ Y ∧ wr.cell? ⟨gd, off + z, none⟩ = some dv ∧ Ds wr Y dv (qBats A)[z].2.ds) := fun z hz => by
      have hY7 : ∀ g ∈ Y, g < w7.heap.size := fun g hg => Nat.lt_of_lt_of_le (HYb.out g hg) hsz67
      have hpl : (ps.map (·.2)).length = (qBats A).length := by have := Hown.out.1; omega
      have hzp : z < ps.length := by rw [List.length_map] at hpl; omega
      have hpd : ps[z].1 = (qBats A)[z].2.ds := by
       have h1 := congrArg (fun l => l[z]?) HM.out
       simp only [List.getElem?_map, List.take_length, List.getElem?_eq_getElem hzp, List.getElem?_eq_getElem hz, Option.map_some] at h1
       injection h1
      have hdz := HDl.out ps[z] (List.getElem_mem hzp) Y (fun g hg => .inl (hY7 g hg))
      rw [hpd] at hdz
      obtain ⟨A9, c9, e9, _, _, hr9⟩ := Rd.of_own (M := Y) Hown.out hY7
      obtain ⟨gd, off, rfl, hgd, hgY, hx9⟩ := hr9 (by omega)
      injection e9 with e9 _ _
      exact ⟨gd, off, ps[z].2, e9, hgd, hgY, hx9 z _ (by rw [List.getElem?_map, List.getElem?_eq_getElem hzp]; rfl), hdz⟩
     have hdk1 := Hdk.out.keep0 (Hk67.out.trans HKy.out (by simp))
     have hdY : d ∈ Y := by obtain ⟨_, _, _, h, _⟩ := Hdk.out; exact h
     have h0Y : 0 ∉ Y := fun h => (HS7.out.cell0 Hm.out).2 (HYM.out 0 h)
     obtain ⟨mk, Hmk⟩ : ∃ mk : Nat, Hid (mk = A.k + crashK A.b A.k kp) := ⟨_, rfl⟩
     have hcr := dkcrash_any wr hdk1 kp
     rw [← Hmk.out] at hcr
     have Hcr := Lib.hid hcr
     obtain ⟨G, hG, Hg⟩ : ∃ G, agNew 1 3 (A.b.take mk) = some G ∧ Hid (G.bk.ep = 2 ∧ G.bk.q = A.bk.q ∧ G.node = 1 ∧ G.bk.sa.length ≤ A.bk.sa.length ∧ (A.k = A.b.length → G.bk.sa.length = A.bk.sa.length)) := by
      obtain ⟨rs, j, hL⟩ := HP.out
      obtain ⟨G, h1, h2, h3, h4, h5, h6⟩ := hL.crash (by omega) mk (by rw [Hmk.out]; omega)
      exact ⟨G, h1, ⟨h2, h3, h4, h5, h6⟩⟩
     have Hep : Hid (A.bk.ep = 1) := by obtain ⟨rs, j, hL⟩ := HP.out; exact hL.ep
     have HdY := Lib.hid hdY; have H0Y := Lib.hid h0Y
     clear hdk1 hcr hdY h0Y HP hy
     go_wp2_with fail
     refine Hcr.out.mono ?_
     rintro e w10 ⟨rfl, hd10, hk10⟩
     have Hk10 : Hid (Keeps Y wr w10) := hk10.mono (by simp; exact .inl HdY.out)
     have HB10 := Lib.hid (HS7.out.bel)
     have hsz10 := hk10.size
     have hm10 : w10.cell? ⟨0, 0, none⟩ = some (.int .i64 mx) := (hk10.cell (p := ⟨0, 0, none⟩) (by have := HB10.out.size; have := HKy.out.size; show 0 < _; omega) (by simp; intro h; exact H0Y.out (h ▸ HdY.out))).trans (((HS7.out.keep0 HKy.out).cell0 Hm.out).1)
     have hnb := Lib.hid (agnew_any hd10 1 3 mx H0Y.out hm10)
     rw [hG] at hnb
     clear hd10 hk10 hm10 Hcr
     go_wp2_with fail
     refine hnb.out.mono ?_
     rintro e w11 ⟨hk11, a2, M2, tg2, rfl, hag2, hnew2, hlt2, _⟩
     have Hag2 := Lib.hid hag2; have Hlt2 := Lib.hid hlt2
     have HY11 : Hid (Keeps Y wr w11) := Hk10.out.trans hk11 (fun g hg => .inl hg)
     have hz11 := HY11.out.size
     obtain ⟨haY, hsY, hal, hsl, e3, e0⟩ := HE.out
     have HYq := Lib.hid (((Hk67.out.trans HKy.out (by simp)).mono (M' := Y) (by simp)).trans HY11.out (fun g hg => .inl hg))
     have hae := Lib.hid (agepoch_cells ((HYq.out.cell (p := ⟨a, 3, none⟩) hal haY).trans e3) ((HYq.out.cell (p := ⟨s0, 0, none⟩) hsl hsY).trans e0))
     rw [Hep.out] at hae
     have hbe := Lib.hid (agepoch_any hag2)
     rw [Hg.out.1] at hbe
     have hbq := Lib.hid (agqueued_any hag2 hlt2)
     rw [agQueued_eq Hg.out.2.1 (Hg.out.2.2.1.trans Hnode.out.symm)] at hbq
     clear hk11 hag2 hnew2 hlt2 haY hsY hal hsl e3 e0 hnb
     go_wp2_with fail
     refine hbe.out.mono ?_
     rintro e w12 ⟨rfl, rfl⟩
     clear hbe
     go_wp2_with fail
     refine hae.out.mono ?_
     rintro e w12 ⟨rfl, rfl⟩
     clear hae
     go_wp2_with fail
     refine hbq.out.mono ?_
     rintro e w12 ⟨vb, rfl, hrb, hb12⟩
     have Hk12 : Hid (Keeps [] w11 w12) := Keeps.of_below (M := []) hb12
     have hidb : Idr w12 [] vb (agQueued A) := Rd.of_own hrb (by simp)
     have hida : Idr w12 [] (.slice Aq (qBats A).length cq) (agQueued A) := ((HId.out.keep ((HKy.out.mono (M' := Y) (by simp)).trans HY11.out (fun g hg => .inl hg)) (fun g hg => .inl hg)).avoid (M' := []) (by simp)).keep Hk12.out (by simp)
     have hql : (agQueued A).length ≤ 1000000 := by rw [queued_bats, List.length_map]; omega
     have hid2 := Lib.hid (idents_any vb (.slice Aq (qBats A).length cq) _ _ w12 hidb hida hql hql)
     rw [decide_eq_true (rfl : agQueued A = agQueued A)] at hid2
     have hwb := Hag2.out.keep0 Hlt2.out Hk12.out
     have Hwb := Lib.hid hwb
     have Hlt12 := Lib.hid (fun g hg => Nat.lt_of_lt_of_le (Hlt2.out g hg) Hk12.out.size)
     clear hrb hb12 hidb hida hql hbq hwb
     go_wp2_with fail
     refine hid2.out.mono ?_
     rintro e w13 ⟨rfl, q13, hw13⟩
     have Hk13 : Hid (Keeps [] w11 w13) := by rw [hw13]; exact Hk12.out.drewN _
     have Hwb3 := Lib.hid (Hag2.out.keep0 Hlt2.out Hk13.out)
     have hwt2 := Lib.hid (agwaits_any Hwb3.out)
     have HKz : Hid (Keeps Y w7 w13) := (HKy.out.mono (M' := Y) (by simp)).trans (HY11.out.trans Hk13.out (by simp)) (fun g hg => .inl hg)
     have HYz := Lib.hid (HY11.out.trans Hk13.out (by simp))
     have HLt3 := Lib.hid (fun g hg => Nat.lt_of_lt_of_le (Hlt2.out g hg) Hk13.out.size)
     have hle : ¬ (A.bk.sa.length : Int) < (G.bk.sa.length : Int) := by have := Hg.out.2.2.2.1; omega
     have hleN : decide (A.bk.sa.length < G.bk.sa.length) = false := decide_eq_false (by have := Hg.out.2.2.2.1; omega)
     have Hdk0 : Hid (dw = 0 → ((G.bk.sa.length : Int) != (A.bk.sa.length : Int)) = false) := fun h => by
      have h1 := Hdw.out
      have h2 := Hdk.out.le.1
      have h3 := Hg.out.2.2.2.2 (by omega)
      simp [h3]
     have Hq : Hid (G.bk.q = A.bk.q ∧ G.node = A.node) := ⟨Hg.out.2.1, Hg.out.2.2.1.trans Hnode.out.symm⟩
     clear hw13 hid2 Hk12 Hwb Hlt12
     go_wp2_with fail
     refine hwt2.out.mono ?_
     rintro e w14 ⟨rfl, rfl⟩
     by_cases hz : dw = 0
     case' pos =>
      have hne := Hdk0.out hz
      subst hz
      go_wp2_with fail
      refine hwt2.out.mono ?_
      rintro e w14 ⟨rfl, rfl⟩
      clear hwt2 Hdk0
      go_wp2_with fail
     case' neg =>
      clear hwt2 Hdk0
      go_wp2_with fail
     all_goals
      go_loopw [110] (fun iv wz => ∃ z : Nat, iv = .int .i64 z ∧ z ≤ (qBats A).length ∧ Hid (Keeps [] w13 wz)) (fun iv _ => (qBats A).length - (intOf iv).toNat)
      case atStart => exact ⟨0, rfl, by omega, Keeps.refl _ _⟩
      case round =>
       obtain ⟨z, rfl, hz, HKr⟩ := hrel
       by_cases hzl : z < (qBats A).length
       ·have hz1 : (z : Int) < ((qBats A).length : Int) := by omega
        obtain ⟨g, off, rfl, hg, hgb, j0, j1, j2⟩ := Hrow.out z hzl
        obtain ⟨b1, b2⟩ := Hbat.out _ (List.getElem_mem hzl)
        obtain ⟨gd, od, dv, rfl, hgd, hgdY, hcd, hdd⟩ := HROW.out z hzl
        have hgd13 := Nat.lt_of_lt_of_le hgd HYz.out.size
        have hd13 := hdd.keep HYz.out (fun g hg => .inl hg)
        have hc13 := (HYz.out.cell (p := ⟨gd, od + z, none⟩) hgd hgdY).trans hcd
        have hg13 := Nat.lt_of_lt_of_le hg HKz.out.size
        have i0 := (HKz.out.cell (p := ⟨g, off + z * 3, none⟩) hg hgb).trans j0
        have i1 := (HKz.out.cell (p := ⟨g, off + z * 3 + 1, none⟩) hg hgb).trans j1
        have i2 := (HKz.out.cell (p := ⟨g, off + z * 3 + 2, none⟩) hg hgb).trans j2
        generalize (qBats A)[z] = p at *
        obtain ⟨pk, psq, ds⟩ := p
        simp only [] at b1 b2 hd13 i1 i2
        have p0 := (HKr.out.cell (p := ⟨g, off + z * 3, none⟩) hg13 (by simp)).trans i0
        have p1 := (HKr.out.cell (p := ⟨g, off + z * 3 + 1, none⟩) hg13 (by simp)).trans i1
        have p2 := (HKr.out.cell (p := ⟨g, off + z * 3 + 2, none⟩) hg13 (by simp)).trans i2
        have hka : Keeps [] w13 (wr.alloc (.cells #[.int .i64 1, .int .i64 pk, .int .i64 psq] 30)) := HKr.out.alloc _
        have HKa := Lib.hid hka
        have HBI := Lib.hid (Blk.new wr 30 #[.int .i64 1, .int .i64 pk, .int .i64 psq])
        have HDd := Lib.hid ((hd13.avoid (M' := []) (by simp)).keep hka (by simp))
        have hcda := (hka.cell (p := ⟨gd, od + z, none⟩) hgd13 (by simp)).trans hc13
        have Hcda := Lib.hid hcda
        have HlD := Lib.hid (Nat.lt_of_lt_of_le hgd13 hka.size)
        have hbG : agBatch G 1 pk psq = ds := by rw [agBatch_eq Hq.out.1 Hq.out.2]; exact b1
        clear hka j0 j1 j2 i0 i1 i2 hg hgb hcd hdd hc13 hd13 hgd hgdY hgd13 hg13 b1 hcda
        go_upto_region 30 with (fail)
        clear p0 p1 p2
        generalize wr.alloc (.cells #[.int .i64 1, .int .i64 pk, .int .i64 psq] 30) = wa at *
        generalize wr.heap.size = gI at *
        have hba : Hid (∀ W, Keeps [] wa W → Calls Tryz.prog 30 #[.pointer (some ⟨a2, 0, none⟩), .agg #[.int .i64 1, .int .i64 pk, .int .i64 psq]] W fun e w' => DsPost ds W e w') := fun W hk => by
         have h9 := agbatch_any (Hwb3.out.keep0 HLt3.out (HKa.out.trans hk (by simp))) (fun g hg => Nat.lt_of_lt_of_le (HLt3.out g hg) (HKa.out.trans hk (by simp)).size) 1 pk psq
         rwa [hbG] at h9
        have HC : Hid (∀ W, Keeps [] wa W → W.cell? ⟨gI, 0, none⟩ = some (.int .i64 1) ∧ W.cell? ⟨gI, 1, none⟩ = some (.int .i64 pk) ∧ W.cell? ⟨gI, 2, none⟩ = some (.int .i64 psq) ∧ W.cell? ⟨gd, od + z, none⟩ = some dv) := fun W hk => by
         have h9 := hk.blk HBI.out (by simp)
         exact ⟨h9.cell 0, h9.cell 1, h9.cell 2, (hk.cell (p := ⟨gd, od + z, none⟩) HlD.out (by simp)).trans Hcda.out⟩
        -- region 30
        have HSD : Hid (∀ W va, Ds W [] va ds → Keeps [] wa W → Calls Tryz.prog 34 #[va, dv] W fun e w' => e = .returned (.bool true) ∧ Below W.heap.size W w') := fun W va h hk => by
         have h9 := rsameDs_any va dv ds ds W h (HDd.out.keep hk (by simp)) (Nat.le_trans b2 (by decide)) (Nat.le_trans b2 (by decide))
         rwa [(dsEq_iff ds ds).2 rfl] at h9
        clear b2
        refine wp_region_held_drew (S := (fun W => W.cell? ⟨gI, 0, none⟩ = some (.int .i64 1) ∧ W.cell? ⟨gI, 1, none⟩ = some (.int .i64 pk) ∧ W.cell? ⟨gI, 2, none⟩ = some (.int .i64 psq) ∧ W.cell? ⟨gd, od + z, none⟩ = some dv)) (by kernel_rfl) (HC.out _ (Keeps.refl _ _).drew) (fun hHeld => ?_)
        refine wpAnyH_take (i := 0) (oi := _) (v := _) rfl (by kernel_rfl) (by kernel_rfl) (by kernel_rfl) (fun _ _ _ h => h) (Or.inl ⟨by rfl, by intro w hSw; obtain ⟨hS0, hS1, hS2, hS3⟩ := hSw; go_simp <;> with_reducible rfl⟩) (by assumption) ?_
        try simp only [List.getElem_toArray, List.getElem_cons_succ, List.getElem_cons_zero, Act.put, List.setIfInBounds_toArray, List.set_cons_zero, List.set_cons_succ]
        refine wpAnyH_take (i := 1) (oi := _) (v := _) rfl (by kernel_rfl) (by kernel_rfl) (by kernel_rfl) (fun _ _ _ h => h) (Or.inl ⟨by rfl, by intro w hSw; obtain ⟨hS0, hS1, hS2, hS3⟩ := hSw; go_simp <;> with_reducible rfl⟩) (by assumption) ?_
        try simp only [List.getElem_toArray, List.getElem_cons_succ, List.getElem_cons_zero, Act.put, List.setIfInBounds_toArray, List.set_cons_zero, List.set_cons_succ]
        refine wpAnyH_take (i := 3) (oi := _) (v := _) rfl (by kernel_rfl) (by kernel_rfl) (by kernel_rfl) (fun _ _ _ h => h) (Or.inl ⟨by rfl, by intro w hSw; obtain ⟨hS0, hS1, hS2, hS3⟩ := hSw; go_simp <;> with_reducible rfl⟩) (by assumption) ?_
        try simp only [List.getElem_toArray, List.getElem_cons_succ, List.getElem_cons_zero, Act.put, List.setIfInBounds_toArray, List.set_cons_zero, List.set_cons_succ]
        refine wpAnyH_take (i := 4) (oi := _) (v := _) rfl (by kernel_rfl) (by kernel_rfl) (by kernel_rfl) (fun _ _ _ h => h) (Or.inl ⟨by rfl, by intro w hSw; obtain ⟨hS0, hS1, hS2, hS3⟩ := hSw; go_simp <;> with_reducible rfl⟩) (by assumption) ?_
        try simp only [List.getElem_toArray, List.getElem_cons_succ, List.getElem_cons_zero, Act.put, List.setIfInBounds_toArray, List.set_cons_zero, List.set_cons_succ]
        refine wpAnyH_take (i := 5) (oi := _) (v := _) rfl (by kernel_rfl) (by kernel_rfl) (by kernel_rfl) (fun _ _ _ h => h) (Or.inl ⟨by rfl, by intro w hSw; obtain ⟨hS0, hS1, hS2, hS3⟩ := hSw; go_simp <;> with_reducible rfl⟩) (by assumption) ?_
        try simp only [List.getElem_toArray, List.getElem_cons_succ, List.getElem_cons_zero, Act.put, List.setIfInBounds_toArray, List.set_cons_zero, List.set_cons_succ]
        refine wpAnyH_take (i := 6) (oi := _) (v := _) rfl (by kernel_rfl) (by kernel_rfl) (by kernel_rfl) (fun _ _ _ h => h) (Or.inl ⟨by rfl, by intro w hSw; obtain ⟨hS0, hS1, hS2, hS3⟩ := hSw; go_simp <;> with_reducible rfl⟩) (by assumption) ?_
        try simp only [List.getElem_toArray, List.getElem_cons_succ, List.getElem_cons_zero, Act.put, List.setIfInBounds_toArray, List.set_cons_zero, List.set_cons_succ]
        refine wpAnyH_ready (rs := [2]) (by kernel_rfl) (by simp) ?_
        refine AllReadyH.cons (o := _) rfl (fun K hK => ?_) AllReadyH.nil
        go_simp
        refine (hba.out _ ((Keeps.refl [] wa).drew)).mono ?_
        rintro e w2 ⟨Ad, nd, cd, rfl, hds, hb⟩
        have HS2 := Lib.hid (hds [] (by simp))
        have hk2 := Lib.hid (((Keeps.refl [] wa).drew).trans (Keeps.of_below (M := []) hb) (by simp))
        clear hds hb
        refine hK.out _ _ (HC.out _ hk2.out) (fun hHeld2 => ?_)
        clear hK K hHeld
        have hHeld := hHeld2
        clear hHeld2
        try simp only [List.getElem_toArray, List.getElem_cons_succ, List.getElem_cons_zero, Act.put, List.setIfInBounds_toArray, List.set_cons_zero, List.set_cons_succ]
        refine wpAnyH_ready (rs := [7]) (by kernel_rfl) (by simp) ?_
        refine AllReadyH.cons (o := _) rfl (fun K hK => ?_) AllReadyH.nil
        go_simp
        with_reducible refine (HSD.out _ _ HS2.out hk2.out).mono ?_
        rintro e w3 ⟨rfl, hb⟩
        have hk3 := Lib.hid (hk2.out.trans (Keeps.of_below (M := []) hb) (by simp))
        clear hb
        refine hK.out _ _ (HC.out _ hk3.out) (fun hHeld2 => ?_)
        clear hK K hHeld
        have hHeld := hHeld2
        clear hHeld2
        try simp only [List.getElem_toArray, List.getElem_cons_succ, List.getElem_cons_zero, Act.put, List.setIfInBounds_toArray, List.set_cons_zero, List.set_cons_succ]
        refine wpAnyH_take (i := 8) (oi := _) (v := _) rfl (by kernel_rfl) (by kernel_rfl) (by kernel_rfl) (fun _ _ _ h => h) (Or.inl ⟨by rfl, by intro w hSw; obtain ⟨hS0, hS1, hS2, hS3⟩ := hSw; go_simp <;> with_reducible rfl⟩) (by assumption) ?_
        try simp only [List.getElem_toArray, List.getElem_cons_succ, List.getElem_cons_zero, Act.put, List.setIfInBounds_toArray, List.set_cons_zero, List.set_cons_succ]
        refine wpAnyH_done (by kernel_rfl) ?_ _
        clear hHeld
        -- behind region 30
        have HKw : Hid (Keeps [] w13 w3) := HKa.out.trans hk3.out (by simp)
        clear hk3 hk2 HC hba HSD HS2
        go_wp2_with fail
        go_roundw
        case rel => exact ⟨z + 1, by go_num, by omega, HKw⟩
        case measure => simp [intOf] <;> omega
       ·obtain rfl : z = (qBats A).length := by omega
        have hb13 := HS7.out.bel.trans (HKz.out.belowB HS7.out.bel.size (fun g hg => HS7.out.old g (HYM.out g hg)))
        have HBr := Lib.hid (hb13.trans (HKr.out.belowB hb13.size (by simp)))
        have hkn := Lib.hid (known19_any mx wr ((HBr.out.cell (p := ⟨0, 0, none⟩) hw0).trans Hm.out))
        clear hb13
        go_wp2_with fail
        refine hkn.out.mono ?_
        rintro e w9 ⟨rfl, hb9⟩
        have hP : Hid (SamePost true w (.returned (.bool true)) w9) := ⟨rfl, HBr.out.trans ((Keeps.of_below (M := []) hb9).belowB HBr.out.size (by simp))⟩
        go_wp2
        go_ret
        exact hP.out
end Go.Proofs.YtgdooockldgdlaaGreatDoor.Vi
end
section
namespace Go.Proofs.YtgdooockldgdlaaGreatDoor.agentKeeps
open Go.ChangeShapes Go.WideShapes Go.ChangeAt Go.RowKit
set_option linter.unusedVariables false
theorem own : ownKnob Tryz.prog.godebug = none := by kernel_rfl
theorem laidOut : laidOutB Tryz.prog = true := by kernel_rfl
/-- A slice of integers that came in. -/
def IsRow (k : IntKind) (w : World) (a : Option Addr) (len cap : Nat) (zs : List Int) : Prop :=
 (a = none ∧ len = 0 ∧ cap = 0 ∧ zs = []) ∨
 ∃ x, a = some x ∧ len ≤ cap ∧ cap ≤ maxLen ∧ zs.length = cap ∧ (∀ i, i < zs.length → w.cell? (x.add i) = some (.int k (zs.getD i 0))) ∧ ∀ n ∈ zs, (Lit.int k n).wf = true
theorem nums_of {w : World} {a : Option Addr} {len cap : Nat} {zs : List Int} (h : IsRow .i64 w a len cap zs) : (zs.take len).length = len ∧ Vi.Nums w a cap (zs.take len) := by
 obtain ⟨h1, h2, h3, _, h5⟩ := Mem.row_view h
 exact ⟨h1, by omega, h3, h5⟩
set_option maxRecDepth 100000 in
theorem contract (H : Type) (enc : TypeId × Value → H) (W : World) (base : Nat) (args : Array Value) (ds gs : List (DataW H)) (before : List MemPlace)
  (hval : ∀ (j : Nat) t v, Tryz.f6.params[j]? = some t → args[j]? = some v → Value.okWide Tryz.prog W .any base t v)
  (hW : DataW.Whole enc Tryz.prog Tryz.f6.params.toList Rows.agentKeepsSpec.vars false W args.toList ds gs before) (hsh : W.ShapedOpen Tryz.prog) :
  Calls Tryz.prog 6 args W fun e W' => ∃ v, e = .returned v ∧ Rows.agentKeepsSpec.post enc Tryz.prog Tryz.f6 false true false false W args v W' := by
 have hW' := hW
 obtain ⟨p, q, hA0, hV, rfl, hfz, hnd⟩ := hW
 have hA : DataW.TrodAll enc Tryz.prog W 0 (fun _ => true) true Tryz.f6.params.toList args.toList ds p := hA0
 rw [Tryz.params6] at hA hval
 obtain ⟨v0, vs0, d0, ds0, p0, q0, hargs, rfl, rfl, h0, r0⟩ := trodAll_cons hA
 obtain ⟨v1, vs1, d1, ds1, p1, q1, rfl, rfl, rfl, h1, r1⟩ := trodAll_cons r0
 obtain ⟨rfl, rfl, rfl⟩ := trodAll_nil r1
 obtain rfl : args = #[v0, v1] := by cases args; simp_all
 obtain ⟨rfl, rfl⟩ := trodVars_none hV
 obtain ⟨a0, n0, c0, rfl⟩ := okWide_slice Tryz.underlying22 (hval 0 22 v0 rfl rfl)
 have k0 := h0
 have lt0 : ∀ x ∈ p0, x.block < W.heap.size := by obtain ⟨m, hm⟩ := k0; exact DataW.trod_lt m _ _ _ hm
 obtain ⟨z0, g0⟩ : ∃ zs, IsRow .i64 W a0 n0 c0 zs := by
  obtain ⟨fuel, hf⟩ := h0
  rcases open_ints Tryz.underlying22 Tryz.underlying3 (by kernel_rfl) hf with ⟨hcs, _⟩ | ⟨x, l, c, zs, hcs, _, hl, hm, hz, _, hcell, hwz⟩
  ·simp [Value.cells] at hcs
   obtain ⟨rfl, rfl, rfl⟩ := hcs
   exact ⟨[], .inl ⟨rfl, rfl, rfl, rfl⟩⟩
  ·simp [Value.cells] at hcs
   obtain ⟨rfl, rfl, rfl⟩ := hcs
   exact ⟨zs, .inr ⟨_, rfl, hl, hm, by simpa using hz, hcell, hwz⟩⟩
 obtain ⟨L0, N0⟩ := nums_of g0
 obtain ⟨i1, rfl, rfl, rfl, g1⟩ := open_int Tryz.underlying2 (hval 1 2 v1 rfl rfl) h1
 obtain ⟨mx, hm⟩ := CardW.max_cell hsh
 clear hA0
 have hwalk : Calls Tryz.prog 6 #[.slice a0 n0 c0, .int .i64 i1] W fun e w' => Vi.SamePost true W e w' := by
  have := Vi.keeps_walk a0 c0 (z0.take n0) i1 mx W N0 hm
  rw [L0] at this
  exact this
 refine hwalk.mono fun e W' ⟨he, bel⟩ => ?_
 subst he
 exact ⟨_, rfl, _, _, _, [], _, [], hW', trodAll_mk1 (shut_bool Tryz.underlying4 _), (trodAll_cons_mk (Below.trod laidOut (by kernel_rfl) (of_decide_eq_true (by kernel_rfl)) k0 bel lt0) (trodAll_cons_mk (shut_int Tryz.underlying2 g1) trodAll_mk0)), rfl, bel.frame _, fun h => by cases h⟩
theorem reads (os : Os) {H : Type} (enc : TypeId × Value → H) : ∃ places, DataW.whole enc Tryz.prog ((CardW.laidWorld os).forCall (fun _ _ => 0) ⟨#[], #[.slice none 0 0, .int .i64 0], []⟩).memory Tryz.f6.params.toList Rows.agentKeepsSpec.vars false (#[Value.slice none 0 0, .int .i64 0]).toList 8 = some ([.nil, .lit (.int .i64 0)], [], places) :=
 ⟨[], by kernel_rfl⟩
set_option maxRecDepth 100000 in
theorem lifted (os : Os) (started : os.Started) (H : Type) (enc : TypeId × Value → H) (F : Stop.Interp) :
  ReturnsInHanded {} Tryz.checked os 6 .any ((OpenSpec.ofChange Rows.agentKeepsSpec).preRow enc Tryz.prog Tryz.f6 Rows.agentKeepsRow.domain false Rows.agentKeepsRow.laid) (((OpenSpec.ofChange Rows.agentKeepsSpec).at F).post enc Tryz.prog Tryz.f6 false true false false) := by
 obtain ⟨places, hx⟩ := reads os enc
 refine returnsInHanded_of_row (C := Tryz.checked) (s := (OpenSpec.ofChange Rows.agentKeepsSpec)) own started (by kernel_rfl) Tryz.func6
  (witness_row_at (enc := enc) (C := Tryz.checked) false (CardW.laidWorld os) #[.slice none 0 0, .int .i64 0] rfl (by kernel_rfl) (by kernel_rfl) (by kernel_rfl)
   (OpenSpec.preRow_of_cond 8 hx (by kernel_rfl) (fun k hk => by cases hk) (by kernel_rfl) (CardW.laid_met os _))) ?_
 intro W base args ds gs before hval hW _ _ _ _ hsh _
 exact contract H enc W base args ds gs before hval hW hsh
theorem said : Rows.AgentKeepsSaid :=
 OpenClaim.holds_of_cond 6 Tryz.f6 rfl rfl rfl rfl rfl rfl rfl ⟨rfl, rfl, rfl, rfl, rfl⟩ rfl rfl rfl rfl rfl (by kernel_rfl) Tryz.func6 (by kernel_rfl)
  (of_decide_eq_true (by kernel_rfl)) (by unfold Func.isWrapper; first | (rw [if_pos (by decide +kernel)]; kernel_rfl) | (rw [if_neg (by decide +kernel)]; exact ⟨rfl, rfl⟩))
  (fun os started H enc _ F => by rw [OpenClaim.pre_eq_preRow]; exact lifted os started H enc F)
theorem plain (f : FuncId) (fn : Func) (hf : Tryz.pinned.checked.prog.funcNamed "hopper/hopperlaw19.AgentKeeps" = some f) (hfn : Tryz.pinned.checked.prog.funcs[f]? = some fn) :
  false = Tryz.pinned.checked.prog.looks [] ∧ ∀ (j : Nat) t, fn.params[j]? = some t → Tryz.pinned.checked.prog.wantsStandIn t = false := by
 obtain rfl : f = 6 := Option.some.inj ((show Tryz.prog.funcNamed "hopper/hopperlaw19.AgentKeeps" = some 6 by kernel_rfl).symm.trans hf) |>.symm
 obtain rfl : fn = Tryz.f6 := (Option.some.inj (Tryz.func6.symm.trans hfn)).symm
 refine ⟨by kernel_rfl, fun j t ht => ?_⟩
 rw [Tryz.params6] at ht
 have hmem := Array.mem_of_getElem? ht
 simp at hmem
 rcases hmem with rfl | rfl
 ·exact (show Tryz.prog.wantsStandIn 22 = false by kernel_rfl)
 ·exact (show Tryz.prog.wantsStandIn 2 = false by kernel_rfl)
theorem proved : Rows.AgentKeepsCardSaid :=
 Claim7.holds_tied_plain_at .later [] _ _ _ _ said (fun _ h => by cases h) (by kernel_rfl) (fun _ h => by cases h) agentKeeps_row_tie rfl ⟨rfl, rfl⟩ (by kernel_rfl) rfl plain (by kernel_rfl)
#print axioms proved
end Go.Proofs.YtgdooockldgdlaaGreatDoor.agentKeeps
end
section
namespace Go.Proofs.YtgdooockldgdlaaGreatDoor.Vi
open Go.RowKit Base Mem Tape
open Draw
def ansM (t c : Int) : MsgD := ⟨2, ⟨0, 0, 0, 0, 0, [], ⟨#[]⟩, 0, 0⟩, t, c, 0, 0, 0, [], 0, 0⟩
theorem mright_ans (t c : Int) (ht : 0 ≤ t) (hc : 0 ≤ c ∧ c ≤ 255) : mrightS (ansM t c) = 0 := by
 have hz : zeroS (ansM t c) = true := by
  have e : clearM (ansM t c) = zeroM := rfl
  unfold zeroS
  rw [e]
  decide +kernel
 unfold mrightS
 rw [if_neg (by rw [hz]; show ¬ ((2 : Int) < 1 ∨ (6 : Int) < 2 ∨ true = false); simp)]
 have hb : bad2 (ansM t c) = false := by
  show (decide (t < 0) || decide ((0 : Int) < 0) || decide ((0 : Int) < 0) || decide ((0 : Int) < 0) || decide ((0 : Int) < 0) || decide (c < 0) || decide (255 < c) || decide ((128 : Int) < 0) || decide ((128 : Int) < 0)) = false
  simp
  omega
 rw [hb, if_neg (by simp), if_neg (by simp [ansM]), if_neg (by show ¬ (2 : Int) = 1; omega)]
 rfl
def dA : AgD := (agNew 2 2 []).getD ag0
def dC : AgD × List (Int × Int × Int) := agCutAll (agIng dA kD).2
def dB : BatD := ⟨1, [kD]⟩
theorem dA_eq : agNew 2 2 [] = some dA := by
 have h : (agNew 2 2 []).isSome = true := by decide +kernel
 unfold dA
 cases h2 : agNew 2 2 [] with
 | none => rw [h2] at h; cases h
 | some x => rfl
theorem d_ing : mayB dA.bk kD = 0 ∧ (agIng dA kD).1 = 0 ∧ dC.2.length = 1 ∧ dC.1.cn = 0 := by decide +kernel
/-- A batch that is not done. -/
structure DnSt (A : AgD) : Prop where
 one : OneB A dB
 reps : A.reps = 2
 node : A.node = 2
 last : 0 ≤ A.last ∧ A.last < 2
 asked : ∀ p ∈ A.asked, p.2 = some (0, 1) ∧ p.1 ≤ A.tag
 try0 : 0 ≤ (tryD A 0 dB).1
/-- It is sent again within j ticks. -/
def DueIn (A : AgD) (j : Int) : Prop := (tryD A 0 dB).1 = 0 ∨ (tryD A 0 dB).2 ≤ A.now + j
/-- What was sent is asked. -/
def OutOk (A : AgD) (s : SentD) : Prop := look A.asked s.m.en.tag = some (some (0, 1)) ∧ (0 ≤ s.dst ∧ s.dst < 2)
/-- All is done. -/
structure DnGone (A : AgD) : Prop where
 q : ∀ k, k < 4 → (A.bk.q k).l = []
 reps : A.reps = 2
 node : A.node = 2
 asked : A.asked = []
theorem d_start : DnSt dC.1 ∧ DueIn dC.1 48 := by
 have e1 : dC.1.reps = 2 ∧ dC.1.node = 2 ∧ dC.1.last = 0 ∧ dC.1.asked.length = 0 ∧ (tryD dC.1 0 dB).1 = 0 := by decide +kernel
 obtain ⟨h1, h2, h3, h4, h5⟩ := e1
 have h6 := List.length_eq_zero_iff.1 h4
 exact ⟨⟨⟨by kernel_rfl, by kernel_rfl, by kernel_rfl, by kernel_rfl⟩, h1, h2, by omega, by rw [h6]; simp, by omega⟩, .inl h5⟩
theorem dn_send {A : AgD} (h : DnSt A) : DnSt (agSend A 0 dB (tryD A 0 dB).1) ∧ (agSend A 0 dB (tryD A 0 dB).1).now = A.now ∧ (tryD (agSend A 0 dB (tryD A 0 dB).1) 0 dB).2 ≤ A.now + 48 ∧ (agSend A 0 dB (tryD A 0 dB).1).cn = A.cn + 2 ∧ OutOk (agSend A 0 dB (tryD A 0 dB).1) (sendM A 0 dB (tryD A 0 dB).1) ∧ (∀ s, OutOk A s → OutOk (agSend A 0 dB (tryD A 0 dB).1) s) := by
 have hw := wait_bd (A.tag + 1) (tryD A 0 dB).1
 have ht := try_send A 0 dB (tryD A 0 dB).1
 generalize hn : (tryD A 0 dB).1 = n at *
 have hn0 : 0 ≤ n := by have := h.try0; omega
 have hask : (agSend A 0 dB n).asked = A.asked ++ [(A.tag + 1, some (0, 1))] := rfl
 have htg : (agSend A 0 dB n).tag = A.tag + 1 := rfl
 refine ⟨⟨h.one, h.reps, h.node, h.last, fun p hp => ?_, by rw [ht]; show 0 ≤ n + 1; omega⟩, rfl, by rw [ht]; show A.now + _ ≤ _; omega, rfl, ⟨?_, ?_⟩, fun s hs => ⟨?_, hs.2⟩⟩
 ·rw [hask] at hp
  rw [htg]
  rcases List.mem_append.1 hp with h1 | h1
  ·have := h.asked p h1
   exact ⟨this.1, by omega⟩
  ·simp at h1; subst h1
   exact ⟨rfl, Int.le_refl _⟩
 ·rw [hask, look_app]
  have e : (sendM A 0 dB n).m.en.tag = A.tag + 1 := rfl
  rw [e, look_none (fun p hp he => by have := (h.asked p hp).2; omega)]
  simp
 ·show 0 ≤ (A.last + n).tmod A.reps ∧ (A.last + n).tmod A.reps < 2
  rw [h.reps]
  have := h.last
  constructor
  ·exact Int.tmod_nonneg _ (by omega)
  ·exact Int.tmod_lt_of_pos _ (by omega)
 ·rw [hask, look_app, hs.1]
/-- Ticks, one behind the other. -/
theorem dn_ticks : ∀ (j : Nat) (A : AgD) (out : List SentD), DnSt A → (∀ s ∈ out, OutOk A s) → (out ≠ [] ∧ DueIn A 48 ∨ DueIn A j) → j ≤ 48 →
  DnSt (ticksC j A out).1 ∧ (∀ s ∈ (ticksC j A out).2, OutOk (ticksC j A out).1 s) ∧ (out ≠ [] ∨ 0 < j → (ticksC j A out).2 ≠ []) ∧ DueIn (ticksC j A out).1 48 ∧ (ticksC j A out).1.now = A.now + j ∧ (ticksC j A out).1.cn ≤ A.cn + 2 * j
 | 0, A, out, h, ho, hd, hj => by
  refine ⟨h, ho, fun h1 => h1.elim id (fun h2 => absurd h2 (by omega)), ?_, by show A.now = A.now + ((0 : Nat) : Int); omega, by show A.cn ≤ _; omega⟩
  rcases hd with hd | hd
  ·exact hd.2
  ·rcases hd with h1 | h1
   ·exact .inl h1
   ·right; show (tryD A 0 dB).2 ≤ A.now + 48; omega
 | j + 1, A, out, h, ho, hd, hj => by
  have hN : DnSt (agNow A) := ⟨h.one, h.reps, h.node, h.last, h.asked, h.try0⟩
  have e : ticksC (j + 1) A out = ticksC j (queuesC 4 0 (agNow A) out).1 (queuesC 4 0 (agNow A) out).2 := rfl
  rw [e, queues_one hN.one out]
  by_cases hdue : dueB (agNow A) 0 dB = true
  ·rw [if_pos hdue]
   obtain ⟨s1, s2, s3, s4, s5, s6⟩ := dn_send hN
   have h48 : DueIn (agSend (agNow A) 0 dB (tryD (agNow A) 0 dB).1) 48 := by right; rw [s2]; exact s3
   obtain ⟨r1, r2, r3, r4, r5, r6⟩ := dn_ticks j _ (out ++ [sendM (agNow A) 0 dB (tryD (agNow A) 0 dB).1]) s1 (fun s hs => by
    rcases List.mem_append.1 hs with h1 | h1
    ·exact s6 s (ho s h1)
    ·simp at h1; subst h1; exact s5) (.inl ⟨by simp, h48⟩) (by omega)
   refine ⟨r1, r2, fun _ => r3 (.inl (by simp)), r4, ?_, ?_⟩
   ·rw [r5, s2]; show A.now + 1 + _ = _; omega
   ·rw [s4] at r6
    have : (agNow A).cn = A.cn := rfl
    exact Nat.le_trans r6 (by omega)
  ·rw [if_neg hdue]
   have hdv : dueB (agNow A) 0 dB = (decide ((tryD A 0 dB).1 = 0) || decide ((tryD A 0 dB).2 ≤ A.now + 1)) := rfl
   rw [hdv] at hdue
   simp only [Bool.or_eq_true, decide_eq_true_eq, not_or] at hdue
   obtain ⟨d1, d2⟩ := hdue
   have hdn : out ≠ [] ∧ DueIn (agNow A) 48 ∨ DueIn (agNow A) j := by
    rcases hd with ⟨h1, h2⟩ | h2
    ·refine .inl ⟨h1, ?_⟩
     rcases h2 with h2 | h2
     ·exact absurd h2 d1
     ·right; show (tryD A 0 dB).2 ≤ A.now + 1 + 48; omega
    ·refine .inr ?_
     rcases h2 with h2 | h2
     ·exact absurd h2 d1
     ·right; show (tryD A 0 dB).2 ≤ A.now + 1 + j; omega
   obtain ⟨r1, r2, r3, r4, r5, r6⟩ := dn_ticks j (agNow A) out hN ho hdn (by omega)
   refine ⟨r1, r2, fun h1 => r3 ?_, r4, ?_, ?_⟩
   ·rcases h1 with h1 | _
    ·exact .inl h1
    ·rcases hd with hd | hd
     ·exact .inl hd.1
     ·right
      rcases hd with hd | hd
      ·exact absurd hd d1
      ·omega
   ·rw [r5]; show A.now + 1 + _ = _; omega
   ·have : (agNow A).cn = A.cn := rfl
    exact Nat.le_trans r6 (by omega)
theorem dn_tick {A : AgD} (h : DnSt A) (hd : DueIn A 48) : DnSt (agTick A 48).1 ∧ (∀ s ∈ (agTick A 48).2, OutOk (agTick A 48).1 s) ∧ (agTick A 48).2 ≠ [] ∧ DueIn (agTick A 48).1 48 ∧ (agTick A 48).1.now = A.now + 48 ∧ (agTick A 48).1.cn ≤ A.cn + 96 := by
 have e : agTick A 48 = ticksC 48 A [] := rfl
 rw [e]
 obtain ⟨r1, r2, r3, r4, r5, r6⟩ := dn_ticks 48 A [] h (by simp) (.inr hd) (by omega)
 exact ⟨r1, r2, r3 (.inr (by omega)), r4, r5, r6⟩
theorem gone_ticks : ∀ (j : Nat) (A : AgD), DnGone A → (ticksC j A []).2 = [] ∧ DnGone (ticksC j A []).1 ∧ (ticksC j A []).1.now = A.now + j ∧ (ticksC j A []).1.cn = A.cn
 | 0, A, h => ⟨rfl, h, by show A.now = A.now + ((0 : Nat) : Int); omega, rfl⟩
 | j + 1, A, h => by
  have hN : DnGone (agNow A) := ⟨h.q, h.reps, h.node, h.asked⟩
  have e : ticksC (j + 1) A [] = ticksC j (queuesC 4 0 (agNow A) []).1 (queuesC 4 0 (agNow A) []).2 := rfl
  have f : ∀ k, k < 4 → flightC (agNow A) k (((agNow A).bk.q k).l.take 4) [] = (agNow A, []) := fun k hk => by rw [hN.q k hk]; rfl
  have e2 : queuesC 4 0 (agNow A) [] = (agNow A, []) := by
   unfold queuesC
   rw [f 0 (by omega)]
   unfold queuesC
   rw [f 1 (by omega)]
   unfold queuesC
   rw [f 2 (by omega)]
   unfold queuesC
   rw [f 3 (by omega)]
   rfl
  rw [e, e2]
  obtain ⟨r1, r2, r3, r4⟩ := gone_ticks j (agNow A) hN
  exact ⟨r1, r2, by rw [r3]; show A.now + 1 + _ = _; omega, r4⟩
theorem gone_tick {A : AgD} (h : DnGone A) : (agTick A 48).2 = [] ∧ DnGone (agTick A 48).1 ∧ (agTick A 48).1.now = A.now + 48 ∧ (agTick A 48).1.cn = A.cn := gone_ticks 48 A h
theorem recv_none {A : AgD} {fr : Int} {m : MsgD} (h : look A.asked m.tag = none) : agRecv A fr m = (none, 0, A) := by
 unfold agRecv
 rw [if_pos (by unfold refuses; rw [h]; simp)]
theorem agAns_look (A : AgD) (fr : Int) (m : MsgD) : look (agAns A fr m).asked m.tag = none := by
 show look (A.asked.filter fun p => p.1 != m.tag) m.tag = none
 rw [look_del, if_pos rfl]
/-- An answer of what was sent. -/
theorem dn_recv {A : AgD} (h : DnSt A) (hd : DueIn A 48) {s : SentD} (hs : OutOk A s) (ht : 0 ≤ s.m.en.tag) {c : Int} (hc : 1 ≤ c ∧ c ≤ 7) :
  (agRecv A s.dst (ansM s.m.en.tag c)).1 = some (0, 1) ∧ (agRecv A s.dst (ansM s.m.en.tag c)).2.1 = c ∧ look (agRecv A s.dst (ansM s.m.en.tag c)).2.2.asked s.m.en.tag = none ∧ (agRecv A s.dst (ansM s.m.en.tag c)).2.2.now = A.now ∧ (agRecv A s.dst (ansM s.m.en.tag c)).2.2.cn ≤ A.cn + 1 ∧
  (if c ≤ 3 then DnGone (agRecv A s.dst (ansM s.m.en.tag c)).2.2 else DnSt (agRecv A s.dst (ansM s.m.en.tag c)).2.2 ∧ DueIn (agRecv A s.dst (ansM s.m.en.tag c)).2.2 48) := by
 generalize hm : ansM s.m.en.tag c = m at *
 have hmt : m.tag = s.m.en.tag := by rw [← hm]; rfl
 have hmc : m.code = c := by rw [← hm]; rfl
 have hmk : m.kd = 2 := by rw [← hm]; rfl
 have hmr : mrightS m = 0 := by rw [← hm]; exact mright_ans _ _ ht (by omega)
 have hl : look A.asked m.tag = some (some (0, 1)) := by rw [hmt]; exact hs.1
 have hr : refuses A s.dst m = false := by
  unfold refuses
  rw [hl, hmr, hmk, h.reps]
  have := hs.2
  simp
  omega
 have hA : DnSt (agAns A s.dst m) := ⟨h.one, h.reps, h.node, by
   show 0 ≤ (if m.code = 6 then A.last else s.dst) ∧ (if m.code = 6 then A.last else s.dst) < 2
   split
   ·exact h.last
   ·exact hs.2, fun p hp => h.asked p (List.mem_filter.1 hp).1, h.try0⟩
 have hlk : look (agAns A s.dst m).asked s.m.en.tag = none := by rw [← hmt]; exact agAns_look A s.dst m
 have e : agRecv A s.dst m = (some (0, 1), m.code, if m.code = 1 ∨ m.code = 2 ∨ m.code = 3 then agDone (agAns A s.dst m) (0 : Int).toNat 1
   else if m.code = 6 then { agAns A s.dst m with tries := setTr A.tries 0 1 (some (((A.tries 0 1).getD (0, 0)).1, A.now)), cn := A.cn + 1 } else agAns A s.dst m) := by
  unfold agRecv
  rw [if_neg (by rw [hr]; simp), hl]
  rfl
 rw [e, hmc]
 refine ⟨rfl, rfl, ?_⟩
 by_cases hc3 : c ≤ 3
 ·rw [if_pos (show c = 1 ∨ c = 2 ∨ c = 3 by omega), if_pos hc3]
  have hak : (agDone (agAns A s.dst m) (0 : Int).toNat 1).asked = [] := by
   show (agAns A s.dst m).asked.filter (fun p => p.2 != some (((0 : Int).toNat : Int), 1)) = []
   rw [List.filter_eq_nil_iff]
   intro p hp
   rw [(hA.asked p hp).1]
   simp
  have hlg := agLog_eq (agAns A s.dst m) (recD (0 : Int).toNat (1 : Int).toNat)
  obtain ⟨l1, l2, l3, l4, l5, l6, l7, l8, l9, l10⟩ := hlg
  refine ⟨by rw [hak]; rfl, ?_, ?_, ⟨fun k hk => ?_, ?_, ?_, hak⟩⟩
  ·show (agLog (agAns A s.dst m) _).now = _; rw [l3]; rfl
  ·show (agLog (agAns A s.dst m) _).cn ≤ _; rw [l9]; show A.cn ≤ _; omega
  ·show (setQ A.bk.q 0 (quDone (A.bk.q 0) 1) k).l = []
   unfold setQ
   obtain ⟨q0, q1, q2, q3⟩ := h.one
   by_cases h0 : k = 0
   ·rw [if_pos h0]
    show outB 1 (A.bk.q 0).l = []
    rw [q0]
    rfl
   ·rw [if_neg h0]
    have : k = 1 ∨ k = 2 ∨ k = 3 := by omega
    rcases this with rfl | rfl | rfl
    ·exact q1
    ·exact q2
    ·exact q3
  ·show (agLog (agAns A s.dst m) _).reps = _; rw [l2]; exact h.reps
  ·show (agLog (agAns A s.dst m) _).node = _; rw [l1]; exact h.node
 ·rw [if_neg (show ¬ (c = 1 ∨ c = 2 ∨ c = 3) by omega), if_neg hc3]
  by_cases h6 : c = 6
  ·rw [if_pos h6]
   have ht2 : tryD { agAns A s.dst m with tries := setTr A.tries 0 1 (some (((A.tries 0 1).getD (0, 0)).1, A.now)), cn := A.cn + 1 } 0 dB = ((tryD A 0 dB).1, A.now) := by
    unfold tryD setTr
    simp [dB]
   refine ⟨hlk, rfl, Nat.le_refl _, ⟨hA.one, hA.reps, hA.node, hA.last, hA.asked, by rw [ht2]; exact h.try0⟩, .inr ?_⟩
   rw [ht2]
   show A.now ≤ A.now + 48
   omega
  ·rw [if_neg h6]
   exact ⟨hlk, rfl, by show A.cn ≤ _; omega, hA, hd⟩
theorem dn_queued {A : AgD} (h : DnSt A) : (agQueued A).length = 1 := by
 obtain ⟨q0, q1, q2, q3⟩ := h.one
 show (quIds A.node A.bk.q 0 ++ (quIds A.node A.bk.q 1 ++ (quIds A.node A.bk.q 2 ++ (quIds A.node A.bk.q 3 ++ [])))).length = 1
 unfold quIds
 rw [q0, q1, q2, q3]
 rfl
theorem gone_queued {A : AgD} (h : DnGone A) : (agQueued A).length = 0 := by
 show (quIds A.node A.bk.q 0 ++ (quIds A.node A.bk.q 1 ++ (quIds A.node A.bk.q 2 ++ (quIds A.node A.bk.q 3 ++ [])))).length = 0
 unfold quIds
 rw [h.q 0 (by omega), h.q 1 (by omega), h.q 2 (by omega), h.q 3 (by omega)]
 rfl
end Go.Proofs.YtgdooockldgdlaaGreatDoor.Vi
end
