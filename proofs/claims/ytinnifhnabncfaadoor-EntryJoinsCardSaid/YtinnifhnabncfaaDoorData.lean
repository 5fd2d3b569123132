/- Deltas and entries as data, and how they lie in memory. -/
import Derived.Test.YtinnifhnabncfaaDoorMem
namespace Go.Proofs.YtinnifhnabncfaaDoor.Mem
open Go.RowKit
structure DeltaD where
  ser : ByteArray
  n : Int
structure EntryD where
  kind : Int
  ag : Int
  sh : Int
  seq : Int
  ep : Int
  ds : List DeltaD
  ser : ByteArray
  fr : Int
  tag : Int
def dCell (d : DeltaD) : List Value := [.string d.ser, .int .u64 d.n]
def dCells (ds : List DeltaD) : List Value := ds.flatMap dCell
def eCell (p : EntryD × Value) : List Value :=
  [.int .i64 p.1.kind, .int .i64 p.1.ag, .int .i64 p.1.sh, .int .i64 p.1.seq, .int .i64 p.1.ep, p.2, .string p.1.ser, .int .i64 p.1.fr, .int .i64 p.1.tag]
/-- v reads as these deltas. -/
def Ds (w : World) (M : List Nat) (v : Value) (ds : List DeltaD) : Prop := Rd w M 2 v ds.length (dCells ds)
/-- v reads as these entries. -/
def Ens (w : World) (M : List Nat) (v : Value) (l : List EntryD) : Prop :=
  ∃ ps : List (EntryD × Value), ps.map (·.1) = l ∧ Rd w M 9 v ps.length (ps.flatMap eCell) ∧ ∀ p ∈ ps, Ds w M p.2 p.1.ds

theorem flat_len {α : Type} (f : α → List Value) (c : Nat) (hf : ∀ x, (f x).length = c) (l : List α) : (l.flatMap f).length = l.length * c := by
  induction l with
  | nil => simp
  | cons x l ih => simp [hf, ih, Nat.add_mul]; omega
theorem flat_at {α : Type} (f : α → List Value) (c : Nat) (hf : ∀ x, (f x).length = c) (l : List α) (k j : Nat) (hk : k < l.length) (hj : j < c) : (l.flatMap f)[k * c + j]? = (f l[k])[j]? := by
  induction l generalizing k with
  | nil => simp at hk
  | cons x l ih =>
    cases k with
    | zero => simp only [List.flatMap_cons, Nat.zero_mul, Nat.zero_add, List.getElem_cons_zero]; rw [List.getElem?_append_left (by rw [hf]; exact hj)]
    | succ k =>
      simp only [List.flatMap_cons, List.getElem_cons_succ]
      rw [List.getElem?_append_right (by rw [hf, Nat.add_mul]; omega), hf, show (k + 1) * c + j - c = k * c + j by rw [Nat.add_mul]; omega]
      exact ih k (by simpa using hk)
theorem dCells_len (ds : List DeltaD) : (dCells ds).length = ds.length * 2 := flat_len dCell 2 (fun _ => rfl) ds
theorem eCells_len (ps : List (EntryD × Value)) : (ps.flatMap eCell).length = ps.length * 9 := flat_len eCell 9 (fun _ => rfl) ps
theorem dCells_one (ds : List DeltaD) : ∀ u ∈ dCells ds, u.oneCell' = true := by
  intro u hu
  obtain ⟨d, _, hd⟩ := List.mem_flatMap.1 hu
  simp [dCell] at hd
  rcases hd with rfl | rfl <;> rfl
section
variable {w w' : World} {M M' : List Nat} {v : Value} {ds : List DeltaD} {l : List EntryD}
theorem Ds.keep (h : Ds w M v ds) (k : Keeps M' w w') (hM : ∀ g ∈ M', g ∈ M ∨ w.heap.size ≤ g) : Ds w' M v ds := Rd.keep h k hM
theorem Ds.avoid (h : Ds w M v ds) (hM : ∀ g ∈ M', g ∈ M ∨ w.heap.size ≤ g) : Ds w M' v ds := Rd.avoid h hM
theorem Ens.keep (h : Ens w M v l) (k : Keeps M' w w') (hM : ∀ g ∈ M', g ∈ M ∨ w.heap.size ≤ g) : Ens w' M v l := by
  obtain ⟨ps, hl, hr, hd⟩ := h
  exact ⟨ps, hl, hr.keep k hM, fun p hp => (hd p hp).keep k hM⟩
theorem Ens.avoid (h : Ens w M v l) (hM : ∀ g ∈ M', g ∈ M ∨ w.heap.size ≤ g) : Ens w M' v l := by
  obtain ⟨ps, hl, hr, hd⟩ := h
  exact ⟨ps, hl, hr.avoid hM, fun p hp => (hd p hp).avoid hM⟩
theorem Ens.len (h : Ens w M v l) : ∃ A c, v = .slice A l.length c ∧ l.length ≤ c := by
  obtain ⟨ps, rfl, ⟨A, c, rfl, hc, _⟩, _⟩ := h
  exact ⟨A, c, by simp, by simpa using hc⟩
theorem Ds.len (h : Ds w M v ds) : ∃ A c, v = .slice A ds.length c ∧ ds.length ≤ c := by
  obtain ⟨A, c, rfl, hc, _⟩ := h
  exact ⟨A, c, rfl, hc⟩
theorem Ens.nil (w : World) (M : List Nat) : Ens w M (.slice none 0 0) [] := ⟨[], rfl, ⟨none, 0, rfl, Nat.le_refl _, rfl, fun h => absurd h (by simp)⟩, by simp⟩
theorem Ds.nil (w : World) (M : List Nat) : Ds w M (.slice none 0 0) [] := ⟨none, 0, rfl, Nat.le_refl _, rfl, fun h => absurd h (by simp)⟩
/-- The cells of a slice's k-th thing. -/
theorem Rd.at_ {α : Type} (f : α → List Value) (c : Nat) (hf : ∀ x, (f x).length = c) {xs : List α} (h : Rd w M c v xs.length (xs.flatMap f)) {k : Nat} (hk : k < xs.length) :
    ∃ g off cap, v = .slice (some ⟨g, off, none⟩) xs.length cap ∧ xs.length ≤ cap ∧ g < w.heap.size ∧ g ∉ M ∧ ∀ j u, (f xs[k])[j]? = some u → w.cell? ⟨g, off + k * c + j, none⟩ = some u := by
  obtain ⟨A, cap, rfl, hc, hl, hr⟩ := h
  obtain ⟨g, off, rfl, hg, hm, hx⟩ := hr (by omega)
  refine ⟨g, off, cap, rfl, hc, hg, hm, fun j u hu => ?_⟩
  have hj : j < c := by
    rw [← hf xs[k]]
    exact (List.getElem?_eq_some_iff.1 hu).1
  rw [Nat.add_assoc]
  exact hx _ u (by rw [flat_at f c hf xs k j hk hj]; exact hu)
end
/-- The deltas of the entries that a row of the call's own holds lie in blocks that are neither old nor the row's. -/
def DsOwn (w wr : World) (out : Value) (qs : List (EntryD × Value)) : Prop := ∀ q ∈ qs, ∀ M', (∀ g ∈ M', g < w.heap.size ∨ out.ownBlock = some g) → Ds wr M' q.2 q.1.ds
theorem dsOwn_one {w w1 w2 : World} {out v' dv : Value} {o : Obj} {ds : List DeltaD}
    (h : ∀ M', (∀ g ∈ M', g < w.heap.size ∨ out.ownBlock = some g) → Ds w1 M' dv ds)
    (hg : (w1.alloc o).grownBy w2 out.ownBlock) (hat : v'.ownBlock = out.ownBlock ∨ v'.ownBlock = some (w1.heap.size + 1)) (M' : List Nat) (hM : ∀ g ∈ M', g < w.heap.size ∨ v'.ownBlock = some g) : Ds w2 M' dv ds := by
  have h1 := h (out.ownBlock.toList ++ M'.filter (fun g => decide (g < w.heap.size))) (by
    intro g hg
    rcases List.mem_append.1 hg with h1 | h1
    · right; simpa using h1
    · left; simpa using (List.mem_filter.1 h1).2)
  have h2 : Ds (w1.alloc o) (out.ownBlock.toList ++ M'.filter (fun g => decide (g < w.heap.size))) dv ds := h1.keep (M' := []) ((Keeps.refl _ _).alloc o) (by simp)
  have h3 : Ds (w1.alloc o) (out.ownBlock.toList ++ M') dv ds := h2.avoid (by
    intro g hg
    rcases List.mem_append.1 hg with h1 | h1
    · exact .inl (List.mem_append_left _ h1)
    · rcases hM g h1 with h4 | h4
      · exact .inl (List.mem_append_right _ (List.mem_filter.2 ⟨h1, by simpa using h4⟩))
      · rcases hat with h5 | h5
        · exact .inl (List.mem_append_left _ (by rw [h5] at h4; simpa using h4))
        · rw [h5] at h4; injection h4 with h4; right; simp; omega)
  have h4 : Keeps out.ownBlock.toList (w1.alloc o) w2 := (Keeps.refl _ _).grown hg (fun g hg => .inl (by simpa using hg))
  exact (h3.keep h4 (fun g hg => .inl (List.mem_append_left _ hg))).avoid (fun g hg => .inl (List.mem_append_right _ hg))
theorem dsOwn_step {w wr w1 w2 : World} {out v' dv' : Value} {o : Obj} {qs : List (EntryD × Value)} {e : EntryD} (hds : DsOwn w wr out qs) (hb1 : Below wr.heap.size wr w1) (hlt : ∀ g, out.ownBlock = some g → g < wr.heap.size) (hw : w.heap.size ≤ wr.heap.size)
    (hnew : ∀ M', (∀ g ∈ M', g < wr.heap.size) → Ds w1 M' dv' e.ds)
    (hg : (w1.alloc o).grownBy w2 out.ownBlock) (hat : v'.ownBlock = out.ownBlock ∨ v'.ownBlock = some (w1.heap.size + 1)) : DsOwn w w2 v' (qs ++ [(e, dv')]) := by
  intro q hq M' hM
  rcases List.mem_append.1 hq with h1 | h1
  · exact dsOwn_one (fun M'' hM'' => (hds q h1 M'' hM'').keep (M' := []) (Keeps.of_below hb1) (by simp)) hg hat M' hM
  · simp at h1
    subst h1
    exact dsOwn_one (fun M'' hM'' => hnew M'' (fun g hg => by rcases hM'' g hg with h | h; omega; exact hlt g h)) hg hat M' hM
theorem dsOwn_stepK {Mk : List Nat} {w wr w1 w2 : World} {out v' dv' : Value} {o : Obj} {qs : List (EntryD × Value)} {e : EntryD} (hds : DsOwn w wr out qs) (hk : Keeps Mk wr w1) (hMk : ∀ g ∈ Mk, g < w.heap.size) (hlt : ∀ g, out.ownBlock = some g → g < wr.heap.size) (hw : w.heap.size ≤ wr.heap.size)
    (hnew : ∀ M', (∀ g ∈ M', g < wr.heap.size) → Ds w1 M' dv' e.ds)
    (hg : (w1.alloc o).grownBy w2 out.ownBlock) (hat : v'.ownBlock = out.ownBlock ∨ v'.ownBlock = some (w1.heap.size + 1)) : DsOwn w w2 v' (qs ++ [(e, dv')]) := by
  intro q hq M' hM
  rcases List.mem_append.1 hq with h1 | h1
  · refine dsOwn_one (fun M'' hM'' => ?_) hg hat M' hM
    exact ((hds q h1 (Mk ++ M'') (by intro g hg; rcases List.mem_append.1 hg with h2 | h2; exact .inl (hMk g h2); exact hM'' g h2)).keep hk (fun _ hg => .inl (List.mem_append_left _ hg))).avoid (fun _ hg => .inl (List.mem_append_right _ hg))
  · simp at h1
    subst h1
    exact dsOwn_one (fun M'' hM'' => hnew M'' (fun g hg => by rcases hM'' g hg with h | h; omega; exact hlt g h)) hg hat M' hM
theorem below_step {w wr w1 w2 : World} {o : Obj} {row : Option Nat} (h : Below w.heap.size w wr) (hb1 : Below wr.heap.size wr w1) (hg : (w1.alloc o).grownBy w2 row) (hr : ∀ g, row = some g → w.heap.size ≤ g) : Below w.heap.size w w2 :=
  ((h.trans (hb1.mono h.size)).alloc (Nat.le_trans h.size hb1.size) o).grown hg (by have := h.size; have := hb1.size; simp; omega) hr
end Go.Proofs.YtinnifhnabncfaaDoor.Mem
