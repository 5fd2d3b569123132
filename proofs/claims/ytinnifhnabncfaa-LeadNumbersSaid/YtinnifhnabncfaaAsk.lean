/- Asks: what package hopperlaw15 makes of a tape. -/
import Derived.Test.YtinnifhnabncfaaLeadMost
namespace Go.Proofs.Ytinnifhnabncfaa.Mem
open Go.RowKit
structure AskD where
  kind : Int
  fr : Int
  n : Int
  had : Int
  log : List EntryD
def aCell (p : AskD × Value) : List Value := [.int .i64 p.1.kind, .int .i64 p.1.fr, .int .i64 p.1.n, .int .i64 p.1.had, p.2]
/-- v reads as these asks. -/
def Asks (w : World) (M : List Nat) (v : Value) (l : List AskD) : Prop :=
  ∃ ps : List (AskD × Value), ps.map (·.1) = l ∧ Rd w M 5 v ps.length (ps.flatMap aCell) ∧ ∀ p ∈ ps, Ens w M p.2 p.1.log
section
variable {w w' : World} {M M' : List Nat} {v : Value} {l : List AskD}
theorem Asks.keep (h : Asks w M v l) (k : Keeps M' w w') (hM : ∀ g ∈ M', g ∈ M ∨ w.heap.size ≤ g) : Asks w' M v l := by
  obtain ⟨ps, hl, hr, hd⟩ := h
  exact ⟨ps, hl, hr.keep k hM, fun p hp => (hd p hp).keep k hM⟩
theorem Asks.avoid (h : Asks w M v l) (hM : ∀ g ∈ M', g ∈ M ∨ w.heap.size ≤ g) : Asks w M' v l := by
  obtain ⟨ps, hl, hr, hd⟩ := h
  exact ⟨ps, hl, hr.avoid hM, fun p hp => (hd p hp).avoid hM⟩
theorem Asks.len (h : Asks w M v l) : ∃ A c, v = .slice A l.length c ∧ l.length ≤ c := by
  obtain ⟨ps, rfl, ⟨A, c, rfl, hc, _⟩, _⟩ := h
  exact ⟨A, c, by simp, by simpa using hc⟩
/-- The cells of the k-th ask. -/
theorem Asks.at_ (h : Asks w M v l) {k : Nat} (hk : k < l.length) :
    ∃ g off cap lv, v = .slice (some ⟨g, off, none⟩) l.length cap ∧ g < w.heap.size ∧ g ∉ M ∧ Ens w M lv l[k].log ∧ ∀ j u, (aCell (l[k], lv))[j]? = some u → w.cell? ⟨g, off + k * 5 + j, none⟩ = some u := by
  obtain ⟨ps, rfl, hr, hd⟩ := h
  have hk' : k < ps.length := by simpa using hk
  obtain ⟨g, off, cap, e, _, hg, hm, hx⟩ := Rd.at_ aCell 5 (fun _ => rfl) hr hk'
  refine ⟨g, off, cap, ps[k].2, by simpa using e, hg, hm, ?_, ?_⟩
  · simpa using hd ps[k] (List.getElem_mem _)
  · simpa using hx
end
/-- The logs of the asks that a row of the call's own holds lie in blocks that are neither old nor the row's. -/
def AsOwn (w wr : World) (out : Value) (qs : List (AskD × Value)) : Prop := ∀ q ∈ qs, ∀ M', (∀ g ∈ M', g < w.heap.size ∨ out.ownBlock = some g) → Ens wr M' q.2 q.1.log
theorem asOwn_one {w w1 w2 : World} {out v' dv : Value} {o : Obj} {ds : List EntryD}
    (h : ∀ M', (∀ g ∈ M', g < w.heap.size ∨ out.ownBlock = some g) → Ens w1 M' dv ds)
    (hg : (w1.alloc o).grownBy w2 out.ownBlock) (hat : v'.ownBlock = out.ownBlock ∨ v'.ownBlock = some (w1.heap.size + 1)) (M' : List Nat) (hM : ∀ g ∈ M', g < w.heap.size ∨ v'.ownBlock = some g) : Ens w2 M' dv ds := by
  have h1 := h (out.ownBlock.toList ++ M'.filter (fun g => decide (g < w.heap.size))) (by
    intro g hg
    rcases List.mem_append.1 hg with h1 | h1
    · right; simpa using h1
    · left; simpa using (List.mem_filter.1 h1).2)
  have h2 : Ens (w1.alloc o) (out.ownBlock.toList ++ M'.filter (fun g => decide (g < w.heap.size))) dv ds := h1.keep (M' := []) ((Keeps.refl _ _).alloc o) (by simp)
  have h3 : Ens (w1.alloc o) (out.ownBlock.toList ++ M') dv ds := h2.avoid (by
    intro g hg
    rcases List.mem_append.1 hg with h1 | h1
    · exact .inl (List.mem_append_left _ h1)
    · rcases hM g h1 with h4 | h4
      · exact .inl (List.mem_append_right _ (List.mem_filter.2 ⟨h1, by simpa using h4⟩))
      · rcases hat with h5 | h5
        · exact .inl (List.mem_append_left _ (by rw [h5] at h4; simpa using h4))
        · rw [h5] at h4; injection h4 with h4; right; simp; omega)
  have h4 : Keeps out.ownBlock.toList (w1.alloc o) w2 := (Keeps.refl _ _).grown hg (fun g hg => .inl (by simpa using hg))
  exact (h3.keep h4 (fun g hg => .inl (List.mem_append_left _ hg))).avoid (fun g hg => .inl (List.mem_append_right _ hg))
theorem asOwn_stepK {Mk : List Nat} {w wr w1 w2 : World} {out v' dv' : Value} {o : Obj} {qs : List (AskD × Value)} {e : AskD} (hds : AsOwn w wr out qs) (hk : Keeps Mk wr w1) (hMk : ∀ g ∈ Mk, g < w.heap.size) (hlt : ∀ g, out.ownBlock = some g → g < wr.heap.size) (hw : w.heap.size ≤ wr.heap.size)
    (hnew : ∀ M', (∀ g ∈ M', g < wr.heap.size) → Ens w1 M' dv' e.log)
    (hg : (w1.alloc o).grownBy w2 out.ownBlock) (hat : v'.ownBlock = out.ownBlock ∨ v'.ownBlock = some (w1.heap.size + 1)) : AsOwn w w2 v' (qs ++ [(e, dv')]) := by
  intro q hq M' hM
  rcases List.mem_append.1 hq with h1 | h1
  · refine asOwn_one (fun M'' hM'' => ?_) hg hat M' hM
    exact ((hds q h1 (Mk ++ M'') (by intro g hg; rcases List.mem_append.1 hg with h2 | h2; exact .inl (hMk g h2); exact hM'' g h2)).keep hk (fun _ hg => .inl (List.mem_append_left _ hg))).avoid (fun _ hg => .inl (List.mem_append_right _ hg))
  · simp at h1
    subst h1
    exact asOwn_one (fun M'' hM'' => hnew M'' (fun g hg => by rcases hM'' g hg with h | h; omega; exact hlt g h)) hg hat M' hM
end Go.Proofs.Ytinnifhnabncfaa.Mem
