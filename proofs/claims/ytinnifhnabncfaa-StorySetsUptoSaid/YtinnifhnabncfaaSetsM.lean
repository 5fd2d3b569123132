/- Words for whole rows: clear of a row's end, a sorted row as a block. -/
import Derived.Test.YtinnifhnabncfaaSets7
namespace Go.Proofs.Ytinnifhnabncfaa.Sets
open Go.RowKit Base Mem Go.Shelf Go.Lib Go.Sort
theorem blk_setCells (g : Nat) (t : TypeId) : ∀ (vs pre mid suf : List Value) (o : Nat) (w : World), Blk w g t (pre ++ mid ++ suf).toArray → pre.length = o → mid.length = vs.length → Blk (w.setCells g o vs) g t (pre ++ vs ++ suf).toArray
  | [], pre, mid, suf, o, w, h, hp, hm => by
    obtain rfl : mid = [] := List.length_eq_zero_iff.1 (by simpa using hm)
    exact h
  | v :: r, pre, mid, suf, o, w, h, hp, hm => by
    obtain ⟨m, ms, rfl⟩ : ∃ m ms, mid = m :: ms := by
      cases mid with
      | nil => simp at hm
      | cons m ms => exact ⟨m, ms, rfl⟩
    have h1 := h.set_ o v
    have e : (pre ++ m :: ms ++ suf).toArray.setIfInBounds o v = ((pre ++ [v]) ++ ms ++ suf).toArray := by
      subst hp
      rw [List.setIfInBounds_toArray, List.append_assoc, List.set_append_right _ _ (Nat.le_refl _), Nat.sub_self]
      simp
    rw [e] at h1
    have := blk_setCells g t r (pre ++ [v]) ms suf (o + 1) _ h1 (by simp [hp]) (by simpa using hm)
    simpa [World.setCells] using this
theorem keeps_setCells {M : List Nat} {a : World} (g : Nat) (hg : g ∈ M ∨ a.heap.size ≤ g) : ∀ (vs : List Value) (o : Nat) (w : World), Keeps M a w → Keeps M a (w.setCells g o vs)
  | [], _, _, h => h
  | v :: r, o, w, h => keeps_setCells g hg r (o + 1) _ (h.setCell (p := ⟨g, o, none⟩) hg v)
def zI : Value := .agg #[.int .i64 0, .int .i64 0, .int .i64 0]
def zIs (n : Nat) : List Value := (Builtin.zeroCells zI.cells n).toList
theorem zIs_len (n : Nat) : (zIs n).length = n * 3 := by
  unfold zIs; rw [Array.length_toList, size_zeroCells]; rfl
theorem zIs_one (n : Nat) : ∀ v ∈ zIs n, v.oneCell' = true := by
  intro v hv
  simp only [zIs, Builtin.zeroCells, Array.toList_map, List.mem_map] at hv
  obtain ⟨i, _, rfl⟩ := hv
  show (#[Value.int .i64 0, .int .i64 0, .int .i64 0][i % 3]!).oneCell' = true
  rcases (show i % 3 = 0 ∨ i % 3 = 1 ∨ i % 3 = 2 by omega) with h | h | h <;> rw [h] <;> rfl
theorem run_clear_row {P : Program} (w : World) (t e ty : TypeId) (ht : P.underlying t = some (.slice e)) (hv : ∀ w, (zeroValue e).run P w = .ok zI w) (b o n c : Nat) (hn : 0 < n)
    (hc : ∀ j, j < n * 3 → (w.cell? ⟨b, o + j, none⟩).isSome = true) (hf : ∀ j, j < n * 3 → w.frozen? ⟨b, o + j, none⟩ = false) :
    (Builtin.clear_ #[t] ty #[.slice (some ⟨b, o, none⟩) n c]).run P w = .ok (.tuple #[]) (w.setCells b o (zIs n)) := by
  have hst := run_storeCells_cells (P := P) b o (zIs n) 0 w (by simpa [zIs_len] using hc) (by simpa [zIs_len] using hf) (zIs_one n)
  simp only [Nat.add_zero] at hst
  unfold zIs at hst
  obtain ⟨m, rfl⟩ : ∃ m, n = m + 1 := ⟨n - 1, by omega⟩
  simp [Builtin.clear_, run_underlying ht, hv, hst, zIs]
theorem flatK_list (l : List IdentD) : flatK iEnc 3 l.toArray = (l.flatMap iEnc).toArray := by
  refine ext_get! (by rw [size_flatK, List.size_toArray, List.size_toArray, iCells_len]) fun t ht => ?_
  have ht' : t < l.length * 3 := by simpa using ht
  have hk : t / 3 < l.length := by omega
  have hf := flat_at iEnc 3 (fun _ => rfl) l (t / 3) (t % 3) hk (by omega)
  rw [show t / 3 * 3 + t % 3 = t by omega] at hf
  have ht2 : t < (l.flatMap iEnc).length := by rw [iCells_len]; exact ht'
  have hm : t % 3 < (iEnc l[t / 3]).length := by show _ < 3; omega
  rw [List.getElem?_eq_getElem ht2, List.getElem?_eq_getElem hm] at hf
  injection hf with hf
  rw [get_flatK _ _ _ _ (by simpa using ht'), List.getElem!_toArray, List.getElem!_toArray, getElem!_pos (l.flatMap iEnc) t ht2, hf, getElem!_pos l (t / 3) hk, getElem!_pos (iEnc l[t / 3]) (t % 3) hm]
theorem blk_holds {w : World} {g : Nat} {t : TypeId} {l : List IdentD} {rest : List Value} (h : Blk w g t (l.flatMap iEnc ++ rest).toArray) : HoldsK iEnc 3 w g 0 l.toArray := by
  intro j hj
  rw [flatK_list] at hj ⊢
  have hj' : j < (l.flatMap iEnc).length := by simpa using hj
  rw [Nat.zero_add, h.cell, h.frozen]
  refine ⟨?_, rfl⟩
  rw [List.getElem?_toArray, List.getElem?_append_left hj', List.getElem!_toArray, getElem!_pos (l.flatMap iEnc) j hj', List.getElem?_eq_getElem hj']
  rfl
theorem blk_sorted {w : World} {g : Nat} {t : TypeId} {l l' : List IdentD} {rest : List Value} (h : Blk w g t (l.flatMap iEnc ++ rest).toArray) (hl : l'.length = l.length) (n : Nat) (os : Array Obj) :
    Blk (sortWorldK iEnc 3 w g 0 n l'.toArray os) g t (l'.flatMap iEnc ++ rest).toArray := by
  have hlt := h.lt
  unfold Blk at h ⊢
  have hp : (putRowK iEnc 3 (Sort.ahead w n) g 0 l'.toArray).heap[g]? = some (.cells (putCells id 0 (flatK iEnc 3 l'.toArray) (l.flatMap iEnc ++ rest).toArray) t (0, 0)) := by
    simp only [putRowK, putRow, mapBlock, Sort.ahead, Array.getElem?_modify, if_true, h, Option.map_some, onCells]
  have hs : g < (putRowK iEnc 3 (Sort.ahead w n) g 0 l'.toArray).heap.size := by simpa [putRowK, Sort.ahead] using hlt
  show ((putRowK iEnc 3 (Sort.ahead w n) g 0 l'.toArray).heap ++ os)[g]? = _
  rw [Array.getElem?_append_left hs, hp]
  congr 2
  rw [flatK_list]
  have hz : l'.length * 3 = l.length * 3 := by rw [hl]
  refine Array.ext_getElem? fun k => ?_
  simp only [putCells, Array.getElem?_mapIdx, List.getElem?_toArray, List.size_toArray, iCells_len, Nat.zero_le, Nat.zero_add, Nat.sub_zero, true_and]
  by_cases hk : k < l'.length * 3
  · have h1 : k < (l.flatMap iEnc).length := by rw [iCells_len]; omega
    have h2 : k < (l'.flatMap iEnc).length := by rw [iCells_len]; omega
    rw [List.getElem?_append_left h1, List.getElem?_append_left h2, List.getElem?_eq_getElem h1, List.getElem?_eq_getElem h2, Option.map_some, if_pos hk, List.getElem!_toArray, getElem!_pos (l'.flatMap iEnc) k h2]
    rfl
  · have h1 : (l.flatMap iEnc).length ≤ k := by rw [iCells_len]; omega
    have h2 : (l'.flatMap iEnc).length ≤ k := by rw [iCells_len]; omega
    rw [List.getElem?_append_right h1, List.getElem?_append_right h2, iCells_len, iCells_len, hz]
    simp only [if_neg (show ¬ k < l.length * 3 by omega)]
    exact Option.map_id'
theorem keeps_sorted (w : World) (g n : Nat) (d : Array IdentD) (os : Array Obj) : Keeps [g] w (sortWorldK iEnc 3 w g 0 n d os) := by
  have hs : (putRowK iEnc 3 (Sort.ahead w n) g 0 d).heap.size = w.heap.size := by simp [putRowK, Sort.ahead]
  refine ⟨rfl, rfl, rfl, ?_, fun k hk hn => ?_⟩
  · show _ ≤ ((putRowK iEnc 3 (Sort.ahead w n) g 0 d).heap ++ os).size
    rw [Array.size_append, hs]; omega
  · show ((putRowK iEnc 3 (Sort.ahead w n) g 0 d).heap ++ os)[k]? = _
    rw [Array.getElem?_append_left (by omega)]
    have hne : g ≠ k := fun e => hn (by simp [e])
    simp [putRowK, putRow, mapBlock, Sort.ahead, Array.getElem?_modify, hne]
end Go.Proofs.Ytinnifhnabncfaa.Sets
