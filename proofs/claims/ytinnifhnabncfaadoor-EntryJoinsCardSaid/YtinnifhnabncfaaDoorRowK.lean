/- Words for whole rows of things of k cells: a sorted row as a block (any element). -/
import Derived.Test.YtinnifhnabncfaaDoorData
import Derived.Shelf.GgSortFunc.InsertionK
namespace Go.Proofs.YtinnifhnabncfaaDoor.RowsK
open Go.RowKit Base Mem Go.Sort
variable {α : Type} [Inhabited α] (enc : α → List Value) (k : Nat) (hk : ∀ x, (enc x).length = k)
include hk
theorem flatK_list (h0 : 0 < k) (l : List α) : flatK enc k l.toArray = (l.flatMap enc).toArray := by
  refine ext_get! (by rw [size_flatK, List.size_toArray, List.size_toArray, flat_len enc k hk]) fun t ht => ?_
  have ht' : t < l.length * k := by simpa using ht
  have hdiv : t / k < l.length := Nat.div_lt_of_lt_mul (by rw [Nat.mul_comm]; exact ht')
  have hmod : t % k < k := Nat.mod_lt _ h0
  have hf := flat_at enc k hk l (t / k) (t % k) hdiv hmod
  rw [Nat.div_add_mod' t k] at hf
  have ht2 : t < (l.flatMap enc).length := by rw [flat_len enc k hk]; exact ht'
  have hm : t % k < (enc l[t / k]).length := by rw [hk]; exact hmod
  rw [List.getElem?_eq_getElem ht2, List.getElem?_eq_getElem hm] at hf
  injection hf with hf
  rw [get_flatK _ _ _ _ (by simpa using ht'), List.getElem!_toArray, List.getElem!_toArray, getElem!_pos (l.flatMap enc) t ht2, hf, getElem!_pos l (t / k) hdiv, getElem!_pos (enc l[t / k]) (t % k) hm]
theorem blk_holds (h0 : 0 < k) {w : World} {g : Nat} {t : TypeId} {l : List α} {rest : List Value} (h : Blk w g t (l.flatMap enc ++ rest).toArray) : HoldsK enc k w g 0 l.toArray := by
  intro j hj
  rw [flatK_list enc k hk h0] at hj ⊢
  have hj' : j < (l.flatMap enc).length := by simpa using hj
  rw [Nat.zero_add, h.cell, h.frozen]
  refine ⟨?_, rfl⟩
  rw [List.getElem?_toArray, List.getElem?_append_left hj', List.getElem!_toArray, getElem!_pos (l.flatMap enc) j hj', List.getElem?_eq_getElem hj']
  rfl
theorem blk_sorted (h0 : 0 < k) {w : World} {g : Nat} {t : TypeId} {l l' : List α} {rest : List Value} (h : Blk w g t (l.flatMap enc ++ rest).toArray) (hl : l'.length = l.length) (n : Nat) (os : Array Obj) :
    Blk (sortWorldK enc k w g 0 n l'.toArray os) g t (l'.flatMap enc ++ rest).toArray := by
  have hlt := h.lt
  unfold Blk at h ⊢
  have hp : (putRowK enc k (Sort.ahead w n) g 0 l'.toArray).heap[g]? = some (.cells (putCells id 0 (flatK enc k l'.toArray) (l.flatMap enc ++ rest).toArray) t (0, 0)) := by
    simp only [putRowK, putRow, mapBlock, Sort.ahead, Array.getElem?_modify, if_true, h, Option.map_some, onCells]
  have hs : g < (putRowK enc k (Sort.ahead w n) g 0 l'.toArray).heap.size := by simpa [putRowK, Sort.ahead] using hlt
  show ((putRowK enc k (Sort.ahead w n) g 0 l'.toArray).heap ++ os)[g]? = _
  rw [Array.getElem?_append_left hs, hp]
  congr 2
  rw [flatK_list enc k hk h0]
  have hz : l'.length * k = l.length * k := by rw [hl]
  have e1 := flat_len enc k hk l
  have e2 := flat_len enc k hk l'
  refine Array.ext_getElem? fun j => ?_
  simp only [putCells, Array.getElem?_mapIdx, List.getElem?_toArray, List.size_toArray, e2, Nat.zero_le, Nat.zero_add, Nat.sub_zero, true_and]
  by_cases hj : j < l'.length * k
  · have h1 : j < (l.flatMap enc).length := by rw [e1]; omega
    have h2 : j < (l'.flatMap enc).length := by rw [e2]; omega
    rw [List.getElem?_append_left h1, List.getElem?_append_left h2, List.getElem?_eq_getElem h1, List.getElem?_eq_getElem h2, Option.map_some, if_pos hj, List.getElem!_toArray, getElem!_pos (l'.flatMap enc) j h2]
    rfl
  · have h1 : (l.flatMap enc).length ≤ j := by rw [e1]; omega
    have h2 : (l'.flatMap enc).length ≤ j := by rw [e2]; omega
    rw [List.getElem?_append_right h1, List.getElem?_append_right h2, e1, e2, hz]
    simp only [if_neg (show ¬ j < l.length * k by omega)]
    exact Option.map_id'
omit hk in
theorem keeps_sorted (w : World) (g n : Nat) (d : Array α) (os : Array Obj) : Keeps [g] w (sortWorldK enc k w g 0 n d os) := by
  have hs : (putRowK enc k (Sort.ahead w n) g 0 d).heap.size = w.heap.size := by simp [putRowK, Sort.ahead]
  refine ⟨rfl, rfl, rfl, ?_, fun j hj hn => ?_⟩
  · show _ ≤ ((putRowK enc k (Sort.ahead w n) g 0 d).heap ++ os).size
    rw [Array.size_append, hs]; omega
  · show ((putRowK enc k (Sort.ahead w n) g 0 d).heap ++ os)[j]? = _
    rw [Array.getElem?_append_left (by omega)]
    have hne : g ≠ j := fun e => hn (by simp [e])
    simp [putRowK, putRow, mapBlock, Sort.ahead, Array.getElem?_modify, hne]
theorem own_blk {w : World} {base : Nat} {t : TypeId} {v : Value} {l : List α} (h : w.ownsRow base t k v l.length (l.flatMap enc)) (h0 : 0 < l.length) :
    ∃ g cap rest, v = .slice (some ⟨g, 0, none⟩) l.length cap ∧ base ≤ g ∧ l.length ≤ cap ∧ cap ≤ maxLen ∧ Blk w g t (l.flatMap enc ++ rest).toArray := by
  have _ := hk
  have _ : Inhabited α := inferInstance
  obtain ⟨_, h⟩ := h
  rcases h with ⟨_, hn⟩ | ⟨g, cap, cur, rfl, hb, hg, hnc, hcm, _, htk⟩
  · omega
  · refine ⟨g, cap, cur.toList.drop (l.length * k), rfl, hb, hnc, hcm, ?_⟩
    rw [← htk, List.take_append_drop]
    exact hg
omit [Inhabited α] in
theorem rd_of_blk {w : World} {t : TypeId} {g : Nat} {l : List α} {rest : List Value} {M : List Nat} (h : Blk w g t (l.flatMap enc ++ rest).toArray) (hg : g ∉ M) : Rd w M k (.slice (some ⟨g, 0, none⟩) l.length l.length) l.length (l.flatMap enc) :=
  ⟨_, _, rfl, Nat.le_refl _, flat_len enc k hk l, fun _ => ⟨g, 0, rfl, h.lt, hg, fun j u hu => by
    rw [Nat.zero_add, h.cell, List.getElem?_toArray, List.getElem?_append_left (List.getElem?_eq_some_iff.1 hu).1]; exact hu⟩⟩
end Go.Proofs.YtinnifhnabncfaaDoor.RowsK
