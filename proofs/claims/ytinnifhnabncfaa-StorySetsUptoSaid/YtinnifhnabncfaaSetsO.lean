/- A slice of idents that came in, opened: it reads as idents; its bulk bounds their number. -/
import Derived.Test.YtinnifhnabncfaaRows
import Derived.Test.YtinnifhnabncfaaSetsW
import Derived.Deep.Slices
import Derived.Deep.Strs
namespace Go.Proofs.Ytinnifhnabncfaa.Sets
open Go.RowKit Base Mem Go.ChangeShapes Go.WideShapes Go.Deep
theorem one_le {H : Type} (d : DataW H) : 1 ≤ Rows.uptoBulk d := by
  cases d with
  | lit l => cases l <;> simp [Rows.uptoBulk]
  | nil => simp [Rows.uptoBulk]
  | ptr d => simp [Rows.uptoBulk]
  | slice elems spare => simp [Rows.uptoBulk]
  | agg parts => simp [Rows.uptoBulk]
  | iface t d => simp [Rows.uptoBulk]
  | map entries => simp [Rows.uptoBulk]
  | held h => simp [Rows.uptoBulk]
theorem part_le {H : Type} {d : DataW H} {l : List (DataW H)} (h : d ∈ l) : Rows.uptoBulk d ≤ Rows.uptoBulkAll l := by
  induction l with
  | nil => cases h
  | cons x r ih =>
    simp only [Rows.uptoBulkAll]
    rcases List.mem_cons.1 h with e | e
    · subst e; omega
    · have := ih e; omega
theorem length_le {H : Type} (l : List (DataW H)) : l.length ≤ Rows.uptoBulkAll l := by
  induction l with
  | nil => simp [Rows.uptoBulkAll]
  | cons x r ih => have := one_le x; simp only [Rows.uptoBulkAll, List.length_cons]; omega
theorem slice_le {H : Type} (elems spare : List (DataW H)) : elems.length ≤ Rows.uptoBulk (.slice elems spare) := by
  have h1 := length_le elems
  simp only [Rows.uptoBulk]
  omega
theorem bound {H : Type} {l : List (DataW H)} (hk : Rows.uptoSmall H l = true) : Rows.uptoBulkAll l ≤ 1048576 := of_decide_eq_true hk
theorem open_idents {H : Type} {enc : TypeId × Value → H} {W : World} {fuel : Nat} {a : Option Addr} {len cap : Nat} {d : DataW H} {p : List MemPlace}
    (h : DataW.trod enc Try.prog W 0 (fun _ => true) true fuel 54 [.slice a len cap] = some (d, p)) (hp : ∀ x ∈ p, x.block < W.heap.size) :
    ∃ l : List IdentD, l.length = len ∧ Ids W [] (.slice a len cap) l ∧ len ≤ Rows.uptoBulk d := by
  rcases open_slice Try.underlying54 h with ⟨hcs, _⟩ | ⟨x, l, c, m, n, D, Pl, hcs, _, hl, hm, hmm, hx, hall⟩
  · simp at hcs
    obtain ⟨rfl, rfl, rfl⟩ := hcs
    exact ⟨[], rfl, nil_ids W, Nat.zero_le _⟩
  · simp at hcs
    obtain ⟨rfl, rfl, rfl⟩ := hcs
    simp only [if_true] at hmm
    subst hmm
    have hc58 : Try.prog.cellsOf 58 = 3 := by kernel_rfl
    have hc3 : Try.prog.cellsOf 3 = 1 := by kernel_rfl
    have hc2 : Try.prog.cellsOf 2 = 1 := by kernel_rfl
    have hel : ∀ i, i < m → ∃ e : IdentD, ∀ j u, (iEnc e)[j]? = some u → W.cell? (x.add (i * 3 + j)) = some u := by
      intro i hi
      obtain ⟨cs', h1, h2⟩ := hall i hi
      rw [hc58] at h1
      obtain ⟨_, hl3, hcell⟩ := World.cells?_some h1
      obtain ⟨y0, y1, y2, n', _, _, t0, t1, t2⟩ := trod_struct3 Try.underlying58 h2
      obtain ⟨c0, c1, c2, rfl⟩ : ∃ c0 c1 c2, cs' = [c0, c1, c2] := by
        rcases cs' with _ | ⟨c0, _ | ⟨c1, _ | ⟨c2, _ | ⟨c3, r⟩⟩⟩⟩
        · cases hl3
        · cases hl3
        · cases hl3
        · exact ⟨c0, c1, c2, rfl⟩
        · simp at hl3
      have t0' : DataW.trod enc Try.prog W 0 (fun _ => true) true n' 3 [c0] = some y0 := by rw [← t0, hc3]; rfl
      have t1' : DataW.trod enc Try.prog W 0 (fun _ => true) true n' 3 [c1] = some y1 := by rw [← t1, hc3]; rfl
      have t2' : DataW.trod enc Try.prog W 0 (fun _ => true) true n' 2 [c2] = some y2 := by rw [← t2, hc2]; rfl
      obtain ⟨n0, e0, _, _⟩ := DataW.trod_int Try.underlying3 t0'
      obtain ⟨n1, e1, _, _⟩ := DataW.trod_int Try.underlying3 t1'
      obtain ⟨n2, e2, _, _⟩ := DataW.trod_int Try.underlying2 t2'
      obtain rfl : c0 = .int .i64 n0 := by injection e0
      obtain rfl : c1 = .int .i64 n1 := by injection e1
      obtain rfl : c2 = .int .i64 n2 := by injection e2
      refine ⟨⟨n0, n1, n2⟩, fun j u hu => ?_⟩
      have hj : j < 3 := (List.getElem?_eq_some_iff.1 hu).1
      have := hcell j hj
      rw [Mem.add_of_add] at this
      rw [this]
      exact hu
    obtain ⟨f, hf⟩ := choose_lt hel
    have hd : d = .slice ((List.range len).map D) ((List.range (m - len)).map fun j => D (len + j)) := by injection hx
    have hpp : p = MemPlace.row x (m * Try.prog.cellsOf 58) ++ (List.range m).flatMap Pl := by injection hx
    refine ⟨(List.range len).map f, by simp, ?_, ?_⟩
    · refine ⟨some x, m, by simp, by simpa using hl, by rw [iCells_len], fun hn => ?_⟩
      have hn' : 0 < len := by simpa using hn
      have hc0 := hf 0 (by omega) 0 _ rfl
      have hsp : x.spot = none := by simpa [Addr.add] using World.cell?_spot hc0
      obtain ⟨g, off, spot⟩ := x
      subst hsp
      refine ⟨g, off, rfl, ?_, by simp, fun j u hu => ?_⟩
      · have := block_lt_of_cell hc0
        rwa [block_of_add] at this
      · have hj : j < len * 3 := by
          have := (List.getElem?_eq_some_iff.1 hu).1
          rw [iCells_len] at this
          simpa using this
        have hk : j / 3 < ((List.range len).map f).length := by simp; omega
        have hfa := flat_at iEnc 3 (fun _ => rfl) ((List.range len).map f) (j / 3) (j % 3) hk (by omega)
        rw [show j / 3 * 3 + j % 3 = j by omega] at hfa
        rw [hfa] at hu
        have hg : ((List.range len).map f)[j / 3] = f (j / 3) := by simp
        rw [hg] at hu
        have := hf (j / 3) (by omega) (j % 3) u hu
        rw [show j / 3 * 3 + j % 3 = j by omega, addr_add] at this
        exact this
    · rw [hd]
      have := slice_le ((List.range len).map D) ((List.range (m - len)).map fun j => D (len + j))
      simpa using this
end Go.Proofs.Ytinnifhnabncfaa.Sets
