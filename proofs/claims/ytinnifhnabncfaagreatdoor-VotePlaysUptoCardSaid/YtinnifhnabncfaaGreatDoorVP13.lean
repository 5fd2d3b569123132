/- Texts put together: OpV. -/
import Derived.Test.YtinnifhnabncfaaGreatDoorRows
import Derived.Deep.Slices
import Derived.Deep.SlicePairs
import Derived.Deep.Strs
import Derived.Test.YtinnifhnabncfaaGreatDoorVP6
import Derived.Test.YtinnifhnabncfaaGreatDoorVP11
set_option linter.unusedVariables false
set_option linter.unusedSimpArgs false
section
namespace Go.Proofs.YtinnifhnabncfaaGreatDoor.Vi
open Go.RowKit Base Mem Go.ChangeShapes Go.WideShapes Go.Deep
theorem bulk_one {H : Type} (d : DataW H) : 1 ≤ Rows.uptoBulk d := by
 cases d with
 | lit l => cases l <;> simp [Rows.uptoBulk]
 | nil => simp [Rows.uptoBulk]
 | ptr d => simp [Rows.uptoBulk]
 | slice elems spare => simp [Rows.uptoBulk]
 | agg parts => simp [Rows.uptoBulk]
 | iface t d => simp [Rows.uptoBulk]
 | map entries => simp [Rows.uptoBulk]
 | held h => simp [Rows.uptoBulk]
theorem bulk_part {H : Type} {d : DataW H} {l : List (DataW H)} (h : d ∈ l) : Rows.uptoBulk d ≤ Rows.uptoBulkAll l := by
 induction l with
 | nil => cases h
 | cons x r ih =>
  simp only [Rows.uptoBulkAll]
  rcases List.mem_cons.1 h with e | e
  ·subst e; omega
  ·have := ih e; omega
theorem bulk_len {H : Type} (l : List (DataW H)) : l.length ≤ Rows.uptoBulkAll l := by
 induction l with
 | nil => simp [Rows.uptoBulkAll]
 | cons x r ih => have := bulk_one x; simp only [Rows.uptoBulkAll, List.length_cons]; omega
theorem bulk_slice {H : Type} (elems spare : List (DataW H)) : Rows.uptoBulkAll elems ≤ Rows.uptoBulk (.slice elems spare) := by
 simp only [Rows.uptoBulk]
 omega
theorem bulk_agg {H : Type} (parts : List (DataW H)) : Rows.uptoBulkAll parts ≤ Rows.uptoBulk (.agg parts) := by
 simp only [Rows.uptoBulk]
 omega
theorem bulk_str {H : Type} (bytes : List UInt8) : bytes.length ≤ Rows.uptoBulk (DataW.lit (H := H) (.string bytes)) := by
 simp [Rows.uptoBulk]
theorem bulk_bound {H : Type} {l : List (DataW H)} (hk : Rows.uptoSmall H l = true) : Rows.uptoBulkAll l ≤ 1048576 := of_decide_eq_true hk
theorem wfE_u64 {n : Int} (h : (Lit.int .u64 n).wf = true) : 0 ≤ n ∧ n < 18446744073709551616 := by
 have h2 := h
 unfold Lit.wf at h2
 rw [Bool.and_eq_true, decide_eq_true_eq, decide_eq_true_eq] at h2
 have e1 : IntKind.u64.min = 0 := by decide
 have e2 : IntKind.u64.max = 18446744073709551615 := by decide
 rw [e1, e2] at h2
 omega
theorem wfE_u8 {n : Int} (h : (Lit.int .u8 n).wf = true) : 0 ≤ n ∧ n < 256 := by
 have h2 := h
 unfold Lit.wf at h2
 rw [Bool.and_eq_true, decide_eq_true_eq, decide_eq_true_eq] at h2
 have e1 : IntKind.u8.min = 0 := by decide
 have e2 : IntKind.u8.max = 255 := by decide
 rw [e1, e2] at h2
 omega
theorem wfE_i64 {n : Int} (h : (Lit.int .i64 n).wf = true) : n ≤ 9223372036854775807 := by
 have h2 := h
 unfold Lit.wf at h2
 rw [Bool.and_eq_true, decide_eq_true_eq, decide_eq_true_eq] at h2
 have e1 : IntKind.i64.min = -9223372036854775808 := by decide
 have e2 : IntKind.i64.max = 9223372036854775807 := by decide
 rw [e1, e2] at h2
 omega
theorem open_ds {H : Type} {enc : TypeId × Value → H} {W : World} {fuel : Nat} {a : Option Addr} {len cap : Nat} {d : DataW H} {p : List MemPlace}
  (h : DataW.trod enc Tryz.prog W 0 (fun _ => true) true fuel 24 [.slice a len cap] = some (d, p)) :
  ∃ l : List DeltaD, l.length = len ∧ Ds W [] (.slice a len cap) l ∧ (∀ x ∈ l, NOk x ∧ x.ser.size ≤ Rows.uptoBulk d) ∧ len ≤ Rows.uptoBulk d := by
 rcases open_slice_pairs Tryz.underlying24 Tryz.underlying86 (by kernel_rfl) rfl rfl (by kernel_rfl) (by kernel_rfl) h with ⟨hcs, _⟩ | ⟨x, l, c, m, n, V0, V1, D0, D1, P0, P1, hcs, _, hl, hm, hmm, hx, hall⟩
 ·simp at hcs
  obtain ⟨rfl, rfl, rfl⟩ := hcs
  exact ⟨[], rfl, Ds.nil _ _, by simp, Nat.zero_le _⟩
 ·simp at hcs
  obtain ⟨rfl, rfl, rfl⟩ := hcs
  simp only [if_true] at hmm
  subst hmm
  have hd : d = .slice ((List.range len).map fun i => .agg [D0 i, D1 i]) ((List.range (m - len)).map fun j => .agg [D0 (len + j), D1 (len + j)]) := by injection hx
  have hel : ∀ i, i < m → ∃ e : DeltaD, (∀ j u, (dCell e)[j]? = some u → W.cell? (x.add (i * 2 + j)) = some u) ∧ NOk e ∧ D0 i = .lit (.string e.ser.data.toList) := by
   intro i hi
   obtain ⟨h1, h2, t0, t1⟩ := hall i hi
   obtain ⟨s, e0, ex, _⟩ := DataW.trod_string Tryz.underlying9 t0
   obtain ⟨k, e1, _, hwf⟩ := DataW.trod_int Tryz.underlying66 t1
   obtain ⟨hk0, hk1⟩ := wfE_u64 hwf
   injection e0 with e0
   injection e1 with e1
   rw [e0] at h1
   rw [e1] at h2
   refine ⟨⟨s, k⟩, fun j u hu => ?_, ⟨hk0, hk1⟩, by injection ex⟩
   match j, hu with
   | 0, hu => simp [dCell] at hu; subst hu; exact h1
   | 1, hu => simp [dCell] at hu; subst hu; exact h2
  obtain ⟨f, hf⟩ : ∃ f : Nat → DeltaD, ∀ i, i < m → (∀ j u, (dCell (f i))[j]? = some u → W.cell? (x.add (i * 2 + j)) = some u) ∧ NOk (f i) ∧ D0 i = .lit (.string (f i).ser.data.toList) := by
   refine ⟨fun i => if h : i < m then (hel i h).choose else ⟨⟨#[]⟩, 0⟩, fun i hi => ?_⟩
   simp only [dif_pos hi]
   exact (hel i hi).choose_spec
  refine ⟨(List.range len).map f, by simp, ?_, ?_, ?_⟩
  ·refine ⟨some x, m, by simp, by simpa using hl, by rw [show dCells ((List.range len).map f) = ((List.range len).map f).flatMap dCell from rfl, flat_len dCell 2 (fun _ => rfl)], fun hn => ?_⟩
   have hn' : 0 < len := by simpa using hn
   have hc0 := (hf 0 (by omega)).1 0 _ rfl
   have hsp : x.spot = none := by simpa [Addr.add] using World.cell?_spot hc0
   obtain ⟨g, off, spot⟩ := x
   subst hsp
   refine ⟨g, off, rfl, ?_, by simp, fun j u hu => ?_⟩
   ·have := block_lt_of_cell hc0
    rwa [block_of_add] at this
   ·have hj : j < len * 2 := by
     have := (List.getElem?_eq_some_iff.1 hu).1
     rw [show dCells ((List.range len).map f) = ((List.range len).map f).flatMap dCell from rfl, flat_len dCell 2 (fun _ => rfl)] at this
     simpa using this
    have hk : j / 2 < ((List.range len).map f).length := by simp; omega
    have hfa := flat_at dCell 2 (fun _ => rfl) ((List.range len).map f) (j / 2) (j % 2) hk (by omega)
    rw [show j / 2 * 2 + j % 2 = j by omega] at hfa
    rw [show dCells ((List.range len).map f) = ((List.range len).map f).flatMap dCell from rfl, hfa] at hu
    have hg : ((List.range len).map f)[j / 2] = f (j / 2) := by simp
    rw [hg] at hu
    have := (hf (j / 2) (by omega)).1 (j % 2) u hu
    rw [show j / 2 * 2 + j % 2 = j by omega, addr_add] at this
    exact this
  ·intro y hy
   obtain ⟨i, hi, rfl⟩ := List.mem_map.1 hy
   have hi' : i < len := List.mem_range.1 hi
   obtain ⟨_, h2, h3⟩ := hf i (by omega)
   refine ⟨h2, ?_⟩
   have b1 : Rows.uptoBulk (DataW.agg [D0 i, D1 i]) ≤ Rows.uptoBulkAll ((List.range len).map fun i => DataW.agg [D0 i, D1 i]) := bulk_part (List.mem_map.2 ⟨i, hi, rfl⟩)
   have b2 := bulk_slice ((List.range len).map fun i => DataW.agg [D0 i, D1 i]) ((List.range (m - len)).map fun j => DataW.agg [D0 (len + j), D1 (len + j)])
   have b3 : Rows.uptoBulk (D0 i) ≤ Rows.uptoBulkAll [D0 i, D1 i] := bulk_part (by simp)
   have b4 := bulk_agg [D0 i, D1 i]
   have b5 := bulk_str (H := H) (f i).ser.data.toList
   rw [← h3] at b5
   rw [hd]
   have : (f i).ser.data.toList.length = (f i).ser.size := rfl
   omega
  ·rw [hd]
   have b1 := bulk_len ((List.range len).map fun i => DataW.agg [D0 i, D1 i])
   have b2 := bulk_slice ((List.range len).map fun i => DataW.agg [D0 i, D1 i]) ((List.range (m - len)).map fun j => DataW.agg [D0 (len + j), D1 (len + j)])
   rw [List.length_map, List.length_range] at b1
   omega
theorem open_bs {H : Type} {enc : TypeId × Value → H} {W : World} {fuel : Nat} {a : Option Addr} {len cap : Nat} {d : DataW H} {p : List MemPlace}
  (h : DataW.trod enc Tryz.prog W 0 (fun _ => true) true fuel 36 [.slice a len cap] = some (d, p)) :
  ∃ l : List UInt8, l.length = len ∧ Bs W [] (.slice a len cap) l ∧ len ≤ Rows.uptoBulk d := by
 rcases open_ints Tryz.underlying36 Tryz.underlying5 (by kernel_rfl) h with ⟨hcs, _⟩ | ⟨x, l, c, zs, hcs, _, hl, hm, hz, hx, hcell, hwz⟩
 ·simp at hcs
  obtain ⟨rfl, rfl, rfl⟩ := hcs
  exact ⟨[], rfl, Bs.nil _ _, Nat.zero_le _⟩
 ·simp at hcs
  obtain ⟨rfl, rfl, rfl⟩ := hcs
  simp only [if_true] at hz
  have hlen : ((zs.take len).map fun z => UInt8.ofNat z.toNat).length = len := by rw [List.length_map, List.length_take]; omega
  have hat : ∀ i, i < cap → W.cell? (x.add i) = some (.int .u8 (UInt8.ofNat (zs.getD i 0).toNat).toNat) := by
   intro i hi
   have h1 := hcell i (by omega)
   have hmem : zs.getD i 0 ∈ zs := by
    rw [List.getD_eq_getElem?_getD, List.getElem?_eq_getElem (by omega : i < zs.length)]
    exact List.getElem_mem _
   obtain ⟨h2, h3⟩ := wfE_u8 (hwz _ hmem)
   rw [h1, UInt8.toNat_ofNat_of_lt' (by show (zs.getD i 0).toNat < 256; omega)]
   congr 2
   omega
  refine ⟨(zs.take len).map fun z => UInt8.ofNat z.toNat, hlen, ?_, ?_⟩
  ·refine ⟨some x, cap, by rw [hlen], by rw [hlen]; exact hl, by rw [List.length_map, Nat.mul_one], fun hn => ?_⟩
   rw [hlen] at hn
   have hc0 := hat 0 (by omega)
   have hsp : x.spot = none := by simpa [Addr.add] using World.cell?_spot hc0
   obtain ⟨g, off, spot⟩ := x
   subst hsp
   refine ⟨g, off, rfl, ?_, by simp, fun j u hu => ?_⟩
   ·have := block_lt_of_cell hc0
    rwa [block_of_add] at this
   ·have hj : j < len := by
     have := (List.getElem?_eq_some_iff.1 hu).1
     rw [List.length_map, hlen] at this
     exact this
    have hjz : j < zs.length := by omega
    have h1 := hat j (by omega)
    rw [addr_add] at h1
    rw [List.getElem?_map, List.getElem?_map, List.getElem?_take, if_pos hj, List.getElem?_eq_getElem hjz] at hu
    simp only [Option.map_some, Option.some.injEq] at hu
    rw [← hu]
    rw [List.getD_eq_getElem?_getD, List.getElem?_eq_getElem hjz] at h1
    exact h1
  ·have hd : d = .slice (lits .u8 (zs.take len)) (lits .u8 (zs.drop len)) := by injection hx
   have b1 := bulk_len (lits (H := H) .u8 (zs.take len))
   have b2 := bulk_slice (lits (H := H) .u8 (zs.take len)) (lits .u8 (zs.drop len))
   have b3 : (lits (H := H) .u8 (zs.take len)).length = len := by simp [lits]; omega
   rw [hd]
   omega
/-- An entry that came in: what its bulk bounds, its numbers within their types. -/
structure EBulk (K : Nat) (e : EntryD) : Prop where
 tag : e.tag ≤ 9223372036854775807
 seq : e.seq ≤ 9223372036854775807
 ep : e.ep ≤ 9223372036854775807
 ser : e.ser.size ≤ K
 ds : ∀ x ∈ e.ds, NOk x ∧ x.ser.size ≤ K
 len : e.ds.length ≤ K
theorem EBulk.short {K : Nat} {e : EntryD} (h : EBulk K e) (hK : K ≤ 1048576) : Short e :=
 ⟨by have := h.ser; omega, fun d hd => by have := (h.ds d hd).2; omega, by have := h.len; omega⟩
theorem EBulk.wf {K : Nat} {e : EntryD} (h : EBulk K e) : Wf e := ⟨h.tag, h.seq, h.ep, fun d hd => (h.ds d hd).1⟩
set_option maxRecDepth 100000 in
theorem open_ecells {H : Type} {enc : TypeId × Value → H} {W : World} {fuel : Nat} {cs : List Value} {d : DataW H} {p : List MemPlace}
  (h : DataW.trod enc Tryz.prog W 0 (fun _ => true) true fuel 26 cs = some (d, p)) :
  ∃ (e : EntryD) (dv : Value), cs = eCell (e, dv) ∧ Ds W [] dv e.ds ∧ EBulk (Rows.uptoBulk d) e := by
 have h9 : Tryz.prog.cellsOf 26 = 9 := by kernel_rfl
 have h3 : Tryz.prog.cellsOf 23 = 3 := by kernel_rfl
 have hi : Tryz.prog.cellsOf 3 = 1 := by kernel_rfl
 have hj : Tryz.prog.cellsOf 2 = 1 := by kernel_rfl
 have hsl : Tryz.prog.cellsOf 24 = 1 := by kernel_rfl
 have hst : Tryz.prog.cellsOf 9 = 1 := by kernel_rfl
 obtain ⟨xs, n, _, hx0, hsz, hlen, hF⟩ := DataW.trod_struct Tryz.underlying26 h
 obtain ⟨y0, y1, y2, y3, y4, y5, y6, rfl⟩ : ∃ y0 y1 y2 y3 y4 y5 y6, xs = [y0, y1, y2, y3, y4, y5, y6] := match xs, hlen with | [y0, y1, y2, y3, y4, y5, y6], _ => ⟨y0, y1, y2, y3, y4, y5, y6, rfl⟩
 have hx := congrArg (·.1) hx0
 obtain ⟨c0, c1, c2, c3, c4, c5, c6, c7, c8, rfl⟩ : ∃ c0 c1 c2 c3 c4 c5 c6 c7 c8, cs = [c0, c1, c2, c3, c4, c5, c6, c7, c8] := by
  rw [h9] at hsz
  rcases cs with _ | ⟨c0, _ | ⟨c1, _ | ⟨c2, _ | ⟨c3, _ | ⟨c4, _ | ⟨c5, _ | ⟨c6, _ | ⟨c7, _ | ⟨c8, _ | ⟨c9, r⟩⟩⟩⟩⟩⟩⟩⟩⟩⟩ <;> simp at hsz
  exact ⟨c0, c1, c2, c3, c4, c5, c6, c7, c8, rfl⟩
 have t0' : DataW.trod enc Tryz.prog W 0 (fun _ => true) true n 3 [c0] = some y0 := by simpa [hi] using hF 0 _ rfl
 have t1' : DataW.trod enc Tryz.prog W 0 (fun _ => true) true n 23 [c1, c2, c3] = some y1 := by simpa [h3] using hF 1 _ rfl
 have t2' : DataW.trod enc Tryz.prog W 0 (fun _ => true) true n 2 [c4] = some y2 := by simpa [hj] using hF 2 _ rfl
 have t3' : DataW.trod enc Tryz.prog W 0 (fun _ => true) true n 24 [c5] = some y3 := by simpa [hsl] using hF 3 _ rfl
 have t4' : DataW.trod enc Tryz.prog W 0 (fun _ => true) true n 9 [c6] = some y4 := by simpa [hst] using hF 4 _ rfl
 have t5' : DataW.trod enc Tryz.prog W 0 (fun _ => true) true n 3 [c7] = some y5 := by simpa [hi] using hF 5 _ rfl
 have t6' : DataW.trod enc Tryz.prog W 0 (fun _ => true) true n 2 [c8] = some y6 := by simpa [hj] using hF 6 _ rfl
 obtain ⟨z0, z1, z2, n', _, _, s0, s1, s2⟩ := trod_struct3 Tryz.underlying23 t1'
 have s0' : DataW.trod enc Tryz.prog W 0 (fun _ => true) true n' 3 [c1] = some z0 := by rw [← s0, hi]; rfl
 have s1' : DataW.trod enc Tryz.prog W 0 (fun _ => true) true n' 3 [c2] = some z1 := by rw [← s1, hi]; rfl
 have s2' : DataW.trod enc Tryz.prog W 0 (fun _ => true) true n' 2 [c3] = some z2 := by rw [← s2, hj]; rfl
 obtain ⟨k0, e0, _, _⟩ := DataW.trod_int Tryz.underlying3 t0'
 obtain ⟨k1, e1, _, _⟩ := DataW.trod_int Tryz.underlying3 s0'
 obtain ⟨k2, e2, _, _⟩ := DataW.trod_int Tryz.underlying3 s1'
 obtain ⟨k3, e3, _, w3⟩ := DataW.trod_int Tryz.underlying2 s2'
 obtain ⟨k4, e4, _, w4⟩ := DataW.trod_int Tryz.underlying2 t2'
 obtain ⟨k6, e6, x6, _⟩ := DataW.trod_string Tryz.underlying9 t4'
 obtain ⟨k7, e7, _, _⟩ := DataW.trod_int Tryz.underlying3 t5'
 obtain ⟨k8, e8, _, w8⟩ := DataW.trod_int Tryz.underlying2 t6'
 injection e0 with e0; injection e1 with e1; injection e2 with e2; injection e3 with e3; injection e4 with e4; injection e6 with e6; injection e7 with e7; injection e8 with e8
 subst e0 e1 e2 e3 e4 e6 e7 e8
 obtain ⟨a5, n5, cp5, rfl⟩ : ∃ a n c, c5 = .slice a n c := by
  rcases open_slice Tryz.underlying24 t3' with ⟨hcs, _⟩ | ⟨x, l, c, m, n, D, Pl, hcs, _⟩
  ·injection hcs with h _; exact ⟨_, _, _, h⟩
  ·injection hcs with h _; exact ⟨_, _, _, h⟩
 obtain ⟨d3, p3⟩ := y3
 obtain ⟨l, rfl, hD, hl1, hl2⟩ := open_ds t3'
 have hd : d = .agg [y0.1, y1.1, y2.1, d3, y4.1, y5.1, y6.1] := hx
 have b1 := bulk_agg [y0.1, y1.1, y2.1, d3, y4.1, y5.1, y6.1]
 have b2 : Rows.uptoBulk d3 ≤ Rows.uptoBulkAll [y0.1, y1.1, y2.1, d3, y4.1, y5.1, y6.1] := bulk_part (by simp)
 have b3 : Rows.uptoBulk y4.1 ≤ Rows.uptoBulkAll [y0.1, y1.1, y2.1, d3, y4.1, y5.1, y6.1] := bulk_part (by simp)
 have b4 := bulk_str (H := H) k6.data.toList
 have hy4 : y4.1 = .lit (.string k6.data.toList) := by rw [x6]
 rw [← hy4] at b4
 rw [← hd] at b1
 have hk6 : k6.data.toList.length = k6.size := rfl
 refine ⟨⟨k0, k1, k2, k3, k4, l, k6, k7, k8⟩, .slice a5 l.length cp5, rfl, hD, wfE_i64 w8, wfE_i64 w3, wfE_i64 w4, ?_, fun x hx => ⟨(hl1 x hx).1, ?_⟩, ?_⟩
 ·show k6.size ≤ _; omega
 ·have := (hl1 x hx).2; omega
 ·show l.length ≤ _; omega
theorem open_ens {H : Type} {enc : TypeId × Value → H} {W : World} {fuel : Nat} {a : Option Addr} {len cap : Nat} {d : DataW H} {p : List MemPlace}
  (h : DataW.trod enc Tryz.prog W 0 (fun _ => true) true fuel 52 [.slice a len cap] = some (d, p)) :
  ∃ l : List EntryD, l.length = len ∧ Ens W [] (.slice a len cap) l ∧ (∀ e ∈ l, EBulk (Rows.uptoBulk d) e) ∧ len ≤ Rows.uptoBulk d := by
 have h9 : Tryz.prog.cellsOf 26 = 9 := by kernel_rfl
 rcases open_slice Tryz.underlying52 h with ⟨hcs, _⟩ | ⟨x, l, c, m, n, D, Pl, hcs, _, hl, hm, hmm, hx, hall⟩
 ·simp at hcs
  obtain ⟨rfl, rfl, rfl⟩ := hcs
  exact ⟨[], rfl, ⟨[], rfl, ⟨none, 0, rfl, Nat.le_refl _, rfl, fun h => absurd h (Nat.lt_irrefl _)⟩, by simp⟩, by simp, Nat.zero_le _⟩
 ·simp at hcs
  obtain ⟨rfl, rfl, rfl⟩ := hcs
  simp only [if_true] at hmm
  subst hmm
  rw [h9] at hall
  have hd : d = .slice ((List.range len).map D) ((List.range (m - len)).map fun j => D (len + j)) := by injection hx
  have hel : ∀ i, i < m → ∃ e : EntryD × Value, (∀ j u, (eCell e)[j]? = some u → W.cell? (x.add (i * 9 + j)) = some u) ∧ Ds W [] e.2 e.1.ds ∧ EBulk (Rows.uptoBulk (D i)) e.1 := by
   intro i hi
   obtain ⟨cs', h1, h2⟩ := hall i hi
   obtain ⟨e, dv, rfl, hD, hE⟩ := open_ecells h2
   obtain ⟨_, _, hc⟩ := World.cells?_some h1
   refine ⟨(e, dv), fun j u hu => ?_, hD, hE⟩
   have hj : j < 9 := by
    have := (List.getElem?_eq_some_iff.1 hu).1
    simpa [eCell] using this
   have := hc j hj
   rw [Addr.add_add] at this
   rw [this]; exact hu
  obtain ⟨f, hf⟩ : ∃ f : Nat → EntryD × Value, ∀ i, i < m → (∀ j u, (eCell (f i))[j]? = some u → W.cell? (x.add (i * 9 + j)) = some u) ∧ Ds W [] (f i).2 (f i).1.ds ∧ EBulk (Rows.uptoBulk (D i)) (f i).1 := by
   refine ⟨fun i => if h : i < m then (hel i h).choose else (⟨0, 0, 0, 0, 0, [], ⟨#[]⟩, 0, 0⟩, .slice none 0 0), fun i hi => ?_⟩
   simp only [dif_pos hi]
   exact (hel i hi).choose_spec
  have hb1 := bulk_len ((List.range len).map D)
  have hb2 := bulk_slice ((List.range len).map D) ((List.range (m - len)).map fun j => D (len + j))
  rw [List.length_map, List.length_range] at hb1
  refine ⟨((List.range len).map f).map (·.1), by simp, ⟨(List.range len).map f, rfl, ?_, ?_⟩, ?_, by rw [hd]; omega⟩
  ·refine ⟨some x, m, by simp, by simpa using hl, by rw [flat_len eCell 9 (fun _ => rfl)], fun hn => ?_⟩
   have hn' : 0 < len := by simpa using hn
   have hc0 := (hf 0 (by omega)).1 0 _ rfl
   have hsp : x.spot = none := by simpa [Addr.add] using World.cell?_spot hc0
   obtain ⟨g, off, spot⟩ := x
   subst hsp
   refine ⟨g, off, rfl, ?_, by simp, fun j u hu => ?_⟩
   ·have := block_lt_of_cell hc0
    rwa [block_of_add] at this
   ·have hj : j < len * 9 := by
     have := (List.getElem?_eq_some_iff.1 hu).1
     rw [flat_len eCell 9 (fun _ => rfl)] at this
     simpa using this
    have hk : j / 9 < ((List.range len).map f).length := by simp; omega
    have hfa := flat_at eCell 9 (fun _ => rfl) ((List.range len).map f) (j / 9) (j % 9) hk (by omega)
    rw [show j / 9 * 9 + j % 9 = j by omega] at hfa
    rw [hfa] at hu
    have hg : ((List.range len).map f)[j / 9] = f (j / 9) := by simp
    rw [hg] at hu
    have := (hf (j / 9) (by omega)).1 (j % 9) u hu
    rw [show j / 9 * 9 + j % 9 = j by omega, addr_add] at this
    exact this
  ·intro y hy
   obtain ⟨i, hi, rfl⟩ := List.mem_map.1 hy
   exact (hf i (by have := List.mem_range.1 hi; omega)).2.1
  ·intro y hy
   obtain ⟨q, hq, rfl⟩ := List.mem_map.1 hy
   obtain ⟨i, hi, rfl⟩ := List.mem_map.1 hq
   have hi' : i < len := List.mem_range.1 hi
   have hE := (hf i (by omega)).2.2
   have b1 : Rows.uptoBulk (D i) ≤ Rows.uptoBulkAll ((List.range len).map D) := bulk_part (List.mem_map.2 ⟨i, hi, rfl⟩)
   rw [hd]
   have hle : Rows.uptoBulk (D i) ≤ Rows.uptoBulk (DataW.slice ((List.range len).map D) ((List.range (m - len)).map fun j => D (len + j))) := Nat.le_trans b1 hb2
   exact ⟨hE.tag, hE.seq, hE.ep, Nat.le_trans hE.ser hle, fun z hz => ⟨(hE.ds z hz).1, Nat.le_trans (hE.ds z hz).2 hle⟩, Nat.le_trans hE.len hle⟩
/-- An ask that came in. -/
def AskIn (K : Nat) (a : AskD) : Prop := a.t ≤ 9223372036854775807 ∧ ∀ e ∈ a.log, EBulk K e
set_option maxRecDepth 100000 in
theorem open_asks {H : Type} {enc : TypeId × Value → H} {W : World} {fuel : Nat} {a : Option Addr} {len cap : Nat} {d : DataW H} {p : List MemPlace}
  (h : DataW.trod enc Tryz.prog W 0 (fun _ => true) true fuel 50 [.slice a len cap] = some (d, p)) :
  ∃ l : List AskD, l.length = len ∧ AskAt W [] (.slice a len cap) l ∧ ∀ q ∈ l, AskIn (Rows.uptoBulk d) q := by
 have h3 : Tryz.prog.cellsOf 54 = 3 := by kernel_rfl
 have hi : Tryz.prog.cellsOf 3 = 1 := by kernel_rfl
 have hj : Tryz.prog.cellsOf 2 = 1 := by kernel_rfl
 have hsl : Tryz.prog.cellsOf 52 = 1 := by kernel_rfl
 rcases open_slice Tryz.underlying50 h with ⟨hcs, _⟩ | ⟨x, l, c, m, n, D, Pl, hcs, _, hl, hm, hmm, hx, hall⟩
 ·simp at hcs
  obtain ⟨rfl, rfl, rfl⟩ := hcs
  exact ⟨[], rfl, ⟨[], rfl, ⟨none, 0, rfl, Nat.le_refl _, rfl, fun h => absurd h (Nat.lt_irrefl _)⟩, by simp⟩, by simp⟩
 ·simp at hcs
  obtain ⟨rfl, rfl, rfl⟩ := hcs
  simp only [if_true] at hmm
  subst hmm
  rw [h3] at hall
  have hd : d = .slice ((List.range len).map D) ((List.range (m - len)).map fun j => D (len + j)) := by injection hx
  have hel : ∀ i, i < m → ∃ q : AskD × Value, (∀ j u, (aCell q)[j]? = some u → W.cell? (x.add (i * 3 + j)) = some u) ∧ Ens W [] q.2 q.1.log ∧ AskIn (Rows.uptoBulk (D i)) q.1 := by
   intro i hi'
   obtain ⟨cs', h1, h2⟩ := hall i hi'
   obtain ⟨_, hlen', hc⟩ := World.cells?_some h1
   obtain ⟨xs, n2, _, hx0, _, hlen, hF⟩ := DataW.trod_struct Tryz.underlying54 h2
   obtain ⟨y0, y1, y2, rfl⟩ : ∃ y0 y1 y2, xs = [y0, y1, y2] := match xs, hlen with | [y0, y1, y2], _ => ⟨y0, y1, y2, rfl⟩
   have hxx := congrArg (·.1) hx0
   obtain ⟨c0, c1, c2, rfl⟩ : ∃ c0 c1 c2, cs' = [c0, c1, c2] := match cs', hlen' with | [c0, c1, c2], _ => ⟨c0, c1, c2, rfl⟩
   have t0 : DataW.trod enc Tryz.prog W 0 (fun _ => true) true n2 3 [c0] = some y0 := by simpa [hi] using hF 0 _ rfl
   have t1 : DataW.trod enc Tryz.prog W 0 (fun _ => true) true n2 2 [c1] = some y1 := by simpa [hj] using hF 1 _ rfl
   have t2 : DataW.trod enc Tryz.prog W 0 (fun _ => true) true n2 52 [c2] = some y2 := by simpa [hsl] using hF 2 _ rfl
   obtain ⟨k0, e0, _, w0⟩ := DataW.trod_int Tryz.underlying3 t0
   obtain ⟨k1, e1, _, w1⟩ := DataW.trod_int Tryz.underlying2 t1
   injection e0 with e0; injection e1 with e1
   subst e0 e1
   obtain ⟨a7, n7, cp7, rfl⟩ : ∃ a n c, c2 = .slice a n c := by
    rcases open_slice Tryz.underlying52 t2 with ⟨hcs, _⟩ | ⟨x, l, c, m, n, D, Pl, hcs, _⟩
    ·injection hcs with h _; exact ⟨_, _, _, h⟩
    ·injection hcs with h _; exact ⟨_, _, _, h⟩
   obtain ⟨d2, p2⟩ := y2
   obtain ⟨el, rfl, hL, hl1, hl2⟩ := open_ens t2
   have hdi : D i = .agg [y0.1, y1.1, d2] := hxx
   have b1 := bulk_agg [y0.1, y1.1, d2]
   have b2 : Rows.uptoBulk d2 ≤ Rows.uptoBulkAll [y0.1, y1.1, d2] := bulk_part (by simp)
   rw [← hdi] at b1
   refine ⟨(⟨k0, k1, el⟩, .slice a7 el.length cp7), fun j u hu => ?_, hL, wfE_i64 w1, fun e he => ?_⟩
   ·have hj3 : j < 3 := by
     have := (List.getElem?_eq_some_iff.1 hu).1
     simpa [aCell] using this
    have := hc j hj3
    rw [Addr.add_add] at this
    rw [this]; exact hu
   ·have hE := hl1 e he
    have hle : Rows.uptoBulk d2 ≤ Rows.uptoBulk (D i) := Nat.le_trans b2 b1
    exact ⟨hE.tag, hE.seq, hE.ep, Nat.le_trans hE.ser hle, fun z hz => ⟨(hE.ds z hz).1, Nat.le_trans (hE.ds z hz).2 hle⟩, Nat.le_trans hE.len hle⟩
  obtain ⟨f, hf⟩ : ∃ f : Nat → AskD × Value, ∀ i, i < m → (∀ j u, (aCell (f i))[j]? = some u → W.cell? (x.add (i * 3 + j)) = some u) ∧ Ens W [] (f i).2 (f i).1.log ∧ AskIn (Rows.uptoBulk (D i)) (f i).1 := by
   refine ⟨fun i => if h : i < m then (hel i h).choose else (⟨0, 0, []⟩, .slice none 0 0), fun i hi => ?_⟩
   simp only [dif_pos hi]
   exact (hel i hi).choose_spec
  have hb2 := bulk_slice ((List.range len).map D) ((List.range (m - len)).map fun j => D (len + j))
  refine ⟨((List.range len).map f).map (·.1), by simp, ⟨(List.range len).map f, rfl, ?_, ?_⟩, ?_⟩
  ·refine ⟨some x, m, by simp, by simpa using hl, by rw [flat_len aCell 3 (fun _ => rfl)], fun hn => ?_⟩
   have hn' : 0 < len := by simpa using hn
   have hc0 := (hf 0 (by omega)).1 0 _ rfl
   have hsp : x.spot = none := by simpa [Addr.add] using World.cell?_spot hc0
   obtain ⟨g, off, spot⟩ := x
   subst hsp
   refine ⟨g, off, rfl, ?_, by simp, fun j u hu => ?_⟩
   ·have := block_lt_of_cell hc0
    rwa [block_of_add] at this
   ·have hj : j < len * 3 := by
     have := (List.getElem?_eq_some_iff.1 hu).1
     rw [flat_len aCell 3 (fun _ => rfl)] at this
     simpa using this
    have hk : j / 3 < ((List.range len).map f).length := by simp; omega
    have hfa := flat_at aCell 3 (fun _ => rfl) ((List.range len).map f) (j / 3) (j % 3) hk (by omega)
    rw [show j / 3 * 3 + j % 3 = j by omega] at hfa
    rw [hfa] at hu
    have hg : ((List.range len).map f)[j / 3] = f (j / 3) := by simp
    rw [hg] at hu
    have := (hf (j / 3) (by omega)).1 (j % 3) u hu
    rw [show j / 3 * 3 + j % 3 = j by omega, addr_add] at this
    exact this
  ·intro y hy
   obtain ⟨i, hi, rfl⟩ := List.mem_map.1 hy
   exact (hf i (by have := List.mem_range.1 hi; omega)).2.1
  ·intro y hy
   obtain ⟨q, hq, rfl⟩ := List.mem_map.1 hy
   obtain ⟨i, hi, rfl⟩ := List.mem_map.1 hq
   have hi' : i < len := List.mem_range.1 hi
   have hE := (hf i (by omega)).2.2
   have b1 : Rows.uptoBulk (D i) ≤ Rows.uptoBulkAll ((List.range len).map D) := bulk_part (List.mem_map.2 ⟨i, hi, rfl⟩)
   rw [hd]
   have hle : Rows.uptoBulk (D i) ≤ Rows.uptoBulk (DataW.slice ((List.range len).map D) ((List.range (m - len)).map fun j => D (len + j))) := Nat.le_trans b1 hb2
   exact ⟨hE.1, fun e he => ⟨(hE.2 e he).tag, (hE.2 e he).seq, (hE.2 e he).ep, Nat.le_trans (hE.2 e he).ser hle, fun z hz => ⟨((hE.2 e he).ds z hz).1, Nat.le_trans ((hE.2 e he).ds z hz).2 hle⟩, Nat.le_trans (hE.2 e he).len hle⟩⟩
end Go.Proofs.YtinnifhnabncfaaGreatDoor.Vi
end
