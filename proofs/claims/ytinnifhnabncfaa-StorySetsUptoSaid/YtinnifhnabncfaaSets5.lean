/- Contracts of slices.Contains, ContainsFunc at idents, and of story.Within. -/
import Derived.Test.YtinnifhnabncfaaSets4
namespace Go.Proofs.Ytinnifhnabncfaa.Sets
open Go.RowKit Base Mem Go.Shelf Go.Lib
def eqI (x y : IdentD) : Bool := x.ag == y.ag && (x.sh == y.sh && x.seq == y.seq)
theorem eqI_iff (x y : IdentD) : eqI x y = decide (x = y) := by
  obtain ⟨a, b, c⟩ := x
  obtain ⟨d, e, f⟩ := y
  unfold eqI
  by_cases h1 : a = d <;> by_cases h2 : b = e <;> by_cases h3 : c = f <;> simp [h1, h2, h3]
theorem eq_at : EqlAt Try.prog 58 (fun x => .agg (iEnc x).toArray) eqI := by
  refine ⟨fun x y w => ?_, GuardAt.agg _ (by kernel_rfl)⟩
  have u3 := Try.underlying3
  have a3 := Try.isAgg3
  have z3 := Try.sizeOf3
  have hS : Try.prog.underlying 58 = some (.struct (Try.prog.fieldsOf 58)) := by kernel_rfl
  have hp : Try.prog.stoodInHeld 58 = false := by kernel_rfl
  simp only [iEnc, eqI]
  rw [run_eql_struct, show (10000 : Nat) = 9999 + 1 from rfl, run_equalIn_agg w 9999 58 _ _ hS hp]
  simp only [Program.fieldsOf, Try.underlying58]
  go_simp
  by_cases h1 : x.ag = y.ag <;> by_cases h2 : x.sh = y.sh <;> by_cases h3 : x.seq = y.seq <;> simp [h1, h2, h3]
theorem ids_cells {w : World} {M : List Nat} {v : Value} {l : List IdentD} (h : Ids w M v l) (h0 : 0 < l.length) : ∃ g off c, v = .slice (some ⟨g, off, none⟩) l.length c ∧ g < w.heap.size ∧ ∀ j, j < l.length → ∀ i u, (iEnc l[j]!)[i]? = some u → w.cell? ⟨g, off + j * 3 + i, none⟩ = some u := by
  obtain ⟨g, off, c, e, _, hg, _, _⟩ := Rd.at_ iEnc 3 (fun _ => rfl) h h0
  refine ⟨g, off, c, e, hg, fun j hj i u hu => ?_⟩
  obtain ⟨g2, off2, c2, e2, _, _, _, hx⟩ := Rd.at_ iEnc 3 (fun _ => rfl) h hj
  rw [e] at e2
  injection e2 with e2 _ _
  injection e2 with e2
  injection e2 with e3 e4 _
  subst e3 e4
  exact hx i u (by rw [← getElem!_pos l j hj]; exact hu)
theorem index_nil (A : Option Addr) (c : Nat) (x : IdentD) (w : World) :
    Calls Try.prog 80 #[.slice A 0 c, .agg #[.int .i64 x.ag, .int .i64 x.sh, .int .i64 x.seq]] w fun e w' => e = .returned (.int .i64 (-1)) ∧ Below w.heap.size w w' := by
  go_enter Try.func80, Try.ntmps80
  go_wp2_with fail
  go_slots
  go_loopw [8] (fun i wr => i = .int .i64 0 ∧ Hid (Below w.heap.size w wr)) (fun i _ => 0)
  case atStart => exact ⟨rfl, (Below.refl _ _).alloc (Nat.le_refl _) _⟩
  case round =>
    obtain ⟨rfl, Hb⟩ := hrel
    go_wp2
    go_ret
    exact ⟨rfl, Hb.out⟩
theorem indexf_nil (A : Option Addr) (c g : Nat) (lb : Array Value) (w : World) :
    Calls Try.prog 79 #[.slice A 0 c, .func (.func g) #[] lb] w fun e w' => e = .returned (.int .i64 (-1)) ∧ Below w.heap.size w w' := by
  go_enter Try.func79, Try.ntmps79
  go_wp2_with fail
  go_slots
  go_loopw [8] (fun i wr => i = .int .i64 0 ∧ Hid (Below w.heap.size w wr)) (fun i _ => 0)
  case atStart => exact ⟨rfl, Below.refl _ _⟩
  case round =>
    obtain ⟨rfl, Hb⟩ := hrel
    go_wp2
    go_ret
    exact ⟨rfl, Hb.out⟩
set_option maxRecDepth 100000 in
theorem contains_any (v : Value) (l : List IdentD) (x : IdentD) (w : World) (h : Ids w [] v l) (hl : l.length ≤ 4611686018427387904) :
    Calls Try.prog 61 #[v, .agg #[.int .i64 x.ag, .int .i64 x.sh, .int .i64 x.seq]] w fun e w' => e = .returned (.bool (decide (x ∈ l))) ∧ Below w.heap.size w w' := by
  by_cases h0 : 0 < l.length
  · obtain ⟨g, off, c, rfl, hg, hc⟩ := ids_cells h h0
    have := AnyQ.slices_Contains Try.containsIdent 3 Try.isAgg58 Try.sizeOf58 iEnc (fun _ => rfl) eqI eq_at g off l.length c l x w (Nat.le_refl _) (by omega) hc
    rw [List.take_length, show (l.any fun y => eqI x y) = decide (x ∈ l) by rw [Bool.eq_iff_iff]; simp [eqI_iff]] at this
    exact this
  · obtain rfl : l = [] := List.length_eq_zero_iff.1 (by omega)
    obtain ⟨A, c, rfl, _⟩ := h.len
    clear h hl h0
    go_enter Try.func61, Try.ntmps61
    go_wp2_with fail
    refine (index_nil A c x _).mono ?_
    rintro e w' ⟨rfl, hb⟩
    have Hb := Lib.hid (below_then ((Below.refl _ _).alloc (Nat.le_refl _) _) hb)
    clear hb
    go_wp2
    go_ret
    exact ⟨ret_bool (by simp), Hb.out⟩
theorem pred_any (v : Value) (l : List IdentD) (B : Nat) (w : World) (h : Ids w [] v l) (hl : l.length ≤ 4611686018427387904) (hB : B < w.heap.size) (hcell : w.cell? ⟨B, 0, none⟩ = some v) :
    PredBelow Try.prog 60 #[.pointer (some ⟨B, 0, none⟩)] (fun x => .agg (iEnc x).toArray) (fun x => decide (x ∉ l)) w := fun W x hb => by
  have hc : W.cell? ⟨B, 0, none⟩ = some v := (hb.cell (p := ⟨B, 0, none⟩) hB).trans hcell
  have hBW : B < W.heap.size := Nat.lt_of_lt_of_le hB hb.size
  have hne : B ≠ W.heap.size := by omega
  have hW : Ids W [] v l := h.keep (Keeps.of_below (M := []) hb) (by simp)
  obtain ⟨A, c, rfl, _⟩ := h.len
  have hcon := contains_any _ l x (W.alloc (.cells #[.int .i64 x.ag, .int .i64 x.sh, .int .i64 x.seq] 58)) (hW.keep (M' := []) ((Keeps.refl _ _).alloc _) (by simp)) hl
  have Hcon := Lib.hid hcon; have Hb := Lib.hid hb
  obtain ⟨x1, x2, x3⟩ := x
  simp only [] at Hcon
  clear hcon hW h hb hcell
  have hr : Hid (decide (⟨x1, x2, x3⟩ ∉ l) = !decide (⟨x1, x2, x3⟩ ∈ l)) := by show _ = _; simp
  show Calls Try.prog 60 #[.agg #[.int .i64 x1, .int .i64 x2, .int .i64 x3], .pointer (some ⟨B, 0, none⟩)] W fun e w' => e = .returned (.bool (decide (⟨x1, x2, x3⟩ ∉ l))) ∧ Below w.heap.size w w'
  rw [hr.out]
  generalize decide (⟨x1, x2, x3⟩ ∈ l) = r at *
  go_enter Try.func60, Try.ntmps60
  go_wp2_with fail
  refine Hcon.out.mono ?_
  rintro e w' ⟨rfl, hb2⟩
  have Hb2 := Lib.hid (Hb.out.trans ((((Below.refl _ _).alloc (Nat.le_refl _) _).trans (hb2.mono (by simp))).mono Hb.out.size))
  clear hb2
  go_wp2
  go_ret
  exact ⟨rfl, Hb2.out⟩
theorem within_any (va vb : Value) (la lb : List IdentD) (w : World) (ha : Ids w [] va la) (hb : Ids w [] vb lb) (hla : la.length ≤ 4611686018427387904) (hlb : lb.length ≤ 4611686018427387904) :
    Calls Try.prog 35 #[va, vb] w fun e w' => e = .returned (.bool (decide (∀ x ∈ la, x ∈ lb))) ∧ Below w.heap.size w w' := by
  obtain ⟨Ab, cb, rfl, _⟩ := hb.len
  have hk : Keeps [] w (w.alloc (.cells #[.slice Ab lb.length cb] 54)) := (Keeps.refl _ _).alloc _
  have hlt : w.heap.size < (w.alloc (.cells #[.slice Ab lb.length cb] 54)).heap.size := by simp
  have hp := pred_any _ lb w.heap.size _ (hb.keep hk (by simp)) hlb hlt ((Blk.new w _ _).cell 0)
  have heg : ∀ args w, (callFunc 60 args).run Try.prog w = .ok (.enter 60 args) w := enters_of Try.func60 (by kernel_rfl) rfl
  have hcon : Calls Try.prog 59 #[va, .func (.func 60) #[] #[.pointer (some ⟨w.heap.size, 0, none⟩)]] (w.alloc (.cells #[.slice Ab lb.length cb] 54)) fun e w' => e = .returned (.bool (!decide (∀ x ∈ la, x ∈ lb))) ∧ Below (w.heap.size + 1) (w.alloc (.cells #[.slice Ab lb.length cb] 54)) w' := by
    by_cases h0 : 0 < la.length
    · obtain ⟨g, off, c, rfl, hg, hc⟩ := ids_cells (ha.keep hk (by simp)) h0
      have := AnyQ.slices_ContainsFunc Try.containsFuncIdent 3 Try.isAgg58 Try.sizeOf58 iEnc (fun _ => rfl) (fun x => decide (x ∉ lb)) 60 #[.pointer (some ⟨w.heap.size, 0, none⟩)] heg g off la.length c la _ hp (Nat.le_refl _) (by omega) hg hc
      rw [List.take_length, show (la.any fun x => decide (x ∉ lb)) = !decide (∀ x ∈ la, x ∈ lb) by rw [Bool.eq_iff_iff]; simp] at this
      change Calls Try.prog 59 _ _ _ at this
      simpa using this
    · obtain rfl : la = [] := List.length_eq_zero_iff.1 (by omega)
      obtain ⟨A, c, rfl, _⟩ := ha.len
      have hin := fun W => indexf_nil A c 60 #[.pointer (some ⟨w.heap.size, 0, none⟩)] W
      have Hin := Lib.hid hin
      clear hin hp heg hk
      generalize (w.alloc (.cells #[.slice Ab lb.length cb] 54)) = W at *
      have hWs : w.heap.size + 1 ≤ W.heap.size := hlt
      go_enter Try.func59, Try.ntmps59
      go_wp2_with fail
      refine (Hin.out _).mono ?_
      rintro e w' ⟨rfl, hb2⟩
      have Hb2 := Lib.hid (hb2.mono hWs)
      clear hb2
      go_wp2
      go_ret
      exact ⟨ret_bool (by simp), Hb2.out⟩
  obtain ⟨Aa, ca, rfl, _⟩ := ha.len
  have Hcon := Lib.hid hcon
  generalize decide (∀ x ∈ la, x ∈ lb) = r at *
  clear hcon hp heg hk ha hb
  go_enter Try.func35, Try.ntmps35
  go_wp2_with fail
  refine Hcon.out.mono ?_
  rintro e w' ⟨rfl, hb2⟩
  have Hb2 := Lib.hid (((Below.refl w.heap.size w).alloc (Nat.le_refl _) (.cells #[.slice Ab lb.length cb] 54)).trans (hb2.mono (by omega)))
  clear hb2
  go_wp2
  go_ret
  exact ⟨ret_bool (by simp), Hb2.out⟩
end Go.Proofs.Ytinnifhnabncfaa.Sets
