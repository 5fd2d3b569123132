/- Rows of idents; the contract of idents at equal rows. -/
import Derived.Test.YtinnifhnabncfaaSets3
namespace Go.Proofs.Ytinnifhnabncfaa.Sets
open Go.RowKit Base Mem
/-- v reads as these idents. -/
def Ids (w : World) (M : List Nat) (v : Value) (l : List IdentD) : Prop := Rd w M 3 v l.length (l.flatMap iEnc)
section
variable {w w' : World} {M M' : List Nat} {v : Value} {l : List IdentD}
theorem Ids.keep (h : Ids w M v l) (k : Keeps M' w w') (hM : ∀ g ∈ M', g ∈ M ∨ w.heap.size ≤ g) : Ids w' M v l := Rd.keep h k hM
theorem Ids.avoid (h : Ids w M v l) (hM : ∀ g ∈ M', g ∈ M ∨ w.heap.size ≤ g) : Ids w M' v l := Rd.avoid h hM
theorem Ids.len (h : Ids w M v l) : ∃ A c, v = .slice A l.length c ∧ l.length ≤ c := by
  obtain ⟨A, c, rfl, hc, _⟩ := h
  exact ⟨A, c, rfl, hc⟩
end
set_option maxRecDepth 100000 in
theorem idents_eq (va vb : Value) (l : List IdentD) (w : World) (ha : Ids w [] va l) (hb : Ids w [] vb l) (hl : l.length ≤ 4611686018427387904) :
    Calls Try.prog 36 #[va, vb] w fun e w' => e = .returned (.bool true) ∧ ∃ n, w' = w.drewN n := by
  have Ha := Lib.hid ha; have Hb := Lib.hid hb
  obtain ⟨Aa, ca, rfl, hca⟩ := ha.len
  obtain ⟨Ab, cb, rfl, hcb⟩ := hb.len
  clear ha hb
  go_enter Try.func36, Try.ntmps36
  go_wp2_with fail
  go_slots
  go_loopw [13] (fun i wr => ∃ (x q : Nat), i = .int .i64 x ∧ x ≤ l.length ∧ wr = w.drewN q) (fun i _ => l.length - (intOf i).toNat)
  case atStart => exact ⟨0, 0, rfl, by omega, rfl⟩
  case round =>
    obtain ⟨x, q, rfl, hx, rfl⟩ := hrel
    by_cases hlt : x < l.length
    · obtain ⟨ga, oa, _, e1, _, hga, _, h1⟩ := Rd.at_ iEnc 3 (fun _ => rfl) Ha.out hlt
      obtain ⟨gb, ob, _, e2, _, hgb, _, h2⟩ := Rd.at_ iEnc 3 (fun _ => rfl) Hb.out hlt
      obtain rfl : Aa = some ⟨ga, oa, none⟩ := by injection e1
      obtain rfl : Ab = some ⟨gb, ob, none⟩ := by injection e2
      clear e1 e2
      generalize l[x] = d at *
      obtain ⟨d1, d2, d3⟩ := d
      have a0 := h1 0 _ rfl; have a1 := h1 1 _ rfl; have a2 := h1 2 _ rfl
      have b0 := h2 0 _ rfl; have b1 := h2 1 _ rfl; have b2 := h2 2 _ rfl
      rw [Nat.add_zero] at a0 b0
      simp only [] at a0 a1 a2 b0 b1 b2
      clear h1 h2
      have hx1 : (x : Int) < (l.length : Int) := by omega
      go_wp2
      go_quiet (fail)
      go_wp2
      go_roundw
      case rel => exact ⟨x + 1, _, by go_num, by omega, rfl⟩
      case measure => simp [intOf] <;> omega
    · obtain rfl : x = l.length := by omega
      go_wp2
      go_ret
      exact ⟨rfl, q, rfl⟩
end Go.Proofs.Ytinnifhnabncfaa.Sets
