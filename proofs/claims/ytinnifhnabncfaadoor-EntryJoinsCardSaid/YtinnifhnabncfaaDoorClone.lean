/- Contracts of slices.Clone and slices.Clip at each element type that is used. -/
import Derived.Test.YtinnifhnabncfaaDoorProg
import Derived.Test.YtinnifhnabncfaaDoorMem
import Derived.WalkSpells
namespace Go.Proofs.YtinnifhnabncfaaDoor.Mem
open Go.RowKit
theorem grown_empty {w w1 : World} {t : TypeId} (h : (w.alloc (.cells #[] t)).grownBy w1 (Value.ownBlock (.slice (some ⟨w.heap.size, 0, none⟩) 0 0))) : Below w.heap.size w w1 :=
  (below_new' w _).grown h (by simp) (fun k hk => by simp [Value.ownBlock] at hk; omega)

theorem clipDelta (A : Option Addr) (n c : Nat) (w : World) (hn : n ≤ c) :
    Calls Tryd.prog 39 #[.slice A n c] w fun e w' => e = .returned (.slice A n n) ∧ w = w' := by
  go_enter Tryd.func39, Tryd.ntmps39
  go_wp2
  go_ret
  exact ⟨rfl, rfl⟩

theorem infoLabel : (Tryd.prog.info? 97).map (fun i => (i.zero, i.size, i.bytes)) = some (some (.agg #[.string ByteArray.empty, .string ByteArray.empty]), 2, 32) := by kernel_rfl
theorem cloneLabel (M : List Nat) (v : Value) (n : Nat) (xs : List Value) (w : World) (h : Rd w M 2 v n xs) (h1 : ∀ u ∈ xs, u.oneCell' = true) (hb : n * 32 ≤ 140737488355328) :
    Calls Tryd.prog 82 #[v] w fun e w' => ∃ v', e = .returned v' ∧ w'.ownsRow w.heap.size 97 2 v' n xs ∧ Below w.heap.size w w' := by
  obtain ⟨A, c, rfl, hc, hr⟩ := h.reads
  obtain ⟨i0, hi0, hz0, hz1, hz2⟩ := info_parts infoLabel
  have Hr := Lib.hid hr; have Hb := Lib.hid hb; have Hx := Lib.hid h1; have Hh := Lib.hid h
  have Hi0 := Lib.hid hi0; have Hz0 := Lib.hid hz0; have Hz1 := Lib.hid hz1; have Hz2 := Lib.hid hz2
  clear hr hb h1 h hi0 hz0 hz1 hz2
  have he := fun W => Lib.run_eql_slice_nil (P := Tryd.prog) W 74 _ A n c 0 0 Tryd.underlying74
  rcases A with _ | ad
  · go_enter Tryd.func82, Tryd.ntmps82
    go_wp2
    go_ret
    have hn : n = 0 := by
      rcases Nat.eq_zero_or_pos n with h | h
      · exact h
      · obtain ⟨_, he, _⟩ := Hr.out.2 h; cases he
    subst hn
    have hx : xs = [] := List.eq_nil_of_length_eq_zero (by simpa using Hr.out.1)
    subst hx
    exact ⟨_, rfl, World.ownsRow_nil _ _ _ _, Below.refl _ _⟩
  · go_enter Tryd.func82, Tryd.ntmps82
    go_wp2_with (at_builtin; refine wpList_append_any _ rfl (.tmp 5) (.tmp 6) _ rfl w.heap.size 97 i0 _ 2 32 Tryd.underlying74 Hi0.out Hz0.out Hz1.out Hz2.out rfl (by omega) (.slice (some ⟨w.heap.size, 0, none⟩) 0 0) 0 [] rfl (World.ownsRow_made w #[] 0 (Nat.le_refl _) (by unfold maxLen; omega) rfl) w.heap.size (some ad) n c xs rfl (Hr.out.alloc (Nat.le_refl _) _) Hx.out ?_ ?_ ?_ ?_)
    · have := Hb.out; unfold maxLen; omega
    · have := Hb.out; omega
    · simp
    · intro v' w1 hown hg hat
      have H1 := Lib.hid hown; clear hown
      have H2 := Lib.hid hg; clear hg
      clear hat
      go_wp2
      go_ret
      exact ⟨v', rfl, by simpa using H1.out, grown_empty H2.out⟩

theorem clipLabel (A : Option Addr) (n c : Nat) (w : World) (hn : n ≤ c) :
    Calls Tryd.prog 60 #[.slice A n c] w fun e w' => e = .returned (.slice A n n) ∧ w = w' := by
  go_enter Tryd.func60, Tryd.ntmps60
  go_wp2
  go_ret
  exact ⟨rfl, rfl⟩

theorem infoU8 : (Tryd.prog.info? 5).map (fun i => (i.zero, i.size, i.bytes)) = some (some (.int .u8 0), 1, 1) := by kernel_rfl
theorem cloneU8 (M : List Nat) (v : Value) (n : Nat) (xs : List Value) (w : World) (h : Rd w M 1 v n xs) (h1 : ∀ u ∈ xs, u.oneCell' = true) (hb : n * 1 ≤ 140737488355328) :
    Calls Tryd.prog 51 #[v] w fun e w' => ∃ v', e = .returned v' ∧ w'.ownsRow w.heap.size 5 1 v' n xs ∧ Below w.heap.size w w' := by
  obtain ⟨A, c, rfl, hc, hr⟩ := h.reads
  obtain ⟨i0, hi0, hz0, hz1, hz2⟩ := info_parts infoU8
  have Hr := Lib.hid hr; have Hb := Lib.hid hb; have Hx := Lib.hid h1; have Hh := Lib.hid h
  have Hi0 := Lib.hid hi0; have Hz0 := Lib.hid hz0; have Hz1 := Lib.hid hz1; have Hz2 := Lib.hid hz2
  clear hr hb h1 h hi0 hz0 hz1 hz2
  have he := fun W => Lib.run_eql_slice_nil (P := Tryd.prog) W 32 _ A n c 0 0 Tryd.underlying32
  rcases A with _ | ad
  · go_enter Tryd.func51, Tryd.ntmps51
    go_wp2
    go_ret
    have hn : n = 0 := by
      rcases Nat.eq_zero_or_pos n with h | h
      · exact h
      · obtain ⟨_, he, _⟩ := Hr.out.2 h; cases he
    subst hn
    have hx : xs = [] := List.eq_nil_of_length_eq_zero (by simpa using Hr.out.1)
    subst hx
    exact ⟨_, rfl, World.ownsRow_nil _ _ _ _, Below.refl _ _⟩
  · go_enter Tryd.func51, Tryd.ntmps51
    go_wp2_with (at_builtin; refine wpList_append_any _ rfl (.tmp 5) (.tmp 6) _ rfl w.heap.size 5 i0 _ 1 1 Tryd.underlying32 Hi0.out Hz0.out Hz1.out Hz2.out rfl (by omega) (.slice (some ⟨w.heap.size, 0, none⟩) 0 0) 0 [] rfl (World.ownsRow_made w #[] 0 (Nat.le_refl _) (by unfold maxLen; omega) rfl) w.heap.size (some ad) n c xs rfl (Hr.out.alloc (Nat.le_refl _) _) Hx.out ?_ ?_ ?_ ?_)
    · have := Hb.out; unfold maxLen; omega
    · have := Hb.out; omega
    · simp
    · intro v' w1 hown hg hat
      have H1 := Lib.hid hown; clear hown
      have H2 := Lib.hid hg; clear hg
      clear hat
      go_wp2
      go_ret
      exact ⟨v', rfl, by simpa using H1.out, grown_empty H2.out⟩

theorem clipU8 (A : Option Addr) (n c : Nat) (w : World) (hn : n ≤ c) :
    Calls Tryd.prog 52 #[.slice A n c] w fun e w' => e = .returned (.slice A n n) ∧ w = w' := by
  go_enter Tryd.func52, Tryd.ntmps52
  go_wp2
  go_ret
  exact ⟨rfl, rfl⟩
end Go.Proofs.YtinnifhnabncfaaDoor.Mem
