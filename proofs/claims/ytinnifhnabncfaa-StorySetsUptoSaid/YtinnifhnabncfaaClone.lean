/- Contracts of slices.Clone and slices.Clip at each element type that is used. -/
import Derived.Test.YtinnifhnabncfaaProg
import Derived.Test.YtinnifhnabncfaaMem
import Derived.WalkSpells
namespace Go.Proofs.Ytinnifhnabncfaa.Mem
open Go.RowKit
theorem grown_empty {w w1 : World} {t : TypeId} (h : (w.alloc (.cells #[] t)).grownBy w1 (Value.ownBlock (.slice (some ⟨w.heap.size, 0, none⟩) 0 0))) : Below w.heap.size w w1 :=
  (below_new' w _).grown h (by simp) (fun k hk => by simp [Value.ownBlock] at hk; omega)

theorem infoDelta : (Try.prog.info? 120).map (fun i => (i.zero, i.size, i.bytes)) = some (some (.agg #[.string ByteArray.empty, .int .u64 0]), 2, 24) := by kernel_rfl
theorem cloneDelta (M : List Nat) (v : Value) (n : Nat) (xs : List Value) (w : World) (h : Rd w M 2 v n xs) (h1 : ∀ u ∈ xs, u.oneCell' = true) (hb : n * 24 ≤ 140737488355328) :
    Calls Try.prog 87 #[v] w fun e w' => ∃ v', e = .returned v' ∧ w'.ownsRow w.heap.size 120 2 v' n xs ∧ Below w.heap.size w w' := by
  obtain ⟨A, c, rfl, hc, hr⟩ := h.reads
  obtain ⟨i0, hi0, hz0, hz1, hz2⟩ := info_parts infoDelta
  have Hr := Lib.hid hr; have Hb := Lib.hid hb; have Hx := Lib.hid h1; have Hh := Lib.hid h
  have Hi0 := Lib.hid hi0; have Hz0 := Lib.hid hz0; have Hz1 := Lib.hid hz1; have Hz2 := Lib.hid hz2
  clear hr hb h1 h hi0 hz0 hz1 hz2
  have he := fun W => Lib.run_eql_slice_nil (P := Try.prog) W 72 _ A n c 0 0 Try.underlying72
  rcases A with _ | ad
  · go_enter Try.func87, Try.ntmps87
    go_wp2
    go_ret
    have hn : n = 0 := by
      rcases Nat.eq_zero_or_pos n with h | h
      · exact h
      · obtain ⟨_, he, _⟩ := Hr.out.2 h; cases he
    subst hn
    have hx : xs = [] := List.eq_nil_of_length_eq_zero (by simpa using Hr.out.1)
    subst hx
    exact ⟨_, rfl, World.ownsRow_nil _ _ _ _, Below.refl _ _⟩
  · go_enter Try.func87, Try.ntmps87
    go_wp2_with (at_builtin; refine wpList_append_any _ rfl (.tmp 5) (.tmp 6) _ rfl w.heap.size 120 i0 _ 2 24 Try.underlying72 Hi0.out Hz0.out Hz1.out Hz2.out rfl (by omega) (.slice (some ⟨w.heap.size, 0, none⟩) 0 0) 0 [] rfl (World.ownsRow_made w #[] 0 (Nat.le_refl _) (by unfold maxLen; omega) rfl) w.heap.size (some ad) n c xs rfl (Hr.out.alloc (Nat.le_refl _) _) Hx.out ?_ ?_ ?_ ?_)
    · have := Hb.out; unfold maxLen; omega
    · have := Hb.out; omega
    · simp
    · intro v' w1 hown hg hat
      have H1 := Lib.hid hown; clear hown
      have H2 := Lib.hid hg; clear hg
      clear hat
      go_wp2
      go_ret
      exact ⟨v', rfl, by simpa using H1.out, grown_empty H2.out⟩

theorem clipDelta (A : Option Addr) (n c : Nat) (w : World) (hn : n ≤ c) :
    Calls Try.prog 86 #[.slice A n c] w fun e w' => e = .returned (.slice A n n) ∧ w = w' := by
  go_enter Try.func86, Try.ntmps86
  go_wp2
  go_ret
  exact ⟨rfl, rfl⟩

theorem infoIdent : (Try.prog.info? 58).map (fun i => (i.zero, i.size, i.bytes)) = some (some (.agg #[.int .i64 0, .int .i64 0, .int .i64 0]), 3, 24) := by kernel_rfl
theorem cloneIdent (M : List Nat) (v : Value) (n : Nat) (xs : List Value) (w : World) (h : Rd w M 3 v n xs) (h1 : ∀ u ∈ xs, u.oneCell' = true) (hb : n * 24 ≤ 140737488355328) :
    Calls Try.prog 81 #[v] w fun e w' => ∃ v', e = .returned v' ∧ w'.ownsRow w.heap.size 58 3 v' n xs ∧ Below w.heap.size w w' := by
  obtain ⟨A, c, rfl, hc, hr⟩ := h.reads
  obtain ⟨i0, hi0, hz0, hz1, hz2⟩ := info_parts infoIdent
  have Hr := Lib.hid hr; have Hb := Lib.hid hb; have Hx := Lib.hid h1; have Hh := Lib.hid h
  have Hi0 := Lib.hid hi0; have Hz0 := Lib.hid hz0; have Hz1 := Lib.hid hz1; have Hz2 := Lib.hid hz2
  clear hr hb h1 h hi0 hz0 hz1 hz2
  have he := fun W => Lib.run_eql_slice_nil (P := Try.prog) W 54 _ A n c 0 0 Try.underlying54
  rcases A with _ | ad
  · go_enter Try.func81, Try.ntmps81
    go_wp2
    go_ret
    have hn : n = 0 := by
      rcases Nat.eq_zero_or_pos n with h | h
      · exact h
      · obtain ⟨_, he, _⟩ := Hr.out.2 h; cases he
    subst hn
    have hx : xs = [] := List.eq_nil_of_length_eq_zero (by simpa using Hr.out.1)
    subst hx
    exact ⟨_, rfl, World.ownsRow_nil _ _ _ _, Below.refl _ _⟩
  · go_enter Try.func81, Try.ntmps81
    go_wp2_with (at_builtin; refine wpList_append_any _ rfl (.tmp 5) (.tmp 6) _ rfl w.heap.size 58 i0 _ 3 24 Try.underlying54 Hi0.out Hz0.out Hz1.out Hz2.out rfl (by omega) (.slice (some ⟨w.heap.size, 0, none⟩) 0 0) 0 [] rfl (World.ownsRow_made w #[] 0 (Nat.le_refl _) (by unfold maxLen; omega) rfl) w.heap.size (some ad) n c xs rfl (Hr.out.alloc (Nat.le_refl _) _) Hx.out ?_ ?_ ?_ ?_)
    · have := Hb.out; unfold maxLen; omega
    · have := Hb.out; omega
    · simp
    · intro v' w1 hown hg hat
      have H1 := Lib.hid hown; clear hown
      have H2 := Lib.hid hg; clear hg
      clear hat
      go_wp2
      go_ret
      exact ⟨v', rfl, by simpa using H1.out, grown_empty H2.out⟩

theorem clipIdent (A : Option Addr) (n c : Nat) (w : World) (hn : n ≤ c) :
    Calls Try.prog 57 #[.slice A n c] w fun e w' => e = .returned (.slice A n n) ∧ w = w' := by
  go_enter Try.func57, Try.ntmps57
  go_wp2
  go_ret
  exact ⟨rfl, rfl⟩

theorem clipEntry (A : Option Addr) (n c : Nat) (w : World) (hn : n ≤ c) :
    Calls Try.prog 71 #[.slice A n c] w fun e w' => e = .returned (.slice A n n) ∧ w = w' := by
  go_enter Try.func71, Try.ntmps71
  go_wp2
  go_ret
  exact ⟨rfl, rfl⟩

theorem infoInt : (Try.prog.info? 3).map (fun i => (i.zero, i.size, i.bytes)) = some (some (.int .i64 0), 1, 8) := by kernel_rfl
theorem cloneInt (M : List Nat) (v : Value) (n : Nat) (xs : List Value) (w : World) (h : Rd w M 1 v n xs) (h1 : ∀ u ∈ xs, u.oneCell' = true) (hb : n * 8 ≤ 140737488355328) :
    Calls Try.prog 52 #[v] w fun e w' => ∃ v', e = .returned v' ∧ w'.ownsRow w.heap.size 3 1 v' n xs ∧ Below w.heap.size w w' := by
  obtain ⟨A, c, rfl, hc, hr⟩ := h.reads
  obtain ⟨i0, hi0, hz0, hz1, hz2⟩ := info_parts infoInt
  have Hr := Lib.hid hr; have Hb := Lib.hid hb; have Hx := Lib.hid h1; have Hh := Lib.hid h
  have Hi0 := Lib.hid hi0; have Hz0 := Lib.hid hz0; have Hz1 := Lib.hid hz1; have Hz2 := Lib.hid hz2
  clear hr hb h1 h hi0 hz0 hz1 hz2
  have he := fun W => Lib.run_eql_slice_nil (P := Try.prog) W 35 _ A n c 0 0 Try.underlying35
  rcases A with _ | ad
  · go_enter Try.func52, Try.ntmps52
    go_wp2
    go_ret
    have hn : n = 0 := by
      rcases Nat.eq_zero_or_pos n with h | h
      · exact h
      · obtain ⟨_, he, _⟩ := Hr.out.2 h; cases he
    subst hn
    have hx : xs = [] := List.eq_nil_of_length_eq_zero (by simpa using Hr.out.1)
    subst hx
    exact ⟨_, rfl, World.ownsRow_nil _ _ _ _, Below.refl _ _⟩
  · go_enter Try.func52, Try.ntmps52
    go_wp2_with (at_builtin; refine wpList_append_any _ rfl (.tmp 5) (.tmp 6) _ rfl w.heap.size 3 i0 _ 1 8 Try.underlying35 Hi0.out Hz0.out Hz1.out Hz2.out rfl (by omega) (.slice (some ⟨w.heap.size, 0, none⟩) 0 0) 0 [] rfl (World.ownsRow_made w #[] 0 (Nat.le_refl _) (by unfold maxLen; omega) rfl) w.heap.size (some ad) n c xs rfl (Hr.out.alloc (Nat.le_refl _) _) Hx.out ?_ ?_ ?_ ?_)
    · have := Hb.out; unfold maxLen; omega
    · have := Hb.out; omega
    · simp
    · intro v' w1 hown hg hat
      have H1 := Lib.hid hown; clear hown
      have H2 := Lib.hid hg; clear hg
      clear hat
      go_wp2
      go_ret
      exact ⟨v', rfl, by simpa using H1.out, grown_empty H2.out⟩

theorem infoU64 : (Try.prog.info? 22).map (fun i => (i.zero, i.size, i.bytes)) = some (some (.int .u64 0), 1, 8) := by kernel_rfl
theorem cloneU64 (M : List Nat) (v : Value) (n : Nat) (xs : List Value) (w : World) (h : Rd w M 1 v n xs) (h1 : ∀ u ∈ xs, u.oneCell' = true) (hb : n * 8 ≤ 140737488355328) :
    Calls Try.prog 82 #[v] w fun e w' => ∃ v', e = .returned v' ∧ w'.ownsRow w.heap.size 22 1 v' n xs ∧ Below w.heap.size w w' := by
  obtain ⟨A, c, rfl, hc, hr⟩ := h.reads
  obtain ⟨i0, hi0, hz0, hz1, hz2⟩ := info_parts infoU64
  have Hr := Lib.hid hr; have Hb := Lib.hid hb; have Hx := Lib.hid h1; have Hh := Lib.hid h
  have Hi0 := Lib.hid hi0; have Hz0 := Lib.hid hz0; have Hz1 := Lib.hid hz1; have Hz2 := Lib.hid hz2
  clear hr hb h1 h hi0 hz0 hz1 hz2
  have he := fun W => Lib.run_eql_slice_nil (P := Try.prog) W 97 _ A n c 0 0 Try.underlying97
  rcases A with _ | ad
  · go_enter Try.func82, Try.ntmps82
    go_wp2
    go_ret
    have hn : n = 0 := by
      rcases Nat.eq_zero_or_pos n with h | h
      · exact h
      · obtain ⟨_, he, _⟩ := Hr.out.2 h; cases he
    subst hn
    have hx : xs = [] := List.eq_nil_of_length_eq_zero (by simpa using Hr.out.1)
    subst hx
    exact ⟨_, rfl, World.ownsRow_nil _ _ _ _, Below.refl _ _⟩
  · go_enter Try.func82, Try.ntmps82
    go_wp2_with (at_builtin; refine wpList_append_any _ rfl (.tmp 5) (.tmp 6) _ rfl w.heap.size 22 i0 _ 1 8 Try.underlying97 Hi0.out Hz0.out Hz1.out Hz2.out rfl (by omega) (.slice (some ⟨w.heap.size, 0, none⟩) 0 0) 0 [] rfl (World.ownsRow_made w #[] 0 (Nat.le_refl _) (by unfold maxLen; omega) rfl) w.heap.size (some ad) n c xs rfl (Hr.out.alloc (Nat.le_refl _) _) Hx.out ?_ ?_ ?_ ?_)
    · have := Hb.out; unfold maxLen; omega
    · have := Hb.out; omega
    · simp
    · intro v' w1 hown hg hat
      have H1 := Lib.hid hown; clear hown
      have H2 := Lib.hid hg; clear hg
      clear hat
      go_wp2
      go_ret
      exact ⟨v', rfl, by simpa using H1.out, grown_empty H2.out⟩
end Go.Proofs.Ytinnifhnabncfaa.Mem
