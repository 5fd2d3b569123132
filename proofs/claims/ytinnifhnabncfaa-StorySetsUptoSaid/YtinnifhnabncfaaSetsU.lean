/- story.Add at what was read; Acked, Refused, Reads. -/
import Derived.Test.YtinnifhnabncfaaSetsT
namespace Go.Proofs.Ytinnifhnabncfaa.Sets
open Go.RowKit Base Mem Go.Shelf Go.Lib
theorem own_sl {w : World} {base n size : Nat} {e : TypeId} {v : Value} {xs : List Value} (h : w.ownsRow base e size v n xs) : ∃ A c, v = .slice A n c := by
  obtain ⟨_, h⟩ := h
  rcases h with ⟨rfl, rfl⟩ | ⟨g, cap, cur, rfl, _⟩
  · exact ⟨_, _, rfl⟩
  · exact ⟨_, _, rfl⟩
set_option maxRecDepth 100000 in
set_option maxHeartbeats 1000000 in
theorem add_value (base p : Nat) (rb : Option Nat) (ac re : List IdentD) (rd : List Int) (a b n : Int) (s : ByteArray) (nd : Int) (x : IdentD) (nn bag : Int) (w : World) (h : StAt w base p rb ac re rd) (hbase : base ≤ w.heap.size) (hl : rd.length ≤ 1048576) :
    Calls Try.prog 63 #[.pointer (some ⟨p, 0, none⟩), actV 2 a b n s, evV 0 nd 8 x nn bag] w fun e w' => AddPost base p rb ac re (rd ++ [nn]) w e w' := by
  have hlt := h.lt
  have hbp := h.1
  obtain ⟨i0, hi0, hz0, hz1, hz2⟩ := info_parts infoU64
  have Hi0 := Lib.hid hi0; have Hz0 := Lib.hid hz0; have Hz1 := Lib.hid hz1; have Hz2 := Lib.hid hz2
  obtain ⟨h0, va, vr, vn, hB, hI, ho, hn, hrb⟩ := id h
  obtain ⟨w2, hw2⟩ : ∃ w2, w2 = (w.alloc (.cells #[.int .i64 2, .int .i64 a, .int .i64 b, .int .i64 n, .string s] 92)).alloc (.cells #[.int .i64 0, .int .i64 nd, .int .i64 8, .int .i64 x.ag, .int .i64 x.sh, .int .i64 x.seq, .int .u64 nn, .int .i64 bag] 95) := ⟨_, rfl⟩
  have k2 : Keeps [] w w2 := by rw [hw2]; exact ((Keeps.refl _ _).alloc _).alloc _
  have hs2 : w2.heap.size = w.heap.size + 2 := by rw [hw2]; simp
  have hev : Blk w2 (w.heap.size + 1) 95 #[.int .i64 0, .int .i64 nd, .int .i64 8, .int .i64 x.ag, .int .i64 x.sh, .int .i64 x.seq, .int .u64 nn, .int .i64 bag] := by
    rw [hw2]
    have := Blk.new (w.alloc (.cells #[.int .i64 2, .int .i64 a, .int .i64 b, .int .i64 n, .string s] 92)) 95 #[.int .i64 0, .int .i64 nd, .int .i64 8, .int .i64 x.ag, .int .i64 x.sh, .int .i64 x.seq, .int .u64 nn, .int .i64 bag]
    simpa using this
  have hB2 := Lib.hid (k2.blk hB (by simp))
  have Hst := Lib.hid (h.keep k2)
  have Hk2 := Lib.hid k2
  have Hown3 := Lib.hid (show (w2.alloc (.cells #[.int .u64 nn] 22)).drew.ownsRow base 22 1 vn rd.length (rd.map (Value.int .u64)) from own_apart ho ((k2.alloc _).drew) (by simp))
  have hrd := reads_new w2 22 1 1 [.int .u64 nn] rfl
  rw [hs2] at hrd
  have Hrd3 := Lib.hid (show Reads (w2.alloc (.cells #[.int .u64 nn] 22)).drew (w.heap.size + 3) 1 (some ⟨w.heap.size + 2, 0, none⟩) 1 [.int .u64 nn] from hrd.drew)
  have ka : Keeps [] w2 (w2.alloc (.cells #[.int .u64 nn] 22)).drew := ((Keeps.refl [] w2).alloc _).drew
  have hBa := Lib.hid (ka.blk hB2.out (by simp))
  have hP : Hid (∀ v3 w3, w3.ownsRow base 22 1 v3 (rd.length + 1) (rd.map (Value.int .u64) ++ [.int .u64 nn]) → (w2.alloc (.cells #[.int .u64 nn] 22)).drew.grownBy w3 vn.ownBlock → (v3.ownBlock = vn.ownBlock ∨ v3.ownBlock = some (w2.alloc (.cells #[.int .u64 nn] 22)).drew.heap.size) →
      (∃ A c, v3 = .slice A (rd.length + 1) c) ∧ w3.cell? ⟨p, 2, none⟩ = some vn ∧ w3.frozen? ⟨p, 2, none⟩ = false ∧ AddPost base p rb ac re (rd ++ [nn]) w (.returned (.tuple #[])) (w3.setCell ⟨p, 2, none⟩ v3)) := by
    intro v3 w3 hown hg hat
    have k3 : Keeps vn.ownBlock.toList (w2.alloc (.cells #[.int .u64 nn] 22)).drew w3 := (Keeps.refl _ _).grown hg (fun g hg => .inl (by simpa using hg))
    have hp3 := k3.blk hBa.out (fun hm => (hn p (by simpa using hm)).1 rfl)
    refine ⟨own_sl hown, hp3.cell 2, hp3.frozen 2, rfl, ⟨v3.ownBlock, (Hst.out.keep ka).set2 (Nat.le_trans hbase (k2.trans ka (by simp) : Keeps [] w _).size) hBa.out hown hg hat, ?_⟩, ?_⟩
    · rcases hat with h | h
      · exact .inl (h.trans hrb)
      · exact .inr ⟨_, (k2.trans ka (by simp) : Keeps [] w _).size, h⟩
    · subst hrb
      have hkk : Keeps vn.ownBlock.toList w w3 := ((k2.trans ka (by simp)).mono (M' := vn.ownBlock.toList) (by simp)).trans k3 (fun g hg => .inl hg)
      exact (hkk.mono (M' := p :: vn.ownBlock.toList) (fun g hg => .inl (List.mem_cons_of_mem _ hg))).setCell (by simp) _
  have c0 : w2.cell? ⟨p, 2, none⟩ = some vn := hB2.out.cell 2
  have e6 : w2.cell? ⟨w.heap.size + 1, 6, none⟩ = some (.int .u64 nn) := hev.cell 6
  have c0a : (w2.alloc (.cells #[.int .u64 nn] 22)).cell? ⟨p, 2, none⟩ = some vn := (((Keeps.refl [] w2).alloc _).blk hB2.out (by simp)).cell 2
  clear h hB hI ho hn hrb hev k2 ka hrd hi0 hz0 hz1 hz2
  obtain ⟨x1, x2, x3⟩ := x
  simp only [actV, evV] at *
  have Hw2 := Lib.hid hw2
  clear hw2
  go_enter Try.func63, Try.ntmps63
  go_wp2_with fail
  rw [← Hw2.out]
  go_region_law (refine step_append_any _ rfl (.tmp 49) (.tmp 52) 97 rfl base 22 i0 _ 1 8 Try.underlying97 Hi0.out Hz0.out Hz1.out Hz2.out rfl (by omega) vn rd.length (rd.map (Value.int .u64)) (by simp [Act.eval, Act.put]) Hown3.out (w.heap.size + 3) (some ⟨w.heap.size + 2, 0, none⟩) 1 1 [.int .u64 nn] (by simp [Act.eval, Act.put]) Hrd3.out (by intro u hu; simp at hu; subst hu; rfl) (by unfold maxLen; omega) (by omega) (by show base ≤ (w2.alloc _).heap.size; simp; omega) ?_; intro v3 w3 hown hg hat; obtain ⟨⟨A3, n3, rfl⟩, c3, f3, hp⟩ := hP.out v3 w3 hown hg hat; have Hp := Lib.hid hp; clear hp hown hg hat)
  all_goals
    go_wp2
    go_end0
    exact Hp.out
theorem acked_any (base p : Nat) (rb : Option Nat) (ac re : List IdentD) (rd : List Int) (w : World) (h : StAt w base p rb ac re rd) (hl : ac.length ≤ 1048576) :
    Calls Try.prog 64 #[.pointer (some ⟨p, 0, none⟩)] w fun e w' => ∃ v', e = .returned v' ∧ w'.ownsRow w.heap.size 58 3 v' ac.length (ac.flatMap iEnc) ∧ Below w.heap.size w w' := by
  obtain ⟨h0, va, vr, vn, hB, hI, ho, hn, hrb⟩ := id h
  have c0 : w.cell? ⟨p, 0, none⟩ = some va := hB.cell 0
  have hc := Lib.hid (cloneIdent [] va ac.length (ac.flatMap iEnc) w (hI [] (by simp)).1 (iCells_one ac) (by omega))
  clear h h0 hB hI ho hn hrb
  go_enter Try.func64, Try.ntmps64
  go_wp2_with fail
  refine hc.out.mono ?_
  rintro e w' ⟨v', rfl, hown, hb⟩
  have Ho := Lib.hid hown; have Hb := Lib.hid hb
  clear hown hb
  go_wp2
  go_ret
  exact ⟨v', rfl, Ho.out, Hb.out⟩
theorem refused_any (base p : Nat) (rb : Option Nat) (ac re : List IdentD) (rd : List Int) (w : World) (h : StAt w base p rb ac re rd) (hl : re.length ≤ 1048576) :
    Calls Try.prog 66 #[.pointer (some ⟨p, 0, none⟩)] w fun e w' => ∃ v', e = .returned v' ∧ w'.ownsRow w.heap.size 58 3 v' re.length (re.flatMap iEnc) ∧ Below w.heap.size w w' := by
  obtain ⟨h0, va, vr, vn, hB, hI, ho, hn, hrb⟩ := id h
  have c0 : w.cell? ⟨p, 1, none⟩ = some vr := hB.cell 1
  have hc := Lib.hid (cloneIdent [] vr re.length (re.flatMap iEnc) w (hI [] (by simp)).2 (iCells_one re) (by omega))
  clear h h0 hB hI ho hn hrb
  go_enter Try.func66, Try.ntmps66
  go_wp2_with fail
  refine hc.out.mono ?_
  rintro e w' ⟨v', rfl, hown, hb⟩
  have Ho := Lib.hid hown; have Hb := Lib.hid hb
  clear hown hb
  go_wp2
  go_ret
  exact ⟨v', rfl, Ho.out, Hb.out⟩
theorem u64_one (l : List Int) : ∀ u ∈ l.map (Value.int .u64), u.oneCell' = true := by
  intro u hu
  obtain ⟨x, _, rfl⟩ := List.mem_map.1 hu
  rfl
theorem own_rd {w : World} {base n size : Nat} {e : TypeId} {v : Value} {xs : List Value} (h : w.ownsRow base e size v n xs) : Rd w [] size v n xs := Rd.of_own h (by simp)
theorem reads_any (base p : Nat) (rb : Option Nat) (ac re : List IdentD) (rd : List Int) (w : World) (h : StAt w base p rb ac re rd) (hl : rd.length ≤ 1048576) :
    Calls Try.prog 65 #[.pointer (some ⟨p, 0, none⟩)] w fun e w' => ∃ v', e = .returned v' ∧ w'.ownsRow w.heap.size 22 1 v' rd.length (rd.map (Value.int .u64)) ∧ Below w.heap.size w w' := by
  obtain ⟨h0, va, vr, vn, hB, hI, ho, hn, hrb⟩ := id h
  have c0 : w.cell? ⟨p, 2, none⟩ = some vn := hB.cell 2
  have hc := Lib.hid (cloneU64 [] vn rd.length (rd.map (Value.int .u64)) w (own_rd ho) (u64_one rd) (by omega))
  clear h h0 hB hI ho hn hrb
  go_enter Try.func65, Try.ntmps65
  go_wp2_with fail
  refine hc.out.mono ?_
  rintro e w' ⟨v', rfl, hown, hb⟩
  have Ho := Lib.hid hown; have Hb := Lib.hid hb
  clear hown hb
  go_wp2
  go_ret
  exact ⟨v', rfl, Ho.out, Hb.out⟩
end Go.Proofs.Ytinnifhnabncfaa.Sets
