/- story.Add at what was acked, refused, read; Acked, Refused, Reads. -/
import Derived.Test.YtinnifhnabncfaaSetsS
namespace Go.Proofs.Ytinnifhnabncfaa.Sets
open Go.RowKit Base Mem Go.Shelf Go.Lib
set_option maxRecDepth 100000 in
set_option maxHeartbeats 1000000 in
theorem add_acked (base p : Nat) (rb : Option Nat) (ac re : List IdentD) (rd : List Int) (a b n : Int) (s : ByteArray) (nd code : Int) (x : IdentD) (nn bag : Int) (w : World) (h : StAt w base p rb ac re rd) (hc : code = 1 ∨ code = 2) (hl : ac.length ≤ 1048576) :
    Calls Try.prog 63 #[.pointer (some ⟨p, 0, none⟩), actV 2 a b n s, evV 0 nd code x nn bag] w fun e w' => AddPost base p rb (uni (ac ++ [x])) re rd w e w' := by
  have hlt := h.lt
  have hbp := h.1
  obtain ⟨h0, va, vr, vn, hB, hI, ho, hn, hrb⟩ := id h
  obtain ⟨Aa, ca, rfl, hca⟩ := (hI [] (by simp)).1.len
  obtain ⟨w2, hw2⟩ : ∃ w2, w2 = (w.alloc (.cells #[.int .i64 2, .int .i64 a, .int .i64 b, .int .i64 n, .string s] 92)).alloc (.cells #[.int .i64 0, .int .i64 nd, .int .i64 code, .int .i64 x.ag, .int .i64 x.sh, .int .i64 x.seq, .int .u64 nn, .int .i64 bag] 95) := ⟨_, rfl⟩
  have k2 : Keeps [] w w2 := by rw [hw2]; exact ((Keeps.refl _ _).alloc _).alloc _
  have hs2 : w2.heap.size = w.heap.size + 2 := by rw [hw2]; simp
  have hev : Blk w2 (w.heap.size + 1) 95 #[.int .i64 0, .int .i64 nd, .int .i64 code, .int .i64 x.ag, .int .i64 x.sh, .int .i64 x.seq, .int .u64 nn, .int .i64 bag] := by
    rw [hw2]
    have := Blk.new (w.alloc (.cells #[.int .i64 2, .int .i64 a, .int .i64 b, .int .i64 n, .string s] 92)) 95 #[.int .i64 0, .int .i64 nd, .int .i64 code, .int .i64 x.ag, .int .i64 x.sh, .int .i64 x.seq, .int .u64 nn, .int .i64 bag]
    simpa using this
  have hact : Blk w2 w.heap.size 92 #[.int .i64 2, .int .i64 a, .int .i64 b, .int .i64 n, .string s] := by
    rw [hw2]
    exact (Keeps.refl [] (w.alloc (.cells #[.int .i64 2, .int .i64 a, .int .i64 b, .int .i64 n, .string s] 92))).alloc (.cells #[.int .i64 0, .int .i64 nd, .int .i64 code, .int .i64 x.ag, .int .i64 x.sh, .int .i64 x.seq, .int .u64 nn, .int .i64 bag] 95) |>.blk (Blk.new w _ _) (by simp)
  have hU : Calls Try.prog 33 #[.slice Aa ac.length ca, .slice (some ⟨w.heap.size + 2, 0, none⟩) 1 1] (w2.alloc (.cells #[.int .i64 x.ag, .int .i64 x.sh, .int .i64 x.seq] 58)).drew fun e w' => UniPost (ac ++ [x]) (w2.alloc (.cells #[.int .i64 x.ag, .int .i64 x.sh, .int .i64 x.seq] 58)).drew e w' := by
    have kq : Keeps [] w (w2.alloc (.cells #[.int .i64 x.ag, .int .i64 x.sh, .int .i64 x.seq] 58)).drew := (k2.alloc _).drew
    have hb := Blk.new w2 58 #[.int .i64 x.ag, .int .i64 x.sh, .int .i64 x.seq]
    rw [hs2] at hb
    have hx : Ids (w2.alloc (.cells #[.int .i64 x.ag, .int .i64 x.sh, .int .i64 x.seq] 58)).drew [] (.slice (some ⟨w.heap.size + 2, 0, none⟩) 1 1) [x] :=
      ids_of_blk (l := [x]) (rest := []) (w := (w2.alloc (.cells #[.int .i64 x.ag, .int .i64 x.sh, .int .i64 x.seq] 58)).drew) hb (by simp)
    exact union_any _ _ ac [x] _ ((hI [] (by simp)).1.keep kq (by simp)) hx hl (by simp)
  have HU := Lib.hid hU
  have Hst := Lib.hid (h.keep k2)
  have Hk2 := Lib.hid k2
  obtain ⟨c0, f0⟩ : w2.cell? ⟨p, 0, none⟩ = some (.slice Aa ac.length ca) ∧ w2.frozen? ⟨p, 0, none⟩ = false := ⟨(k2.blk hB (by simp)).cell 0, (k2.blk hB (by simp)).frozen 0⟩
  have e0 := hev.cell 0; have e2 := hev.cell 2; have e3 := hev.cell 3; have e4 := hev.cell 4; have e5 := hev.cell 5; have a0 := hact.cell 0
  simp only [List.getElem?_toArray, List.getElem?_cons_succ, List.getElem?_cons_zero] at e0 e2 e3 e4 e5 a0
  have hB2 := Lib.hid (k2.blk hB (by simp))
  have hlt2 : p < w2.heap.size := (k2.blk hB (by simp)).lt
  have hP : Hid (∀ w3, Below (w2.alloc (.cells #[.int .i64 x.ag, .int .i64 x.sh, .int .i64 x.seq] 58)).drew.heap.size (w2.alloc (.cells #[.int .i64 x.ag, .int .i64 x.sh, .int .i64 x.seq] 58)).drew w3 → Below w2.heap.size w2 w3 ∧ w3.cell? ⟨p, 0, none⟩ = some (.slice Aa ac.length ca) ∧ w3.frozen? ⟨p, 0, none⟩ = false ∧ w3.cell? ⟨w.heap.size + 1, 3, none⟩ = some (.int .i64 x.ag) ∧ w3.cell? ⟨w.heap.size + 1, 4, none⟩ = some (.int .i64 x.sh) ∧ w3.cell? ⟨w.heap.size + 1, 5, none⟩ = some (.int .i64 x.seq)) := fun w3 hb => by
    have hb' : Below w2.heap.size w2 w3 := below_then (((Keeps.refl [] w2).alloc _).drew.below) hb
    exact ⟨hb', (hB2.out.below hb' hlt2).cell 0, (hB2.out.below hb' hlt2).frozen 0, (hev.below hb' hev.lt).cell 3, (hev.below hb' hev.lt).cell 4, (hev.below hb' hev.lt).cell 5⟩
  have ka := (Keeps.refl [] w2).alloc (.cells #[.int .i64 x.ag, .int .i64 x.sh, .int .i64 x.seq] 58)
  have c0a : (w2.alloc (.cells #[.int .i64 x.ag, .int .i64 x.sh, .int .i64 x.seq] 58)).cell? ⟨p, 0, none⟩ = some (.slice Aa ac.length ca) := (ka.blk hB2.out (by simp)).cell 0
  have e3a : (w2.alloc (.cells #[.int .i64 x.ag, .int .i64 x.sh, .int .i64 x.seq] 58)).cell? ⟨w.heap.size + 1, 3, none⟩ = some (.int .i64 x.ag) := (ka.blk hev (by simp)).cell 3
  have e4a : (w2.alloc (.cells #[.int .i64 x.ag, .int .i64 x.sh, .int .i64 x.seq] 58)).cell? ⟨w.heap.size + 1, 4, none⟩ = some (.int .i64 x.sh) := (ka.blk hev (by simp)).cell 4
  have e5a : (w2.alloc (.cells #[.int .i64 x.ag, .int .i64 x.sh, .int .i64 x.seq] 58)).cell? ⟨w.heap.size + 1, 5, none⟩ = some (.int .i64 x.seq) := (ka.blk hev (by simp)).cell 5
  clear h hB hI ho hn hrb hU hev hact k2 ka
  obtain ⟨x1, x2, x3⟩ := x
  simp only [actV, evV] at *
  have Hw2 := Lib.hid hw2
  clear hw2
  rcases hc with rfl | rfl
  · go_enter Try.func63, Try.ntmps63
    go_wp2_with fail
    rw [← Hw2.out]
    go_region_with (go_at_call 33; refine HU.out.mono ?_; rintro e w3 ⟨v3, rfl, hI3, hb3⟩; obtain ⟨A3, n3, rfl, _⟩ := (hI3 [] (by simp)).len; have HI3 := Lib.hid hI3; obtain ⟨hb4, c3, f3, g3, g4, g5⟩ := hP.out w3 hb3; have Hb4 := Lib.hid hb4; clear hI3 hb3 hb4)
    all_goals
      have hp : Hid (AddPost base p rb (uni (ac ++ [⟨x1, x2, x3⟩])) re rd w (.returned (.tuple #[])) (w3.setCell ⟨p, 0, none⟩ (.slice A3 (uni (ac ++ [⟨x1, x2, x3⟩])).length n3))) :=
        ⟨rfl, ⟨rb, Hst.out.set0 Hb4.out (fun M hM => HI3.out M (fun g hg => by show g < (w2.alloc _).heap.size; have := hM g hg; simp; omega)), .inl rfl⟩, ((Hk2.out.trans (Keeps.of_below (M := []) Hb4.out) (by simp)).mono (M' := p :: rb.toList) (by simp)).setCell (by simp) _⟩
      go_wp2
      go_end0
      exact hp.out
  · go_enter Try.func63, Try.ntmps63
    go_wp2_with fail
    rw [← Hw2.out]
    go_region_with (go_at_call 33; refine HU.out.mono ?_; rintro e w3 ⟨v3, rfl, hI3, hb3⟩; obtain ⟨A3, n3, rfl, _⟩ := (hI3 [] (by simp)).len; have HI3 := Lib.hid hI3; obtain ⟨hb4, c3, f3, g3, g4, g5⟩ := hP.out w3 hb3; have Hb4 := Lib.hid hb4; clear hI3 hb3 hb4)
    all_goals
      have hp : Hid (AddPost base p rb (uni (ac ++ [⟨x1, x2, x3⟩])) re rd w (.returned (.tuple #[])) (w3.setCell ⟨p, 0, none⟩ (.slice A3 (uni (ac ++ [⟨x1, x2, x3⟩])).length n3))) :=
        ⟨rfl, ⟨rb, Hst.out.set0 Hb4.out (fun M hM => HI3.out M (fun g hg => by show g < (w2.alloc _).heap.size; have := hM g hg; simp; omega)), .inl rfl⟩, ((Hk2.out.trans (Keeps.of_below (M := []) Hb4.out) (by simp)).mono (M' := p :: rb.toList) (by simp)).setCell (by simp) _⟩
      go_wp2
      go_end0
      exact hp.out
set_option maxRecDepth 100000 in
set_option maxHeartbeats 1000000 in
theorem add_refused (base p : Nat) (rb : Option Nat) (ac re : List IdentD) (rd : List Int) (a b n : Int) (s : ByteArray) (nd : Int) (x : IdentD) (nn bag : Int) (w : World) (h : StAt w base p rb ac re rd) (hl : re.length ≤ 1048576) :
    Calls Try.prog 63 #[.pointer (some ⟨p, 0, none⟩), actV 2 a b n s, evV 0 nd 3 x nn bag] w fun e w' => AddPost base p rb ac (uni (re ++ [x])) rd w e w' := by
  have hlt := h.lt
  have hbp := h.1
  obtain ⟨h0, va, vr, vn, hB, hI, ho, hn, hrb⟩ := id h
  obtain ⟨Aa, ca, rfl, hca⟩ := (hI [] (by simp)).2.len
  obtain ⟨w2, hw2⟩ : ∃ w2, w2 = (w.alloc (.cells #[.int .i64 2, .int .i64 a, .int .i64 b, .int .i64 n, .string s] 92)).alloc (.cells #[.int .i64 0, .int .i64 nd, .int .i64 3, .int .i64 x.ag, .int .i64 x.sh, .int .i64 x.seq, .int .u64 nn, .int .i64 bag] 95) := ⟨_, rfl⟩
  have k2 : Keeps [] w w2 := by rw [hw2]; exact ((Keeps.refl _ _).alloc _).alloc _
  have hs2 : w2.heap.size = w.heap.size + 2 := by rw [hw2]; simp
  have hev : Blk w2 (w.heap.size + 1) 95 #[.int .i64 0, .int .i64 nd, .int .i64 3, .int .i64 x.ag, .int .i64 x.sh, .int .i64 x.seq, .int .u64 nn, .int .i64 bag] := by
    rw [hw2]
    have := Blk.new (w.alloc (.cells #[.int .i64 2, .int .i64 a, .int .i64 b, .int .i64 n, .string s] 92)) 95 #[.int .i64 0, .int .i64 nd, .int .i64 3, .int .i64 x.ag, .int .i64 x.sh, .int .i64 x.seq, .int .u64 nn, .int .i64 bag]
    simpa using this
  have hact : Blk w2 w.heap.size 92 #[.int .i64 2, .int .i64 a, .int .i64 b, .int .i64 n, .string s] := by
    rw [hw2]
    exact (Keeps.refl [] (w.alloc (.cells #[.int .i64 2, .int .i64 a, .int .i64 b, .int .i64 n, .string s] 92))).alloc (.cells #[.int .i64 0, .int .i64 nd, .int .i64 3, .int .i64 x.ag, .int .i64 x.sh, .int .i64 x.seq, .int .u64 nn, .int .i64 bag] 95) |>.blk (Blk.new w _ _) (by simp)
  have hU : Calls Try.prog 33 #[.slice Aa re.length ca, .slice (some ⟨w.heap.size + 2, 0, none⟩) 1 1] (w2.alloc (.cells #[.int .i64 x.ag, .int .i64 x.sh, .int .i64 x.seq] 58)).drew fun e w' => UniPost (re ++ [x]) (w2.alloc (.cells #[.int .i64 x.ag, .int .i64 x.sh, .int .i64 x.seq] 58)).drew e w' := by
    have kq : Keeps [] w (w2.alloc (.cells #[.int .i64 x.ag, .int .i64 x.sh, .int .i64 x.seq] 58)).drew := (k2.alloc _).drew
    have hb := Blk.new w2 58 #[.int .i64 x.ag, .int .i64 x.sh, .int .i64 x.seq]
    rw [hs2] at hb
    have hx : Ids (w2.alloc (.cells #[.int .i64 x.ag, .int .i64 x.sh, .int .i64 x.seq] 58)).drew [] (.slice (some ⟨w.heap.size + 2, 0, none⟩) 1 1) [x] :=
      ids_of_blk (l := [x]) (rest := []) (w := (w2.alloc (.cells #[.int .i64 x.ag, .int .i64 x.sh, .int .i64 x.seq] 58)).drew) hb (by simp)
    exact union_any _ _ re [x] _ ((hI [] (by simp)).2.keep kq (by simp)) hx hl (by simp)
  have HU := Lib.hid hU
  have Hst := Lib.hid (h.keep k2)
  have Hk2 := Lib.hid k2
  obtain ⟨c0, f0⟩ : w2.cell? ⟨p, 1, none⟩ = some (.slice Aa re.length ca) ∧ w2.frozen? ⟨p, 1, none⟩ = false := ⟨(k2.blk hB (by simp)).cell 1, (k2.blk hB (by simp)).frozen 1⟩
  have e0 := hev.cell 0; have e2 := hev.cell 2; have e3 := hev.cell 3; have e4 := hev.cell 4; have e5 := hev.cell 5; have a0 := hact.cell 0
  simp only [List.getElem?_toArray, List.getElem?_cons_succ, List.getElem?_cons_zero] at e0 e2 e3 e4 e5 a0
  have hB2 := Lib.hid (k2.blk hB (by simp))
  have hlt2 : p < w2.heap.size := (k2.blk hB (by simp)).lt
  have hP : Hid (∀ w3, Below (w2.alloc (.cells #[.int .i64 x.ag, .int .i64 x.sh, .int .i64 x.seq] 58)).drew.heap.size (w2.alloc (.cells #[.int .i64 x.ag, .int .i64 x.sh, .int .i64 x.seq] 58)).drew w3 → Below w2.heap.size w2 w3 ∧ w3.cell? ⟨p, 1, none⟩ = some (.slice Aa re.length ca) ∧ w3.frozen? ⟨p, 1, none⟩ = false ∧ w3.cell? ⟨w.heap.size + 1, 3, none⟩ = some (.int .i64 x.ag) ∧ w3.cell? ⟨w.heap.size + 1, 4, none⟩ = some (.int .i64 x.sh) ∧ w3.cell? ⟨w.heap.size + 1, 5, none⟩ = some (.int .i64 x.seq)) := fun w3 hb => by
    have hb' : Below w2.heap.size w2 w3 := below_then (((Keeps.refl [] w2).alloc _).drew.below) hb
    exact ⟨hb', (hB2.out.below hb' hlt2).cell 1, (hB2.out.below hb' hlt2).frozen 1, (hev.below hb' hev.lt).cell 3, (hev.below hb' hev.lt).cell 4, (hev.below hb' hev.lt).cell 5⟩
  have ka := (Keeps.refl [] w2).alloc (.cells #[.int .i64 x.ag, .int .i64 x.sh, .int .i64 x.seq] 58)
  have c0a : (w2.alloc (.cells #[.int .i64 x.ag, .int .i64 x.sh, .int .i64 x.seq] 58)).cell? ⟨p, 1, none⟩ = some (.slice Aa re.length ca) := (ka.blk hB2.out (by simp)).cell 1
  have e3a : (w2.alloc (.cells #[.int .i64 x.ag, .int .i64 x.sh, .int .i64 x.seq] 58)).cell? ⟨w.heap.size + 1, 3, none⟩ = some (.int .i64 x.ag) := (ka.blk hev (by simp)).cell 3
  have e4a : (w2.alloc (.cells #[.int .i64 x.ag, .int .i64 x.sh, .int .i64 x.seq] 58)).cell? ⟨w.heap.size + 1, 4, none⟩ = some (.int .i64 x.sh) := (ka.blk hev (by simp)).cell 4
  have e5a : (w2.alloc (.cells #[.int .i64 x.ag, .int .i64 x.sh, .int .i64 x.seq] 58)).cell? ⟨w.heap.size + 1, 5, none⟩ = some (.int .i64 x.seq) := (ka.blk hev (by simp)).cell 5
  clear h hB hI ho hn hrb hU hev hact k2 ka
  obtain ⟨x1, x2, x3⟩ := x
  simp only [actV, evV] at *
  have Hw2 := Lib.hid hw2
  clear hw2
  go_enter Try.func63, Try.ntmps63
  go_wp2_with fail
  rw [← Hw2.out]
  go_region_with (go_at_call 33; refine HU.out.mono ?_; rintro e w3 ⟨v3, rfl, hI3, hb3⟩; obtain ⟨A3, n3, rfl, _⟩ := (hI3 [] (by simp)).len; have HI3 := Lib.hid hI3; obtain ⟨hb4, c3, f3, g3, g4, g5⟩ := hP.out w3 hb3; have Hb4 := Lib.hid hb4; clear hI3 hb3 hb4)
  all_goals
    have hp : Hid (AddPost base p rb ac (uni (re ++ [⟨x1, x2, x3⟩])) rd w (.returned (.tuple #[])) (w3.setCell ⟨p, 1, none⟩ (.slice A3 (uni (re ++ [⟨x1, x2, x3⟩])).length n3))) :=
      ⟨rfl, ⟨rb, Hst.out.set1 Hb4.out (fun M hM => HI3.out M (fun g hg => by show g < (w2.alloc _).heap.size; have := hM g hg; simp; omega)), .inl rfl⟩, ((Hk2.out.trans (Keeps.of_below (M := []) Hb4.out) (by simp)).mono (M' := p :: rb.toList) (by simp)).setCell (by simp) _⟩
    go_wp2
    go_end0
    exact hp.out
end Go.Proofs.Ytinnifhnabncfaa.Sets
