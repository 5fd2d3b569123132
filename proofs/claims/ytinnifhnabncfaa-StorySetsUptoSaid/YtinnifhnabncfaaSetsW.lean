/- The walk of hopperlaw22.StorySets. -/
import Derived.Test.YtinnifhnabncfaaSetsK
import Derived.Deep.DeepCutAuto
namespace Go.Proofs.Ytinnifhnabncfaa.Sets
open Go.RowKit Base Mem Go.Shelf Go.Lib
theorem Ids.take {w : World} {M : List Nat} {A : Option Addr} {c : Nat} {l : List IdentD} (h : Ids w M (.slice A l.length c) l) (k : Nat) (hk : k ≤ l.length) : Ids w M (.slice A (l.take k).length c) (l.take k) := by
  obtain ⟨A', c', he, hc, hl, hr⟩ := h
  injection he with h1 h2 h3
  subst h1 h3
  refine ⟨A, c, rfl, by rw [List.length_take]; omega, by rw [iCells_len], fun hn => ?_⟩
  obtain ⟨g, off, e, hg, hm, hx⟩ := hr (by rw [List.length_take] at hn; omega)
  refine ⟨g, off, e, hg, hm, fun j u hu => hx j u ?_⟩
  rw [← List.take_append_drop k l, List.flatMap_append, List.getElem?_append_left (List.getElem?_eq_some_iff.1 hu).1]
  exact hu
theorem uni_len (l : List IdentD) : (uni l).length ≤ l.length := by
  have := ded_le (l.mergeSort le)
  rw [List.length_mergeSort] at this
  exact this
/-- What stands ahead of the last line. -/
structure SS (w W : World) (va vb vc vu vl : Value) (la lb lc u ll : List IdentD) : Prop where
  a : Ids W [] va la
  b : Ids W [] vb lb
  c : Ids W [] vc lc
  u : Ids W [] vu u
  l : Ids W [] vl ll
  below : Below w.heap.size w W
theorem SS.keep {w W W' : World} {va vb vc vu vl : Value} {la lb lc u ll : List IdentD} (h : SS w W va vb vc vu vl la lb lc u ll) (k : Keeps [] W W') : SS w W' va vb vc vu vl la lb lc u ll :=
  ⟨h.a.keep k (by simp), h.b.keep k (by simp), h.c.keep k (by simp), h.u.keep k (by simp), h.l.keep k (by simp), below_then h.below k.below⟩
def SetsPost (w : World) (e : Ending) (w' : World) : Prop := e = .returned (.bool true) ∧ Below w.heap.size w w'
set_option maxRecDepth 100000 in
set_option maxHeartbeats 1000000 in
theorem sets_any (va vb vc : Value) (la lb lc : List IdentD) (w : World) (ha : Ids w [] va la) (hb : Ids w [] vb lb) (hc : Ids w [] vc lc) (hla : la.length ≤ 1048576) (hlb : lb.length ≤ 1048576) (hlc : lc.length ≤ 1048576) :
    Calls Try.prog 12 #[va, vb, vc] w fun e w' => SetsPost w e w' := by
  obtain ⟨Aa, ca, rfl, hca⟩ := ha.len
  obtain ⟨Ab, cb, rfl, hcb⟩ := hb.len
  obtain ⟨Ac, cc, rfl, hcc⟩ := hc.len
  have Ha := Lib.hid ha; have Hb := Lib.hid hb; have Hc := Lib.hid hc
  clear ha hb hc
  go_enter Try.func12, Try.ntmps12
  go_upto_if 12 with (fail)
  go_cut [0] (fun s0 wx => Hid (∃ A c, s0 = .slice A (la.take 20).length c ∧ Ids w [] (.slice A (la.take 20).length c) (la.take 20)) ∧ wx = w)
  case first =>
    by_cases h20 : la.length ≤ 20
    · have hd : decide ((20 : Int) < (la.length : Int)) = false := decide_eq_false (by omega)
      have hR : Hid (∃ A c, Value.slice Aa la.length ca = .slice A (la.take 20).length c ∧ Ids w [] (.slice A (la.take 20).length c) (la.take 20)) := by
        show ∃ _ _, _; rw [List.take_of_length_le h20]; exact ⟨Aa, ca, rfl, Ha.out⟩
      go_wp2_with fail
      go_meet
      exact ⟨hR, rfl⟩
    · have hd : (20 : Int) < (la.length : Int) := by omega
      have hR : Hid (∃ A c, Value.slice Aa 20 ca = .slice A (la.take 20).length c ∧ Ids w [] (.slice A (la.take 20).length c) (la.take 20)) :=
        ⟨Aa, ca, by rw [List.length_take, Nat.min_eq_left (by omega)], Ha.out.take 20 (by omega)⟩
      go_wp2_with fail
      go_meet
      exact ⟨hR, rfl⟩
  case rest =>
    obtain ⟨H0, rfl⟩ := hcut
    obtain ⟨Aa', ca', rfl, hIa⟩ := H0.out
    have h20a : (la.take 20).length ≤ 20 := by rw [List.length_take]; omega
    have hca' : (la.take 20).length ≤ ca' := by obtain ⟨_, _, e, h⟩ := hIa.len; injection e with _ _ e; omega
    generalize la.take 20 = la' at *
    have Ha' := Lib.hid hIa
    clear hIa H0 Ha hca hla
    go_upto_if 17 with (fail)
    go_cut [1] (fun s0 wx => Hid (∃ A c, s0 = .slice A (lb.take 20).length c ∧ Ids wc [] (.slice A (lb.take 20).length c) (lb.take 20)) ∧ wx = wc)
    case first =>
      by_cases h20 : lb.length ≤ 20
      · have hd : decide ((20 : Int) < (lb.length : Int)) = false := decide_eq_false (by omega)
        have hR : Hid (∃ A c, Value.slice Ab lb.length cb = .slice A (lb.take 20).length c ∧ Ids wc [] (.slice A (lb.take 20).length c) (lb.take 20)) := by
          show ∃ _ _, _; rw [List.take_of_length_le h20]; exact ⟨Ab, cb, rfl, Hb.out⟩
        go_wp2_with fail
        go_meet
        exact ⟨hR, rfl⟩
      · have hd : (20 : Int) < (lb.length : Int) := by omega
        have hR : Hid (∃ A c, Value.slice Ab 20 cb = .slice A (lb.take 20).length c ∧ Ids wc [] (.slice A (lb.take 20).length c) (lb.take 20)) :=
          ⟨Ab, cb, by rw [List.length_take, Nat.min_eq_left (by omega)], Hb.out.take 20 (by omega)⟩
        go_wp2_with fail
        go_meet
        exact ⟨hR, rfl⟩
    case rest =>
      obtain ⟨H0, rfl⟩ := hcut
      obtain ⟨Ab', cb', rfl, hIb⟩ := H0.out
      have h20b : (lb.take 20).length ≤ 20 := by rw [List.length_take]; omega
      have hcb' : (lb.take 20).length ≤ cb' := by obtain ⟨_, _, e, h⟩ := hIb.len; injection e with _ _ e; omega
      generalize lb.take 20 = lb' at *
      have Hb' := Lib.hid hIb
      clear hIb H0 Hb hcb hlb
      obtain ⟨i0, hi0, hz0, hz1, hz2⟩ := info_parts infoIdent
      have Hi0 := Lib.hid hi0; have Hz0 := Lib.hid hz0; have Hz1 := Lib.hid hz1; have Hz2 := Lib.hid hz2
      clear hi0 hz0 hz1 hz2
      go_wp2_with fail
      refine (union_any _ _ la' lb' _ Ha'.out Hb'.out (by omega) (by omega)).mono ?_
      rintro e w1 ⟨vu, rfl, hIu, hbu⟩
      obtain ⟨Au, cu, rfl, _⟩ := (hIu [] (by simp)).len
      have k1 : Keeps [] w1 (w1.alloc (.cells #[] 58)) := (Keeps.refl _ _).alloc _
      have kw1 : Keeps [] wc w1 := Keeps.of_below hbu
      have Hbu := Lib.hid hbu
      have HIu := Lib.hid (hIu [] (by simp))
      have Ha1 := Lib.hid (Ha'.out.keep kw1 (by simp))
      have Hb1 := Lib.hid (Hb'.out.keep kw1 (by simp))
      have Hc1 := Lib.hid (Hc.out.keep kw1 (by simp))
      have hul := uni_len (la' ++ lb')
      rw [List.length_append] at hul
      have hrc := Lib.hid ((Hc1.out.keep k1 (by simp)).reads)
      obtain ⟨A1, c1, e1, _, hrd1⟩ := hrc.out
      injection e1 with e1 _ e2
      subst e1 e2
      have Hrd1 := Lib.hid hrd1
      clear hIu hbu kw1 k1 hrd1 hrc Ha' Hb' Hc
      go_wp2_with (at_builtin; refine wpList_append_any _ rfl (.tmp 23) (.tmp 24) _ rfl w1.heap.size 58 i0 _ 3 24 Try.underlying54 Hi0.out Hz0.out Hz1.out Hz2.out rfl (by omega) (.slice (some ⟨w1.heap.size, 0, none⟩) 0 0) 0 [] rfl (World.ownsRow_made w1 #[] 0 (Nat.le_refl _) (by unfold maxLen; omega) rfl) _ Ac lc.length cc (lc.flatMap iEnc) rfl Hrd1.out (iCells_one lc) (by unfold maxLen; omega) (by omega) (by simp) ?_)
      intro v2 w2 hown2 hg2 hat2
      have k2 : Keeps [] w1 w2 := ((Keeps.refl [] w1).alloc _).grown hg2 (fun g hg => .inr (by simp [Value.ownBlock] at hg; omega))
      have Hk2 := Lib.hid k2
      have Hown2 : Hid (w2.ownsRow w1.heap.size 58 3 v2 lc.length (lc.flatMap iEnc)) := by show World.ownsRow _ _ _ _ _ _ _; simpa using hown2
      obtain ⟨A1, c1, e1, _, hrd1⟩ := (Ha1.out.keep k2 (by simp)).reads
      injection e1 with e1 _ e2
      subst e1 e2
      have Hrd2 := Lib.hid hrd1
      clear hrd1 hown2 hg2 hat2 k2 Hrd1
      go_wp2_with (at_builtin; refine wpList_append_any _ rfl (.tmp 25) (.tmp 26) _ rfl w1.heap.size 58 i0 _ 3 24 Try.underlying54 Hi0.out Hz0.out Hz1.out Hz2.out rfl (by omega) v2 lc.length (lc.flatMap iEnc) rfl Hown2.out _ Aa' la'.length ca' (la'.flatMap iEnc) rfl Hrd2.out (iCells_one la') (by unfold maxLen; omega) (by omega) Hk2.out.size ?_)
      intro v3 w3 hown3 hg3 hat3
      have k3 : Keeps [] w1 w3 := Hk2.out.grown hg3 (fun g hg => .inr (Hown2.out.lt g hg).1)
      have Hk3 := Lib.hid k3
      have Hown3 : Hid (w3.ownsRow w1.heap.size 58 3 v3 (lc.length + la'.length) ((lc ++ la').flatMap iEnc)) := by show World.ownsRow _ _ _ _ _ _ _; rw [List.flatMap_append]; exact hown3
      obtain ⟨A1, c1, e1, _, hrd1⟩ := (Hb1.out.keep k3 (by simp)).reads
      injection e1 with e1 _ e2
      subst e1 e2
      have Hrd3 := Lib.hid hrd1
      clear hrd1 hown3 hg3 hat3 k3 Hrd2 Hown2 Hk2
      go_wp2_with (at_builtin; refine wpList_append_any _ rfl (.tmp 27) (.tmp 28) _ rfl w1.heap.size 58 i0 _ 3 24 Try.underlying54 Hi0.out Hz0.out Hz1.out Hz2.out rfl (by omega) v3 (lc.length + la'.length) ((lc ++ la').flatMap iEnc) rfl Hown3.out _ Ab' lb'.length cb' (lb'.flatMap iEnc) rfl Hrd3.out (iCells_one lb') (by unfold maxLen; omega) (by omega) Hk3.out.size ?_)
      intro v4 w4 hown4 hg4 hat4
      have k4 : Keeps [] w1 w4 := Hk3.out.grown hg4 (fun g hg => .inr (Hown3.out.lt g hg).1)
      have hl4 : lc.length + la'.length + lb'.length = (lc ++ la' ++ lb').length := by rw [List.length_append, List.length_append]
      have hown5 : w4.ownsRow w1.heap.size 58 3 v4 (lc ++ la' ++ lb').length ((lc ++ la' ++ lb').flatMap iEnc) := by rw [List.flatMap_append, List.flatMap_append, ← hl4, List.append_assoc]; exact hown4
      have hS : SS wc w4 (.slice Aa' la'.length ca') (.slice Ab' lb'.length cb') (.slice Ac lc.length cc) (.slice Au (uni (la' ++ lb')).length cu) v4 la' lb' lc (uni (la' ++ lb')) (lc ++ la' ++ lb') :=
        ⟨Ha1.out.keep k4 (by simp), Hb1.out.keep k4 (by simp), Hc1.out.keep k4 (by simp), HIu.out.keep k4 (by simp), Rd.of_own hown5 (by simp), below_then Hbu.out k4.below⟩
      have HS := Lib.hid hS
      clear hS hown5 k4 hown4 hg4 hat4 Hown3 Hk3 Hrd3 Ha1 Hb1 Hc1 HIu Hbu
      have hl3 : (lc ++ la' ++ lb').length ≤ 1048616 := by rw [List.length_append, List.length_append]; omega
      generalize hll : lc ++ la' ++ lb' = ll at HS hl3
      have Hll := Lib.hid hll
      have HL3 := Lib.hid hl3
      clear hll hl3
      obtain ⟨A5, c5, rfl, _⟩ := HS.out.l.len
      generalize hu : uni (la' ++ lb') = u at *
      have Hu := Lib.hid hu
      clear hu hl4 Hi0 Hz0 Hz1 Hz2
      have hu40 : u.length ≤ 40 := by omega
      have hsort : u.Pairwise fun a b => iLt a b = true := by rw [← Hu.out]; exact uni_sorted _
      have Hsort := Lib.hid hsort
      clear hsort
      go_wp2_with fail
      go_loopw [32] (fun i wr => ∃ x : Nat, i = .int .i64 x ∧ x ≤ u.length ∧ Hid (SS wc wr (.slice Aa' la'.length ca') (.slice Ab' lb'.length cb') (.slice Ac lc.length cc) (.slice Au u.length cu) (.slice A5 ll.length c5) la' lb' lc u ll)) (fun i _ => u.length - (intOf i).toNat)
      case atStart => exact ⟨0, rfl, by omega, HS.out⟩
      case round =>
        obtain ⟨x, rfl, hx, HSr⟩ := hrel
        by_cases hlt : x < u.length
        · have hx1 : (x : Int) < (u.length : Int) := by omega
          by_cases h0 : x = 0
          · subst h0
            go_wp2_with fail
            go_quiet (fail)
            go_wp2
            go_roundw
            case rel => exact ⟨1, by go_num, by omega, HSr.out.keep ((Keeps.refl _ _).drewN _)⟩
            case measure => simp [intOf] <;> omega
          · obtain ⟨y, rfl⟩ : ∃ y, x = y + 1 := ⟨x - 1, by omega⟩
            obtain ⟨g1, o1, _, e1, _, hg1, _, x1⟩ := Rd.at_ iEnc 3 (fun _ => rfl) HSr.out.u (k := y) (by omega)
            obtain ⟨g2, o2, _, e2, _, hg2, _, x2⟩ := Rd.at_ iEnc 3 (fun _ => rfl) HSr.out.u hlt
            obtain rfl : Au = some ⟨g1, o1, none⟩ := by injection e1
            obtain ⟨rfl, rfl⟩ : g1 = g2 ∧ o1 = o2 := by injection e2 with e2 _ _; injection e2 with e2; injection e2 with h1 h2; exact ⟨h1, h2⟩
            clear e1 e2 hg2
            have hle := Lib.hid (List.pairwise_iff_getElem.1 Hsort.out y (y + 1) (by omega) hlt (by omega))
            generalize u[y] = p1 at *
            generalize u[y + 1] = p2 at *
            obtain ⟨a1, a2, a3⟩ := p1
            obtain ⟨b1, b2, b3⟩ := p2
            have c0 := x1 0 _ rfl; have c1 := x1 1 _ rfl; have c2 := x1 2 _ rfl
            have d0 := x2 0 _ rfl; have d1 := x2 1 _ rfl; have d2 := x2 2 _ rfl
            rw [Nat.add_zero] at c0 d0
            simp only [] at c0 c1 c2 d0 d1 d2
            clear x1 x2
            have hy0 : (0 : Int) < ((y + 1 : Nat) : Int) := by omega
            have hys : ((y + 1 : Nat) : Int) - 1 = (y : Int) := by omega
            have hyl : (y : Int) < (u.length : Int) := by omega
            have hyl2 : (y : Int) + 1 < (u.length : Int) := by omega
            have hyn : ((y : Int) + 1).toNat = y + 1 := by omega
            have hyz : (0 : Int) ≤ (y : Int) + 1 := by omega
            have hw1 : IntKind.i64.wrap (y : Int) = (y : Int) := by rw [IntKind.wrap_i64]; omega
            have hw2 : IntKind.i64.wrap ((y : Int) + 1 - 1) = (y : Int) := by rw [IntKind.wrap_i64]; omega
            have hy1 : (y : Int) + 1 - 1 = (y : Int) := by omega
            have hy2 : (0 : Int) ≤ (y : Int) := by omega
            have hy3 : ((y : Int)).toNat = y := by omega
            have hcells : Hid (∀ w2, Below wr.heap.size wr w2 → w2.cell? ⟨g1, o1 + y * 3, none⟩ = some (.int .i64 a1) ∧ w2.cell? ⟨g1, o1 + y * 3 + 1, none⟩ = some (.int .i64 a2) ∧ w2.cell? ⟨g1, o1 + y * 3 + 2, none⟩ = some (.int .i64 a3) ∧ w2.cell? ⟨g1, o1 + (y + 1) * 3, none⟩ = some (.int .i64 b1) ∧ w2.cell? ⟨g1, o1 + (y + 1) * 3 + 1, none⟩ = some (.int .i64 b2) ∧ w2.cell? ⟨g1, o1 + (y + 1) * 3 + 2, none⟩ = some (.int .i64 b3)) := fun w2 hb =>
              ⟨(hb.cell (p := ⟨g1, _, none⟩) hg1).trans c0, (hb.cell (p := ⟨g1, _, none⟩) hg1).trans c1, (hb.cell (p := ⟨g1, _, none⟩) hg1).trans c2, (hb.cell (p := ⟨g1, _, none⟩) hg1).trans d0, (hb.cell (p := ⟨g1, _, none⟩) hg1).trans d1, (hb.cell (p := ⟨g1, _, none⟩) hg1).trans d2⟩
            go_wp2_with fail
            go_region_held3 (fun w' => w'.cell? ⟨g1, o1 + y * 3, none⟩ = some (.int .i64 a1) ∧ w'.cell? ⟨g1, o1 + y * 3 + 1, none⟩ = some (.int .i64 a2) ∧ w'.cell? ⟨g1, o1 + y * 3 + 2, none⟩ = some (.int .i64 a3) ∧ w'.cell? ⟨g1, o1 + (y + 1) * 3, none⟩ = some (.int .i64 b1) ∧ w'.cell? ⟨g1, o1 + (y + 1) * 3 + 1, none⟩ = some (.int .i64 b2) ∧ w'.cell? ⟨g1, o1 + (y + 1) * 3 + 2, none⟩ = some (.int .i64 b3)) (first | exact ⟨q0, q1, q2, r0, r1, r2⟩ | exact ⟨c0, c1, c2, d0, d1, d2⟩) (first
              | (go_at_call 34
                 refine (less_any ⟨a1, a2, a3⟩ ⟨b1, b2, b3⟩ _).mono ?_
                 rintro e w2 ⟨rfl, hb2⟩
                 have Hb2 := Lib.hid (show Below wr.heap.size wr w2 from ⟨hb2.os, hb2.tape, hb2.output, hb2.size, hb2.block⟩)
                 obtain ⟨q0, q1, q2, r0, r1, r2⟩ := hcells.out w2 Hb2.out
                 clear hb2
                 rw [hle.out]))
            all_goals
              go_wp2
              trace_state
              go_roundw
              case rel => exact ⟨y + 1 + 1, by go_num, by omega, HSr.out.keep (Keeps.of_below (M := []) Hb2.out)⟩
              case measure => simp [intOf] <;> omega
        · obtain rfl : x = u.length := by omega
          have m1 : decide (∀ x ∈ la', x ∈ u) = true := decide_eq_true (fun x hx => by rw [← Hu.out, uni_mem]; exact List.mem_append_left _ hx)
          have m2 : decide (∀ x ∈ lb', x ∈ u) = true := decide_eq_true (fun x hx => by rw [← Hu.out, uni_mem]; exact List.mem_append_right _ hx)
          have m3 : decide (∀ x ∈ u, x ∈ ll) = true := decide_eq_true (fun x hx => by
            rw [← Hll.out]
            rw [← Hu.out, uni_mem] at hx
            rcases List.mem_append.1 hx with h | h
            · exact List.mem_append_left _ (List.mem_append_right _ h)
            · exact List.mem_append_right _ h)
          have m4 : uni (u ++ u) = u := by rw [← Hu.out]; exact uni_self _
          have m5 : uni (lb' ++ la') = u := by rw [← Hu.out]; exact uni_comm _ _
          have m6 : decide (∀ x ∈ ([] : List IdentD), x ∈ lc) = true := by simp
          have M1 := Lib.hid m1; have M2 := Lib.hid m2; have M3 := Lib.hid m3; have M4 := Lib.hid m4; have M5 := Lib.hid m5; have M6 := Lib.hid m6
          clear m1 m2 m3 m4 m5 m6
          go_wp2_with fail
          refine (within_any _ _ _ _ _ HSr.out.a HSr.out.u (by omega) (by omega)).mono ?_
          rintro e x1 ⟨rfl, hb⟩
          rw [M1.out]
          have S1 := Lib.hid (HSr.out.keep (Keeps.of_below (M := []) hb))
          clear hb HSr
          go_wp2_with fail
          refine (within_any _ _ _ _ _ S1.out.b S1.out.u (by omega) (by omega)).mono ?_
          rintro e x2 ⟨rfl, hb⟩
          rw [M2.out]
          have S2 := Lib.hid (S1.out.keep (Keeps.of_below (M := []) hb))
          clear hb S1
          go_wp2_with fail
          refine (within_any _ _ _ _ _ S2.out.u S2.out.l (by omega) (by have := HL3.out; omega)).mono ?_
          rintro e x3 ⟨rfl, hb⟩
          rw [M3.out]
          have S3 := Lib.hid (S2.out.keep (Keeps.of_below (M := []) hb))
          clear hb S2
          go_wp2_with fail
          refine (union_any _ _ _ _ _ S3.out.u S3.out.u (by omega) (by omega)).mono ?_
          rintro e x4 ⟨v4', rfl, hI, hb⟩
          have S4 := Lib.hid (S3.out.keep (Keeps.of_below (M := []) hb))
          rw [M4.out] at hI
          have I4 := Lib.hid (hI [] (by simp))
          clear hb S3 hI
          go_wp2_with fail
          refine (idents_eq _ _ u _ I4.out S4.out.u (by omega)).mono ?_
          rintro e x5 ⟨rfl, n5, rfl⟩
          have S5 := Lib.hid (S4.out.keep ((Keeps.refl _ _).drewN n5))
          clear S4 I4
          go_wp2_with fail
          refine (union_any _ _ _ _ _ S5.out.b S5.out.a (by omega) (by omega)).mono ?_
          rintro e x6 ⟨v6', rfl, hI, hb⟩
          have S6 := Lib.hid (S5.out.keep (Keeps.of_below (M := []) hb))
          rw [M5.out] at hI
          have I6 := Lib.hid (hI [] (by simp))
          clear hb S5 hI
          go_wp2_with fail
          refine (idents_eq _ _ u _ I6.out S6.out.u (by omega)).mono ?_
          rintro e x7 ⟨rfl, n7, rfl⟩
          have S7 := Lib.hid (S6.out.keep ((Keeps.refl _ _).drewN n7))
          clear S6 I6
          go_wp2_with fail
          refine (within_any _ _ [] lc _ (nil_ids _) S7.out.c (by simp) (by omega)).mono ?_
          rintro e x8 ⟨rfl, hb⟩
          rw [M6.out]
          have S8 := Lib.hid (S7.out.keep (Keeps.of_below (M := []) hb))
          clear hb S7
          go_wp2_with fail
          refine (known_any _).mono ?_
          rintro e x9 ⟨rfl, hb⟩
          have hp : Hid (SetsPost wc (.returned (.bool true)) x9) := ⟨rfl, (S8.out.keep (Keeps.of_below (M := []) hb)).below⟩
          clear hb S8
          go_wp2
          go_ret
          exact hp.out
end Go.Proofs.Ytinnifhnabncfaa.Sets
