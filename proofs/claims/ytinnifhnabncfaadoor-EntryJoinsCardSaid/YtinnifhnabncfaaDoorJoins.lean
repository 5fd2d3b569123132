/- The walk of hopperlaw4.EntryJoins. -/
import Derived.Test.YtinnifhnabncfaaDoorJoinP
import Derived.Test.YtinnifhnabncfaaDoorBack
import Derived.Test.YtinnifhnabncfaaDoorKinds
namespace Go.Proofs.YtinnifhnabncfaaDoor.Vi
open Go.RowKit Base Mem Tape Go.Shelf
theorem bdrewN {B : Nat} {a w : World} (h : Below B a w) (n : Nat) : Below B a (w.drewN n) := ⟨h.os, h.tape, h.output, h.size, h.block⟩
/-- What stands behind the first loop. -/
def Mk (n x : Nat) (acc : List DeltaD) : Prop := acc.length = n ∧ (∀ d ∈ acc, NOk d) ∧ ∀ j (h : j < acc.length), j < x → acc[j].n ≤ 65535
theorem mk_step {n x : Nat} {acc : List DeltaD} (h : Mk n x acc) (hx : x < acc.length) : Mk n (x + 1) (acc.set x ⟨acc[x].ser, (acc[x].n.toNat % 65536 : Nat)⟩) := by
  obtain ⟨h1, h2, h3⟩ := h
  refine ⟨by rw [List.length_set]; exact h1, fun d hd => ?_, fun j hj hjx => ?_⟩
  · rcases List.mem_or_eq_of_mem_set hd with hd | rfl
    · exact h2 d hd
    · unfold NOk; simp only []; omega
  · rw [List.getElem_set]
    split
    · simp only []; omega
    · exact h3 j (by rwa [List.length_set] at hj) (by omega)
theorem any_take_succ (m : List DeltaD) (y : Nat) (hy : y < m.length) (s : ByteArray) : (m.take (y + 1)).any (fun z => z.ser.toList == s.toList) = ((m.take y).any (fun z => z.ser.toList == s.toList) || (m[y].ser.toList == s.toList)) := by
  rw [List.take_succ_eq_append_getElem hy, List.any_append]
  simp
set_option maxRecDepth 100000 in
set_option maxHeartbeats 2000000 in
theorem joins_walk (A : Option Addr) (c : Nat) (l : List Int) (mx : Int) (w : World) (ha : Nums w A c l) (hm : w.cell? ⟨0, 0, none⟩ = some (.int .i64 mx)) :
    Calls Tryd.prog 4 #[.slice A l.length c] w fun e w' => SamePost true w e w' := by
  have hw0 : 0 < w.heap.size := by
    have := World.block_lt_of_cell? w _ hm
    simpa using this
  have hkeepm : Hid (∀ W, Below w.heap.size w W → W.cell? ⟨0, 0, none⟩ = some (.int .i64 mx)) := fun W hb => (hb.cell (p := ⟨0, 0, none⟩) hw0).trans hm
  have hT0 := Lib.hid (tape_new ha (Below.refl _ w))
  obtain ⟨b, hb⟩ : ∃ b, b = w.heap.size := ⟨_, rfl⟩
  have Hb := Lib.hid hb
  have hb1 := Lib.hid (below_new' w (.cells #[.slice A l.length c, .int .i64 0] 30))
  have hs1 : Hid (w.heap.size < (w.alloc (.cells #[.slice A l.length c, .int .i64 0] 30)).heap.size) := by show _ < _; simp
  clear ha hm hb
  go_enter Tryd.func4, Tryd.ntmps4
  go_wp2_with fail
  refine (deltas_any _ _ 0 12 _ hT0.out (by omega) (by omega)).mono ?_
  rintro e w2 ⟨dv, ds, k2, rfl, hdok, hd1, hd12, hown, _, hk2⟩
  obtain ⟨gd, cd, hdv, hgd, hgd2⟩ := hown.form (by omega)
  subst hdv
  have Hb2 := Lib.hid ((Keeps.of_below (M := []) hb1.out).trans hk2 (by intro g hg; simp at hg; right; omega)).below
  have hgw : w.heap.size ≤ gd := by have := hs1.out; omega
  generalize (w.alloc (.cells #[.slice A l.length c, .int .i64 0] 30)).heap.size = base at *
  obtain ⟨n, hn⟩ : ∃ n, n = ds.length := ⟨_, rfl⟩
  have hok0 : Hid (Mk n 0 ds) := ⟨hn.symm, fun d hd => by have := (hdok d hd).2; exact ⟨by omega, by omega⟩, fun j _ h => absurd h (by omega)⟩
  rw [← hn] at hown hd1 hd12 ⊢
  have hn12 : n ≤ 12 := by omega
  have Hown := Lib.hid hown
  clear hown hk2 hdok hb1 hT0 hs1 hn hd12
  go_wp2_with fail
  go_loopw [23] (fun i wr => ∃ (x : Nat) (acc : List DeltaD), i = .int .i64 x ∧ x ≤ n ∧ Hid (Mk n x acc) ∧ Hid (wr.ownsRow base 44 2 (.slice (some ⟨gd, 0, none⟩) n cd) n (dCells acc)) ∧ Hid (Below w.heap.size w wr)) (fun i _ => n - (intOf i).toNat)
  case atStart => exact ⟨0, ds, rfl, by omega, hok0, Hown.out, Hb2.out⟩
  case round =>
    obtain ⟨x, acc, rfl, hx, Hmk, Hown1, Hbr⟩ := hrel
    have hal := Hmk.out.1
    clear Hown hok0 Hb2
    by_cases hlt : x < n
    · have hxi : (x : Int) < (n : Int) := by omega
      have hx0 : (0 : Int) ≤ (x : Int) := by omega
      have hxa : x < acc.length := by omega
      obtain ⟨hq0, hq1⟩ := Hmk.out.2.1 acc[x] (List.getElem_mem _)
      obtain ⟨g', off', _, e1, _, _, _, hcell⟩ := Rd.at_ dCell 2 (fun _ => rfl) (show Ds wr [] (.slice (some ⟨gd, 0, none⟩) acc.length cd) acc from Rd.of_own (by rw [hal]; exact Hown1.out) (by simp)) hxa
      injection e1 with e1 _ e9
      injection e1 with e1
      injection e1 with e1 e2 _
      subst e1 e2
      have c1 : wr.cell? ⟨gd, x * 2 + 1, none⟩ = some (.int .u64 acc[x].n) := by have := hcell 1 _ rfl; rwa [Nat.zero_add] at this
      have hfz : wr.frozen? ⟨gd, x * 2 + 1, none⟩ = false := by
        rcases Hown1.out.2 with ⟨h, _⟩ | ⟨g', cap', cur, hv, _, hg, _⟩
        · cases h
        · injection hv with h1 _ _
          injection h1 with h1
          injection h1 with h1 _ _
          subst h1
          exact Base.Blk.frozen hg _
      have hown2 := own_set Hown1.out (x * 2 + 1) (.int .u64 (acc[x].n.toNat % 65536 : Nat)) (by omega)
      rw [dCells_set acc x hxa] at hown2
      have Hown2 := Lib.hid hown2
      have Hmk2 := Lib.hid (mk_step Hmk.out hxa)
      have Hb2 := Lib.hid (Hbr.out.setCell (p := ⟨gd, x * 2 + 1, none⟩) hgw (.int .u64 (acc[x].n.toNat % 65536 : Nat)))
      have hmask : bits .and .u64 acc[x].n 65535 = ((acc[x].n.toNat % 65536 : Nat) : Int) := by
        rw [u64_mask' acc[x].n 65535 16 (by omega) (by decide) hq0 hq1]; omega
      generalize acc.set x ⟨acc[x].ser, (acc[x].n.toNat % 65536 : Nat)⟩ = acc2 at *
      generalize acc[x].n.toNat % 65536 = nn at *
      generalize acc[x].n = na at *
      clear e9 hcell hown2 hal hxa hq0 hq1 Hown1 Hmk
      go_wp2
      go_roundw
      case rel => exact ⟨x + 1, acc2, by go_num, by omega, Hmk2, Hown2, Hb2⟩
      case measure => simp [intOf] <;> omega
    · obtain rfl : x = n := by omega
      have hall : Hid (∀ d ∈ acc, 0 ≤ d.n ∧ d.n ≤ 65535) := fun d hd => by
        obtain ⟨j, hj, rfl⟩ := List.getElem_of_mem hd
        exact ⟨(Hmk.out.2.1 _ (List.getElem_mem hj)).1, Hmk.out.2.2 j hj (by omega)⟩
      have hNok := Lib.hid Hmk.out.2.1
      rw [← hal] at Hown1 ⊢
      have hD1 : Ds wr [] (.slice (some ⟨gd, 0, none⟩) acc.length cd) acc := Rd.of_own Hown1.out (by simp)
      have HJ := Lib.hid (join_inv acc hall.out (by omega))
      have hml : (joinD acc).length ≤ acc.length := by
        have := take_fold_len acc []
        simpa [joinD] using this
      have hj := Lib.hid (deltas_join _ acc wr hD1 hNok.out (by omega))
      have hgm : Hid (∀ y ∈ joinD acc, NOk y) := fun y hy => by
        have h1 := HJ.out.sums y hy
        have h2 := sumS_le acc y.ser (fun d hd => (hall.out d hd).2)
        exact ⟨by omega, by omega⟩
      have HD1 := Lib.hid hD1
      unfold JoinPost at hj
      have Hag := Lib.hid (join_again (joinD acc) HJ.out.dist)
      generalize joinD acc = m at *
      clear hD1 Hown1 Hmk hlt hx
      have hal12 : acc.length ≤ 12 := by omega
      clear hn12 hal hd1
      go_wp2_with fail
      refine hj.out.mono ?_
      rintro e w3 ⟨Am, rfl, hDm, hb3⟩
      have HL := Lib.hid (HD1.out.keep (Keeps.of_below (M := []) hb3) (by simp)); have HM := Lib.hid (hDm [] (by simp)); have Hb3 := Lib.hid (below_then Hbr.out hb3)
      clear hb3 hDm hj HD1 Hbr
      go_wp2_with fail
      go_loopw [41] (fun i wr => ∃ (x : Nat), i = .int .i64 x ∧ x ≤ m.length ∧ Hid (Below w3.heap.size w3 wr)) (fun i _ => m.length - (intOf i).toNat)
      case atStart => exact ⟨0, rfl, by omega, Below.refl _ _⟩
      case round =>
        obtain ⟨x, rfl, hx, Hbr⟩ := hrel
        by_cases hlt : x < m.length
        · have hxi : (x : Int) < (m.length : Int) := by omega
          have hx0 : (0 : Int) ≤ (x : Int) := by omega
          obtain ⟨gm, om, _, e1, _, hgm3, _, hmc⟩ := Rd.at_ dCell 2 (fun _ => rfl) HM.out hlt
          injection e1 with e1 _ e9
          subst e1
          clear e9
          have m0 : w3.cell? ⟨gm, om + x * 2, none⟩ = some (.string m[x].ser) := by have := hmc 0 _ rfl; rwa [Nat.add_zero] at this
          have m1 : w3.cell? ⟨gm, om + x * 2 + 1, none⟩ = some (.int .u64 m[x].n) := hmc 1 _ rfl
          have hsum := Lib.hid (HJ.out.sums m[x] (List.getElem_mem _))
          have Hm0 : Hid (∀ W, Below w3.heap.size w3 W → W.cell? ⟨gm, om + x * 2, none⟩ = some (.string m[x].ser)) := fun W hb => (hb.cell (p := ⟨gm, om + x * 2, none⟩) hgm3).trans m0
          have Hm1 : Hid (∀ W, Below w3.heap.size w3 W → W.cell? ⟨gm, om + x * 2 + 1, none⟩ = some (.int .u64 m[x].n)) := fun W hb => (hb.cell (p := ⟨gm, om + x * 2 + 1, none⟩) hgm3).trans m1
          have Hdist : Hid (∀ (y : Nat) (hy : y < m.length), y ≠ x → (m[y].ser.toList == m[x].ser.toList) = false) := fun y hy hyx => ser_ne (dist_ne HJ.out.dist hy hlt hyx)
          have Hyc : Hid (∀ W (y : Nat) (hy : y < m.length), Below w3.heap.size w3 W → W.cell? ⟨gm, om + y * 2, none⟩ = some (.string m[y].ser)) := fun W y hy hb => by
            obtain ⟨gm', om', _, e1, _, hgm3', _, hmc'⟩ := Rd.at_ dCell 2 (fun _ => rfl) HM.out hy
            injection e1 with e1 _ _
            injection e1 with e1
            injection e1 with e1 e2 _
            subst e1 e2
            exact (hb.cell (p := ⟨gm, om + y * 2, none⟩) hgm3).trans (by have := hmc' 0 _ rfl; rwa [Nat.add_zero] at this)
          have Hsle : Hid (∀ y, y ≤ acc.length → sumS (acc.take y) m[x].ser ≤ 786420) := fun y hy => by
            have := sumS_le (acc.take y) m[x].ser (fun d hd => (hall.out d (List.mem_of_mem_take hd)).2)
            rw [List.length_take] at this
            omega
          clear m0 m1 hmc hgm3
          generalize hms : m[x].ser = ms at *
          generalize m[x].n = mn at *
          go_wp2_with fail
          go_loopw [8, 46] (fun s j wr2 => ∃ (y : Nat), j = .int .i64 y ∧ y ≤ acc.length ∧ s = .int .u64 (sumS (acc.take y) ms : Nat) ∧ Hid (Below w3.heap.size w3 wr2)) (fun _ j _ => acc.length - (intOf j).toNat)
          case atStart => exact ⟨0, rfl, by omega, rfl, Hbr.out⟩
          case round =>
            obtain ⟨y, rfl, hy, rfl, Hb2⟩ := hrel
            by_cases hly : y < acc.length
            · have hyi : (y : Int) < (acc.length : Int) := by omega
              obtain ⟨gl, ol, _, e1, _, hgl3, _, hlc⟩ := Rd.at_ dCell 2 (fun _ => rfl) HL.out hly
              injection e1 with e1 _ e9
              injection e1 with e1
              injection e1 with e1 e2 _
              subst e1 e2
              have l0 : wr.cell? ⟨gd, y * 2, none⟩ = some (.string acc[y].ser) := (Hb2.out.cell (p := ⟨gd, y * 2, none⟩) hgl3).trans (by have := hlc 0 _ rfl; simpa using this)
              have l1 : wr.cell? ⟨gd, y * 2 + 1, none⟩ = some (.int .u64 acc[y].n) := (Hb2.out.cell (p := ⟨gd, y * 2 + 1, none⟩) hgl3).trans (by have := hlc 1 _ rfl; simpa using this)
              obtain ⟨ha0, ha1⟩ := hall.out acc[y] (List.getElem_mem _)
              have Hst : Hid (sumS (acc.take (y + 1)) ms = sumS (acc.take y) ms + if (acc[y].ser.toList == ms.toList) = true then acc[y].n.toNat else 0) := by
                show _ = _
                rw [List.take_succ_eq_append_getElem hly, sumS_snoc]
              have hS := Hsle.out y hy
              clear e9 hlc
              generalize acc[y].ser = sa at *
              generalize acc[y].n = an at *
              obtain ⟨an, rfl⟩ := Int.eq_ofNat_of_zero_le ha0
              rw [Int.toNat_natCast] at Hst
              have hbA : Below w3.heap.size w3 (wr.alloc (.cells #[.string sa, .int .u64 an] 44)) := Hb2.out.alloc (by have := Hb2.out.size; omega) _
              have k0 := Hm0.out _ hbA
              have hBl := Blk.new wr 44 #[.string sa, .int .u64 an]
              have b0 := hBl.cell 0; have b1 := hBl.cell 1
              simp only [List.getElem?_toArray, List.getElem?_cons_succ, List.getElem?_cons_zero] at b0 b1
              have HbA := Lib.hid hbA
              clear hBl hbA
              generalize sumS (acc.take y) ms = S at *
              have hwr : IntKind.u64.wrap ((S : Int) + (an : Int)) = ((S + an : Nat) : Int) := by rw [IntKind.wrap_u64]; omega
              cases hq : (sa.toList == ms.toList) with
              | true =>
                have Hst2 : Hid (sumS (acc.take (y + 1)) ms = S + an) := by show _ = _; rw [Hst.out, hq]; rfl
                clear Hst
                go_wp2
                go_quiet (fail)
                go_wp2
                go_roundw
                case rel => exact ⟨y + 1, by go_num, by omega, by rw [Hst2.out, Int.natCast_add], bdrewN HbA.out _⟩
                case measure => simp [intOf] <;> omega
              | false =>
                have Hst2 : Hid (sumS (acc.take (y + 1)) ms = S) := by show _ = _; rw [Hst.out, hq]; simp
                clear Hst
                go_wp2
                go_quiet (fail)
                go_wp2
                go_roundw
                case rel => exact ⟨y + 1, by go_num, by omega, by rw [Hst2.out], bdrewN HbA.out _⟩
                case measure => simp [intOf] <;> omega
            · obtain rfl : y = acc.length := by omega
              rw [List.take_length]
              have hfin : mn = (sumS acc ms : Nat) := hsum.out
              subst hfin
              go_wp2_with fail
              go_loopw [11] (fun k wr3 => ∃ (z : Nat), k = .int .i64 z ∧ z ≤ x ∧ Hid (Below w3.heap.size w3 wr3)) (fun k _ => x - (intOf k).toNat)
              case atStart => exact ⟨0, rfl, by omega, Hb2.out⟩
              case round =>
                obtain ⟨z, rfl, hz, Hb4⟩ := hrel
                by_cases hlz : z < x
                · have hzi : (z : Int) < (x : Int) := by omega
                  have hz0 : (0 : Int) ≤ (z : Int) := by omega
                  have hzm : (z : Int) < (m.length : Int) := by omega
                  have k0 := Hm0.out _ Hb4.out
                  have z0 := Hyc.out _ z (by omega) Hb4.out
                  have hd0 := Hdist.out z (by omega) (by omega)
                  generalize m[z].ser = zs at *
                  go_wp2
                  go_quiet (fail)
                  go_wp2
                  go_roundw
                  case rel => exact ⟨z + 1, by go_num, by omega, bdrewN Hb4.out _⟩
                  case measure => simp [intOf] <;> omega
                · obtain rfl : z = x := by omega
                  have k1 := Hm1.out _ Hb4.out
                  generalize sumS acc ms = S at *
                  have hnn : ((S : Int) != (S : Int)) = false := by simp
                  go_wp2
                  go_roundw
                  case rel => exact ⟨z + 1, by go_num, by omega, Hb4⟩
                  case measure => simp [intOf] <;> omega
        · obtain rfl : x = m.length := by omega
          go_wp2_with fail
          go_loopw [89] (fun i wr => ∃ (x : Nat), i = .int .i64 x ∧ x ≤ acc.length ∧ Hid (Below w3.heap.size w3 wr)) (fun i _ => acc.length - (intOf i).toNat)
          case atStart => exact ⟨0, rfl, by omega, Hbr.out⟩
          case round =>
            obtain ⟨y, rfl, hy, Hb2⟩ := hrel
            by_cases hly : y < acc.length
            · have hyi : (y : Int) < (acc.length : Int) := by omega
              obtain ⟨gl, ol, _, e1, _, hgl3, _, hlc⟩ := Rd.at_ dCell 2 (fun _ => rfl) HL.out hly
              injection e1 with e1 _ e9
              injection e1 with e1
              injection e1 with e1 e2 _
              subst e1 e2
              have l0 : wr.cell? ⟨gd, y * 2, none⟩ = some (.string acc[y].ser) := (Hb2.out.cell (p := ⟨gd, y * 2, none⟩) hgl3).trans (by have := hlc 0 _ rfl; simpa using this)
              have l1 : wr.cell? ⟨gd, y * 2 + 1, none⟩ = some (.int .u64 acc[y].n) := (Hb2.out.cell (p := ⟨gd, y * 2 + 1, none⟩) hgl3).trans (by have := hlc 1 _ rfl; simpa using this)
              have Hin : Hid (m.any (fun z => z.ser.toList == acc[y].ser.toList) = true) := by
                obtain ⟨z, hz, e⟩ := HJ.out.all acc[y] (List.getElem_mem _)
                show _ = _
                rw [List.any_eq_true]
                exact ⟨z, hz, by rw [e]; simp⟩
              have Hyc : Hid (∀ W (z : Nat) (hz : z < m.length), Below w3.heap.size w3 W → W.cell? ⟨(Am.map (·.block)).getD 0, (Am.map (·.off)).getD 0 + z * 2, none⟩ = some (.string m[z].ser) ∧ Am = some ⟨(Am.map (·.block)).getD 0, (Am.map (·.off)).getD 0, none⟩) := fun W z hz hb => by
                obtain ⟨gm', om', _, e1, _, hgm3', _, hmc'⟩ := Rd.at_ dCell 2 (fun _ => rfl) HM.out hz
                injection e1 with e1 _ _
                subst e1
                exact ⟨(hb.cell (p := ⟨gm', om' + z * 2, none⟩) hgm3').trans (by have := hmc' 0 _ rfl; rwa [Nat.add_zero] at this), rfl⟩
              clear e9 hlc
              generalize acc[y].ser = sa at *
              generalize acc[y].n = an at *
              have hbA : Below w3.heap.size w3 (wr.alloc (.cells #[.string sa, .int .u64 an] 44)) := Hb2.out.alloc (by have := Hb2.out.size; omega) _
              have hBl := Blk.new wr 44 #[.string sa, .int .u64 an]
              have b0 := hBl.cell 0
              simp only [List.getElem?_toArray, List.getElem?_cons_zero] at b0
              have HbA := Lib.hid hbA; have Hb0 := Lib.hid b0
              clear hBl hbA b0
              go_wp2_with fail
              generalize wr.heap.size = gb at *
              go_loopw [14, 95] (fun inn j wr3 => ∃ (z : Nat), j = .int .i64 z ∧ z ≤ m.length ∧ inn = .bool ((m.take z).any (fun q => q.ser.toList == sa.toList)) ∧ Hid (Below w3.heap.size w3 wr3) ∧ Hid (wr3.cell? ⟨gb, 0, none⟩ = some (.string sa))) (fun _ j _ => m.length - (intOf j).toNat)
              case atStart => exact ⟨0, rfl, by omega, rfl, HbA.out, Hb0.out⟩
              case round =>
                obtain ⟨z, rfl, hz, rfl, Hb4, Hc4⟩ := hrel
                by_cases hlz : z < m.length
                · have hzi : (z : Int) < (m.length : Int) := by omega
                  have hz0 : (0 : Int) ≤ (z : Int) := by omega
                  obtain ⟨z0, hAm⟩ := Hyc.out _ z hlz Hb4.out
                  have Hts := Lib.hid (any_take_succ m z hlz sa)
                  generalize (Am.map (·.block)).getD 0 = gm at *
                  generalize (Am.map (·.off)).getD 0 = om at *
                  subst hAm
                  have c4 := Hc4.out
                  generalize m[z].ser = zs at *
                  cases hin : (m.take z).any (fun q => q.ser.toList == sa.toList) with
                  | true =>
                    have Hts2 : Hid ((m.take (z + 1)).any (fun q => q.ser.toList == sa.toList) = true) := by show _ = _; rw [Hts.out, hin]; rfl
                    clear Hts hin
                    go_wp2
                    go_quiet (fail)
                    go_wp2
                    go_roundw
                    case rel => exact ⟨z + 1, by go_num, by omega, by rw [Hts2.out], bdrewN Hb4.out _, Hc4.out⟩
                    case measure => simp [intOf] <;> omega
                  | false =>
                    have Hts2 : Hid ((m.take (z + 1)).any (fun q => q.ser.toList == sa.toList) = (zs.toList == sa.toList)) := by show _ = _; rw [Hts.out, hin]; simp
                    clear Hts hin
                    go_wp2
                    go_quiet (fail)
                    go_wp2
                    go_roundw
                    case rel => exact ⟨z + 1, by go_num, by omega, by rw [Hts2.out], bdrewN Hb4.out _, Hc4.out⟩
                    case measure => simp [intOf] <;> omega
                · obtain rfl : z = m.length := by omega
                  rw [List.take_length, Hin.out]
                  go_wp2
                  go_roundw
                  case rel => exact ⟨y + 1, by go_num, by omega, Hb4⟩
                  case measure => simp [intOf] <;> omega
            · obtain rfl : y = acc.length := by omega
              have HMr := Lib.hid (HM.out.keep (Keeps.of_below (M := []) Hb2.out) (by simp))
              have hj := deltas_join _ m wr HMr.out hgm.out (by omega)
              unfold JoinPost at hj
              rw [Hag.out] at hj
              have Hj := Lib.hid hj
              have Hbw := Lib.hid (below_then Hb3.out Hb2.out)
              clear hj
              go_wp2_with fail
              refine Hj.out.mono ?_
              rintro e w5 ⟨A5, rfl, hD5, hb5⟩
              have hsm := Lib.hid (rsameDs_eq (.slice A5 m.length m.length) (.slice Am m.length m.length) m w5 (hD5 [] (by simp)) (HMr.out.keep (Keeps.of_below (M := []) hb5) (by simp)) (by omega))
              have Hb5 := Lib.hid (below_then Hbw.out hb5)
              clear hD5 hb5 Hj
              go_wp2_with fail
              refine hsm.out.mono ?_
              rintro e w6 ⟨rfl, q, rfl⟩
              have Hb6 := Lib.hid (bdrewN Hb5.out q)
              clear hsm
              go_wp2_with fail
              refine (known_any mx _ (hkeepm.out _ Hb6.out)).mono ?_
              rintro r wA ⟨rfl, hbA⟩
              have HbA := Lib.hid (below_then Hb6.out hbA)
              clear hbA
              go_wp2
              go_ret
              exact ⟨rfl, HbA.out⟩
end Go.Proofs.YtinnifhnabncfaaDoor.Vi
