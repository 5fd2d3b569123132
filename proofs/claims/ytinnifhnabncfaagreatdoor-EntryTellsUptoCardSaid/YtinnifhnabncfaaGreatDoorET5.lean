/- Texts put together: RefC, RefD, Ent1, Ent2, Ent3, Ent4, Ent5, RefE. -/
import Derived.StillTailTactics
import Derived.Laws.StructEq
import Derived.Shelf.SlicesQ.IndexFunc
import Derived.Deep.DeepCutAuto
import Derived.Test.YtinnifhnabncfaaGreatDoorET3
import Derived.Test.YtinnifhnabncfaaGreatDoorET4
set_option linter.unusedVariables false
set_option linter.unusedSimpArgs false
/- Contract of hopperref3.Text. -/
section
namespace Go.Proofs.YtinnifhnabncfaaGreatDoor.Vi
open Go.RowKit Base Mem
theorem join_snoc (l : List LabD) (y : LabD) : (joinB (l ++ [y])).data.toList = if l = [] then (pairB y).data.toList else (joinB l).data.toList ++ [44] ++ (pairB y).data.toList := by
  unfold joinB
  cases l with
  | nil => simp [Lib.join_cons, Lib.joinTail]
  | cons a r =>
    rw [if_neg (by simp)]
    simp only [List.map_append, List.map_cons, List.map_nil, List.cons_append, Lib.join_cons, Lib.joinTail]
    simp
theorem ba_ext {a b : ByteArray} (h : a.data.toList = b.data.toList) : a = b := by
  obtain ⟨⟨a⟩⟩ := a
  obtain ⟨⟨b⟩⟩ := b
  simpa using h
theorem join_first (y : LabD) (l : List LabD) (h : l = []) : joinB l ++ y.name ++ ⟨#[61]⟩ ++ y.value = joinB (l ++ [y]) := by
  subst h
  apply ba_ext
  rw [join_snoc, if_pos rfl]
  unfold pairB
  simp [ByteArray.data_append, joinB, Lib.join_nil]
theorem join_more (y : LabD) (l : List LabD) (h : l ≠ []) : joinB l ++ ⟨#[44]⟩ ++ y.name ++ ⟨#[61]⟩ ++ y.value = joinB (l ++ [y]) := by
  apply ba_ext
  rw [join_snoc, if_neg h]
  unfold pairB
  simp [ByteArray.data_append]
theorem joinB_size (l : List LabD) (h : ∀ x ∈ l, x.name.size ≤ 32 ∧ x.value.size ≤ 32) : (joinB l).size ≤ 66 * l.length := join_len l h
def RTextPost (l : List LabD) (w : World) (e : Ending) (w' : World) : Prop := e = .returned (.tuple #[.string (rtextS l).1, .int .i64 (rtextS l).2]) ∧ Below w.heap.size w w'
set_option maxRecDepth 100000 in
set_option maxHeartbeats 2000000 in
theorem rtextL_any (v : Value) (l : List LabD) (w : World) (h : Labs w [] v l) (hs : ∀ x ∈ l, x.name.size < 9223372036854775807 ∧ x.value.size < 9223372036854775807) (hl : l.length ≤ 4611686018427387904) :
    Calls Tryz.prog 170 #[v] w fun e w' => RTextPost l w e w' := by
  have hri := Lib.hid (rright_any v l w h hs hl)
  have HT : Hid (rtextS l = if rrightS l = 0 then (joinB (rsortL l), 0) else (⟨#[]⟩, rrightS l)) := rfl
  by_cases hr0 : rrightS l = 0
  · have hR : Hid (rtextS l = (joinB (rsortL l), 0)) := by show _ = _; rw [HT.out, if_pos hr0]
    have hl8 : l.length ≤ 8 ∧ rokRow l = true := by
      unfold rrightS at hr0
      by_cases h8 : 8 < l.length
      · rw [if_pos h8] at hr0; cases hr0
      · rw [if_neg h8] at hr0
        refine ⟨by omega, ?_⟩
        cases hk : rokRow l with
        | true => rfl
        | false => rw [hk] at hr0; simp at hr0
    obtain ⟨hl8, hok⟩ := hl8
    have hperm := (rsortL_facts l).1
    have hsz : Hid (∀ x ∈ rsortL l, x.name.size ≤ 32 ∧ x.value.size ≤ 32) := by
      intro x hx
      unfold rokRow at hok
      rw [Bool.and_eq_true, List.all_eq_true] at hok
      have := hok.1 x (hperm.mem_iff.1 hx)
      unfold nameOk at this
      simp at this
      omega
    have hs8 : (rsortL l).length ≤ 8 := by rw [hperm.length_eq]; exact hl8
    have hll : (rsortL l).length = l.length := hperm.length_eq
    rw [hr0] at hri
    have hso := Lib.hid (fun W (hk : Keeps [] w W) => rsort_any v l W (h.keep hk (by simp)) (by omega))
    obtain ⟨A, c, rfl, hc⟩ := h.len
    clear h HT hr0 hok hperm hs hll
    generalize rsortL l = s at *
    go_enter Tryz.func170, Tryz.ntmps170
    go_wp2_with fail
    refine hri.out.mono ?_
    rintro e w1 ⟨rfl, hb1⟩
    have hso1 := Lib.hid (hso.out w1 (Keeps.of_below hb1))
    have Hb1 := Lib.hid hb1
    clear hb1 hri hso
    go_wp2_with fail
    refine hso1.out.mono ?_
    rintro e w2 ⟨v2, rfl, hown, hb2⟩
    have HA := Lib.hid (show Labs w2 [] v2 s from Rd.of_own hown (by simp)); have Hb2 := Lib.hid (below_then Hb1.out hb2)
    obtain ⟨A1, c1, rfl, hc1⟩ := HA.out.len
    clear hown hb2 hso1 Hb1
    go_wp2_with fail
    go_loopw [5, 16] (fun st i wr => ∃ (x : Nat) (t : ByteArray), st = .string t ∧ i = .int .i64 x ∧ x ≤ s.length ∧ Hid (t = joinB (s.take x)) ∧ Hid (Below w.heap.size w wr)  ∧ Hid (Below w2.heap.size w2 wr)) (fun _ i _ => s.length - (intOf i).toNat)
    case atStart => exact ⟨0, ⟨#[]⟩, rfl, rfl, by omega, rfl, Hb2.out, Below.refl _ _⟩
    case round =>
      obtain ⟨x, t, rfl, rfl, hx, Ht, Hbr, Hbr2⟩ := hrel
      by_cases hlt : x < s.length
      · have hx1 : (x : Int) < (s.length : Int) := by omega
        obtain ⟨g, off, _, e1, hg, c0, c1⟩ := (HA.out.keep (Keeps.of_below (M := []) Hbr2.out) (by simp)).at_ hlt
        obtain rfl : A1 = some ⟨g, off, none⟩ := by injection e1
        clear e1
        have Htk : Hid (s.take (x + 1) = s.take x ++ [s[x]]) := List.take_succ_eq_append_getElem hlt
        have hd32 := hsz.out s[x] (List.getElem_mem _)
        have htz : t.size ≤ 66 * x := by
          have := joinB_size (s.take x) (fun y hy => hsz.out y (List.mem_of_mem_take hy))
          rw [← Ht.out, List.length_take] at this
          omega
        have Hb4 := Lib.hid (Hbr.out.alloc Hbr.out.size (.cells #[.string s[x].name, .string s[x].value] 215))
        have Hb5 := Lib.hid (Hbr2.out.alloc Hbr2.out.size (.cells #[.string s[x].name, .string s[x].value] 215))
        by_cases h0 : x = 0
        · have Hj := Lib.hid (join_first s[x] (s.take x) (by rw [h0]; rfl))
          rw [← Htk.out, ← Ht.out] at Hj
          generalize s[x] = d at *
          have k0 : ¬ (9223372036854775807 < t.size + d.name.size) := by omega
          have k1 : ¬ (9223372036854775807 < t.size + d.name.size + 1) := by omega
          have k2 : ¬ (9223372036854775807 < t.size + d.name.size + 1 + d.value.size) := by omega
          have k1b : ¬ (9223372036854775807 < (t ++ d.name).size + 1) := by rw [ByteArray.size_append]; exact k1
          have k2b : ¬ (9223372036854775807 < (t ++ d.name ++ ⟨#[61]⟩).size + d.value.size) := by rw [ByteArray.size_append, ByteArray.size_append]; exact k2
          have hx0 : decide ((0 : Int) < (x : Int)) = false := decide_eq_false (by omega)
          have hxn : ¬ 0 < x := by omega
          clear h0
          clear Ht Htk hd32 htz
          go_wp2
          go_roundw
          case rel => exact ⟨x + 1, _, rfl, by go_num, by omega, Hj.out, Hb4.out, Hb5.out⟩
          case measure => simp [intOf] <;> omega
        · have Hj := Lib.hid (join_more s[x] (s.take x) (by intro h; have := congrArg List.length h; rw [List.length_take, List.length_nil] at this; omega))
          rw [← Htk.out, ← Ht.out] at Hj
          generalize s[x] = d at *
          have kk : ¬ (9223372036854775807 < t.size + 1) := by omega
          have k0 : ¬ (9223372036854775807 < t.size + 1 + d.name.size) := by omega
          have k1 : ¬ (9223372036854775807 < t.size + 1 + d.name.size + 1) := by omega
          have k2 : ¬ (9223372036854775807 < t.size + 1 + d.name.size + 1 + d.value.size) := by omega
          have k0b : ¬ (9223372036854775807 < (t ++ ⟨#[44]⟩).size + d.name.size) := by rw [ByteArray.size_append]; exact k0
          have k1b : ¬ (9223372036854775807 < (t ++ ⟨#[44]⟩ ++ d.name).size + 1) := by rw [ByteArray.size_append, ByteArray.size_append]; exact k1
          have k2b : ¬ (9223372036854775807 < (t ++ ⟨#[44]⟩ ++ d.name ++ ⟨#[61]⟩).size + d.value.size) := by rw [ByteArray.size_append, ByteArray.size_append, ByteArray.size_append]; exact k2
          have hx0 : (0 : Int) < (x : Int) := by omega
          have hxn : 0 < x := by omega
          clear h0
          clear Ht Htk hd32 htz
          go_wp2
          go_roundw
          case rel => exact ⟨x + 1, _, rfl, by go_num, by omega, Hj.out, Hb4.out, Hb5.out⟩
          case measure => simp [intOf] <;> omega
      · obtain rfl : x = s.length := by omega
        have hT : Hid (RTextPost l w (.returned (.tuple #[.string t, .int .i64 0])) wr) := by
          refine ⟨?_, Hbr.out⟩
          rw [hR.out, Ht.out, List.take_length]
          rfl
        go_wp2
        go_ret2
        exact hT.out
  · have hR : Hid (rtextS l = (⟨#[]⟩, rrightS l)) := by show _ = _; rw [HT.out, if_neg hr0]
    obtain ⟨A, c, rfl, hc⟩ := h.len
    have hri2 : ((rrightS l : Int) != 0) = true := by simpa using hr0
    clear h HT hr0
    have hp : Hid (∀ w1, Below w.heap.size w w1 → RTextPost l w (.returned (.tuple #[.string ⟨#[]⟩, .int .i64 (rrightS l)])) w1) := fun w1 hb => ⟨by rw [hR.out], hb⟩
    generalize rrightS l = r at *
    go_enter Tryz.func170, Tryz.ntmps170
    go_wp2_with fail
    refine hri.out.mono ?_
    rintro e w1 ⟨rfl, hb1⟩
    have Hp := Lib.hid (hp.out _ hb1)
    clear hb1 hp
    go_wp2
    go_ret2
    exact Hp.out
end Go.Proofs.YtinnifhnabncfaaGreatDoor.Vi
end
/- Contract of hopperref3.Parse. -/
section
namespace Go.Proofs.YtinnifhnabncfaaGreatDoor.Vi
open Go.RowKit Base Mem
theorem splitC_part (c : UInt8) : ∀ (l : List UInt8), splitC c l ≠ [] ∧ (splitC c l).length ≤ l.length + 1 ∧ ∀ p ∈ splitC c l, p.length ≤ l.length
  | [] => by simp [splitC]
  | x :: r => by
    obtain ⟨h0, h1, h2⟩ := splitC_part c r
    rw [splitC]
    split
    · refine ⟨by simp, by simp; omega, ?_⟩
      intro p hp
      rcases List.mem_cons.1 hp with rfl | hp
      · simp
      · have := h2 p hp; simp; omega
    · split
      · rename_i he; exact absurd he h0
      · rename_i a t he
        rw [he] at h1 h2
        refine ⟨by simp, by simp at h1 ⊢; omega, ?_⟩
        intro p hp
        rcases List.mem_cons.1 hp with rfl | hp
        · have := h2 a (by simp); simp; omega
        · have := h2 p (by simp [hp]); simp; omega
theorem rlabs_none : ∀ (ps : List (List UInt8)) (x : Nat) (hx : x < ps.length), (splitC 61 ps[x]).length ≠ 2 → rlabs ps = none
  | [], x, hx, _ => by simp at hx
  | p :: ps, 0, _, h => by
    rw [rlabs]
    split
    · rename_i a b hab
      rw [List.getElem_cons_zero, hab] at h
      simp at h
    · rfl
  | p :: ps, x + 1, hx, h => by
    rw [rlabs, rlabs_none ps x (by simpa using hx) (by simpa using h)]
    split <;> rfl
theorem rlabs_snoc : ∀ (ps : List (List UInt8)) (acc : List LabD) (p a b : List UInt8), rlabs ps = some acc → splitC 61 p = [a, b] → rlabs (ps ++ [p]) = some (acc ++ [⟨⟨a.toArray⟩, ⟨b.toArray⟩⟩])
  | [], acc, p, a, b, h, hp => by
    simp [rlabs] at h
    subst h
    rw [List.nil_append, rlabs, hp]
    rfl
  | q :: ps, acc, p, a, b, h, hp => by
    rw [rlabs] at h
    rw [List.cons_append, rlabs]
    split at h
    · rename_i c d hcd
      obtain ⟨acc', h1, rfl⟩ := Option.map_eq_some_iff.1 h
      rw [rlabs_snoc ps acc' p a b h1 hp]
      rfl
    · cases h
theorem infoLabR : (Tryz.prog.info? 215).map (fun i => (i.zero, i.size, i.bytes)) = some (some (.agg #[.string ⟨#[]⟩, .string ⟨#[]⟩]), 2, 32) := by kernel_rfl
theorem strs_at {w : World} {base : Nat} {t : TypeId} {v : Value} {ps : List ByteArray} (h : w.ownsRow base t 1 v ps.length (ps.map sV)) {x : Nat} (hx : x < ps.length) : ∃ g off c, v = .slice (some ⟨g, off, none⟩) ps.length c ∧ g < w.heap.size ∧ ∀ j (hj : j < ps.length), w.cell? ⟨g, off + j, none⟩ = some (.string ps[j]) := by
  obtain ⟨A', c', rfl, hc, hl, hx2⟩ := Rd.of_own (M := []) h (by simp)
  obtain ⟨g, off, rfl, hg, _, hcell⟩ := hx2 (by omega)
  refine ⟨g, off, c', rfl, hg, fun j hj => hcell j _ ?_⟩
  rw [List.getElem?_map, List.getElem?_eq_getElem hj]
  rfl
theorem strs_len {w : World} {base : Nat} {t : TypeId} {v : Value} {ps : List ByteArray} (h : w.ownsRow base t 1 v ps.length (ps.map sV)) : ∃ A c, v = .slice A ps.length c ∧ ps.length ≤ c := by
  obtain ⟨A', c', rfl, hc, _⟩ := Rd.of_own (M := []) h (by simp)
  exact ⟨A', c', rfl, hc⟩
theorem two_of {qs : List ByteArray} (h : qs.length = 2) : ∃ a b, qs = [a, b] := by
  match qs, h with
  | [a, b], _ => exact ⟨a, b, rfl⟩
theorem labEnc_one2 (d : LabD) : ∀ u ∈ labEnc d, u.oneCell' = true := by
  intro u hu
  simp [labEnc] at hu
  rcases hu with rfl | rfl <;> rfl
set_option maxRecDepth 100000 in
set_option maxHeartbeats 2000000 in
theorem rparse_any (s : ByteArray) (w : World) (hs : s.size < 4294967281) :
    Calls Tryz.prog 122 #[.string s] w fun e w' => ParsePost s w e w' := by
  obtain ⟨i0, hi0, hz0, hz1, hz2⟩ := info_parts infoLabR
  have Hi0 := Lib.hid hi0; have Hz0 := Lib.hid hz0; have Hz1 := Lib.hid hz1; have Hz2 := Lib.hid hz2
  clear hi0 hz0 hz1 hz2
  have hsp : Hid (Calls Tryz.prog 169 #[.string s, .int .u8 44] w fun e w' => RSplitP 44 s w e w') := rsplit_any s 44 w hs
  have hsp2 : Hid (∀ p W, p.size < 4294967281 → Calls Tryz.prog 169 #[.string p, .int .u8 61] W fun e w' => RSplitP 61 p W e w') := fun p W h => rsplit_any p 61 W h
  have Hbad : Hid (rlabs (splitC 44 s.data.toList) = none → ∀ v w', Below w.heap.size w w' → ParsePost s w (.returned (.tuple #[v, .int .i64 12])) w') := fun h v w' hb => by
    refine ⟨v, ?_, hb⟩
    rw [← rparse_eq]
    unfold rparse
    rw [h]
    rfl
  have Hend : Hid (∀ acc, rlabs (splitC 44 s.data.toList) = some acc → ∀ v w', Below w.heap.size w w' → ParsePost s w (.returned (.tuple #[v, .int .i64 (if (decide ((rtextS acc).2 = 0) && (rtextS acc).1.toList == s.toList) = true then 0 else 12)])) w') := fun acc h v w' hb => by
    refine ⟨v, ?_, hb⟩
    rw [← rparse_eq]
    unfold rparse
    rw [h]
  obtain ⟨hpz, hpl, hpp⟩ := splitC_part 44 s.data.toList
  have Hpl := Lib.hid hpl; have Hpp := Lib.hid hpp
  clear hpl hpp hpz
  obtain ⟨pp, hpp⟩ : ∃ pp, pp = splitC 44 s.data.toList := ⟨_, rfl⟩
  rw [← hpp] at Hpl Hpp Hbad Hend
  have Hpe := Lib.hid hpp
  clear hpp
  go_enter Tryz.func122, Tryz.ntmps122
  go_wp2_with fail
  refine hsp.out.mono ?_
  rintro e w1 ⟨v1, ps, rfl, hps, hown, hb⟩
  rw [← Hpe.out] at hps
  have hpsl : ps.length ≤ 4294967281 := by
    have h1 := congrArg List.length hps
    have h2 := Hpl.out
    have h3 : s.data.toList.length = s.size := rfl
    rw [List.length_map] at h1
    omega
  have hpsz : Hid (∀ p ∈ ps, p.size < 4294967281) := fun p hp => by
    have h1 : p.data.toList ∈ pp := by rw [← hps]; exact List.mem_map_of_mem hp
    have h2 := Hpp.out _ h1
    have h3 : s.data.toList.length = s.size := rfl
    have h4 : p.data.toList.length = p.size := rfl
    omega
  obtain ⟨A1, c1, rfl, hc1⟩ := strs_len hown
  have Hps := Lib.hid hps; have Hown1 := Lib.hid hown; have Hb1 := Lib.hid hb
  clear hps hown hb hsp Hpl Hpp
  go_wp2_with fail
  go_loopw [4, 13] (fun out i wr => ∃ (x : Nat) (acc : List LabD), i = .int .i64 x ∧ x ≤ ps.length ∧ Hid (rlabs ((ps.take x).map (·.data.toList)) = some acc) ∧ Hid (acc.length = x) ∧ Hid (∀ y ∈ acc, y.name.size < 9223372036854775807 ∧ y.value.size < 9223372036854775807) ∧ Hid (wr.ownsRow w1.heap.size 215 2 out acc.length (acc.flatMap labEnc)) ∧ Hid (Below w1.heap.size w1 wr)) (fun _ i _ => ps.length - (intOf i).toNat)
  case atStart => exact ⟨0, [], rfl, by omega, rfl, rfl, (show ∀ y ∈ ([] : List LabD), _ by simp), World.ownsRow_nil _ _ _ _, Below.refl _ _⟩
  case round =>
    obtain ⟨x, acc, rfl, hx, Hrl, Hal, Hsz, Hown, Hbr⟩ := hrel
    by_cases hlt : x < ps.length
    · have hx1 : (x : Int) < (ps.length : Int) := by omega
      obtain ⟨g, off, c', e1, hg, hcell⟩ := strs_at (own_below Hown1.out Hbr.out) hlt
      obtain rfl : A1 = some ⟨g, off, none⟩ := by injection e1
      clear e1
      have c0 := hcell x hlt
      have hpx := hpsz.out ps[x] (List.getElem_mem _)
      have Hsp := Lib.hid (hsp2.out ps[x] wr hpx)
      have Htk : Hid ((ps.take (x + 1)).map (·.data.toList) = (ps.take x).map (·.data.toList) ++ [ps[x].data.toList]) := by
        show _ = _
        rw [List.take_succ_eq_append_getElem hlt, List.map_append]; rfl
      have Hnone : Hid ((splitC 61 ps[x].data.toList).length ≠ 2 → rlabs pp = none) := fun h => by
        rw [← Hps.out]
        exact rlabs_none _ x (by simpa using hlt) (by simpa using h)
      have Hpart := Lib.hid (splitC_part 61 ps[x].data.toList)
      clear hcell
      generalize ps[x] = p at *
      go_wp2_with fail
      refine Hsp.out.mono ?_
      rintro e w3 ⟨v3, qs, rfl, hqs, hown3, hb3⟩
      obtain ⟨A3, c3, rfl, hc3⟩ := strs_len hown3
      have Hqs := Lib.hid hqs; have Hown3 := Lib.hid hown3; have Hb3 := Lib.hid (Hbr.out.trans (hb3.mono Hbr.out.size))
      have Hown4 := Lib.hid (own_below Hown.out hb3)
      have hsz3 : w1.heap.size ≤ w3.heap.size := Hb3.out.size
      clear hqs hown3 hb3 Hsp c0
      by_cases h2 : qs.length = 2
      · obtain ⟨q0, q1, rfl⟩ := two_of h2
        have h2i : (((List.length [q0, q1] : Nat) : Int) != 2) = false := rfl
        obtain ⟨gf, cf, hvf, hgf, _⟩ := Hown3.out.form (by simp)
        obtain ⟨g3, off3, c3', e3, hg3, hcell3⟩ := strs_at Hown3.out (x := 0) (by simp)
        obtain rfl : A3 = some ⟨g3, off3, none⟩ := by injection e3
        obtain ⟨rfl, rfl⟩ : g3 = gf ∧ off3 = 0 := by injection hvf with h1 _ _; injection h1 with h1; injection h1 with h1 h2 _; exact ⟨h1, h2⟩
        have d0 := hcell3 0 (by simp)
        have d1 := hcell3 1 (by simp)
        simp only [List.getElem_cons_zero, List.getElem_cons_succ, Nat.add_zero, Nat.zero_add] at d0 d1
        clear hvf
        have Hrl2 : Hid (rlabs ((ps.take (x + 1)).map (·.data.toList)) = some (acc ++ [⟨q0, q1⟩])) := by
          show _ = _
          rw [Htk.out]
          exact rlabs_snoc _ _ _ q0.data.toList q1.data.toList Hrl.out (by rw [← Hqs.out]; rfl)
        have Hsz2 : Hid (∀ y ∈ acc ++ [(⟨q0, q1⟩ : LabD)], y.name.size < 9223372036854775807 ∧ y.value.size < 9223372036854775807) := fun y hy => by
          rcases List.mem_append.1 hy with hy | hy
          · exact Hsz.out y hy
          · obtain rfl := List.mem_singleton.1 hy
            have h5 : q0.data.toList ∈ splitC 61 p.data.toList := by rw [← Hqs.out]; simp
            have h6 : q1.data.toList ∈ splitC 61 p.data.toList := by rw [← Hqs.out]; simp
            have h7 := Hpart.out.2.2 _ h5
            have h8 := Hpart.out.2.2 _ h6
            have h9 : q0.data.toList.length = q0.size := rfl
            have hA : q1.data.toList.length = q1.size := rfl
            have hB : p.data.toList.length = p.size := rfl
            simp only []
            omega
        clear e3 hcell3 h2 Hpart Hnone Htk Hqs
        have hal : acc.length ≤ 4294967281 := by have := Hal.out; omega
        simp only [List.length_cons, List.length_nil, Nat.zero_add, Nat.reduceAdd] at hg3 hc3 h2i
        have Hown5 := Lib.hid (show (w3.drew.alloc (.cells #[.string q0, .string q1] 215)).ownsRow w1.heap.size 215 2 u4 acc.length (acc.flatMap labEnc) from World.ownsRow.alloc (w := w3.drew) Hown4.out _)
        have Hb5 : Hid (Below w1.heap.size w1 (w3.drew.alloc (.cells #[.string q0, .string q1] 215))) := (show Below w1.heap.size w1 w3.drew from ((Keeps.of_below (M := []) Hb3.out).drew).below).alloc (by show _ ≤ w3.heap.size; omega) _
        go_wp2_with fail
        refine wp_region_held_drew (S := (fun W => W.cell? ⟨g3, 0, none⟩ = some (.string q0) ∧ W.cell? ⟨g3, 1, none⟩ = some (.string q1))) (by kernel_rfl) ⟨d0, d1⟩ (fun hHeld => ?_)
        refine wpAnyH_take (i := 0) (oi := _) (v := ?v0) rfl (by kernel_rfl) (by kernel_rfl) (by kernel_rfl) (fun _ _ _ h => h) (Or.inl ⟨by rfl, ?y0⟩) (by assumption) ?r0
        case y0 => (intro w hSw; (obtain ⟨hSa, hSb⟩ := hSw); go_simp <;> with_reducible rfl)
        try simp only [List.getElem_toArray, List.getElem_cons_succ, List.getElem_cons_zero, Act.put, List.setIfInBounds_toArray, List.set_cons_zero, List.set_cons_succ]
        refine wpAnyH_take (i := 1) (oi := _) (v := ?v1) rfl (by kernel_rfl) (by kernel_rfl) (by kernel_rfl) (fun _ _ _ h => h) (Or.inl ⟨by rfl, ?y1⟩) (by assumption) ?r1
        case y1 => (intro w hSw; (obtain ⟨hSa, hSb⟩ := hSw); go_simp <;> with_reducible rfl)
        try simp only [List.getElem_toArray, List.getElem_cons_succ, List.getElem_cons_zero, Act.put, List.setIfInBounds_toArray, List.set_cons_zero, List.set_cons_succ]
        refine wpAnyH_take (i := 2) (oi := _) (v := ?v2) rfl (by kernel_rfl) (by kernel_rfl) (by kernel_rfl) (fun _ _ _ h => h) (Or.inl ⟨by rfl, ?y2⟩) (by assumption) ?r2
        case y2 => (intro w hSw; (obtain ⟨hSa, hSb⟩ := hSw); go_simp <;> with_reducible rfl)
        try simp only [List.getElem_toArray, List.getElem_cons_succ, List.getElem_cons_zero, Act.put, List.setIfInBounds_toArray, List.set_cons_zero, List.set_cons_succ]
        refine wpAnyH_take (i := 3) (oi := _) (v := ?v3) rfl (by kernel_rfl) (by kernel_rfl) (by kernel_rfl) (fun _ _ _ h => h) (Or.inl ⟨by rfl, ?y3⟩) (by assumption) ?r3
        case y3 => (intro w hSw; (obtain ⟨hSa, hSb⟩ := hSw); go_simp <;> with_reducible rfl)
        try simp only [List.getElem_toArray, List.getElem_cons_succ, List.getElem_cons_zero, Act.put, List.setIfInBounds_toArray, List.set_cons_zero, List.set_cons_succ]
        refine wpAnyH_take (i := 4) (oi := _) (v := ?v4) rfl (by kernel_rfl) (by kernel_rfl) (by kernel_rfl) (fun _ _ _ h => h) (Or.inl ⟨by rfl, ?y4⟩) (by assumption) ?r4
        case y4 => (intro w hSw; (obtain ⟨hSa, hSb⟩ := hSw); go_simp <;> with_reducible rfl)
        try simp only [List.getElem_toArray, List.getElem_cons_succ, List.getElem_cons_zero, Act.put, List.setIfInBounds_toArray, List.set_cons_zero, List.set_cons_succ]
        refine wpAnyH_take (i := 5) (oi := _) (v := ?v5) rfl (by kernel_rfl) (by kernel_rfl) (by kernel_rfl) (fun _ _ _ h => h) (Or.inl ⟨by rfl, ?y5⟩) (by assumption) ?r5
        case y5 => (intro w hSw; (obtain ⟨hSa, hSb⟩ := hSw); go_simp <;> with_reducible rfl)
        try simp only [List.getElem_toArray, List.getElem_cons_succ, List.getElem_cons_zero, Act.put, List.setIfInBounds_toArray, List.set_cons_zero, List.set_cons_succ]
        refine wpAnyH_take (i := 6) (oi := _) (v := ?v6) rfl (by kernel_rfl) (by kernel_rfl) (by kernel_rfl) (fun _ _ _ h => h) (Or.inl ⟨by rfl, ?y6⟩) (by assumption) ?r6
        case y6 => (intro w hSw; (obtain ⟨hSa, hSb⟩ := hSw); go_simp <;> with_reducible rfl)
        try simp only [List.getElem_toArray, List.getElem_cons_succ, List.getElem_cons_zero, Act.put, List.setIfInBounds_toArray, List.set_cons_zero, List.set_cons_succ]
        refine wpAnyH_take (i := 7) (oi := _) (v := ?v7) rfl (by kernel_rfl) (by kernel_rfl) (by kernel_rfl) (fun _ _ _ h => h) (Or.inl ⟨by rfl, ?y7⟩) (by assumption) ?r7
        case y7 => (intro w hSw; (obtain ⟨hSa, hSb⟩ := hSw); go_simp <;> with_reducible rfl)
        try simp only [List.getElem_toArray, List.getElem_cons_succ, List.getElem_cons_zero, Act.put, List.setIfInBounds_toArray, List.set_cons_zero, List.set_cons_succ]
        refine wpAnyH_ready (rs := [8]) (by kernel_rfl) (by simp) ?_
        refine AllReadyH.cons (o := _) rfl (fun K hK => ?_) AllReadyH.nil
        go_simp
        refine hK.out _ _ ⟨(World.cell?_alloc_lt w3.drew _ _ hg3).trans d0, (World.cell?_alloc_lt w3.drew _ _ hg3).trans d1⟩ (fun hHeld2 => ?_)
        clear hK K hHeld
        have hHeld := hHeld2
        clear hHeld2
        try simp only [List.getElem_toArray, List.getElem_cons_succ, List.getElem_cons_zero, Act.put, List.setIfInBounds_toArray, List.set_cons_zero, List.set_cons_succ]
        refine wpAnyH_ready (rs := [9]) (by kernel_rfl) (by simp) ?_
        refine AllReadyH.cons (o := _) rfl (fun K hK => ?_) AllReadyH.nil
        refine step_append_any _ rfl (.tmp 22) (.tmp 30) _ rfl w1.heap.size 215 i0 _ 2 32 Tryz.underlying168 Hi0.out Hz0.out Hz1.out Hz2.out rfl (by omega) u4 acc.length (acc.flatMap labEnc) rfl Hown5.out (w3.heap.size + 1) (some ⟨w3.heap.size, 0, none⟩) 1 1 (labEnc ⟨q0, q1⟩) rfl (reads_new w3.drew _ _ _ _ rfl) (labEnc_one2 ⟨q0, q1⟩) (by unfold maxLen; omega) (by omega) Hb5.out.size ?_
        intro v6 w6 hown6 hg6 hat6
        have Hown6 : Hid (w6.ownsRow w1.heap.size 215 2 v6 (acc ++ [(⟨q0, q1⟩ : LabD)]).length ((acc ++ [(⟨q0, q1⟩ : LabD)]).flatMap labEnc)) := by
          show World.ownsRow _ _ _ _ _ _ _
          rw [List.flatMap_append, List.length_append]
          simpa using hown6
        have Hb6 : Hid (Below w1.heap.size w1 w6) := Hb5.out.grown hg6 (by simp; omega) (fun g hg => (Hown4.out.lt g hg).1)
        have hSf : ∀ j u, (w3.drew.alloc (.cells #[.string q0, .string q1] 215)).cell? ⟨g3, j, none⟩ = some u → w6.cell? ⟨g3, j, none⟩ = some u := fun j u hu =>
          (World.cell?_of_block (a := ⟨g3, j, none⟩) (hg6.block g3 (by simp; omega) (fun e => by have := (Hown.out.lt g3 e.symm).2; omega))).trans hu
        have HSf : Hid (w6.cell? ⟨g3, 0, none⟩ = some (.string q0) ∧ w6.cell? ⟨g3, 1, none⟩ = some (.string q1)) := ⟨hSf _ _ hHeld.1, hSf _ _ hHeld.2⟩
        have Hal6 : Hid ((acc ++ [(⟨q0, q1⟩ : LabD)]).length = x + 1) := by show _ = _; rw [List.length_append, Hal.out]; rfl
        clear hown6 hg6 hat6
        generalize acc ++ [(⟨q0, q1⟩ : LabD)] = acc2 at *
        clear hSf
        refine hK.out _ _ HSf.out (fun hHeld2 => ?_)
        clear hK K hHeld
        have hHeld := hHeld2
        clear hHeld2
        try simp only [List.getElem_toArray, List.getElem_cons_succ, List.getElem_cons_zero, Act.put, List.setIfInBounds_toArray, List.set_cons_zero, List.set_cons_succ]
        refine wpAnyH_take (i := 10) (oi := _) (v := ?v10) rfl (by kernel_rfl) (by kernel_rfl) (by kernel_rfl) (fun _ _ _ h => h) (Or.inl ⟨by rfl, ?y10⟩) (by assumption) ?r10
        case y10 => (intro w hSw; (obtain ⟨hSa, hSb⟩ := hSw); go_simp <;> with_reducible rfl)
        try simp only [List.getElem_toArray, List.getElem_cons_succ, List.getElem_cons_zero, Act.put, List.setIfInBounds_toArray, List.set_cons_zero, List.set_cons_succ]
        refine wpAnyH_done (by kernel_rfl) ?_ _
        clear hHeld d0 d1 HSf
        go_wp2
        go_roundw
        case rel => exact ⟨x + 1, acc2, by go_num, by omega, Hrl2, Hal6, Hsz2, Hown6, Hb6⟩
        case measure => simp [intOf] <;> omega
      · have h2i : ((qs.length : Int) != 2) = true := by rw [bne_iff_ne]; omega
        have hno := Hnone.out (by rw [← Hqs.out, List.length_map]; exact h2)
        have hP := Lib.hid (Hbad.out hno (.slice none 0 0) w3 (below_then Hb1.out Hb3.out))
        clear hno h2
        go_wp2
        go_ret2
        exact hP.out
    · obtain rfl : x = ps.length := by omega
      have hrl : rlabs pp = some acc := by have := Hrl.out; rwa [List.take_length, Hps.out] at this
      have HE := Lib.hid (Hend.out acc hrl)
      have hlab : Labs wr [] u4 acc := Rd.of_own Hown.out (by simp)
      have Htx := Lib.hid (rtextL_any u4 acc wr hlab Hsz.out (by have := Hal.out; omega))
      have Hbw := Lib.hid (below_then Hb1.out Hbr.out)
      unfold RTextPost at Htx
      generalize (rtextS acc).1 = t at *
      generalize (rtextS acc).2 = n at *
      clear hrl hlab
      go_wp2_with fail
      refine Htx.out.mono ?_
      rintro e w4 ⟨rfl, hb4⟩
      have Hb4 := Lib.hid (below_then Hbw.out hb4)
      clear hb4 Htx
      by_cases hn : n = 0
      · subst hn
        have hE2 := Lib.hid (fun v => HE.out v w4 Hb4.out)
        clear HE
        cases ht : (t.toList == s.toList) with
        | true =>
          have hE3 : Hid (∀ v, ParsePost s w (.returned (.tuple #[v, .int .i64 0])) w4) := fun v => by have := hE2.out v; rwa [ht] at this
          clear hE2
          go_wp2
          go_ret2
          exact hE3.out _
        | false =>
          have hE3 : Hid (∀ v, ParsePost s w (.returned (.tuple #[v, .int .i64 12])) w4) := fun v => by have := hE2.out v; rwa [ht] at this
          clear hE2
          go_wp2
          go_ret2
          exact hE3.out _
      · have hni : ((n : Int) != 0) = true := by rw [bne_iff_ne]; omega
        have hE3 : Hid (∀ v, ParsePost s w (.returned (.tuple #[v, .int .i64 12])) w4) := fun v => by have := HE.out v w4 Hb4.out; rwa [decide_eq_false hn, Bool.false_and] at this
        clear HE hn
        go_wp2
        go_ret2
        exact hE3.out _
end Go.Proofs.YtinnifhnabncfaaGreatDoor.Vi
end
/- Contracts of entry.within, entry.kind. -/
section
namespace Go.Proofs.YtinnifhnabncfaaGreatDoor.Vi
open Go.RowKit Base Mem
def withinB (n e : Int) : Bool := decide (0 ≤ n) && decide (n < e)
theorem within2_any (n e : Int) (w : World) : Calls Tryz.prog 124 #[.int .i64 n, .int .i64 e] w fun r w' => r = .returned (.bool (withinB n e)) ∧ w' = w := by
  by_cases h0 : 0 ≤ n
  · by_cases h1 : n < e
    · have hR : Hid (withinB n e = true) := by show _ = _; simp [withinB, h0, h1]
      rw [hR.out]
      go_enter Tryz.func124, Tryz.ntmps124
      go_wp2
      go_ret
      exact ⟨rfl, rfl⟩
    · have hR : Hid (withinB n e = false) := by show _ = _; simp [withinB, h1]
      rw [hR.out]
      have h1' : decide (n < e) = false := decide_eq_false h1
      go_enter Tryz.func124, Tryz.ntmps124
      go_wp2
      go_ret
      exact ⟨rfl, rfl⟩
  · have hR : Hid (withinB n e = false) := by show _ = _; simp [withinB, h0]
    rw [hR.out]
    have h0' : decide (0 ≤ n) = false := decide_eq_false h0
    go_enter Tryz.func124, Tryz.ntmps124
    go_wp2
    go_ret
    exact ⟨rfl, rfl⟩
def eqI (a b c d e f : Int) : Bool := a == d && (b == e && c == f)
theorem eqI_run (a b c d e f : Int) (r : Bool) (h : eqI a b c d e f = r) (w : World) : (binOp .eql 23 (.agg #[.int .i64 a, .int .i64 b, .int .i64 c]) (.agg #[.int .i64 d, .int .i64 e, .int .i64 f])).run Tryz.prog w = .ok (.bool r) w := by
  subst h
  have u3 := Tryz.underlying3
  have a3 := Tryz.isAgg3
  have z3 := Tryz.sizeOf3
  have hS : Tryz.prog.underlying 23 = some (.struct (Tryz.prog.fieldsOf 23)) := by kernel_rfl
  have hp : Tryz.prog.stoodInHeld 23 = false := by kernel_rfl
  simp only [eqI]
  rw [run_eql_struct, show (10000 : Nat) = 9999 + 1 from rfl, run_equalIn_agg w 9999 23 _ _ hS hp]
  simp only [Program.fieldsOf, Tryz.underlying23]
  go_simp
  by_cases h1 : a = d <;> by_cases h2 : b = e <;> by_cases h3 : c = f <;> simp [h1, h2, h3]
def kindS (e : EntryD) : Bool := if e.kind = 1 then e.ser.toList.isEmpty else if e.kind = 2 then eqI e.ag e.sh e.seq 0 0 0 && e.ep == 0 && e.ds.length == 0 else false
def BoolPost (b : Bool) (w : World) (r : Ending) (w' : World) : Prop := r = .returned (.bool b) ∧ Below w.heap.size w w'
theorem kind_any (e : EntryD) (A : Option Addr) (c : Nat) (w : World) :
    Calls Tryz.prog 123 #[.agg (eCell (e, .slice A e.ds.length c)).toArray] w fun r w' => BoolPost (kindS e) w r w' := by
  obtain ⟨kind, ag, sh, seq, ep, ds, ser, fr, tag⟩ := e
  have HK : Hid (kindS ⟨kind, ag, sh, seq, ep, ds, ser, fr, tag⟩ = if kind = 1 then ser.toList.isEmpty else if kind = 2 then eqI ag sh seq 0 0 0 && ep == 0 && ds.length == 0 else false) := rfl
  have hb : Hid (∀ o, Below w.heap.size w (w.alloc o)) := fun o => (Below.refl _ _).alloc (Nat.le_refl _) o
  generalize hn : ds.length = n at *
  simp only [eCell]
  clear hn
  by_cases h1 : kind = 1
  · have hR : Hid (kindS ⟨kind, ag, sh, seq, ep, ds, ser, fr, tag⟩ = ser.toList.isEmpty) := by show _ = _; rw [HK.out, if_pos h1]
    subst h1
    go_enter Tryz.func123, Tryz.ntmps123
    go_wp2
    all_goals go_ret
    all_goals exact ⟨by rw [hR.out]; simp, hb.out _⟩
  · have h1' : (kind == 1) = false := by simpa using h1
    by_cases h2 : kind = 2
    · have hR : Hid (kindS ⟨kind, ag, sh, seq, ep, ds, ser, fr, tag⟩ = (eqI ag sh seq 0 0 0 && ep == 0 && n == 0)) := by show _ = _; rw [HK.out, if_neg h1, if_pos h2]
      have h2' : (kind == 2) = true := by simpa using h2
      clear h1 h2
      cases h3 : eqI ag sh seq 0 0 0 with
      | false =>
        have he := fun W => eqI_run ag sh seq 0 0 0 false h3 W
        have hR2 : Hid (kindS ⟨kind, ag, sh, seq, ep, ds, ser, fr, tag⟩ = false) := by show _ = _; rw [hR.out, h3]; rfl
        rw [hR2.out]
        clear h3
        go_enter Tryz.func123, Tryz.ntmps123
        go_wp2
        go_ret
        exact ⟨rfl, hb.out _⟩
      | true =>
        have he := fun W => eqI_run ag sh seq 0 0 0 true h3 W
        have hR1 : Hid (kindS ⟨kind, ag, sh, seq, ep, ds, ser, fr, tag⟩ = (true && ep == 0 && n == 0)) := by show _ = _; rw [hR.out, h3]
        clear h3
        cases h4 : (ep == 0) with
        | false =>
          have hR2 : Hid (kindS ⟨kind, ag, sh, seq, ep, ds, ser, fr, tag⟩ = false) := by show _ = _; rw [hR1.out, h4]; simp
          rw [hR2.out]
          go_enter Tryz.func123, Tryz.ntmps123
          go_wp2
          go_ret
          exact ⟨rfl, hb.out _⟩
        | true =>
          have hR2 : Hid (kindS ⟨kind, ag, sh, seq, ep, ds, ser, fr, tag⟩ = ((n : Int) == 0)) := by
            show _ = _
            rw [hR1.out, h4]
            cases n with
            | zero => rfl
            | succ n =>
              rw [show ((n + 1 : Nat) == 0) = false from rfl]
              symm
              rw [Bool.and_false, beq_eq_false_iff_ne]
              omega
          rw [hR2.out]
          go_enter Tryz.func123, Tryz.ntmps123
          go_wp2
          go_ret
          exact ⟨rfl, hb.out _⟩
    · have h2' : (kind == 2) = false := by simpa using h2
      have hR : Hid (kindS ⟨kind, ag, sh, seq, ep, ds, ser, fr, tag⟩ = false) := by show _ = _; rw [HK.out, if_neg h1, if_neg h2]
      rw [hR.out]
      clear h1 h2
      go_enter Tryz.func123, Tryz.ntmps123
      go_wp2
      go_ret
      exact ⟨rfl, hb.out _⟩
end Go.Proofs.YtinnifhnabncfaaGreatDoor.Vi
end
/- Contract of entry.written. -/
section
namespace Go.Proofs.YtinnifhnabncfaaGreatDoor.Vi
open Go.RowKit Base Mem Go.Shelf
instance : Inhabited DeltaD := ⟨⟨⟨#[]⟩, 0⟩⟩
def badId (e : EntryD) : Bool := !(withinB e.ag 8) || !(withinB e.sh 4) || decide (e.seq < 1) || decide (e.ep < 1)
def writtenS (e : EntryD) : Nat := if badId e = true then 1 else if 8 < e.ds.length then 3 else if (e.ds.length == 0 || e.ds.any fun d => d.n == 0) = true then 1 else if (e.ds.all fun d => serOk d.ser) = true then 0 else 12
theorem zero_any (d : DeltaD) (w : World) : Calls Tryz.prog 172 #[.agg #[.string d.ser, .int .u64 d.n]] w fun r w' => r = .returned (.bool (d.n == 0)) ∧ Below w.heap.size w w' := by
  have hb : Hid (∀ o, Below w.heap.size w (w.alloc o)) := fun o => (Below.refl _ _).alloc (Nat.le_refl _) o
  go_enter Tryz.func172, Tryz.ntmps172
  go_wp2
  go_ret
  exact ⟨rfl, hb.out _⟩
theorem ds_cells {w : World} {M : List Nat} {v : Value} {l : List DeltaD} (h : Ds w M v l) (h0 : 0 < l.length) : ∃ g off c, v = .slice (some ⟨g, off, none⟩) l.length c ∧ g < w.heap.size ∧ ∀ j, j < l.length → ∀ i u, (dCell l[j]!)[i]? = some u → w.cell? ⟨g, off + j * 2 + i, none⟩ = some u := by
  obtain ⟨g, off, c, e, _, hg, _, _⟩ := Rd.at_ dCell 2 (fun _ => rfl) h h0
  refine ⟨g, off, c, e, hg, fun j hj i u hu => ?_⟩
  obtain ⟨g2, off2, c2, e2, _, _, _, hx⟩ := Rd.at_ dCell 2 (fun _ => rfl) h hj
  rw [e] at e2
  injection e2 with e2 _ _
  injection e2 with e2
  injection e2 with e3 e4 _
  subst e3 e4
  exact hx i u (by rw [← getElem!_pos l j hj]; exact hu)
theorem anyzero_any (v : Value) (l : List DeltaD) (w : World) (h : Ds w [] v l) (h0 : 0 < l.length) (hl : l.length ≤ 8) :
    Calls Tryz.prog 171 #[v, .func (.func 172) #[] #[]] w fun r w' => r = .returned (.bool (l.any fun d => d.n == 0)) ∧ Below w.heap.size w w' := by
  obtain ⟨g, off, c, rfl, hg, hc⟩ := ds_cells h h0
  have heg : ∀ args w, (callFunc 172 args).run Tryz.prog w = .ok (.enter 172 args) w := enters_of Tryz.func172 (by kernel_rfl) rfl
  have hp : PredBelow Tryz.prog 172 #[] (fun x => .agg (dCell x).toArray) (fun d => d.n == 0) w := fun W x hb => by
    refine Calls.mono (zero_any x W) ?_
    rintro r w' ⟨rfl, hb2⟩
    exact ⟨rfl, hb.trans (hb2.mono hb.size)⟩
  have := AnyQ.slices_ContainsFunc Tryz.containsFuncDelta 2 Tryz.isAgg86 Tryz.sizeOf86 dCell (fun _ => rfl) (fun d => d.n == 0) 172 #[] heg g off l.length c l w hp (Nat.le_refl _) (by omega) hg hc
  rw [List.take_length] at this
  exact this
set_option maxRecDepth 100000 in
set_option maxHeartbeats 1000000 in
theorem written_any (e : EntryD) (dv : Value) (m : Int) (w : World) (h : Ds w [] dv e.ds) (hs : ∀ d ∈ e.ds, d.ser.size < 4294967281) (hl : e.ds.length ≤ 4611686018427387904) (hm : w.cell? ⟨0, 0, none⟩ = some (.int .i64 m)) :
    Calls Tryz.prog 125 #[.agg (eCell (e, dv)).toArray] w fun r w' => NumPost (writtenS e) w r w' := by
  have HW : Hid (writtenS e = if badId e = true then 1 else if 8 < e.ds.length then 3 else if (e.ds.length == 0 || e.ds.any fun d => d.n == 0) = true then 1 else if (e.ds.all fun d => serOk d.ser) = true then 0 else 12) := rfl
  have hw0 : 0 < w.heap.size := by
    have := World.block_lt_of_cell? w _ hm
    simpa using this
  obtain ⟨kind, ag, sh, seq, ep, ds, ser, fr, tag⟩ := e
  simp only [] at h hs hl HW
  have HB : Hid (badId ⟨kind, ag, sh, seq, ep, ds, ser, fr, tag⟩ = (!(withinB ag 8) || !(withinB sh 4) || decide (seq < 1) || decide (ep < 1))) := rfl
  generalize writtenS ⟨kind, ag, sh, seq, ep, ds, ser, fr, tag⟩ = wr0 at *
  generalize badId ⟨kind, ag, sh, seq, ep, ds, ser, fr, tag⟩ = bad at *
  have hwi := Lib.hid (fun a b W => within2_any a b W)
  obtain ⟨A, c, rfl, hc⟩ := h.len
  obtain ⟨w2, hw2⟩ : ∃ w2, w2 = w.alloc (.cells #[.int .i64 kind, .int .i64 ag, .int .i64 sh, .int .i64 seq, .int .i64 ep, .slice A ds.length c, .string ser, .int .i64 fr, .int .i64 tag] 26) := ⟨_, rfl⟩
  have hB : Blk w2 w.heap.size 26 #[.int .i64 kind, .int .i64 ag, .int .i64 sh, .int .i64 seq, .int .i64 ep, .slice A ds.length c, .string ser, .int .i64 fr, .int .i64 tag] := by rw [hw2]; exact Blk.new w _ _
  have hk2 : Keeps [] w w2 := by rw [hw2]; exact (Keeps.refl _ _).alloc _
  have c1 := hB.cell 1; have c2 := hB.cell 2; have c3 := hB.cell 3; have c4 := hB.cell 4; have c5 := hB.cell 5
  simp only [List.getElem?_toArray, List.getElem?_cons_succ, List.getElem?_cons_zero] at c1 c2 c3 c4 c5
  have Hm := Lib.hid hm; have Hs := Lib.hid hs; have Hk2 := Lib.hid hk2; have Hw2 := Lib.hid hw2; have HD := Lib.hid (h.keep hk2 (by simp))
  clear hm hs hk2 hw2 h hB
  show Calls Tryz.prog 125 #[.agg #[.int .i64 kind, .int .i64 ag, .int .i64 sh, .int .i64 seq, .int .i64 ep, .slice A ds.length c, .string ser, .int .i64 fr, .int .i64 tag]] w fun r w' => NumPost wr0 w r w'
  go_enter Tryz.func125, Tryz.ntmps125
  go_upto_region 1 with (fail)
  rw [← Hw2.out]
  go_cut [7] (fun s wx => s = .bool bad ∧ wx = w2)
  case first =>
    cases h1 : withinB ag 8 with
    | false =>
      have hb : Hid (bad = true) := by show _ = _; rw [HB.out, h1]; simp
      clear HB HW
      go_wp2_with (go_at_call 124; refine (hwi.out _ _ _).mono ?_; rintro r w' ⟨rfl, rfl⟩; rw [h1])
      go_meet
      exact ⟨by rw [hb.out], rfl⟩
    | true =>
      cases h2 : withinB sh 4 with
      | false =>
        have hb : Hid (bad = true) := by show _ = _; rw [HB.out, h1, h2]; simp
        clear HB HW
        go_wp2_with (go_at_call 124; refine (hwi.out _ _ _).mono ?_; rintro r w' ⟨rfl, rfl⟩; first | rw [h1] | rw [h2])
        go_meet
        exact ⟨by rw [hb.out], rfl⟩
      | true =>
        by_cases h3 : seq < 1
        · have hb : Hid (bad = true) := by show _ = _; rw [HB.out, h1, h2, decide_eq_true h3]; simp
          clear HB HW
          go_wp2_with (go_at_call 124; refine (hwi.out _ _ _).mono ?_; rintro r w' ⟨rfl, rfl⟩; first | rw [h1] | rw [h2])
          go_meet
          exact ⟨by rw [hb.out], rfl⟩
        · have h3' : decide (seq < 1) = false := decide_eq_false h3
          have hb : Hid (bad = decide (ep < 1)) := by show _ = _; rw [HB.out, h1, h2, h3']; simp
          clear HB HW
          by_cases h4 : ep < 1
          · go_wp2_with (go_at_call 124; refine (hwi.out _ _ _).mono ?_; rintro r w' ⟨rfl, rfl⟩; first | rw [h1] | rw [h2])
            go_meet
            exact ⟨by rw [hb.out, decide_eq_true h4], rfl⟩
          · have h4' : decide (ep < 1) = false := decide_eq_false h4
            go_wp2_with (go_at_call 124; refine (hwi.out _ _ _).mono ?_; rintro r w' ⟨rfl, rfl⟩; first | rw [h1] | rw [h2])
            go_meet
            exact ⟨by rw [hb.out, h4'], rfl⟩
  case rest =>
    obtain ⟨rfl, rfl⟩ := hcut
    have hbel : Hid (Below w.heap.size w wc) := Hk2.out.below
    have hwc : w.heap.size ≤ wc.heap.size := Hk2.out.size
    clear HB hwi
    cases bad with
    | true =>
      have hR : Hid (wr0 = 1) := by show _ = _; rw [HW.out, if_pos rfl]
      clear HW
      go_wp2
      go_ret
      exact ⟨by rw [hR.out]; rfl, hbel.out⟩
    | false =>
      by_cases h8 : 8 < ds.length
      · have hR : Hid (wr0 = 3) := by show _ = _; rw [HW.out, if_neg (by simp), if_pos h8]
        have h8i : (8 : Int) < (ds.length : Int) := by omega
        clear HW
        go_wp2
        go_ret
        exact ⟨by rw [hR.out]; rfl, hbel.out⟩
      · have h8i : decide ((8 : Int) < (ds.length : Int)) = false := decide_eq_false (by omega)
        by_cases hn : ds.length = 0
        · have hR : Hid (wr0 = 1) := by show _ = _; rw [HW.out, if_neg (by simp), if_neg h8, hn]; rfl
          have hni : ((ds.length : Int) == 0) = true := by rw [beq_iff_eq]; omega
          clear HW
          go_wp2
          go_ret
          exact ⟨by rw [hR.out]; rfl, hbel.out⟩
        · have hni : ((ds.length : Int) == 0) = false := by rw [beq_eq_false_iff_ne]; omega
          have HW2 : Hid (wr0 = if (ds.any fun d => d.n == 0) = true then 1 else if (ds.all fun d => serOk d.ser) = true then 0 else 12) := by
            show _ = _
            rw [HW.out, if_neg (by simp), if_neg h8, show (ds.length == 0) = false by rw [beq_eq_false_iff_ne]; omega, Bool.false_or]
          have haz := Lib.hid (anyzero_any _ ds wc HD.out (by omega) (by omega))
          clear HW
          generalize (ds.any fun d => d.n == 0) = az at *
          go_wp2_with fail
          refine haz.out.mono ?_
          rintro r w3 ⟨rfl, hb3⟩
          have Hb3 := Lib.hid (below_then hbel.out hb3)
          have HD3 := Lib.hid (HD.out.keep (Keeps.of_below (M := []) hb3) (by simp))
          have hm3 : w3.cell? ⟨0, 0, none⟩ = some (.int .i64 m) := (Hb3.out.cell (p := ⟨0, 0, none⟩) hw0).trans Hm.out
          have Hm3 := Lib.hid hm3
          have d5 : w3.cell? ⟨w.heap.size, 5, none⟩ = some (.slice A ds.length c) := (hb3.cell (p := ⟨w.heap.size, 5, none⟩) (World.block_lt_of_cell? wc _ c5)).trans c5
          clear haz hb3 hm3
          cases az with
          | true =>
            have hR : Hid (wr0 = 1) := by show _ = _; rw [HW2.out, if_pos rfl]
            clear HW2
            go_wp2
            go_ret
            exact ⟨by rw [hR.out]; rfl, Hb3.out⟩
          | false =>
            have HW3 : Hid (wr0 = if (ds.all fun d => serOk d.ser) = true then 0 else 12) := by show _ = _; rw [HW2.out, if_neg (by simp)]
            have hw30 : 0 < w3.heap.size := by have := Hb3.out.size; omega
            clear HW2
            go_wp2_with fail
            go_loopw [49] (fun i wr => ∃ x : Nat, i = .int .i64 x ∧ x ≤ ds.length ∧ Hid (((ds.take x).all fun d => serOk d.ser) = true) ∧ Hid (Below w3.heap.size w3 wr)) (fun i _ => ds.length - (intOf i).toNat)
            case atStart => exact ⟨0, rfl, by omega, rfl, Below.refl _ _⟩
            case round =>
              obtain ⟨x, rfl, hx, Hall, Hbr⟩ := hrel
              by_cases hlt : x < ds.length
              · have hx1 : (x : Int) < (ds.length : Int) := by omega
                obtain ⟨g, off, _, e1, _, hg, _, hcell⟩ := Rd.at_ dCell 2 (fun _ => rfl) (HD3.out.keep (Keeps.of_below (M := []) Hbr.out) (by simp)) hlt
                obtain rfl : A = some ⟨g, off, none⟩ := by injection e1
                clear e1
                have p0 := hcell 0 _ rfl
                have p1 := hcell 1 _ rfl
                rw [Nat.add_zero] at p0
                have hsx := Hs.out ds[x] (List.getElem_mem _)
                have Hnx : Hid (((ds.take (x + 1)).all fun d => serOk d.ser) = serOk ds[x].ser) := by
                  show _ = _
                  rw [List.take_succ_eq_append_getElem hlt, List.all_append, Hall.out]; simp
                have Hbad : Hid (serOk ds[x].ser = false → wr0 = 12) := fun h => by
                  rw [HW3.out, if_neg]
                  intro hall
                  rw [List.all_eq_true] at hall
                  have := hall ds[x] (List.getElem_mem _)
                  rw [h] at this; cases this
                have hcell2 : (wr.alloc (.cells #[.string ds[x].ser, .int .u64 ds[x].n] 86)).cell? ⟨0, 0, none⟩ = some (.int .i64 m) := by
                  rw [World.cell?_alloc_lt _ _ _ (by have := Hbr.out.size; simp; omega)]
                  exact (Hbr.out.cell (p := ⟨0, 0, none⟩) hw30).trans Hm3.out
                have hpa := Lib.hid (parse_any ds[x].ser m _ hsx hcell2)
                have Hbra : Hid (Below w3.heap.size w3 (wr.alloc (.cells #[.string ds[x].ser, .int .u64 ds[x].n] 86))) := Hbr.out.alloc Hbr.out.size _
                clear hcell hcell2 hsx
                generalize ds[x] = d at *
                obtain ⟨dser, dn⟩ := d
                simp only [] at *
                cases hok : serOk dser with
                | true =>
                  have ho : Hid (((ds.take (x + 1)).all fun d => serOk d.ser) = true) := by show _ = _; rw [Hnx.out, hok]
                  have hpa2 := Lib.hid (show Calls Tryz.prog 126 #[.string dser] (wr.alloc (.cells #[.string dser, .int .u64 dn] 86)) fun e w' => ∃ v, e = .returned (.tuple #[v, .int .i64 0]) ∧ Below (wr.alloc (.cells #[.string dser, .int .u64 dn] 86)).heap.size (wr.alloc (.cells #[.string dser, .int .u64 dn] 86)) w' by
                    have := hpa.out; unfold ParsePost at this; rwa [hok, if_pos rfl] at this)
                  clear hpa Hbad Hnx hok
                  go_wp2_with fail
                  refine hpa2.out.mono ?_
                  rintro r w4 ⟨v4, rfl, hb4⟩
                  have Hb4 := Lib.hid (below_then Hbra.out hb4)
                  clear hb4
                  go_wp2
                  go_roundw
                  case rel => exact ⟨x + 1, by go_num, by omega, ho.out, Hb4.out⟩
                  case measure => simp [intOf] <;> omega
                | false =>
                  have hR := Lib.hid (Hbad.out hok)
                  have hpa2 := Lib.hid (show Calls Tryz.prog 126 #[.string dser] (wr.alloc (.cells #[.string dser, .int .u64 dn] 86)) fun e w' => ∃ v, e = .returned (.tuple #[v, .int .i64 12]) ∧ Below (wr.alloc (.cells #[.string dser, .int .u64 dn] 86)).heap.size (wr.alloc (.cells #[.string dser, .int .u64 dn] 86)) w' by
                    have := hpa.out; unfold ParsePost at this; rwa [hok, if_neg (by simp)] at this)
                  clear hpa Hbad Hnx hok
                  go_wp2_with fail
                  refine hpa2.out.mono ?_
                  rintro r w4 ⟨v4, rfl, hb4⟩
                  have Hb4 := Lib.hid (below_then Hb3.out (below_then Hbra.out hb4))
                  clear hb4
                  go_wp2
                  go_ret
                  exact ⟨by rw [hR.out]; rfl, Hb4.out⟩
              · obtain rfl : x = ds.length := by omega
                have hR : Hid (wr0 = 0) := by
                  show _ = _
                  have := Hall.out
                  rw [List.take_length] at this
                  rw [HW3.out, if_pos this]
                go_wp2
                go_ret
                exact ⟨by rw [hR.out]; rfl, below_then Hb3.out Hbr.out⟩
end Go.Proofs.YtinnifhnabncfaaGreatDoor.Vi
end
/- Contract of entry.Right. -/
section
namespace Go.Proofs.YtinnifhnabncfaaGreatDoor.Vi
open Go.RowKit Base Mem Go.Shelf
def rightE (e : EntryD) : Nat := if kindS e = false then 12 else if (!(withinB e.fr 8) || decide (e.tag < 0)) = true then 1 else if e.kind = 1 then writtenS e else if serOk e.ser = true then 0 else 12
/-- No text of an entry is longer than the library's search takes. -/
def Short (e : EntryD) : Prop := e.ser.size < 4294967281 ∧ (∀ d ∈ e.ds, d.ser.size < 4294967281) ∧ e.ds.length ≤ 4611686018427387904
set_option maxRecDepth 100000 in
set_option maxHeartbeats 1000000 in
theorem eright_any (e : EntryD) (dv : Value) (m : Int) (w : World) (h : Ds w [] dv e.ds) (hs : Short e) (hm : w.cell? ⟨0, 0, none⟩ = some (.int .i64 m)) :
    Calls Tryz.prog 66 #[.agg (eCell (e, dv)).toArray] w fun r w' => NumPost (rightE e) w r w' := by
  have HR : Hid (rightE e = if kindS e = false then 12 else if (!(withinB e.fr 8) || decide (e.tag < 0)) = true then 1 else if e.kind = 1 then writtenS e else if serOk e.ser = true then 0 else 12) := rfl
  have hw0 : 0 < w.heap.size := by
    have := World.block_lt_of_cell? w _ hm
    simpa using this
  obtain ⟨hs1, hs2, hs3⟩ := hs
  have hkd := Lib.hid (fun A c W => kind_any e A c W)
  have hwr := Lib.hid (fun W (hk : Keeps [] w W) (hmW : W.cell? ⟨0, 0, none⟩ = some (.int .i64 m)) => written_any e dv m W (h.keep hk (by simp)) hs2 hs3 hmW)
  have hpa := Lib.hid (fun W (hmW : W.cell? ⟨0, 0, none⟩ = some (.int .i64 m)) => parse_any e.ser m W hs1 hmW)
  obtain ⟨A, c, rfl, hc⟩ := h.len
  generalize rightE e = rr at *
  generalize kindS e = ks at *
  generalize writtenS e = ws at *
  obtain ⟨kind, ag, sh, seq, ep, ds, ser, fr, tag⟩ := e
  simp only [] at h hs1 hs2 hs3 hkd hwr hpa HR hc
  have hwi := Lib.hid (fun a b W => within2_any a b W)
  obtain ⟨w2, hw2⟩ : ∃ w2, w2 = w.alloc (.cells #[.int .i64 kind, .int .i64 ag, .int .i64 sh, .int .i64 seq, .int .i64 ep, .slice A ds.length c, .string ser, .int .i64 fr, .int .i64 tag] 26) := ⟨_, rfl⟩
  have hB : Blk w2 w.heap.size 26 #[.int .i64 kind, .int .i64 ag, .int .i64 sh, .int .i64 seq, .int .i64 ep, .slice A ds.length c, .string ser, .int .i64 fr, .int .i64 tag] := by rw [hw2]; exact Blk.new w _ _
  have hk2 : Keeps [] w w2 := by rw [hw2]; exact (Keeps.refl _ _).alloc _
  have Hm := Lib.hid hm; have Hk2 := Lib.hid hk2; have Hw2 := Lib.hid hw2; have HB := Lib.hid hB
  clear hm hk2 hw2 h hs1 hs2 hs3
  have hkd2 : Hid (∀ W, Calls Tryz.prog 123 #[.agg #[.int .i64 kind, .int .i64 ag, .int .i64 sh, .int .i64 seq, .int .i64 ep, .slice A ds.length c, .string ser, .int .i64 fr, .int .i64 tag]] W fun r w' => r = .returned (.bool ks) ∧ Below W.heap.size W w') := fun W => hkd.out A c W
  have hwr2 : Hid (∀ W, Keeps [] w W → W.cell? ⟨0, 0, none⟩ = some (.int .i64 m) → Calls Tryz.prog 125 #[.agg #[.int .i64 kind, .int .i64 ag, .int .i64 sh, .int .i64 seq, .int .i64 ep, .slice A ds.length c, .string ser, .int .i64 fr, .int .i64 tag]] W fun r w' => r = .returned (.int .i64 ws) ∧ Below W.heap.size W w') := fun W hk hmW => hwr.out W hk hmW
  clear hkd hwr
  have c0 := hB.cell 0; have c1 := hB.cell 1; have c2 := hB.cell 2; have c3 := hB.cell 3; have c4 := hB.cell 4; have c5 := hB.cell 5; have c6 := hB.cell 6; have c7 := hB.cell 7; have c8 := hB.cell 8
  simp only [List.getElem?_toArray, List.getElem?_cons_succ, List.getElem?_cons_zero] at c0 c1 c2 c3 c4 c5 c6 c7 c8
  clear hB
  show Calls Tryz.prog 66 #[.agg #[.int .i64 kind, .int .i64 ag, .int .i64 sh, .int .i64 seq, .int .i64 ep, .slice A ds.length c, .string ser, .int .i64 fr, .int .i64 tag]] w fun r w' => NumPost rr w r w'
  go_enter Tryz.func66, Tryz.ntmps66
  go_upto_region 1 with (fail)
  rw [← Hw2.out]
  go_wp2_with fail
  refine (hkd2.out _).mono ?_
  rintro r w3 ⟨rfl, hb3⟩
  have hw2s : w.heap.size < w2.heap.size := HB.out.lt
  have HB3 := Lib.hid (HB.out.below hb3 hw2s)
  have Hk3 : Hid (Keeps [] w w3) := Hk2.out.trans (Keeps.of_below (M := []) hb3) (by simp)
  have c0 := HB3.out.cell 0; have c1 := HB3.out.cell 1; have c2 := HB3.out.cell 2; have c3 := HB3.out.cell 3; have c4 := HB3.out.cell 4; have c5 := HB3.out.cell 5; have c6 := HB3.out.cell 6; have c7 := HB3.out.cell 7; have c8 := HB3.out.cell 8
  simp only [List.getElem?_toArray, List.getElem?_cons_succ, List.getElem?_cons_zero] at c0 c1 c2 c3 c4 c5 c6 c7 c8
  have hm3 : Hid (w3.cell? ⟨0, 0, none⟩ = some (.int .i64 m)) := (Hk3.out.cell (p := ⟨0, 0, none⟩) hw0 (by simp)).trans Hm.out
  clear hb3 hkd2
  cases ks with
  | false =>
    have hR : Hid (rr = 12) := by show _ = _; rw [HR.out, if_pos rfl]
    clear HR
    go_wp2
    go_ret
    exact ⟨by rw [hR.out]; rfl, Hk3.out.below⟩
  | true =>
    have HR2 : Hid (rr = if (!(withinB fr 8) || decide (tag < 0)) = true then 1 else if kind = 1 then ws else if serOk ser = true then 0 else 12) := by show _ = _; rw [HR.out, if_neg (by simp)]
    clear HR
    cases h1 : withinB fr 8 with
    | false =>
      have hR : Hid (rr = 1) := by show _ = _; rw [HR2.out, h1]; rfl
      clear HR2
      go_wp2_with (go_at_call 124; refine (hwi.out _ _ _).mono ?_; rintro r w' ⟨rfl, rfl⟩; rw [h1])
      go_ret
      exact ⟨by rw [hR.out]; rfl, Hk3.out.below⟩
    | true =>
      by_cases h2 : tag < 0
      · have hR : Hid (rr = 1) := by show _ = _; rw [HR2.out, h1, decide_eq_true h2]; rfl
        clear HR2
        go_wp2_with (go_at_call 124; refine (hwi.out _ _ _).mono ?_; rintro r w' ⟨rfl, rfl⟩; rw [h1])
        go_ret
        exact ⟨by rw [hR.out]; rfl, Hk3.out.below⟩
      · have h2' : decide (tag < 0) = false := decide_eq_false h2
        have HR3 : Hid (rr = if kind = 1 then ws else if serOk ser = true then 0 else 12) := by show _ = _; rw [HR2.out, h1, h2', if_neg (by simp)]
        clear HR2
        by_cases h3 : kind = 1
        · have hR : Hid (rr = ws) := by show _ = _; rw [HR3.out, if_pos h3]
          have h3' : (kind == 1) = true := by simpa using h3
          have hw := Lib.hid (hwr2.out w3 Hk3.out hm3.out)
          clear HR3 h3 hwr2
          go_wp2_with (go_at_call 124; refine (hwi.out _ _ _).mono ?_; rintro r w' ⟨rfl, rfl⟩; rw [h1])
          refine hw.out.mono ?_
          rintro r w4 ⟨rfl, hb4⟩
          have hb5 := Lib.hid (below_then Hk3.out.below hb4)
          clear hb4
          go_wp2
          go_ret
          exact ⟨by rw [hR.out]; rfl, hb5.out⟩
        · have h3' : (kind == 1) = false := by simpa using h3
          have hR : Hid (rr = if serOk ser = true then 0 else 12) := by show _ = _; rw [HR3.out, if_neg h3]
          have hp := Lib.hid (hpa.out w3 hm3.out)
          clear HR3 h3 hwr2 hpa
          go_wp2_with (go_at_call 124; refine (hwi.out _ _ _).mono ?_; rintro r w' ⟨rfl, rfl⟩; rw [h1])
          refine hp.out.mono ?_
          rintro r w4 ⟨v4, rfl, hb4⟩
          have hb5 := Lib.hid (below_then Hk3.out.below hb4)
          clear hb4 hp
          cases hok : serOk ser with
          | true =>
            have hR2 : Hid (rr = 0) := by show _ = _; rw [hR.out, hok]; rfl
            simp only [if_true]
            clear hR
            go_wp2
            go_ret
            exact ⟨by rw [hR2.out]; rfl, hb5.out⟩
          | false =>
            have hR2 : Hid (rr = 12) := by show _ = _; rw [hR.out, hok]; rfl
            clear hR
            go_wp2
            go_ret
            exact ⟨by rw [hR2.out]; rfl, hb5.out⟩
end Go.Proofs.YtinnifhnabncfaaGreatDoor.Vi
end
/- Contract of entry.Put. -/
section
namespace Go.Proofs.YtinnifhnabncfaaGreatDoor.Vi
open Go.RowKit Base Mem Go.Shelf
def dBytes (d : DeltaD) : List UInt8 := Lib.uvarint d.ser.size ++ sB d.ser ++ Lib.uvarint d.n.toNat
def NOk (d : DeltaD) : Prop := 0 ≤ d.n ∧ d.n < 18446744073709551616
def EPutPost (M : List Nat) (l : List UInt8) (w : World) (e : Ending) (w' : World) : Prop := ∃ A, e = .returned (.slice A l.length l.length) ∧ Bs w' M (.slice A l.length l.length) l ∧ Below w.heap.size w w'
set_option maxRecDepth 100000 in
set_option maxHeartbeats 1000000 in
theorem eput_any (M : List Nat) (A : Option Addr) (l : List UInt8) (dv : Value) (ds : List DeltaD) (w : World) (hM : ∀ g ∈ M, g < w.heap.size) (hb : Bs w M (.slice A l.length l.length) l) (h : Ds w [] dv ds) (hn : ∀ d ∈ ds, NOk d)
    (hl : ds.length ≤ 4611686018427387904) (hsz : l.length + (ds.flatMap dBytes).length ≤ 140737488355000) :
    Calls Tryz.prog 120 #[.slice A l.length l.length, dv] w fun e w' => EPutPost M (l ++ ds.flatMap dBytes) w e w' := by
  obtain ⟨Ad, cd, rfl, hcd⟩ := h.len
  have Hh := Lib.hid h; have Hb := Lib.hid hb; have Hn := Lib.hid hn; have HM := Lib.hid hM; have Hsz := Lib.hid hsz
  clear h hb hn hM hsz
  go_enter Tryz.func120, Tryz.ntmps120
  go_wp2_with fail
  go_loopw [0, 9] (fun b i wr => ∃ (x : Nat) (A' : Option Addr) (L : List UInt8), i = .int .i64 x ∧ x ≤ ds.length ∧ b = .slice A' L.length L.length ∧ Hid (L = l ++ (ds.take x).flatMap dBytes) ∧ Hid (Bs wr M (.slice A' L.length L.length) L) ∧ Hid (Below w.heap.size w wr)) (fun _ i _ => ds.length - (intOf i).toNat)
  case atStart => exact ⟨0, A, l, rfl, by omega, rfl, (show l = l ++ (ds.take 0).flatMap dBytes by simp), Hb.out, Below.refl _ _⟩
  case round =>
    obtain ⟨x, A', L, rfl, hx, rfl, HL, HB, Hbr⟩ := hrel
    by_cases hlt : x < ds.length
    · have hx1 : (x : Int) < (ds.length : Int) := by omega
      obtain ⟨g, off, _, e1, _, hg, _, hcell⟩ := Rd.at_ dCell 2 (fun _ => rfl) (Hh.out.keep (Keeps.of_below (M := []) Hbr.out) (by simp)) hlt
      obtain rfl : Ad = some ⟨g, off, none⟩ := by injection e1
      clear e1
      have p0 := hcell 0 _ rfl
      have p1 := hcell 1 _ rfl
      rw [Nat.add_zero] at p0
      obtain ⟨hn0, hn1⟩ := Hn.out ds[x] (List.getElem_mem _)
      have htk : ds.take (x + 1) = ds.take x ++ [ds[x]] := List.take_succ_eq_append_getElem hlt
      have HL2 : Hid (L ++ dBytes ds[x] = l ++ (ds.take (x + 1)).flatMap dBytes) := by show _ = _; rw [htk, List.flatMap_append, HL.out]; simp
      have hlen : L.length + (dBytes ds[x]).length ≤ 140737488355000 := by
        have h1 := congrArg List.length HL2.out
        rw [List.length_append, List.length_append] at h1
        have h2 : ((ds.take (x + 1)).flatMap dBytes).length ≤ (ds.flatMap dBytes).length := by
          conv => rhs; rw [← List.take_append_drop (x + 1) ds, List.flatMap_append, List.length_append]
          omega
        have := Hsz.out
        omega
      have hsizes : (dBytes ds[x]).length = (Lib.uvarint ds[x].ser.size).length + ds[x].ser.size + (Lib.uvarint ds[x].n.toNat).length := by
        unfold dBytes; rw [List.length_append, List.length_append]; rfl
      have hdb : dBytes ds[x] = Lib.uvarint ds[x].ser.size ++ sB ds[x].ser ++ Lib.uvarint ds[x].n.toNat := rfl
      clear hcell htk
      generalize hdd : ds[x] = d at *
      obtain ⟨dser, dn⟩ := d
      simp only [] at p0 p1 hn0 hn1 hsizes hdb
      obtain ⟨n, rfl⟩ := Int.eq_ofNat_of_zero_le hn0
      rw [Int.toNat_natCast] at hsizes hdb
      have hbl := Blk.new wr 86 #[.string dser, .int .u64 n]
      have d0 := hbl.cell 0; have d1 := hbl.cell 1
      simp only [List.getElem?_toArray, List.getElem?_cons_succ, List.getElem?_cons_zero] at d0 d1
      have ka : Keeps [] wr (wr.alloc (.cells #[.string dser, .int .u64 n] 86)) := (Keeps.refl _ _).alloc _
      have hbn : wr.heap.size < (wr.alloc (.cells #[.string dser, .int .u64 n] 86)).heap.size := by simp
      have Htx : Hid (Calls Tryz.prog 119 #[.slice A' L.length L.length, .string dser] (wr.alloc (.cells #[.string dser, .int .u64 n] 86)).drew fun e w' => BsPost (L ++ Lib.uvarint dser.size ++ sB dser) (wr.alloc (.cells #[.string dser, .int .u64 n] 86)).drew e w') :=
        text_any _ L dser _ ((HB.out.avoid (M' := []) (by simp)).keep ka.drew (by simp)) (by omega)
      have Hpt : Hid (∀ W A2, Bs W [] (.slice A2 (L ++ Lib.uvarint dser.size ++ sB dser).length (L ++ Lib.uvarint dser.size ++ sB dser).length) (L ++ Lib.uvarint dser.size ++ sB dser) → Calls Tryz.prog 118 #[.slice A2 (L ++ Lib.uvarint dser.size ++ sB dser).length (L ++ Lib.uvarint dser.size ++ sB dser).length, .int .u64 n] W fun e w' => BsPost (L ++ dBytes ⟨dser, n⟩) W e w') := fun W A2 h2 => by
        have := put_any _ (L ++ Lib.uvarint dser.size ++ sB dser) n W h2 (by omega) (by rw [List.length_append, List.length_append]; have : (sB dser).length = dser.size := rfl; omega)
        rw [hdb]
        simpa only [List.append_assoc] using this
      generalize hL2 : L ++ Lib.uvarint dser.size ++ sB dser = L2 at *
      generalize hL3 : L ++ dBytes ⟨dser, n⟩ = L3 at *
      have HMr : Hid (∀ g ∈ M, g < wr.heap.size) := fun g hg => Nat.lt_of_lt_of_le (HM.out g hg) Hbr.out.size
      have Hka := Lib.hid (show Below wr.heap.size wr (wr.alloc (.cells #[.string dser, .int .u64 n] 86)).drew from ka.drew.below)
      clear hlen hsizes hdb hL2 hL3 hbl ka hdd
      go_wp2_with fail
      go_region_held3 (fun w' => w'.cell? ⟨wr.heap.size, 0, none⟩ = some (.string dser) ∧ w'.cell? ⟨wr.heap.size, 1, none⟩ = some (.int .u64 n)) (first | exact ⟨r0, r1⟩ | exact ⟨q0, q1⟩ | exact ⟨d0, d1⟩) (first
        | (go_at_call 119
           refine Htx.out.mono ?_
           rintro e w5 ⟨A5, rfl, hR5, hb5⟩
           have HR5 := Lib.hid (hR5 [] (by simp))
           have Hb5 := Lib.hid (below_then Hka.out hb5)
           have q0 : w5.cell? ⟨wr.heap.size, 0, none⟩ = some (.string dser) := (hb5.cell (p := ⟨wr.heap.size, 0, none⟩) hbn).trans d0
           have q1 : w5.cell? ⟨wr.heap.size, 1, none⟩ = some (.int .u64 n) := (hb5.cell (p := ⟨wr.heap.size, 1, none⟩) hbn).trans d1
           have Hbn5 := Lib.hid (show wr.heap.size < w5.heap.size from Nat.lt_of_lt_of_le hbn hb5.size)
           clear hR5 hb5)
        | (go_at_call 118
           refine (Hpt.out _ A5 HR5.out).mono ?_
           rintro e w6 ⟨A6, rfl, hR6, hb6⟩
           have HR6 := Lib.hid (hR6 M (fun g hg => Nat.lt_of_lt_of_le (HMr.out g hg) Hb5.out.size))
           have Hb6 := Lib.hid (below_then Hb5.out hb6)
           have r0 : w6.cell? ⟨wr.heap.size, 0, none⟩ = some (.string dser) := (hb6.cell (p := ⟨wr.heap.size, 0, none⟩) Hbn5.out).trans q0
           have r1 : w6.cell? ⟨wr.heap.size, 1, none⟩ = some (.int .u64 n) := (hb6.cell (p := ⟨wr.heap.size, 1, none⟩) Hbn5.out).trans q1
           clear hR6 hb6))
      all_goals
        go_wp2
        go_roundw
        case rel => exact ⟨x + 1, A6, L3, by go_num, by omega, rfl, HL2, HR6.out, below_then Hbr.out Hb6.out⟩
        case measure => simp [intOf] <;> omega
    · obtain rfl : x = ds.length := by omega
      have hfin : Hid (L = l ++ ds.flatMap dBytes) := by show _ = _; rw [HL.out, List.take_length]
      have hp : Hid (EPutPost M (l ++ ds.flatMap dBytes) w (.returned (.slice A' L.length L.length)) wr) := by
        show EPutPost _ _ _ _ _
        rw [← hfin.out]
        exact ⟨A', rfl, HB.out, Hbr.out⟩
      go_wp2
      go_ret
      exact hp.out
end Go.Proofs.YtinnifhnabncfaaGreatDoor.Vi
end
/- Contract of entry.Bytes. -/
section
namespace Go.Proofs.YtinnifhnabncfaaGreatDoor.Vi
open Go.RowKit Base Mem Go.Shelf
def headB (k fr tag : Nat) : List UInt8 := [UInt8.ofNat k] ++ Lib.uvarint fr ++ Lib.uvarint tag
def bytesE (e : EntryD) : List UInt8 := headB e.kind.toNat e.fr.toNat e.tag.toNat ++ (if e.kind = 2 then Lib.uvarint e.ser.size ++ sB e.ser else
  Lib.uvarint e.ag.toNat ++ Lib.uvarint e.sh.toNat ++ Lib.uvarint e.seq.toNat ++ Lib.uvarint e.ep.toNat ++ Lib.uvarint e.ds.length ++ e.ds.flatMap dBytes)
/-- The numbers of an entry go into their types. -/
def Wf (e : EntryD) : Prop := e.tag ≤ 9223372036854775807 ∧ e.seq ≤ 9223372036854775807 ∧ e.ep ≤ 9223372036854775807 ∧ ∀ d ∈ e.ds, NOk d
def EB0 (be : List UInt8) (w : World) (r : Ending) (w' : World) : Prop := ∃ A, r = .returned (.tuple #[.slice A be.length be.length, .int .i64 0]) ∧ (∀ M, (∀ g ∈ M, g < w.heap.size) → Bs w' M (.slice A be.length be.length) be) ∧ Below w.heap.size w w'
theorem right_facts {e : EntryD} (h : rightE e = 0) : (0 ≤ e.fr ∧ e.fr < 8 ∧ 0 ≤ e.tag) ∧ (e.kind = 2 ∨ e.kind = 1 ∧ 0 ≤ e.ag ∧ e.ag < 8 ∧ 0 ≤ e.sh ∧ e.sh < 4 ∧ 1 ≤ e.seq ∧ 1 ≤ e.ep ∧ e.ds.length ≤ 8) := by
  unfold rightE at h
  have hk : kindS e = true := by
    cases hk : kindS e with
    | true => rfl
    | false => rw [hk] at h; cases h
  rw [hk, if_neg (by simp)] at h
  have h1 : (!(withinB e.fr 8) || decide (e.tag < 0)) = false := by
    cases h1 : (!(withinB e.fr 8) || decide (e.tag < 0)) with
    | false => rfl
    | true => rw [h1] at h; cases h
  rw [h1, if_neg (by simp)] at h
  unfold withinB at h1
  simp at h1
  refine ⟨by omega, ?_⟩
  by_cases hk1 : e.kind = 1
  · rw [if_pos hk1] at h
    unfold writtenS at h
    have h2 : badId e = false := by
      cases h2 : badId e with
      | false => rfl
      | true => rw [h2] at h; cases h
    rw [h2, if_neg (by simp)] at h
    by_cases h8 : 8 < e.ds.length
    · rw [if_pos h8] at h; cases h
    · unfold badId withinB at h2
      simp at h2
      exact .inr ⟨hk1, by omega⟩
  · unfold kindS at hk
    rw [if_neg hk1] at hk
    by_cases hk2 : e.kind = 2
    · exact .inl hk2
    · rw [if_neg hk2] at hk; cases hk
set_option maxRecDepth 100000 in
set_option maxHeartbeats 1000000 in
theorem ebytes_2 (e : EntryD) (dv : Value) (m : Int) (w : World) (hkind : e.kind = 2) (hr0 : rightE e = 0) (h : Ds w [] dv e.ds) (hs : Short e) (hw : Wf e) (hm : w.cell? ⟨0, 0, none⟩ = some (.int .i64 m)) :
    Calls Tryz.prog 64 #[.agg (eCell (e, dv)).toArray] w fun r w' => EB0 (bytesE e) w r w' := by
  obtain ⟨⟨hf0, hf8, ht0⟩, hrest⟩ := right_facts hr0
  have hri := Lib.hid (fun W (hk : Keeps [] w W) (hmW : W.cell? ⟨0, 0, none⟩ = some (.int .i64 m)) => eright_any e dv m W (h.keep hk (by simp)) hs hmW)
  have hw0 : 0 < w.heap.size := by
    have := World.block_lt_of_cell? w _ hm
    simpa using this
  have HP : Hid (∀ A w', (∀ M, (∀ g ∈ M, g < w.heap.size) → Bs w' M (.slice A (bytesE e).length (bytesE e).length) (bytesE e)) → Below w.heap.size w w' → EB0 (bytesE e) w (.returned (.tuple #[.slice A (bytesE e).length (bytesE e).length, .int .i64 0])) w') := fun A w' h1 h2 => ⟨A, rfl, h1, h2⟩
  rw [hr0] at hri
  obtain ⟨hw1, hw2, hw3, hw4⟩ := hw
  obtain ⟨hs1, hs2, hs3⟩ := hs
  obtain ⟨A, c, rfl, hc⟩ := h.len
  have HBE : Hid (bytesE e = headB e.kind.toNat e.fr.toNat e.tag.toNat ++ (if e.kind = 2 then Lib.uvarint e.ser.size ++ sB e.ser else Lib.uvarint e.ag.toNat ++ Lib.uvarint e.sh.toNat ++ Lib.uvarint e.seq.toNat ++ Lib.uvarint e.ep.toNat ++ Lib.uvarint e.ds.length ++ e.ds.flatMap dBytes)) := rfl
  clear hr0
  generalize bytesE e = be at *
  obtain ⟨kind, ag, sh, seq, ep, ds, ser, fr, tag⟩ := e
  simp only [] at hkind h hf0 hf8 ht0 hrest hri HP hw1 hw2 hw3 hw4 hs1 hs2 hs3 hc HBE
  subst hkind
  obtain ⟨fr, rfl⟩ := Int.eq_ofNat_of_zero_le hf0
  obtain ⟨tag, rfl⟩ := Int.eq_ofNat_of_zero_le ht0
  have ht9 : tag < 18446744073709551616 := by omega
  have hfr9 : fr < 18446744073709551616 := by omega
  rw [Int.toNat_natCast, Int.toNat_natCast] at HBE
  have HE : Hid (be = headB 2 fr tag ++ (Lib.uvarint ser.size ++ sB ser)) := by show _ = _; rw [HBE.out, if_pos rfl]; rfl
  clear HBE hrest
  obtain ⟨w2, hw2e⟩ : ∃ w2, w2 = w.alloc (.cells #[.int .i64 2, .int .i64 ag, .int .i64 sh, .int .i64 seq, .int .i64 ep, .slice A ds.length c, .string ser, .int .i64 fr, .int .i64 tag] 26) := ⟨_, rfl⟩
  have hB : Blk w2 w.heap.size 26 #[.int .i64 2, .int .i64 ag, .int .i64 sh, .int .i64 seq, .int .i64 ep, .slice A ds.length c, .string ser, .int .i64 fr, .int .i64 tag] := by rw [hw2e]; exact Blk.new w _ _
  have hk2 : Keeps [] w w2 := by rw [hw2e]; exact (Keeps.refl _ _).alloc _
  have hm2 : w2.cell? ⟨0, 0, none⟩ = some (.int .i64 m) := (hk2.cell (p := ⟨0, 0, none⟩) hw0 (by simp)).trans hm
  have Hri := Lib.hid (show Calls Tryz.prog 66 #[.agg #[.int .i64 2, .int .i64 ag, .int .i64 sh, .int .i64 seq, .int .i64 ep, .slice A ds.length c, .string ser, .int .i64 fr, .int .i64 tag]] w2 fun r w' => r = .returned (.int .i64 0) ∧ Below w2.heap.size w2 w' from hri.out w2 hk2 hm2)
  have Hk2 := Lib.hid hk2; have Hw2 := Lib.hid hw2e; have HB := Lib.hid hB; have Hh := Lib.hid h
  have c0 := hB.cell 0; have c1 := hB.cell 1; have c2 := hB.cell 2; have c3 := hB.cell 3; have c4 := hB.cell 4; have c5 := hB.cell 5; have c6 := hB.cell 6; have c7 := hB.cell 7; have c8 := hB.cell 8
  simp only [List.getElem?_toArray, List.getElem?_cons_succ, List.getElem?_cons_zero] at c0 c1 c2 c3 c4 c5 c6 c7 c8
  clear hri hB hk2 hm2 hw2e h hm
  show Calls Tryz.prog 64 #[.agg #[.int .i64 2, .int .i64 ag, .int .i64 sh, .int .i64 seq, .int .i64 ep, .slice A ds.length c, .string ser, .int .i64 fr, .int .i64 tag]] w fun r w' => EB0 be w r w'
  go_enter Tryz.func64, Tryz.ntmps64
  go_upto_region 1 with (fail)
  rw [← Hw2.out]
  go_wp2_with fail
  refine Hri.out.mono ?_
  rintro r w3 ⟨rfl, hb3⟩
  have hw2s : w.heap.size < w2.heap.size := HB.out.lt
  have HB3 := Lib.hid (HB.out.below hb3 hw2s)
  have Hk3 : Hid (Keeps [] w w3) := Hk2.out.trans (Keeps.of_below (M := []) hb3) (by simp)
  have c0 := HB3.out.cell 0; have c1 := HB3.out.cell 1; have c2 := HB3.out.cell 2; have c3 := HB3.out.cell 3; have c4 := HB3.out.cell 4; have c5 := HB3.out.cell 5; have c6 := HB3.out.cell 6; have c7 := HB3.out.cell 7; have c8 := HB3.out.cell 8
  simp only [List.getElem?_toArray, List.getElem?_cons_succ, List.getElem?_cons_zero] at c0 c1 c2 c3 c4 c5 c6 c7 c8
  have hw3s : w.heap.size < w3.heap.size := HB3.out.lt
  clear hb3 Hri
  have ka : Keeps [] w3 (w3.alloc (.cells #[.int .u8 2] 5)).drew := ((Keeps.refl _ _).alloc _).drew
  have hBa := HB3.out
  have hb8 : Bs (w3.alloc (.cells #[.int .u8 2] 5)).drew [] (.slice (some ⟨w3.heap.size, 0, none⟩) 1 1) [UInt8.ofNat 2] := ⟨_, _, rfl, Nat.le_refl _, rfl, fun _ => ⟨w3.heap.size, 0, rfl, by simp, by simp, fun j u hu => by
    have := (Blk.new w3 5 #[.int .u8 2]).cell (0 + j)
    rw [show ((w3.alloc (.cells #[.int .u8 2] 5)).drew).cell? ⟨w3.heap.size, 0 + j, none⟩ = (w3.alloc (.cells #[.int .u8 2] 5)).cell? ⟨w3.heap.size, 0 + j, none⟩ from rfl, this, Nat.zero_add]
    cases j with
    | zero => exact hu
    | succ j => cases hu⟩⟩
  have Hp1 : Hid (Calls Tryz.prog 118 #[.slice (some ⟨w3.heap.size, 0, none⟩) 1 1, .int .u64 fr] (w3.alloc (.cells #[.int .u8 2] 5)).drew fun r w' => BsPost ([UInt8.ofNat 2] ++ Lib.uvarint fr) (w3.alloc (.cells #[.int .u8 2] 5)).drew r w') := put_any _ [UInt8.ofNat 2] fr _ hb8 hfr9 (by simp)
  have Hp2 : Hid (∀ W A2, Bs W [] (.slice A2 ([UInt8.ofNat 2] ++ Lib.uvarint fr).length ([UInt8.ofNat 2] ++ Lib.uvarint fr).length) ([UInt8.ofNat 2] ++ Lib.uvarint fr) → Calls Tryz.prog 118 #[.slice A2 ([UInt8.ofNat 2] ++ Lib.uvarint fr).length ([UInt8.ofNat 2] ++ Lib.uvarint fr).length, .int .u64 tag] W fun r w' => BsPost (headB 2 fr tag) W r w') := fun W A2 h2 => by
    have hl := Lib.uvarint_length64 hfr9
    exact put_any _ ([UInt8.ofNat 2] ++ Lib.uvarint fr) tag W h2 ht9 (by rw [List.length_append]; simp; omega)
  have hHl : (headB 2 fr tag).length ≤ 21 := by
    have h1 := Lib.uvarint_length64 hfr9
    have h2 := Lib.uvarint_length64 ht9
    unfold headB
    rw [List.length_append, List.length_append]; simp; omega
  generalize headB 2 fr tag = H at *
  generalize hL1 : [UInt8.ofNat 2] ++ Lib.uvarint fr = L1 at *
  have Hka := Lib.hid (show Below w3.heap.size w3 (w3.alloc (.cells #[.int .u8 2] 5)).drew from ka.below)
  have a0 : (w3.alloc (.cells #[.int .u8 2] 5)).cell? ⟨w.heap.size, 0, none⟩ = some (.int .i64 2) := (Hka.out.cell (p := ⟨w.heap.size, 0, none⟩) hw3s).trans c0
  have a7 : (w3.alloc (.cells #[.int .u8 2] 5)).cell? ⟨w.heap.size, 7, none⟩ = some (.int .i64 fr) := (Hka.out.cell (p := ⟨w.heap.size, 7, none⟩) hw3s).trans c7
  have a8 : (w3.alloc (.cells #[.int .u8 2] 5)).cell? ⟨w.heap.size, 8, none⟩ = some (.int .i64 tag) := (Hka.out.cell (p := ⟨w.heap.size, 8, none⟩) hw3s).trans c8
  clear hb8 ka hBa hL1
  have hfi : (fr : Int) < 8 := by omega
  have hwf : IntKind.u64.wrap (fr : Int) = (fr : Int) := by rw [IntKind.wrap_u64]; omega
  have hwt : IntKind.u64.wrap (tag : Int) = (tag : Int) := by rw [IntKind.wrap_u64]; omega
  have hwk : IntKind.u8.wrap 2 = 2 := by decide
  have hti : (tag : Int) ≤ 9223372036854775807 := by omega
  go_upto_region 4 with (fail)
  go_cut [5] (fun s wx => ∃ A6, s = .slice A6 H.length H.length ∧ Hid (∀ M, (∀ g ∈ M, g < w3.heap.size) → Bs wx M (.slice A6 H.length H.length) H) ∧ Hid (Below w3.heap.size w3 wx))
  case first =>
    go_region_held3 (fun w' => w'.cell? ⟨w.heap.size, 0, none⟩ = some (.int .i64 2) ∧ w'.cell? ⟨w.heap.size, 7, none⟩ = some (.int .i64 fr) ∧ w'.cell? ⟨w.heap.size, 8, none⟩ = some (.int .i64 tag)) (first | exact ⟨r0, r7, r8⟩ | exact ⟨q0, q7, q8⟩ | exact ⟨a0, a7, a8⟩ | exact ⟨c0, c7, c8⟩) (first
      | (go_at_call_of 118 (Value.slice (some ⟨w3.heap.size, 0, none⟩) 1 1)
         with_reducible refine Hp1.out.mono ?_
         rintro r w5 ⟨A5, rfl, hR5, hb5⟩
         have HR5 := Lib.hid (hR5 [] (by simp))
         have Hb5 := Lib.hid (below_then Hka.out hb5)
         have q0 : w5.cell? ⟨w.heap.size, 0, none⟩ = some (.int .i64 2) := (Hb5.out.cell (p := ⟨w.heap.size, 0, none⟩) hw3s).trans c0
         have q7 : w5.cell? ⟨w.heap.size, 7, none⟩ = some (.int .i64 fr) := (Hb5.out.cell (p := ⟨w.heap.size, 7, none⟩) hw3s).trans c7
         have q8 : w5.cell? ⟨w.heap.size, 8, none⟩ = some (.int .i64 tag) := (Hb5.out.cell (p := ⟨w.heap.size, 8, none⟩) hw3s).trans c8
         clear hR5 hb5)
      | (go_at_call 118
         with_reducible refine (Hp2.out _ A5 HR5.out).mono ?_
         rintro r w6 ⟨A6, rfl, hR6, hb6⟩
         have HR6 := Lib.hid (fun M (hM : ∀ g ∈ M, g < w3.heap.size) => hR6 M (fun g hg => Nat.lt_of_lt_of_le (hM g hg) Hb5.out.size))
         have Hb6 := Lib.hid (below_then Hb5.out hb6)
         have r0 : w6.cell? ⟨w.heap.size, 0, none⟩ = some (.int .i64 2) := (Hb6.out.cell (p := ⟨w.heap.size, 0, none⟩) hw3s).trans c0
         have r7 : w6.cell? ⟨w.heap.size, 7, none⟩ = some (.int .i64 fr) := (Hb6.out.cell (p := ⟨w.heap.size, 7, none⟩) hw3s).trans c7
         have r8 : w6.cell? ⟨w.heap.size, 8, none⟩ = some (.int .i64 tag) := (Hb6.out.cell (p := ⟨w.heap.size, 8, none⟩) hw3s).trans c8
         clear hR6 hb6))
    all_goals
      go_wp2_with fail
      go_meet
      exact ⟨A6, rfl, HR6.out, Hb6.out⟩
  case rest =>
    obtain ⟨A6, rfl, HR6, Hb6⟩ := hcut
    clear Hp1 Hp2 a0 a7 a8 Hka c0 c1 c2 c3 c4 c5 c6 c7 c8
    have HB6 := Lib.hid (HB3.out.below Hb6.out hw3s)
    have c0 := HB6.out.cell 0; have c1 := HB6.out.cell 1; have c2 := HB6.out.cell 2; have c3 := HB6.out.cell 3; have c4 := HB6.out.cell 4; have c5 := HB6.out.cell 5; have c6 := HB6.out.cell 6
    simp only [List.getElem?_toArray, List.getElem?_cons_succ, List.getElem?_cons_zero] at c0 c1 c2 c3 c4 c5 c6
    have HA6 := Lib.hid (below_then Hk3.out.below Hb6.out)
    have htx := Lib.hid (text_any _ H ser wc (HR6.out [] (by simp)) (by omega))
    go_wp2_with fail
    refine htx.out.mono ?_
    rintro r w7 ⟨A7, rfl, hR7, hb7⟩
    have hp : Hid (EB0 be w (.returned (.tuple #[.slice A7 (H ++ Lib.uvarint ser.size ++ sB ser).length (H ++ Lib.uvarint ser.size ++ sB ser).length, .int .i64 0])) w7) := by
      have := HP.out A7 w7
      show EB0 _ _ _ _
      rw [HE.out, ← List.append_assoc] at this ⊢
      exact this (fun M hM => hR7 M (fun g hg => Nat.lt_of_lt_of_le (hM g hg) HA6.out.size)) (below_then HA6.out hb7)
    clear hR7 hb7 htx
    generalize H ++ Lib.uvarint ser.size ++ sB ser = F at *
    go_wp2
    go_ret2
    exact hp.out
end Go.Proofs.YtinnifhnabncfaaGreatDoor.Vi
end
/- Contracts of hopperref4.zero, Right. -/
section
namespace Go.Proofs.YtinnifhnabncfaaGreatDoor.Vi
open Go.RowKit Base Mem Go.Shelf
def rzS (e : EntryD) : Bool := if e.kind = 1 then e.ser.toList.isEmpty else eqI e.ag e.sh e.seq 0 0 0 && e.ep == 0 && e.ds.length == 0
set_option maxRecDepth 100000 in
theorem rzero_any (e : EntryD) (A : Option Addr) (c : Nat) (w : World) :
    Calls Tryz.prog 121 #[.agg (eCell (e, .slice A e.ds.length c)).toArray] w fun r w' => BoolPost (rzS e) w r w' := by
  obtain ⟨kind, ag, sh, seq, ep, ds, ser, fr, tag⟩ := e
  have HK : Hid (rzS ⟨kind, ag, sh, seq, ep, ds, ser, fr, tag⟩ = if kind = 1 then ser.toList.isEmpty else eqI ag sh seq 0 0 0 && ep == 0 && ds.length == 0) := rfl
  have hb : Hid (∀ o, Below w.heap.size w (w.alloc o)) := fun o => (Below.refl _ _).alloc (Nat.le_refl _) o
  generalize hn : ds.length = n at *
  simp only [eCell]
  clear hn
  by_cases h1 : kind = 1
  · have hR : Hid (rzS ⟨kind, ag, sh, seq, ep, ds, ser, fr, tag⟩ = ser.toList.isEmpty) := by show _ = _; rw [HK.out, if_pos h1]
    subst h1
    go_enter Tryz.func121, Tryz.ntmps121
    go_wp2
    all_goals go_ret
    all_goals exact ⟨by rw [hR.out]; simp, hb.out _⟩
  · have h1' : (kind == 1) = false := by simpa using h1
    have hR : Hid (rzS ⟨kind, ag, sh, seq, ep, ds, ser, fr, tag⟩ = (eqI ag sh seq 0 0 0 && ep == 0 && n == 0)) := by show _ = _; rw [HK.out, if_neg h1]
    clear h1
    cases h3 : eqI ag sh seq 0 0 0 with
    | false =>
      have he := fun W => eqI_run ag sh seq 0 0 0 false h3 W
      have hR2 : Hid (rzS ⟨kind, ag, sh, seq, ep, ds, ser, fr, tag⟩ = false) := by show _ = _; rw [hR.out, h3]; rfl
      rw [hR2.out]
      clear h3
      go_enter Tryz.func121, Tryz.ntmps121
      go_wp2
      go_ret
      exact ⟨rfl, hb.out _⟩
    | true =>
      have he := fun W => eqI_run ag sh seq 0 0 0 true h3 W
      have hR1 : Hid (rzS ⟨kind, ag, sh, seq, ep, ds, ser, fr, tag⟩ = (true && ep == 0 && n == 0)) := by show _ = _; rw [hR.out, h3]
      clear h3
      cases h4 : (ep == 0) with
      | false =>
        have hR2 : Hid (rzS ⟨kind, ag, sh, seq, ep, ds, ser, fr, tag⟩ = false) := by show _ = _; rw [hR1.out, h4]; simp
        rw [hR2.out]
        go_enter Tryz.func121, Tryz.ntmps121
        go_wp2
        go_ret
        exact ⟨rfl, hb.out _⟩
      | true =>
        have hR2 : Hid (rzS ⟨kind, ag, sh, seq, ep, ds, ser, fr, tag⟩ = ((n : Int) == 0)) := by
          show _ = _
          rw [hR1.out, h4]
          cases n with
          | zero => rfl
          | succ n =>
            rw [show ((n + 1 : Nat) == 0) = false from rfl]
            symm
            rw [Bool.and_false, beq_eq_false_iff_ne]
            omega
        rw [hR2.out]
        go_enter Tryz.func121, Tryz.ntmps121
        go_wp2
        go_ret
        exact ⟨rfl, hb.out _⟩
theorem kind_z (e : EntryD) (h : e.kind = 1 ∨ e.kind = 2) : kindS e = rzS e := by
  unfold kindS rzS
  rcases h with h | h
  · rw [h]; rfl
  · rw [h]; rfl
theorem kind_no (e : EntryD) (h1 : e.kind ≠ 1) (h2 : e.kind ≠ 2) : kindS e = false := by
  unfold kindS
  rw [if_neg h1, if_neg h2]
theorem ite_or2 {α : Type} (a b : Prop) [Decidable a] [Decidable b] (x y : α) : (if a ∨ b then x else y) = if a then x else if b then x else y := by
  by_cases h1 : a
  · rw [if_pos (.inl h1), if_pos h1]
  · by_cases h2 : b
    · rw [if_pos (.inr h2), if_neg h1, if_pos h2]
    · rw [if_neg (by rintro (h | h); exact h1 h; exact h2 h), if_neg h1, if_neg h2]
theorem win_iff (n e : Int) : (!(withinB n e)) = true ↔ (n < 0 ∨ e ≤ n) := by
  unfold withinB
  simp only [Bool.not_eq_true', Bool.and_eq_false_iff, decide_eq_false_iff_not]
  omega
theorem bad_iff (e : EntryD) : badId e = true ↔ (e.ag < 0 ∨ 8 ≤ e.ag ∨ e.sh < 0 ∨ 4 ≤ e.sh ∨ e.seq < 1 ∨ e.ep < 1) := by
  unfold badId
  rw [Bool.or_eq_true, Bool.or_eq_true, Bool.or_eq_true, win_iff, win_iff, decide_eq_true_eq, decide_eq_true_eq]
  omega
theorem fr_iff (e : EntryD) : (!(withinB e.fr 8) || decide (e.tag < 0)) = true ↔ (e.fr < 0 ∨ 8 ≤ e.fr ∨ e.tag < 0) := by
  rw [Bool.or_eq_true, win_iff, decide_eq_true_eq]
  omega
theorem emp_iff (e : EntryD) : (e.ds.length == 0 || e.ds.any fun d => d.n == 0) = true ↔ ((e.ds.any fun d => d.n == 0) = true ∨ e.ds.length = 0) := by
  rw [Bool.or_eq_true, beq_iff_eq]
  exact Or.comm
/-- Why an entry of one kind is not right. -/
theorem right_one (e : EntryD) (h : e.kind = 1) : rightE e = if rzS e = false then 12 else if e.fr < 0 then 1 else if 8 ≤ e.fr then 1 else if e.tag < 0 then 1 else
    if e.ag < 0 then 1 else if 8 ≤ e.ag then 1 else if e.sh < 0 then 1 else if 4 ≤ e.sh then 1 else if e.seq < 1 then 1 else if e.ep < 1 then 1 else
    if 8 < e.ds.length then 3 else if (e.ds.any fun d => d.n == 0) = true then 1 else if e.ds.length = 0 then 1 else if (e.ds.all fun d => serOk d.ser) = true then 0 else 12 := by
  have hw : writtenS e = if (e.ag < 0 ∨ 8 ≤ e.ag ∨ e.sh < 0 ∨ 4 ≤ e.sh ∨ e.seq < 1 ∨ e.ep < 1) then 1 else if 8 < e.ds.length then 3 else if ((e.ds.any fun d => d.n == 0) = true ∨ e.ds.length = 0) then 1 else if (e.ds.all fun d => serOk d.ser) = true then 0 else 12 := by
    unfold writtenS
    simp only [bad_iff, emp_iff]
  have hr : rightE e = if rzS e = false then 12 else if (e.fr < 0 ∨ 8 ≤ e.fr ∨ e.tag < 0) then 1 else writtenS e := by
    unfold rightE
    rw [kind_z e (.inl h)]
    simp only [fr_iff, h, if_true]
  rw [hr, hw]
  simp only [ite_or2]
theorem right_two (e : EntryD) (h : e.kind = 2) : rightE e = if rzS e = false then 12 else if e.fr < 0 then 1 else if 8 ≤ e.fr then 1 else if e.tag < 0 then 1 else if serOk e.ser = true then 0 else 12 := by
  have h1 : ¬ e.kind = 1 := by omega
  have hr : rightE e = if rzS e = false then 12 else if (e.fr < 0 ∨ 8 ≤ e.fr ∨ e.tag < 0) then 1 else if serOk e.ser = true then 0 else 12 := by
    unfold rightE
    rw [kind_z e (.inr h)]
    simp only [fr_iff, h1, if_false]
  rw [hr]
  simp only [ite_or2]
theorem rblk9 {w : World} {g : Nat} {t : TypeId} {c0 c1 c2 c3 c4 c5 c6 c7 c8 : Value} (h : Blk w g t #[c0, c1, c2, c3, c4, c5, c6, c7, c8]) :
    w.cell? ⟨g, 0, none⟩ = some c0 ∧ w.cell? ⟨g, 1, none⟩ = some c1 ∧ w.cell? ⟨g, 2, none⟩ = some c2 ∧ w.cell? ⟨g, 3, none⟩ = some c3 ∧ w.cell? ⟨g, 4, none⟩ = some c4 ∧ w.cell? ⟨g, 5, none⟩ = some c5 ∧ w.cell? ⟨g, 6, none⟩ = some c6 ∧ w.cell? ⟨g, 7, none⟩ = some c7 ∧ w.cell? ⟨g, 8, none⟩ = some c8 ∧ (∀ i, w.frozen? ⟨g, i, none⟩ = false) :=
  ⟨h.cell 0, h.cell 1, h.cell 2, h.cell 3, h.cell 4, h.cell 5, h.cell 6, h.cell 7, h.cell 8, h.frozen⟩
set_option maxRecDepth 100000 in
set_option maxHeartbeats 4000000 in
theorem rrightE_any (e : EntryD) (dv : Value) (w : World) (h : Ds w [] dv e.ds) (hs : Short e) :
    Calls Tryz.prog 65 #[.agg (eCell (e, dv)).toArray] w fun r w' => NumPost (rightE e) w r w' := by
  have HN : Hid (e.kind ≠ 1 → e.kind ≠ 2 → rightE e = 12) := fun h1 h2 => by unfold rightE; rw [kind_no e h1 h2, if_pos rfl]
  have H1 := Lib.hid (right_one e)
  have H2 := Lib.hid (right_two e)
  obtain ⟨hs1, hs2, hs3⟩ := hs
  have hz := Lib.hid (fun A c W => rzero_any e A c W)
  have HD := Lib.hid h
  obtain ⟨A, c, rfl, hc⟩ := h.len
  have hpa := Lib.hid (fun W => rparse_any e.ser W hs1)
  have Hs2 := Lib.hid hs2
  generalize rightE e = rr at *
  generalize rzS e = zs at *
  obtain ⟨kind, ag, sh, seq, ep, ds, ser, fr, tag⟩ := e
  simp only [] at h hs1 hs2 hs3 hz hpa HN H1 H2 HD Hs2 hc
  clear h hs1 hs2
  have hz2 : Hid (∀ W, Calls Tryz.prog 121 #[.agg #[.int .i64 kind, .int .i64 ag, .int .i64 sh, .int .i64 seq, .int .i64 ep, .slice A ds.length c, .string ser, .int .i64 fr, .int .i64 tag]] W fun r w' => r = .returned (.bool zs) ∧ Below W.heap.size W w') := fun W => hz.out A c W
  clear hz
  obtain ⟨w2, hw2⟩ : ∃ w2, w2 = w.alloc (.cells #[.int .i64 kind, .int .i64 ag, .int .i64 sh, .int .i64 seq, .int .i64 ep, .slice A ds.length c, .string ser, .int .i64 fr, .int .i64 tag] 26) := ⟨_, rfl⟩
  have hB : Blk w2 w.heap.size 26 #[.int .i64 kind, .int .i64 ag, .int .i64 sh, .int .i64 seq, .int .i64 ep, .slice A ds.length c, .string ser, .int .i64 fr, .int .i64 tag] := by rw [hw2]; exact Blk.new w _ _
  have hk2 : Keeps [] w w2 := by rw [hw2]; exact (Keeps.refl _ _).alloc _
  have Hk2 := Lib.hid hk2; have Hw2 := Lib.hid hw2; have HB := Lib.hid hB
  obtain ⟨c0, c1, c2, c3, c4, c5, c6, c7, c8, _⟩ := rblk9 hB
  clear hk2 hw2 hB
  show Calls Tryz.prog 65 #[.agg #[.int .i64 kind, .int .i64 ag, .int .i64 sh, .int .i64 seq, .int .i64 ep, .slice A ds.length c, .string ser, .int .i64 fr, .int .i64 tag]] w fun r w' => NumPost rr w r w'
  go_enter Tryz.func65, Tryz.ntmps65
  go_upto_region 1 with (fail)
  rw [← Hw2.out]
  by_cases k1 : kind = 1
  · have HR := Lib.hid (H1.out k1)
    clear H1 H2 HN
    subst k1
    go_wp2_with fail
    refine (hz2.out _).mono ?_
    rintro r w3 ⟨rfl, hb3⟩
    have hw2s : w.heap.size < w2.heap.size := HB.out.lt
    have HB3 := Lib.hid (HB.out.below hb3 hw2s)
    have Hk3 : Hid (Keeps [] w w3) := Hk2.out.trans (Keeps.of_below (M := []) hb3) (by simp)
    clear hb3 hz2 c0 c1 c2 c3 c4 c5 c6 c7 c8
    obtain ⟨c0, c1, c2, c3, c4, c5, c6, c7, c8, _⟩ := rblk9 HB3.out
    have hb30 : w.heap.size < w3.heap.size := HB3.out.lt
    cases zs with
    | false =>
      have hR : Hid (rr = 12) := by show _ = _; rw [HR.out, if_pos rfl]
      clear HR
      go_wp2
      go_ret
      exact ⟨by rw [hR.out]; rfl, Hk3.out.below⟩
    | true =>
      replace HR := Lib.hid (HR.out.trans (if_neg (by simp)))
      by_cases q1 : fr < 0
      · have hR := Lib.hid (HR.out.trans (if_pos q1))
        clear HR
        go_wp2
        go_ret
        exact ⟨by rw [hR.out]; rfl, Hk3.out.below⟩
      · have q1' : decide (fr < 0) = false := decide_eq_false q1
        replace HR := Lib.hid (HR.out.trans (if_neg q1))
        clear q1
        by_cases q2 : 8 ≤ fr
        · have hR := Lib.hid (HR.out.trans (if_pos q2))
          clear HR
          go_wp2
          go_ret
          exact ⟨by rw [hR.out]; rfl, Hk3.out.below⟩
        · have q2' : decide (8 ≤ fr) = false := decide_eq_false q2
          replace HR := Lib.hid (HR.out.trans (if_neg q2))
          clear q2
          by_cases q3 : tag < 0
          · have hR := Lib.hid (HR.out.trans (if_pos q3))
            clear HR
            go_wp2
            go_ret
            exact ⟨by rw [hR.out]; rfl, Hk3.out.below⟩
          · have q3' : decide (tag < 0) = false := decide_eq_false q3
            replace HR := Lib.hid (HR.out.trans (if_neg q3))
            clear q3
            go_upto_region 8 with (fail)
            by_cases q4 : ag < 0
            · have hR := Lib.hid (HR.out.trans (if_pos q4))
              clear HR
              go_wp2
              go_ret
              exact ⟨by rw [hR.out]; rfl, Hk3.out.below⟩
            · have q4' : decide (ag < 0) = false := decide_eq_false q4
              replace HR := Lib.hid (HR.out.trans (if_neg q4))
              clear q4
              by_cases q5 : 8 ≤ ag
              · have hR := Lib.hid (HR.out.trans (if_pos q5))
                clear HR
                go_wp2
                go_ret
                exact ⟨by rw [hR.out]; rfl, Hk3.out.below⟩
              · have q5' : decide (8 ≤ ag) = false := decide_eq_false q5
                replace HR := Lib.hid (HR.out.trans (if_neg q5))
                clear q5
                by_cases q6 : sh < 0
                · have hR := Lib.hid (HR.out.trans (if_pos q6))
                  clear HR
                  go_wp2
                  go_ret
                  exact ⟨by rw [hR.out]; rfl, Hk3.out.below⟩
                · have q6' : decide (sh < 0) = false := decide_eq_false q6
                  replace HR := Lib.hid (HR.out.trans (if_neg q6))
                  clear q6
                  by_cases q7 : 4 ≤ sh
                  · have hR := Lib.hid (HR.out.trans (if_pos q7))
                    clear HR
                    go_wp2
                    go_ret
                    exact ⟨by rw [hR.out]; rfl, Hk3.out.below⟩
                  · have q7' : decide (4 ≤ sh) = false := decide_eq_false q7
                    replace HR := Lib.hid (HR.out.trans (if_neg q7))
                    clear q7
                    by_cases q8 : seq < 1
                    · have hR := Lib.hid (HR.out.trans (if_pos q8))
                      clear HR
                      go_wp2
                      go_ret
                      exact ⟨by rw [hR.out]; rfl, Hk3.out.below⟩
                    · have q8' : decide (seq < 1) = false := decide_eq_false q8
                      replace HR := Lib.hid (HR.out.trans (if_neg q8))
                      clear q8
                      by_cases q9 : ep < 1
                      · have hR := Lib.hid (HR.out.trans (if_pos q9))
                        clear HR
                        go_wp2
                        go_ret
                        exact ⟨by rw [hR.out]; rfl, Hk3.out.below⟩
                      · have q9' : decide (ep < 1) = false := decide_eq_false q9
                        replace HR := Lib.hid (HR.out.trans (if_neg q9))
                        clear q9
                        by_cases h8 : 8 < ds.length
                        · have hR := Lib.hid (HR.out.trans (if_pos h8))
                          have h8i : (8 : Int) < (ds.length : Int) := by omega
                          clear HR
                          go_wp2
                          go_ret
                          exact ⟨by rw [hR.out]; rfl, Hk3.out.below⟩
                        · have h8i : decide ((8 : Int) < (ds.length : Int)) = false := decide_eq_false (by omega)
                          replace HR := Lib.hid (HR.out.trans (if_neg h8))
                          have HD3 := Lib.hid (HD.out.keep (M' := []) Hk3.out (by simp))
                          go_wp2_with fail
                          go_loopw [87] (fun i wr => ∃ x : Nat, i = .int .i64 x ∧ x ≤ ds.length ∧ Hid (((ds.take x).any fun d => d.n == 0) = false) ∧ Hid (Below w3.heap.size w3 wr)) (fun i _ => ds.length - (intOf i).toNat)
                          case atStart => exact ⟨0, rfl, by omega, rfl, Below.refl _ _⟩
                          case round =>
                            obtain ⟨x, rfl, hx, Hno, Hbr⟩ := hrel
                            by_cases hlt : x < ds.length
                            · have hx1 : (x : Int) < (ds.length : Int) := by omega
                              obtain ⟨g, off, _, e1, _, hg, _, hcell⟩ := Rd.at_ dCell 2 (fun _ => rfl) (HD3.out.keep (Keeps.of_below (M := []) Hbr.out) (by simp)) hlt
                              obtain rfl : A = some ⟨g, off, none⟩ := by injection e1
                              clear e1
                              have p0 := hcell 0 _ rfl
                              have p1 := hcell 1 _ rfl
                              rw [Nat.add_zero] at p0
                              clear hcell
                              have Hnx : Hid (((ds.take (x + 1)).any fun d => d.n == 0) = (ds[x].n == 0)) := by
                                show _ = _
                                rw [List.take_succ_eq_append_getElem hlt, List.any_append, Hno.out]; simp
                              have Hbad : Hid ((ds[x].n == 0) = true → (ds.any fun d => d.n == 0) = true) := fun h => List.any_eq_true.2 ⟨ds[x], List.getElem_mem _, h⟩
                              have Hba := Lib.hid (Hbr.out.alloc Hbr.out.size (.cells #[.string ds[x].ser, .int .u64 ds[x].n] 86))
                              generalize ds[x] = d at *
                              obtain ⟨dser, dn⟩ := d
                              simp only [] at p0 p1 Hnx Hbad Hba
                              cases hz : (dn == 0) with
                              | true =>
                                have hR := Lib.hid (HR.out.trans (if_pos (Hbad.out hz)))
                                obtain rfl : dn = 0 := by simpa using hz
                                clear HR Hbad Hnx
                                go_wp2
                                go_ret
                                exact ⟨by rw [hR.out]; rfl, below_then Hk3.out.below Hba.out⟩
                              | false =>
                                have ho : Hid (((ds.take (x + 1)).any fun d => d.n == 0) = false) := by show _ = _; rw [Hnx.out, hz]
                                clear HR Hbad Hnx
                                go_wp2
                                go_roundw
                                case rel => exact ⟨x + 1, by go_num, by omega, ho, Hba⟩
                                case measure => simp [intOf] <;> omega
                            · obtain rfl : x = ds.length := by omega
                              replace HR := Lib.hid (HR.out.trans (if_neg (by have := Hno.out; rw [List.take_length] at this; rw [this]; simp)))
                              have HBr := Lib.hid (HB3.out.below Hbr.out hb30)
                              have Hkr := Lib.hid (Hk3.out.trans (Keeps.of_below (M := []) Hbr.out) (by simp))
                              clear c0 c1 c2 c3 c4 c5 c6 c7 c8 Hno
                              obtain ⟨c0, c1, c2, c3, c4, c5, c6, c7, c8, _⟩ := rblk9 HBr.out
                              by_cases hn : ds.length = 0
                              · have hR := Lib.hid (HR.out.trans (if_pos hn))
                                have hni : ((ds.length : Int) == 0) = true := by rw [beq_iff_eq]; omega
                                have hni2 : (ds.length : Int) = 0 := by omega
                                clear HR
                                go_wp2
                                go_ret
                                exact ⟨by rw [hR.out]; rfl, Hkr.out.below⟩
                              · have hni : ((ds.length : Int) == 0) = false := by rw [beq_eq_false_iff_ne]; omega
                                replace HR := Lib.hid (HR.out.trans (if_neg hn))
                                have HD4 := Lib.hid (HD.out.keep (M' := []) Hkr.out (by simp))
                                clear HD3 Hk3 Hbr HB3
                                go_wp2_with fail
                                go_loopw [102] (fun i wq => ∃ x : Nat, i = .int .i64 x ∧ x ≤ ds.length ∧ Hid (((ds.take x).all fun d => serOk d.ser) = true) ∧ Hid (Below wr.heap.size wr wq)) (fun i _ => ds.length - (intOf i).toNat)
                                case atStart => exact ⟨0, rfl, by omega, rfl, Below.refl _ _⟩
                                case round =>
                                  obtain ⟨x, rfl, hx2, Hall, Hbq⟩ := hrel
                                  by_cases hlt2 : x < ds.length
                                  · have hx1 : (x : Int) < (ds.length : Int) := by omega
                                    obtain ⟨g, off, _, e1, _, hg, _, hcell⟩ := Rd.at_ dCell 2 (fun _ => rfl) (HD4.out.keep (Keeps.of_below (M := []) Hbq.out) (by simp)) hlt2
                                    obtain rfl : A = some ⟨g, off, none⟩ := by injection e1
                                    clear e1
                                    have p0 := hcell 0 _ rfl
                                    have p1 := hcell 1 _ rfl
                                    rw [Nat.add_zero] at p0
                                    clear hcell
                                    have Hnx : Hid (((ds.take (x + 1)).all fun d => serOk d.ser) = serOk ds[x].ser) := by
                                      show _ = _
                                      rw [List.take_succ_eq_append_getElem hlt2, List.all_append, Hall.out]; simp
                                    have Hbad : Hid (serOk ds[x].ser = false → ¬ (ds.all fun d => serOk d.ser) = true) := fun h hall => by
                                      have := List.all_eq_true.1 hall ds[x] (List.getElem_mem _)
                                      simp only [h] at this; cases this
                                    have hpa2 := Lib.hid (fun W => show Calls Tryz.prog 122 #[.string ds[x].ser] W fun e w' => ∃ v, e = .returned (.tuple #[v, .int .i64 (if serOk ds[x].ser = true then 0 else 12)]) ∧ Below W.heap.size W w' from rparse_any ds[x].ser W (Hs2.out ds[x] (List.getElem_mem _)))
                                    have Hba := Lib.hid (Hbq.out.alloc Hbq.out.size (.cells #[.string ds[x].ser, .int .u64 ds[x].n] 86))
                                    generalize ds[x] = d at *
                                    obtain ⟨dser, dn⟩ := d
                                    simp only [] at p0 p1 Hnx Hbad Hba hpa2
                                    cases hok : serOk dser with
                                    | true =>
                                      have ho : Hid (((ds.take (x + 1)).all fun d => serOk d.ser) = true) := by show _ = _; rw [Hnx.out, hok]
                                      rw [hok, if_pos rfl] at hpa2
                                      clear HR Hbad Hnx hok
                                      go_wp2_with fail
                                      refine (hpa2.out _).mono ?_
                                      rintro r w5 ⟨v5, rfl, hb5⟩
                                      have Hb5 := Lib.hid (below_then Hba.out hb5)
                                      clear hb5 hpa2
                                      go_wp2
                                      go_roundw
                                      case rel => exact ⟨x + 1, by go_num, by omega, ho, Hb5⟩
                                      case measure => simp [intOf] <;> omega
                                    | false =>
                                      have hR := Lib.hid (HR.out.trans (if_neg (Hbad.out hok)))
                                      rw [hok, if_neg (by simp)] at hpa2
                                      clear HR Hbad Hnx hok
                                      go_wp2_with fail
                                      refine (hpa2.out _).mono ?_
                                      rintro r w5 ⟨v5, rfl, hb5⟩
                                      have Hb5 := Lib.hid (below_then Hkr.out.below (below_then Hba.out hb5))
                                      clear hb5 hpa2
                                      go_wp2
                                      go_ret
                                      exact ⟨by rw [hR.out]; rfl, Hb5.out⟩
                                  · obtain rfl : x = ds.length := by omega
                                    have hR := Lib.hid (HR.out.trans (if_pos (by have := Hall.out; rwa [List.take_length] at this)))
                                    clear HR
                                    go_wp2
                                    go_ret
                                    exact ⟨by rw [hR.out]; rfl, below_then Hkr.out.below Hbq.out⟩
  · have k1' : (kind == 1) = false := by simpa using k1
    by_cases k2 : kind = 2
    · have HR := Lib.hid (H2.out k2)
      clear H1 H2 HN
      subst k2
      go_wp2_with fail
      refine (hz2.out _).mono ?_
      rintro r w3 ⟨rfl, hb3⟩
      have hw2s : w.heap.size < w2.heap.size := HB.out.lt
      have HB3 := Lib.hid (HB.out.below hb3 hw2s)
      have Hk3 : Hid (Keeps [] w w3) := Hk2.out.trans (Keeps.of_below (M := []) hb3) (by simp)
      clear hb3 hz2 c0 c1 c2 c3 c4 c5 c6 c7 c8
      obtain ⟨c0, c1, c2, c3, c4, c5, c6, c7, c8, _⟩ := rblk9 HB3.out
      have hb30 : w.heap.size < w3.heap.size := HB3.out.lt
      cases zs with
      | false =>
        have hR : Hid (rr = 12) := by show _ = _; rw [HR.out, if_pos rfl]
        clear HR
        go_wp2
        go_ret
        exact ⟨by rw [hR.out]; rfl, Hk3.out.below⟩
      | true =>
        replace HR := Lib.hid (HR.out.trans (if_neg (by simp)))
        by_cases q1 : fr < 0
        · have hR := Lib.hid (HR.out.trans (if_pos q1))
          clear HR
          go_wp2
          go_ret
          exact ⟨by rw [hR.out]; rfl, Hk3.out.below⟩
        · have q1' : decide (fr < 0) = false := decide_eq_false q1
          replace HR := Lib.hid (HR.out.trans (if_neg q1))
          clear q1
          by_cases q2 : 8 ≤ fr
          · have hR := Lib.hid (HR.out.trans (if_pos q2))
            clear HR
            go_wp2
            go_ret
            exact ⟨by rw [hR.out]; rfl, Hk3.out.below⟩
          · have q2' : decide (8 ≤ fr) = false := decide_eq_false q2
            replace HR := Lib.hid (HR.out.trans (if_neg q2))
            clear q2
            by_cases q3 : tag < 0
            · have hR := Lib.hid (HR.out.trans (if_pos q3))
              clear HR
              go_wp2
              go_ret
              exact ⟨by rw [hR.out]; rfl, Hk3.out.below⟩
            · have q3' : decide (tag < 0) = false := decide_eq_false q3
              replace HR := Lib.hid (HR.out.trans (if_neg q3))
              clear q3
              have hpa2 := Lib.hid (fun W => show Calls Tryz.prog 122 #[.string ser] W fun e w' => ∃ v, e = .returned (.tuple #[v, .int .i64 (if serOk ser = true then 0 else 12)]) ∧ Below W.heap.size W w' from hpa.out W)
              clear hpa
              have hR : Hid (((if serOk ser = true then 0 else 12 : Int)) = (rr : Int)) := by show _ = _; rw [HR.out]; split <;> rfl
              clear HR
              generalize (if serOk ser = true then 0 else 12 : Int) = rv at *
              go_wp2_with fail
              refine (hpa2.out _).mono ?_
              rintro r w4 ⟨v4, rfl, hb4⟩
              have Hb4 := Lib.hid (below_then Hk3.out.below hb4)
              clear hb4 hpa2
              go_wp2
              go_ret
              exact ⟨by rw [hR.out]; rfl, Hb4.out⟩
    · have k2' : (kind == 2) = false := by simpa using k2
      have hR := Lib.hid (HN.out k1 k2)
      have k1n : (kind != 1) = true := by rw [bne_iff_ne]; exact k1
      have k2n : (kind != 2) = true := by rw [bne_iff_ne]; exact k2
      clear H1 H2 HN
      go_wp2
      go_ret
      exact ⟨by rw [hR.out]; rfl, Hk2.out.below⟩
end Go.Proofs.YtinnifhnabncfaaGreatDoor.Vi
end
