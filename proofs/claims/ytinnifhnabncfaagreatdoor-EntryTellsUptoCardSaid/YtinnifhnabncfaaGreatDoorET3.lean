/- Texts put together: Lab5, Lab6, RfL, Ref8, RefA, PlN, PlF, Crc, CatLay, Cat, FrB. -/
import Derived.Lib.SplitLaws
import Derived.Sort.LotA
import Derived.Shelf.SlGeneric
import Derived.Shelf.Spec.SlicesGrow
import Derived.Test.YtinnifhnabncfaaGreatDoorProg
import Derived.ArgAppend
import Derived.Test.YtinnifhnabncfaaGreatDoorET1
import Derived.Test.YtinnifhnabncfaaGreatDoorET2
set_option linter.unusedVariables false
set_option linter.unusedSimpArgs false
/- Contract of label.Text. -/
section
namespace Go.Proofs.YtinnifhnabncfaaGreatDoor.Vi
open Go.RowKit Base Mem Go.Sort Go.Shelf
def pairB (x : LabD) : ByteArray := x.name ++ ⟨#[61]⟩ ++ x.value
def joinB (l : List LabD) : ByteArray := ⟨(Lib.join ((l.map pairB).map (·.data.toList)) [44]).toArray⟩
/-- A series of labels; else why not. -/
def ltextS (l : List LabD) : ByteArray × Nat := if rightS l = 0 then (joinB (sortL l), 0) else (⟨#[]⟩, rightS l)
theorem pairB_len (x : LabD) : (pairB x).data.toList.length = x.name.size + 1 + x.value.size := by
  unfold pairB
  rw [ByteArray.data_append, ByteArray.data_append, Array.toList_append, Array.toList_append, List.length_append, List.length_append]
  rfl
theorem join_len (l : List LabD) (h : ∀ x ∈ l, x.name.size ≤ 32 ∧ x.value.size ≤ 32) : (Lib.join ((l.map pairB).map (·.data.toList)) [44]).length ≤ 66 * l.length := by
  induction l with
  | nil => simp [Lib.join_nil]
  | cons a r ih =>
    rw [List.map_cons, List.map_cons, Lib.join_cons]
    have ha := h a (by simp)
    have hp := pairB_len a
    have hr : ∀ (r : List LabD), (∀ x ∈ r, x.name.size ≤ 32 ∧ x.value.size ≤ 32) → (Lib.joinTail [44] ((r.map pairB).map (·.data.toList))).length ≤ 66 * r.length := by
      intro r hr
      induction r with
      | nil => simp [Lib.joinTail]
      | cons b q ihq =>
        have hb := hr b (by simp)
        have hpb := pairB_len b
        have := ihq (fun x hx => hr x (List.mem_cons_of_mem _ hx))
        simp only [Lib.joinTail, List.map_cons, List.flatten_cons, List.length_append, List.length_cons, List.length_nil] at this ⊢
        omega
    have := hr r (fun x hx => h x (List.mem_cons_of_mem _ hx))
    rw [List.length_append, List.length_cons]
    omega
theorem okRow_sizes {s : List LabD} (h : okRow s = true) : ∀ x ∈ s, x.name.size ≤ 32 ∧ x.value.size ≤ 32 := by
  intro x hx
  obtain ⟨i, hi, rfl⟩ := List.getElem_of_mem hx
  unfold okRow at h
  rw [List.all_eq_true] at h
  have h1 := h i (List.mem_range.2 hi)
  unfold itemOk at h1
  rw [getElem!_pos s i hi, Bool.and_eq_true, Bool.and_eq_true] at h1
  have h2 := h1.1.1
  have h3 := h1.1.2
  unfold nameOk at h2 h3
  simp at h2 h3
  omega
theorem infoStr : (Tryz.prog.info? 9).map (fun i => (i.zero, i.size, i.bytes)) = some (some (.string ByteArray.empty), 1, 16) := by kernel_rfl
def TextPost (l : List LabD) (w : World) (e : Ending) (w' : World) : Prop := e = .returned (.tuple #[.string (ltextS l).1, .int .i64 (ltextS l).2]) ∧ Below w.heap.size w w'
set_option maxRecDepth 100000 in
theorem ltext_any (v : Value) (l : List LabD) (w : World) (h : Labs w [] v l) (hl : l.length ≤ 4611686018427387904) :
    Calls Tryz.prog 175 #[v] w fun e w' => TextPost l w e w' := by
  have hri := Lib.hid (lright_any v l w h hl)
  have HT : Hid (ltextS l = if rightS l = 0 then (joinB (sortL l), 0) else (⟨#[]⟩, rightS l)) := rfl
  by_cases hr0 : rightS l = 0
  · have hR : Hid (ltextS l = (joinB (sortL l), 0)) := by show _ = _; rw [HT.out, if_pos hr0]
    have hl8 : l.length ≤ 8 ∧ okRow (sortL l) = true := by
      unfold rightS at hr0
      by_cases h8 : 8 < l.length
      · rw [if_pos h8] at hr0; cases hr0
      · rw [if_neg h8] at hr0
        refine ⟨by omega, ?_⟩
        cases hk : okRow (sortL l) with
        | true => rfl
        | false => rw [hk] at hr0; simp at hr0
    obtain ⟨hl8, hok⟩ := hl8
    have hjl := Lib.hid (join_len (sortL l) (okRow_sizes hok))
    have hsz := Lib.hid (okRow_sizes hok)
    rw [hr0] at hri
    have hso := Lib.hid (fun W (hk : Keeps [] w W) => sorted_any v l W (h.keep hk (by simp)) (by omega))
    obtain ⟨A, c, rfl, hc⟩ := h.len
    have hs8 : (sortL l).length ≤ 8 := by rw [sortL_len]; omega
    have hs0 : 0 < (sortL l).length := by
      rw [sortL_len]
      unfold rightS at hr0
      rw [if_neg (by omega), hok] at hr0
      rcases Nat.eq_zero_or_pos l.length with hz | hz
      · rw [hz] at hr0; simp at hr0
      · exact hz
    clear h HT hr0 hok
    obtain ⟨i0, hi0, hz0, hz1, hz2⟩ := info_parts infoStr
    have Hi0 := Lib.hid hi0; have Hz0 := Lib.hid hz0; have Hz1 := Lib.hid hz1; have Hz2 := Lib.hid hz2
    clear hi0 hz0 hz1 hz2
    generalize sortL l = s at *
    go_enter Tryz.func175, Tryz.ntmps175
    go_wp2_with fail
    refine hri.out.mono ?_
    rintro e w1 ⟨rfl, hb1⟩
    have hso1 := Lib.hid (hso.out w1 (Keeps.of_below hb1))
    have Hb1 := Lib.hid hb1
    clear hb1 hri hso
    go_wp2_with fail
    refine hso1.out.mono ?_
    rintro e w2 ⟨A1, rfl, hA, hb2⟩
    have HA := Lib.hid (hA [] (by simp)); have Hb2 := Lib.hid (below_then Hb1.out hb2)
    clear hA hb2 hso1 Hb1
    go_wp2_with fail
    go_loopw [5, 16] (fun out i wr => ∃ x : Nat, i = .int .i64 x ∧ x ≤ s.length ∧ Hid (wr.ownsRow w2.heap.size 9 1 out x ((s.take x).map fun y => Value.string (pairB y))) ∧ Hid (Below w2.heap.size w2 wr)) (fun _ i _ => s.length - (intOf i).toNat)
    case atStart => exact ⟨0, rfl, by omega, World.ownsRow_nil _ _ _ _, Below.refl _ _⟩
    case round =>
      obtain ⟨x, rfl, hx, Hown, Hbr⟩ := hrel
      by_cases hlt : x < s.length
      · have hx1 : (x : Int) < (s.length : Int) := by omega
        obtain ⟨g, off, _, e1, hg, c0, c1⟩ := (HA.out.keep (Keeps.of_below (M := []) Hbr.out) (by simp)).at_ hlt
        obtain rfl : A1 = some ⟨g, off, none⟩ := by injection e1
        clear e1
        have Htk : Hid (s.take (x + 1) = s.take x ++ [s[x]]) := List.take_succ_eq_append_getElem hlt
        have Hpb : Hid (pairB s[x] = s[x].name ++ ⟨#[61]⟩ ++ s[x].value) := rfl
        have hd32 := hsz.out s[x] (List.getElem_mem _)
        generalize s[x] = d at *
        have k1 : ¬ (9223372036854775807 < d.name.size + 1) := by omega
        have k2 : ¬ (9223372036854775807 < d.name.size + 1 + d.value.size) := by omega
        have k3 : ¬ (9223372036854775807 < (d.name ++ ⟨#[61]⟩).size + d.value.size) := by rw [ByteArray.size_append]; exact k2
        clear hd32
        have Hrd : Hid (Reads ((wr.alloc (.cells #[.string d.name, .string d.value] 215)).alloc (.cells #[.string (d.name ++ ⟨#[61]⟩ ++ d.value)] 9)) (wr.heap.size + 2) 1 (some ⟨wr.heap.size + 1, 0, none⟩) 1 [.string (d.name ++ ⟨#[61]⟩ ++ d.value)]) := by
          have := reads_new (wr.alloc (.cells #[.string d.name, .string d.value] 215)) 9 1 1 [.string (d.name ++ ⟨#[61]⟩ ++ d.value)] rfl
          show Reads _ _ _ _ _ _
          simpa using this
        have Hown3 := Lib.hid ((Hown.out.alloc (.cells #[.string d.name, .string d.value] 215)).alloc (.cells #[.string (d.name ++ ⟨#[61]⟩ ++ d.value)] 9))
        have hz2 : w2.heap.size ≤ wr.heap.size := Hbr.out.size
        have hb0 : w2.heap.size ≤ ((wr.alloc (.cells #[.string d.name, .string d.value] 215)).alloc (.cells #[.string (d.name ++ ⟨#[61]⟩ ++ d.value)] 9)).heap.size := by simp; omega
        have hm1 : x + 1 ≤ maxLen := by unfold maxLen; omega
        have hm2 : (x + 1) * 16 ≤ 140737488355328 := by omega
        have hone : ∀ u ∈ [Value.string (d.name ++ ⟨#[61]⟩ ++ d.value)], u.oneCell' = true := by intro u hu; simp at hu; subst hu; rfl
        have Hb0 := Lib.hid hb0; have Hm1 := Lib.hid hm1; have Hm2 := Lib.hid hm2; have Hone := Lib.hid hone
        clear hb0 hm1 hm2 hone
        go_wp2_with (at_builtin; refine wpList_append_any _ rfl (.tmp 20) (.tmp 27) _ rfl w2.heap.size 9 i0 _ 1 16 Tryz.underlying102 Hi0.out Hz0.out Hz1.out Hz2.out rfl (by omega) u5 x ((s.take x).map fun y => Value.string (pairB y)) rfl Hown3.out (wr.heap.size + 2) (some ⟨wr.heap.size + 1, 0, none⟩) 1 1 [.string (d.name ++ ⟨#[61]⟩ ++ d.value)] rfl Hrd.out Hone.out Hm1.out Hm2.out Hb0.out ?_)
        intro v4 w4 hown4 hg4 hat4
        have Hown4 : Hid (w4.ownsRow w2.heap.size 9 1 v4 (x + 1) ((s.take (x + 1)).map fun y => Value.string (pairB y))) := by
          show World.ownsRow _ _ _ _ _ _ _
          rw [Htk.out, List.map_append, List.map_cons, List.map_nil, Hpb.out, List.map_take]
          exact hown4
        have Hb4 : Hid (Below w2.heap.size w2 w4) := ((Hbr.out.alloc Hbr.out.size _).alloc (by simp; omega) _).grown hg4 (by simp; omega) (fun g hg => (Hown.out.lt g hg).1)
        clear hown4 hg4 hat4
        go_wp2
        go_roundw
        case rel => exact ⟨x + 1, by go_num, by omega, Hown4, Hb4⟩
        case measure => simp [intOf] <;> omega
      · obtain rfl : x = s.length := by omega
        have hrow : ∃ g c, u5 = .slice (some ⟨g, 0, none⟩) s.length c ∧ s.length ≤ c ∧ g < wr.heap.size ∧ ∀ (j : Nat) x, (s.map pairB)[j]? = some x → wr.cell? ⟨g, 0 + j, none⟩ = some (.string x) := by
          have h1 := Hown.out
          rw [List.take_length] at h1
          obtain ⟨g, cap, hv, hge, hgl⟩ := h1.form hs0
          subst hv
          have hrd := Rd.of_own (M := []) h1 (by simp)
          obtain ⟨A', c', he, hc', _, hx⟩ := hrd
          injection he with e1 _ e3
          subst e1 e3
          obtain ⟨g', off', e, _, _, hcell⟩ := hx hs0
          injection e with e
          injection e with e1 e2 _
          subst e1 e2
          refine ⟨g, cap, rfl, hc', hgl, fun j x hjx => hcell j _ ?_⟩
          rw [List.getElem?_map] at hjx ⊢
          cases hsj : s[j]? with
          | none => rw [hsj] at hjx; cases hjx
          | some d => rw [hsj] at hjx; injection hjx with hjx; rw [← hjx]; rfl
        obtain ⟨g, cj, rfl, hcj, hgl, hcell⟩ := hrow
        have hjo := Tryz.strings_Join g 0 cj (s.map pairB) ⟨#[44]⟩ wr hcell hgl (by rw [List.length_map]; omega) (by rw [List.length_map]; exact hcj) (Nat.le_trans hjl.out (by omega))
        rw [List.length_map] at hjo
        have Hjo := Lib.hid (show Calls Tryz.prog 199 #[.slice (some ⟨g, 0, none⟩) s.length cj, .string ⟨#[44]⟩] wr fun e w' => e = .returned (.string (joinB s)) ∧ Below wr.heap.size wr w' from hjo)
        have Hall := Lib.hid (below_then Hb2.out Hbr.out)
        clear hjo hcell
        go_wp2_with fail
        refine Hjo.out.mono ?_
        rintro e w5 ⟨rfl, hb5⟩
        have hp : Hid (TextPost l w (.returned (.tuple #[.string (joinB s), .int .i64 0])) w5) := by
          exact ⟨by rw [hR.out]; rfl, below_then Hall.out hb5⟩
        clear hb5
        go_wp2
        go_ret2
        exact hp.out
  · have hR : Hid (ltextS l = (⟨#[]⟩, rightS l)) := by show _ = _; rw [HT.out, if_neg hr0]
    obtain ⟨A, c, rfl, hc⟩ := h.len
    have hri2 : ((rightS l : Int) != 0) = true := by simpa using hr0
    clear h HT hr0
    have hp : Hid (∀ w1, Below w.heap.size w w1 → TextPost l w (.returned (.tuple #[.string ⟨#[]⟩, .int .i64 (rightS l)])) w1) := fun w1 hb => ⟨by rw [hR.out], hb⟩
    generalize rightS l = r at *
    go_enter Tryz.func175, Tryz.ntmps175
    go_wp2_with fail
    refine hri.out.mono ?_
    rintro e w1 ⟨rfl, hb1⟩
    have Hp := Lib.hid (hp.out _ hb1)
    clear hb1 hp
    go_wp2
    go_ret2
    exact Hp.out
end Go.Proofs.YtinnifhnabncfaaGreatDoor.Vi
end
/- Contract of label.Parse. -/
section
namespace Go.Proofs.YtinnifhnabncfaaGreatDoor.Vi
open Go.RowKit Base Mem Go.Sort Go.Shelf
def partsS (s : ByteArray) : List ByteArray := Lib.splitB ⟨#[44]⟩ 0 (Lib.countB s ⟨#[44]⟩) s
def cutD (p : ByteArray) : LabD := ⟨⟨(Lib.cut p.data.toList [61]).1.toArray⟩, ⟨(Lib.cut p.data.toList [61]).2.1.toArray⟩⟩
def labsS (s : ByteArray) : List LabD := (partsS s).map cutD
/-- Is a text a series? -/
def serOk (s : ByteArray) : Bool := decide ((ltextS (labsS s)).2 = 0) && (ltextS (labsS s)).1.toList == s.toList
theorem splitB_size (sep : ByteArray) : ∀ (k : Nat) (s : ByteArray), ∀ p ∈ Lib.splitB sep 0 k s, p.size ≤ s.size
  | 0, s, p, h => by rw [Lib.splitB_zero] at h; simp at h; subst h; exact Nat.le_refl _
  | k + 1, s, p, h => by
    unfold Lib.splitB at h
    split at h
    · simp at h; subst h; exact Nat.le_refl _
    · rcases List.mem_cons.1 h with h | h
      · subst h; rw [ByteArray.size_extract]; omega
      · have := splitB_size sep k _ p h
        rw [ByteArray.size_extract] at this
        omega
def ParsePost (s : ByteArray) (w : World) (e : Ending) (w' : World) : Prop := ∃ v, e = .returned (.tuple #[v, .int .i64 (if serOk s = true then 0 else 12)]) ∧ Below w.heap.size w w'
set_option maxRecDepth 100000 in
set_option maxHeartbeats 1000000 in
theorem parse_any (s : ByteArray) (m : Int) (w : World) (hs : s.size < 4294967281) (hm : w.cell? ⟨0, 0, none⟩ = some (.int .i64 m)) :
    Calls Tryz.prog 126 #[.string s] w fun e w' => ParsePost s w e w' := by
  have hsp := Lib.hid (Tryz.strings_Split s ⟨#[44]⟩ m w hs hm (by decide))
  have hsz := Lib.hid (splitB_size ⟨#[44]⟩ (Lib.countB s ⟨#[44]⟩) s)
  have hcl := Lib.countB_le ⟨#[44]⟩ (by decide) s.size s (Nat.le_refl _)
  have hln : (partsS s).length = Lib.countB s ⟨#[44]⟩ + 1 := Lib.splitB_all ⟨#[44]⟩ (by decide) 0 _ s rfl
  have hw0 : 0 < w.heap.size := by
    rcases Nat.eq_zero_or_pos w.heap.size with h | h
    · exfalso
      have := World.block_lt_of_cell? w _ hm
      simp at this; omega
    · exact h
  have Hm := Lib.hid hm
  have HO : Hid (serOk s = (decide ((ltextS (labsS s)).2 = 0) && (ltextS (labsS s)).1.toList == s.toList)) := rfl
  have HL : Hid (labsS s = (partsS s).map cutD) := rfl
  obtain ⟨i0, hi0, hz0, hz1, hz2⟩ := info_parts infoLabel
  have Hi0 := Lib.hid hi0; have Hz0 := Lib.hid hz0; have Hz1 := Lib.hid hz1; have Hz2 := Lib.hid hz2
  clear hi0 hz0 hz1 hz2 hm
  have hps : Hid (∀ p ∈ partsS s, p.size ≤ s.size) := hsz.out
  have hpd : Hid (partsS s = Lib.splitB ⟨#[44]⟩ 0 (Lib.countB s ⟨#[44]⟩) s) := rfl
  rw [← hpd.out] at hsp
  rw [← hln] at hsp
  have hlen : (partsS s).length ≤ 4294967295 := by omega
  clear hsz hpd hln hcl
  generalize partsS s = ps at *
  generalize labsS s = ls at *
  go_enter Tryz.func126, Tryz.ntmps126
  go_wp2_with fail
  refine hsp.out.mono ?_
  rintro e w1 ⟨rfl, hw1⟩
  have hb1 : Below w.heap.size w w1 := by rw [hw1]; exact (Below.refl _ _).alloc (Nat.le_refl _) _
  have hB1 : Blk w1 w.heap.size 9 (ps.map Value.string).toArray := by rw [hw1]; exact Blk.new w _ _
  have Hb1 := Lib.hid hb1; have HB1 := Lib.hid hB1
  have hw1s : w.heap.size < w1.heap.size := hB1.lt
  clear hw1 hb1 hB1 hsp
  go_wp2_with fail
  go_loopw [4, 15] (fun out i wr => ∃ x : Nat, i = .int .i64 x ∧ x ≤ ps.length ∧ Hid (wr.ownsRow w1.heap.size 215 2 out x (((ps.take x).map cutD).flatMap labEnc)) ∧ Hid (Below w1.heap.size w1 wr)) (fun _ i _ => ps.length - (intOf i).toNat)
  case atStart => exact ⟨0, rfl, by omega, World.ownsRow_nil _ _ _ _, Below.refl _ _⟩
  case round =>
    obtain ⟨x, rfl, hx, Hown, Hbr⟩ := hrel
    by_cases hlt : x < ps.length
    · have hx1 : (x : Int) < (ps.length : Int) := by omega
      have c0 : wr.cell? ⟨w.heap.size, x, none⟩ = some (.string ps[x]) := by
        rw [(HB1.out.below Hbr.out hw1s).cell x, List.getElem?_toArray, List.getElem?_map, List.getElem?_eq_getElem hlt]; rfl
      have Htk : Hid (ps.take (x + 1) = ps.take x ++ [ps[x]]) := List.take_succ_eq_append_getElem hlt
      have hpx := hps.out ps[x] (List.getElem_mem _)
      have hmr : wr.cell? ⟨0, 0, none⟩ = some (.int .i64 m) := (Hbr.out.cell (p := ⟨0, 0, none⟩) (by simp; omega)).trans ((Hb1.out.cell (p := ⟨0, 0, none⟩) hw0).trans Hm.out)
      generalize ps[x] = p at *
      have hcu := Lib.hid (Tryz.strings_Cut p ⟨#[61]⟩ m wr (by omega) hmr)
      have Hcd : Hid (cutD p = ⟨⟨(Lib.cut p.data.toList [61]).1.toArray⟩, ⟨(Lib.cut p.data.toList [61]).2.1.toArray⟩⟩) := rfl
      have hcu2 := Lib.hid (show Calls Tryz.prog 174 #[.string p, .string ⟨#[61]⟩] wr fun e w' => e = .returned (.tuple #[.string (cutD p).name, .string (cutD p).value, .bool (Lib.cut p.data.toList [61]).2.2]) ∧ ∃ n, w' = wr.drewN n from hcu.out)
      clear hcu Hcd hmr hpx
      generalize hd : cutD p = d at *
      have Hd := Lib.hid hd
      generalize (Lib.cut p.data.toList [61]).2.2 = fnd at *
      clear hd
      have Htk2 : Hid ((ps.take (x + 1)).map cutD = (ps.take x).map cutD ++ [d]) := by show _ = _; rw [Htk.out, List.map_append, List.map_cons, List.map_nil, Hd.out]
      have hz2 : w1.heap.size ≤ wr.heap.size := Hbr.out.size
      have Hm1 : Hid (x + 1 ≤ maxLen) := by show _ ≤ _; unfold maxLen; omega
      have Hm2 : Hid ((x + 1) * 32 ≤ 140737488355328) := by show _ ≤ _; omega
      have Hone : Hid (∀ u ∈ labEnc d, u.oneCell' = true) := fun u hu => by simp [labEnc] at hu; rcases hu with rfl | rfl <;> rfl
      have Hown3 : Hid (∀ n, ((wr.drewN n).alloc (.cells #[.string d.name, .string d.value] 215)).ownsRow w1.heap.size 215 2 u4 x (((ps.take x).map cutD).flatMap labEnc)) := fun n =>
        own_keep Hown.out (((Keeps.refl [] wr).drewN n).alloc _) (by simp)
      have Hrd : Hid (∀ n, Reads ((wr.drewN n).alloc (.cells #[.string d.name, .string d.value] 215)) (wr.heap.size + 1) 2 (some ⟨wr.heap.size, 0, none⟩) 1 (labEnc d)) := fun n => reads_new (wr.drewN n) 215 2 1 (labEnc d) rfl
      clear Htk Hd
      go_wp2_with fail
      refine hcu2.out.mono ?_
      rintro e w3 ⟨rfl, n, rfl⟩
      go_wp2_with (at_builtin; refine wpList_append_any _ rfl (.tmp 25) (.tmp 29) _ rfl w1.heap.size 215 i0 _ 2 32 Tryz.underlying168 Hi0.out Hz0.out Hz1.out Hz2.out rfl (by omega) u4 x (((ps.take x).map cutD).flatMap labEnc) rfl (Hown3.out n) (wr.heap.size + 1) (some ⟨wr.heap.size, 0, none⟩) 1 1 (labEnc d) rfl (Hrd.out n) Hone.out Hm1.out Hm2.out (by simp; omega) ?_)
      intro v4 w4 hown4 hg4 hat4
      have Hown4 : Hid (w4.ownsRow w1.heap.size 215 2 v4 (x + 1) (((ps.take (x + 1)).map cutD).flatMap labEnc)) := by
        show World.ownsRow _ _ _ _ _ _ _
        rw [Htk2.out, List.flatMap_append]
        simpa using hown4
      have Hb4 : Hid (Below w1.heap.size w1 w4) := (((Keeps.of_below (M := []) Hbr.out).drewN n).alloc _).below.grown hg4 (by simp; omega) (fun g hg => (Hown.out.lt g hg).1)
      clear hown4 hg4 hat4
      go_wp2
      go_roundw
      case rel => exact ⟨x + 1, by go_num, by omega, Hown4, Hb4⟩
      case measure => simp [intOf] <;> omega
    · obtain rfl : x = ps.length := by omega
      have hown := Hown.out
      rw [List.take_length, ← HL.out] at hown
      have hll : ps.length = ls.length := by rw [HL.out, List.length_map]
      rw [hll] at hown
      have hlab : Labs wr [] u4 ls := Rd.of_own hown (by simp)
      have htx := Lib.hid (show Calls Tryz.prog 175 #[u4] wr fun e w' => e = .returned (.tuple #[.string (ltextS ls).1, .int .i64 (ltextS ls).2]) ∧ Below wr.heap.size wr w' from ltext_any u4 ls wr hlab (by rw [← hll]; omega))
      obtain ⟨A4, c4, rfl, hc4⟩ := hlab.len
      have Hall := Lib.hid (below_then Hb1.out Hbr.out)
      have hp : Hid (∀ v w', Below wr.heap.size wr w' → ParsePost s w (.returned (.tuple #[v, .int .i64 (if serOk s = true then 0 else 12)])) w') := fun v w' hb => ⟨v, rfl, below_then Hall.out hb⟩
      clear hown hlab hll Hown
      generalize ltextS ls = t at *
      obtain ⟨t1, t2⟩ := t
      simp only at HO htx
      go_wp2_with fail
      refine htx.out.mono ?_
      rintro e w5 ⟨rfl, hb5⟩
      by_cases h2 : t2 = 0
      · subst h2
        by_cases h3 : (t1.toList == s.toList) = true
        · have hok : Hid (serOk s = true) := by show _ = _; rw [HO.out, h3]; rfl
          have Hp := Lib.hid (hp.out (.slice A4 ls.length ls.length) w5 hb5)
          rw [hok.out, if_pos rfl] at Hp
          clear hp htx hb5
          go_wp2_with fail
          refine (clipLabel A4 ls.length c4 _ hc4).mono ?_
          rintro e w' ⟨rfl, rfl⟩
          go_wp2
          go_ret2
          exact Hp.out
        · have h3' : (t1.toList == s.toList) = false := by simpa using h3
          have hok : Hid (serOk s = false) := by show _ = _; rw [HO.out, h3']; rfl
          have Hp := Lib.hid (hp.out (.slice none 0 0) w5 hb5)
          rw [hok.out, if_neg (by simp)] at Hp
          clear hp htx hb5 h3
          go_wp2
          go_ret2
          exact Hp.out
      · have hne : ((t2 : Int) != 0) = true := by simpa using h2
        have hok : Hid (serOk s = false) := by show _ = _; rw [HO.out, decide_eq_false h2]; rfl
        have Hp := Lib.hid (hp.out (.slice none 0 0) w5 hb5)
        rw [hok.out, if_neg (by simp)] at Hp
        clear hp htx hb5 h2
        go_wp2
        go_ret2
        exact Hp.out
end Go.Proofs.YtinnifhnabncfaaGreatDoor.Vi
end
/- Plain words: the document's way to read a series' name is ours. -/
section
namespace Go.Proofs.YtinnifhnabncfaaGreatDoor.Vi
open Go.RowKit Base Mem Go.Sort Go.Shelf
/-- A text parted at each byte c. -/
def splitC (c : UInt8) : List UInt8 → List (List UInt8)
  | [] => [[]]
  | x :: r => if x = c then [] :: splitC c r else match splitC c r with
    | [] => [[x]]
    | h :: t => (x :: h) :: t
theorem splitC_none {c : UInt8} : ∀ {l : List UInt8}, c ∉ l → splitC c l = [l]
  | [], _ => rfl
  | x :: r, h => by
    rw [splitC, if_neg (fun e => h (by simp [e])), splitC_none (fun hm => h (by simp [hm]))]
theorem splitC_hit {c : UInt8} (r : List UInt8) : ∀ {a : List UInt8}, c ∉ a → splitC c (a ++ c :: r) = a :: splitC c r
  | [], _ => by rw [List.nil_append, splitC, if_pos rfl]
  | x :: a, h => by
    rw [List.cons_append, splitC, if_neg (fun e => h (by simp [e])), splitC_hit r (fun hm => h (by simp [hm]))]
theorem index_hit1 (c : UInt8) (r : List UInt8) : ∀ (a : List UInt8), c ∉ a → Lib.index (a ++ c :: r) [c] = a.length
  | [], _ => by rw [List.nil_append, Lib.index]; simp [List.isPrefixOf]
  | x :: a, h => by
    have hne : x ≠ c := fun e => h (by simp [e])
    have hp : ([c] : List UInt8).isPrefixOf (x :: (a ++ c :: r)) = false := by simp [List.isPrefixOf, Ne.symm hne]
    have ih := index_hit1 c r a (fun hm => h (by simp [hm]))
    rw [List.cons_append, Lib.index, hp, ih]
    have : ¬ (((a.length : Int) == -1) = true) := by simp
    rw [if_neg (by simp), if_neg this, List.length_cons]
    rfl
theorem index_none1 (c : UInt8) : ∀ (a : List UInt8), c ∉ a → Lib.index a [c] = -1
  | [], _ => by rw [Lib.index]; simp
  | x :: a, h => by
    have hne : x ≠ c := fun e => h (by simp [e])
    have hp : ([c] : List UInt8).isPrefixOf (x :: a) = false := by simp [List.isPrefixOf, Ne.symm hne]
    rw [Lib.index, hp, index_none1 c a (fun hm => h (by simp [hm]))]
    simp
theorem splitK_C (c : UInt8) : ∀ (n : Nat) (s : List UInt8), s.length ≤ n → Lib.splitK [c] 0 (s.count c) s = splitC c s
  | n, s, hn => by
    by_cases hm : c ∈ s
    · obtain ⟨a, r, rfl, ha⟩ := List.eq_append_cons_of_mem hm
      have hc : (a ++ c :: r).count c = r.count c + 1 := by rw [List.count_append, List.count_eq_zero.2 ha, List.count_cons_self]; omega
      cases n with
      | zero => simp at hn
      | succ n =>
        have ih := splitK_C c n r (by simp at hn; omega)
        rw [hc, Lib.splitK, index_hit1 c r a ha, if_neg (by simp), splitC_hit r ha]
        simp only [Int.toNat_natCast, Nat.add_zero, List.length_singleton]
        rw [List.take_left, ← ih]
        congr 2
        rw [show a ++ c :: r = (a ++ [c]) ++ r by simp, show a.length + 1 = (a ++ [c]).length by simp, List.drop_left]
    · rw [List.count_eq_zero.2 hm, Lib.splitK, splitC_none hm]
theorem parts_C (s : ByteArray) : (partsS s).map (·.data.toList) = splitC 44 s.data.toList := by
  unfold partsS
  rw [Lib.splitB_data]
  have : Lib.countB s ⟨#[44]⟩ = s.data.toList.count 44 := Lib.count_one 44 s.data.toList
  rw [this]
  exact splitK_C 44 _ _ (Nat.le_refl _)
def cutL2 (p : List UInt8) : LabD := ⟨⟨(Lib.cut p [61]).1.toArray⟩, ⟨(Lib.cut p [61]).2.1.toArray⟩⟩
theorem labs_C (s : ByteArray) : labsS s = (splitC 44 s.data.toList).map cutL2 := by
  rw [← parts_C, List.map_map]; rfl
theorem cut_hit1 {c : UInt8} (a r : List UInt8) (h : c ∉ a) : Lib.cut (a ++ c :: r) [c] = (a, r, true) := by
  unfold Lib.cut
  rw [index_hit1 c r a h, if_pos (by omega)]
  simp only [Int.toNat_natCast, List.length_singleton]
  rw [List.take_left, show a ++ c :: r = (a ++ [c]) ++ r by simp, show a.length + 1 = (a ++ [c]).length by simp, List.drop_left]
theorem cut_none1 {c : UInt8} (a : List UInt8) (h : c ∉ a) : Lib.cut a [c] = (a, [], false) := by
  unfold Lib.cut
  rw [index_none1 c a h, if_neg (by omega)]
/-- The labels of parts, if each has a name and a value. -/
def rlabs : List (List UInt8) → Option (List LabD)
  | [] => some []
  | p :: ps => match splitC 61 p with
    | [a, b] => (rlabs ps).map (⟨⟨a.toArray⟩, ⟨b.toArray⟩⟩ :: ·)
    | _ => none
theorem splitC_two {c : UInt8} {p a b : List UInt8} (h : splitC c p = [a, b]) : p = a ++ c :: b ∧ c ∉ a := by
  by_cases hm : c ∈ p
  · obtain ⟨x, r, rfl, hx⟩ := List.eq_append_cons_of_mem hm
    rw [splitC_hit r hx] at h
    injection h with h1 h2
    subst h1
    by_cases hr : c ∈ r
    · obtain ⟨y, r', rfl, hy⟩ := List.eq_append_cons_of_mem hr
      rw [splitC_hit r' hy] at h2
      injection h2 with _ h3
      have : ∀ l : List UInt8, splitC c l ≠ [] := by
        intro l
        cases l with
        | nil => simp [splitC]
        | cons x r =>
          rw [splitC]
          split
          · simp
          · split <;> simp
      exact absurd h3 (this _)
    · rw [splitC_none hr] at h2
      injection h2 with h2 _
      subst h2
      exact ⟨rfl, hx⟩
  · rw [splitC_none hm] at h; injection h with _ h; cases h
theorem rlabs_cut : ∀ (ps : List (List UInt8)) (l : List LabD), rlabs ps = some l → ps.map cutL2 = l
  | [], l, h => by simp [rlabs] at h; subst h; rfl
  | p :: ps, l, h => by
    rw [rlabs] at h
    split at h
    · rename_i a b hab
      obtain ⟨rfl, ha⟩ := splitC_two hab
      obtain ⟨l', hl, rfl⟩ := Option.map_eq_some_iff.1 h
      rw [List.map_cons, rlabs_cut ps l' hl]
      congr 1
      unfold cutL2
      rw [cut_hit1 a b ha]
    · cases h
theorem name_no {s : ByteArray} (h : nameOk s = true) : 61 ∉ s.data.toList ∧ s.data.toList ≠ [] := by
  unfold nameOk at h
  simp only [Bool.and_eq_true, decide_eq_true_eq, List.all_eq_true] at h
  refine ⟨fun hm => ?_, fun he => ?_⟩
  · have := h.2 61 hm
    simp [charOk] at this
  · have h1 := h.1.1
    have : s.size = s.data.toList.length := rfl
    rw [he] at this
    rw [this] at h1
    simp at h1
theorem rlabs_some : ∀ (ps : List (List UInt8)), (∀ x ∈ ps.map cutL2, nameOk x.value = true) → rlabs ps = some (ps.map cutL2)
  | [], _ => rfl
  | p :: ps, h => by
    have ih := rlabs_some ps (fun x hx => h x (by simp at hx ⊢; exact .inr hx))
    have hp := name_no (h (cutL2 p) (by simp))
    have h2 : ∃ a b, splitC 61 p = [a, b] ∧ cutL2 p = ⟨⟨a.toArray⟩, ⟨b.toArray⟩⟩ := by
      by_cases hm : (61 : UInt8) ∈ p
      · obtain ⟨a, r, rfl, ha⟩ := List.eq_append_cons_of_mem hm
        have hc : cutL2 (a ++ 61 :: r) = ⟨⟨a.toArray⟩, ⟨r.toArray⟩⟩ := by unfold cutL2; rw [cut_hit1 a r ha]
        rw [hc] at hp
        have hr : (61 : UInt8) ∉ r := by simpa using hp.1
        exact ⟨a, r, by rw [splitC_hit r ha, splitC_none hr], hc⟩
      · exfalso
        have hc : cutL2 p = ⟨⟨p.toArray⟩, ⟨([] : List UInt8).toArray⟩⟩ := by unfold cutL2; rw [cut_none1 p hm]
        rw [hc] at hp
        exact hp.2 (by simp)
    obtain ⟨a, b, hs, hc⟩ := h2
    rw [rlabs, hs, ih]
    simp [hc]
/-- Do labels have names and values that may be, no name twice? -/
def rokRow (l : List LabD) : Bool := (l.all fun x => nameOk x.name && nameOk x.value) && decide ((l.map (·.name.toList)).Nodup)
def rrightS (l : List LabD) : Nat := if 8 < l.length then 3 else if rokRow l = false then 1 else if l.length = 0 then 1 else 0
/-- A label laid into labels from the last one on. -/
def rinsR (x : LabD) : List LabD → List LabD
  | [] => [x]
  | y :: r => if sLt x.name y.name = true then y :: rinsR x r else x :: y :: r
def rins (x : LabD) (out : List LabD) : List LabD := (rinsR x out.reverse).reverse
def rsortL (l : List LabD) : List LabD := l.foldl (fun out x => rins x out) []
theorem sLt_lt (x y : ByteArray) : sLt x y = decide (x.toList < y.toList) := bytesLess_eq _ _
theorem ltOf_name (a b : LabD) : ltOf cmpL a b = sLt a.name b.name := by
  unfold ltOf cmpL cmpS
  cases h : sLt a.name b.name
  · simp only [Bool.false_eq_true, if_false]
    split <;> simp
  · simp
theorem swo_lab : SWO (ltOf cmpL) where
  irrefl x := by rw [ltOf_name, sLt_lt]; simp [List.lt_irrefl]
  trans x y z h1 h2 := by simp only [ltOf_name, sLt_lt, decide_eq_true_eq] at *; exact List.lt_trans h1 h2
  ntrans x y z h1 h2 := by
    simp only [ltOf_name, sLt_lt, decide_eq_false_iff_not, List.not_lt] at *
    exact List.le_trans h2 h1
/-- Labels in order: none is before one ahead of it. -/
def Ord (l : List LabD) : Prop := l.Pairwise fun a b => sLt b.name a.name = false
theorem sortL_facts (l : List LabD) : (sortL l).Perm l ∧ Ord (sortL l) := by
  obtain ⟨⟨h1, h2, h3⟩, h4⟩ := insertionSort_holds (lt := ltOf cmpL) swo_lab l.toArray 0 l.length (Nat.zero_le _) (by simp)
  unfold sortL
  generalize insertionSort (ltOf cmpL) l.toArray 0 l.length = d at *
  have hs : d.size = l.length := by simpa using h1
  have e1 : d.extract 0 l.length = d := by rw [← hs]; simp
  have e2 : l.toArray.extract 0 l.length = l.toArray := by simp
  rw [e1, e2] at h3
  refine ⟨by simpa using h3, ?_⟩
  unfold Ord
  rw [List.pairwise_iff_getElem]
  intro i j hi hj hij
  have := h4 i j (Nat.zero_le _) hij (by simpa [hs] using hj)
  rw [ltOf_name] at this
  have a1 : d[j]! = d.toList[j] := by rw [getElem!_pos d j (by simpa using hj)]; simp
  have a2 : d[i]! = d.toList[i] := by rw [getElem!_pos d i (by simpa using hi)]; simp
  rw [a1, a2] at this
  exact this
theorem rinsR_perm (x : LabD) : ∀ r, (rinsR x r).Perm (x :: r)
  | [] => List.Perm.refl _
  | y :: r => by
    rw [rinsR]
    split
    · exact ((rinsR_perm x r).cons y).trans (List.Perm.swap x y r)
    · exact List.Perm.refl _
theorem rinsR_ord (x : LabD) : ∀ r : List LabD, (r.Pairwise fun a b => sLt a.name b.name = false) → (rinsR x r).Pairwise fun a b => sLt a.name b.name = false
  | [], _ => by simp [rinsR]
  | y :: r, h => by
    rw [List.pairwise_cons] at h
    rw [rinsR]
    split
    · rename_i hlt
      rw [List.pairwise_cons]
      refine ⟨fun z hz => ?_, rinsR_ord x r h.2⟩
      rcases List.mem_cons.1 ((rinsR_perm x r).mem_iff.1 hz) with rfl | hz
      · rw [sLt_lt] at hlt ⊢
        have := of_decide_eq_true hlt
        exact decide_eq_false (fun h2 => List.lt_irrefl _ (List.lt_trans this h2))
      · exact h.1 z hz
    · rename_i hn
      rw [List.pairwise_cons, List.pairwise_cons]
      have hn' : sLt x.name y.name = false := by simpa using hn
      refine ⟨fun z hz => ?_, h⟩
      rcases List.mem_cons.1 hz with rfl | hz
      · exact hn'
      · have h1 := h.1 z hz
        rw [sLt_lt] at *
        have a := of_decide_eq_false hn'
        have b := of_decide_eq_false h1
        exact decide_eq_false (List.not_lt.2 (List.le_trans (List.not_lt.1 b) (List.not_lt.1 a)))
theorem rins_facts (x : LabD) (out : List LabD) (h : Ord out) : (rins x out).Perm (x :: out) ∧ Ord (rins x out) := by
  unfold rins Ord at *
  refine ⟨(List.reverse_perm _).trans ((rinsR_perm x _).trans ((List.reverse_perm _).cons x)), ?_⟩
  rw [List.pairwise_reverse]
  exact rinsR_ord x _ (by rw [List.pairwise_reverse]; exact h)
theorem rsortL_facts (l : List LabD) : (rsortL l).Perm l ∧ Ord (rsortL l) := by
  have : ∀ (l out : List LabD), Ord out → (l.foldl (fun out x => rins x out) out).Perm (out ++ l) ∧ Ord (l.foldl (fun out x => rins x out) out) := by
    intro l
    induction l with
    | nil => intro out h; exact ⟨by simp, h⟩
    | cons x l ih =>
      intro out h
      obtain ⟨h1, h2⟩ := rins_facts x out h
      obtain ⟨h3, h4⟩ := ih (rins x out) h2
      refine ⟨h3.trans ?_, h4⟩
      have : (out ++ x :: l).Perm (x :: out ++ l) := by simp
      exact (h1.append_right l).trans this.symm
  have := this l [] List.Pairwise.nil
  rw [List.nil_append] at this
  exact this
theorem toList_inj2 {a b : ByteArray} (h : a.toList = b.toList) : a = b := by
  rw [Lib.toList_data, Lib.toList_data] at h
  obtain ⟨⟨a⟩⟩ := a
  obtain ⟨⟨b⟩⟩ := b
  simp at h
  rw [h]
theorem sort_eq (l : List LabD) (hn : (l.map (·.name.toList)).Nodup) : rsortL l = sortL l := by
  obtain ⟨p1, o1⟩ := rsortL_facts l
  obtain ⟨p2, o2⟩ := sortL_facts l
  refine List.Perm.eq_of_pairwise (fun a b ha hb h1 h2 => ?_) o1 o2 (p1.trans p2.symm)
  rw [sLt_lt] at h1 h2
  have e : a.name.toList = b.name.toList := List.le_antisymm (List.not_lt.1 (of_decide_eq_false h1)) (List.not_lt.1 (of_decide_eq_false h2))
  have ha' := p1.mem_iff.1 ha
  have hb' := p2.mem_iff.1 hb
  have : ∀ l : List LabD, (l.map (·.name.toList)).Nodup → a ∈ l → b ∈ l → a = b := by
    intro l
    induction l with
    | nil => intro _ h; simp at h
    | cons x l ih =>
      intro hn ha hb
      rw [List.map_cons, List.nodup_cons] at hn
      rcases List.mem_cons.1 ha with ea | ha2
      · rcases List.mem_cons.1 hb with eb | hb2
        · exact ea.trans eb.symm
        · exact absurd (List.mem_map.2 ⟨b, hb2, by rw [← ea]; exact e.symm⟩ : x.name.toList ∈ l.map (·.name.toList)) hn.1
      · rcases List.mem_cons.1 hb with eb | hb2
        · exact absurd (List.mem_map.2 ⟨a, ha2, by rw [← eb]; exact e⟩ : x.name.toList ∈ l.map (·.name.toList)) hn.1
        · exact ih hn.2 ha2 hb2
  exact this l hn ha' hb'
theorem okRow_iff (s : List LabD) (ho : Ord s) : okRow s = true ↔ (∀ x ∈ s, nameOk x.name = true ∧ nameOk x.value = true) ∧ (s.map (·.name.toList)).Nodup := by
  have hle : ∀ i j (hi : i < s.length) (hj : j < s.length), i ≤ j → s[i].name.toList ≤ s[j].name.toList := by
    intro i j hi hj hij
    rcases Nat.lt_or_ge i j with h | h
    · have := List.pairwise_iff_getElem.1 ho i j hi hj h
      rw [sLt_lt] at this
      exact List.not_lt.1 (of_decide_eq_false this)
    · have : i = j := by omega
      subst this
      exact List.le_refl _
  unfold okRow
  rw [List.all_eq_true]
  simp only [List.mem_range]
  constructor
  · intro h
    have hi : ∀ i (hi : i < s.length), nameOk s[i].name = true ∧ nameOk s[i].value = true ∧ (i = 0 ∨ s[i - 1]!.name.toList ≠ s[i].name.toList) := by
      intro i hi
      have := h i hi
      unfold itemOk at this
      rw [getElem!_pos s i hi] at this
      simp only [Bool.and_eq_true, Bool.or_eq_true, beq_iff_eq, Bool.not_eq_true', beq_eq_false_iff_ne] at this
      exact ⟨this.1.1, this.1.2, this.2⟩
    refine ⟨fun x hx => ?_, ?_⟩
    · obtain ⟨i, hi', rfl⟩ := List.getElem_of_mem hx
      exact ⟨(hi i hi').1, (hi i hi').2.1⟩
    · rw [List.Nodup, List.pairwise_map, List.pairwise_iff_getElem]
      intro i j hi1 hj1 hij he
      rcases (hi j hj1).2.2 with h0 | hne
      · omega
      · rw [getElem!_pos s (j - 1) (by omega)] at hne
        have h1 := hle i (j - 1) hi1 (by omega) (by omega)
        rw [he] at h1
        exact hne (List.le_antisymm (hle (j - 1) j (by omega) hj1 (by omega)) h1)
  · rintro ⟨h1, h2⟩ i hi
    unfold itemOk
    rw [getElem!_pos s i hi]
    have := h1 s[i] (List.getElem_mem hi)
    rw [this.1, this.2]
    rcases Nat.eq_zero_or_pos i with rfl | hp
    · rfl
    · rw [getElem!_pos s (i - 1) (by omega)]
      rw [List.Nodup, List.pairwise_map, List.pairwise_iff_getElem] at h2
      have := h2 (i - 1) i (by omega) hi (by omega)
      simp only [Bool.and_self, Bool.true_and, Bool.or_eq_true, Bool.not_eq_true', beq_eq_false_iff_ne]
      exact .inr this
theorem rok_eq (l : List LabD) : okRow (sortL l) = rokRow l := by
  obtain ⟨p, o⟩ := sortL_facts l
  rw [Bool.eq_iff_iff, okRow_iff _ o]
  unfold rokRow
  rw [Bool.and_eq_true, decide_eq_true_eq, List.all_eq_true, (p.map _).nodup_iff]
  refine and_congr_left fun _ => ⟨fun h x hx => ?_, fun h x hx => ?_⟩
  · have := h x (p.mem_iff.2 hx)
    rw [this.1, this.2]; rfl
  · have := h x (p.mem_iff.1 hx)
    rw [Bool.and_eq_true] at this
    exact this
theorem rright_eq (l : List LabD) : rrightS l = rightS l := by unfold rrightS rightS; rw [rok_eq]
/-- The document's text of labels; else why not. -/
def rtextS (l : List LabD) : ByteArray × Nat := if rrightS l = 0 then (joinB (rsortL l), 0) else (⟨#[]⟩, rrightS l)
theorem right_ok {l : List LabD} (h : rightS l = 0) : rokRow l = true := by
  unfold rightS at h
  rw [rok_eq] at h
  cases ho : rokRow l with
  | true => rfl
  | false =>
    rw [ho] at h
    split at h
    · cases h
    · simp at h
theorem rtext_eq (l : List LabD) : rtextS l = ltextS l := by
  unfold rtextS ltextS
  rw [rright_eq]
  split
  · rename_i h
    have := right_ok h
    unfold rokRow at this
    rw [Bool.and_eq_true, decide_eq_true_eq] at this
    rw [sort_eq l this.2]
  · rfl
/-- Is a text a series, as the document says? -/
def rparse (s : ByteArray) : Bool := match rlabs (splitC 44 s.data.toList) with
  | none => false
  | some l => decide ((rtextS l).2 = 0) && (rtextS l).1.toList == s.toList
theorem rparse_eq (s : ByteArray) : rparse s = serOk s := by
  unfold rparse serOk
  rw [labs_C]
  cases h : rlabs (splitC 44 s.data.toList) with
  | some l =>
    rw [rlabs_cut _ _ h]
    show (decide ((rtextS l).2 = 0) && (rtextS l).1.toList == s.toList) = _
    rw [rtext_eq]
  | none =>
    refine Eq.symm ?_
    show _ = false
    rw [Bool.eq_false_iff]
    intro hs
    rw [Bool.and_eq_true, decide_eq_true_eq] at hs
    have h0 : rightS ((splitC 44 s.data.toList).map cutL2) = 0 := by
      have := hs.1
      unfold ltextS at this
      split at this
      · assumption
      · exact this
    have hk := right_ok h0
    unfold rokRow at hk
    rw [Bool.and_eq_true, List.all_eq_true] at hk
    rw [rlabs_some _ (fun x hx => by have := hk.1 x hx; rw [Bool.and_eq_true] at this; exact this.2)] at h
    cases h
end Go.Proofs.YtinnifhnabncfaaGreatDoor.Vi
end
/- Contract of hopperref3.split. -/
section
namespace Go.Proofs.YtinnifhnabncfaaGreatDoor.Vi
open Go.RowKit Base Mem
theorem infoStrR : (Tryz.prog.info? 9).map (fun i => (i.zero, i.size, i.bytes)) = some (some (.string ⟨#[]⟩), 1, 16) := by kernel_rfl
def sV (s : ByteArray) : Value := .string s
def RSplitP (c : UInt8) (s : ByteArray) (w : World) (e : Ending) (w' : World) : Prop := ∃ (v : Value) (ps : List ByteArray), e = .returned v ∧ ps.map (·.data.toList) = splitC c s.data.toList ∧ w'.ownsRow w.heap.size 9 1 v ps.length (ps.map sV) ∧ Below w.heap.size w w'
set_option maxRecDepth 100000 in
set_option maxHeartbeats 2000000 in
theorem rsplit_any (s : ByteArray) (by_ : UInt8) (w : World) (hs : s.size < 4294967281) : Calls Tryz.prog 169 #[.string s, .int .u8 by_.toNat] w fun e w' => RSplitP by_ s w e w' := by
  obtain ⟨i0, hi0, hz0, hz1, hz2⟩ := info_parts infoStrR
  have Hi0 := Lib.hid hi0; have Hz0 := Lib.hid hz0; have Hz1 := Lib.hid hz1; have Hz2 := Lib.hid hz2
  clear hi0 hz0 hz1 hz2
  go_enter Tryz.func169, Tryz.ntmps169
  go_wp2_with fail
  go_loopw [5, 6, 7] (fun out a i wr => ∃ (k j : Nat) (ps : List ByteArray), a = .int .i64 k ∧ i = .int .i64 j ∧ k ≤ j ∧ j ≤ s.size ∧ Hid (ps.length ≤ k) ∧ Hid (splitC by_ s.data.toList = ps.map (·.data.toList) ++ splitC by_ (s.data.toList.drop k)) ∧ Hid (by_ ∉ (s.data.toList.drop k).take (j - k)) ∧ Hid (wr.ownsRow w.heap.size 9 1 out ps.length (ps.map sV)) ∧ Hid (Below w.heap.size w wr)) (fun _ _ i _ => s.size - (intOf i).toNat)
  case atStart => exact ⟨0, 0, [], rfl, rfl, by omega, by omega, (show (0 : Nat) ≤ 0 by omega), rfl, (show ¬ by_ ∈ _ by simp), World.ownsRow_nil _ _ _ _, Below.refl _ _⟩
  case round =>
    obtain ⟨k, j, ps, rfl, rfl, hkj, hj, Hpk, Hsp, Hno, Hor, Hbr⟩ := hrel
    have hL : s.data.toList.length = s.size := rfl
    by_cases hlt : j < s.size
    · have hj1 : (j : Int) < (s.size : Int) := by omega
      have hkj1 : (k : Int) ≤ (j : Int) := by omega
      have hdr : Hid (s.data.toList.drop k = (s.data.toList.drop k).take (j - k) ++ s[j] :: s.data.toList.drop (j + 1)) := by
        show _ = _
        have h1 : s.data.toList.drop j = s[j] :: s.data.toList.drop (j + 1) := List.drop_eq_getElem_cons (l := s.data.toList) (by omega)
        rw [← h1, show s.data.toList.drop j = (s.data.toList.drop k).drop (j - k) by rw [List.drop_drop]; congr 1; omega, List.take_append_drop]
      clear hL
      by_cases hc : s[j] = by_
      · have hci : ((s[j].toNat : Int) == (by_.toNat : Int)) = true := by rw [hc]; simp
        have Hsp4 : Hid (splitC by_ s.data.toList = (ps ++ [s.extract k j]).map (·.data.toList) ++ splitC by_ (s.data.toList.drop (j + 1))) := by
          show _ = _
          rw [List.map_append, List.append_assoc, Hsp.out, hdr.out, hc, splitC_hit _ Hno.out, List.map_cons, List.map_nil, Lib.extract_data]
          rfl
        clear Hsp hdr
        go_wp2_with (at_builtin; refine wpList_append_any _ rfl (.tmp 19) (.tmp 24) _ rfl w.heap.size 9 i0 _ 1 16 Tryz.underlying102 Hi0.out Hz0.out Hz1.out Hz2.out rfl (by omega) u5 ps.length (ps.map sV) rfl (Hor.out.alloc _) (wr.heap.size + 1) (some ⟨wr.heap.size, 0, none⟩) 1 1 [.string (s.extract k j)] rfl (reads_new _ _ _ _ _ rfl) (by intro u hu; simp at hu; subst hu; rfl) (by have := Hpk.out; unfold maxLen; omega) (by have := Hpk.out; omega) (by have := Hbr.out.size; simp; omega) ?_)
        intro v4 w4 hown4 hg4 hat4
        have Hown4 : Hid (w4.ownsRow w.heap.size 9 1 v4 (ps ++ [s.extract k j]).length ((ps ++ [s.extract k j]).map sV)) := by
          show World.ownsRow _ _ _ _ _ _ _
          rw [List.map_append, List.length_append]
          exact hown4
        have Hb4 : Hid (Below w.heap.size w w4) := (Hbr.out.alloc Hbr.out.size _).grown hg4 (by have := Hbr.out.size; simp; omega) (fun g hg => (Hor.out.lt g hg).1)
        clear hown4 hg4 hat4
        have Hl4 : Hid ((ps ++ [s.extract k j]).length ≤ j + 1) := by show _ ≤ _; have := Hpk.out; simp; omega
        generalize ps ++ [s.extract k j] = qs at Hown4 Hl4 Hsp4
        go_wp2
        go_roundw
        case rel => exact ⟨j + 1, j + 1, qs, by go_num, by go_num, by omega, by omega, Hl4, Hsp4, (show ¬ by_ ∈ _ by simp), Hown4, Hb4⟩
        case measure => simp [intOf] <;> omega
      · have hci : ((s[j].toNat : Int) == (by_.toNat : Int)) = false := by
          have : s[j].toNat ≠ by_.toNat := fun h => hc (UInt8.toNat_inj.1 h)
          simp; omega
        have Hno4 : Hid (by_ ∉ (s.data.toList.drop k).take (j + 1 - k)) := by
          show ¬ _
          have h1 := hdr.out
          have h2 : ((s.data.toList.drop k).take (j - k)).length = j - k := by rw [List.length_take, List.length_drop]; have : s.data.toList.length = s.size := rfl; omega
          rw [h1, List.take_append, h2, show j + 1 - k - (j - k) = 1 by omega, List.take_of_length_le (by omega)]
          simp only [List.take_succ_cons, List.take_zero, List.mem_append, List.mem_singleton]
          rintro (h | h)
          · exact Hno.out h
          · exact hc h.symm
        clear hdr
        go_wp2
        go_roundw
        case rel => exact ⟨k, j + 1, ps, rfl, by go_num, by omega, by omega, Hpk, Hsp, Hno4, Hor, Hbr⟩
        case measure => simp [intOf] <;> omega
    · obtain rfl : j = s.size := by omega
      have hki : (k : Int) ≤ (s.size : Int) := by omega
      have Hsp4 : Hid ((ps ++ [s.extract k s.size]).map (·.data.toList) = splitC by_ s.data.toList) := by
        show _ = _
        have h1 : (s.data.toList.drop k).take (s.size - k) = s.data.toList.drop k := List.take_of_length_le (by rw [List.length_drop]; have : s.data.toList.length = s.size := rfl; omega)
        have h2 := Hno.out
        rw [h1] at h2
        rw [Hsp.out, splitC_none h2, List.map_append, List.map_cons, List.map_nil, Lib.extract_data, h1]
      clear Hsp hL
      go_wp2_with (at_builtin; refine wpList_append_any _ rfl (.tmp 28) (.tmp 32) _ rfl w.heap.size 9 i0 _ 1 16 Tryz.underlying102 Hi0.out Hz0.out Hz1.out Hz2.out rfl (by omega) u5 ps.length (ps.map sV) rfl (Hor.out.alloc _) (wr.heap.size + 1) (some ⟨wr.heap.size, 0, none⟩) 1 1 [.string (s.extract k s.size)] rfl (reads_new _ _ _ _ _ rfl) (by intro u hu; simp at hu; subst hu; rfl) (by have := Hpk.out; unfold maxLen; omega) (by have := Hpk.out; omega) (by have := Hbr.out.size; simp; omega) ?_)
      intro v4 w4 hown4 hg4 hat4
      have Hown4 : Hid (w4.ownsRow w.heap.size 9 1 v4 (ps ++ [s.extract k s.size]).length ((ps ++ [s.extract k s.size]).map sV)) := by
        show World.ownsRow _ _ _ _ _ _ _
        rw [List.map_append, List.length_append]
        exact hown4
      have Hb4 : Hid (Below w.heap.size w w4) := (Hbr.out.alloc Hbr.out.size _).grown hg4 (by have := Hbr.out.size; simp; omega) (fun g hg => (Hor.out.lt g hg).1)
      clear hown4 hg4 hat4
      generalize ps ++ [s.extract k s.size] = qs at Hown4 Hsp4
      have hC : Hid (RSplitP by_ s w (.returned v4) w4) := ⟨v4, qs, rfl, Hsp4.out, Hown4.out, Hb4.out⟩
      go_wp2
      go_ret
      exact hC.out
end Go.Proofs.YtinnifhnabncfaaGreatDoor.Vi
end
/- Contract of hopperref3.Right. -/
section
namespace Go.Proofs.YtinnifhnabncfaaGreatDoor.Vi
open Go.RowKit Base Mem
theorem rok_bad1 {l : List LabD} {x : Nat} (hx : x < l.length) (h : (nameOk l[x].name && nameOk l[x].value) = false) : rokRow l = false := by
  unfold rokRow
  rw [show (l.all fun x => nameOk x.name && nameOk x.value) = false from List.all_eq_false.2 ⟨l[x], List.getElem_mem _, by simp only [h]; simp⟩]
  rfl
theorem rok_bad2 {l : List LabD} {x y : Nat} (hx : x < l.length) (hy : y < x) (h : (l[y].name.toList == l[x].name.toList) = true) : rokRow l = false := by
  unfold rokRow
  have : ¬ (l.map (·.name.toList)).Nodup := by
    intro hn
    rw [List.Nodup, List.pairwise_map, List.pairwise_iff_getElem] at hn
    exact hn y x (by omega) hx hy (beq_iff_eq.1 h)
  rw [decide_eq_false this, Bool.and_false]
theorem rok_next {l : List LabD} {x : Nat} (hx : x < l.length) (h : rokRow (l.take x) = true) (h1 : nameOk l[x].name = true) (h2 : nameOk l[x].value = true) (h3 : ∀ y (_ : y < x), (l[y].name.toList == l[x].name.toList) = false) : rokRow (l.take (x + 1)) = true := by
  unfold rokRow at h ⊢
  rw [Bool.and_eq_true, decide_eq_true_eq] at h ⊢
  rw [List.take_succ_eq_append_getElem hx]
  refine ⟨by rw [List.all_append, h.1]; simp [h1, h2], ?_⟩
  rw [List.map_append, List.nodup_append]
  refine ⟨h.2, by simp, ?_⟩
  intro a ha b hb
  obtain ⟨z, hz, rfl⟩ := List.mem_map.1 ha
  obtain rfl := List.mem_singleton.1 hb
  obtain ⟨i, hi, rfl⟩ := List.getElem_of_mem hz
  rw [List.length_take] at hi
  have := h3 i (by omega)
  rw [List.getElem_take]
  exact beq_eq_false_iff_ne.1 this
set_option maxRecDepth 100000 in
set_option maxHeartbeats 2000000 in
theorem rright_any (v : Value) (l : List LabD) (w : World) (h : Labs w [] v l) (hs : ∀ x ∈ l, x.name.size < 9223372036854775807 ∧ x.value.size < 9223372036854775807) (hl : l.length ≤ 4611686018427387904) :
    Calls Tryz.prog 193 #[v] w fun e w' => e = .returned (.int .i64 (rrightS l)) ∧ Below w.heap.size w w' := by
  have HR : Hid (rrightS l = if 8 < l.length then 3 else if rokRow l = false then 1 else if l.length = 0 then 1 else 0) := rfl
  by_cases h8 : 8 < l.length
  · have hR : Hid (rrightS l = 3) := by show _ = _; rw [HR.out, if_pos h8]
    obtain ⟨A, c, rfl, hc⟩ := h.len
    have h8i : (8 : Int) < (l.length : Int) := by omega
    clear h HR hs
    rw [hR.out]
    go_enter Tryz.func193, Tryz.ntmps193
    go_wp2
    go_ret
    exact ⟨rfl, Below.refl _ _⟩
  · have HL := Lib.hid h
    obtain ⟨A, c, rfl, hc⟩ := h.len
    have h8i : decide ((8 : Int) < (l.length : Int)) = false := decide_eq_false (by omega)
    have Hs := Lib.hid hs
    have HR2 : Hid (rrightS l = if rokRow l = false then 1 else if l.length = 0 then 1 else 0) := by show _ = _; rw [HR.out, if_neg h8]
    clear h HR hs
    go_enter Tryz.func193, Tryz.ntmps193
    go_wp2_with fail
    go_loopw [10] (fun i wr => ∃ x q : Nat, i = .int .i64 x ∧ x ≤ l.length ∧ Hid (rokRow (l.take x) = true) ∧ wr = w.drewN q) (fun i _ => l.length - (intOf i).toNat)
    case atStart => exact ⟨0, 0, rfl, by omega, rfl, rfl⟩
    case round =>
      obtain ⟨x, q, rfl, hx, Hok, rfl⟩ := hrel
      by_cases hlt : x < l.length
      · have hx1 : (x : Int) < (l.length : Int) := by omega
        obtain ⟨g, off, _, e1, hg, c0, c1⟩ := HL.out.at_ hlt
        obtain rfl : A = some ⟨g, off, none⟩ := by injection e1
        clear e1
        obtain ⟨hs1, hs2⟩ := Hs.out l[x] (List.getElem_mem _)
        have HNa := Lib.hid (fun W => rname_any l[x].name W hs1)
        have HVa := Lib.hid (fun W => rname_any l[x].value W hs2)
        have Hb1 := Lib.hid (rok_bad1 (l := l) hlt)
        have Hb2 := Lib.hid (fun y => rok_bad2 (l := l) (y := y) hlt)
        have Hnx := Lib.hid (rok_next (l := l) hlt Hok.out)
        clear hs1 hs2
        by_cases h1 : nameOk l[x].name = true
        · by_cases h2 : nameOk l[x].value = true
          · have Hnx2 := Lib.hid (Hnx.out h1 h2)
            clear Hnx Hb1
            rw [h1] at HNa
            rw [h2] at HVa
            clear h1 h2
            have Hat := Lib.hid (fun y (hy : y < l.length) => (HL.out.at_ hy))
            generalize hna : l[x].name = na at *
            generalize hva : l[x].value = va at *
            clear hva
            go_wp2_with ((first | (go_at_call_of 223 (Value.string na); refine (HNa.out _).mono ?_) | (go_at_call_of 223 (Value.string va); refine (HVa.out _).mono ?_)); rintro e w' ⟨rfl, rfl⟩)
            go_loopw [4] (fun k wr => ∃ y q2 : Nat, k = .int .i64 y ∧ y ≤ x ∧ Hid (∀ j (_ : j < y) (_ : j < x), (l[j].name.toList == na.toList) = false) ∧ wr = w.drewN q2) (fun k _ => x - (intOf k).toNat)
            case atStart => exact ⟨0, q, rfl, by omega, (show ∀ j, _ from fun j h _ => absurd h (by omega)), rfl⟩
            case round =>
              obtain ⟨y, q2, rfl, hy, Hno, rfl⟩ := hrel
              by_cases hyx : y < x
              · have hyx1 : (y : Int) < (x : Int) := by omega
                have hyl : (y : Int) < (l.length : Int) := by omega
                obtain ⟨g2, off2, _, e2, _, p0, _⟩ := HL.out.at_ (k := y) (by omega)
                obtain ⟨rfl, rfl⟩ : g = g2 ∧ off = off2 := by injection e2 with e2 _ _; injection e2 with e2; injection e2 with h1 h2; exact ⟨h1, h2⟩
                clear e2
                have hyll : y < l.length := by omega
                have Hb3 := Lib.hid (Hb2.out y hyx)
                have Hno2 : Hid ((l[y].name.toList == na.toList) = false → ∀ j (_ : j < y + 1) (_ : j < x), (l[j].name.toList == na.toList) = false) := fun h j hj hjx => by
                  rcases Nat.lt_or_ge j y with h2 | h2
                  · exact Hno.out j h2 hjx
                  · obtain rfl : j = y := by omega
                    exact h
                clear Hat Hb2
                generalize l[y].name = pn at *
                by_cases h3 : (pn.toList == na.toList) = true
                · have hf : Hid (rrightS l = 1) := by show _ = _; rw [HR2.out, if_pos (Hb3.out h3)]
                  clear Hno2 Hb3
                  go_wp2_with fail
                  go_quiet (fail)
                  go_wp2
                  go_ret
                  rw [hf.out]
                  exact ⟨rfl, (((Keeps.refl [] w).drewN _).drewN _).below⟩
                · have h3' : (pn.toList == na.toList) = false := by simpa using h3
                  have hno3 := Lib.hid (Hno2.out h3')
                  clear Hno2 Hb3 h3
                  go_wp2_with fail
                  go_quiet (fail)
                  go_wp2
                  go_roundw
                  case rel => exact ⟨y + 1, _, by go_num, by omega, hno3, rfl⟩
                  case measure => simp [intOf] <;> omega
              · obtain rfl : y = x := by omega
                have hok := Lib.hid (Hnx2.out (fun j hj => by have := Hno.out j hj hj; exact this))
                clear Hat Hb2 Hno Hnx2
                go_wp2
                go_roundw
                case rel => exact ⟨y + 1, q2, by go_num, by omega, hok, rfl⟩
                case measure => simp [intOf] <;> omega
          · have h2' : nameOk l[x].value = false := by simpa using h2
            have hf : Hid (rrightS l = 1) := by show _ = _; rw [HR2.out, if_pos (Hb1.out (by rw [h2', Bool.and_false]))]
            rw [h1] at HNa
            rw [h2'] at HVa
            clear h1 h2 h2' Hb1 Hb2 Hnx
            generalize l[x].name = na at *
            generalize l[x].value = va at *
            go_wp2_with ((first | (go_at_call_of 223 (Value.string na); refine (HNa.out _).mono ?_) | (go_at_call_of 223 (Value.string va); refine (HVa.out _).mono ?_)); rintro e w' ⟨rfl, rfl⟩)
            go_ret
            rw [hf.out]
            exact ⟨rfl, ((Keeps.refl [] w).drewN _).below⟩
        · have h1' : nameOk l[x].name = false := by simpa using h1
          have hf : Hid (rrightS l = 1) := by show _ = _; rw [HR2.out, if_pos (Hb1.out (by rw [h1', Bool.false_and]))]
          rw [h1'] at HNa
          clear h1 h1' Hb1 Hb2 Hnx
          generalize l[x].name = na at *
          generalize l[x].value = va at *
          go_wp2_with ((go_at_call_of 223 (Value.string na); refine (HNa.out _).mono ?_); rintro e w' ⟨rfl, rfl⟩)
          go_ret
          rw [hf.out]
          exact ⟨rfl, ((Keeps.refl [] w).drewN _).below⟩
      · obtain rfl : x = l.length := by omega
        have hok := Hok.out
        rw [List.take_length] at hok
        by_cases hz : l.length = 0
        · have hR : Hid (rrightS l = 1) := by show _ = _; rw [HR2.out, if_neg (by rw [hok]; simp), if_pos hz]
          have hzi : ((l.length : Int) == 0) = true := by rw [beq_iff_eq]; omega
          have hzi2 : (l.length : Int) = 0 := by omega
          clear hok
          go_wp2
          go_ret
          rw [hR.out]
          exact ⟨rfl, ((Keeps.refl [] w).drewN _).below⟩
        · have hR : Hid (rrightS l = 0) := by show _ = _; rw [HR2.out, if_neg (by rw [hok]; simp), if_neg hz]
          have hzi : ((l.length : Int) == 0) = false := by rw [beq_eq_false_iff_ne]; omega
          clear hok
          go_wp2
          go_ret
          rw [hR.out]
          exact ⟨rfl, ((Keeps.refl [] w).drewN _).below⟩
end Go.Proofs.YtinnifhnabncfaaGreatDoor.Vi
end
/- Plain words: a number that was put is got; so are texts. -/
section
namespace Go.Proofs.YtinnifhnabncfaaGreatDoor.Vi
open Go.RowKit Base Mem
/-- A number that was put is got. -/
theorem getF_put (n i acc : Nat) (r : List UInt8) (hacc : acc < 2 ^ (7 * i)) (hb : acc + n * 2 ^ (7 * i) < 18446744073709551616) (hz : i = 0 ∨ 0 < n) :
    getF i acc (Lib.uvarint n ++ r) = (acc + n * 2 ^ (7 * i), i + (Lib.uvarint n).length) := by
  induction n using Nat.strongRecOn generalizing i acc with
  | _ n ih =>
  have hp : 0 < 2 ^ (7 * i) := Nat.two_pow_pos _
  have hi : i < 10 := by
    rcases hz with rfl | h0
    · omega
    · apply Decidable.byContradiction; intro hge
      have h1 : 2 ^ 70 ≤ 2 ^ (7 * i) := Nat.pow_le_pow_right (by omega) (by omega)
      have h2 : 1 * 2 ^ (7 * i) ≤ n * 2 ^ (7 * i) := Nat.mul_le_mul_right _ h0
      have h3 : (2 : Nat) ^ 70 = 1180591620717411303424 := rfl
      omega
  by_cases hs : n < 128
  · rw [Lib.uvarint_small hs]
    have hc : (n.toUInt8).toNat = n := by rw [Nat.toUInt8_eq, UInt8.toNat_ofNat']; omega
    have hm : n % 128 = n := Nat.mod_eq_of_lt hs
    rw [List.singleton_append, getF, hc, hm, if_neg (by omega), if_neg (by omega), if_neg (by omega), if_neg (by omega)]
    simp
  · rw [Lib.uvarint_big (by omega)]
    have hc : ((n % 128 + 128).toUInt8).toNat = n % 128 + 128 := by rw [Nat.toUInt8_eq, UInt8.toNat_ofNat']; omega
    have hm : (n % 128 + 128) % 128 = n % 128 := by omega
    have hpow : 2 ^ (7 * (i + 1)) = 128 * 2 ^ (7 * i) := by rw [show 7 * (i + 1) = 7 * i + 7 by omega, Nat.pow_add, Nat.mul_comm]
    have hsplit : n * 2 ^ (7 * i) = n % 128 * 2 ^ (7 * i) + n / 128 * (128 * 2 ^ (7 * i)) := by
      conv => lhs; rw [← Nat.mod_add_div n 128]
      rw [Nat.add_mul, Nat.mul_comm 128 (n / 128), Nat.mul_assoc]
    have hlt : n % 128 * 2 ^ (7 * i) ≤ 127 * 2 ^ (7 * i) := Nat.mul_le_mul_right _ (by omega)
    rw [List.cons_append, getF, hc, hm, if_neg (by omega), if_neg (by omega), if_pos (by omega)]
    rw [ih (n / 128) (by omega) (i + 1) (acc + n % 128 * 2 ^ (7 * i)) (by rw [hpow]; omega) (by rw [hpow]; omega) (.inr (by omega))]
    rw [hpow, List.length_cons]
    congr 1 <;> omega
theorem getL_put (n : Nat) (r : List UInt8) (hn : n < 18446744073709551616) : getL (Lib.uvarint n ++ r) = (n, (Lib.uvarint n).length) := by
  have := getF_put n 0 0 r (by decide) (by omega) (.inl rfl)
  simpa [getL] using this
/-- A number cut short is none. -/
theorem getF_cut (n i acc : Nat) (k : Nat) (hk : k < (Lib.uvarint n).length) (hacc : acc < 2 ^ (7 * i)) (hb : acc + n * 2 ^ (7 * i) < 18446744073709551616) (hz : i = 0 ∨ 0 < n) :
    getF i acc ((Lib.uvarint n).take k) = (0, 0) := by
  induction n using Nat.strongRecOn generalizing i acc k with
  | _ n ih =>
  cases k with
  | zero => rfl
  | succ k =>
  have hp : 0 < 2 ^ (7 * i) := Nat.two_pow_pos _
  by_cases hs : n < 128
  · rw [Lib.uvarint_small hs] at hk
    simp at hk
  · rw [Lib.uvarint_big (by omega)] at hk ⊢
    rw [List.length_cons] at hk
    have hi : i < 10 := by
      apply Decidable.byContradiction; intro hge
      have h1 : 2 ^ 70 ≤ 2 ^ (7 * i) := Nat.pow_le_pow_right (by omega) (by omega)
      have h2 : 1 * 2 ^ (7 * i) ≤ n * 2 ^ (7 * i) := Nat.mul_le_mul_right _ (by omega)
      have h3 : (2 : Nat) ^ 70 = 1180591620717411303424 := rfl
      omega
    have hc : ((n % 128 + 128).toUInt8).toNat = n % 128 + 128 := by rw [Nat.toUInt8_eq, UInt8.toNat_ofNat']; omega
    have hm : (n % 128 + 128) % 128 = n % 128 := by omega
    have hpow : 2 ^ (7 * (i + 1)) = 128 * 2 ^ (7 * i) := by rw [show 7 * (i + 1) = 7 * i + 7 by omega, Nat.pow_add, Nat.mul_comm]
    have hsplit : n * 2 ^ (7 * i) = n % 128 * 2 ^ (7 * i) + n / 128 * (128 * 2 ^ (7 * i)) := by
      conv => lhs; rw [← Nat.mod_add_div n 128]
      rw [Nat.add_mul, Nat.mul_comm 128 (n / 128), Nat.mul_assoc]
    have hlt : n % 128 * 2 ^ (7 * i) ≤ 127 * 2 ^ (7 * i) := Nat.mul_le_mul_right _ (by omega)
    rw [List.take_succ_cons, getF, hc, hm, if_neg (by omega), if_neg (by omega), if_pos (by omega)]
    exact ih (n / 128) (by omega) (i + 1) _ k (by omega) (by rw [hpow]; omega) (by rw [hpow]; omega) (.inr (by omega))
theorem numS_put (n : Nat) (r : List UInt8) (hn : n < 18446744073709551616) : numS (Lib.uvarint n ++ r) false = (n, r, false) := by
  have h1 := Lib.uvarint_pos n
  unfold numS
  rw [getL_put n r hn, if_neg (fun h => by rcases h with h | h; cases h; simp only [] at h; omega)]
  simp
theorem intS_put (n : Nat) (r : List UInt8) (hn : n ≤ 9223372036854775807) : intS (Lib.uvarint n ++ r) false = (n, r, false) := by
  unfold intS
  rw [numS_put n r (by omega), if_neg (by simp only []; omega)]
theorem countS_put (n : Nat) (r : List UInt8) (most : Nat) (hn : n ≤ most) (hm : most ≤ 9223372036854775807) : countS (Lib.uvarint n ++ r) false most = (n, r, false) := by
  unfold countS
  rw [intS_put n r (by omega), if_neg (by simp only []; omega)]
theorem cutL_put (s r : List UInt8) (hn : s.length < 18446744073709551616) : cutL (Lib.uvarint s.length ++ s ++ r) = (s, (Lib.uvarint s.length).length + s.length) := by
  have h1 := Lib.uvarint_pos s.length
  unfold cutL
  rw [List.append_assoc, getL_put _ _ hn, if_neg (by simp only [List.length_append]; omega)]
  simp
theorem textS_put (s r : List UInt8) (hn : s.length < 18446744073709551616) : textS (Lib.uvarint s.length ++ s ++ r) false = (s, r, false) := by
  have h1 := Lib.uvarint_pos s.length
  unfold textS
  rw [cutL_put s r hn, if_neg (fun h => by rcases h with h | h; cases h; simp only [] at h; omega)]
  simp only [Prod.mk.injEq, and_true, true_and]
  rw [← List.length_append, List.drop_left]
end Go.Proofs.YtinnifhnabncfaaGreatDoor.Vi
end
/- Plain words: sums of bytes; frames; a frame cut short or turned is none. -/
section
namespace Go.Proofs.YtinnifhnabncfaaGreatDoor.Vi
open Go.RowKit Base Mem
def crcStep (c : Nat) : Nat := (c / 2) ^^^ (3988292384 * (c % 2))
def crcN : Nat → Nat → Nat
  | 0, c => c
  | k + 1, c => crcN k (crcStep c)
def crcNext (c : Nat) (b : UInt8) : Nat := crcN 8 (c ^^^ b.toNat)
def crcOn (c : Nat) (l : List UInt8) : Nat := l.foldl crcNext c
/-- The sum of bytes. -/
def crcOf (l : List UInt8) : Nat := 4294967295 - crcOn 4294967295 l
theorem crcStep_lt {c : Nat} (h : c < 4294967296) : crcStep c < 4294967296 := by
  unfold crcStep
  exact Nat.xor_lt_two_pow (n := 32) (by omega) (by omega)
theorem crcStep_inj {a b : Nat} (ha : a < 4294967296) (hb : b < 4294967296) (h : crcStep a = crcStep b) : a = b := by
  unfold crcStep at h
  have hx : ∀ x y : Nat, x < 2147483648 → y < 2147483648 → x ^^^ 3988292384 = y → False := fun x y hx hy e => by
    have h1 : x ^^^ y < 2 ^ 31 := Nat.xor_lt_two_pow (n := 31) (by omega) (by omega)
    rw [← e, ← Nat.xor_assoc, Nat.xor_self, Nat.zero_xor] at h1
    omega
  rcases Nat.mod_two_eq_zero_or_one a with h0 | h0 <;> rcases Nat.mod_two_eq_zero_or_one b with h1 | h1
  · rw [h0, h1] at h; simp at h; omega
  · rw [h0, h1] at h; simp at h; exact (hx (b / 2) (a / 2) (by omega) (by omega) h.symm).elim
  · rw [h0, h1] at h; simp at h; exact (hx (a / 2) (b / 2) (by omega) (by omega) h).elim
  · rw [h0, h1, Nat.mul_one] at h
    have h2 : (a / 2 ^^^ 3988292384) ^^^ 3988292384 = (b / 2 ^^^ 3988292384) ^^^ 3988292384 := by rw [h]
    rw [Nat.xor_assoc, Nat.xor_self, Nat.xor_zero, Nat.xor_assoc, Nat.xor_self, Nat.xor_zero] at h2
    omega
theorem crcN_lt : ∀ (k : Nat) {c : Nat}, c < 4294967296 → crcN k c < 4294967296
  | 0, _, h => h
  | k + 1, _, h => crcN_lt k (crcStep_lt h)
theorem crcN_inj : ∀ (k : Nat) {a b : Nat}, a < 4294967296 → b < 4294967296 → crcN k a = crcN k b → a = b
  | 0, _, _, _, _, h => h
  | k + 1, _, _, ha, hb, h => crcStep_inj ha hb (crcN_inj k (crcStep_lt ha) (crcStep_lt hb) h)
theorem xor_byte_lt {c : Nat} (h : c < 4294967296) (b : UInt8) : c ^^^ b.toNat < 4294967296 :=
  Nat.xor_lt_two_pow (n := 32) h (Nat.lt_trans b.toNat_lt (by decide))
theorem crcNext_lt {c : Nat} (h : c < 4294967296) (b : UInt8) : crcNext c b < 4294967296 := crcN_lt 8 (xor_byte_lt h b)
theorem crcNext_inj {a b : Nat} (ha : a < 4294967296) (hb : b < 4294967296) (x : UInt8) (h : crcNext a x = crcNext b x) : a = b := by
  have h1 := crcN_inj 8 (xor_byte_lt ha x) (xor_byte_lt hb x) h
  have h2 : (a ^^^ x.toNat) ^^^ x.toNat = (b ^^^ x.toNat) ^^^ x.toNat := by rw [h1]
  rwa [Nat.xor_assoc, Nat.xor_self, Nat.xor_zero, Nat.xor_assoc, Nat.xor_self, Nat.xor_zero] at h2
theorem crcNext_byte {c : Nat} (hc : c < 4294967296) (x y : UInt8) (h : crcNext c x = crcNext c y) : x = y := by
  have h1 := crcN_inj 8 (xor_byte_lt hc x) (xor_byte_lt hc y) h
  have h2 : c ^^^ (c ^^^ x.toNat) = c ^^^ (c ^^^ y.toNat) := by rw [h1]
  rw [← Nat.xor_assoc, Nat.xor_self, Nat.zero_xor, ← Nat.xor_assoc, Nat.xor_self, Nat.zero_xor] at h2
  exact UInt8.toNat_inj.1 h2
theorem crcOn_lt : ∀ (l : List UInt8) {c : Nat}, c < 4294967296 → crcOn c l < 4294967296
  | [], _, h => h
  | x :: l, _, h => crcOn_lt l (crcNext_lt h x)
theorem crcOn_inj : ∀ (l : List UInt8) {a b : Nat}, a < 4294967296 → b < 4294967296 → crcOn a l = crcOn b l → a = b
  | [], _, _, _, _, h => h
  | x :: l, _, _, ha, hb, h => crcNext_inj ha hb x (crcOn_inj l (crcNext_lt ha x) (crcNext_lt hb x) h)
/-- One byte turned: another sum. -/
theorem crcOf_turn (p s : List UInt8) (x y : UInt8) (h : crcOf (p ++ x :: s) = crcOf (p ++ y :: s)) : x = y := by
  have hp := crcOn_lt p (c := 4294967295) (by decide)
  have h1 := crcOn_lt (p ++ x :: s) (c := 4294967295) (by decide)
  have h2 := crcOn_lt (p ++ y :: s) (c := 4294967295) (by decide)
  unfold crcOf at h
  have h3 : crcOn 4294967295 (p ++ x :: s) = crcOn 4294967295 (p ++ y :: s) := by omega
  unfold crcOn at h3 hp
  rw [List.foldl_append, List.foldl_append, List.foldl_cons, List.foldl_cons] at h3
  exact crcNext_byte hp x y (crcOn_inj s (crcNext_lt hp x) (crcNext_lt hp y) h3)
theorem crcOf_lt (l : List UInt8) : crcOf l < 4294967296 := by unfold crcOf; omega
/-- A sum's four bytes. -/
def leL (s : Nat) : List UInt8 := [UInt8.ofNat s, UInt8.ofNat (s / 256), UInt8.ofNat (s / 65536), UInt8.ofNat (s / 16777216)]
def unL (b : List UInt8) : Nat := (b.getD 0 0).toNat + 256 * (b.getD 1 0).toNat + 65536 * (b.getD 2 0).toNat + 16777216 * (b.getD 3 0).toNat
def frameL (l : List UInt8) : List UInt8 := Lib.uvarint l.length ++ (leL (crcOf l) ++ l)
/-- The frame at the front, and its bytes. -/
def readF (b : List UInt8) : Option (List UInt8 × Nat) :=
  if (getL b).2 = 0 ∨ 65536 < (getL b).1 ∨ b.length < (getL b).2 + 4 + (getL b).1 then none
  else if crcOf ((b.drop ((getL b).2 + 4)).take (getL b).1) = unL (b.drop (getL b).2) then some ((b.drop ((getL b).2 + 4)).take (getL b).1, (getL b).2 + 4 + (getL b).1) else none
theorem unL_leL (s : Nat) (h : s < 4294967296) (r : List UInt8) : unL (leL s ++ r) = s := by
  unfold unL leL
  simp
  omega
theorem leL_len (s : Nat) : (leL s).length = 4 := rfl
theorem frameL_len (l : List UInt8) : (frameL l).length = (Lib.uvarint l.length).length + 4 + l.length := by
  unfold frameL
  rw [List.length_append, List.length_append, leL_len]; omega
theorem readF_put (l r : List UInt8) (hl : l.length ≤ 65536) : readF (frameL l ++ r) = some (l, (frameL l).length) := by
  have h1 := Lib.uvarint_pos l.length
  have hg : getL (frameL l ++ r) = (l.length, (Lib.uvarint l.length).length) := by
    unfold frameL; rw [List.append_assoc]; exact getL_put _ _ (by omega)
  unfold readF
  rw [hg]
  simp only []
  rw [if_neg (by rw [List.length_append, frameL_len]; omega)]
  have hd : (frameL l ++ r).drop (Lib.uvarint l.length).length = leL (crcOf l) ++ (l ++ r) := by
    unfold frameL; rw [List.append_assoc, List.drop_left, List.append_assoc]
  have hx : ((frameL l ++ r).drop ((Lib.uvarint l.length).length + 4)).take l.length = l := by
    rw [← List.drop_drop, hd, show 4 = (leL (crcOf l)).length from rfl, List.drop_left, List.take_left]
  rw [hx, hd, unL_leL _ (crcOf_lt l), if_pos rfl, frameL_len]
theorem readF_cut (l : List UInt8) (hl : l.length ≤ 65536) (j : Nat) (hj : j < (frameL l).length) : readF ((frameL l).take j) = none := by
  have hfl := frameL_len l
  by_cases hs : j < (Lib.uvarint l.length).length
  · have hg : getL ((frameL l).take j) = (0, 0) := by
      unfold frameL getL
      rw [List.take_append_of_le_length (by omega)]
      exact getF_cut l.length 0 0 j hs (by decide) (by omega) (.inl rfl)
    unfold readF
    rw [hg]
    rfl
  · have hg : getL ((frameL l).take j) = (l.length, (Lib.uvarint l.length).length) := by
      unfold frameL
      rw [List.take_append, List.take_of_length_le (by omega)]
      exact getL_put _ _ (by omega)
    unfold readF
    rw [hg]
    simp only []
    rw [if_pos (.inr (.inr (by rw [List.length_take]; omega)))]
theorem set_split {l : List UInt8} {i : Nat} {y : UInt8} (hi : i < l.length) : l.set i y = l.take i ++ y :: l.drop (i + 1) := by
  rw [List.set_eq_take_append_cons_drop, if_pos hi]
theorem leL_turn (s : Nat) (h : s < 4294967296) (j : Nat) (hj : j < 4) (y : UInt8) (hy : (leL s).getD j 0 ≠ y) (r : List UInt8) : unL ((leL s).set j y ++ r) ≠ s := by
  intro he
  have hyl := y.toNat_lt
  unfold unL at he
  rcases j with _ | _ | _ | _ | j
  all_goals first | omega | skip
  all_goals
    apply hy
    apply UInt8.toNat_inj.1
    simp [leL] at he ⊢
    omega
/-- One byte turned behind the length: no frame. -/
theorem readF_turn (l : List UInt8) (hl : l.length ≤ 65536) (i : Nat) (y : UInt8) (h0 : (Lib.uvarint l.length).length ≤ i) (hi : i < (frameL l).length) (hy : (frameL l).getD i 0 ≠ y) :
    readF ((frameL l).set i y) = none := by
  have hfl := frameL_len l
  have h1 := Lib.uvarint_pos l.length
  have hset : (frameL l).set i y = Lib.uvarint l.length ++ (leL (crcOf l) ++ l).set (i - (Lib.uvarint l.length).length) y := by
    unfold frameL
    rw [List.set_append_right _ _ h0]
  have hg : getL ((frameL l).set i y) = (l.length, (Lib.uvarint l.length).length) := by
    rw [hset]; exact getL_put _ _ (by omega)
  unfold readF
  rw [hg]
  simp only []
  rw [if_neg (by rw [List.length_set, hfl]; omega)]
  rw [← List.drop_drop]
  have hd : ((frameL l).set i y).drop (Lib.uvarint l.length).length = (leL (crcOf l) ++ l).set (i - (Lib.uvarint l.length).length) y := by
    rw [hset, List.drop_left]
  rw [hd]
  obtain ⟨j, hj⟩ : ∃ j, j = i - (Lib.uvarint l.length).length := ⟨_, rfl⟩
  rw [← hj]
  have hgd : (frameL l).getD i 0 = (leL (crcOf l) ++ l).getD j 0 := by
    unfold frameL
    rw [List.getD_eq_getElem?_getD, List.getD_eq_getElem?_getD, List.getElem?_append_right h0, hj]
  rw [hgd] at hy
  by_cases hj4 : j < 4
  · rw [List.set_append_left _ _ (by rw [leL_len]; exact hj4)]
    have hx : (((leL (crcOf l)).set j y ++ l).drop 4).take l.length = l := by
      rw [show 4 = ((leL (crcOf l)).set j y).length by rw [List.length_set]; rfl, List.drop_left, List.take_length]
    rw [hx, if_neg]
    intro he
    refine leL_turn (crcOf l) (crcOf_lt l) j hj4 y ?_ l he.symm
    rwa [List.getD_eq_getElem?_getD, List.getElem?_append_left (by rw [leL_len]; exact hj4), ← List.getD_eq_getElem?_getD] at hy
  · rw [List.set_append_right _ _ (by rw [leL_len]; omega), leL_len]
    have hx : ((leL (crcOf l) ++ l.set (j - 4) y).drop 4).take l.length = l.set (j - 4) y := by
      rw [show 4 = (leL (crcOf l)).length from rfl, List.drop_left, List.take_of_length_le (by rw [List.length_set]; exact Nat.le_refl _)]
    rw [hx, unL_leL _ (crcOf_lt l), if_neg]
    intro he
    have hjl : j - 4 < l.length := by omega
    rw [set_split hjl] at he
    have hl2 : l = l.take (j - 4) ++ l[j - 4] :: l.drop (j - 4 + 1) := by
      conv => lhs; rw [← List.take_append_drop (j - 4) l, List.drop_eq_getElem_cons hjl]
    have he2 : crcOf (l.take (j - 4) ++ y :: l.drop (j - 4 + 1)) = crcOf (l.take (j - 4) ++ l[j - 4] :: l.drop (j - 4 + 1)) := by rw [← hl2]; exact he
    have := crcOf_turn _ _ _ _ he2
    apply hy
    
    rw [List.getD_eq_getElem?_getD, List.getElem?_append_right (by rw [leL_len]; omega), leL_len, List.getElem?_eq_getElem hjl, this]
    rfl
/-- The frames from the front on, and their bytes. -/
def scanF : Nat → List UInt8 → List (List UInt8) × Nat
  | 0, _ => ([], 0)
  | k + 1, b => match readF b with
    | none => ([], 0)
    | some (x, n) => (x :: (scanF k (b.drop n)).1, n + (scanF k (b.drop n)).2)
theorem scanF_put (t : List UInt8) (ht : readF t = none) : ∀ (rs : List (List UInt8)) (k : Nat), (∀ l ∈ rs, l.length ≤ 65536) → rs.length ≤ k → scanF k (rs.flatMap frameL ++ t) = (rs, (rs.flatMap frameL).length)
  | [], 0, _, _ => rfl
  | [], k + 1, _, _ => by rw [scanF, List.flatMap_nil, List.nil_append, ht]; rfl
  | l :: rs, 0, _, h => by simp at h
  | l :: rs, k + 1, hl, h => by
    have ih := scanF_put t ht rs k (fun x hx => hl x (List.mem_cons_of_mem _ hx)) (by simpa using h)
    rw [scanF, List.flatMap_cons, List.append_assoc, readF_put l _ (hl l (by simp))]
    simp only []
    rw [List.drop_left, ih, List.length_append]
end Go.Proofs.YtinnifhnabncfaaGreatDoor.Vi
end
/- Contracts of crc.Next, crc.on, crc.Of, and of a reader's Bad. -/
section
namespace Go.Proofs.YtinnifhnabncfaaGreatDoor.Vi
open Go.RowKit Base Mem
theorem bad_any (M : List Nat) (p : Nat) (l : List UInt8) (bad : Bool) (w : World) (h : RdAt w M p l bad) :
    Calls Tryz.prog 179 #[.pointer (some ⟨p, 0, none⟩)] w fun e w' => e = .returned (.bool bad) ∧ w = w' := by
  obtain ⟨hl, v, hb, hs⟩ := h
  have c1 : w.cell? ⟨p, 1, none⟩ = some (.bool bad) := hb.cell 1
  clear hb hs
  go_enter Tryz.func179, Tryz.ntmps179
  go_wp2
  go_ret
  exact ⟨rfl, rfl⟩
theorem u32_xor_nat (a b : Nat) (ha : a < 4294967296) (hb : b < 4294967296) : bits .xor .u32 (a : Int) (b : Int) = ((a ^^^ b : Nat) : Int) := by
  show IntKind.u32.wrap ((BitVec.ofInt 32 (a : Int) ^^^ BitVec.ofInt 32 (b : Int)).toNat : Int) = _
  have h : a ^^^ b < 4294967296 := Nat.xor_lt_two_pow (n := 32) ha hb
  rw [BitVec.toNat_xor, BitVec.ofInt_natCast, BitVec.ofInt_natCast, BitVec.toNat_ofNat, BitVec.toNat_ofNat, Nat.mod_eq_of_lt ha, Nat.mod_eq_of_lt hb, IntKind.wrap_u32]
  omega
theorem u32_and1 (a : Nat) (ha : a < 4294967296) : bits .and .u32 (a : Int) 1 = ((a % 2 : Nat) : Int) := by
  show IntKind.u32.wrap ((BitVec.ofInt 32 (a : Int) &&& BitVec.ofInt 32 1).toNat : Int) = _
  rw [BitVec.toNat_and, BitVec.ofInt_natCast, BitVec.toNat_ofNat, Nat.mod_eq_of_lt ha, show (BitVec.ofInt 32 1).toNat = 2 ^ 1 - 1 from rfl, Nat.and_two_pow_sub_one_eq_mod, IntKind.wrap_u32]
  omega
theorem crcN_snoc : ∀ (k c : Nat), crcN (k + 1) c = crcStep (crcN k c)
  | 0, c => rfl
  | k + 1, c => by rw [crcN, crcN_snoc k, crcN]
set_option maxRecDepth 100000 in
theorem crcnext_any (c : Nat) (x : UInt8) (w : World) (hc : c < 4294967296) :
    Calls Tryz.prog 203 #[.int .u32 c, bV x] w fun e w' => e = .returned (.int .u32 (crcNext c x)) ∧ w = w' := by
  have hx := x.toNat_lt
  have Hx : Hid (crcNext c x = crcN 8 (c ^^^ x.toNat)) := rfl
  have hxor := u32_xor_nat c x.toNat hc (by omega)
  have h0 := Lib.hid (xor_byte_lt hc x)
  have hcv : IntKind.u32.wrap (x.toNat : Int) = (x.toNat : Int) := by rw [IntKind.wrap_u32]; omega
  unfold bV
  generalize c ^^^ x.toNat = a at *
  generalize x.toNat = xn at *
  go_enter Tryz.func203, Tryz.ntmps203
  go_wp2_with fail
  go_loop [0, 10] (fun s i => ∃ k : Nat, i = .int .i64 k ∧ k ≤ 8 ∧ s = .int .u32 (crcN k a : Nat)) (fun _ i => 8 - (intOf i).toNat)
  case atStart => exact ⟨0, rfl, by omega, rfl⟩
  case round =>
    obtain ⟨k, rfl, hk, rfl⟩ := hrel
    have hlt := crcN_lt k h0.out
    have Hs := Lib.hid (crcN_snoc k a)
    generalize hb : crcN k a = b at *
    have Hb := Lib.hid hb
    clear hb
    by_cases h8 : k < 8
    · have hki : (k : Int) < 8 := by omega
      obtain ⟨q, hq⟩ : ∃ q, q = b / 2 := ⟨_, rfl⟩
      obtain ⟨p, hp⟩ : ∃ p, p = b % 2 := ⟨_, rfl⟩
      obtain ⟨r, hr⟩ : ∃ r, r = 3988292384 * p := ⟨_, rfl⟩
      have hand := u32_and1 b hlt
      have hmul : IntKind.u32.wrap (3988292384 * (p : Int)) = (r : Int) := by rw [IntKind.wrap_u32]; omega
      have hshr : (b : Int) / 2 = (q : Int) := by omega
      have hx2 := u32_xor_nat q r (by omega) (by omega)
      have Hst : Hid (crcN (k + 1) a = q ^^^ r) := by show _ = _; rw [Hs.out, hr, hq, hp]; rfl
      rw [← hp] at hand
      generalize q ^^^ r = nx at *
      clear hxor hcv Hs hq hp hr hlt
      go_wp2
      go_round
      case rel => exact ⟨k + 1, by go_num, by omega, by rw [Hst.out]⟩
      case measure => simp [intOf] <;> omega
    · obtain rfl : k = 8 := by omega
      clear hxor hcv
      go_wp2
      go_ret
      exact ⟨ret_int (by rw [Hx.out, Hb.out]), rfl⟩
theorem crcOn_snoc (c : Nat) (l : List UInt8) (x : UInt8) : crcOn c (l ++ [x]) = crcNext (crcOn c l) x := by
  unfold crcOn
  rw [List.foldl_append]; rfl
set_option maxRecDepth 100000 in
theorem crcon_any (c : Nat) (v : Value) (l : List UInt8) (w : World) (hc : c < 4294967296) (h : Bs w [] v l) (hl : l.length ≤ 4611686018427387904) :
    Calls Tryz.prog 186 #[.int .u32 c, v] w fun e w' => e = .returned (.int .u32 (crcOn c l)) ∧ w = w' := by
  obtain ⟨A, cp, rfl, hcp⟩ := h.len
  have Hh := Lib.hid h
  clear h
  go_enter Tryz.func186, Tryz.ntmps186
  go_wp2_with fail
  go_loopw [0, 9] (fun s i wr => ∃ k : Nat, i = .int .i64 k ∧ k ≤ l.length ∧ s = .int .u32 (crcOn c (l.take k) : Nat) ∧ wr = w) (fun _ i _ => l.length - (intOf i).toNat)
  case atStart => exact ⟨0, rfl, by omega, rfl, rfl⟩
  case round =>
    obtain ⟨k, rfl, hk, rfl, rfl⟩ := hrel
    have hlt := crcOn_lt (l.take k) hc
    by_cases h8 : k < l.length
    · have hki : (k : Int) < (l.length : Int) := by omega
      obtain ⟨g, off, _, e1, _, _, _, h1⟩ := Rd.at_ (fun b => [bV b]) 1 (fun _ => rfl) (xs := l) (show Rd wr [] 1 (.slice A l.length cp) l.length (l.flatMap fun b => [bV b]) by rw [← List.map_eq_flatMap]; exact Hh.out) h8
      obtain rfl : A = some ⟨g, off, none⟩ := by injection e1
      clear e1
      have c0 := h1 0 _ rfl
      rw [Nat.mul_one, Nat.add_zero] at c0
      have Hs : Hid (crcOn c (l.take (k + 1)) = crcNext (crcOn c (l.take k)) l[k]) := by show _ = _; rw [List.take_succ_eq_append_getElem h8, crcOn_snoc]
      generalize crcOn c (l.take k) = b at *
      have hnx := Lib.hid (crcnext_any b l[k] wr hlt)
      simp only [bV] at c0 hnx
      generalize crcNext b l[k] = nx at *
      generalize l[k].toNat = xn at *
      clear h1 hlt
      go_wp2_with fail
      refine hnx.out.mono ?_
      rintro e w' ⟨rfl, rfl⟩
      go_wp2
      go_roundw
      case rel => exact ⟨k + 1, by go_num, by omega, by rw [Hs.out], by first | trivial | rfl⟩
      case measure => simp [intOf] <;> omega
    · obtain rfl : k = l.length := by omega
      have Ht : Hid (crcOn c (l.take l.length) = crcOn c l) := by show _ = _; rw [List.take_length]
      go_wp2
      go_ret
      exact ⟨ret_int (by rw [Ht.out]), rfl⟩
theorem u32_not (b : Nat) (hb : b < 4294967296) : bits .xor .u32 4294967295 (b : Int) = ((4294967295 - b : Nat) : Int) := by
  have h1 : (BitVec.allOnes 32 ^^^ BitVec.ofNat 32 b).toNat = (~~~ (BitVec.ofNat 32 b)).toNat := by rw [BitVec.allOnes_xor]
  rw [BitVec.toNat_xor, BitVec.toNat_allOnes, BitVec.toNat_not, BitVec.toNat_ofNat, Nat.mod_eq_of_lt hb] at h1
  have h2 := u32_xor_nat 4294967295 b (by decide) hb
  rw [show (4294967295 ^^^ b : Nat) = 4294967295 - b from h1] at h2
  exact h2
theorem crcof_any (v : Value) (l : List UInt8) (w : World) (h : Bs w [] v l) (hl : l.length ≤ 4611686018427387904) :
    Calls Tryz.prog 154 #[v] w fun e w' => e = .returned (.int .u32 (crcOf l)) ∧ w = w' := by
  have hon := Lib.hid (crcon_any 4294967295 v l w (by decide) h hl)
  obtain ⟨A, cp, rfl, hcp⟩ := h.len
  have hlt := crcOn_lt l (c := 4294967295) (by decide)
  have Ho : Hid (crcOf l = 4294967295 - crcOn 4294967295 l) := rfl
  clear h
  generalize crcOn 4294967295 l = b at *
  go_enter Tryz.func154, Tryz.ntmps154
  go_wp2_with fail
  refine hon.out.mono ?_
  rintro e w' ⟨rfl, rfl⟩
  go_wp2
  go_ret
  refine ⟨ret_int ?_, rfl⟩
  rw [Ho.out, ← u32_not b hlt]
  rfl
end Go.Proofs.YtinnifhnabncfaaGreatDoor.Vi
end
/-
  DERIVED: THE SHELF's CONTRACTS AT THIS DUMP, IN PLAIN WORDS (tools/lay-plain.mjs out of 'YtinnifhnabncfaaGreatDoorCatLay0.lean', which tools/lay-shelf.mjs wrote): THE SAME DECLARATIONS UNDER THE SAME NAMES: 'import', 'namespace', 'open', 'def', 'theorem' AND NOTHING ELSE: no command of the shelf's: FOR A HAND-IN. Each laying: the table of numbers ('.._ren') and one theorem, a field a fact of the dump's own or the kernel's comparison; each contract: ONE APPLICATION.
-/
section
namespace Go.Proofs
open Go.Shelf
def Tryz.growU8_ren : Go.Shelf.Ren := ⟨fun | 4 => 187 | n => n, fun | 22 => 36 | 25 => 5 | 3 => 3 | 4 => 4 | 9 => 9 | 20 => 20 | 0 => 0 | n => n, fun | n => n⟩
theorem Tryz.growU8 : Go.Proofs.Lays8.n4 Tryz.prog Tryz.growU8_ren := {
  mixed := by kernel_rfl
  f4 := ⟨Tryz.f187.name, by decide, Tryz.func187.trans (congrArg some (by kernel_rfl))⟩
  t0 := Tryz.underlying0
  a0 := Tryz.isAgg0
  z0 := Tryz.sizeOf0
  v0 := Tryz.zeroValue0
  t3 := Tryz.underlying3
  a3 := Tryz.isAgg3
  z3 := Tryz.sizeOf3
  v3 := Tryz.zeroValue3
  t4 := Tryz.underlying4
  a4 := Tryz.isAgg4
  z4 := Tryz.sizeOf4
  v4 := Tryz.zeroValue4
  t9 := Tryz.underlying9
  a9 := Tryz.isAgg9
  z9 := Tryz.sizeOf9
  v9 := Tryz.zeroValue9
  t20 := Tryz.underlying20
  a20 := Tryz.isAgg20
  z20 := Tryz.sizeOf20
  v20 := Tryz.zeroValue20
  t22 := Tryz.underlying36
  a22 := Tryz.isAgg36
  z22 := Tryz.sizeOf36
  v22 := Tryz.zeroValue36 }
end Go.Proofs
end
/- Contracts of slices.Grow (at nil) and slices.Concat (of two) at bytes. -/
section
namespace Go.Proofs.YtinnifhnabncfaaGreatDoor.Vi
open Go.RowKit Base Mem Go.Shelf
def GrowPost (w : World) (e : Ending) (w' : World) : Prop := ∃ v, e = .returned v ∧ w'.ownsRow w.heap.size 5 1 v 0 [] ∧ Below w.heap.size w w'
theorem growB_any (n : Nat) (w : World) (hn : n ≤ 2097152) :
    Calls Tryz.prog 187 #[.slice none 0 0, .int .i64 n] w fun e w' => GrowPost w e w' := by
  obtain ⟨i0, hi0, hz0, hz1, hz2⟩ := info_parts infoU8
  by_cases h0 : n = 0
  · subst h0
    have h := Any8.slices_Grow_room Tryz.growU8 none 0 0 0 w (by omega) (by omega) (by omega) (by omega)
    refine Calls.mono h ?_
    rintro e w' ⟨rfl, rfl⟩
    exact ⟨_, rfl, World.ownsRow_nil _ _ _ _, Below.refl _ _⟩
  · have h := Any8.slices_Grow_grow Tryz.growU8 i0 _ hi0 hz0 (by omega) none 0 0 n [] w (by omega) (by omega) (by rw [hz2]; omega) (by omega) (by simp) (fun _ => rfl) (fun _ h => by cases h)
    refine Calls.mono h ?_
    rintro e w' ⟨rfl, rfl⟩
    have hge := grownCap_ge w (0 + n) 0 5
    have hle := grownCap_le_maxLen w (0 + n) 0 5 (by unfold maxLen; omega)
    refine ⟨_, rfl, ⟨by simp, .inr ⟨w.heap.size, _, _, rfl, Nat.le_refl _, heap_alloc_new _ _, Nat.zero_le _, hle, ?_, by simp⟩⟩, below_new (((Keeps.refl [] w).drew).below) _⟩
    simp only [Array.size_append, size_zeroCells, List.size_toArray, List.length_nil]
    have ht : Tryz.growU8_ren.t 25 = 5 := rfl
    rw [ht]
    show 0 + (0 + n - 0) * 1 + (_ - (0 + n)) * 1 = _
    omega
def CatPost (la lb : List UInt8) (w : World) (e : Ending) (w' : World) : Prop := ∃ v, e = .returned v ∧ w'.ownsRow w.heap.size 5 1 v (la.length + lb.length) ((la ++ lb).map bV) ∧ Below w.heap.size w w'
set_option maxRecDepth 100000 in
theorem concatB_any (gs : Nat) (va vb : Value) (la lb : List UInt8) (w : World) (ha : Bs w [] va la) (hb : Bs w [] vb lb) (hla : la.length ≤ 1048576) (hlb : lb.length ≤ 1048576)
    (hgs : gs < w.heap.size) (h0 : w.cell? ⟨gs, 0, none⟩ = some va) (h1 : w.cell? ⟨gs, 1, none⟩ = some vb) :
    Calls Tryz.prog 155 #[.slice (some ⟨gs, 0, none⟩) 2 2] w fun e w' => CatPost la lb w e w' := by
  have Ha := Lib.hid ha; have Hb := Lib.hid hb
  obtain ⟨Aa, ca, rfl, hca⟩ := ha.len
  obtain ⟨Ab, cb, rfl, hcb⟩ := hb.len
  obtain ⟨i0, hi0, hz0, hz1, hz2⟩ := info_parts infoU8
  have Hi0 := Lib.hid hi0; have Hz0 := Lib.hid hz0; have Hz1 := Lib.hid hz1; have Hz2 := Lib.hid hz2
  clear ha hb hi0 hz0 hz1 hz2
  go_enter Tryz.func155, Tryz.ntmps155
  go_wp2_with fail
  go_loopw [3, 11] (fun n j wr => ∃ x y q : Nat, n = .int .i64 y ∧ j = .int .i64 x ∧ x ≤ 2 ∧ Hid ((x = 0 → y = 0) ∧ (x = 1 → y = la.length) ∧ (x = 2 → y = la.length + lb.length)) ∧ wr = w.drewN q) (fun _ j _ => 2 - (intOf j).toNat)
  case atStart => exact ⟨0, 0, 0, rfl, rfl, by omega, ⟨by omega, by omega, by omega⟩, rfl⟩
  case round =>
    obtain ⟨x, y, q, rfl, rfl, hx, Hy, rfl⟩ := hrel
    rcases (show x = 0 ∨ x = 1 ∨ x = 2 by omega) with rfl | rfl | rfl
    · obtain rfl : y = 0 := Hy.out.1 rfl
      go_wp2
      go_roundw
      case rel => exact ⟨1, la.length, q, by go_num, by go_num, by omega, ⟨by omega, by omega, by omega⟩, rfl⟩
      case measure => simp [intOf]
    · obtain rfl : y = la.length := Hy.out.2.1 rfl
      go_wp2
      go_roundw
      case rel => exact ⟨2, la.length + lb.length, q, by go_num, by go_num, by omega, ⟨by omega, by omega, by omega⟩, rfl⟩
      case measure => simp [intOf]
    · obtain rfl : y = la.length + lb.length := Hy.out.2.2 rfl
      have hgr := Lib.hid (show Calls Tryz.prog 187 #[.slice none 0 0, .int .i64 ((la.length : Int) + lb.length)] (w.drewN q) (GrowPost (w.drewN q)) by
        have := growB_any (la.length + lb.length) (w.drewN q) (by omega)
        rwa [Int.natCast_add] at this)
      go_wp2_with fail
      refine hgr.out.mono ?_
      rintro e w1 ⟨v0, rfl, hown0, hb0⟩
      have Hown0 := Lib.hid (show w1.ownsRow w.heap.size 5 1 v0 0 [] from hown0)
      have Hb0 := Lib.hid (show Below w.heap.size w w1 from ⟨hb0.os, hb0.tape, hb0.output, hb0.size, hb0.block⟩)
      have k0 : w1.cell? ⟨gs, 0, none⟩ = some (.slice Aa la.length ca) := (Hb0.out.cell (p := ⟨gs, 0, none⟩) hgs).trans h0
      have k1 : w1.cell? ⟨gs, 1, none⟩ = some (.slice Ab lb.length cb) := (Hb0.out.cell (p := ⟨gs, 1, none⟩) hgs).trans h1
      clear hown0 hb0 Hy hgr
      go_wp2_with fail
      go_loopw [6, 27] (fun out j wr => ∃ x : Nat, j = .int .i64 x ∧ x ≤ 2 ∧ Hid (Below w.heap.size w wr) ∧ Hid ((x = 0 → wr.ownsRow w.heap.size 5 1 out 0 []) ∧ (x = 1 → wr.ownsRow w.heap.size 5 1 out la.length (la.map bV)) ∧ (x = 2 → wr.ownsRow w.heap.size 5 1 out (la.length + lb.length) ((la ++ lb).map bV)))) (fun _ j _ => 2 - (intOf j).toNat)
      case atStart => exact ⟨0, rfl, by omega, Hb0.out, ⟨fun _ => Hown0.out, by omega, by omega⟩⟩
      case round =>
        obtain ⟨x, rfl, hx, Hbr, Hor⟩ := hrel
        have k0 : wr.cell? ⟨gs, 0, none⟩ = some (.slice Aa la.length ca) := (Hbr.out.cell (p := ⟨gs, 0, none⟩) hgs).trans h0
        have k1 : wr.cell? ⟨gs, 1, none⟩ = some (.slice Ab lb.length cb) := (Hbr.out.cell (p := ⟨gs, 1, none⟩) hgs).trans h1
        rcases (show x = 0 ∨ x = 1 ∨ x = 2 by omega) with rfl | rfl | rfl
        · have Hown := Lib.hid (Hor.out.1 rfl)
          have Hrd := Lib.hid ((Ha.out.keep (Keeps.of_below (M := []) Hbr.out) (by simp)).reads)
          obtain ⟨A1, c1, e1, _, hrd⟩ := Hrd.out
          injection e1 with e1 _ e2
          subst e1 e2
          have Hrd2 := Lib.hid hrd
          clear hrd Hrd
          go_wp2_with (at_builtin; refine wpList_append_any _ rfl (.tmp 31) (.tmp 32) _ rfl w.heap.size 5 i0 _ 1 1 Tryz.underlying36 Hi0.out Hz0.out Hz1.out Hz2.out rfl (by omega) u6 0 [] rfl Hown.out wr.heap.size Aa la.length ca (la.map bV) rfl Hrd2.out (bV_one la) (by unfold maxLen; omega) (by omega) Hbr.out.size ?_)
          intro v' w4 hown4 hg4 hat4
          have Hown4 : Hid (w4.ownsRow w.heap.size 5 1 v' la.length (la.map bV)) := by show World.ownsRow _ _ _ _ _ _ _; simpa using hown4
          have Hb4 := Lib.hid (Hbr.out.grown hg4 Hbr.out.size (fun g hg => (Hown.out.lt g hg).1))
          clear hown4 hg4 hat4
          go_wp2
          go_roundw
          case rel => exact ⟨1, by go_num, by omega, Hb4, ⟨by omega, fun _ => Hown4.out, by omega⟩⟩
          case measure => simp [intOf]
        · have Hown := Lib.hid (Hor.out.2.1 rfl)
          have Hrd := Lib.hid ((Hb.out.keep (Keeps.of_below (M := []) Hbr.out) (by simp)).reads)
          obtain ⟨A1, c1, e1, _, hrd⟩ := Hrd.out
          injection e1 with e1 _ e2
          subst e1 e2
          have Hrd2 := Lib.hid hrd
          clear hrd Hrd
          go_wp2_with (at_builtin; refine wpList_append_any _ rfl (.tmp 31) (.tmp 32) _ rfl w.heap.size 5 i0 _ 1 1 Tryz.underlying36 Hi0.out Hz0.out Hz1.out Hz2.out rfl (by omega) u6 la.length (la.map bV) rfl Hown.out wr.heap.size Ab lb.length cb (lb.map bV) rfl Hrd2.out (bV_one lb) (by unfold maxLen; omega) (by omega) Hbr.out.size ?_)
          intro v' w4 hown4 hg4 hat4
          have Hown4 : Hid (w4.ownsRow w.heap.size 5 1 v' (la.length + lb.length) ((la ++ lb).map bV)) := by show World.ownsRow _ _ _ _ _ _ _; rw [List.map_append]; exact hown4
          have Hb4 := Lib.hid (Hbr.out.grown hg4 Hbr.out.size (fun g hg => (Hown.out.lt g hg).1))
          clear hown4 hg4 hat4
          go_wp2
          go_roundw
          case rel => exact ⟨2, by go_num, by omega, Hb4, ⟨by omega, by omega, fun _ => Hown4.out⟩⟩
          case measure => simp [intOf]
        · have hp : CatPost la lb w (.returned u6) wr := ⟨u6, rfl, Hor.out.2.2 rfl, Hbr.out⟩
          go_wp2
          go_ret
          exact hp
end Go.Proofs.YtinnifhnabncfaaGreatDoor.Vi
end
/- Contract of frame.Bytes. -/
section
namespace Go.Proofs.YtinnifhnabncfaaGreatDoor.Vi
open Go.RowKit Base Mem Go.Shelf
theorem own_more {w : World} {base base' : Nat} {e : TypeId} {size n : Nat} {v : Value} {xs : List Value} (h : w.ownsRow base e size v n xs) (hb : base' ≤ base) : w.ownsRow base' e size v n xs := by
  obtain ⟨hl, h⟩ := h
  refine ⟨hl, h.imp id ?_⟩
  rintro ⟨g, cap, cur, hv, hbg, rest⟩
  exact ⟨g, cap, cur, hv, Nat.le_trans hb hbg, rest⟩
def FrPost (l : List UInt8) (w : World) (e : Ending) (w' : World) : Prop := ∃ A c, e = .returned (.tuple #[.slice A (frameL l).length c, .int .i64 0]) ∧ (∀ M, (∀ g ∈ M, g < w.heap.size) → Bs w' M (.slice A (frameL l).length c) (frameL l)) ∧ Below w.heap.size w w'
theorem frame_long (v : Value) (l : List UInt8) (w : World) (h : Bs w [] v l) (hl : 65536 < l.length) :
    Calls Tryz.prog 99 #[v] w fun e w' => e = .returned (.tuple #[.slice none 0 0, .int .i64 3]) ∧ w = w' := by
  obtain ⟨A, c, rfl, _⟩ := h.len
  have hi : (65536 : Int) < (l.length : Int) := by omega
  clear h
  go_enter Tryz.func99, Tryz.ntmps99
  go_wp2
  go_ret2
  exact ⟨rfl, rfl⟩
set_option maxRecDepth 100000 in
set_option maxHeartbeats 1000000 in
theorem frame_any (v : Value) (l : List UInt8) (w : World) (h : Bs w [] v l) (hl : l.length ≤ 65536) :
    Calls Tryz.prog 99 #[v] w fun e w' => FrPost l w e w' := by
  obtain ⟨i0, hi0, hz0, hz1, hz2⟩ := info_parts infoU8
  have Hi0 := Lib.hid hi0; have Hz0 := Lib.hid hz0; have Hz1 := Lib.hid hz1; have Hz2 := Lib.hid hz2
  obtain ⟨A, c, rfl, hc⟩ := h.len
  have Hh := Lib.hid h
  have hput := put_any (.slice none 0 0) [] l.length w (Bs.nil _ _) (by omega) (by simp)
  rw [List.nil_append] at hput
  have Hput := Lib.hid hput
  have hul := Lib.uvarint_length64 (x := l.length) (by omega)
  have hup := Lib.uvarint_pos l.length
  have HF : Hid (frameL l = Lib.uvarint l.length ++ (leL (crcOf l) ++ l)) := rfl
  have hcr := Lib.hid (fun W (hk : Keeps [] w W) => crcof_any (.slice A l.length c) l W (h.keep hk (by simp)) (by omega))
  have hs := crcOf_lt l
  clear h hi0 hz0 hz1 hz2 hput
  generalize crcOf l = s at *
  generalize Lib.uvarint l.length = uv at *
  obtain ⟨n, hn⟩ : ∃ n, n = uv.length := ⟨_, rfl⟩
  have Hn := Lib.hid hn
  rw [← hn] at hul hup
  have hwl : IntKind.u64.wrap (l.length : Int) = (l.length : Int) := by rw [IntKind.wrap_u64]; omega
  have hli : decide ((65536 : Int) < (l.length : Int)) = false := decide_eq_false (by omega)
  clear hn
  go_enter Tryz.func99, Tryz.ntmps99
  go_wp2_with fail
  refine Hput.out.mono ?_
  rintro e w1 ⟨A1, rfl, hB1, hb1⟩
  obtain ⟨g1, o1, rfl⟩ := (hB1 [] (by simp)).some_ (by have := Hn.out; omega)
  rw [← Hn.out] at hB1 ⊢
  have HB1 := Lib.hid (hB1 [] (by simp)); have Hb1 := Lib.hid hb1
  have Hc1 := Lib.hid (hcr.out w1 (Keeps.of_below hb1))
  clear hB1 hb1 hcr Hput
  go_wp2_with fail
  refine Hc1.out.mono ?_
  rintro e w' ⟨rfl, rfl⟩
  clear Hc1
  go_wp2_with fail
  go_loopw [4, 16] (fun out i wr => ∃ x : Nat, i = .int .i64 x ∧ x ≤ 4 ∧ Hid ((x = 0 → out = .slice (some ⟨g1, o1, none⟩) n n ∧ Bs wr [] out uv) ∧ (0 < x → wr.ownsRow w.heap.size 5 1 out (n + x) ((uv ++ (leL s).take x).map bV))) ∧ Hid (Below w.heap.size w wr)) (fun _ i _ => 4 - (intOf i).toNat)
  case atStart => exact ⟨0, rfl, by omega, ⟨fun _ => ⟨rfl, HB1.out⟩, by omega⟩, Hb1.out⟩
  case round =>
    obtain ⟨x, rfl, hx, Hor, Hbr⟩ := hrel
    rcases (show x = 0 ∨ x = 1 ∨ x = 2 ∨ x = 3 ∨ x = 4 by omega) with rfl | rfl | rfl | rfl | rfl
    · have hone : Hid (bV (UInt8.ofNat (s)) = .int .u8 ((s : Int) % 256)) := by show _ = _; rw [bV_low]; try (congr 1)
      have Hrd := Lib.hid (reads_new wr 5 1 1 [.int .u8 ((s : Int) % 256)] rfl)
      obtain ⟨rfl, hB⟩ := Hor.out.1 rfl
      obtain ⟨_, _, eA, hg, _⟩ := (show ∃ g off, (some ⟨g1, o1, none⟩ : Option Addr) = some ⟨g, off, none⟩ ∧ g < wr.heap.size ∧ True by
        obtain ⟨A', c', e2, _, _, hr⟩ := hB
        injection e2 with e2 _ _
        subst e2
        obtain ⟨g', off', e3, hg', _, _⟩ := hr (by have := Hn.out; omega)
        exact ⟨g', off', e3, hg', trivial⟩)
      injection eA with eA
      injection eA with eg eo _
      subst eg eo
      have HBw := Lib.hid hB
      have Hcells : Hid (∀ (j : Nat) u, (uv.map bV)[j]? = some u → (wr.alloc (.cells #[.int .u8 ((s : Int) % 256)] 5)).cell? ⟨g1, o1 + j, none⟩ = some u) := fun j u hu => by
        obtain ⟨A', c', e2, _, _, hr⟩ := HBw.out
        injection e2 with e2 _ _
        subst e2
        obtain ⟨g', off', e3, hg', _, hx⟩ := hr (by have := Hn.out; omega)
        injection e3 with e3
        injection e3 with e3 e4 _
        subst e3 e4
        rw [World.cell?_alloc_lt wr _ ⟨g1, o1 + j, none⟩ hg]
        exact hx j u hu
      clear hB
      go_wp2_with (at_builtin; refine wpList_append_arg _ rfl (.tmp 19) (.tmp 25) _ rfl 5 i0 _ 1 1 Tryz.underlying36 Hi0.out Hz0.out Hz1.out Hz2.out rfl (by omega) g1 o1 n n (uv.map bV) rfl (by have := Hn.out; simp; omega) Hcells.out ⟨wr.heap.size, 0, none⟩ 1 1 [.int .u8 ((s : Int) % 256)] rfl rfl (fun j u hu => (Hrd.out.2 (by omega)).elim fun ad h => by obtain ⟨e, _, hx⟩ := h; injection e with e; subst e; exact hx j u hu) (by intro u hu; simp at hu; subst hu; rfl) (fun h => by omega) (by unfold maxLen; omega) (by omega) (fun h => by omega) (fun _ => ?_))
      intro v' w4 hown4 hg4
      have Hown4 : Hid (w4.ownsRow w.heap.size 5 1 v' (n + 1) ((uv ++ (leL s).take 1).map bV)) := by
        show World.ownsRow _ _ _ _ _ _ _
        have e : (uv ++ (leL s).take 1).map bV = uv.map bV ++ [.int .u8 ((s : Int) % 256)] := by rw [← hone.out]; simp [leL]
        rw [e]
        exact own_more (base' := w.heap.size) hown4 (by have := Hbr.out.size; simp; omega)
      have Hb4 : Hid (Below w.heap.size w w4) := (Hbr.out.alloc Hbr.out.size _).grown hg4 (by have := Hbr.out.size; simp; omega) (by simp)
      clear hown4 hg4
      go_wp2
      go_roundw
      case rel => exact ⟨1, by go_num, by omega, ⟨by omega, fun _ => Hown4.out⟩, Hb4⟩
      case measure => simp [intOf]
    · have hone : Hid (bV (UInt8.ofNat (s / 256)) = .int .u8 ((s : Int) / 256 % 256)) := by show _ = _; rw [bV_low]; try (congr 1)
      have Hrd := Lib.hid (reads_new wr 5 1 1 [.int .u8 ((s : Int) / 256 % 256)] rfl)
      have Hown3 := Lib.hid ((Hor.out.2 (by omega)).alloc (.cells #[.int .u8 ((s : Int) / 256 % 256)] 5))
      go_wp2_with (at_builtin; go_must (refine wpList_append_any _ rfl (.tmp 19) (.tmp 25) _ rfl w.heap.size 5 i0 _ 1 1 Tryz.underlying36 Hi0.out Hz0.out Hz1.out Hz2.out rfl (by omega) u4 (n + 1) ((uv ++ (leL s).take 1).map bV) rfl Hown3.out (wr.heap.size + 1) (some ⟨wr.heap.size, 0, none⟩) 1 1 [.int .u8 ((s : Int) / 256 % 256)] rfl Hrd.out (by intro u hu; simp at hu; subst hu; rfl) (by unfold maxLen; omega) (by omega) (by have := Hbr.out.size; simp; omega) ?_))
      intro v' w4 hown4 hg4 hat4
      have Hown4 : Hid (w4.ownsRow w.heap.size 5 1 v' (n + 2) ((uv ++ (leL s).take 2).map bV)) := by
        show World.ownsRow _ _ _ _ _ _ _
        have e : (uv ++ (leL s).take 2).map bV = (uv ++ (leL s).take 1).map bV ++ [.int .u8 ((s : Int) / 256 % 256)] := by rw [← hone.out]; simp [leL]
        rw [e]
        simpa [Nat.add_assoc] using hown4
      have Hb4 : Hid (Below w.heap.size w w4) := (Hbr.out.alloc Hbr.out.size _).grown hg4 (by have := Hbr.out.size; simp; omega) (fun g hg => ((Hor.out.2 (by omega)).lt g hg).1)
      clear hown4 hg4 hat4
      go_wp2
      go_roundw
      case rel => exact ⟨2, by go_num, by omega, ⟨by omega, fun _ => Hown4.out⟩, Hb4⟩
      case measure => simp [intOf]
    · have hone : Hid (bV (UInt8.ofNat (s / 65536)) = .int .u8 ((s : Int) / 65536 % 256)) := by show _ = _; rw [bV_low]; try (congr 1)
      have Hrd := Lib.hid (reads_new wr 5 1 1 [.int .u8 ((s : Int) / 65536 % 256)] rfl)
      have Hown3 := Lib.hid ((Hor.out.2 (by omega)).alloc (.cells #[.int .u8 ((s : Int) / 65536 % 256)] 5))
      go_wp2_with (at_builtin; go_must (refine wpList_append_any _ rfl (.tmp 19) (.tmp 25) _ rfl w.heap.size 5 i0 _ 1 1 Tryz.underlying36 Hi0.out Hz0.out Hz1.out Hz2.out rfl (by omega) u4 (n + 2) ((uv ++ (leL s).take 2).map bV) rfl Hown3.out (wr.heap.size + 1) (some ⟨wr.heap.size, 0, none⟩) 1 1 [.int .u8 ((s : Int) / 65536 % 256)] rfl Hrd.out (by intro u hu; simp at hu; subst hu; rfl) (by unfold maxLen; omega) (by omega) (by have := Hbr.out.size; simp; omega) ?_))
      intro v' w4 hown4 hg4 hat4
      have Hown4 : Hid (w4.ownsRow w.heap.size 5 1 v' (n + 3) ((uv ++ (leL s).take 3).map bV)) := by
        show World.ownsRow _ _ _ _ _ _ _
        have e : (uv ++ (leL s).take 3).map bV = (uv ++ (leL s).take 2).map bV ++ [.int .u8 ((s : Int) / 65536 % 256)] := by rw [← hone.out]; simp [leL]
        rw [e]
        simpa [Nat.add_assoc] using hown4
      have Hb4 : Hid (Below w.heap.size w w4) := (Hbr.out.alloc Hbr.out.size _).grown hg4 (by have := Hbr.out.size; simp; omega) (fun g hg => ((Hor.out.2 (by omega)).lt g hg).1)
      clear hown4 hg4 hat4
      go_wp2
      go_roundw
      case rel => exact ⟨3, by go_num, by omega, ⟨by omega, fun _ => Hown4.out⟩, Hb4⟩
      case measure => simp [intOf]
    · have hone : Hid (bV (UInt8.ofNat (s / 16777216)) = .int .u8 ((s : Int) / 16777216)) := by show _ = _; rw [bV_low]; congr 1; omega
      have Hrd := Lib.hid (reads_new wr 5 1 1 [.int .u8 ((s : Int) / 16777216)] rfl)
      have Hown3 := Lib.hid ((Hor.out.2 (by omega)).alloc (.cells #[.int .u8 ((s : Int) / 16777216)] 5))
      go_wp2_with (at_builtin; go_must (refine wpList_append_any _ rfl (.tmp 19) (.tmp 25) _ rfl w.heap.size 5 i0 _ 1 1 Tryz.underlying36 Hi0.out Hz0.out Hz1.out Hz2.out rfl (by omega) u4 (n + 3) ((uv ++ (leL s).take 3).map bV) rfl Hown3.out (wr.heap.size + 1) (some ⟨wr.heap.size, 0, none⟩) 1 1 [.int .u8 ((s : Int) / 16777216)] rfl Hrd.out (by intro u hu; simp at hu; subst hu; rfl) (by unfold maxLen; omega) (by omega) (by have := Hbr.out.size; simp; omega) ?_))
      intro v' w4 hown4 hg4 hat4
      have Hown4 : Hid (w4.ownsRow w.heap.size 5 1 v' (n + 4) ((uv ++ (leL s).take 4).map bV)) := by
        show World.ownsRow _ _ _ _ _ _ _
        have e : (uv ++ (leL s).take 4).map bV = (uv ++ (leL s).take 3).map bV ++ [.int .u8 ((s : Int) / 16777216)] := by rw [← hone.out]; simp [leL]
        rw [e]
        simpa [Nat.add_assoc] using hown4
      have Hb4 : Hid (Below w.heap.size w w4) := (Hbr.out.alloc Hbr.out.size _).grown hg4 (by have := Hbr.out.size; simp; omega) (fun g hg => ((Hor.out.2 (by omega)).lt g hg).1)
      clear hown4 hg4 hat4
      go_wp2
      go_roundw
      case rel => exact ⟨4, by go_num, by omega, ⟨by omega, fun _ => Hown4.out⟩, Hb4⟩
      case measure => simp [intOf]
    · have hown := Hor.out.2 (by omega)
      have hB4 : Bs wr [] u4 (uv ++ leL s) := by
        have := Rd.of_own (M := []) hown (by simp)
        have e : (leL s).take 4 = leL s := rfl
        rw [e] at this
        unfold Bs
        rw [List.length_append, ← Hn.out, leL_len]
        exact this
      obtain ⟨A4, c4, rfl, hc4⟩ := hB4.len
      have hl4 : (uv ++ leL s).length = n + 4 := by rw [List.length_append, ← Hn.out, leL_len]
      have hBl : Bs wr [] (.slice A l.length c) l := Hh.out.keep (Keeps.of_below (M := []) Hbr.out) (by simp)
      have hk : Keeps [] wr (wr.alloc (.cells #[.slice A4 (n + 4) c4, .slice A l.length c] 36)) := (Keeps.refl _ _).alloc _
      rw [hl4] at hB4
      have hBk := Blk.new wr 36 #[.slice A4 (n + 4) c4, .slice A l.length c]
      have hcat := Lib.hid (concatB_any wr.heap.size (.slice A4 (n + 4) c4) (.slice A l.length c) (uv ++ leL s) l _ (hB4.keep hk (by simp)) (hBl.keep hk (by simp)) (by rw [hl4]; omega) (by omega) hBk.lt (hBk.cell 0) (hBk.cell 1))
      have Hb5 := Lib.hid ((Keeps.of_below (M := []) Hbr.out).trans hk (by simp)).below
      have hfe : Hid (frameL l = (uv ++ leL s) ++ l) := by show _ = _; rw [HF.out, List.append_assoc]
      rw [hl4]
      clear hB4 hBl hk hBk hown hl4 hc4
      go_wp2_with fail
      refine hcat.out.mono ?_
      rintro e w6 ⟨v6, rfl, hown6, hb6⟩
      rw [← List.length_append, ← hfe.out] at hown6
      have hR6 : ∀ M, (∀ g ∈ M, g < w.heap.size) → Bs w6 M v6 (frameL l) := fun M hM => Rd.of_own hown6 (fun g hg => by have := hM g hg; have := Hb5.out.size; omega)
      obtain ⟨A6, c6, rfl, hc6⟩ := (hR6 [] (by simp)).len
      have hp : Hid (FrPost l w (.returned (.tuple #[.slice A6 (frameL l).length c6, .int .i64 0])) w6) := ⟨A6, c6, rfl, hR6, below_then Hb5.out hb6⟩
      clear hown6 hR6 hb6 hcat
      generalize (frameL l).length = fl at *
      go_wp2
      go_ret2
      exact hp.out
end Go.Proofs.YtinnifhnabncfaaGreatDoor.Vi
end
