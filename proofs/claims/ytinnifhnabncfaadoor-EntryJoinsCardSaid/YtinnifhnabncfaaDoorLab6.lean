/- Contract of label.Parse. -/
import Derived.Test.YtinnifhnabncfaaDoorLab5
namespace Go.Proofs.YtinnifhnabncfaaDoor.Vi
open Go.RowKit Base Mem Go.Sort Go.Shelf
def partsS (s : ByteArray) : List ByteArray := Lib.splitB ⟨#[44]⟩ 0 (Lib.countB s ⟨#[44]⟩) s
def cutD (p : ByteArray) : LabD := ⟨⟨(Lib.cut p.data.toList [61]).1.toArray⟩, ⟨(Lib.cut p.data.toList [61]).2.1.toArray⟩⟩
def labsS (s : ByteArray) : List LabD := (partsS s).map cutD
/-- Is a text a series? -/
def serOk (s : ByteArray) : Bool := decide ((ltextS (labsS s)).2 = 0) && (ltextS (labsS s)).1.toList == s.toList
theorem splitB_size (sep : ByteArray) : ∀ (k : Nat) (s : ByteArray), ∀ p ∈ Lib.splitB sep 0 k s, p.size ≤ s.size
  | 0, s, p, h => by rw [Lib.splitB_zero] at h; simp at h; subst h; exact Nat.le_refl _
  | k + 1, s, p, h => by
    unfold Lib.splitB at h
    split at h
    · simp at h; subst h; exact Nat.le_refl _
    · rcases List.mem_cons.1 h with h | h
      · subst h; rw [ByteArray.size_extract]; omega
      · have := splitB_size sep k _ p h
        rw [ByteArray.size_extract] at this
        omega
def ParsePost (s : ByteArray) (w : World) (e : Ending) (w' : World) : Prop := ∃ v, e = .returned (.tuple #[v, .int .i64 (if serOk s = true then 0 else 12)]) ∧ Below w.heap.size w w'
set_option maxRecDepth 100000 in
set_option maxHeartbeats 1000000 in
theorem parse_any (s : ByteArray) (m : Int) (w : World) (hs : s.size < 4294967281) (hm : w.cell? ⟨0, 0, none⟩ = some (.int .i64 m)) :
    Calls Tryd.prog 43 #[.string s] w fun e w' => ParsePost s w e w' := by
  have hsp := Lib.hid (Tryd.strings_Split s ⟨#[44]⟩ m w hs hm (by decide))
  have hsz := Lib.hid (splitB_size ⟨#[44]⟩ (Lib.countB s ⟨#[44]⟩) s)
  have hcl := Lib.countB_le ⟨#[44]⟩ (by decide) s.size s (Nat.le_refl _)
  have hln : (partsS s).length = Lib.countB s ⟨#[44]⟩ + 1 := Lib.splitB_all ⟨#[44]⟩ (by decide) 0 _ s rfl
  have hw0 : 0 < w.heap.size := by
    rcases Nat.eq_zero_or_pos w.heap.size with h | h
    · exfalso
      have := World.block_lt_of_cell? w _ hm
      simp at this; omega
    · exact h
  have Hm := Lib.hid hm
  have HO : Hid (serOk s = (decide ((ltextS (labsS s)).2 = 0) && (ltextS (labsS s)).1.toList == s.toList)) := rfl
  have HL : Hid (labsS s = (partsS s).map cutD) := rfl
  obtain ⟨i0, hi0, hz0, hz1, hz2⟩ := info_parts infoLabel
  have Hi0 := Lib.hid hi0; have Hz0 := Lib.hid hz0; have Hz1 := Lib.hid hz1; have Hz2 := Lib.hid hz2
  clear hi0 hz0 hz1 hz2 hm
  have hps : Hid (∀ p ∈ partsS s, p.size ≤ s.size) := hsz.out
  have hpd : Hid (partsS s = Lib.splitB ⟨#[44]⟩ 0 (Lib.countB s ⟨#[44]⟩) s) := rfl
  rw [← hpd.out] at hsp
  rw [← hln] at hsp
  have hlen : (partsS s).length ≤ 4294967295 := by omega
  clear hsz hpd hln hcl
  generalize partsS s = ps at *
  generalize labsS s = ls at *
  go_enter Tryd.func43, Tryd.ntmps43
  go_wp2_with fail
  refine hsp.out.mono ?_
  rintro e w1 ⟨rfl, hw1⟩
  have hb1 : Below w.heap.size w w1 := by rw [hw1]; exact (Below.refl _ _).alloc (Nat.le_refl _) _
  have hB1 : Blk w1 w.heap.size 9 (ps.map Value.string).toArray := by rw [hw1]; exact Blk.new w _ _
  have Hb1 := Lib.hid hb1; have HB1 := Lib.hid hB1
  have hw1s : w.heap.size < w1.heap.size := hB1.lt
  clear hw1 hb1 hB1 hsp
  go_wp2_with fail
  go_loopw [4, 15] (fun out i wr => ∃ x : Nat, i = .int .i64 x ∧ x ≤ ps.length ∧ Hid (wr.ownsRow w1.heap.size 97 2 out x (((ps.take x).map cutD).flatMap labEnc)) ∧ Hid (Below w1.heap.size w1 wr)) (fun _ i _ => ps.length - (intOf i).toNat)
  case atStart => exact ⟨0, rfl, by omega, World.ownsRow_nil _ _ _ _, Below.refl _ _⟩
  case round =>
    obtain ⟨x, rfl, hx, Hown, Hbr⟩ := hrel
    by_cases hlt : x < ps.length
    · have hx1 : (x : Int) < (ps.length : Int) := by omega
      have c0 : wr.cell? ⟨w.heap.size, x, none⟩ = some (.string ps[x]) := by
        rw [(HB1.out.below Hbr.out hw1s).cell x, List.getElem?_toArray, List.getElem?_map, List.getElem?_eq_getElem hlt]; rfl
      have Htk : Hid (ps.take (x + 1) = ps.take x ++ [ps[x]]) := List.take_succ_eq_append_getElem hlt
      have hpx := hps.out ps[x] (List.getElem_mem _)
      have hmr : wr.cell? ⟨0, 0, none⟩ = some (.int .i64 m) := (Hbr.out.cell (p := ⟨0, 0, none⟩) (by simp; omega)).trans ((Hb1.out.cell (p := ⟨0, 0, none⟩) hw0).trans Hm.out)
      generalize ps[x] = p at *
      have hcu := Lib.hid (Tryd.strings_Cut p ⟨#[61]⟩ m wr (by omega) hmr)
      have Hcd : Hid (cutD p = ⟨⟨(Lib.cut p.data.toList [61]).1.toArray⟩, ⟨(Lib.cut p.data.toList [61]).2.1.toArray⟩⟩) := rfl
      have hcu2 := Lib.hid (show Calls Tryd.prog 58 #[.string p, .string ⟨#[61]⟩] wr fun e w' => e = .returned (.tuple #[.string (cutD p).name, .string (cutD p).value, .bool (Lib.cut p.data.toList [61]).2.2]) ∧ ∃ n, w' = wr.drewN n from hcu.out)
      clear hcu Hcd hmr hpx
      generalize hd : cutD p = d at *
      have Hd := Lib.hid hd
      generalize (Lib.cut p.data.toList [61]).2.2 = fnd at *
      clear hd
      have Htk2 : Hid ((ps.take (x + 1)).map cutD = (ps.take x).map cutD ++ [d]) := by show _ = _; rw [Htk.out, List.map_append, List.map_cons, List.map_nil, Hd.out]
      have hz2 : w1.heap.size ≤ wr.heap.size := Hbr.out.size
      have Hm1 : Hid (x + 1 ≤ maxLen) := by show _ ≤ _; unfold maxLen; omega
      have Hm2 : Hid ((x + 1) * 32 ≤ 140737488355328) := by show _ ≤ _; omega
      have Hone : Hid (∀ u ∈ labEnc d, u.oneCell' = true) := fun u hu => by simp [labEnc] at hu; rcases hu with rfl | rfl <;> rfl
      have Hown3 : Hid (∀ n, ((wr.drewN n).alloc (.cells #[.string d.name, .string d.value] 97)).ownsRow w1.heap.size 97 2 u4 x (((ps.take x).map cutD).flatMap labEnc)) := fun n =>
        own_keep Hown.out (((Keeps.refl [] wr).drewN n).alloc _) (by simp)
      have Hrd : Hid (∀ n, Reads ((wr.drewN n).alloc (.cells #[.string d.name, .string d.value] 97)) (wr.heap.size + 1) 2 (some ⟨wr.heap.size, 0, none⟩) 1 (labEnc d)) := fun n => reads_new (wr.drewN n) 97 2 1 (labEnc d) rfl
      clear Htk Hd
      go_wp2_with fail
      refine hcu2.out.mono ?_
      rintro e w3 ⟨rfl, n, rfl⟩
      go_wp2_with (at_builtin; refine wpList_append_any _ rfl (.tmp 25) (.tmp 29) _ rfl w1.heap.size 97 i0 _ 2 32 Tryd.underlying74 Hi0.out Hz0.out Hz1.out Hz2.out rfl (by omega) u4 x (((ps.take x).map cutD).flatMap labEnc) rfl (Hown3.out n) (wr.heap.size + 1) (some ⟨wr.heap.size, 0, none⟩) 1 1 (labEnc d) rfl (Hrd.out n) Hone.out Hm1.out Hm2.out (by simp; omega) ?_)
      intro v4 w4 hown4 hg4 hat4
      have Hown4 : Hid (w4.ownsRow w1.heap.size 97 2 v4 (x + 1) (((ps.take (x + 1)).map cutD).flatMap labEnc)) := by
        show World.ownsRow _ _ _ _ _ _ _
        rw [Htk2.out, List.flatMap_append]
        simpa using hown4
      have Hb4 : Hid (Below w1.heap.size w1 w4) := (((Keeps.of_below (M := []) Hbr.out).drewN n).alloc _).below.grown hg4 (by simp; omega) (fun g hg => (Hown.out.lt g hg).1)
      clear hown4 hg4 hat4
      go_wp2
      go_roundw
      case rel => exact ⟨x + 1, by go_num, by omega, Hown4, Hb4⟩
      case measure => simp [intOf] <;> omega
    · obtain rfl : x = ps.length := by omega
      have hown := Hown.out
      rw [List.take_length, ← HL.out] at hown
      have hll : ps.length = ls.length := by rw [HL.out, List.length_map]
      rw [hll] at hown
      have hlab : Labs wr [] u4 ls := Rd.of_own hown (by simp)
      have htx := Lib.hid (show Calls Tryd.prog 59 #[u4] wr fun e w' => e = .returned (.tuple #[.string (ltextS ls).1, .int .i64 (ltextS ls).2]) ∧ Below wr.heap.size wr w' from ltext_any u4 ls wr hlab (by rw [← hll]; omega))
      obtain ⟨A4, c4, rfl, hc4⟩ := hlab.len
      have Hall := Lib.hid (below_then Hb1.out Hbr.out)
      have hp : Hid (∀ v w', Below wr.heap.size wr w' → ParsePost s w (.returned (.tuple #[v, .int .i64 (if serOk s = true then 0 else 12)])) w') := fun v w' hb => ⟨v, rfl, below_then Hall.out hb⟩
      clear hown hlab hll Hown
      generalize ltextS ls = t at *
      obtain ⟨t1, t2⟩ := t
      simp only at HO htx
      go_wp2_with fail
      refine htx.out.mono ?_
      rintro e w5 ⟨rfl, hb5⟩
      by_cases h2 : t2 = 0
      · subst h2
        by_cases h3 : (t1.toList == s.toList) = true
        · have hok : Hid (serOk s = true) := by show _ = _; rw [HO.out, h3]; rfl
          have Hp := Lib.hid (hp.out (.slice A4 ls.length ls.length) w5 hb5)
          rw [hok.out, if_pos rfl] at Hp
          clear hp htx hb5
          go_wp2_with fail
          refine (clipLabel A4 ls.length c4 _ hc4).mono ?_
          rintro e w' ⟨rfl, rfl⟩
          go_wp2
          go_ret2
          exact Hp.out
        · have h3' : (t1.toList == s.toList) = false := by simpa using h3
          have hok : Hid (serOk s = false) := by show _ = _; rw [HO.out, h3']; rfl
          have Hp := Lib.hid (hp.out (.slice none 0 0) w5 hb5)
          rw [hok.out, if_neg (by simp)] at Hp
          clear hp htx hb5 h3
          go_wp2
          go_ret2
          exact Hp.out
      · have hne : ((t2 : Int) != 0) = true := by simpa using h2
        have hok : Hid (serOk s = false) := by show _ = _; rw [HO.out, decide_eq_false h2]; rfl
        have Hp := Lib.hid (hp.out (.slice none 0 0) w5 hb5)
        rw [hok.out, if_neg (by simp)] at Hp
        clear hp htx hb5 h2
        go_wp2
        go_ret2
        exact Hp.out
end Go.Proofs.YtinnifhnabncfaaDoor.Vi
