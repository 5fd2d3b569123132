/- Texts put together: MGet, Msg7, Msg8, Msg9, MsgA, TNum. -/
import Derived.Laws.IdiomStrings
import Derived.Test.YtinnifhnabncfaaGreatDoorEN3
import Derived.Test.YtinnifhnabncfaaGreatDoorEN6
import Derived.Test.YtinnifhnabncfaaGreatDoorEN10
import Derived.Test.YtinnifhnabncfaaGreatDoorEN11
set_option linter.unusedVariables false
set_option linter.unusedSimpArgs false
/- Contract of mail.Get. -/
section
namespace Go.Proofs.YtinnifhnabncfaaGreatDoor.Vi
open Go.RowKit Base Mem Go.Shelf
def preE (acc : List EntryD) : Option (List EntryD) × List UInt8 × Bool → Option (List EntryD) × List UInt8 × Bool
  | (none, s) => (none, s)
  | (some es, s) => (some (acc ++ es), s)
/-- So many entries from the front; none: one of them is none. -/
def getEs : Nat → List UInt8 → Bool → Option (List EntryD) × List UInt8 × Bool
  | 0, l, b => (some [], l, b)
  | k + 1, l, b => if (textS l b).2.2 = true ∨ (readE (textS l b).1).2 ≠ 0 then (none, (textS l b).2) else preE [(readE (textS l b).1).1] (getEs k (textS l b).2.1 (textS l b).2.2)
def mgetS (l : List UInt8) (b : Bool) : Option (List EntryD) × List UInt8 × Bool := getEs (countS l b 128).1 (countS l b 128).2.1 (countS l b 128).2.2
def MGetPost (M : List Nat) (p : Nat) (R : Option (List EntryD) × List UInt8 × Bool) (w : World) (e : Ending) (w' : World) : Prop := match R with
  | (none, _) => e = .returned (.tuple #[.slice none 0 0, .bool false]) ∧ Keeps [p] w w'
  | (some es, l', b') => ∃ v, e = .returned (.tuple #[v, .bool (!b')]) ∧ (∀ M', (∀ g ∈ M', g < w.heap.size) → Ens w' M' v es) ∧ RdAt w' M p l' b' ∧ Keeps [p] w w'
theorem preE_nil (R : Option (List EntryD) × List UInt8 × Bool) : preE [] R = R := by
  obtain ⟨_ | es, s⟩ := R <;> rfl
theorem preE_pre (a b : List EntryD) (R : Option (List EntryD) × List UInt8 × Bool) : preE a (preE b R) = preE (a ++ b) R := by
  obtain ⟨_ | es, s⟩ := R
  · rfl
  · simp [preE]
theorem infoEntry2 : (Tryz.prog.info? 26).map (fun i => (i.zero, i.size, i.bytes)) = some (some (.agg #[.int .i64 0, .int .i64 0, .int .i64 0, .int .i64 0, .int .i64 0, .slice none 0 0, .string ByteArray.empty, .int .i64 0, .int .i64 0]), 9, 96) := by kernel_rfl
/-- A text turned to bytes. -/
theorem bytes_of (w : World) (s : List UInt8) : ∃ c W, (convert 9 36 (.string ⟨s.toArray⟩)).run Tryz.prog w = .ok (.slice (some ⟨w.heap.size, 0, none⟩) s.length c) W ∧ Keeps [] w W ∧ w.heap.size < W.heap.size ∧ ∀ M, (∀ g ∈ M, g < w.heap.size) → Bs W M (.slice (some ⟨w.heap.size, 0, none⟩) s.length c) s := by
  have hge := grownCap_ge w s.length 0 5
  have hw2 : Keeps [] w (w.drew.alloc (.cells (bytesRow ⟨s.toArray⟩ (grownCap w s.length 0 5)) 5 ((bytesRow ⟨s.toArray⟩ (grownCap w s.length 0 5)).size, (bytesRow ⟨s.toArray⟩ (grownCap w s.length 0 5)).size + 1))) := (Keeps.refl [] w).drew.alloc _
  refine ⟨_, _, run_bytes_of_string w _ _ 5 ⟨s.toArray⟩ Tryz.underlying9 Tryz.underlying36 Tryz.underlying5, hw2, by show w.heap.size < (w.drew.alloc _).heap.size; simp, fun M hM => ⟨_, _, rfl, hge, by simp, fun h0 => ⟨w.heap.size, 0, rfl, by show w.heap.size < (w.drew.alloc _).heap.size; simp, fun hm => by have := hM _ hm; omega, fun j u hu => ?_⟩⟩⟩
  rw [cell_of_row _ w.heap.size (0 + j) _ _ _ (heap_alloc_new w.drew _), Nat.zero_add]
  unfold bytesRow
  have hj : j < s.length := by have := (List.getElem?_eq_some_iff.1 hu).1; simpa using this
  rw [List.getElem?_map] at hu
  rw [Array.getElem?_append_left (by simpa using hj), Array.getElem?_map, List.getElem?_toArray]
  exact hu
set_option maxRecDepth 100000 in
set_option maxHeartbeats 1000000 in
theorem mget_any (M : List Nat) (p : Nat) (l : List UInt8) (b : Bool) (m : Int) (w : World) (h : RdAt w M p l b) (hl : l.length < 4294967281) (hm : w.cell? ⟨0, 0, none⟩ = some (.int .i64 m)) (hp0 : p ≠ 0) :
    Calls Tryz.prog 137 #[.pointer (some ⟨p, 0, none⟩)] w fun e w' => MGetPost M p (mgetS l b) w e w' := by
  have hw0 : 0 < w.heap.size := by
    have := World.block_lt_of_cell? w _ hm
    simpa using this
  have hkeepm : Hid (∀ W, Keeps [p] w W → W.cell? ⟨0, 0, none⟩ = some (.int .i64 m)) := fun W hb => (hb.cell (p := ⟨0, 0, none⟩) hw0 (by simp; omega)).trans hm
  have hpw := h.lt
  have hct := Lib.hid (count_any M p l b 128 (by omega) w h)
  have HS : Hid (mgetS l b = getEs (countS l b 128).1 (countS l b 128).2.1 (countS l b 128).2.2) := rfl
  have hcl := countS_len l b 128
  have hcm := countS_most l b 128
  obtain ⟨i0, hi0, hz0, hz1, hz2⟩ := info_parts infoEntry2
  have Hi0 := Lib.hid hi0; have Hz0 := Lib.hid hz0; have Hz1 := Lib.hid hz1; have Hz2 := Lib.hid hz2
  clear h hm hi0 hz0 hz1 hz2
  generalize mgetS l b = R at *
  generalize countS l b 128 = c at *
  obtain ⟨n, c2, c3⟩ := c
  simp only [] at hct HS hcl hcm
  go_enter Tryz.func137, Tryz.ntmps137
  go_wp2_with fail
  refine hct.out.mono ?_
  rintro e w1 ⟨rfl, hA1, hk1⟩
  have HA1 := Lib.hid hA1; have Hk1 := Lib.hid hk1
  clear hA1 hk1 hct
  go_wp2_with fail
  go_loopw [4, 9] (fun out i wr => ∃ (x : Nat) (qs : List (EntryD × Value)) (lx : List UInt8) (bx : Bool), i = .int .i64 x ∧ x ≤ n ∧ qs.length = x ∧ lx.length ≤ l.length ∧ Hid (R = preE (qs.map (·.1)) (getEs (n - x) lx bx)) ∧ Hid (wr.ownsRow w.heap.size 26 9 out qs.length (qs.flatMap eCell)) ∧ Hid (DsOwn w wr out qs) ∧ Hid (RdAt wr (out.ownBlock.toList ++ M) p lx bx) ∧ Hid (Keeps [p] w wr)) (fun _ i _ => n - (intOf i).toNat)
  case atStart => exact ⟨0, [], c2, c3, rfl, by omega, rfl, hcl, (show R = preE [] _ by rw [preE_nil]; exact HS.out), World.ownsRow_nil _ _ _ _, (show DsOwn _ _ _ _ from by intro q hq; cases hq), HA1.out, Hk1.out⟩
  case round =>
    obtain ⟨x, qs, lx, bx, rfl, hx, hql, hlx, HR, Hown, Hds, HA, Hk⟩ := hrel
    by_cases hlt : x < n
    · have hx1 : (x : Int) < (n : Int) := by omega
      have HST : Hid (R = preE (qs.map (·.1)) (if (textS lx bx).2.2 = true ∨ (readE (textS lx bx).1).2 ≠ 0 then (none, (textS lx bx).2) else preE [(readE (textS lx bx).1).1] (getEs (n - (x + 1)) (textS lx bx).2.1 (textS lx bx).2.2))) := by
        show _ = _
        rw [HR.out, show n - x = (n - (x + 1)) + 1 by omega]; rfl
      have htl := textS_len lx bx
      have htx := Lib.hid (rtext_any (u4.ownBlock.toList ++ M) p lx bx wr HA.out)
      generalize textS lx bx = t at *
      obtain ⟨t1, t2, t3⟩ := t
      simp only [] at HST htl htx
      go_wp2_with fail
      refine htx.out.mono ?_
      rintro e w3 ⟨rfl, hA3, hk3⟩
      obtain ⟨cc, w4, cv, hk4, hsz4, hB4⟩ := bytes_of w3 t1
      have hK4 : Keeps [p] w w4 := (Hk.out.trans hk3 (by simp)).trans hk4 (by simp)
      have HA4 := Lib.hid (hA3.keep hk4 (by simp) (by simp))
      have Hk34 := Lib.hid (hk3.trans hk4 (by simp))
      have hrd := Lib.hid (eread_any _ t1 m w4 (hB4 [] (by simp)) (by omega) (hkeepm.out _ hK4))
      have HK4 := Lib.hid hK4
      have hsh := readH_short t1 (by omega)
      clear hA3 hk3 hk4 hB4 htx hK4 hsz4
      generalize readE t1 = r at *
      obtain ⟨re, rn⟩ := r
      simp only [] at HST hrd
      go_wp2_with fail
      refine hrd.out.mono ?_
      rintro e w5 ⟨dv, rfl, hD5, hb5⟩
      obtain ⟨Ad, cd, rfl, _⟩ := (hD5 [] (by simp)).len
      have HA5 := Lib.hid (HA4.out.keep (Keeps.of_below (M := []) hb5) (by simp) (by simp))
      have HK5 := Lib.hid (HK4.out.trans (Keeps.of_below (M := []) hb5) (by simp))
      have Hk35 := Lib.hid (Hk34.out.trans (Keeps.of_below (M := []) hb5) (by simp))
      have HD5 := Lib.hid (fun M hM => hD5 M (fun g hg => Nat.lt_of_lt_of_le (hM g hg) Hk34.out.size) : ∀ M, (∀ g ∈ M, g < wr.heap.size) → Ds w5 M (.slice Ad re.ds.length cd) re.ds)
      clear hD5 hb5 hrd cv hsh
      have Hsh := Lib.hid (⟨hql, hlx⟩ : _ ∧ _)
      obtain ⟨w6, hw6⟩ : ∃ w6, w6 = w5.alloc (.cells (eCell (re, .slice Ad re.ds.length cd)).toArray 26) := ⟨_, rfl⟩
      have hk6 : Keeps [] w5 w6 := by rw [hw6]; exact (Keeps.refl _ _).alloc _
      have hB6 : Blk w6 w5.heap.size 26 (eCell (re, .slice Ad re.ds.length cd)).toArray := by rw [hw6]; exact Blk.new w5 _ _
      have HA6 := Lib.hid (HA5.out.keep hk6 (by simp) (by simp)); have HK6 := Lib.hid (HK5.out.trans hk6 (by simp)); have Hk36 := Lib.hid (Hk35.out.trans hk6 (by simp))
      have HD6 : Hid (∀ M, (∀ g ∈ M, g < wr.heap.size) → Ds w6 M (.slice Ad re.ds.length cd) re.ds) := fun M hM => (HD5.out M hM).keep hk6 (by simp)
      have hbad := Lib.hid (bad_any (u4.ownBlock.toList ++ M) p t2 t3 w6 HA6.out)
      have Hw6 := Lib.hid hw6; have HB6 := Lib.hid hB6
      clear hk6 hw6 hB6 HA5 HK5 Hk35 HD5 HA4 HK4 Hk34
      obtain ⟨kind, ag, sh, seq, ep, ds, ser, fr, tag⟩ := re
      simp only [eCell] at Hw6 HB6 HD6 ⊢
      go_wp2_with fail
      rw [← Hw6.out]
      obtain ⟨q0, q1, q2, q3, q4, q5, q6, q7, q8, qf⟩ := blk9 HB6.out
      refine hbad.out.mono ?_
      rintro e w' ⟨rfl, rfl⟩
      clear hbad Hw6
      cases t3 with
      | true =>
        have hp : Hid (MGetPost M p R w (.returned (.tuple #[.slice none 0 0, .bool false])) w6) := by
          show MGetPost _ _ _ _ _ _
          rw [HST.out, if_pos (.inl rfl)]
          exact ⟨rfl, HK6.out⟩
        go_wp2
        go_ret2
        exact hp.out
      | false =>
        by_cases hrn : rn = 0
        · have HST2 : Hid (R = preE (qs.map (·.1) ++ [⟨kind, ag, sh, seq, ep, ds, ser, fr, tag⟩]) (getEs (n - (x + 1)) t2 false)) := by
            show _ = _
            rw [HST.out, if_neg (by simp [hrn]), preE_pre]
          have hnn : ((rn : Int) != 0) = false := by simp [hrn]
          have hlt0 := Lib.hid Hown.out.lt
          have Hown6 := Lib.hid ((own_keep (Hown.out) Hk36.out (by simp; exact hpw)).alloc (.cells #[.int .i64 kind, .int .i64 ag, .int .i64 sh, .int .i64 seq, .int .i64 ep, .slice Ad ds.length cd, .string ser, .int .i64 fr, .int .i64 tag] 26))
          have hz6 : w.heap.size ≤ w6.heap.size := HK6.out.size
          have hm1 : qs.length + 1 ≤ maxLen := by unfold maxLen; omega
          have hm2 : (qs.length + 1) * 96 ≤ 140737488355328 := by omega
          have hb0 : w.heap.size ≤ (w6.alloc (.cells #[.int .i64 kind, .int .i64 ag, .int .i64 sh, .int .i64 seq, .int .i64 ep, .slice Ad ds.length cd, .string ser, .int .i64 fr, .int .i64 tag] 26)).heap.size := by simp; omega
          have Hm1 := Lib.hid hm1; have Hm2 := Lib.hid hm2; have Hb0 := Lib.hid hb0
          clear hm1 hm2 hb0 HST hrn
          go_wp2_with (at_builtin; go_must (refine wpList_append_any _ rfl (.tmp 24) (.tmp 26) _ rfl w.heap.size 26 i0 _ 9 96 Tryz.underlying52 Hi0.out Hz0.out Hz1.out Hz2.out rfl (by omega) u4 qs.length (qs.flatMap eCell) rfl Hown6.out (w6.heap.size + 1) (some ⟨w6.heap.size, 0, none⟩) 1 1 [.int .i64 kind, .int .i64 ag, .int .i64 sh, .int .i64 seq, .int .i64 ep, .slice Ad ds.length cd, .string ser, .int .i64 fr, .int .i64 tag] rfl (reads_new _ _ _ _ _ rfl) (by intro u hu; simp at hu; rcases hu with rfl | rfl | rfl | rfl | rfl | rfl | rfl | rfl | rfl <;> rfl) Hm1.out Hm2.out Hb0.out ?_))
          intro v8 w8 hown8 hg8 hat8
          have hpo : p ∉ u4.ownBlock.toList := fun hm => by have := (hlt0.out p (by simpa using hm)).1; omega
          have kg : Keeps u4.ownBlock.toList (w6.alloc (.cells #[.int .i64 kind, .int .i64 ag, .int .i64 sh, .int .i64 seq, .int .i64 ep, .slice Ad ds.length cd, .string ser, .int .i64 fr, .int .i64 tag] 26)) w8 := (Keeps.refl _ _).grown hg8 (fun g hg => .inl (by simpa using hg))
          have h1 := HA6.out.keep (M' := []) ((Keeps.refl _ _).alloc (.cells #[.int .i64 kind, .int .i64 ag, .int .i64 sh, .int .i64 seq, .int .i64 ep, .slice Ad ds.length cd, .string ser, .int .i64 fr, .int .i64 tag] 26)) (by simp) (by simp)
          have h2 := h1.avoid (M' := v8.ownBlock.toList ++ (u4.ownBlock.toList ++ M)) (fun g hg => by
            rcases List.mem_append.1 hg with h | h
            · rcases hat8 with h5 | h5
              · exact .inl (List.mem_append_left _ (by rw [h5] at h; exact h))
              · rw [h5] at h; simp at h; exact .inr (by simp; omega)
            · exact .inl h)
          have H8 := Lib.hid ((h2.keep kg (fun g hg => .inl (List.mem_append_right _ (List.mem_append_left _ hg))) hpo).avoid (M' := v8.ownBlock.toList ++ M) (fun g hg => by
            rcases List.mem_append.1 hg with h | h
            · exact .inl (List.mem_append_left _ h)
            · exact .inl (List.mem_append_right _ (List.mem_append_right _ h))))
          have Hk8 : Hid (Keeps [p] w w8) := (HK6.out.alloc _).grown hg8 (fun g hg => .inr (hlt0.out g hg).1)
          have Hds8 : Hid (DsOwn w w8 v8 (qs ++ [(⟨kind, ag, sh, seq, ep, ds, ser, fr, tag⟩, .slice Ad ds.length cd)])) :=
            dsOwn_stepK Hds.out Hk36.out (by simp; exact hpw) (fun g hg => (hlt0.out g hg).2) Hk.out.size HD6.out hg8 (by simpa using hat8)
          have Hown8 : Hid (w8.ownsRow w.heap.size 26 9 v8 (qs ++ [((⟨kind, ag, sh, seq, ep, ds, ser, fr, tag⟩ : EntryD), Value.slice Ad ds.length cd)]).length ((qs ++ [((⟨kind, ag, sh, seq, ep, ds, ser, fr, tag⟩ : EntryD), Value.slice Ad ds.length cd)]).flatMap eCell)) := by
            show World.ownsRow _ _ _ _ _ _ _
            rw [List.length_append, List.flatMap_append]
            simpa [eCell, hql] using hown8
          have HR8 : Hid (R = preE ((qs ++ [((⟨kind, ag, sh, seq, ep, ds, ser, fr, tag⟩ : EntryD), Value.slice Ad ds.length cd)]).map (·.1)) (getEs (n - (x + 1)) t2 false)) := by
            show _ = _
            rw [List.map_append]
            exact HST2.out
          clear hown8 hg8 hat8 kg h1 h2 hpo
          go_wp2
          go_roundw
          case rel => exact ⟨x + 1, _, t2, false, by go_num, by omega, by simp; omega, by omega, HR8, Hown8, Hds8, H8, Hk8⟩
          case measure => simp [intOf] <;> omega
        · have hp : Hid (MGetPost M p R w (.returned (.tuple #[.slice none 0 0, .bool false])) w6) := by
            show MGetPost _ _ _ _ _ _
            rw [HST.out, if_pos (.inr hrn)]
            exact ⟨rfl, HK6.out⟩
          have hnn : ((rn : Int) != 0) = true := by simpa using hrn
          clear HST hrn
          go_wp2
          go_ret2
          exact hp.out
    · obtain rfl : x = n := by omega
      have HRx : Hid (R = (some (qs.map (·.1)), lx, bx)) := by
        show _ = _
        rw [HR.out, Nat.sub_self]
        simp [getEs, preE]
      have hbad := Lib.hid (bad_any (u4.ownBlock.toList ++ M) p lx bx wr HA.out)
      have hp : Hid (MGetPost M p R w (.returned (.tuple #[u4, .bool (!bx)])) wr) := by
        show MGetPost _ _ _ _ _ _
        rw [HRx.out]
        exact ⟨u4, rfl, fun M' hM => ⟨qs, rfl, Rd.of_own Hown.out hM, fun q hq => Hds.out q hq M' (fun g hg => .inl (hM g hg))⟩, HA.out.avoid (fun g hg => .inl (List.mem_append_right _ hg)), Hk.out⟩
      go_wp2_with fail
      refine hbad.out.mono ?_
      rintro e w' ⟨rfl, rfl⟩
      go_wp2
      go_ret2
      exact hp.out
end Go.Proofs.YtinnifhnabncfaaGreatDoor.Vi
end
/- Contract of mail.read. -/
section
namespace Go.Proofs.YtinnifhnabncfaaGreatDoor.Vi
open Go.RowKit Base Mem Go.Shelf
def zeroR : Array Value := #[.int .i64 0, .int .i64 0, .int .i64 0, .int .i64 0, .int .i64 0, .int .i64 0, .slice none 0 0, .string ⟨#[]⟩, .int .i64 0, .int .i64 0, .int .i64 0, .int .i64 0, .int .u64 0, .int .i64 0, .int .i64 0, .slice none 0 0, .int .i64 0, .int .i64 0]
/-- A message and whether it is one, from a reader. -/
def mreadS (k : Nat) (l : List UInt8) (b : Bool) : MsgD × Bool × List UInt8 × Bool :=
  if k = 1 then (⟨1, (readE (textS l b).1).1, 0, 0, 0, 0, 0, [], 0, 0⟩, decide ((readE (textS l b).1).2 = 0), (textS l b).2)
  else if k = 2 then
    let a := intS l b
    let c := countS a.2.1 a.2.2 255
    let n := numS c.2.1 c.2.2
    (⟨2, ⟨0, 0, 0, 0, 0, [], ⟨#[]⟩, 0, 0⟩, a.1, c.1, n.1, 0, 0, [], 0, 0⟩, true, n.2)
  else if k = 4 then
    let t := intS l b
    let h := intS t.2.1 t.2.2
    let g := mgetS h.2.1 h.2.2
    (⟨4, ⟨0, 0, 0, 0, 0, [], ⟨#[]⟩, 0, 0⟩, 0, 0, 0, t.1, h.1, g.1.getD [], 0, 0⟩, g.1.isSome && !g.2.2, g.2)
  else if k = 5 then
    let t := intS l b
    let c := countS t.2.1 t.2.2 128
    let g := mgetS c.2.1 c.2.2
    (⟨5, ⟨0, 0, 0, 0, 0, [], ⟨#[]⟩, 0, 0⟩, 0, 0, 0, t.1, 0, g.1.getD [], c.1, 0⟩, g.1.isSome && !g.2.2, g.2)
  else if k = 6 then
    let t := intS l b
    let c := countS t.2.1 t.2.2 128
    (⟨6, ⟨0, 0, 0, 0, 0, [], ⟨#[]⟩, 0, 0⟩, 0, 0, 0, t.1, 0, [], 0, c.1⟩, true, c.2)
  else (⟨k, ⟨0, 0, 0, 0, 0, [], ⟨#[]⟩, 0, 0⟩, 0, 0, 0, (intS l b).1, 0, [], 0, 0⟩, true, (intS l b).2)
def MRd (p : Nat) (R : MsgD × Bool × List UInt8 × Bool) (w : World) (e : Ending) (w' : World) : Prop := ∃ dv lv, e = .returned (.tuple #[.agg (mCell R.1 dv lv).toArray, .bool R.2.1]) ∧ (∀ M, (∀ g ∈ M, g < w.heap.size) → MsgAt w' M R.1 dv lv) ∧ (R.2.1 = true → RdAt w' [] p R.2.2.1 R.2.2.2) ∧ Keeps [p] w w'
structure RmAt (w0 w : World) (p g0 g6 : Nat) (c : Array Value) : Prop where
  keeps : Keeps [p] w0 w
  b0 : Blk w g0 68 zeroR
  b6 : Blk w g6 68 c
  o0 : w0.heap.size ≤ g0
  o1 : g0 < g6
  op : p < g0
theorem RmAt.step {w0 w w' : World} {p g0 g6 : Nat} {c : Array Value} (h : RmAt w0 w p g0 g6 c) (hk : Keeps [p] w w') : RmAt w0 w' p g0 g6 c := by
  have := h.o0; have := h.o1; have := h.op
  exact ⟨h.keeps.trans hk (by simp), hk.blk h.b0 (by simp; omega), hk.blk h.b6 (by simp; omega), h.o0, h.o1, h.op⟩
theorem RmAt.in6 {w0 w w' : World} {p g0 g6 : Nat} {c c' : Array Value} (h : RmAt w0 w p g0 g6 c) (hk : Keeps [g6] w w') (hB : Blk w' g6 68 c') : RmAt w0 w' p g0 g6 c' := by
  have := h.o0; have := h.o1; have := h.op
  exact ⟨h.keeps.trans hk (by intro g hg; simp at hg; right; omega), hk.blk h.b0 (by simp; omega), hB, h.o0, h.o1, h.op⟩
theorem RmAt.set {w0 w : World} {p g0 g6 : Nat} {c : Array Value} (h : RmAt w0 w p g0 g6 c) (i : Nat) (v : Value) : RmAt w0 (w.setCell ⟨g6, i, none⟩ v) p g0 g6 (c.setIfInBounds i v) :=
  h.in6 ((Keeps.refl _ _).setCell (by simp) v) (h.b6.set_ i v)
theorem RmAt.pin {w0 w : World} {p g0 g6 : Nat} {c : Array Value} (h : RmAt w0 w p g0 g6 c) : p ∉ [g6] := by
  have := h.o1; have := h.op; simp; omega
theorem mrd_fin {w w9 wz : World} {p g0 g6 : Nat} {c : Array Value} {bv : Value} (h : RmAt w w9 p g0 g6 c) (hk : Keeps [g0] w9 wz) (R : MsgD × Bool × List UInt8 × Bool) (dv lv : Value) (hc : c = (mCell R.1 dv lv).toArray) (hb : bv = .bool R.2.1)
    (hD : ∀ M, (∀ g ∈ M, g ≤ g6) → MsgAt w9 M R.1 dv lv) (hrd : R.2.1 = true → RdAt w9 [g6, g0] p R.2.2.1 R.2.2.2) : MRd p R w (.returned (.tuple #[.agg c, bv])) wz := by
  have := h.o0; have := h.o1; have := h.op
  refine ⟨dv, lv, by rw [hc, hb], fun M hM => ?_, fun ht => ((hrd ht).keep hk (by simp) (by simp; omega)).avoid (by simp), h.keeps.trans hk (by intro g hg; simp at hg; right; omega)⟩
  exact ((hD (g0 :: M) (by intro g hg; rcases List.mem_cons.1 hg with rfl | hg; omega; have := hM g hg; omega)).keep hk (by simp)).avoid (fun g hg => .inl (List.mem_cons_of_mem _ hg))
theorem msg_in6 {w w' : World} {g1 : Nat} {m : MsgD} {dv lv : Value} (h : ∀ M, (∀ g ∈ M, g ≤ g1) → MsgAt w M m dv lv) (hk : Keeps [g1] w w') : ∀ M, (∀ g ∈ M, g ≤ g1) → MsgAt w' M m dv lv := fun M hM =>
  ((h (g1 :: M) (by intro g hg; rcases List.mem_cons.1 hg with rfl | hg; omega; exact hM g hg)).keep hk (by simp)).avoid (fun g hg => .inl (List.mem_cons_of_mem _ hg))
set_option maxRecDepth 100000 in
set_option maxHeartbeats 600000 in
theorem mread_1 (p : Nat) (l : List UInt8) (b : Bool) (mx : Int) (w : World) (h : RdAt w [] p l b) (hl : l.length < 4294967281) (hm : w.cell? ⟨0, 0, none⟩ = some (.int .i64 mx)) (hp0 : p ≠ 0) :
    Calls Tryz.prog 103 #[.pointer (some ⟨p, 0, none⟩), .int .i64 1] w fun e w' => MRd p (mreadS 1 l b) w e w' := by
  have hw0 : 0 < w.heap.size := by
    have := World.block_lt_of_cell? w _ hm
    simpa using this
  have hkeepm : Hid (∀ W, Keeps [p] w W → W.cell? ⟨0, 0, none⟩ = some (.int .i64 mx)) := fun W hb => (hb.cell (p := ⟨0, 0, none⟩) hw0 (by simp; omega)).trans hm
  have H := Lib.hid h
  have hpw := h.lt
  have _ := hl
  clear h hm
  have HR : Hid (mreadS 1 l b = (⟨1, (readE (textS l b).1).1, 0, 0, 0, 0, 0, [], 0, 0⟩, decide ((readE (textS l b).1).2 = 0), (textS l b).2)) := rfl
  generalize mreadS 1 l b = R at *
  go_enter Tryz.func103, Tryz.ntmps103
  go_upto_region 1 with (fail)
  obtain ⟨w1, hw1⟩ : ∃ w1, w1 = w.alloc (.cells #[.int .i64 0, .int .i64 0, .int .i64 0, .int .i64 0, .int .i64 0, .int .i64 0, .slice none 0 0, .string ⟨#[]⟩, .int .i64 0, .int .i64 0, .int .i64 0, .int .i64 0, .int .u64 0, .int .i64 0, .int .i64 0, .slice none 0 0, .int .i64 0, .int .i64 0] 68) := ⟨_, rfl⟩
  rw [← hw1]
  have hK1 : Keeps [] w w1 := by rw [hw1]; exact (Keeps.refl _ _).alloc _
  have hB1 : Blk w1 w.heap.size 68 zeroR := by rw [hw1]; exact Blk.new w _ _
  obtain ⟨g0, hg0⟩ : ∃ g0, g0 = w.heap.size := ⟨_, rfl⟩
  rw [← hg0] at hB1 ⊢
  have hg1 : g0 < w1.heap.size := hB1.lt
  have hpg : p < g0 := by omega
  have HK1 := Lib.hid hK1; have HB1 := Lib.hid hB1; have Hg0 := Lib.hid hg0
  clear hw1 hK1 hB1 hg0
  go_wp2_with (refine wpList_store_blk rfl 68 (.tmp 6) (.tmp 11) rfl w1.heap.size 0 68 _ #[.int .i64 1, .int .i64 0, .int .i64 0, .int .i64 0, .int .i64 0, .int .i64 0, .slice none 0 0, .string ⟨#[]⟩, .int .i64 0, .int .i64 0, .int .i64 0, .int .i64 0, .int .u64 0, .int .i64 0, .int .i64 0, .slice none 0 0, .int .i64 0, .int .i64 0] #[.int .i64 1, .int .i64 0, .int .i64 0, .int .i64 0, .int .i64 0, .int .i64 0, .slice none 0 0, .string ⟨#[]⟩, .int .i64 0, .int .i64 0, .int .i64 0, .int .i64 0, .int .u64 0, .int .i64 0, .int .i64 0, .slice none 0 0, .int .i64 0, .int .i64 0] rfl rfl (Blk.new _ _ _) (by show 0 + 18 ≤ 18; omega) rfl (by kernel_rfl) rfl ?_; intro w2 hk2 hB2; have Hk2 := Lib.hid hk2; have HB2 := Lib.hid hB2; clear hk2 hB2)
  have hA2 : Keeps [w1.heap.size] w1 w2 := ((Keeps.refl _ _).alloc _).trans Hk2.out (by simp)
  have H2 : Hid (RmAt w w2 p g0 w1.heap.size #[.int .i64 1, .int .i64 0, .int .i64 0, .int .i64 0, .int .i64 0, .int .i64 0, .slice none 0 0, .string ⟨#[]⟩, .int .i64 0, .int .i64 0, .int .i64 0, .int .i64 0, .int .u64 0, .int .i64 0, .int .i64 0, .slice none 0 0, .int .i64 0, .int .i64 0]) :=
    ⟨(HK1.out.trans hA2 (by intro x hx; simp at hx; right; have := HK1.out.size; omega) : Keeps [] w w2).mono (by simp), hA2.blk HB1.out (by simp; omega), HB2.out, by have := Hg0.out; omega, hg1, hpg⟩
  have HA2 : Hid (RdAt w2 [w1.heap.size, g0] p l b) :=
    (((H.out.avoid (M' := [w1.heap.size, g0]) (by intro x hx; right; have := HK1.out.size; have := Hg0.out; simp at hx; omega)).keep HK1.out (by simp) (by simp)).keep hA2 (by simp) (by simp; omega))
  generalize w1.heap.size = g6 at *
  clear hA2 Hk2 HB2 HB1 HK1 H hg1
  have hc := Lib.hid (rtext_any [g6, g0] p l b w2 HA2.out)
  have hn2 := textS_len l b
  generalize textS l b = t at *
  obtain ⟨t1, t2, t3⟩ := t
  simp only [] at HR hc hn2
  refine hc.out.mono ?_
  rintro e w3 ⟨rfl, hA3, hk3⟩
  obtain ⟨cc, w4, cv, hk4, hsz4, hB4⟩ := bytes_of w3 t1
  have H4 := Lib.hid (H2.out.step (hk3.trans hk4 (by simp)))
  have HA4 := Lib.hid (hA3.keep hk4 (by simp) (by simp))
  have hrd := Lib.hid (eread_any _ t1 mx w4 (hB4 [] (by simp)) (by omega) (hkeepm.out _ H4.out.keeps))
  have h64 := H4.out.b6.lt
  clear hA3 hk3 hk4 hB4 hc H2 HA2
  generalize readE t1 = r at *
  obtain ⟨re, rn⟩ := r
  simp only [] at HR hrd
  go_wp2_with fail
  refine hrd.out.mono ?_
  rintro e w5 ⟨dv, rfl, hD5, hb5⟩
  obtain ⟨Ad, cd, rfl, _⟩ := (hD5 [] (by simp)).len
  have H5 := Lib.hid (H4.out.step (Keeps.of_below (M := [p]) hb5))
  have HA5 := Lib.hid (HA4.out.keep (Keeps.of_below (M := []) hb5) (by simp) (by simp))
  have HD5 := Lib.hid (fun M (hM : ∀ g ∈ M, g ≤ g6) => hD5 M (fun x hx => Nat.lt_of_le_of_lt (hM x hx) h64))
  clear hD5 hb5 hrd cv H4 HA4 hsz4 h64
  go_wp2_with (first | (refine wpList_store_blk rfl 26 (.tmp 8) (.tmp 20) rfl w5.heap.size 0 26 _ (eCell (re, .slice Ad re.ds.length cd)).toArray (eCell (re, .slice Ad re.ds.length cd)).toArray rfl rfl (Blk.new _ _ _) (by show 0 + 9 ≤ 9; omega) rfl (by kernel_rfl) rfl ?_; intro w6 hk6 hB6; have hkk : Keeps [] w5 w6 := ((Keeps.refl _ _).alloc _).trans hk6 (by intro x hx; simp at hx; right; omega); have H6 := Lib.hid (H5.out.step (hkk.mono (by simp))); have HA6 := Lib.hid (HA5.out.keep hkk (by simp) (by simp)); have HD6 := Lib.hid (fun M (hM : ∀ g ∈ M, g ≤ g6) => (HD5.out M hM).keep hkk (by simp)); have HB6 := Lib.hid hB6; clear hk6 hB6 hkk) | (refine wpList_load_mid rfl 26 (.tmp 8) rfl w5.heap.size 0 rfl _ _ (blk_range HB6.out) Tryz.underlying26 rfl (by kernel_rfl) ?_) | (refine wpList_store_blk rfl 26 (.tmp 23) (.tmp 22) rfl g6 1 68 #[.int .i64 1, .int .i64 0, .int .i64 0, .int .i64 0, .int .i64 0, .int .i64 0, .slice none 0 0, .string ⟨#[]⟩, .int .i64 0, .int .i64 0, .int .i64 0, .int .i64 0, .int .u64 0, .int .i64 0, .int .i64 0, .slice none 0 0, .int .i64 0, .int .i64 0] #[.int .i64 1, .int .i64 re.kind, .int .i64 re.ag, .int .i64 re.sh, .int .i64 re.seq, .int .i64 re.ep, .slice Ad re.ds.length cd, .string re.ser, .int .i64 re.fr, .int .i64 re.tag, .int .i64 0, .int .i64 0, .int .u64 0, .int .i64 0, .int .i64 0, .slice none 0 0, .int .i64 0, .int .i64 0] (eCell (re, .slice Ad re.ds.length cd)).toArray rfl rfl H6.out.b6 (by show 1 + 9 ≤ 18; omega) rfl (by kernel_rfl) rfl ?_; intro w7 hk7 hB7; have H7 := Lib.hid (H6.out.in6 hk7 hB7); have HA7 := Lib.hid (HA6.out.keep hk7 (by simp) H6.out.pin); have Hk7 := Lib.hid hk7; clear hk7 hB7) | (refine wpList_load_mid rfl 68 (.tmp 6) rfl g6 0 rfl _ _ (blk_range H7.out.b6) Tryz.underlying68 rfl (by kernel_rfl) ?_) | (refine wpList_store_blk rfl 68 (.tmp 4) (.tmp 24) rfl g0 0 68 zeroR #[.int .i64 1, .int .i64 re.kind, .int .i64 re.ag, .int .i64 re.sh, .int .i64 re.seq, .int .i64 re.ep, .slice Ad re.ds.length cd, .string re.ser, .int .i64 re.fr, .int .i64 re.tag, .int .i64 0, .int .i64 0, .int .u64 0, .int .i64 0, .int .i64 0, .slice none 0 0, .int .i64 0, .int .i64 0] #[.int .i64 1, .int .i64 re.kind, .int .i64 re.ag, .int .i64 re.sh, .int .i64 re.seq, .int .i64 re.ep, .slice Ad re.ds.length cd, .string re.ser, .int .i64 re.fr, .int .i64 re.tag, .int .i64 0, .int .i64 0, .int .u64 0, .int .i64 0, .int .i64 0, .slice none 0 0, .int .i64 0, .int .i64 0] rfl rfl H7.out.b0 (by show 0 + 18 ≤ 18; omega) rfl (by kernel_rfl) rfl ?_; intro wz hkz hBz; have Hkz := Lib.hid hkz; have HBz := Lib.hid hBz; clear hkz hBz))
  refine bodyPost_ret (results_cell2 rfl _ _ g0 68 #[.int .i64 1, .int .i64 re.kind, .int .i64 re.ag, .int .i64 re.sh, .int .i64 re.seq, .int .i64 re.ep, .slice Ad re.ds.length cd, .string re.ser, .int .i64 re.fr, .int .i64 re.tag, .int .i64 0, .int .i64 0, .int .u64 0, .int .i64 0, .int .i64 0, .slice none 0 0, .int .i64 0, .int .i64 0] _ rfl HBz.out Tryz.underlying68 rfl (by kernel_rfl)) rfl ?_
  exact mrd_fin H7.out Hkz.out R (.slice Ad re.ds.length cd) (.slice none 0 0) (by rw [HR.out]; rfl) (by rw [HR.out]; show Value.bool _ = Value.bool _; congr 1; rw [Bool.eq_iff_iff]; simp) (fun M hM => by rw [HR.out]; exact (msg_in6 (m := _) (dv := .slice Ad re.ds.length cd) (lv := .slice none 0 0) (fun M hM => ⟨HD6.out M hM, Ens.nil _ _⟩) Hk7.out M hM)) (fun ht => by rw [HR.out] at ht ⊢; exact HA7.out)
set_option maxRecDepth 100000 in
set_option maxHeartbeats 600000 in
theorem mread_2 (p : Nat) (l : List UInt8) (b : Bool) (mx : Int) (w : World) (h : RdAt w [] p l b) (hl : l.length < 4294967281) (hm : w.cell? ⟨0, 0, none⟩ = some (.int .i64 mx)) (hp0 : p ≠ 0) :
    Calls Tryz.prog 103 #[.pointer (some ⟨p, 0, none⟩), .int .i64 2] w fun e w' => MRd p (mreadS 2 l b) w e w' := by
  have hw0 : 0 < w.heap.size := by
    have := World.block_lt_of_cell? w _ hm
    simpa using this
  have hkeepm : Hid (∀ W, Keeps [p] w W → W.cell? ⟨0, 0, none⟩ = some (.int .i64 mx)) := fun W hb => (hb.cell (p := ⟨0, 0, none⟩) hw0 (by simp; omega)).trans hm
  have H := Lib.hid h
  have hpw := h.lt
  have _ := hl
  clear h hm
  have HR : Hid (mreadS 2 l b = (⟨2, ⟨0, 0, 0, 0, 0, [], ⟨#[]⟩, 0, 0⟩, (intS l b).1, (countS (intS l b).2.1 (intS l b).2.2 255).1, (numS (countS (intS l b).2.1 (intS l b).2.2 255).2.1 (countS (intS l b).2.1 (intS l b).2.2 255).2.2).1, 0, 0, [], 0, 0⟩, true, (numS (countS (intS l b).2.1 (intS l b).2.2 255).2.1 (countS (intS l b).2.1 (intS l b).2.2 255).2.2).2)) := rfl
  generalize mreadS 2 l b = R at *
  go_enter Tryz.func103, Tryz.ntmps103
  go_upto_region 1 with (fail)
  obtain ⟨w1, hw1⟩ : ∃ w1, w1 = w.alloc (.cells #[.int .i64 0, .int .i64 0, .int .i64 0, .int .i64 0, .int .i64 0, .int .i64 0, .slice none 0 0, .string ⟨#[]⟩, .int .i64 0, .int .i64 0, .int .i64 0, .int .i64 0, .int .u64 0, .int .i64 0, .int .i64 0, .slice none 0 0, .int .i64 0, .int .i64 0] 68) := ⟨_, rfl⟩
  rw [← hw1]
  have hK1 : Keeps [] w w1 := by rw [hw1]; exact (Keeps.refl _ _).alloc _
  have hB1 : Blk w1 w.heap.size 68 zeroR := by rw [hw1]; exact Blk.new w _ _
  obtain ⟨g0, hg0⟩ : ∃ g0, g0 = w.heap.size := ⟨_, rfl⟩
  rw [← hg0] at hB1 ⊢
  have hg1 : g0 < w1.heap.size := hB1.lt
  have hpg : p < g0 := by omega
  have HK1 := Lib.hid hK1; have HB1 := Lib.hid hB1; have Hg0 := Lib.hid hg0
  clear hw1 hK1 hB1 hg0
  go_wp2_with (refine wpList_store_blk rfl 68 (.tmp 6) (.tmp 11) rfl w1.heap.size 0 68 _ #[.int .i64 2, .int .i64 0, .int .i64 0, .int .i64 0, .int .i64 0, .int .i64 0, .slice none 0 0, .string ⟨#[]⟩, .int .i64 0, .int .i64 0, .int .i64 0, .int .i64 0, .int .u64 0, .int .i64 0, .int .i64 0, .slice none 0 0, .int .i64 0, .int .i64 0] #[.int .i64 2, .int .i64 0, .int .i64 0, .int .i64 0, .int .i64 0, .int .i64 0, .slice none 0 0, .string ⟨#[]⟩, .int .i64 0, .int .i64 0, .int .i64 0, .int .i64 0, .int .u64 0, .int .i64 0, .int .i64 0, .slice none 0 0, .int .i64 0, .int .i64 0] rfl rfl (Blk.new _ _ _) (by show 0 + 18 ≤ 18; omega) rfl (by kernel_rfl) rfl ?_; intro w2 hk2 hB2; have Hk2 := Lib.hid hk2; have HB2 := Lib.hid hB2; clear hk2 hB2)
  have hA2 : Keeps [w1.heap.size] w1 w2 := ((Keeps.refl _ _).alloc _).trans Hk2.out (by simp)
  have H2 : Hid (RmAt w w2 p g0 w1.heap.size #[.int .i64 2, .int .i64 0, .int .i64 0, .int .i64 0, .int .i64 0, .int .i64 0, .slice none 0 0, .string ⟨#[]⟩, .int .i64 0, .int .i64 0, .int .i64 0, .int .i64 0, .int .u64 0, .int .i64 0, .int .i64 0, .slice none 0 0, .int .i64 0, .int .i64 0]) :=
    ⟨(HK1.out.trans hA2 (by intro x hx; simp at hx; right; have := HK1.out.size; omega) : Keeps [] w w2).mono (by simp), hA2.blk HB1.out (by simp; omega), HB2.out, by have := Hg0.out; omega, hg1, hpg⟩
  have HA2 : Hid (RdAt w2 [w1.heap.size, g0] p l b) :=
    (((H.out.avoid (M' := [w1.heap.size, g0]) (by intro x hx; right; have := HK1.out.size; have := Hg0.out; simp at hx; omega)).keep HK1.out (by simp) (by simp)).keep hA2 (by simp) (by simp; omega))
  generalize w1.heap.size = g6 at *
  clear hA2 Hk2 HB2 HB1 HK1 H hg1
  have hc := Lib.hid (rint_any [g6, g0] p l b w2 HA2.out)
  have hn2 := intS_len l b
  generalize intS l b = t at *
  obtain ⟨a1, a2, a3⟩ := t
  simp only [] at HR hc hn2
  refine hc.out.mono ?_
  rintro e w3 ⟨rfl, hA, hk⟩
  have H3 := Lib.hid (H2.out.step hk); have HA3 := Lib.hid hA
  clear hA hk hc H2 HA2
  go_wp2_with fail
  have hc := Lib.hid (count_any [g6, g0] p a2 a3 255 (by omega) w3 HA3.out)
  have hn3 := countS_len a2 a3 255
  generalize countS a2 a3 255 = t at *
  obtain ⟨c1, c2, c3⟩ := t
  simp only [] at HR hc hn3
  refine hc.out.mono ?_
  rintro e w4 ⟨rfl, hA, hk⟩
  have H4 := Lib.hid (H3.out.step hk); have HA4 := Lib.hid hA
  clear hA hk hc H3 HA3
  go_wp2_with fail
  have hc := Lib.hid (number_any [g6, g0] p c2 c3 w4 HA4.out)
  have hn4 := numS_len c2 c3
  generalize numS c2 c3 = t at *
  obtain ⟨n1, n2, n3⟩ := t
  simp only [] at HR hc hn4
  refine hc.out.mono ?_
  rintro e w5 ⟨rfl, hA, hk⟩
  have H5 := Lib.hid (H4.out.step hk); have HA5 := Lib.hid hA
  clear hA hk hc H4 HA4
  obtain ⟨q0, q1, q2, q3, q4, q5, q6, q7, q8, q9, qa, qb, qc, qd, qe, qf, qg, qh, qz⟩ := blk18 H5.out.b6
  obtain ⟨w6, hw⟩ : ∃ w', w' = (((w5.setCell ⟨g6, 10, none⟩ (.int .i64 a1)).setCell ⟨g6, 11, none⟩ (.int .i64 c1)).setCell ⟨g6, 12, none⟩ (.int .u64 n1)) := ⟨_, rfl⟩
  have hk : Keeps [g6] w5 w6 := by rw [hw]; exact (((Keeps.refl _ _).setCell (by simp) _).setCell (by simp) _).setCell (by simp) _
  have H6 : Hid (RmAt w w6 p g0 g6 #[.int .i64 2, .int .i64 0, .int .i64 0, .int .i64 0, .int .i64 0, .int .i64 0, .slice none 0 0, .string ⟨#[]⟩, .int .i64 0, .int .i64 0, .int .i64 a1, .int .i64 c1, .int .u64 n1, .int .i64 0, .int .i64 0, .slice none 0 0, .int .i64 0, .int .i64 0]) := by show RmAt _ _ _ _ _ _; rw [hw]; exact (by simpa using (((H5.out.set 10 (.int .i64 a1)).set 11 (.int .i64 c1)).set 12 (.int .u64 n1)) : RmAt w _ p g0 g6 _)
  have HA6 := Lib.hid (HA5.out.keep hk (by simp) H5.out.pin)
  have Hk6 := Lib.hid hk
  have Hw := Lib.hid hw
  clear hk hw
  go_upto_region 10 with (fail)
  rw [← Hw.out]
  clear Hw q0 q1 q2 q3 q4 q5 q6 q7 q8 q9 qa qb qc qd qe qf qg qh qz H5
  go_wp2_with (first | (refine wpList_load_mid rfl 68 (.tmp 6) rfl g6 0 rfl _ _ (blk_range H6.out.b6) Tryz.underlying68 rfl (by kernel_rfl) ?_) | (refine wpList_store_blk rfl 68 (.tmp 4) (.tmp 38) rfl g0 0 68 zeroR #[.int .i64 2, .int .i64 0, .int .i64 0, .int .i64 0, .int .i64 0, .int .i64 0, .slice none 0 0, .string ⟨#[]⟩, .int .i64 0, .int .i64 0, .int .i64 a1, .int .i64 c1, .int .u64 n1, .int .i64 0, .int .i64 0, .slice none 0 0, .int .i64 0, .int .i64 0] #[.int .i64 2, .int .i64 0, .int .i64 0, .int .i64 0, .int .i64 0, .int .i64 0, .slice none 0 0, .string ⟨#[]⟩, .int .i64 0, .int .i64 0, .int .i64 a1, .int .i64 c1, .int .u64 n1, .int .i64 0, .int .i64 0, .slice none 0 0, .int .i64 0, .int .i64 0] rfl rfl H6.out.b0 (by show 0 + 18 ≤ 18; omega) rfl (by kernel_rfl) rfl ?_; intro wz hkz hBz; have Hkz := Lib.hid hkz; have HBz := Lib.hid hBz; clear hkz hBz))
  refine bodyPost_ret (results_cell2 rfl _ _ g0 68 #[.int .i64 2, .int .i64 0, .int .i64 0, .int .i64 0, .int .i64 0, .int .i64 0, .slice none 0 0, .string ⟨#[]⟩, .int .i64 0, .int .i64 0, .int .i64 a1, .int .i64 c1, .int .u64 n1, .int .i64 0, .int .i64 0, .slice none 0 0, .int .i64 0, .int .i64 0] _ rfl HBz.out Tryz.underlying68 rfl (by kernel_rfl)) rfl ?_
  exact mrd_fin H6.out Hkz.out R (.slice none 0 0) (.slice none 0 0) (by rw [HR.out]; rfl) (by rw [HR.out]; rfl) (fun M hM => by rw [HR.out]; exact ⟨Ds.nil _ _, Ens.nil _ _⟩) (fun ht => by rw [HR.out] at ht ⊢; exact HA6.out)
set_option maxRecDepth 100000 in
set_option maxHeartbeats 600000 in
theorem mread_4 (p : Nat) (l : List UInt8) (b : Bool) (mx : Int) (w : World) (h : RdAt w [] p l b) (hl : l.length < 4294967281) (hm : w.cell? ⟨0, 0, none⟩ = some (.int .i64 mx)) (hp0 : p ≠ 0) :
    Calls Tryz.prog 103 #[.pointer (some ⟨p, 0, none⟩), .int .i64 4] w fun e w' => MRd p (mreadS 4 l b) w e w' := by
  have hw0 : 0 < w.heap.size := by
    have := World.block_lt_of_cell? w _ hm
    simpa using this
  have hkeepm : Hid (∀ W, Keeps [p] w W → W.cell? ⟨0, 0, none⟩ = some (.int .i64 mx)) := fun W hb => (hb.cell (p := ⟨0, 0, none⟩) hw0 (by simp; omega)).trans hm
  have H := Lib.hid h
  have hpw := h.lt
  have _ := hl
  clear h hm
  have HR : Hid (mreadS 4 l b = (⟨4, ⟨0, 0, 0, 0, 0, [], ⟨#[]⟩, 0, 0⟩, 0, 0, 0, (intS l b).1, (intS (intS l b).2.1 (intS l b).2.2).1, (mgetS (intS (intS l b).2.1 (intS l b).2.2).2.1 (intS (intS l b).2.1 (intS l b).2.2).2.2).1.getD [], 0, 0⟩, (mgetS (intS (intS l b).2.1 (intS l b).2.2).2.1 (intS (intS l b).2.1 (intS l b).2.2).2.2).1.isSome && !(mgetS (intS (intS l b).2.1 (intS l b).2.2).2.1 (intS (intS l b).2.1 (intS l b).2.2).2.2).2.2, (mgetS (intS (intS l b).2.1 (intS l b).2.2).2.1 (intS (intS l b).2.1 (intS l b).2.2).2.2).2)) := rfl
  generalize mreadS 4 l b = R at *
  go_enter Tryz.func103, Tryz.ntmps103
  go_upto_region 1 with (fail)
  obtain ⟨w1, hw1⟩ : ∃ w1, w1 = w.alloc (.cells #[.int .i64 0, .int .i64 0, .int .i64 0, .int .i64 0, .int .i64 0, .int .i64 0, .slice none 0 0, .string ⟨#[]⟩, .int .i64 0, .int .i64 0, .int .i64 0, .int .i64 0, .int .u64 0, .int .i64 0, .int .i64 0, .slice none 0 0, .int .i64 0, .int .i64 0] 68) := ⟨_, rfl⟩
  rw [← hw1]
  have hK1 : Keeps [] w w1 := by rw [hw1]; exact (Keeps.refl _ _).alloc _
  have hB1 : Blk w1 w.heap.size 68 zeroR := by rw [hw1]; exact Blk.new w _ _
  obtain ⟨g0, hg0⟩ : ∃ g0, g0 = w.heap.size := ⟨_, rfl⟩
  rw [← hg0] at hB1 ⊢
  have hg1 : g0 < w1.heap.size := hB1.lt
  have hpg : p < g0 := by omega
  have HK1 := Lib.hid hK1; have HB1 := Lib.hid hB1; have Hg0 := Lib.hid hg0
  clear hw1 hK1 hB1 hg0
  go_wp2_with (refine wpList_store_blk rfl 68 (.tmp 6) (.tmp 11) rfl w1.heap.size 0 68 _ #[.int .i64 4, .int .i64 0, .int .i64 0, .int .i64 0, .int .i64 0, .int .i64 0, .slice none 0 0, .string ⟨#[]⟩, .int .i64 0, .int .i64 0, .int .i64 0, .int .i64 0, .int .u64 0, .int .i64 0, .int .i64 0, .slice none 0 0, .int .i64 0, .int .i64 0] #[.int .i64 4, .int .i64 0, .int .i64 0, .int .i64 0, .int .i64 0, .int .i64 0, .slice none 0 0, .string ⟨#[]⟩, .int .i64 0, .int .i64 0, .int .i64 0, .int .i64 0, .int .u64 0, .int .i64 0, .int .i64 0, .slice none 0 0, .int .i64 0, .int .i64 0] rfl rfl (Blk.new _ _ _) (by show 0 + 18 ≤ 18; omega) rfl (by kernel_rfl) rfl ?_; intro w2 hk2 hB2; have Hk2 := Lib.hid hk2; have HB2 := Lib.hid hB2; clear hk2 hB2)
  have hA2 : Keeps [w1.heap.size] w1 w2 := ((Keeps.refl _ _).alloc _).trans Hk2.out (by simp)
  have H2 : Hid (RmAt w w2 p g0 w1.heap.size #[.int .i64 4, .int .i64 0, .int .i64 0, .int .i64 0, .int .i64 0, .int .i64 0, .slice none 0 0, .string ⟨#[]⟩, .int .i64 0, .int .i64 0, .int .i64 0, .int .i64 0, .int .u64 0, .int .i64 0, .int .i64 0, .slice none 0 0, .int .i64 0, .int .i64 0]) :=
    ⟨(HK1.out.trans hA2 (by intro x hx; simp at hx; right; have := HK1.out.size; omega) : Keeps [] w w2).mono (by simp), hA2.blk HB1.out (by simp; omega), HB2.out, by have := Hg0.out; omega, hg1, hpg⟩
  have HA2 : Hid (RdAt w2 [w1.heap.size, g0] p l b) :=
    (((H.out.avoid (M' := [w1.heap.size, g0]) (by intro x hx; right; have := HK1.out.size; have := Hg0.out; simp at hx; omega)).keep HK1.out (by simp) (by simp)).keep hA2 (by simp) (by simp; omega))
  generalize w1.heap.size = g6 at *
  clear hA2 Hk2 HB2 HB1 HK1 H hg1
  have hc := Lib.hid (rint_any [g6, g0] p l b w2 HA2.out)
  have hn2 := intS_len l b
  generalize intS l b = t at *
  obtain ⟨t1, t2, t3⟩ := t
  simp only [] at HR hc hn2
  refine hc.out.mono ?_
  rintro e w3 ⟨rfl, hA, hk⟩
  have H3 := Lib.hid (H2.out.step hk); have HA3 := Lib.hid hA
  clear hA hk hc H2 HA2
  obtain ⟨q0, q1, q2, q3, q4, q5, q6, q7, q8, q9, qa, qb, qc, qd, qe, qf, qg, qh, qz⟩ := blk18 H3.out.b6
  obtain ⟨w4, hw⟩ : ∃ w', w' = (w3.setCell ⟨g6, 13, none⟩ (.int .i64 t1)) := ⟨_, rfl⟩
  have hk : Keeps [g6] w3 w4 := by rw [hw]; exact (Keeps.refl _ _).setCell (by simp) _
  have H4 : Hid (RmAt w w4 p g0 g6 #[.int .i64 4, .int .i64 0, .int .i64 0, .int .i64 0, .int .i64 0, .int .i64 0, .slice none 0 0, .string ⟨#[]⟩, .int .i64 0, .int .i64 0, .int .i64 0, .int .i64 0, .int .u64 0, .int .i64 t1, .int .i64 0, .slice none 0 0, .int .i64 0, .int .i64 0]) := by show RmAt _ _ _ _ _ _; rw [hw]; exact (by simpa using (H3.out.set 13 (.int .i64 t1)) : RmAt w _ p g0 g6 _)
  have HA4 := Lib.hid (HA3.out.keep hk (by simp) H3.out.pin)
  have Hk4 := Lib.hid hk
  have Hw := Lib.hid hw
  clear hk hw
  go_upto_region 12 with (fail)
  rw [← Hw.out]
  clear Hw q0 q1 q2 q3 q4 q5 q6 q7 q8 q9 qa qb qc qd qe qf qg qh qz H3
  go_wp2_with fail
  have hc := Lib.hid (rint_any [g6, g0] p t2 t3 w4 HA4.out)
  have hn4 := intS_len t2 t3
  generalize intS t2 t3 = t at *
  obtain ⟨c1, c2, c3⟩ := t
  simp only [] at HR hc hn4
  refine hc.out.mono ?_
  rintro e w5 ⟨rfl, hA, hk⟩
  have H5 := Lib.hid (H4.out.step hk); have HA5 := Lib.hid hA
  clear hA hk hc H4 HA4
  obtain ⟨q0, q1, q2, q3, q4, q5, q6, q7, q8, q9, qa, qb, qc, qd, qe, qf, qg, qh, qz⟩ := blk18 H5.out.b6
  obtain ⟨w6, hw⟩ : ∃ w', w' = (w5.setCell ⟨g6, 14, none⟩ (.int .i64 c1)) := ⟨_, rfl⟩
  have hk : Keeps [g6] w5 w6 := by rw [hw]; exact (Keeps.refl _ _).setCell (by simp) _
  have H6 : Hid (RmAt w w6 p g0 g6 #[.int .i64 4, .int .i64 0, .int .i64 0, .int .i64 0, .int .i64 0, .int .i64 0, .slice none 0 0, .string ⟨#[]⟩, .int .i64 0, .int .i64 0, .int .i64 0, .int .i64 0, .int .u64 0, .int .i64 t1, .int .i64 c1, .slice none 0 0, .int .i64 0, .int .i64 0]) := by show RmAt _ _ _ _ _ _; rw [hw]; exact (by simpa using (H5.out.set 14 (.int .i64 c1)) : RmAt w _ p g0 g6 _)
  have HA6 := Lib.hid (HA5.out.keep hk (by simp) H5.out.pin)
  have Hk6 := Lib.hid hk
  have Hw := Lib.hid hw
  clear hk hw
  go_upto_region 15 with (fail)
  rw [← Hw.out]
  clear Hw q0 q1 q2 q3 q4 q5 q6 q7 q8 q9 qa qb qc qd qe qf qg qh qz H5
  have hg := Lib.hid (mget_any [g6, g0] p c2 c3 mx w6 HA6.out (by omega) (hkeepm.out w6 H6.out.keeps) hp0)
  have h66 := H6.out.b6.lt
  generalize mgetS c2 c3 = g at *
  obtain ⟨_ | es, x2, x3⟩ := g
  · simp only [MGetPost] at hg
    simp only [Option.getD, Option.isSome, Bool.false_and] at HR
    go_wp2_with fail
    refine hg.out.mono ?_
    rintro e w7 ⟨rfl, hk⟩
    have H7 := Lib.hid (H6.out.step hk)
    clear hk hg H6 HA6
    obtain ⟨q0, q1, q2, q3, q4, q5, q6, q7, q8, q9, qa, qb, qc, qd, qe, qf, qg, qh, qz⟩ := blk18 H7.out.b6
    obtain ⟨w8, hw⟩ : ∃ w', w' = (w7.setCell ⟨g6, 15, none⟩ (.slice none 0 0)) := ⟨_, rfl⟩
    have hk : Keeps [g6] w7 w8 := by rw [hw]; exact (Keeps.refl _ _).setCell (by simp) _
    have H8 : Hid (RmAt w w8 p g0 g6 #[.int .i64 4, .int .i64 0, .int .i64 0, .int .i64 0, .int .i64 0, .int .i64 0, .slice none 0 0, .string ⟨#[]⟩, .int .i64 0, .int .i64 0, .int .i64 0, .int .i64 0, .int .u64 0, .int .i64 t1, .int .i64 c1, .slice none 0 0, .int .i64 0, .int .i64 0]) := by show RmAt _ _ _ _ _ _; rw [hw]; exact (by simpa using (H7.out.set 15 (.slice none 0 0)) : RmAt w _ p g0 g6 _)
    have Hk8 := Lib.hid hk
    have Hw := Lib.hid hw
    clear hk hw
    go_upto_region 21 with (fail)
    rw [← Hw.out]
    clear Hw q0 q1 q2 q3 q4 q5 q6 q7 q8 q9 qa qb qc qd qe qf qg qh qz H7
    go_wp2_with (first | (refine wpList_load_mid rfl 68 (.tmp 6) rfl g6 0 rfl _ _ (blk_range H8.out.b6) Tryz.underlying68 rfl (by kernel_rfl) ?_) | (refine wpList_store_blk rfl 68 (.tmp 4) (.tmp 70) rfl g0 0 68 zeroR #[.int .i64 4, .int .i64 0, .int .i64 0, .int .i64 0, .int .i64 0, .int .i64 0, .slice none 0 0, .string ⟨#[]⟩, .int .i64 0, .int .i64 0, .int .i64 0, .int .i64 0, .int .u64 0, .int .i64 t1, .int .i64 c1, .slice none 0 0, .int .i64 0, .int .i64 0] #[.int .i64 4, .int .i64 0, .int .i64 0, .int .i64 0, .int .i64 0, .int .i64 0, .slice none 0 0, .string ⟨#[]⟩, .int .i64 0, .int .i64 0, .int .i64 0, .int .i64 0, .int .u64 0, .int .i64 t1, .int .i64 c1, .slice none 0 0, .int .i64 0, .int .i64 0] rfl rfl H8.out.b0 (by show 0 + 18 ≤ 18; omega) rfl (by kernel_rfl) rfl ?_; intro wz hkz hBz; have Hkz := Lib.hid hkz; have HBz := Lib.hid hBz; clear hkz hBz))
    refine bodyPost_ret (results_cell2 rfl _ _ g0 68 #[.int .i64 4, .int .i64 0, .int .i64 0, .int .i64 0, .int .i64 0, .int .i64 0, .slice none 0 0, .string ⟨#[]⟩, .int .i64 0, .int .i64 0, .int .i64 0, .int .i64 0, .int .u64 0, .int .i64 t1, .int .i64 c1, .slice none 0 0, .int .i64 0, .int .i64 0] _ rfl HBz.out Tryz.underlying68 rfl (by kernel_rfl)) rfl ?_
    exact mrd_fin H8.out Hkz.out R (.slice none 0 0) (.slice none 0 0) (by rw [HR.out]; rfl) (by rw [HR.out]; rfl) (fun M hM => by rw [HR.out]; exact ⟨Ds.nil _ _, Ens.nil _ _⟩) (fun ht => by rw [HR.out] at ht ⊢; exact absurd ht (by simp))
  · simp only [MGetPost] at hg
    simp only [Option.getD, Option.isSome, Bool.true_and] at HR
    go_wp2_with fail
    refine hg.out.mono ?_
    rintro e w7 ⟨v, rfl, hE, hA, hk⟩
    obtain ⟨Ba, ka, rfl, _⟩ := (hE [] (by simp)).len
    have HE := Lib.hid (fun M (hM : ∀ g ∈ M, g ≤ g6) => hE M (fun x hx => Nat.lt_of_le_of_lt (hM x hx) h66))
    have H7 := Lib.hid (H6.out.step hk); have HA7 := Lib.hid hA
    clear hk hg H6 HA6 hE hA
    obtain ⟨q0, q1, q2, q3, q4, q5, q6, q7, q8, q9, qa, qb, qc, qd, qe, qf, qg, qh, qz⟩ := blk18 H7.out.b6
    obtain ⟨w8, hw⟩ : ∃ w', w' = (w7.setCell ⟨g6, 15, none⟩ (.slice Ba es.length ka)) := ⟨_, rfl⟩
    have hk : Keeps [g6] w7 w8 := by rw [hw]; exact (Keeps.refl _ _).setCell (by simp) _
    have H8 : Hid (RmAt w w8 p g0 g6 #[.int .i64 4, .int .i64 0, .int .i64 0, .int .i64 0, .int .i64 0, .int .i64 0, .slice none 0 0, .string ⟨#[]⟩, .int .i64 0, .int .i64 0, .int .i64 0, .int .i64 0, .int .u64 0, .int .i64 t1, .int .i64 c1, .slice Ba es.length ka, .int .i64 0, .int .i64 0]) := by show RmAt _ _ _ _ _ _; rw [hw]; exact (by simpa using (H7.out.set 15 (.slice Ba es.length ka)) : RmAt w _ p g0 g6 _)
    have HA8 := Lib.hid (HA7.out.keep hk (by simp) H7.out.pin)
    have Hk8 := Lib.hid hk
    have Hw := Lib.hid hw
    clear hk hw
    go_upto_region 21 with (fail)
    rw [← Hw.out]
    clear Hw q0 q1 q2 q3 q4 q5 q6 q7 q8 q9 qa qb qc qd qe qf qg qh qz H7
    go_wp2_with (first | (refine wpList_load_mid rfl 68 (.tmp 6) rfl g6 0 rfl _ _ (blk_range H8.out.b6) Tryz.underlying68 rfl (by kernel_rfl) ?_) | (refine wpList_store_blk rfl 68 (.tmp 4) (.tmp 70) rfl g0 0 68 zeroR #[.int .i64 4, .int .i64 0, .int .i64 0, .int .i64 0, .int .i64 0, .int .i64 0, .slice none 0 0, .string ⟨#[]⟩, .int .i64 0, .int .i64 0, .int .i64 0, .int .i64 0, .int .u64 0, .int .i64 t1, .int .i64 c1, .slice Ba es.length ka, .int .i64 0, .int .i64 0] #[.int .i64 4, .int .i64 0, .int .i64 0, .int .i64 0, .int .i64 0, .int .i64 0, .slice none 0 0, .string ⟨#[]⟩, .int .i64 0, .int .i64 0, .int .i64 0, .int .i64 0, .int .u64 0, .int .i64 t1, .int .i64 c1, .slice Ba es.length ka, .int .i64 0, .int .i64 0] rfl rfl H8.out.b0 (by show 0 + 18 ≤ 18; omega) rfl (by kernel_rfl) rfl ?_; intro wz hkz hBz; have Hkz := Lib.hid hkz; have HBz := Lib.hid hBz; clear hkz hBz))
    refine bodyPost_ret (results_cell2 rfl _ _ g0 68 #[.int .i64 4, .int .i64 0, .int .i64 0, .int .i64 0, .int .i64 0, .int .i64 0, .slice none 0 0, .string ⟨#[]⟩, .int .i64 0, .int .i64 0, .int .i64 0, .int .i64 0, .int .u64 0, .int .i64 t1, .int .i64 c1, .slice Ba es.length ka, .int .i64 0, .int .i64 0] _ rfl HBz.out Tryz.underlying68 rfl (by kernel_rfl)) rfl ?_
    exact mrd_fin H8.out Hkz.out R (.slice none 0 0) (.slice Ba es.length ka) (by rw [HR.out]; rfl) (by rw [HR.out]; rfl) (fun M hM => by rw [HR.out]; exact (msg_in6 (m := _) (dv := .slice none 0 0) (lv := .slice Ba es.length ka) (fun M hM => ⟨Ds.nil _ _, HE.out M hM⟩) Hk8.out M hM)) (fun ht => by rw [HR.out] at ht ⊢; exact HA8.out)
set_option maxRecDepth 100000 in
set_option maxHeartbeats 600000 in
theorem mread_5 (p : Nat) (l : List UInt8) (b : Bool) (mx : Int) (w : World) (h : RdAt w [] p l b) (hl : l.length < 4294967281) (hm : w.cell? ⟨0, 0, none⟩ = some (.int .i64 mx)) (hp0 : p ≠ 0) :
    Calls Tryz.prog 103 #[.pointer (some ⟨p, 0, none⟩), .int .i64 5] w fun e w' => MRd p (mreadS 5 l b) w e w' := by
  have hw0 : 0 < w.heap.size := by
    have := World.block_lt_of_cell? w _ hm
    simpa using this
  have hkeepm : Hid (∀ W, Keeps [p] w W → W.cell? ⟨0, 0, none⟩ = some (.int .i64 mx)) := fun W hb => (hb.cell (p := ⟨0, 0, none⟩) hw0 (by simp; omega)).trans hm
  have H := Lib.hid h
  have hpw := h.lt
  have _ := hl
  clear h hm
  have HR : Hid (mreadS 5 l b = (⟨5, ⟨0, 0, 0, 0, 0, [], ⟨#[]⟩, 0, 0⟩, 0, 0, 0, (intS l b).1, 0, (mgetS (countS (intS l b).2.1 (intS l b).2.2 128).2.1 (countS (intS l b).2.1 (intS l b).2.2 128).2.2).1.getD [], (countS (intS l b).2.1 (intS l b).2.2 128).1, 0⟩, (mgetS (countS (intS l b).2.1 (intS l b).2.2 128).2.1 (countS (intS l b).2.1 (intS l b).2.2 128).2.2).1.isSome && !(mgetS (countS (intS l b).2.1 (intS l b).2.2 128).2.1 (countS (intS l b).2.1 (intS l b).2.2 128).2.2).2.2, (mgetS (countS (intS l b).2.1 (intS l b).2.2 128).2.1 (countS (intS l b).2.1 (intS l b).2.2 128).2.2).2)) := rfl
  generalize mreadS 5 l b = R at *
  go_enter Tryz.func103, Tryz.ntmps103
  go_upto_region 1 with (fail)
  obtain ⟨w1, hw1⟩ : ∃ w1, w1 = w.alloc (.cells #[.int .i64 0, .int .i64 0, .int .i64 0, .int .i64 0, .int .i64 0, .int .i64 0, .slice none 0 0, .string ⟨#[]⟩, .int .i64 0, .int .i64 0, .int .i64 0, .int .i64 0, .int .u64 0, .int .i64 0, .int .i64 0, .slice none 0 0, .int .i64 0, .int .i64 0] 68) := ⟨_, rfl⟩
  rw [← hw1]
  have hK1 : Keeps [] w w1 := by rw [hw1]; exact (Keeps.refl _ _).alloc _
  have hB1 : Blk w1 w.heap.size 68 zeroR := by rw [hw1]; exact Blk.new w _ _
  obtain ⟨g0, hg0⟩ : ∃ g0, g0 = w.heap.size := ⟨_, rfl⟩
  rw [← hg0] at hB1 ⊢
  have hg1 : g0 < w1.heap.size := hB1.lt
  have hpg : p < g0 := by omega
  have HK1 := Lib.hid hK1; have HB1 := Lib.hid hB1; have Hg0 := Lib.hid hg0
  clear hw1 hK1 hB1 hg0
  go_wp2_with (refine wpList_store_blk rfl 68 (.tmp 6) (.tmp 11) rfl w1.heap.size 0 68 _ #[.int .i64 5, .int .i64 0, .int .i64 0, .int .i64 0, .int .i64 0, .int .i64 0, .slice none 0 0, .string ⟨#[]⟩, .int .i64 0, .int .i64 0, .int .i64 0, .int .i64 0, .int .u64 0, .int .i64 0, .int .i64 0, .slice none 0 0, .int .i64 0, .int .i64 0] #[.int .i64 5, .int .i64 0, .int .i64 0, .int .i64 0, .int .i64 0, .int .i64 0, .slice none 0 0, .string ⟨#[]⟩, .int .i64 0, .int .i64 0, .int .i64 0, .int .i64 0, .int .u64 0, .int .i64 0, .int .i64 0, .slice none 0 0, .int .i64 0, .int .i64 0] rfl rfl (Blk.new _ _ _) (by show 0 + 18 ≤ 18; omega) rfl (by kernel_rfl) rfl ?_; intro w2 hk2 hB2; have Hk2 := Lib.hid hk2; have HB2 := Lib.hid hB2; clear hk2 hB2)
  have hA2 : Keeps [w1.heap.size] w1 w2 := ((Keeps.refl _ _).alloc _).trans Hk2.out (by simp)
  have H2 : Hid (RmAt w w2 p g0 w1.heap.size #[.int .i64 5, .int .i64 0, .int .i64 0, .int .i64 0, .int .i64 0, .int .i64 0, .slice none 0 0, .string ⟨#[]⟩, .int .i64 0, .int .i64 0, .int .i64 0, .int .i64 0, .int .u64 0, .int .i64 0, .int .i64 0, .slice none 0 0, .int .i64 0, .int .i64 0]) :=
    ⟨(HK1.out.trans hA2 (by intro x hx; simp at hx; right; have := HK1.out.size; omega) : Keeps [] w w2).mono (by simp), hA2.blk HB1.out (by simp; omega), HB2.out, by have := Hg0.out; omega, hg1, hpg⟩
  have HA2 : Hid (RdAt w2 [w1.heap.size, g0] p l b) :=
    (((H.out.avoid (M' := [w1.heap.size, g0]) (by intro x hx; right; have := HK1.out.size; have := Hg0.out; simp at hx; omega)).keep HK1.out (by simp) (by simp)).keep hA2 (by simp) (by simp; omega))
  generalize w1.heap.size = g6 at *
  clear hA2 Hk2 HB2 HB1 HK1 H hg1
  have hc := Lib.hid (rint_any [g6, g0] p l b w2 HA2.out)
  have hn2 := intS_len l b
  generalize intS l b = t at *
  obtain ⟨t1, t2, t3⟩ := t
  simp only [] at HR hc hn2
  refine hc.out.mono ?_
  rintro e w3 ⟨rfl, hA, hk⟩
  have H3 := Lib.hid (H2.out.step hk); have HA3 := Lib.hid hA
  clear hA hk hc H2 HA2
  obtain ⟨q0, q1, q2, q3, q4, q5, q6, q7, q8, q9, qa, qb, qc, qd, qe, qf, qg, qh, qz⟩ := blk18 H3.out.b6
  obtain ⟨w4, hw⟩ : ∃ w', w' = (w3.setCell ⟨g6, 13, none⟩ (.int .i64 t1)) := ⟨_, rfl⟩
  have hk : Keeps [g6] w3 w4 := by rw [hw]; exact (Keeps.refl _ _).setCell (by simp) _
  have H4 : Hid (RmAt w w4 p g0 g6 #[.int .i64 5, .int .i64 0, .int .i64 0, .int .i64 0, .int .i64 0, .int .i64 0, .slice none 0 0, .string ⟨#[]⟩, .int .i64 0, .int .i64 0, .int .i64 0, .int .i64 0, .int .u64 0, .int .i64 t1, .int .i64 0, .slice none 0 0, .int .i64 0, .int .i64 0]) := by show RmAt _ _ _ _ _ _; rw [hw]; exact (by simpa using (H3.out.set 13 (.int .i64 t1)) : RmAt w _ p g0 g6 _)
  have HA4 := Lib.hid (HA3.out.keep hk (by simp) H3.out.pin)
  have Hk4 := Lib.hid hk
  have Hw := Lib.hid hw
  clear hk hw
  go_upto_region 12 with (fail)
  rw [← Hw.out]
  clear Hw q0 q1 q2 q3 q4 q5 q6 q7 q8 q9 qa qb qc qd qe qf qg qh qz H3
  go_wp2_with fail
  have hc := Lib.hid (count_any [g6, g0] p t2 t3 128 (by omega) w4 HA4.out)
  have hn4 := countS_len t2 t3 128
  generalize countS t2 t3 128 = t at *
  obtain ⟨c1, c2, c3⟩ := t
  simp only [] at HR hc hn4
  refine hc.out.mono ?_
  rintro e w5 ⟨rfl, hA, hk⟩
  have H5 := Lib.hid (H4.out.step hk); have HA5 := Lib.hid hA
  clear hA hk hc H4 HA4
  obtain ⟨q0, q1, q2, q3, q4, q5, q6, q7, q8, q9, qa, qb, qc, qd, qe, qf, qg, qh, qz⟩ := blk18 H5.out.b6
  obtain ⟨w6, hw⟩ : ∃ w', w' = (w5.setCell ⟨g6, 16, none⟩ (.int .i64 c1)) := ⟨_, rfl⟩
  have hk : Keeps [g6] w5 w6 := by rw [hw]; exact (Keeps.refl _ _).setCell (by simp) _
  have H6 : Hid (RmAt w w6 p g0 g6 #[.int .i64 5, .int .i64 0, .int .i64 0, .int .i64 0, .int .i64 0, .int .i64 0, .slice none 0 0, .string ⟨#[]⟩, .int .i64 0, .int .i64 0, .int .i64 0, .int .i64 0, .int .u64 0, .int .i64 t1, .int .i64 0, .slice none 0 0, .int .i64 c1, .int .i64 0]) := by show RmAt _ _ _ _ _ _; rw [hw]; exact (by simpa using (H5.out.set 16 (.int .i64 c1)) : RmAt w _ p g0 g6 _)
  have HA6 := Lib.hid (HA5.out.keep hk (by simp) H5.out.pin)
  have Hk6 := Lib.hid hk
  have Hw := Lib.hid hw
  clear hk hw
  go_upto_region 18 with (fail)
  rw [← Hw.out]
  clear Hw q0 q1 q2 q3 q4 q5 q6 q7 q8 q9 qa qb qc qd qe qf qg qh qz H5
  have hg := Lib.hid (mget_any [g6, g0] p c2 c3 mx w6 HA6.out (by omega) (hkeepm.out w6 H6.out.keeps) hp0)
  have h66 := H6.out.b6.lt
  generalize mgetS c2 c3 = g at *
  obtain ⟨_ | es, x2, x3⟩ := g
  · simp only [MGetPost] at hg
    simp only [Option.getD, Option.isSome, Bool.false_and] at HR
    go_wp2_with fail
    refine hg.out.mono ?_
    rintro e w7 ⟨rfl, hk⟩
    have H7 := Lib.hid (H6.out.step hk)
    clear hk hg H6 HA6
    obtain ⟨q0, q1, q2, q3, q4, q5, q6, q7, q8, q9, qa, qb, qc, qd, qe, qf, qg, qh, qz⟩ := blk18 H7.out.b6
    obtain ⟨w8, hw⟩ : ∃ w', w' = (w7.setCell ⟨g6, 15, none⟩ (.slice none 0 0)) := ⟨_, rfl⟩
    have hk : Keeps [g6] w7 w8 := by rw [hw]; exact (Keeps.refl _ _).setCell (by simp) _
    have H8 : Hid (RmAt w w8 p g0 g6 #[.int .i64 5, .int .i64 0, .int .i64 0, .int .i64 0, .int .i64 0, .int .i64 0, .slice none 0 0, .string ⟨#[]⟩, .int .i64 0, .int .i64 0, .int .i64 0, .int .i64 0, .int .u64 0, .int .i64 t1, .int .i64 0, .slice none 0 0, .int .i64 c1, .int .i64 0]) := by show RmAt _ _ _ _ _ _; rw [hw]; exact (by simpa using (H7.out.set 15 (.slice none 0 0)) : RmAt w _ p g0 g6 _)
    have Hk8 := Lib.hid hk
    have Hw := Lib.hid hw
    clear hk hw
    go_upto_region 21 with (fail)
    rw [← Hw.out]
    clear Hw q0 q1 q2 q3 q4 q5 q6 q7 q8 q9 qa qb qc qd qe qf qg qh qz H7
    go_wp2_with (first | (refine wpList_load_mid rfl 68 (.tmp 6) rfl g6 0 rfl _ _ (blk_range H8.out.b6) Tryz.underlying68 rfl (by kernel_rfl) ?_) | (refine wpList_store_blk rfl 68 (.tmp 4) (.tmp 70) rfl g0 0 68 zeroR #[.int .i64 5, .int .i64 0, .int .i64 0, .int .i64 0, .int .i64 0, .int .i64 0, .slice none 0 0, .string ⟨#[]⟩, .int .i64 0, .int .i64 0, .int .i64 0, .int .i64 0, .int .u64 0, .int .i64 t1, .int .i64 0, .slice none 0 0, .int .i64 c1, .int .i64 0] #[.int .i64 5, .int .i64 0, .int .i64 0, .int .i64 0, .int .i64 0, .int .i64 0, .slice none 0 0, .string ⟨#[]⟩, .int .i64 0, .int .i64 0, .int .i64 0, .int .i64 0, .int .u64 0, .int .i64 t1, .int .i64 0, .slice none 0 0, .int .i64 c1, .int .i64 0] rfl rfl H8.out.b0 (by show 0 + 18 ≤ 18; omega) rfl (by kernel_rfl) rfl ?_; intro wz hkz hBz; have Hkz := Lib.hid hkz; have HBz := Lib.hid hBz; clear hkz hBz))
    refine bodyPost_ret (results_cell2 rfl _ _ g0 68 #[.int .i64 5, .int .i64 0, .int .i64 0, .int .i64 0, .int .i64 0, .int .i64 0, .slice none 0 0, .string ⟨#[]⟩, .int .i64 0, .int .i64 0, .int .i64 0, .int .i64 0, .int .u64 0, .int .i64 t1, .int .i64 0, .slice none 0 0, .int .i64 c1, .int .i64 0] _ rfl HBz.out Tryz.underlying68 rfl (by kernel_rfl)) rfl ?_
    exact mrd_fin H8.out Hkz.out R (.slice none 0 0) (.slice none 0 0) (by rw [HR.out]; rfl) (by rw [HR.out]; rfl) (fun M hM => by rw [HR.out]; exact ⟨Ds.nil _ _, Ens.nil _ _⟩) (fun ht => by rw [HR.out] at ht ⊢; exact absurd ht (by simp))
  · simp only [MGetPost] at hg
    simp only [Option.getD, Option.isSome, Bool.true_and] at HR
    go_wp2_with fail
    refine hg.out.mono ?_
    rintro e w7 ⟨v, rfl, hE, hA, hk⟩
    obtain ⟨Ba, ka, rfl, _⟩ := (hE [] (by simp)).len
    have HE := Lib.hid (fun M (hM : ∀ g ∈ M, g ≤ g6) => hE M (fun x hx => Nat.lt_of_le_of_lt (hM x hx) h66))
    have H7 := Lib.hid (H6.out.step hk); have HA7 := Lib.hid hA
    clear hk hg H6 HA6 hE hA
    obtain ⟨q0, q1, q2, q3, q4, q5, q6, q7, q8, q9, qa, qb, qc, qd, qe, qf, qg, qh, qz⟩ := blk18 H7.out.b6
    obtain ⟨w8, hw⟩ : ∃ w', w' = (w7.setCell ⟨g6, 15, none⟩ (.slice Ba es.length ka)) := ⟨_, rfl⟩
    have hk : Keeps [g6] w7 w8 := by rw [hw]; exact (Keeps.refl _ _).setCell (by simp) _
    have H8 : Hid (RmAt w w8 p g0 g6 #[.int .i64 5, .int .i64 0, .int .i64 0, .int .i64 0, .int .i64 0, .int .i64 0, .slice none 0 0, .string ⟨#[]⟩, .int .i64 0, .int .i64 0, .int .i64 0, .int .i64 0, .int .u64 0, .int .i64 t1, .int .i64 0, .slice Ba es.length ka, .int .i64 c1, .int .i64 0]) := by show RmAt _ _ _ _ _ _; rw [hw]; exact (by simpa using (H7.out.set 15 (.slice Ba es.length ka)) : RmAt w _ p g0 g6 _)
    have HA8 := Lib.hid (HA7.out.keep hk (by simp) H7.out.pin)
    have Hk8 := Lib.hid hk
    have Hw := Lib.hid hw
    clear hk hw
    go_upto_region 21 with (fail)
    rw [← Hw.out]
    clear Hw q0 q1 q2 q3 q4 q5 q6 q7 q8 q9 qa qb qc qd qe qf qg qh qz H7
    go_wp2_with (first | (refine wpList_load_mid rfl 68 (.tmp 6) rfl g6 0 rfl _ _ (blk_range H8.out.b6) Tryz.underlying68 rfl (by kernel_rfl) ?_) | (refine wpList_store_blk rfl 68 (.tmp 4) (.tmp 70) rfl g0 0 68 zeroR #[.int .i64 5, .int .i64 0, .int .i64 0, .int .i64 0, .int .i64 0, .int .i64 0, .slice none 0 0, .string ⟨#[]⟩, .int .i64 0, .int .i64 0, .int .i64 0, .int .i64 0, .int .u64 0, .int .i64 t1, .int .i64 0, .slice Ba es.length ka, .int .i64 c1, .int .i64 0] #[.int .i64 5, .int .i64 0, .int .i64 0, .int .i64 0, .int .i64 0, .int .i64 0, .slice none 0 0, .string ⟨#[]⟩, .int .i64 0, .int .i64 0, .int .i64 0, .int .i64 0, .int .u64 0, .int .i64 t1, .int .i64 0, .slice Ba es.length ka, .int .i64 c1, .int .i64 0] rfl rfl H8.out.b0 (by show 0 + 18 ≤ 18; omega) rfl (by kernel_rfl) rfl ?_; intro wz hkz hBz; have Hkz := Lib.hid hkz; have HBz := Lib.hid hBz; clear hkz hBz))
    refine bodyPost_ret (results_cell2 rfl _ _ g0 68 #[.int .i64 5, .int .i64 0, .int .i64 0, .int .i64 0, .int .i64 0, .int .i64 0, .slice none 0 0, .string ⟨#[]⟩, .int .i64 0, .int .i64 0, .int .i64 0, .int .i64 0, .int .u64 0, .int .i64 t1, .int .i64 0, .slice Ba es.length ka, .int .i64 c1, .int .i64 0] _ rfl HBz.out Tryz.underlying68 rfl (by kernel_rfl)) rfl ?_
    exact mrd_fin H8.out Hkz.out R (.slice none 0 0) (.slice Ba es.length ka) (by rw [HR.out]; rfl) (by rw [HR.out]; rfl) (fun M hM => by rw [HR.out]; exact (msg_in6 (m := _) (dv := .slice none 0 0) (lv := .slice Ba es.length ka) (fun M hM => ⟨Ds.nil _ _, HE.out M hM⟩) Hk8.out M hM)) (fun ht => by rw [HR.out] at ht ⊢; exact HA8.out)
set_option maxRecDepth 100000 in
set_option maxHeartbeats 600000 in
theorem mread_6 (p : Nat) (l : List UInt8) (b : Bool) (mx : Int) (w : World) (h : RdAt w [] p l b) (hl : l.length < 4294967281) (hm : w.cell? ⟨0, 0, none⟩ = some (.int .i64 mx)) (hp0 : p ≠ 0) :
    Calls Tryz.prog 103 #[.pointer (some ⟨p, 0, none⟩), .int .i64 6] w fun e w' => MRd p (mreadS 6 l b) w e w' := by
  have hw0 : 0 < w.heap.size := by
    have := World.block_lt_of_cell? w _ hm
    simpa using this
  have hkeepm : Hid (∀ W, Keeps [p] w W → W.cell? ⟨0, 0, none⟩ = some (.int .i64 mx)) := fun W hb => (hb.cell (p := ⟨0, 0, none⟩) hw0 (by simp; omega)).trans hm
  have H := Lib.hid h
  have hpw := h.lt
  have _ := hl
  clear h hm
  have HR : Hid (mreadS 6 l b = (⟨6, ⟨0, 0, 0, 0, 0, [], ⟨#[]⟩, 0, 0⟩, 0, 0, 0, (intS l b).1, 0, [], 0, (countS (intS l b).2.1 (intS l b).2.2 128).1⟩, true, (countS (intS l b).2.1 (intS l b).2.2 128).2)) := rfl
  generalize mreadS 6 l b = R at *
  go_enter Tryz.func103, Tryz.ntmps103
  go_upto_region 1 with (fail)
  obtain ⟨w1, hw1⟩ : ∃ w1, w1 = w.alloc (.cells #[.int .i64 0, .int .i64 0, .int .i64 0, .int .i64 0, .int .i64 0, .int .i64 0, .slice none 0 0, .string ⟨#[]⟩, .int .i64 0, .int .i64 0, .int .i64 0, .int .i64 0, .int .u64 0, .int .i64 0, .int .i64 0, .slice none 0 0, .int .i64 0, .int .i64 0] 68) := ⟨_, rfl⟩
  rw [← hw1]
  have hK1 : Keeps [] w w1 := by rw [hw1]; exact (Keeps.refl _ _).alloc _
  have hB1 : Blk w1 w.heap.size 68 zeroR := by rw [hw1]; exact Blk.new w _ _
  obtain ⟨g0, hg0⟩ : ∃ g0, g0 = w.heap.size := ⟨_, rfl⟩
  rw [← hg0] at hB1 ⊢
  have hg1 : g0 < w1.heap.size := hB1.lt
  have hpg : p < g0 := by omega
  have HK1 := Lib.hid hK1; have HB1 := Lib.hid hB1; have Hg0 := Lib.hid hg0
  clear hw1 hK1 hB1 hg0
  go_wp2_with (refine wpList_store_blk rfl 68 (.tmp 6) (.tmp 11) rfl w1.heap.size 0 68 _ #[.int .i64 6, .int .i64 0, .int .i64 0, .int .i64 0, .int .i64 0, .int .i64 0, .slice none 0 0, .string ⟨#[]⟩, .int .i64 0, .int .i64 0, .int .i64 0, .int .i64 0, .int .u64 0, .int .i64 0, .int .i64 0, .slice none 0 0, .int .i64 0, .int .i64 0] #[.int .i64 6, .int .i64 0, .int .i64 0, .int .i64 0, .int .i64 0, .int .i64 0, .slice none 0 0, .string ⟨#[]⟩, .int .i64 0, .int .i64 0, .int .i64 0, .int .i64 0, .int .u64 0, .int .i64 0, .int .i64 0, .slice none 0 0, .int .i64 0, .int .i64 0] rfl rfl (Blk.new _ _ _) (by show 0 + 18 ≤ 18; omega) rfl (by kernel_rfl) rfl ?_; intro w2 hk2 hB2; have Hk2 := Lib.hid hk2; have HB2 := Lib.hid hB2; clear hk2 hB2)
  have hA2 : Keeps [w1.heap.size] w1 w2 := ((Keeps.refl _ _).alloc _).trans Hk2.out (by simp)
  have H2 : Hid (RmAt w w2 p g0 w1.heap.size #[.int .i64 6, .int .i64 0, .int .i64 0, .int .i64 0, .int .i64 0, .int .i64 0, .slice none 0 0, .string ⟨#[]⟩, .int .i64 0, .int .i64 0, .int .i64 0, .int .i64 0, .int .u64 0, .int .i64 0, .int .i64 0, .slice none 0 0, .int .i64 0, .int .i64 0]) :=
    ⟨(HK1.out.trans hA2 (by intro x hx; simp at hx; right; have := HK1.out.size; omega) : Keeps [] w w2).mono (by simp), hA2.blk HB1.out (by simp; omega), HB2.out, by have := Hg0.out; omega, hg1, hpg⟩
  have HA2 : Hid (RdAt w2 [w1.heap.size, g0] p l b) :=
    (((H.out.avoid (M' := [w1.heap.size, g0]) (by intro x hx; right; have := HK1.out.size; have := Hg0.out; simp at hx; omega)).keep HK1.out (by simp) (by simp)).keep hA2 (by simp) (by simp; omega))
  generalize w1.heap.size = g6 at *
  clear hA2 Hk2 HB2 HB1 HK1 H hg1
  have hc := Lib.hid (rint_any [g6, g0] p l b w2 HA2.out)
  have hn2 := intS_len l b
  generalize intS l b = t at *
  obtain ⟨t1, t2, t3⟩ := t
  simp only [] at HR hc hn2
  refine hc.out.mono ?_
  rintro e w3 ⟨rfl, hA, hk⟩
  have H3 := Lib.hid (H2.out.step hk); have HA3 := Lib.hid hA
  clear hA hk hc H2 HA2
  obtain ⟨q0, q1, q2, q3, q4, q5, q6, q7, q8, q9, qa, qb, qc, qd, qe, qf, qg, qh, qz⟩ := blk18 H3.out.b6
  obtain ⟨w4, hw⟩ : ∃ w', w' = (w3.setCell ⟨g6, 13, none⟩ (.int .i64 t1)) := ⟨_, rfl⟩
  have hk : Keeps [g6] w3 w4 := by rw [hw]; exact (Keeps.refl _ _).setCell (by simp) _
  have H4 : Hid (RmAt w w4 p g0 g6 #[.int .i64 6, .int .i64 0, .int .i64 0, .int .i64 0, .int .i64 0, .int .i64 0, .slice none 0 0, .string ⟨#[]⟩, .int .i64 0, .int .i64 0, .int .i64 0, .int .i64 0, .int .u64 0, .int .i64 t1, .int .i64 0, .slice none 0 0, .int .i64 0, .int .i64 0]) := by show RmAt _ _ _ _ _ _; rw [hw]; exact (by simpa using (H3.out.set 13 (.int .i64 t1)) : RmAt w _ p g0 g6 _)
  have HA4 := Lib.hid (HA3.out.keep hk (by simp) H3.out.pin)
  have Hk4 := Lib.hid hk
  have Hw := Lib.hid hw
  clear hk hw
  go_upto_region 12 with (fail)
  rw [← Hw.out]
  clear Hw q0 q1 q2 q3 q4 q5 q6 q7 q8 q9 qa qb qc qd qe qf qg qh qz H3
  go_wp2_with fail
  have hc := Lib.hid (count_any [g6, g0] p t2 t3 128 (by omega) w4 HA4.out)
  have hn4 := countS_len t2 t3 128
  generalize countS t2 t3 128 = t at *
  obtain ⟨c1, c2, c3⟩ := t
  simp only [] at HR hc hn4
  refine hc.out.mono ?_
  rintro e w5 ⟨rfl, hA, hk⟩
  have H5 := Lib.hid (H4.out.step hk); have HA5 := Lib.hid hA
  clear hA hk hc H4 HA4
  obtain ⟨q0, q1, q2, q3, q4, q5, q6, q7, q8, q9, qa, qb, qc, qd, qe, qf, qg, qh, qz⟩ := blk18 H5.out.b6
  obtain ⟨w6, hw⟩ : ∃ w', w' = (w5.setCell ⟨g6, 17, none⟩ (.int .i64 c1)) := ⟨_, rfl⟩
  have hk : Keeps [g6] w5 w6 := by rw [hw]; exact (Keeps.refl _ _).setCell (by simp) _
  have H6 : Hid (RmAt w w6 p g0 g6 #[.int .i64 6, .int .i64 0, .int .i64 0, .int .i64 0, .int .i64 0, .int .i64 0, .slice none 0 0, .string ⟨#[]⟩, .int .i64 0, .int .i64 0, .int .i64 0, .int .i64 0, .int .u64 0, .int .i64 t1, .int .i64 0, .slice none 0 0, .int .i64 0, .int .i64 c1]) := by show RmAt _ _ _ _ _ _; rw [hw]; exact (by simpa using (H5.out.set 17 (.int .i64 c1)) : RmAt w _ p g0 g6 _)
  have HA6 := Lib.hid (HA5.out.keep hk (by simp) H5.out.pin)
  have Hk6 := Lib.hid hk
  have Hw := Lib.hid hw
  clear hk hw
  go_upto_region 21 with (fail)
  rw [← Hw.out]
  clear Hw q0 q1 q2 q3 q4 q5 q6 q7 q8 q9 qa qb qc qd qe qf qg qh qz H5
  go_wp2_with (first | (refine wpList_load_mid rfl 68 (.tmp 6) rfl g6 0 rfl _ _ (blk_range H6.out.b6) Tryz.underlying68 rfl (by kernel_rfl) ?_) | (refine wpList_store_blk rfl 68 (.tmp 4) (.tmp 70) rfl g0 0 68 zeroR #[.int .i64 6, .int .i64 0, .int .i64 0, .int .i64 0, .int .i64 0, .int .i64 0, .slice none 0 0, .string ⟨#[]⟩, .int .i64 0, .int .i64 0, .int .i64 0, .int .i64 0, .int .u64 0, .int .i64 t1, .int .i64 0, .slice none 0 0, .int .i64 0, .int .i64 c1] #[.int .i64 6, .int .i64 0, .int .i64 0, .int .i64 0, .int .i64 0, .int .i64 0, .slice none 0 0, .string ⟨#[]⟩, .int .i64 0, .int .i64 0, .int .i64 0, .int .i64 0, .int .u64 0, .int .i64 t1, .int .i64 0, .slice none 0 0, .int .i64 0, .int .i64 c1] rfl rfl H6.out.b0 (by show 0 + 18 ≤ 18; omega) rfl (by kernel_rfl) rfl ?_; intro wz hkz hBz; have Hkz := Lib.hid hkz; have HBz := Lib.hid hBz; clear hkz hBz))
  refine bodyPost_ret (results_cell2 rfl _ _ g0 68 #[.int .i64 6, .int .i64 0, .int .i64 0, .int .i64 0, .int .i64 0, .int .i64 0, .slice none 0 0, .string ⟨#[]⟩, .int .i64 0, .int .i64 0, .int .i64 0, .int .i64 0, .int .u64 0, .int .i64 t1, .int .i64 0, .slice none 0 0, .int .i64 0, .int .i64 c1] _ rfl HBz.out Tryz.underlying68 rfl (by kernel_rfl)) rfl ?_
  exact mrd_fin H6.out Hkz.out R (.slice none 0 0) (.slice none 0 0) (by rw [HR.out]; rfl) (by rw [HR.out]; rfl) (fun M hM => by rw [HR.out]; exact ⟨Ds.nil _ _, Ens.nil _ _⟩) (fun ht => by rw [HR.out] at ht ⊢; exact HA6.out)
set_option maxRecDepth 100000 in
set_option maxHeartbeats 600000 in
theorem mread_o (k : Nat) (p : Nat) (l : List UInt8) (b : Bool) (mx : Int) (w : World) (h : RdAt w [] p l b) (hl : l.length < 4294967281) (hm : w.cell? ⟨0, 0, none⟩ = some (.int .i64 mx)) (hp0 : p ≠ 0) (hk1 : k ≠ 1) (hk2 : k ≠ 2) (hk4 : k ≠ 4) (hk5 : k ≠ 5) (hk6 : k ≠ 6) :
    Calls Tryz.prog 103 #[.pointer (some ⟨p, 0, none⟩), .int .i64 k] w fun e w' => MRd p (mreadS k l b) w e w' := by
  have hw0 : 0 < w.heap.size := by
    have := World.block_lt_of_cell? w _ hm
    simpa using this
  have hkeepm : Hid (∀ W, Keeps [p] w W → W.cell? ⟨0, 0, none⟩ = some (.int .i64 mx)) := fun W hb => (hb.cell (p := ⟨0, 0, none⟩) hw0 (by simp; omega)).trans hm
  have H := Lib.hid h
  have hpw := h.lt
  have _ := hl
  clear h hm
  have HR : Hid (mreadS k l b = (⟨k, ⟨0, 0, 0, 0, 0, [], ⟨#[]⟩, 0, 0⟩, 0, 0, 0, (intS l b).1, 0, [], 0, 0⟩, true, (intS l b).2)) := by show _ = _; unfold mreadS; rw [if_neg hk1, if_neg hk2, if_neg hk4, if_neg hk5, if_neg hk6]
  have hd1 : ((k : Int) == 1) = false := by simp; omega
  have hd2 : ((k : Int) == 2) = false := by simp; omega
  have hd4 : ((k : Int) == 4) = false := by simp; omega
  have hd5 : ((k : Int) == 5) = false := by simp; omega
  have hd6 : ((k : Int) == 6) = false := by simp; omega
  clear hk1 hk2 hk4 hk5 hk6
  generalize mreadS k l b = R at *
  go_enter Tryz.func103, Tryz.ntmps103
  go_upto_region 1 with (fail)
  obtain ⟨w1, hw1⟩ : ∃ w1, w1 = w.alloc (.cells #[.int .i64 0, .int .i64 0, .int .i64 0, .int .i64 0, .int .i64 0, .int .i64 0, .slice none 0 0, .string ⟨#[]⟩, .int .i64 0, .int .i64 0, .int .i64 0, .int .i64 0, .int .u64 0, .int .i64 0, .int .i64 0, .slice none 0 0, .int .i64 0, .int .i64 0] 68) := ⟨_, rfl⟩
  rw [← hw1]
  have hK1 : Keeps [] w w1 := by rw [hw1]; exact (Keeps.refl _ _).alloc _
  have hB1 : Blk w1 w.heap.size 68 zeroR := by rw [hw1]; exact Blk.new w _ _
  obtain ⟨g0, hg0⟩ : ∃ g0, g0 = w.heap.size := ⟨_, rfl⟩
  rw [← hg0] at hB1 ⊢
  have hg1 : g0 < w1.heap.size := hB1.lt
  have hpg : p < g0 := by omega
  have HK1 := Lib.hid hK1; have HB1 := Lib.hid hB1; have Hg0 := Lib.hid hg0
  clear hw1 hK1 hB1 hg0
  go_wp2_with (refine wpList_store_blk rfl 68 (.tmp 6) (.tmp 11) rfl w1.heap.size 0 68 _ #[.int .i64 k, .int .i64 0, .int .i64 0, .int .i64 0, .int .i64 0, .int .i64 0, .slice none 0 0, .string ⟨#[]⟩, .int .i64 0, .int .i64 0, .int .i64 0, .int .i64 0, .int .u64 0, .int .i64 0, .int .i64 0, .slice none 0 0, .int .i64 0, .int .i64 0] #[.int .i64 k, .int .i64 0, .int .i64 0, .int .i64 0, .int .i64 0, .int .i64 0, .slice none 0 0, .string ⟨#[]⟩, .int .i64 0, .int .i64 0, .int .i64 0, .int .i64 0, .int .u64 0, .int .i64 0, .int .i64 0, .slice none 0 0, .int .i64 0, .int .i64 0] rfl rfl (Blk.new _ _ _) (by show 0 + 18 ≤ 18; omega) rfl (by kernel_rfl) rfl ?_; intro w2 hk2 hB2; have Hk2 := Lib.hid hk2; have HB2 := Lib.hid hB2; clear hk2 hB2)
  have hA2 : Keeps [w1.heap.size] w1 w2 := ((Keeps.refl _ _).alloc _).trans Hk2.out (by simp)
  have H2 : Hid (RmAt w w2 p g0 w1.heap.size #[.int .i64 k, .int .i64 0, .int .i64 0, .int .i64 0, .int .i64 0, .int .i64 0, .slice none 0 0, .string ⟨#[]⟩, .int .i64 0, .int .i64 0, .int .i64 0, .int .i64 0, .int .u64 0, .int .i64 0, .int .i64 0, .slice none 0 0, .int .i64 0, .int .i64 0]) :=
    ⟨(HK1.out.trans hA2 (by intro x hx; simp at hx; right; have := HK1.out.size; omega) : Keeps [] w w2).mono (by simp), hA2.blk HB1.out (by simp; omega), HB2.out, by have := Hg0.out; omega, hg1, hpg⟩
  have HA2 : Hid (RdAt w2 [w1.heap.size, g0] p l b) :=
    (((H.out.avoid (M' := [w1.heap.size, g0]) (by intro x hx; right; have := HK1.out.size; have := Hg0.out; simp at hx; omega)).keep HK1.out (by simp) (by simp)).keep hA2 (by simp) (by simp; omega))
  generalize w1.heap.size = g6 at *
  clear hA2 Hk2 HB2 HB1 HK1 H hg1
  have hc := Lib.hid (rint_any [g6, g0] p l b w2 HA2.out)
  have hn2 := intS_len l b
  generalize intS l b = t at *
  obtain ⟨t1, t2, t3⟩ := t
  simp only [] at HR hc hn2
  refine hc.out.mono ?_
  rintro e w3 ⟨rfl, hA, hk⟩
  have H3 := Lib.hid (H2.out.step hk); have HA3 := Lib.hid hA
  clear hA hk hc H2 HA2
  obtain ⟨q0, q1, q2, q3, q4, q5, q6, q7, q8, q9, qa, qb, qc, qd, qe, qf, qg, qh, qz⟩ := blk18 H3.out.b6
  obtain ⟨w4, hw⟩ : ∃ w', w' = (w3.setCell ⟨g6, 13, none⟩ (.int .i64 t1)) := ⟨_, rfl⟩
  have hk : Keeps [g6] w3 w4 := by rw [hw]; exact (Keeps.refl _ _).setCell (by simp) _
  have H4 : Hid (RmAt w w4 p g0 g6 #[.int .i64 k, .int .i64 0, .int .i64 0, .int .i64 0, .int .i64 0, .int .i64 0, .slice none 0 0, .string ⟨#[]⟩, .int .i64 0, .int .i64 0, .int .i64 0, .int .i64 0, .int .u64 0, .int .i64 t1, .int .i64 0, .slice none 0 0, .int .i64 0, .int .i64 0]) := by show RmAt _ _ _ _ _ _; rw [hw]; exact (by simpa using (H3.out.set 13 (.int .i64 t1)) : RmAt w _ p g0 g6 _)
  have HA4 := Lib.hid (HA3.out.keep hk (by simp) H3.out.pin)
  have Hk4 := Lib.hid hk
  have Hw := Lib.hid hw
  clear hk hw
  go_upto_region 12 with (fail)
  rw [← Hw.out]
  clear Hw q0 q1 q2 q3 q4 q5 q6 q7 q8 q9 qa qb qc qd qe qf qg qh qz H3
  go_upto_region 21 with (fail)
  go_wp2_with (first | (refine wpList_load_mid rfl 68 (.tmp 6) rfl g6 0 rfl _ _ (blk_range H4.out.b6) Tryz.underlying68 rfl (by kernel_rfl) ?_) | (refine wpList_store_blk rfl 68 (.tmp 4) (.tmp 70) rfl g0 0 68 zeroR #[.int .i64 k, .int .i64 0, .int .i64 0, .int .i64 0, .int .i64 0, .int .i64 0, .slice none 0 0, .string ⟨#[]⟩, .int .i64 0, .int .i64 0, .int .i64 0, .int .i64 0, .int .u64 0, .int .i64 t1, .int .i64 0, .slice none 0 0, .int .i64 0, .int .i64 0] #[.int .i64 k, .int .i64 0, .int .i64 0, .int .i64 0, .int .i64 0, .int .i64 0, .slice none 0 0, .string ⟨#[]⟩, .int .i64 0, .int .i64 0, .int .i64 0, .int .i64 0, .int .u64 0, .int .i64 t1, .int .i64 0, .slice none 0 0, .int .i64 0, .int .i64 0] rfl rfl H4.out.b0 (by show 0 + 18 ≤ 18; omega) rfl (by kernel_rfl) rfl ?_; intro wz hkz hBz; have Hkz := Lib.hid hkz; have HBz := Lib.hid hBz; clear hkz hBz))
  refine bodyPost_ret (results_cell2 rfl _ _ g0 68 #[.int .i64 k, .int .i64 0, .int .i64 0, .int .i64 0, .int .i64 0, .int .i64 0, .slice none 0 0, .string ⟨#[]⟩, .int .i64 0, .int .i64 0, .int .i64 0, .int .i64 0, .int .u64 0, .int .i64 t1, .int .i64 0, .slice none 0 0, .int .i64 0, .int .i64 0] _ rfl HBz.out Tryz.underlying68 rfl (by kernel_rfl)) rfl ?_
  exact mrd_fin H4.out Hkz.out R (.slice none 0 0) (.slice none 0 0) (by rw [HR.out]; rfl) (by rw [HR.out]; rfl) (fun M hM => by rw [HR.out]; exact ⟨Ds.nil _ _, Ens.nil _ _⟩) (fun ht => by rw [HR.out] at ht ⊢; exact HA4.out)
theorem mread_any (k : Nat) (p : Nat) (l : List UInt8) (b : Bool) (mx : Int) (w : World) (h : RdAt w [] p l b) (hl : l.length < 4294967281) (hm : w.cell? ⟨0, 0, none⟩ = some (.int .i64 mx)) (hp0 : p ≠ 0) :
    Calls Tryz.prog 103 #[.pointer (some ⟨p, 0, none⟩), .int .i64 k] w fun e w' => MRd p (mreadS k l b) w e w' := by
  by_cases h1 : k = 1
  · subst h1; exact mread_1 p l b mx w h hl hm hp0
  by_cases h2 : k = 2
  · subst h2; exact mread_2 p l b mx w h hl hm hp0
  by_cases h4 : k = 4
  · subst h4; exact mread_4 p l b mx w h hl hm hp0
  by_cases h5 : k = 5
  · subst h5; exact mread_5 p l b mx w h hl hm hp0
  by_cases h6 : k = 6
  · subst h6; exact mread_6 p l b mx w h hl hm hp0
  exact mread_o k p l b mx w h hl hm hp0 h1 h2 h4 h5 h6
end Go.Proofs.YtinnifhnabncfaaGreatDoor.Vi
end
/- Contract of mail.Read. -/
section
namespace Go.Proofs.YtinnifhnabncfaaGreatDoor.Vi
open Go.RowKit Base Mem Go.Shelf
def mReadS (l : List UInt8) : MsgD × Nat :=
  match readF l with
  | none => (zeroM, 12)
  | some (x, n) => if n ≠ l.length then (zeroM, 12) else
    if (mreadS (byteS x false).1.toNat (byteS x false).2.1 (byteS x false).2.2).2.1 = true ∧ (!(mreadS (byteS x false).1.toNat (byteS x false).2.1 (byteS x false).2.2).2.2.2 && (mreadS (byteS x false).1.toNat (byteS x false).2.1 (byteS x false).2.2).2.2.1.isEmpty) = true ∧ mrightS (mreadS (byteS x false).1.toNat (byteS x false).2.1 (byteS x false).2.2).1 = 0
      then ((mreadS (byteS x false).1.toNat (byteS x false).2.1 (byteS x false).2.2).1, 0) else (zeroM, 12)
theorem readF_len {l x : List UInt8} {n : Nat} (h : readF l = some (x, n)) : x.length ≤ 65536 := by
  unfold readF at h
  split at h
  · cases h
  · rename_i hc
    split at h
    · injection h with h; injection h with h1 h2
      rw [← h1, List.length_take]
      omega
    · cases h
theorem short_zero : Short zeroD := ⟨by show (0 : Nat) < _; omega, by simp [zeroD], by simp [zeroD]⟩
theorem readE_short (l : List UInt8) (h : l.length < 4294967281) : Short (readE l).1 := by
  unfold readE
  split
  · exact (readH_short l h).1
  · exact short_zero
theorem getEs_short : ∀ (k : Nat) (l : List UInt8) (b : Bool), l.length < 4294967281 → ∀ es, (getEs k l b).1 = some es → es.length = k ∧ ∀ e ∈ es, Short e
  | 0, l, b, _, es, h => by
    injection h with h; subst h; simp
  | k + 1, l, b, hl, es, h => by
    have ht := textS_len l b
    unfold getEs at h
    split at h
    · cases h
    · have ih := getEs_short k (textS l b).2.1 (textS l b).2.2 (by omega)
      generalize getEs k (textS l b).2.1 (textS l b).2.2 = G at *
      obtain ⟨_ | fs, s⟩ := G
      · cases h
      · simp only [preE] at h
        injection h with h; subst h
        obtain ⟨h1, h2⟩ := ih fs rfl
        refine ⟨by simp [h1], fun e he => ?_⟩
        rcases List.mem_append.1 he with he | he
        · simp at he; subst he; exact readE_short _ (by omega)
        · exact h2 e he
theorem mgetS_short (l : List UInt8) (b : Bool) (hl : l.length < 4294967281) : ((mgetS l b).1.getD []).length ≤ 128 ∧ ∀ e ∈ (mgetS l b).1.getD [], Short e := by
  have h1 := countS_len l b 128
  have h2 := countS_most l b 128
  have h := getEs_short (countS l b 128).1 (countS l b 128).2.1 (countS l b 128).2.2 (by omega)
  unfold mgetS
  generalize getEs (countS l b 128).1 (countS l b 128).2.1 (countS l b 128).2.2 = G at *
  obtain ⟨_ | es, s⟩ := G
  · simp
  · obtain ⟨h3, h4⟩ := h es rfl
    exact ⟨by show es.length ≤ 128; omega, h4⟩
theorem mreadS_short (k : Nat) (l : List UInt8) (b : Bool) (hl : l.length < 4294967281) : MShort (mreadS k l b).1 := by
  have ht := textS_len l b
  have hi := intS_len l b
  unfold mreadS
  split
  · exact ⟨readE_short _ (by omega), by simp, by simp⟩
  split
  · exact ⟨short_zero, by simp, by simp⟩
  split
  · have h2 := intS_len (intS l b).2.1 (intS l b).2.2
    have := mgetS_short (intS (intS l b).2.1 (intS l b).2.2).2.1 (intS (intS l b).2.1 (intS l b).2.2).2.2 (by omega)
    exact ⟨short_zero, Nat.le_trans this.1 (by omega), this.2⟩
  split
  · have h2 := countS_len (intS l b).2.1 (intS l b).2.2 128
    have := mgetS_short (countS (intS l b).2.1 (intS l b).2.2 128).2.1 (countS (intS l b).2.1 (intS l b).2.2 128).2.2 (by omega)
    exact ⟨short_zero, Nat.le_trans this.1 (by omega), this.2⟩
  split
  · exact ⟨short_zero, by simp, by simp⟩
  · exact ⟨short_zero, by simp, by simp⟩
def MReadP (R : MsgD × Nat) (w : World) (e : Ending) (w' : World) : Prop := ∃ dv lv, e = .returned (.tuple #[.agg (mCell R.1 dv lv).toArray, .int .i64 R.2]) ∧ (∀ M, (∀ g ∈ M, g < w.heap.size) → MsgAt w' M R.1 dv lv) ∧ Below w.heap.size w w'
theorem mbad {R : MsgD × Nat} {w w1 wz : World} {g0 : Nat} (hR : R = (zeroM, 12)) (hk : Keeps [] w w1) (hz : Keeps [g0] w1 wz) (hg : g0 = w.heap.size) : MReadP R w (.returned (.tuple #[.agg #[.int .i64 0, .int .i64 0, .int .i64 0, .int .i64 0, .int .i64 0, .int .i64 0, .slice none 0 0, .string ⟨#[]⟩, .int .i64 0, .int .i64 0, .int .i64 0, .int .i64 0, .int .u64 0, .int .i64 0, .int .i64 0, .slice none 0 0, .int .i64 0, .int .i64 0], .int .i64 12])) wz := by
  subst hR
  exact ⟨.slice none 0 0, .slice none 0 0, rfl, fun M _ => ⟨Ds.nil _ _, Ens.nil _ _⟩, (hk.trans hz (by intro x hx; simp at hx; right; omega) : Keeps [] w wz).below⟩
set_option maxRecDepth 100000 in
set_option maxHeartbeats 1000000 in
theorem mRead_any (v : Value) (l : List UInt8) (mx : Int) (w : World) (h : Bs w [] v l) (hl : l.length ≤ 4611686018427387000) (hm : w.cell? ⟨0, 0, none⟩ = some (.int .i64 mx)) :
    Calls Tryz.prog 53 #[v] w fun e w' => MReadP (mReadS l) w e w' := by
  have hw0 : 0 < w.heap.size := by
    have := World.block_lt_of_cell? w _ hm
    simpa using this
  have hkeepm : Hid (∀ W, Keeps [] w W → W.cell? ⟨0, 0, none⟩ = some (.int .i64 mx)) := fun W hb => (hb.cell (p := ⟨0, 0, none⟩) hw0 (by simp)).trans hm
  have hfl := fun x n (h : readF l = some (x, n)) => readF_len h
  have HR : Hid (mReadS l = match readF l with
    | none => (zeroM, 12)
    | some (x, n) => if n ≠ l.length then (zeroM, 12) else
      if (mreadS (byteS x false).1.toNat (byteS x false).2.1 (byteS x false).2.2).2.1 = true ∧ (!(mreadS (byteS x false).1.toNat (byteS x false).2.1 (byteS x false).2.2).2.2.2 && (mreadS (byteS x false).1.toNat (byteS x false).2.1 (byteS x false).2.2).2.2.1.isEmpty) = true ∧ mrightS (mreadS (byteS x false).1.toNat (byteS x false).2.1 (byteS x false).2.2).1 = 0
        then ((mreadS (byteS x false).1.toNat (byteS x false).2.1 (byteS x false).2.2).1, 0) else (zeroM, 12)) := rfl
  obtain ⟨A, c, rfl, hc⟩ := h.len
  have H := Lib.hid h
  have hfr := Lib.hid (fun W (hk : Keeps [] w W) => framer_any _ l W (H.out.keep hk (by simp)) hl)
  generalize mReadS l = R at *
  clear h hm
  go_enter Tryz.func53, Tryz.ntmps53
  go_upto_region 1 with (fail)
  obtain ⟨w1, hw1⟩ : ∃ w1, w1 = w.alloc (.cells #[.int .i64 0, .int .i64 0, .int .i64 0, .int .i64 0, .int .i64 0, .int .i64 0, .slice none 0 0, .string ⟨#[]⟩, .int .i64 0, .int .i64 0, .int .i64 0, .int .i64 0, .int .u64 0, .int .i64 0, .int .i64 0, .slice none 0 0, .int .i64 0, .int .i64 0] 68) := ⟨_, rfl⟩
  rw [← hw1]
  have hK1 : Keeps [] w w1 := by rw [hw1]; exact (Keeps.refl _ _).alloc _
  have hB1 : Blk w1 w.heap.size 68 zeroR := by rw [hw1]; exact Blk.new w _ _
  obtain ⟨g0, hg0⟩ : ∃ g0, g0 = w.heap.size := ⟨_, rfl⟩
  rw [← hg0] at hB1 ⊢
  have hg1 : g0 < w1.heap.size := hB1.lt
  have hF := Lib.hid (hfr.out w1 hK1)
  have HK1 := Lib.hid hK1; have HB1 := Lib.hid hB1; have Hg0 := Lib.hid hg0
  clear hw1 hK1 hB1 hg0 hfr
  go_wp2_with fail
  simp only [FrRead] at hF
  generalize readF l = f at *
  cases f with
  | none =>
    simp only [] at HR hF
    refine hF.out.mono ?_
    rintro e w2 ⟨rfl, hb⟩
    have HB2 := Lib.hid (HB1.out.below hb hg1)
    have HK2 := Lib.hid (HK1.out.trans (Keeps.of_below (M := []) hb) (by simp))
    clear hb HB1 HK1 hF
    go_wp2_with (refine wpList_store_blk rfl 68 (.tmp 2) (.tmp 24) rfl g0 0 68 zeroR #[.int .i64 0, .int .i64 0, .int .i64 0, .int .i64 0, .int .i64 0, .int .i64 0, .slice none 0 0, .string ⟨#[]⟩, .int .i64 0, .int .i64 0, .int .i64 0, .int .i64 0, .int .u64 0, .int .i64 0, .int .i64 0, .slice none 0 0, .int .i64 0, .int .i64 0] #[.int .i64 0, .int .i64 0, .int .i64 0, .int .i64 0, .int .i64 0, .int .i64 0, .slice none 0 0, .string ⟨#[]⟩, .int .i64 0, .int .i64 0, .int .i64 0, .int .i64 0, .int .u64 0, .int .i64 0, .int .i64 0, .slice none 0 0, .int .i64 0, .int .i64 0] rfl rfl HB2.out (by show 0 + 18 ≤ 18; omega) rfl (by kernel_rfl) rfl ?_; intro wz hkz hBz; have Hkz := Lib.hid hkz; have HBz := Lib.hid hBz; clear hkz hBz)
    refine bodyPost_ret (results_cell2 rfl _ _ g0 68 #[.int .i64 0, .int .i64 0, .int .i64 0, .int .i64 0, .int .i64 0, .int .i64 0, .slice none 0 0, .string ⟨#[]⟩, .int .i64 0, .int .i64 0, .int .i64 0, .int .i64 0, .int .u64 0, .int .i64 0, .int .i64 0, .slice none 0 0, .int .i64 0, .int .i64 0] _ rfl HBz.out Tryz.underlying68 rfl (by kernel_rfl)) rfl ?_
    exact mbad (by rw [HR.out]) HK2.out Hkz.out Hg0.out
  | some xn =>
    obtain ⟨x, n⟩ := xn
    have hxl := hfl x n rfl
    simp only [] at HR hF
    refine hF.out.mono ?_
    rintro e w2 ⟨A2, c2, rfl, hS2, hb⟩
    have HB2 := Lib.hid (HB1.out.below hb hg1)
    have HK2 := Lib.hid (HK1.out.trans (Keeps.of_below (M := []) hb) (by simp))
    have HS2 := Lib.hid (hS2 [g0] (by intro x hx; simp at hx; omega))
    clear hb HB1 HK1 hF hS2 hfl
    by_cases hn : n = l.length
    · subst hn
      have HR2 : Hid (R = _) := HR.out.trans (if_neg (by simp))
      clear HR
      have hby := byteS_len x false
      go_wp2_with fail
      refine (new_any [g0] _ x w2 HS2.out (by omega)).mono ?_
      rintro e w3 ⟨rfl, hA3, hb3⟩
      have hg2 := HB2.out.lt
      have HB3 := Lib.hid (HB2.out.below hb3 hg2)
      have HK3 := Lib.hid (HK2.out.trans (Keeps.of_below (M := []) hb3) (by simp))
      have hpw := HK2.out.size
      have hby2 := Lib.hid (byte_any [g0] w2.heap.size x false w3 hA3)
      generalize w2.heap.size = p at *
      clear hA3 hb3 HB2 HK2 HS2
      generalize byteS x false = y at *
      obtain ⟨y1, y2, y3⟩ := y
      simp only [] at HR2 hby hby2
      go_wp2_with fail
      refine hby2.out.mono ?_
      rintro e w4 ⟨rfl, hA4, hk4⟩
      have HB4 := Lib.hid (hk4.blk HB3.out (by simp; omega))
      have HK4 : Hid (Keeps [] w w4) := HK3.out.trans hk4 (by intro q hq; simp at hq; right; omega)
      have hsh := mreadS_short y1.toNat y2 y3 (by omega)
      have hmr := Lib.hid (mread_any y1.toNat p y2 y3 mx w4 (hA4.avoid (by simp)) (by omega) (hkeepm.out w4 HK4.out) (by omega))
      clear hA4 hk4 hby2 HB3 HK3
      simp only [bV]
      have hk256 := UInt8.toNat_lt y1
      generalize y1.toNat = k at *
      have hwk : IntKind.i64.wrap (k : Int) = (k : Int) := by rw [IntKind.wrap_i64]; omega
      generalize mreadS k y2 y3 = r at *
      obtain ⟨m, okb, z2, z3⟩ := r
      simp only [] at HR2 hsh
      go_wp2_with fail
      refine hmr.out.mono ?_
      rintro e w5 ⟨dv, lv, rfl, hM, hA5, hk5⟩
      simp only [] at hM hA5
      have hri := Lib.hid (fun W (hk : Keeps [] w5 W) (hkw : Keeps [] w W) => mright_any m dv lv mx W ((hM [] (by simp)).keep hk (by simp)) hsh (hkeepm.out W hkw))
      have HB5 := Lib.hid (hk5.blk HB4.out (by simp; omega))
      have HK5 : Hid (Keeps [] w w5) := HK4.out.trans hk5 (by intro q hq; simp at hq; right; omega)
      have h45 := hk5.size; have h04 := HK4.out.size; have h44 := HB4.out.lt
      obtain ⟨Aa, na, rfl, _⟩ := (hM [] (by simp)).1.len
      obtain ⟨Ba, ka, rfl, _⟩ := (hM [] (by simp)).2.len
      have HM5 := Lib.hid hM; have HA5 := Lib.hid hA5
      clear hM hA5 hk5 hmr HB4 HK4 hsh
      generalize mrightS m = mr at *
      have Hfin : Hid (∀ wz, Keeps [g0] w5 wz → MReadP (m, 0) w (.returned (.tuple #[.agg (mCell m (.slice Aa m.en.ds.length na) (.slice Ba m.log.length ka)).toArray, .int .i64 0])) wz) := fun wz hk =>
        ⟨_, _, rfl, fun M hM => ((HM5.out (g0 :: M) (by intro q hq; have := Hg0.out; rcases List.mem_cons.1 hq with rfl | hq; omega; have := hM q hq; omega)).keep hk (by simp)).avoid (fun q hq => .inl (List.mem_cons_of_mem _ hq)), (HK5.out.trans hk (by intro q hq; simp at hq; right; have := Hg0.out; omega) : Keeps [] w wz).below⟩
      clear HM5
      obtain ⟨kd, ⟨kind, ag, sh, seq, ep, ds, ser, fr, etg⟩, tag, code, nn, term, had, log, commit, len⟩ := m
      simp only [mCell, eCell, List.cons_append, List.nil_append] at hri Hfin ⊢
      cases okb with
      | false =>
        go_wp2_with (first | (refine wpList_store_blk rfl 68 (.tmp 8) (.tmp 33) rfl w5.heap.size 0 68 _ #[.int .i64 kd, .int .i64 kind, .int .i64 ag, .int .i64 sh, .int .i64 seq, .int .i64 ep, .slice Aa ds.length na, .string ser, .int .i64 fr, .int .i64 etg, .int .i64 tag, .int .i64 code, .int .u64 nn, .int .i64 term, .int .i64 had, .slice Ba log.length ka, .int .i64 commit, .int .i64 len] #[.int .i64 kd, .int .i64 kind, .int .i64 ag, .int .i64 sh, .int .i64 seq, .int .i64 ep, .slice Aa ds.length na, .string ser, .int .i64 fr, .int .i64 etg, .int .i64 tag, .int .i64 code, .int .u64 nn, .int .i64 term, .int .i64 had, .slice Ba log.length ka, .int .i64 commit, .int .i64 len] rfl rfl (Blk.new _ _ _) (by show 0 + 18 ≤ 18; omega) rfl (by kernel_rfl) rfl ?_; intro w6 hk6 hB6; have hkk : Keeps [] w5 w6 := ((Keeps.refl _ _).alloc _).trans hk6 (by intro q hq; simp at hq; right; omega); have HK6 := Lib.hid (HK5.out.trans hkk (by simp)); have HB6 := Lib.hid (hkk.blk HB5.out (by simp)); have HB8 := Lib.hid hB6; have Hkk := Lib.hid hkk; clear hk6 hB6) | (refine wpList_store_blk rfl 68 (.tmp 2) (.tmp 47) rfl g0 0 68 zeroR #[.int .i64 0, .int .i64 0, .int .i64 0, .int .i64 0, .int .i64 0, .int .i64 0, .slice none 0 0, .string ⟨#[]⟩, .int .i64 0, .int .i64 0, .int .i64 0, .int .i64 0, .int .u64 0, .int .i64 0, .int .i64 0, .slice none 0 0, .int .i64 0, .int .i64 0] #[.int .i64 0, .int .i64 0, .int .i64 0, .int .i64 0, .int .i64 0, .int .i64 0, .slice none 0 0, .string ⟨#[]⟩, .int .i64 0, .int .i64 0, .int .i64 0, .int .i64 0, .int .u64 0, .int .i64 0, .int .i64 0, .slice none 0 0, .int .i64 0, .int .i64 0] rfl rfl HB6.out (by show 0 + 18 ≤ 18; omega) rfl (by kernel_rfl) rfl ?_; intro wz hkz hBz; have Hkz := Lib.hid hkz; have HBz := Lib.hid hBz; clear hkz hBz))
        refine bodyPost_ret (results_cell2 rfl _ _ g0 68 #[.int .i64 0, .int .i64 0, .int .i64 0, .int .i64 0, .int .i64 0, .int .i64 0, .slice none 0 0, .string ⟨#[]⟩, .int .i64 0, .int .i64 0, .int .i64 0, .int .i64 0, .int .u64 0, .int .i64 0, .int .i64 0, .slice none 0 0, .int .i64 0, .int .i64 0] _ rfl HBz.out Tryz.underlying68 rfl (by kernel_rfl)) rfl ?_
        exact mbad (by rw [HR2.out, if_neg (by simp)]) HK6.out Hkz.out Hg0.out
      | true =>
        go_wp2_with (refine wpList_store_blk rfl 68 (.tmp 8) (.tmp 33) rfl w5.heap.size 0 68 _ #[.int .i64 kd, .int .i64 kind, .int .i64 ag, .int .i64 sh, .int .i64 seq, .int .i64 ep, .slice Aa ds.length na, .string ser, .int .i64 fr, .int .i64 etg, .int .i64 tag, .int .i64 code, .int .u64 nn, .int .i64 term, .int .i64 had, .slice Ba log.length ka, .int .i64 commit, .int .i64 len] #[.int .i64 kd, .int .i64 kind, .int .i64 ag, .int .i64 sh, .int .i64 seq, .int .i64 ep, .slice Aa ds.length na, .string ser, .int .i64 fr, .int .i64 etg, .int .i64 tag, .int .i64 code, .int .u64 nn, .int .i64 term, .int .i64 had, .slice Ba log.length ka, .int .i64 commit, .int .i64 len] rfl rfl (Blk.new _ _ _) (by show 0 + 18 ≤ 18; omega) rfl (by kernel_rfl) rfl ?_; intro w6 hk6 hB6; have hkk : Keeps [] w5 w6 := ((Keeps.refl _ _).alloc _).trans hk6 (by intro q hq; simp at hq; right; omega); have HK6 := Lib.hid (HK5.out.trans hkk (by simp)); have HB6 := Lib.hid (hkk.blk HB5.out (by simp)); have HB8 := Lib.hid hB6; have Hkk := Lib.hid hkk; clear hk6 hB6; have HA6 := Lib.hid ((HA5.out rfl).keep hkk (by simp) (by simp)))
        refine (done_any [] p z2 z3 w6 HA6.out).mono ?_
        rintro e w7 ⟨rfl, rfl⟩
        cases hd : (!z3 && z2.isEmpty) with
        | false =>
          go_wp2_with (refine wpList_store_blk rfl 68 (.tmp 2) (.tmp 47) rfl g0 0 68 zeroR #[.int .i64 0, .int .i64 0, .int .i64 0, .int .i64 0, .int .i64 0, .int .i64 0, .slice none 0 0, .string ⟨#[]⟩, .int .i64 0, .int .i64 0, .int .i64 0, .int .i64 0, .int .u64 0, .int .i64 0, .int .i64 0, .slice none 0 0, .int .i64 0, .int .i64 0] #[.int .i64 0, .int .i64 0, .int .i64 0, .int .i64 0, .int .i64 0, .int .i64 0, .slice none 0 0, .string ⟨#[]⟩, .int .i64 0, .int .i64 0, .int .i64 0, .int .i64 0, .int .u64 0, .int .i64 0, .int .i64 0, .slice none 0 0, .int .i64 0, .int .i64 0] rfl rfl HB6.out (by show 0 + 18 ≤ 18; omega) rfl (by kernel_rfl) rfl ?_; intro wz hkz hBz; have Hkz := Lib.hid hkz; have HBz := Lib.hid hBz; clear hkz hBz)
          refine bodyPost_ret (results_cell2 rfl _ _ g0 68 #[.int .i64 0, .int .i64 0, .int .i64 0, .int .i64 0, .int .i64 0, .int .i64 0, .slice none 0 0, .string ⟨#[]⟩, .int .i64 0, .int .i64 0, .int .i64 0, .int .i64 0, .int .u64 0, .int .i64 0, .int .i64 0, .slice none 0 0, .int .i64 0, .int .i64 0] _ rfl HBz.out Tryz.underlying68 rfl (by kernel_rfl)) rfl ?_
          exact mbad (by rw [HR2.out, if_neg (by simp [hd])]) HK6.out Hkz.out Hg0.out
        | true =>
          have hr6 := Lib.hid (hri.out w6 Hkk.out HK6.out)
          clear hri
          go_wp2_with (refine wpList_load_g rfl 68 (.tmp 8) rfl w5.heap.size 0 rfl _ _ (blk_range HB8.out) Tryz.underlying68 rfl (by kernel_rfl) ?_)
          refine hr6.out.mono ?_
          rintro e w7 ⟨rfl, hb7⟩
          have HK7 := Lib.hid (HK6.out.trans (Keeps.of_below (M := []) hb7) (by simp))
          have Hkk7 := Lib.hid (Hkk.out.trans (Keeps.of_below (M := []) hb7) (by simp))
          have HB7 := Lib.hid (HB6.out.below hb7 HB6.out.lt)
          have HB9 := Lib.hid (HB8.out.below hb7 HB8.out.lt)
          clear hb7 HK6 Hkk HB6 HB8 hr6
          by_cases hmz : mr = 0
          · subst hmz
            go_wp2_with (first | (refine wpList_load_mid rfl 68 (.tmp 8) rfl w5.heap.size 0 rfl _ _ (blk_range HB9.out) Tryz.underlying68 rfl (by kernel_rfl) ?_) | (refine wpList_store_blk rfl 68 (.tmp 2) (.tmp 48) rfl g0 0 68 zeroR #[.int .i64 kd, .int .i64 kind, .int .i64 ag, .int .i64 sh, .int .i64 seq, .int .i64 ep, .slice Aa ds.length na, .string ser, .int .i64 fr, .int .i64 etg, .int .i64 tag, .int .i64 code, .int .u64 nn, .int .i64 term, .int .i64 had, .slice Ba log.length ka, .int .i64 commit, .int .i64 len] #[.int .i64 kd, .int .i64 kind, .int .i64 ag, .int .i64 sh, .int .i64 seq, .int .i64 ep, .slice Aa ds.length na, .string ser, .int .i64 fr, .int .i64 etg, .int .i64 tag, .int .i64 code, .int .u64 nn, .int .i64 term, .int .i64 had, .slice Ba log.length ka, .int .i64 commit, .int .i64 len] rfl rfl HB7.out (by show 0 + 18 ≤ 18; omega) rfl (by kernel_rfl) rfl ?_; intro wz hkz hBz; have Hkz := Lib.hid hkz; have HBz := Lib.hid hBz; clear hkz hBz))
            refine bodyPost_ret (results_cell2 rfl _ _ g0 68 #[.int .i64 kd, .int .i64 kind, .int .i64 ag, .int .i64 sh, .int .i64 seq, .int .i64 ep, .slice Aa ds.length na, .string ser, .int .i64 fr, .int .i64 etg, .int .i64 tag, .int .i64 code, .int .u64 nn, .int .i64 term, .int .i64 had, .slice Ba log.length ka, .int .i64 commit, .int .i64 len] _ rfl HBz.out Tryz.underlying68 rfl (by kernel_rfl)) rfl ?_
            have := Hfin.out wz ((Hkk7.out.mono (by simp)).trans Hkz.out (by simp) : Keeps [g0] w5 wz)
            rw [HR2.out, if_pos (by simp [hd])]
            exact this
          · have hmn : ((mr : Int) != 0) = true := by simpa using hmz
            go_wp2_with (refine wpList_store_blk rfl 68 (.tmp 2) (.tmp 47) rfl g0 0 68 zeroR #[.int .i64 0, .int .i64 0, .int .i64 0, .int .i64 0, .int .i64 0, .int .i64 0, .slice none 0 0, .string ⟨#[]⟩, .int .i64 0, .int .i64 0, .int .i64 0, .int .i64 0, .int .u64 0, .int .i64 0, .int .i64 0, .slice none 0 0, .int .i64 0, .int .i64 0] #[.int .i64 0, .int .i64 0, .int .i64 0, .int .i64 0, .int .i64 0, .int .i64 0, .slice none 0 0, .string ⟨#[]⟩, .int .i64 0, .int .i64 0, .int .i64 0, .int .i64 0, .int .u64 0, .int .i64 0, .int .i64 0, .slice none 0 0, .int .i64 0, .int .i64 0] rfl rfl HB7.out (by show 0 + 18 ≤ 18; omega) rfl (by kernel_rfl) rfl ?_; intro wz hkz hBz; have Hkz := Lib.hid hkz; have HBz := Lib.hid hBz; clear hkz hBz)
            refine bodyPost_ret (results_cell2 rfl _ _ g0 68 #[.int .i64 0, .int .i64 0, .int .i64 0, .int .i64 0, .int .i64 0, .int .i64 0, .slice none 0 0, .string ⟨#[]⟩, .int .i64 0, .int .i64 0, .int .i64 0, .int .i64 0, .int .u64 0, .int .i64 0, .int .i64 0, .slice none 0 0, .int .i64 0, .int .i64 0] _ rfl HBz.out Tryz.underlying68 rfl (by kernel_rfl)) rfl ?_
            exact mbad (by rw [HR2.out, if_neg (by simp [hmz])]) HK7.out Hkz.out Hg0.out
    · have hnn : ((n : Int) != (l.length : Int)) = true := by simp; omega
      go_wp2_with (refine wpList_store_blk rfl 68 (.tmp 2) (.tmp 24) rfl g0 0 68 zeroR #[.int .i64 0, .int .i64 0, .int .i64 0, .int .i64 0, .int .i64 0, .int .i64 0, .slice none 0 0, .string ⟨#[]⟩, .int .i64 0, .int .i64 0, .int .i64 0, .int .i64 0, .int .u64 0, .int .i64 0, .int .i64 0, .slice none 0 0, .int .i64 0, .int .i64 0] #[.int .i64 0, .int .i64 0, .int .i64 0, .int .i64 0, .int .i64 0, .int .i64 0, .slice none 0 0, .string ⟨#[]⟩, .int .i64 0, .int .i64 0, .int .i64 0, .int .i64 0, .int .u64 0, .int .i64 0, .int .i64 0, .slice none 0 0, .int .i64 0, .int .i64 0] rfl rfl HB2.out (by show 0 + 18 ≤ 18; omega) rfl (by kernel_rfl) rfl ?_; intro wz hkz hBz; have Hkz := Lib.hid hkz; have HBz := Lib.hid hBz; clear hkz hBz)
      refine bodyPost_ret (results_cell2 rfl _ _ g0 68 #[.int .i64 0, .int .i64 0, .int .i64 0, .int .i64 0, .int .i64 0, .int .i64 0, .slice none 0 0, .string ⟨#[]⟩, .int .i64 0, .int .i64 0, .int .i64 0, .int .i64 0, .int .u64 0, .int .i64 0, .int .i64 0, .slice none 0 0, .int .i64 0, .int .i64 0] _ rfl HBz.out Tryz.underlying68 rfl (by kernel_rfl)) rfl ?_
      exact mbad (by rw [HR.out, if_pos hn]) HK2.out Hkz.out Hg0.out
end Go.Proofs.YtinnifhnabncfaaGreatDoor.Vi
end
/- The plain law of mail: a message written is read as itself. -/
section
namespace Go.Proofs.YtinnifhnabncfaaGreatDoor.Vi
open Go.RowKit Base Mem Tape Go.Shelf
theorem textS_blob {e : EntryD} (h : EOk e) (r : List UInt8) : textS (eBlob e ++ r) false = (bytesE e, r, false) := by
  have hb := bytesE_big h
  exact textS_put (bytesE e) r (by omega)
theorem getEs_put (r : List UInt8) : ∀ (es : List EntryD), (∀ e ∈ es, EOk e) → getEs es.length (es.flatMap eBlob ++ r) false = (some es, r, false)
  | [], _ => rfl
  | e :: es, h => by
    have he := h e (by simp)
    rw [List.length_cons, List.flatMap_cons, List.append_assoc, getEs, textS_blob he]
    rw [read_bytes e he.1 he.2.2 he.2.1]
    rw [if_neg (by simp)]
    rw [getEs_put r es (fun x hx => h x (List.mem_cons_of_mem _ hx))]
    rfl
theorem mgetS_put (r : List UInt8) (es : List EntryD) (h : ∀ e ∈ es, EOk e) (hl : es.length ≤ 128) : mgetS (putLog es ++ r) false = (some es, r, false) := by
  have hc : countS (putLog es ++ r) false 128 = (es.length, es.flatMap eBlob ++ r, false) := by
    unfold putLog
    rw [List.append_assoc]
    exact countS_put es.length _ 128 hl (by omega)
  unfold mgetS
  rw [hc]
  exact getEs_put r es h
def restL (m : MsgD) : List UInt8 :=
  if m.kd = 1 then eBlob m.en
  else if m.kd = 2 then Lib.uvarint m.tag.toNat ++ Lib.uvarint m.code.toNat ++ Lib.uvarint m.nn.toNat
  else if m.kd = 4 then Lib.uvarint m.term.toNat ++ Lib.uvarint m.had.toNat ++ putLog m.log
  else if m.kd = 5 then Lib.uvarint m.term.toNat ++ Lib.uvarint m.commit.toNat ++ putLog m.log
  else if m.kd = 6 then Lib.uvarint m.term.toNat ++ Lib.uvarint m.len.toNat
  else Lib.uvarint m.term.toNat
theorem bodyL_rest (m : MsgD) : bodyL m = UInt8.ofNat m.kd.toNat :: restL m := rfl
set_option maxHeartbeats 1000000 in
theorem read_rest (m : MsgD) (hok : MOk m) (hs : MShort m) (hwf : MWf m) : mreadS m.kd.toNat (restL m) false = (m, true, [], false) := by
  have hz : clearM m = zeroM := (sameM_iff _ _).1 hok.zero
  obtain ⟨k1, k6, _, t0, te0, h0, c0, l0, co0, co1, c1, l1, ll, ask, logs⟩ := hok
  obtain ⟨w1, w2, w3, w4, w5, w6, w7⟩ := hwf
  obtain ⟨s1, s2, s3⟩ := hs
  obtain ⟨kd, en, tag, code, nn, term, had, log, commit, len⟩ := m
  simp only [] at *
  have hlog : kd ≠ 1 → ∀ e ∈ log, EOk e := fun hk e he => ⟨logs hk e he, s3 e he, w7 e he⟩
  rcases (show kd = 1 ∨ kd = 2 ∨ kd = 3 ∨ kd = 4 ∨ kd = 5 ∨ kd = 6 by omega) with rfl | rfl | rfl | rfl | rfl | rfl
  · simp [clearM, zeroM] at hz
    obtain ⟨rfl, rfl, rfl, rfl, rfl, rfl, rfl, rfl⟩ := hz
    have hE : EOk en := ⟨ask rfl, s1, w6⟩
    have ht := textS_blob hE []
    rw [List.append_nil] at ht
    show mreadS 1 (eBlob en) false = _
    unfold mreadS
    rw [if_pos rfl, ht, read_bytes en hE.1 hE.2.2 hE.2.1]
    rfl
  · simp [clearM, zeroM] at hz
    obtain ⟨rfl, rfl, rfl, rfl, rfl, rfl⟩ := hz
    obtain ⟨tag, rfl⟩ := Int.eq_ofNat_of_zero_le t0
    obtain ⟨code, rfl⟩ := Int.eq_ofNat_of_zero_le co0
    obtain ⟨nn, rfl⟩ := Int.eq_ofNat_of_zero_le w4
    show mreadS 2 (Lib.uvarint tag ++ Lib.uvarint code ++ Lib.uvarint nn) false = _
    have e3 := numS_put nn [] (by omega)
    rw [List.append_nil] at e3
    simp only [mreadS]
    rw [if_neg (by omega), if_pos trivial, List.append_assoc, intS_put tag _ (by omega)]
    simp only []
    rw [countS_put code _ 255 (by omega) (by omega)]
    simp only []
    rw [e3]
    rfl
  · simp [clearM, zeroM] at hz
    obtain ⟨rfl, rfl, rfl, rfl, rfl, rfl, rfl, rfl⟩ := hz
    obtain ⟨term, rfl⟩ := Int.eq_ofNat_of_zero_le te0
    show mreadS 3 (Lib.uvarint term) false = _
    have e3 := intS_put term [] (by omega)
    rw [List.append_nil] at e3
    simp [mreadS, e3, zeroD]
  · simp [clearM, zeroM] at hz
    obtain ⟨rfl, rfl, rfl, rfl, rfl, rfl⟩ := hz
    obtain ⟨term, rfl⟩ := Int.eq_ofNat_of_zero_le te0
    obtain ⟨had, rfl⟩ := Int.eq_ofNat_of_zero_le h0
    have e3 := mgetS_put [] log (hlog (by decide)) ll
    rw [List.append_nil] at e3
    show mreadS 4 (Lib.uvarint term ++ Lib.uvarint had ++ putLog log) false = _
    simp [mreadS, List.append_assoc, intS_put term _ (show term ≤ 9223372036854775807 by omega), intS_put had _ (show had ≤ 9223372036854775807 by omega), e3, zeroD]
  · simp [clearM, zeroM] at hz
    obtain ⟨rfl, rfl, rfl, rfl, rfl, rfl⟩ := hz
    obtain ⟨term, rfl⟩ := Int.eq_ofNat_of_zero_le te0
    obtain ⟨commit, rfl⟩ := Int.eq_ofNat_of_zero_le c0
    have e3 := mgetS_put [] log (hlog (by decide)) ll
    rw [List.append_nil] at e3
    show mreadS 5 (Lib.uvarint term ++ Lib.uvarint commit ++ putLog log) false = _
    simp [mreadS, List.append_assoc, intS_put term _ (show term ≤ 9223372036854775807 by omega), countS_put commit _ 128 (by omega) (by omega), e3, zeroD]
  · simp [clearM, zeroM] at hz
    obtain ⟨rfl, rfl, rfl, rfl, rfl, rfl, rfl⟩ := hz
    obtain ⟨term, rfl⟩ := Int.eq_ofNat_of_zero_le te0
    obtain ⟨len, rfl⟩ := Int.eq_ofNat_of_zero_le l0
    have e3 := countS_put len [] 128 (by omega) (by omega)
    rw [List.append_nil] at e3
    show mreadS 6 (Lib.uvarint term ++ Lib.uvarint len) false = _
    simp [mreadS, intS_put term _ (show term ≤ 9223372036854775807 by omega), e3, zeroD]
/-- What is written is read. -/
theorem mread_put (m : MsgD) (hr : mrightS m = 0) (hs : MShort m) (hwf : MWf m) (hl : (bodyL m).length ≤ 65536) : mReadS (frameL (bodyL m)) = (m, 0) := by
  have hok := mright_ok hr
  have h := readF_put (bodyL m) [] hl
  rw [List.append_nil] at h
  have hb : byteS (bodyL m) false = (UInt8.ofNat m.kd.toNat, restL m, false) := by rw [bodyL_rest]; rfl
  have hk : (UInt8.ofNat m.kd.toNat).toNat = m.kd.toNat := by
    have := hok.k6
    rw [UInt8.toNat_ofNat']
    omega
  unfold mReadS
  rw [h]
  simp only []
  rw [if_neg (by simp), hb]
  simp only []
  rw [hk, read_rest m hok hs hwf]
  simp [hr]
/-- Bytes are equal where messages are. -/
theorem mbytes_same {a b : MsgD} (ha : mrightS a = 0) (hb : mrightS b = 0) (sa : MShort a) (sb : MShort b) (wa : MWf a) (wb : MWf b) (la : (bodyL a).length ≤ 65536) (lb : (bodyL b).length ≤ 65536) :
    frameL (bodyL a) = frameL (bodyL b) ↔ sameM a b = true := by
  rw [sameM_iff]
  constructor
  · intro h
    have h1 := mread_put a ha sa wa la
    rw [h, mread_put b hb sb wb lb] at h1
    injection h1 with h1 _
    exact h1.symm
  · rintro rfl; rfl
end Go.Proofs.YtinnifhnabncfaaGreatDoor.Vi
end
/- A tape's message is right, and its bytes are few. -/
section
namespace Go.Proofs.YtinnifhnabncfaaGreatDoor.Vi
open Go.RowKit Base Mem Tape Go.Shelf
theorem wf_zero : Wf zeroD := ⟨by simp [zeroD], by simp [zeroD], by simp [zeroD], by simp [zeroD]⟩
theorem logRight_zero : ∀ (l : List EntryD), (∀ e ∈ l, EntryOk e) → logRight l = 0
  | [], _ => rfl
  | e :: l, h => by
    rw [logRight, if_pos (entry_right (h e (by simp))).1]
    exact logRight_zero l (fun x hx => h x (List.mem_cons_of_mem _ hx))
theorem blob_len {e : EntryD} (h : EntryOk e) : (eBlob e).length ≤ 1210 := by
  have h1 := bytesE_len h
  have h2 := Lib.uvarint_length64 (x := (bytesE e).length) (by omega)
  unfold eBlob
  rw [List.length_append]
  omega
theorem blobs_len : ∀ (l : List EntryD), (∀ e ∈ l, EntryOk e) → (l.flatMap eBlob).length ≤ l.length * 1210
  | [], _ => by simp
  | e :: l, h => by
    have ih := blobs_len l (fun x hx => h x (List.mem_cons_of_mem _ hx))
    have h1 := blob_len (h e (by simp))
    rw [List.flatMap_cons, List.length_append, List.length_cons]
    omega
theorem msg_short {m : MsgD} (h : MsgOk m) : MShort m := by
  obtain ⟨he, hl, hl4, _⟩ := h
  refine ⟨?_, by omega, fun e hx => (entry_right (hl e hx)).2.1⟩
  rcases he with he | he
  · rw [he]; exact short_zero
  · exact (entry_right he).2.1
theorem msg_wf {m : MsgD} (h : MsgOk m) : MWf m := by
  obtain ⟨he, hl, hl4, h1, h2, h3, h4, h5, h6, h7, h8, _⟩ := h
  refine ⟨by omega, by omega, by omega, by omega, by omega, ?_, fun e hx => (entry_right (hl e hx)).2.2⟩
  rcases he with he | he
  · rw [he]; exact wf_zero
  · exact (entry_right he).2.2
theorem msg_right {m : MsgD} (h : MsgOk m) : mrightS m = 0 := by
  obtain ⟨he, hl, hl4, h1, h2, h3, h4, h5, h6, h7, h8, hz, _, hk1⟩ := h
  have hb : bad2 m = false := by simp [bad2]; omega
  unfold mrightS
  rw [if_neg (by rw [hz]; simp; omega), hb, if_neg (by simp), if_neg (by omega)]
  by_cases hk : m.kd = 1
  · rw [if_pos hk]; exact (entry_right (hk1 hk)).1
  · rw [if_neg hk]; exact logRight_zero _ hl
theorem msg_body {m : MsgD} (h : MsgOk m) : (bodyL m).length ≤ 65536 := by
  have hs := msg_wf h
  obtain ⟨he, hl, hl4, h1, h2, h3, h4, h5, h6, h7, h8, hz, _, hk1⟩ := h
  have b1 := blobs_len m.log hl
  have u1 := Lib.uvarint_length64 (x := m.tag.toNat) (by omega)
  have u2 := Lib.uvarint_length64 (x := m.code.toNat) (by omega)
  have u3 := Lib.uvarint_length64 (x := m.nn.toNat) (by omega)
  have u4 := Lib.uvarint_length64 (x := m.term.toNat) (by omega)
  have u5 := Lib.uvarint_length64 (x := m.had.toNat) (by omega)
  have u6 := Lib.uvarint_length64 (x := m.commit.toNat) (by omega)
  have u7 := Lib.uvarint_length64 (x := m.len.toNat) (by omega)
  have u8 := Lib.uvarint_length64 (x := m.log.length) (by omega)
  have hp : (putLog m.log).length ≤ 10 + 4 * 1210 := by unfold putLog; rw [List.length_append]; omega
  rw [bodyL_rest, List.length_cons]
  unfold restL
  split
  · rename_i hk
    have := blob_len (hk1 hk)
    omega
  all_goals (try split)
  all_goals (try split)
  all_goals (try split)
  all_goals (try split)
  all_goals (first | omega | (simp only [List.length_append]; omega))
end Go.Proofs.YtinnifhnabncfaaGreatDoor.Vi
end
/- A slice of numbers that came in; a tape made of it; its message. (Not together with Back, which has the first two by the same names.) -/
section
namespace Go.Proofs.YtinnifhnabncfaaGreatDoor.Vi
open Go.RowKit Base Mem Tape Go.Shelf
/-- A slice of numbers that came in. -/
def Nums (w : World) (A : Option Addr) (c : Nat) (l : List Int) : Prop := l.length ≤ c ∧ c ≤ 9223372036854775807 ∧ (0 < l.length → ∃ g off, A = some ⟨g, off, none⟩ ∧ g < w.heap.size ∧ ∀ (j : Nat) (x : Int), l[j]? = some x → w.cell? ⟨g, off + j, none⟩ = some (.int .i64 x))
theorem tape_new {w w1 : World} {A : Option Addr} {c : Nat} {l : List Int} (h : Nums w A c l) (hb : Below w.heap.size w w1) :
    TapeAt (w1.alloc (.cells #[.slice A l.length c, .int .i64 0] 31)) w1.heap.size ⟨l, w.heap.size⟩ 0 := by
  obtain ⟨h1, h2, h3⟩ := h
  refine ⟨Nat.zero_le _, Nat.le_trans h1 h2, hb.size, A, c, Blk.new w1 _ _, h1, fun h0 => ?_⟩
  obtain ⟨g, off, e, hg, hx⟩ := h3 h0
  exact ⟨g, off, e, hg, fun j x hj => ((below_new hb _).cell (p := ⟨g, off + j, none⟩) hg).trans (hx j x hj)⟩
/-- A tape's message, made new. -/
def TMsg (w : World) (e : Ending) (w' : World) : Prop := ∃ (m : MsgD) (dv lv : Value), e = .returned (.agg (mCell m dv lv).toArray) ∧ MsgOk m ∧ (∀ M, (∀ g ∈ M, g < w.heap.size) → MsgAt w' M m dv lv) ∧ Below w.heap.size w w'
theorem tmsg_any {w w1 : World} {A : Option Addr} {c : Nat} {l : List Int} (h : Nums w A c l) (hb : Below w.heap.size w w1) :
    Calls Tryz.prog 43 #[.pointer (some ⟨w1.heap.size, 0, none⟩)] (w1.alloc (.cells #[.slice A l.length c, .int .i64 0] 31)) fun e w' => TMsg w1 e w' := by
  refine (msg_any w1.heap.size ⟨l, w.heap.size⟩ 0 _ (tape_new h hb)).mono ?_
  rintro e w' ⟨m, dv, lv, k', rfl, hok, hD, _, hk⟩
  exact ⟨m, dv, lv, rfl, hok, fun M hM => hD M (fun g hg => by have := hM g hg; simp; omega), (((Keeps.refl (M := []) w1).alloc _).trans hk (by intro g hg; simp at hg; right; omega)).below⟩
end Go.Proofs.YtinnifhnabncfaaGreatDoor.Vi
end
