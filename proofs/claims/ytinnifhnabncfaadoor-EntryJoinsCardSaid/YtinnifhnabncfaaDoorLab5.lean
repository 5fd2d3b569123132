/- Contract of label.Text. -/
import Derived.Test.YtinnifhnabncfaaDoorLab4
import Derived.Test.YtinnifhnabncfaaDoorShelf
namespace Go.Proofs.YtinnifhnabncfaaDoor.Vi
open Go.RowKit Base Mem Go.Sort Go.Shelf
def pairB (x : LabD) : ByteArray := x.name ++ ⟨#[61]⟩ ++ x.value
def joinB (l : List LabD) : ByteArray := ⟨(Lib.join ((l.map pairB).map (·.data.toList)) [44]).toArray⟩
/-- A series of labels; else why not. -/
def ltextS (l : List LabD) : ByteArray × Nat := if rightS l = 0 then (joinB (sortL l), 0) else (⟨#[]⟩, rightS l)
theorem pairB_len (x : LabD) : (pairB x).data.toList.length = x.name.size + 1 + x.value.size := by
  unfold pairB
  rw [ByteArray.data_append, ByteArray.data_append, Array.toList_append, Array.toList_append, List.length_append, List.length_append]
  rfl
theorem join_len (l : List LabD) (h : ∀ x ∈ l, x.name.size ≤ 32 ∧ x.value.size ≤ 32) : (Lib.join ((l.map pairB).map (·.data.toList)) [44]).length ≤ 66 * l.length := by
  induction l with
  | nil => simp [Lib.join_nil]
  | cons a r ih =>
    rw [List.map_cons, List.map_cons, Lib.join_cons]
    have ha := h a (by simp)
    have hp := pairB_len a
    have hr : ∀ (r : List LabD), (∀ x ∈ r, x.name.size ≤ 32 ∧ x.value.size ≤ 32) → (Lib.joinTail [44] ((r.map pairB).map (·.data.toList))).length ≤ 66 * r.length := by
      intro r hr
      induction r with
      | nil => simp [Lib.joinTail]
      | cons b q ihq =>
        have hb := hr b (by simp)
        have hpb := pairB_len b
        have := ihq (fun x hx => hr x (List.mem_cons_of_mem _ hx))
        simp only [Lib.joinTail, List.map_cons, List.flatten_cons, List.length_append, List.length_cons, List.length_nil] at this ⊢
        omega
    have := hr r (fun x hx => h x (List.mem_cons_of_mem _ hx))
    rw [List.length_append, List.length_cons]
    omega
theorem okRow_sizes {s : List LabD} (h : okRow s = true) : ∀ x ∈ s, x.name.size ≤ 32 ∧ x.value.size ≤ 32 := by
  intro x hx
  obtain ⟨i, hi, rfl⟩ := List.getElem_of_mem hx
  unfold okRow at h
  rw [List.all_eq_true] at h
  have h1 := h i (List.mem_range.2 hi)
  unfold itemOk at h1
  rw [getElem!_pos s i hi, Bool.and_eq_true, Bool.and_eq_true] at h1
  have h2 := h1.1.1
  have h3 := h1.1.2
  unfold nameOk at h2 h3
  simp at h2 h3
  omega
theorem infoStr : (Tryd.prog.info? 9).map (fun i => (i.zero, i.size, i.bytes)) = some (some (.string ByteArray.empty), 1, 16) := by kernel_rfl
def TextPost (l : List LabD) (w : World) (e : Ending) (w' : World) : Prop := e = .returned (.tuple #[.string (ltextS l).1, .int .i64 (ltextS l).2]) ∧ Below w.heap.size w w'
set_option maxRecDepth 100000 in
theorem ltext_any (v : Value) (l : List LabD) (w : World) (h : Labs w [] v l) (hl : l.length ≤ 4611686018427387904) :
    Calls Tryd.prog 59 #[v] w fun e w' => TextPost l w e w' := by
  have hri := Lib.hid (lright_any v l w h hl)
  have HT : Hid (ltextS l = if rightS l = 0 then (joinB (sortL l), 0) else (⟨#[]⟩, rightS l)) := rfl
  by_cases hr0 : rightS l = 0
  · have hR : Hid (ltextS l = (joinB (sortL l), 0)) := by show _ = _; rw [HT.out, if_pos hr0]
    have hl8 : l.length ≤ 8 ∧ okRow (sortL l) = true := by
      unfold rightS at hr0
      by_cases h8 : 8 < l.length
      · rw [if_pos h8] at hr0; cases hr0
      · rw [if_neg h8] at hr0
        refine ⟨by omega, ?_⟩
        cases hk : okRow (sortL l) with
        | true => rfl
        | false => rw [hk] at hr0; simp at hr0
    obtain ⟨hl8, hok⟩ := hl8
    have hjl := Lib.hid (join_len (sortL l) (okRow_sizes hok))
    have hsz := Lib.hid (okRow_sizes hok)
    rw [hr0] at hri
    have hso := Lib.hid (fun W (hk : Keeps [] w W) => sorted_any v l W (h.keep hk (by simp)) (by omega))
    obtain ⟨A, c, rfl, hc⟩ := h.len
    have hs8 : (sortL l).length ≤ 8 := by rw [sortL_len]; omega
    have hs0 : 0 < (sortL l).length := by
      rw [sortL_len]
      unfold rightS at hr0
      rw [if_neg (by omega), hok] at hr0
      rcases Nat.eq_zero_or_pos l.length with hz | hz
      · rw [hz] at hr0; simp at hr0
      · exact hz
    clear h HT hr0 hok
    obtain ⟨i0, hi0, hz0, hz1, hz2⟩ := info_parts infoStr
    have Hi0 := Lib.hid hi0; have Hz0 := Lib.hid hz0; have Hz1 := Lib.hid hz1; have Hz2 := Lib.hid hz2
    clear hi0 hz0 hz1 hz2
    generalize sortL l = s at *
    go_enter Tryd.func59, Tryd.ntmps59
    go_wp2_with fail
    refine hri.out.mono ?_
    rintro e w1 ⟨rfl, hb1⟩
    have hso1 := Lib.hid (hso.out w1 (Keeps.of_below hb1))
    have Hb1 := Lib.hid hb1
    clear hb1 hri hso
    go_wp2_with fail
    refine hso1.out.mono ?_
    rintro e w2 ⟨A1, rfl, hA, hb2⟩
    have HA := Lib.hid (hA [] (by simp)); have Hb2 := Lib.hid (below_then Hb1.out hb2)
    clear hA hb2 hso1 Hb1
    go_wp2_with fail
    go_loopw [5, 16] (fun out i wr => ∃ x : Nat, i = .int .i64 x ∧ x ≤ s.length ∧ Hid (wr.ownsRow w2.heap.size 9 1 out x ((s.take x).map fun y => Value.string (pairB y))) ∧ Hid (Below w2.heap.size w2 wr)) (fun _ i _ => s.length - (intOf i).toNat)
    case atStart => exact ⟨0, rfl, by omega, World.ownsRow_nil _ _ _ _, Below.refl _ _⟩
    case round =>
      obtain ⟨x, rfl, hx, Hown, Hbr⟩ := hrel
      by_cases hlt : x < s.length
      · have hx1 : (x : Int) < (s.length : Int) := by omega
        obtain ⟨g, off, _, e1, hg, c0, c1⟩ := (HA.out.keep (Keeps.of_below (M := []) Hbr.out) (by simp)).at_ hlt
        obtain rfl : A1 = some ⟨g, off, none⟩ := by injection e1
        clear e1
        have Htk : Hid (s.take (x + 1) = s.take x ++ [s[x]]) := List.take_succ_eq_append_getElem hlt
        have Hpb : Hid (pairB s[x] = s[x].name ++ ⟨#[61]⟩ ++ s[x].value) := rfl
        have hd32 := hsz.out s[x] (List.getElem_mem _)
        generalize s[x] = d at *
        have k1 : ¬ (9223372036854775807 < d.name.size + 1) := by omega
        have k2 : ¬ (9223372036854775807 < d.name.size + 1 + d.value.size) := by omega
        have k3 : ¬ (9223372036854775807 < (d.name ++ ⟨#[61]⟩).size + d.value.size) := by rw [ByteArray.size_append]; exact k2
        clear hd32
        have Hrd : Hid (Reads ((wr.alloc (.cells #[.string d.name, .string d.value] 97)).alloc (.cells #[.string (d.name ++ ⟨#[61]⟩ ++ d.value)] 9)) (wr.heap.size + 2) 1 (some ⟨wr.heap.size + 1, 0, none⟩) 1 [.string (d.name ++ ⟨#[61]⟩ ++ d.value)]) := by
          have := reads_new (wr.alloc (.cells #[.string d.name, .string d.value] 97)) 9 1 1 [.string (d.name ++ ⟨#[61]⟩ ++ d.value)] rfl
          show Reads _ _ _ _ _ _
          simpa using this
        have Hown3 := Lib.hid ((Hown.out.alloc (.cells #[.string d.name, .string d.value] 97)).alloc (.cells #[.string (d.name ++ ⟨#[61]⟩ ++ d.value)] 9))
        have hz2 : w2.heap.size ≤ wr.heap.size := Hbr.out.size
        have hb0 : w2.heap.size ≤ ((wr.alloc (.cells #[.string d.name, .string d.value] 97)).alloc (.cells #[.string (d.name ++ ⟨#[61]⟩ ++ d.value)] 9)).heap.size := by simp; omega
        have hm1 : x + 1 ≤ maxLen := by unfold maxLen; omega
        have hm2 : (x + 1) * 16 ≤ 140737488355328 := by omega
        have hone : ∀ u ∈ [Value.string (d.name ++ ⟨#[61]⟩ ++ d.value)], u.oneCell' = true := by intro u hu; simp at hu; subst hu; rfl
        have Hb0 := Lib.hid hb0; have Hm1 := Lib.hid hm1; have Hm2 := Lib.hid hm2; have Hone := Lib.hid hone
        clear hb0 hm1 hm2 hone
        go_wp2_with (at_builtin; refine wpList_append_any _ rfl (.tmp 20) (.tmp 27) _ rfl w2.heap.size 9 i0 _ 1 16 Tryd.underlying84 Hi0.out Hz0.out Hz1.out Hz2.out rfl (by omega) u5 x ((s.take x).map fun y => Value.string (pairB y)) rfl Hown3.out (wr.heap.size + 2) (some ⟨wr.heap.size + 1, 0, none⟩) 1 1 [.string (d.name ++ ⟨#[61]⟩ ++ d.value)] rfl Hrd.out Hone.out Hm1.out Hm2.out Hb0.out ?_)
        intro v4 w4 hown4 hg4 hat4
        have Hown4 : Hid (w4.ownsRow w2.heap.size 9 1 v4 (x + 1) ((s.take (x + 1)).map fun y => Value.string (pairB y))) := by
          show World.ownsRow _ _ _ _ _ _ _
          rw [Htk.out, List.map_append, List.map_cons, List.map_nil, Hpb.out, List.map_take]
          exact hown4
        have Hb4 : Hid (Below w2.heap.size w2 w4) := ((Hbr.out.alloc Hbr.out.size _).alloc (by simp; omega) _).grown hg4 (by simp; omega) (fun g hg => (Hown.out.lt g hg).1)
        clear hown4 hg4 hat4
        go_wp2
        go_roundw
        case rel => exact ⟨x + 1, by go_num, by omega, Hown4, Hb4⟩
        case measure => simp [intOf] <;> omega
      · obtain rfl : x = s.length := by omega
        have hrow : ∃ g c, u5 = .slice (some ⟨g, 0, none⟩) s.length c ∧ s.length ≤ c ∧ g < wr.heap.size ∧ ∀ (j : Nat) x, (s.map pairB)[j]? = some x → wr.cell? ⟨g, 0 + j, none⟩ = some (.string x) := by
          have h1 := Hown.out
          rw [List.take_length] at h1
          obtain ⟨g, cap, hv, hge, hgl⟩ := h1.form hs0
          subst hv
          have hrd := Rd.of_own (M := []) h1 (by simp)
          obtain ⟨A', c', he, hc', _, hx⟩ := hrd
          injection he with e1 _ e3
          subst e1 e3
          obtain ⟨g', off', e, _, _, hcell⟩ := hx hs0
          injection e with e
          injection e with e1 e2 _
          subst e1 e2
          refine ⟨g, cap, rfl, hc', hgl, fun j x hjx => hcell j _ ?_⟩
          rw [List.getElem?_map] at hjx ⊢
          cases hsj : s[j]? with
          | none => rw [hsj] at hjx; cases hjx
          | some d => rw [hsj] at hjx; injection hjx with hjx; rw [← hjx]; rfl
        obtain ⟨g, cj, rfl, hcj, hgl, hcell⟩ := hrow
        have hjo := Tryd.strings_Join g 0 cj (s.map pairB) ⟨#[44]⟩ wr hcell hgl (by rw [List.length_map]; omega) (by rw [List.length_map]; exact hcj) (Nat.le_trans hjl.out (by omega))
        rw [List.length_map] at hjo
        have Hjo := Lib.hid (show Calls Tryd.prog 73 #[.slice (some ⟨g, 0, none⟩) s.length cj, .string ⟨#[44]⟩] wr fun e w' => e = .returned (.string (joinB s)) ∧ Below wr.heap.size wr w' from hjo)
        have Hall := Lib.hid (below_then Hb2.out Hbr.out)
        clear hjo hcell
        go_wp2_with fail
        refine Hjo.out.mono ?_
        rintro e w5 ⟨rfl, hb5⟩
        have hp : Hid (TextPost l w (.returned (.tuple #[.string (joinB s), .int .i64 0])) w5) := by
          exact ⟨by rw [hR.out]; rfl, below_then Hall.out hb5⟩
        clear hb5
        go_wp2
        go_ret2
        exact hp.out
  · have hR : Hid (ltextS l = (⟨#[]⟩, rightS l)) := by show _ = _; rw [HT.out, if_neg hr0]
    obtain ⟨A, c, rfl, hc⟩ := h.len
    have hri2 : ((rightS l : Int) != 0) = true := by simpa using hr0
    clear h HT hr0
    have hp : Hid (∀ w1, Below w.heap.size w w1 → TextPost l w (.returned (.tuple #[.string ⟨#[]⟩, .int .i64 (rightS l)])) w1) := fun w1 hb => ⟨by rw [hR.out], hb⟩
    generalize rightS l = r at *
    go_enter Tryd.func59, Tryd.ntmps59
    go_wp2_with fail
    refine hri.out.mono ?_
    rintro e w1 ⟨rfl, hb1⟩
    have Hp := Lib.hid (hp.out _ hb1)
    clear hb1 hp
    go_wp2
    go_ret2
    exact Hp.out
end Go.Proofs.YtinnifhnabncfaaDoor.Vi
