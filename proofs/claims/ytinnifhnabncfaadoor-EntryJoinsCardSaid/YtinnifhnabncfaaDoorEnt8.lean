/- Contract of entry.Get. -/
import Derived.Test.YtinnifhnabncfaaDoorEnt7
namespace Go.Proofs.YtinnifhnabncfaaDoor.Vi
open Go.RowKit Base Mem Go.Shelf
/-- So many deltas from the front, and how the reader stands. -/
def getDs : Nat → List UInt8 → Bool → List DeltaD × List UInt8 × Bool
  | 0, l, b => ([], l, b)
  | k + 1, l, b =>
    let t := textS l b
    let u := numS t.2.1 t.2.2
    let r := getDs k u.2.1 u.2.2
    (⟨⟨t.1.toArray⟩, u.1⟩ :: r.1, r.2)
theorem infoDelta2 : (Tryd.prog.info? 44).map (fun i => (i.zero, i.size, i.bytes)) = some (some (.agg #[.string ByteArray.empty, .int .u64 0]), 2, 24) := by kernel_rfl
def GetPost (M : List Nat) (p n : Nat) (l : List UInt8) (b : Bool) (w : World) (e : Ending) (w' : World) : Prop := ∃ v, e = .returned v ∧ w'.ownsRow w.heap.size 44 2 v n (dCells (getDs n l b).1) ∧ RdAt w' M p (getDs n l b).2.1 (getDs n l b).2.2 ∧ Keeps [p] w w'
set_option maxRecDepth 100000 in
set_option maxHeartbeats 600000 in
theorem get_ds (M : List Nat) (p n : Nat) (l : List UInt8) (b : Bool) (w : World) (h : RdAt w M p l b) (hn : n ≤ 8) :
    Calls Tryd.prog 32 #[.pointer (some ⟨p, 0, none⟩), .int .i64 n] w fun e w' => GetPost M p n l b w e w' := by
  have hp0 := h.lt
  have H := Lib.hid h
  obtain ⟨i0, hi0, hz0, hz1, hz2⟩ := info_parts infoDelta2
  have Hi0 := Lib.hid hi0; have Hz0 := Lib.hid hz0; have Hz1 := Lib.hid hz1; have Hz2 := Lib.hid hz2
  clear h hi0 hz0 hz1 hz2
  go_enter Tryd.func32, Tryd.ntmps32
  go_wp2_with fail
  go_loopw [5, 8] (fun out i wr => ∃ (x : Nat) (acc : List DeltaD) (lx : List UInt8) (bx : Bool), i = .int .i64 x ∧ x ≤ n ∧ acc.length = x ∧ Hid ((getDs n l b) = (acc ++ (getDs (n - x) lx bx).1, (getDs (n - x) lx bx).2)) ∧ Hid (wr.ownsRow w.heap.size 44 2 out x (dCells acc)) ∧ Hid (RdAt wr (out.ownBlock.toList ++ M) p lx bx) ∧ Hid (Keeps [p] w wr)) (fun _ i _ => n - (intOf i).toNat)
  case atStart => exact ⟨0, [], l, b, rfl, by omega, rfl, (show getDs n l b = _ from rfl), World.ownsRow_nil _ _ _ _, (show RdAt w _ p l b from H.out), Keeps.refl _ _⟩
  case round =>
    obtain ⟨x, acc, lx, bx, rfl, hx, hal, Hg, Hown, HR, Hk⟩ := hrel
    by_cases hlt : x < n
    · have hx1 : (x : Int) < (n : Int) := by omega
      have Hst : Hid (getDs (n - x) lx bx = (⟨⟨(textS lx bx).1.toArray⟩, (numS (textS lx bx).2.1 (textS lx bx).2.2).1⟩ :: (getDs (n - (x + 1)) (numS (textS lx bx).2.1 (textS lx bx).2.2).2.1 (numS (textS lx bx).2.1 (textS lx bx).2.2).2.2).1, (getDs (n - (x + 1)) (numS (textS lx bx).2.1 (textS lx bx).2.2).2.1 (numS (textS lx bx).2.1 (textS lx bx).2.2).2.2).2)) := by
        show _ = _
        rw [show n - x = (n - (x + 1)) + 1 by omega]
        rfl
      have ht := Lib.hid (rtext_any (u5.ownBlock.toList ++ M) p lx bx wr HR.out)
      generalize textS lx bx = t at *
      obtain ⟨t1, t2, t3⟩ := t
      simp only [] at ht Hst
      go_wp2_with fail
      refine ht.out.mono ?_
      rintro e w3 ⟨rfl, hA3, hk3⟩
      have hu := Lib.hid (number_any (u5.ownBlock.toList ++ M) p t2 t3 w3 hA3)
      have Hk3 := Lib.hid hk3
      generalize numS t2 t3 = u at *
      obtain ⟨u1, u2', u3'⟩ := u
      simp only [] at hu Hst
      clear hA3 hk3 ht
      go_wp2_with fail
      refine hu.out.mono ?_
      rintro e w4 ⟨rfl, hA4, hk4⟩
      have HA4 := Lib.hid hA4
      have Hk4 : Hid (Keeps [p] wr w4) := Hk3.out.trans hk4 (by simp)
      clear hA4 hk4 hu
      have hown4 := own_keep Hown.out Hk4.out (by simp; exact hp0)
      have Hown5 := Lib.hid (hown4.alloc (.cells #[.string ⟨t1.toArray⟩, .int .u64 u1] 44))
      have hlt0 := Lib.hid Hown.out.lt
      have hz4 : w.heap.size ≤ w4.heap.size := Nat.le_trans Hk.out.size Hk4.out.size
      clear hown4
      go_wp2_with (at_builtin; refine wpList_append_any _ rfl (.tmp 12) (.tmp 17) _ rfl w.heap.size 44 i0 _ 2 24 Tryd.underlying25 Hi0.out Hz0.out Hz1.out Hz2.out rfl (by omega) u5 x (dCells acc) rfl Hown5.out (w4.heap.size + 1) (some ⟨w4.heap.size, 0, none⟩) 1 1 (dCell ⟨⟨t1.toArray⟩, u1⟩) rfl (reads_new _ _ _ _ _ rfl) (by intro u hu; simp [dCell] at hu; rcases hu with rfl | rfl <;> rfl) (by unfold maxLen; omega) (by omega) (by simp; omega) ?_)
      intro v6 w6 hown6 hg6 hat6
      have hpo : p ∉ u5.ownBlock.toList := fun hm => by have := (hlt0.out p (by simpa using hm)).1; omega
      have kg : Keeps u5.ownBlock.toList (w4.alloc (.cells #[.string ⟨t1.toArray⟩, .int .u64 u1] 44)) w6 := (Keeps.refl _ _).grown hg6 (fun g hg => .inl (by simpa using hg))
      have h1 := HA4.out.keep (M' := []) ((Keeps.refl _ _).alloc (.cells #[.string ⟨t1.toArray⟩, .int .u64 u1] 44)) (by simp) (by simp)
      have h2 := h1.avoid (M' := v6.ownBlock.toList ++ (u5.ownBlock.toList ++ M)) (fun g hg => by
        rcases List.mem_append.1 hg with h | h
        · rcases hat6 with h5 | h5
          · exact .inl (List.mem_append_left _ (by rw [h5] at h; exact h))
          · rw [h5] at h; simp at h; exact .inr (by simp; omega)
        · exact .inl h)
      have H6 := Lib.hid ((h2.keep kg (fun g hg => .inl (List.mem_append_right _ (List.mem_append_left _ hg))) hpo).avoid (M' := v6.ownBlock.toList ++ M) (fun g hg => by
        rcases List.mem_append.1 hg with h | h
        · exact .inl (List.mem_append_left _ h)
        · exact .inl (List.mem_append_right _ (List.mem_append_right _ h))))
      have Hk6 : Hid (Keeps [p] w w6) := ((Hk.out.trans Hk4.out (by simp)).alloc _).grown hg6 (fun g hg => .inr (hlt0.out g hg).1)
      have Hown6 : Hid (w6.ownsRow w.heap.size 44 2 v6 (x + 1) (dCells (acc ++ [⟨⟨t1.toArray⟩, u1⟩]))) := by
        show World.ownsRow _ _ _ _ _ _ _
        unfold dCells at hown6 ⊢
        rw [List.flatMap_append]
        simpa using hown6
      have Hg6 : Hid (getDs n l b = ((acc ++ [⟨⟨t1.toArray⟩, u1⟩]) ++ (getDs (n - (x + 1)) u2' u3').1, (getDs (n - (x + 1)) u2' u3').2)) := by
        show _ = _
        rw [Hg.out, Hst.out]; simp
      clear hown6 hg6 hat6 kg h1 h2 hpo
      go_wp2
      go_roundw
      case rel => exact ⟨x + 1, acc ++ [⟨⟨t1.toArray⟩, u1⟩], u2', u3', by go_num, by omega, by simp; omega, Hg6, Hown6, H6, Hk6⟩
      case measure => simp [intOf] <;> omega
    · obtain rfl : x = n := by omega
      have hg := Hg.out
      rw [Nat.sub_self] at hg
      have hp : Hid (GetPost M p x l b w (.returned u5) wr) := by
        refine ⟨u5, rfl, ?_, ?_, Hk.out⟩
        · rw [hg]; simpa [getDs] using Hown.out
        · rw [hg]; exact HR.out.avoid (fun g hg => .inl (List.mem_append_right _ hg))
      clear hg
      go_wp2
      go_ret
      exact hp.out
end Go.Proofs.YtinnifhnabncfaaDoor.Vi
