/- The tapes and the asks that LeadNumbers makes. -/
import Derived.Test.YtinnifhnabncfaaAsk
import Derived.Test.YtinnifhnabncfaaLeadBest
namespace Go.Proofs.Ytinnifhnabncfaa.Lead
open Go.RowKit Base Mem Tape
theorem infoInt : (Try.prog.info? 3).map (fun i => (i.zero, i.size, i.bytes)) = some (some (.int .i64 0), 1, 8) := by kernel_rfl
theorem infoAsk : (Try.prog.info? 64).map (fun i => (i.zero, i.size, i.bytes)) = some (some (.agg #[.int .i64 0, .int .i64 0, .int .i64 0, .int .i64 0, .slice none 0 0]), 5, 56) := by kernel_rfl
def Tape400 (w : World) (e : Ending) (w' : World) : Prop := ∃ (v : Value) (l : List Int), e = .returned v ∧ l.length = 400 ∧ w'.ownsRow w.heap.size 3 1 v 400 (l.map (Value.int .i64)) ∧ Below w.heap.size w w'
set_option maxRecDepth 100000 in
theorem tape_any (k : Nat) (w : World) (hk : k ≤ 40) : Calls Try.prog 21 #[.int .i64 k] w fun e w' => Tape400 w e w' := by
  obtain ⟨i0, hi0, hz0, hz1, hz2⟩ := info_parts infoInt
  have Hi0 := Lib.hid hi0; have Hz0 := Lib.hid hz0; have Hz1 := Lib.hid hz1; have Hz2 := Lib.hid hz2
  clear hi0 hz0 hz1 hz2
  go_enter Try.func21, Try.ntmps21
  go_wp2
  go_loopw [3, 4] (fun out i wr => ∃ (x : Nat) (l : List Int), i = .int .i64 x ∧ x ≤ 400 ∧ Hid (l.length = x) ∧ Hid (wr.ownsRow w.heap.size 3 1 out x (l.map (Value.int .i64))) ∧ Hid (Below w.heap.size w wr)) (fun _ i _ => 400 - (intOf i).toNat)
  case atStart => exact ⟨0, [], rfl, by omega, rfl, World.ownsRow_nil _ _ _ _, Below.refl _ _⟩
  case round =>
    obtain ⟨x, l, rfl, hx, Hl, Hown, Hb⟩ := hrel
    by_cases hx4 : x < 400
    · have hm1 : 0 ≤ (x : Int) * x ∧ (x : Int) * x ≤ 400 * 400 := ⟨Int.mul_nonneg (by omega) (by omega), Int.mul_le_mul (by omega) (by omega) (by omega) (by omega)⟩
      have hm2 : 0 ≤ (x : Int) * k ∧ (x : Int) * k ≤ 400 * 40 := ⟨Int.mul_nonneg (by omega) (by omega), Int.mul_le_mul (by omega) (by omega) (by omega) (by omega)⟩
      have Hown2 := Lib.hid (Hown.out.alloc (.cells #[.int .i64 (((x : Int) * x * 7 + k * 43 + x * k) % 211)] 3))
      go_wp2_with (at_builtin; refine wpList_append_any _ rfl (.tmp 9) (.tmp 22) _ rfl w.heap.size 3 i0 _ 1 8 Try.underlying35 Hi0.out Hz0.out Hz1.out Hz2.out rfl (by omega) u3 x (l.map (Value.int .i64)) rfl Hown2.out (wr.heap.size + 1) (some ⟨wr.heap.size, 0, none⟩) 1 1 [.int .i64 (((x : Int) * x * 7 + k * 43 + x * k) % 211)] rfl (reads_new _ _ _ _ _ rfl) (by intro u hu; simp at hu; subst hu; rfl) (by unfold maxLen; omega) (by omega) (by have := Hb.out.size; simp; omega) ?_)
      intro v' w4 hown4 hg4 hat4
      have Hb4 := Lib.hid (below_step Hb.out (Below.refl _ _) hg4 (fun g hg => (Hown.out.lt g hg).1))
      have Hl4 : Hid ((l ++ [((x : Int) * x * 7 + k * 43 + x * k) % 211]).length = x + 1) := by show _ = _; rw [List.length_append, Hl.out]; rfl
      have Hown4 : Hid (w4.ownsRow w.heap.size 3 1 v' (x + 1) ((l ++ [((x : Int) * x * 7 + k * 43 + x * k) % 211]).map (Value.int .i64))) := by show World.ownsRow _ _ _ _ _ _ _; rw [List.map_append]; exact hown4
      clear hown4 hg4 hat4
      go_wp2
      go_roundw
      case rel => exact ⟨x + 1, _, by go_num, by omega, Hl4, Hown4, Hb4⟩
      case measure => simp [intOf] <;> omega
    · obtain rfl : x = 400 := by omega
      have hp : Tape400 w (.returned u3) wr := ⟨u3, l, rfl, Hl.out, Hown.out, Hb.out⟩
      go_wp2
      go_ret
      exact hp
def sliceLen : Value → Nat
  | .slice _ n _ => n
  | _ => 0
theorem own_slice {w : World} {base n size : Nat} {e : TypeId} {v : Value} {xs : List Value} (h : w.ownsRow base e size v n xs) : ∃ A c, v = .slice A n c ∧ n ≤ c := by
  obtain ⟨A, c, h1, h2, _⟩ := Rd.of_own (M := []) h (by simp)
  exact ⟨A, c, h1, h2⟩
def AsksPost (w : World) (e : Ending) (w' : World) : Prop := ∃ (v : Value) (l : List AskD), e = .returned v ∧ (∀ a ∈ l, Small a.log) ∧ l.length ≤ 1000 ∧ (∀ M, (∀ g ∈ M, g < w.heap.size) → Asks w' M v l) ∧ Below w.heap.size w w'
theorem asks_end {w W wr : World} {bt : Nat} {v : Value} {qs : List (AskD × Value)} (hb0 : Below w.heap.size w W) (hbt : bt = w.heap.size) (hok : ∀ q ∈ qs, Small q.1.log) (hq : qs.length ≤ 1000)
    (hown : wr.ownsRow W.heap.size 64 5 v qs.length (qs.flatMap aCell)) (hds : AsOwn W wr v qs) (hK : Keeps [bt] W wr) (hs : bt < W.heap.size) : AsksPost w (.returned v) wr :=
  ⟨v, qs.map (·.1), rfl, by intro a ha; obtain ⟨q, hq, rfl⟩ := List.mem_map.1 ha; exact hok q hq, by simpa using hq,
    fun M hM => ⟨qs, rfl, Rd.of_own hown (fun g hg => by have := hM g hg; omega), fun p hp => hds p hp M (fun g hg => .inl (by have := hM g hg; omega))⟩, hb0.trans (hK.belowB hb0.size (by simp; omega))⟩
set_option maxRecDepth 100000 in
theorem asks_any (A : Option Addr) (c : Nat) (l : List Int) (n : Int) (w : World) (hlc : l.length ≤ c) (hmx : c ≤ 9223372036854775807) (hn : n ≤ 1000)
    (hl : 0 < l.length → ∃ g off, A = some ⟨g, off, none⟩ ∧ g < w.heap.size ∧ ∀ (j : Nat) (x : Int), l[j]? = some x → w.cell? ⟨g, off + j, none⟩ = some (.int .i64 x)) :
    Calls Try.prog 20 #[.slice A l.length c, .int .i64 n] w fun e w' => AsksPost w e w' := by
  have Hl := Lib.hid hl; have Hmx := Lib.hid hmx
  obtain ⟨i0, hi0, hz0, hz1, hz2⟩ := info_parts infoAsk
  have Hi0 := Lib.hid hi0; have Hz0 := Lib.hid hz0; have Hz1 := Lib.hid hz1; have Hz2 := Lib.hid hz2
  clear hi0 hz0 hz1 hz2 hl hmx
  go_enter Try.func20, Try.ntmps20
  go_wp2_with fail
  have hT : TapeAt (w.alloc (.cells #[.slice A l.length c, .int .i64 0] 44)) w.heap.size ⟨l, w.heap.size⟩ 0 :=
    ⟨Nat.zero_le _, Nat.le_trans hlc Hmx.out, Nat.le_refl _, A, c, Blk.new w _ _, hlc, fun h => by
      obtain ⟨g, off, e, hg, hx⟩ := Hl.out h
      exact ⟨g, off, e, hg, fun j x hj => ((below_new (Below.refl _ _) _).cell (p := ⟨g, off + j, none⟩) hg).trans (hx j x hj)⟩⟩
  have hb0 : Below w.heap.size w (w.alloc (.cells #[.slice A l.length c, .int .i64 0] 44)) := below_new (Below.refl _ _) _
  have hs0 : w.heap.size < (w.alloc (.cells #[.slice A l.length c, .int .i64 0] 44)).heap.size := by simp
  generalize (w.alloc (.cells #[.slice A l.length c, .int .i64 0] 44)) = W at *
  have HT := Lib.hid hT; have Hb0 := Lib.hid hb0
  obtain ⟨bt, hbt⟩ : ∃ b, b = w.heap.size := ⟨_, rfl⟩
  have hL : (⟨l, w.heap.size⟩ : TapeL).l.length = l.length := rfl
  generalize (⟨l, w.heap.size⟩ : TapeL) = L at *
  rw [← hbt] at HT hs0 ⊢
  have Hbt := Lib.hid hbt
  clear hT hb0 hbt
  go_slots
  go_loopw [6] (fun out wr => ∃ (qs : List (AskD × Value)) (k' : Nat), qs.length ≤ 1000 ∧ Hid (∀ q ∈ qs, Small q.1.log) ∧ Hid (wr.ownsRow W.heap.size 64 5 out qs.length (qs.flatMap aCell)) ∧ Hid (AsOwn W wr out qs) ∧ Hid (TapeAt wr bt L k') ∧ Hid (Keeps [bt] W wr))
    (fun out _ => 1000 - sliceLen out)
  case atStart => exact ⟨[], 0, by simp, (show ∀ _, _ from by simp), World.ownsRow_nil _ _ _ _, (show AsOwn _ _ _ _ from by intro q hq; cases hq), HT.out, Keeps.refl _ _⟩
  case round =>
    obtain ⟨qs, k', hq8, Hok, Hown, Hds, HTr, HKr⟩ := hrel
    obtain ⟨A6, c6, hu6, hc6⟩ := own_slice Hown.out
    subst hu6
    obtain ⟨A1, c1', hk0, hk1, hk2⟩ : ∃ A1 c1, wr.cell? ⟨bt, 0, none⟩ = some (.slice A1 l.length c1) ∧ wr.cell? ⟨bt, 1, none⟩ = some (.int .i64 k') ∧ k' ≤ l.length := by
      obtain ⟨h1, h2, h3, A1, c1, hv, hc, hr⟩ := HTr.out
      rw [hL] at hv h1
      exact ⟨A1, c1, hv.cell 0, hv.cell 1, h1⟩
    by_cases hc1 : (qs.length : Int) < n
    · have d1 : decide ((qs.length : Int) < n) = true := by simpa using hc1
      by_cases hc2 : k' < l.length
      · have d2 : decide ((k' : Int) < l.length) = true := by simpa using hc2
        go_wp2_with fail
        refine (next_any bt L k' 3 wr HTr.out).mono ?_
        rintro e w1 ⟨t1, k1, rfl, ht1, _, hT1, hK1⟩
        have HT1 := Lib.hid hT1; have HK1 := Lib.hid (HKr.out.trans hK1 (by simp)); have HR1 := Lib.hid hK1
        clear hT1 hK1
        go_wp2_with fail
        refine (next_any bt L k1 9 w1 HT1.out).mono ?_
        rintro e w2 ⟨t2, k2, rfl, ht2, ht2', hT2, hK2⟩
        have ht9 := ht2' (by omega)
        have HT2 := Lib.hid hT2; have HR2 := Lib.hid (HR1.out.trans hK2 (by simp))
        clear hT2 hK2 ht2'
        go_wp2_with fail
        refine (next_any bt L k2 20 w2 HT2.out).mono ?_
        rintro e w3 ⟨t3, k3, rfl, ht3, _, hT3, hK3⟩
        have HT3 := Lib.hid hT3; have HR3 := Lib.hid (HR2.out.trans hK3 (by simp))
        clear hT3 hK3
        go_wp2_with fail
        refine (next_any bt L k3 6 w3 HT3.out).mono ?_
        rintro e w4 ⟨t4, k4, rfl, ht4, _, hT4, hK4⟩
        have HT4 := Lib.hid hT4; have HR4 := Lib.hid (HR3.out.trans hK4 (by simp))
        clear hT4 hK4
        go_wp2_with fail
        refine (log_any bt L k4 3 w4 HT4.out (by omega) (by omega)).mono ?_
        rintro e w5 ⟨lv, ll, k5, rfl, hok, hlen, hens, hT5, hK5⟩
        obtain ⟨Al, cl, hlv, _⟩ := (hens [] (by simp)).len
        subst hlv
        have hll : ll.length ≤ 3 := by omega
        have Hsm := Lib.hid (ok_small hok (by omega))
        have HT5 := Lib.hid hT5; have HR5 := Lib.hid (HR4.out.trans hK5 (by simp)); have Hens := Lib.hid hens
        have Hsz4 := Lib.hid HR4.out.size
        clear hok hens hT5 hK5 HR1 HR2 HR3 HK1 HT1 HT2 HT3 HT4
        have hbW : bt < W.heap.size := hs0
        have Hown2 := Lib.hid ((own_keep Hown.out HR5.out (by simp; omega)).alloc (.cells (aCell (⟨t1, t2 - 1, t3, t4, ll⟩, .slice Al ll.length cl)).toArray 64))
        simp only [aCell] at Hown2
        go_wp2_with (at_builtin; refine wpList_append_any _ rfl (.tmp 23) (.tmp 36) _ rfl W.heap.size 64 i0 _ 5 56 Try.underlying33 Hi0.out Hz0.out Hz1.out Hz2.out rfl (by omega) (.slice A6 qs.length c6) qs.length (qs.flatMap aCell) rfl Hown2.out (w5.heap.size + 1) (some ⟨w5.heap.size, 0, none⟩) 1 1 (aCell (⟨t1, t2 - 1, t3, t4, ll⟩, .slice Al ll.length cl)) rfl (reads_new _ _ _ _ _ rfl) (by intro u hu; simp [aCell] at hu; rcases hu with rfl | rfl | rfl | rfl | rfl <;> rfl) (by unfold maxLen; omega) (by omega) (by have := HKr.out.size; have := HR5.out.size; simp; omega) ?_)
        intro v' w6 hown4 hg4 hat4
        have hlt0 := Hown.out.lt
        have hK6 : Keeps [bt] W w6 := ((HKr.out.trans HR5.out (by simp)).alloc _).grown hg4 (fun g hg => .inr (hlt0 g hg).1)
        have hT6 : TapeAt w6 bt L k5 := HT5.out.keep (M' := (Value.slice A6 qs.length c6).ownBlock.toList) (((Keeps.refl _ _).alloc _).grown hg4 (fun g hg => .inl (by simpa using hg))) (by intro g hg; have := hlt0 g (by simpa using hg); omega)
        have hds6 : AsOwn W w6 v' (qs ++ [(⟨t1, t2 - 1, t3, t4, ll⟩, .slice Al ll.length cl)]) := by
          refine asOwn_stepK Hds.out HR5.out (by simp; omega) (fun g hg => (hlt0 g hg).2) HKr.out.size (fun M' hM' => Hens.out M' (fun g hg => ?_)) hg4 hat4
          have := hM' g hg
          have := Hsz4.out
          omega
        have hok6 : ∀ q ∈ qs ++ [((⟨t1, t2 - 1, t3, t4, ll⟩ : AskD), Value.slice Al ll.length cl)], Small q.1.log := fun q hq => by
          rcases List.mem_append.1 hq with hq | hq
          · exact Hok.out q hq
          · simp at hq; subst hq; exact Hsm.out
        have hown6 : w6.ownsRow W.heap.size 64 5 v' (qs ++ [((⟨t1, t2 - 1, t3, t4, ll⟩ : AskD), Value.slice Al ll.length cl)]).length ((qs ++ [((⟨t1, t2 - 1, t3, t4, ll⟩ : AskD), Value.slice Al ll.length cl)]).flatMap aCell) := by
          rw [List.length_append, List.flatMap_append]
          simpa using hown4
        have hq9 : (qs ++ [((⟨t1, t2 - 1, t3, t4, ll⟩ : AskD), Value.slice Al ll.length cl)]).length = qs.length + 1 := by simp
        have hsv : sliceLen v' = qs.length + 1 := by
          obtain ⟨_, _, e, _⟩ := own_slice hown4
          rw [e]; rfl
        have Hok6 := Lib.hid hok6; have Hown6 := Lib.hid hown6; have Hds6 := Lib.hid hds6; have HT6 := Lib.hid hT6; have HK6 := Lib.hid hK6; have Hq9 := Lib.hid hq9; have Hsv := Lib.hid hsv
        clear hown4 hg4 hat4 hlt0 hK6 hT6 hds6 hok6 hown6 hq9 hsv
        go_wp2
        go_roundw
        case rel => exact ⟨qs ++ [(⟨t1, t2 - 1, t3, t4, ll⟩, .slice Al ll.length cl)], k5, by rw [Hq9.out]; omega, Hok6, Hown6, Hds6, HT6, HK6⟩
        case measure => rw [Hsv.out]; simp [sliceLen]; omega
      · have d2 : decide ((k' : Int) < l.length) = false := by simp; omega
        have hp : AsksPost w (.returned (.slice A6 qs.length c6)) wr := asks_end Hb0.out Hbt.out Hok.out hq8 Hown.out Hds.out HKr.out hs0
        go_wp2
        go_ret
        exact hp
    · have d1 : decide ((qs.length : Int) < n) = false := by simp; omega
      have hp : AsksPost w (.returned (.slice A6 qs.length c6)) wr := asks_end Hb0.out Hbt.out Hok.out hq8 Hown.out Hds.out HKr.out hs0
      go_wp2
      go_ret
      exact hp
end Go.Proofs.Ytinnifhnabncfaa.Lead
