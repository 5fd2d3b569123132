/- Contract of hopperlaw4.known: true. -/
import Derived.Test.YtinnifhnabncfaaDoorEntB
import Derived.Test.YtinnifhnabncfaaDoorEntC
import Derived.Test.YtinnifhnabncfaaDoorEntD
namespace Go.Proofs.YtinnifhnabncfaaDoor.Vi
open Go.RowKit Base Mem Go.Shelf
def kx : EntryD := ⟨2, 0, 0, 0, 0, [], ⟨#[97, 61, 49]⟩, 2, 3⟩
theorem k_nil : readE [] = (zeroD, 12) := by
  unfold readE
  rw [show (readH []).2.2 = true by decide +kernel]
  rfl
theorem k_right : rightE kx = 0 := by decide +kernel
theorem k_zero : rightE zeroD = 12 := by decide +kernel
theorem k_same : sameE kx kx = true := by decide +kernel
def kl : List DeltaD := [⟨⟨#[97]⟩, 1⟩, ⟨⟨#[98]⟩, 2⟩, ⟨⟨#[97]⟩, 3⟩]
theorem k_join : joinD kl = [⟨⟨#[97]⟩, 4⟩, ⟨⟨#[98]⟩, 2⟩] := by kernel_rfl
theorem kx_short : Short kx := ⟨by decide, by simp [kx], by simp [kx]⟩
theorem kx_wf : Wf kx := ⟨by decide, by decide, by decide, by simp [kx]⟩
theorem k_back : readE (bytesE kx) = (kx, 0) := read_bytes kx k_right kx_wf kx_short
theorem k_len : (bytesE kx).length ≤ 1000 := by
  have h : (bytesE kx).length = ([UInt8.ofNat 2] ++ Lib.uvarint 2 ++ Lib.uvarint 3 ++ (Lib.uvarint 3 ++ [97, 61, 49])).length := rfl
  rw [h, Lib.uvarint_small (by omega), Lib.uvarint_small (by omega)]
  simp
set_option maxRecDepth 100000 in
set_option maxHeartbeats 1000000 in
theorem known_any (m : Int) (w : World) (hm : w.cell? ⟨0, 0, none⟩ = some (.int .i64 m)) :
    Calls Tryd.prog 12 #[] w fun e w' => SamePost true w e w' := by
  have hw0 : 0 < w.heap.size := by
    have := World.block_lt_of_cell? w _ hm
    simpa using this
  have Hm := Lib.hid hm
  clear hm
  have hkeepm : Hid (∀ W, Below w.heap.size w W → W.cell? ⟨0, 0, none⟩ = some (.int .i64 m)) := fun W hb => (hb.cell (p := ⟨0, 0, none⟩) hw0).trans Hm.out
  go_enter Tryd.func12, Tryd.ntmps12
  go_wp2_with fail
  have h1 := eread_any (.slice none 0 0) [] m w (Bs.nil _ _) (by decide) Hm.out
  rw [k_nil] at h1
  refine h1.mono ?_
  rintro e w1 ⟨dv, rfl, hD, hb1⟩
  obtain ⟨Ad, cd, rfl, _⟩ := (hD [] (by simp)).len
  have Hb1 := Lib.hid hb1
  clear hb1 hD h1
  simp only [eCell, zeroD]
  have hb2 : Below w.heap.size w ((w1.alloc (.cells #[.int .i64 0, .int .i64 0, .int .i64 0, .int .i64 0, .int .i64 0, .slice Ad 0 cd, .string ⟨#[]⟩, .int .i64 0, .int .i64 0] 27)).alloc (.cells #[.int .i64 2, .int .i64 0, .int .i64 0, .int .i64 0, .int .i64 0, .slice none 0 0, .string ⟨#[97, 61, 49]⟩, .int .i64 2, .int .i64 3] 27)) := (Hb1.out.alloc Hb1.out.size _).alloc (by have := Hb1.out.size; simp; omega) _
  have hB3 := Blk.new (w1.alloc (.cells #[.int .i64 0, .int .i64 0, .int .i64 0, .int .i64 0, .int .i64 0, .slice Ad 0 cd, .string ⟨#[]⟩, .int .i64 0, .int .i64 0] 27)) 27 #[.int .i64 2, .int .i64 0, .int .i64 0, .int .i64 0, .int .i64 0, .slice none 0 0, .string ⟨#[97, 61, 49]⟩, .int .i64 2, .int .i64 3]
  have hs1 : (w1.alloc (.cells #[.int .i64 0, .int .i64 0, .int .i64 0, .int .i64 0, .int .i64 0, .slice Ad 0 cd, .string ⟨#[]⟩, .int .i64 0, .int .i64 0] 27)).heap.size = w1.heap.size + 1 := by simp
  rw [hs1] at hB3
  have Hb2 := Lib.hid hb2; have HB3 := Lib.hid hB3
  clear hb2 hB3 hs1
  go_wp2_with fail
  generalize (w1.alloc _).alloc _ = w2 at *
  have hg3 : w1.heap.size + 1 < w2.heap.size := HB3.out.lt
  generalize w1.heap.size + 1 = g3 at *
  have h2 := Lib.hid (ebytes_2 kx (.slice none 0 0) m w2 rfl k_right (Ds.nil _ _) kx_short kx_wf (hkeepm.out _ Hb2.out))
  refine h2.out.mono ?_
  rintro e w3 ⟨A3, rfl, hS3, hb3⟩
  have HS3 := Lib.hid (hS3 [] (by simp)); have Hb3 := Lib.hid (below_then Hb2.out hb3); have HB3b := Lib.hid (HB3.out.below hb3 hg3)
  have hg3b : g3 < w3.heap.size := HB3b.out.lt
  have hkl := k_len
  clear hS3 hb3 h2 hg3 HB3 Hb2 Hb1
  have h3 := eread_any (.slice A3 (bytesE kx).length (bytesE kx).length) (bytesE kx) m w3 HS3.out (by omega) (hkeepm.out _ Hb3.out)
  rw [k_back] at h3
  have H3 := Lib.hid h3
  clear h3 hkl
  generalize (bytesE kx).length = bl at *
  go_wp2_with fail
  refine H3.out.mono ?_
  rintro e w4 ⟨dv4, rfl, hD4, hb4⟩
  obtain ⟨A4, c4, rfl, hc4⟩ := (hD4 [] (by simp)).len
  have Hb4 := Lib.hid (below_then Hb3.out hb4); have HB4 := Lib.hid (HB3b.out.below hb4 hg3b)
  have hg4 : g3 < w4.heap.size := HB4.out.lt
  clear hD4 hb4 H3 HS3 HB3b hg3b Hb3 hc4
  simp only [eCell, kx]
  have hB6 : Blk ((w4.alloc (.cells #[.int .i64 2, .int .i64 0, .int .i64 0, .int .i64 0, .int .i64 0, .slice A4 0 c4, .string ⟨#[97, 61, 49]⟩, .int .i64 2, .int .i64 3] 27)).alloc (.cells #[.string ⟨#[97]⟩, .int .u64 1, .string ⟨#[98]⟩, .int .u64 2, .string ⟨#[97]⟩, .int .u64 3] 44)) w4.heap.size 27 #[.int .i64 2, .int .i64 0, .int .i64 0, .int .i64 0, .int .i64 0, .slice A4 0 c4, .string ⟨#[97, 61, 49]⟩, .int .i64 2, .int .i64 3] := (Blk.new w4 _ _).below (below_new' _ _) (by simp)
  have hB3 : Blk ((w4.alloc (.cells #[.int .i64 2, .int .i64 0, .int .i64 0, .int .i64 0, .int .i64 0, .slice A4 0 c4, .string ⟨#[97, 61, 49]⟩, .int .i64 2, .int .i64 3] 27)).alloc (.cells #[.string ⟨#[97]⟩, .int .u64 1, .string ⟨#[98]⟩, .int .u64 2, .string ⟨#[97]⟩, .int .u64 3] 44)) g3 27 _ := (HB4.out.below (below_new' _ _) hg4).below (below_new' _ _) (by simp; omega)
  have hb5 : Below w.heap.size w ((w4.alloc (.cells #[.int .i64 2, .int .i64 0, .int .i64 0, .int .i64 0, .int .i64 0, .slice A4 0 c4, .string ⟨#[97, 61, 49]⟩, .int .i64 2, .int .i64 3] 27)).alloc (.cells #[.string ⟨#[97]⟩, .int .u64 1, .string ⟨#[98]⟩, .int .u64 2, .string ⟨#[97]⟩, .int .u64 3] 44)) := (Hb4.out.alloc Hb4.out.size _).alloc (by have := Hb4.out.size; simp; omega) _
  have hBd := Blk.new (w4.alloc (.cells #[.int .i64 2, .int .i64 0, .int .i64 0, .int .i64 0, .int .i64 0, .slice A4 0 c4, .string ⟨#[97, 61, 49]⟩, .int .i64 2, .int .i64 3] 27)) 44 #[.string ⟨#[97]⟩, .int .u64 1, .string ⟨#[98]⟩, .int .u64 2, .string ⟨#[97]⟩, .int .u64 3]
  have hs4 : (w4.alloc (.cells #[.int .i64 2, .int .i64 0, .int .i64 0, .int .i64 0, .int .i64 0, .slice A4 0 c4, .string ⟨#[97, 61, 49]⟩, .int .i64 2, .int .i64 3] 27)).heap.size = w4.heap.size + 1 := by simp
  rw [hs4] at hBd
  have HB6 := Lib.hid hB6; have HB3 := Lib.hid hB3; have Hb5 := Lib.hid hb5; have HBd := Lib.hid hBd
  clear hB6 hB3 hb5 hBd hs4 HB4 Hb4
  go_wp2_with fail
  generalize (w4.alloc _).alloc _ = w5 at *
  have hds : Ds w5 [] (.slice (some ⟨w4.heap.size + 1, 0, none⟩) 3 3) kl := RowsK.rd_of_blk dCell 2 (fun _ => rfl) (l := kl) (rest := []) (by simpa [kl, dCell] using HBd.out) (by simp)
  have h5 := Lib.hid (deltas_join _ kl w5 hds (by intro d hd; simp [kl] at hd; rcases hd with rfl | rfl | rfl <;> exact ⟨by simp only []; omega, by simp only []; omega⟩) (by decide))
  refine h5.out.mono ?_
  rintro e w6 ⟨A6, rfl, hD6, hb6⟩
  rw [k_join] at hD6 ⊢
  have hg3 : g3 < w5.heap.size := HB3.out.lt
  have hg6 : w4.heap.size < w5.heap.size := HB6.out.lt
  have HB3c := Lib.hid (HB3.out.below hb6 hg3); have HB6c := Lib.hid (HB6.out.below hb6 hg6); have Hb6 := Lib.hid (below_then Hb5.out hb6)
  obtain ⟨g, off, _, e1, _, _, _, hc0⟩ := Rd.at_ dCell 2 (fun _ => rfl) (hD6 [] (by simp)) (k := 0) (by simp)
  obtain ⟨g', off', _, e2, _, _, _, hc1⟩ := Rd.at_ dCell 2 (fun _ => rfl) (hD6 [] (by simp)) (k := 1) (by simp)
  injection e1 with e1 _ e9
  subst e1
  injection e2 with e2 _ e8
  injection e2 with e2
  injection e2 with e2 e3 _
  subst e2 e3
  have c0 : w6.cell? ⟨g, off + 1, none⟩ = some (.int .u64 4) := by have := hc0 1 _ rfl; simpa using this
  have c1 : w6.cell? ⟨g, off + 3, none⟩ = some (.int .u64 2) := by have := hc1 1 _ rfl; simpa [Nat.add_assoc] using this
  clear e9 e8 hc0 hc1 hD6 hb6 h5 hds HB3 HB6 HBd Hb5
  generalize w4.heap.size = g6 at *
  obtain ⟨q0, q1, q2, q3, q4, q5, q6, q7, q8, qf⟩ := blk9 HB3c.out
  obtain ⟨r0, r1, r2, r3, r4, r5, r6, r7, r8, rf⟩ := blk9 HB6c.out
  have hsm := Lib.hid (same_any kx kx (.slice none 0 0) (.slice A4 0 c4) w6 (Ds.nil _ _) ⟨A4, c4, rfl, Nat.zero_le _, rfl, fun h => absurd h (by simp [kx])⟩ (by simp [kx]) (by simp [kx]))
  rw [k_same] at hsm
  have hri := Lib.hid (fun W (hb : Below w.heap.size w W) => eright_any zeroD (.slice none 0 0) m W (Ds.nil _ _) ⟨by decide, by simp [zeroD], by simp [zeroD]⟩ (hkeepm.out _ hb))
  rw [k_zero] at hri
  simp only [eCell, kx] at hsm
  simp only [eCell, zeroD] at hri
  go_wp2_with fail
  refine hsm.out.mono ?_
  rintro e w7 ⟨rfl, hb7⟩
  have Hb7 := Lib.hid (below_then Hb6.out hb7)
  have hgl : g < w6.heap.size := World.block_lt_of_cell? w6 _ c0
  have d0 : w7.cell? ⟨g, off + 1, none⟩ = some (.int .u64 4) := (hb7.cell (p := ⟨g, off + 1, none⟩) hgl).trans c0
  have d1 : w7.cell? ⟨g, off + 3, none⟩ = some (.int .u64 2) := (hb7.cell (p := ⟨g, off + 3, none⟩) hgl).trans c1
  have hri7 := Lib.hid (hri.out w7 Hb7.out)
  clear c0 c1 hb7 hsm hri q0 q1 q2 q3 q4 q5 q6 q7 q8 qf r0 r1 r2 r3 r4 r5 r6 r7 r8 rf
  go_wp2_with fail
  refine hri7.out.mono ?_
  rintro e w8 ⟨rfl, hb8⟩
  have Hb8 := Lib.hid (below_then Hb7.out hb8)
  have hgl7 : g < w7.heap.size := World.block_lt_of_cell? w7 _ d0
  have f0 : w8.cell? ⟨g, off + 1, none⟩ = some (.int .u64 4) := (hb8.cell (p := ⟨g, off + 1, none⟩) hgl7).trans d0
  have f1 : w8.cell? ⟨g, off + 3, none⟩ = some (.int .u64 2) := (hb8.cell (p := ⟨g, off + 3, none⟩) hgl7).trans d1
  clear d0 d1 hb8 hri7
  go_wp2
  go_ret
  exact ⟨rfl, Hb8.out⟩
end Go.Proofs.YtinnifhnabncfaaDoor.Vi
