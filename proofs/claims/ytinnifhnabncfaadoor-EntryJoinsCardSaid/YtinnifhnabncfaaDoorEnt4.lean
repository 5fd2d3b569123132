/- Contract of entry.Put. -/
import Derived.Test.YtinnifhnabncfaaDoorEnt3
namespace Go.Proofs.YtinnifhnabncfaaDoor.Vi
open Go.RowKit Base Mem Go.Shelf
def dBytes (d : DeltaD) : List UInt8 := Lib.uvarint d.ser.size ++ sB d.ser ++ Lib.uvarint d.n.toNat
def NOk (d : DeltaD) : Prop := 0 ≤ d.n ∧ d.n < 18446744073709551616
def EPutPost (M : List Nat) (l : List UInt8) (w : World) (e : Ending) (w' : World) : Prop := ∃ A, e = .returned (.slice A l.length l.length) ∧ Bs w' M (.slice A l.length l.length) l ∧ Below w.heap.size w w'
set_option maxRecDepth 100000 in
set_option maxHeartbeats 1000000 in
theorem eput_any (M : List Nat) (A : Option Addr) (l : List UInt8) (dv : Value) (ds : List DeltaD) (w : World) (hM : ∀ g ∈ M, g < w.heap.size) (hb : Bs w M (.slice A l.length l.length) l) (h : Ds w [] dv ds) (hn : ∀ d ∈ ds, NOk d)
    (hl : ds.length ≤ 4611686018427387904) (hsz : l.length + (ds.flatMap dBytes).length ≤ 140737488355000) :
    Calls Tryd.prog 26 #[.slice A l.length l.length, dv] w fun e w' => EPutPost M (l ++ ds.flatMap dBytes) w e w' := by
  obtain ⟨Ad, cd, rfl, hcd⟩ := h.len
  have Hh := Lib.hid h; have Hb := Lib.hid hb; have Hn := Lib.hid hn; have HM := Lib.hid hM; have Hsz := Lib.hid hsz
  clear h hb hn hM hsz
  go_enter Tryd.func26, Tryd.ntmps26
  go_wp2_with fail
  go_loopw [0, 9] (fun b i wr => ∃ (x : Nat) (A' : Option Addr) (L : List UInt8), i = .int .i64 x ∧ x ≤ ds.length ∧ b = .slice A' L.length L.length ∧ Hid (L = l ++ (ds.take x).flatMap dBytes) ∧ Hid (Bs wr M (.slice A' L.length L.length) L) ∧ Hid (Below w.heap.size w wr)) (fun _ i _ => ds.length - (intOf i).toNat)
  case atStart => exact ⟨0, A, l, rfl, by omega, rfl, (show l = l ++ (ds.take 0).flatMap dBytes by simp), Hb.out, Below.refl _ _⟩
  case round =>
    obtain ⟨x, A', L, rfl, hx, rfl, HL, HB, Hbr⟩ := hrel
    by_cases hlt : x < ds.length
    · have hx1 : (x : Int) < (ds.length : Int) := by omega
      obtain ⟨g, off, _, e1, _, hg, _, hcell⟩ := Rd.at_ dCell 2 (fun _ => rfl) (Hh.out.keep (Keeps.of_below (M := []) Hbr.out) (by simp)) hlt
      obtain rfl : Ad = some ⟨g, off, none⟩ := by injection e1
      clear e1
      have p0 := hcell 0 _ rfl
      have p1 := hcell 1 _ rfl
      rw [Nat.add_zero] at p0
      obtain ⟨hn0, hn1⟩ := Hn.out ds[x] (List.getElem_mem _)
      have htk : ds.take (x + 1) = ds.take x ++ [ds[x]] := List.take_succ_eq_append_getElem hlt
      have HL2 : Hid (L ++ dBytes ds[x] = l ++ (ds.take (x + 1)).flatMap dBytes) := by show _ = _; rw [htk, List.flatMap_append, HL.out]; simp
      have hlen : L.length + (dBytes ds[x]).length ≤ 140737488355000 := by
        have h1 := congrArg List.length HL2.out
        rw [List.length_append, List.length_append] at h1
        have h2 : ((ds.take (x + 1)).flatMap dBytes).length ≤ (ds.flatMap dBytes).length := by
          conv => rhs; rw [← List.take_append_drop (x + 1) ds, List.flatMap_append, List.length_append]
          omega
        have := Hsz.out
        omega
      have hsizes : (dBytes ds[x]).length = (Lib.uvarint ds[x].ser.size).length + ds[x].ser.size + (Lib.uvarint ds[x].n.toNat).length := by
        unfold dBytes; rw [List.length_append, List.length_append]; rfl
      have hdb : dBytes ds[x] = Lib.uvarint ds[x].ser.size ++ sB ds[x].ser ++ Lib.uvarint ds[x].n.toNat := rfl
      clear hcell htk
      generalize hdd : ds[x] = d at *
      obtain ⟨dser, dn⟩ := d
      simp only [] at p0 p1 hn0 hn1 hsizes hdb
      obtain ⟨n, rfl⟩ := Int.eq_ofNat_of_zero_le hn0
      rw [Int.toNat_natCast] at hsizes hdb
      have hbl := Blk.new wr 44 #[.string dser, .int .u64 n]
      have d0 := hbl.cell 0; have d1 := hbl.cell 1
      simp only [List.getElem?_toArray, List.getElem?_cons_succ, List.getElem?_cons_zero] at d0 d1
      have ka : Keeps [] wr (wr.alloc (.cells #[.string dser, .int .u64 n] 44)) := (Keeps.refl _ _).alloc _
      have hbn : wr.heap.size < (wr.alloc (.cells #[.string dser, .int .u64 n] 44)).heap.size := by simp
      have Htx : Hid (Calls Tryd.prog 25 #[.slice A' L.length L.length, .string dser] (wr.alloc (.cells #[.string dser, .int .u64 n] 44)).drew fun e w' => BsPost (L ++ Lib.uvarint dser.size ++ sB dser) (wr.alloc (.cells #[.string dser, .int .u64 n] 44)).drew e w') :=
        text_any _ L dser _ ((HB.out.avoid (M' := []) (by simp)).keep ka.drew (by simp)) (by omega)
      have Hpt : Hid (∀ W A2, Bs W [] (.slice A2 (L ++ Lib.uvarint dser.size ++ sB dser).length (L ++ Lib.uvarint dser.size ++ sB dser).length) (L ++ Lib.uvarint dser.size ++ sB dser) → Calls Tryd.prog 24 #[.slice A2 (L ++ Lib.uvarint dser.size ++ sB dser).length (L ++ Lib.uvarint dser.size ++ sB dser).length, .int .u64 n] W fun e w' => BsPost (L ++ dBytes ⟨dser, n⟩) W e w') := fun W A2 h2 => by
        have := put_any _ (L ++ Lib.uvarint dser.size ++ sB dser) n W h2 (by omega) (by rw [List.length_append, List.length_append]; have : (sB dser).length = dser.size := rfl; omega)
        rw [hdb]
        simpa only [List.append_assoc] using this
      generalize hL2 : L ++ Lib.uvarint dser.size ++ sB dser = L2 at *
      generalize hL3 : L ++ dBytes ⟨dser, n⟩ = L3 at *
      have HMr : Hid (∀ g ∈ M, g < wr.heap.size) := fun g hg => Nat.lt_of_lt_of_le (HM.out g hg) Hbr.out.size
      have Hka := Lib.hid (show Below wr.heap.size wr (wr.alloc (.cells #[.string dser, .int .u64 n] 44)).drew from ka.drew.below)
      clear hlen hsizes hdb hL2 hL3 hbl ka hdd
      go_wp2_with fail
      go_region_held3 (fun w' => w'.cell? ⟨wr.heap.size, 0, none⟩ = some (.string dser) ∧ w'.cell? ⟨wr.heap.size, 1, none⟩ = some (.int .u64 n)) (first | exact ⟨r0, r1⟩ | exact ⟨q0, q1⟩ | exact ⟨d0, d1⟩) (first
        | (go_at_call 25
           refine Htx.out.mono ?_
           rintro e w5 ⟨A5, rfl, hR5, hb5⟩
           have HR5 := Lib.hid (hR5 [] (by simp))
           have Hb5 := Lib.hid (below_then Hka.out hb5)
           have q0 : w5.cell? ⟨wr.heap.size, 0, none⟩ = some (.string dser) := (hb5.cell (p := ⟨wr.heap.size, 0, none⟩) hbn).trans d0
           have q1 : w5.cell? ⟨wr.heap.size, 1, none⟩ = some (.int .u64 n) := (hb5.cell (p := ⟨wr.heap.size, 1, none⟩) hbn).trans d1
           have Hbn5 := Lib.hid (show wr.heap.size < w5.heap.size from Nat.lt_of_lt_of_le hbn hb5.size)
           clear hR5 hb5)
        | (go_at_call 24
           refine (Hpt.out _ A5 HR5.out).mono ?_
           rintro e w6 ⟨A6, rfl, hR6, hb6⟩
           have HR6 := Lib.hid (hR6 M (fun g hg => Nat.lt_of_lt_of_le (HMr.out g hg) Hb5.out.size))
           have Hb6 := Lib.hid (below_then Hb5.out hb6)
           have r0 : w6.cell? ⟨wr.heap.size, 0, none⟩ = some (.string dser) := (hb6.cell (p := ⟨wr.heap.size, 0, none⟩) Hbn5.out).trans q0
           have r1 : w6.cell? ⟨wr.heap.size, 1, none⟩ = some (.int .u64 n) := (hb6.cell (p := ⟨wr.heap.size, 1, none⟩) Hbn5.out).trans q1
           clear hR6 hb6))
      all_goals
        go_wp2
        go_roundw
        case rel => exact ⟨x + 1, A6, L3, by go_num, by omega, rfl, HL2, HR6.out, below_then Hbr.out Hb6.out⟩
        case measure => simp [intOf] <;> omega
    · obtain rfl : x = ds.length := by omega
      have hfin : Hid (L = l ++ ds.flatMap dBytes) := by show _ = _; rw [HL.out, List.take_length]
      have hp : Hid (EPutPost M (l ++ ds.flatMap dBytes) w (.returned (.slice A' L.length L.length)) wr) := by
        show EPutPost _ _ _ _ _
        rw [← hfin.out]
        exact ⟨A', rfl, HB.out, Hbr.out⟩
      go_wp2
      go_ret
      exact hp.out
end Go.Proofs.YtinnifhnabncfaaDoor.Vi
