/- Texts put together: EnN. -/
import Derived.Test.YtinnifhnabncfaaGreatDoorEN8
import Derived.Test.YtinnifhnabncfaaGreatDoorEN9
import Derived.Test.YtinnifhnabncfaaGreatDoorEN12
set_option linter.unusedVariables false
set_option linter.unusedSimpArgs false
/- The walk of hopperlaw4.EntryNumbers. -/
section
namespace Go.Proofs.YtinnifhnabncfaaGreatDoor.Vi
open Go.RowKit Base Mem Tape Go.Shelf
theorem infoInt4 : (Tryz.prog.info? 3).map (fun i => (i.zero, i.size, i.bytes)) = some (some (.int .i64 0), 1, 8) := by kernel_rfl
def Tape400E (w : World) (e : Ending) (w' : World) : Prop := ∃ (v : Value) (l : List Int), e = .returned v ∧ l.length = 400 ∧ w'.ownsRow w.heap.size 3 1 v 400 (l.map (Value.int .i64)) ∧ Below w.heap.size w w'
set_option maxRecDepth 100000 in
theorem tape4_any (k : Nat) (w : World) (hk : k ≤ 60) : Calls Tryz.prog 15 #[.int .i64 k] w fun e w' => Tape400E w e w' := by
  obtain ⟨i0, hi0, hz0, hz1, hz2⟩ := info_parts infoInt4
  have Hi0 := Lib.hid hi0; have Hz0 := Lib.hid hz0; have Hz1 := Lib.hid hz1; have Hz2 := Lib.hid hz2
  clear hi0 hz0 hz1 hz2
  go_enter Tryz.func15, Tryz.ntmps15
  go_wp2
  go_loopw [3, 4] (fun out i wr => ∃ (x : Nat) (l : List Int), i = .int .i64 x ∧ x ≤ 400 ∧ Hid (l.length = x) ∧ Hid (wr.ownsRow w.heap.size 3 1 out x (l.map (Value.int .i64))) ∧ Hid (Below w.heap.size w wr)) (fun _ i _ => 400 - (intOf i).toNat)
  case atStart => exact ⟨0, [], rfl, by omega, rfl, World.ownsRow_nil _ _ _ _, Below.refl _ _⟩
  case round =>
    obtain ⟨x, l, rfl, hx, Hl, Hown, Hb⟩ := hrel
    by_cases hx4 : x < 400
    · have hm1 : 0 ≤ (x : Int) * x ∧ (x : Int) * x ≤ 400 * 400 := ⟨Int.mul_nonneg (by omega) (by omega), Int.mul_le_mul (by omega) (by omega) (by omega) (by omega)⟩
      have hm2 : 0 ≤ (x : Int) * k ∧ (x : Int) * k ≤ 400 * 60 := ⟨Int.mul_nonneg (by omega) (by omega), Int.mul_le_mul (by omega) (by omega) (by omega) (by omega)⟩
      have Hown2 := Lib.hid (Hown.out.alloc (.cells #[.int .i64 (((x : Int) * x * 7 + k * 23 + x * k) % 211)] 3))
      go_wp2_with (at_builtin; refine wpList_append_any _ rfl (.tmp 9) (.tmp 22) _ rfl w.heap.size 3 i0 _ 1 8 Tryz.underlying28 Hi0.out Hz0.out Hz1.out Hz2.out rfl (by omega) u3 x (l.map (Value.int .i64)) rfl Hown2.out (wr.heap.size + 1) (some ⟨wr.heap.size, 0, none⟩) 1 1 [.int .i64 (((x : Int) * x * 7 + k * 23 + x * k) % 211)] rfl (reads_new _ _ _ _ _ rfl) (by intro u hu; simp at hu; subst hu; rfl) (by unfold maxLen; omega) (by omega) (by have := Hb.out.size; simp; omega) ?_)
      intro v' w4 hown4 hg4 hat4
      have Hb4 : Hid (Below w.heap.size w w4) := (Hb.out.alloc Hb.out.size _).grown hg4 (by have := Hb.out.size; simp; omega) (fun g hg => (Hown.out.lt g hg).1)
      have Hl4 : Hid ((l ++ [((x : Int) * x * 7 + k * 23 + x * k) % 211]).length = x + 1) := by show _ = _; rw [List.length_append, Hl.out]; rfl
      have Hown4 : Hid (w4.ownsRow w.heap.size 3 1 v' (x + 1) ((l ++ [((x : Int) * x * 7 + k * 23 + x * k) % 211]).map (Value.int .i64))) := by show World.ownsRow _ _ _ _ _ _ _; rw [List.map_append]; exact hown4
      clear hown4 hg4 hat4
      go_wp2
      go_roundw
      case rel => exact ⟨x + 1, _, by go_num, by omega, Hl4, Hown4, Hb4⟩
      case measure => simp [intOf] <;> omega
    · obtain rfl : x = 400 := by omega
      have hp : Hid (Tape400E w (.returned u3) wr) := ⟨u3, l, rfl, Hl.out, Hown.out, Hb.out⟩
      go_wp2
      go_ret
      exact hp.out
theorem nums_own {w : World} {base : Nat} {t : TypeId} {v : Value} {l : List Int} (h : w.ownsRow base t 1 v l.length (l.map (Value.int .i64))) : ∃ A c, v = .slice A l.length c ∧ Nums w A c l := by
  obtain ⟨A, c, rfl, hc, _, hx⟩ := Rd.of_own (M := []) h (by simp)
  refine ⟨A, c, rfl, hc, ?_, fun h0 => ?_⟩
  · rcases h.2 with ⟨hv, _⟩ | ⟨g, cap, cur, hv, _, _, _, hm, _⟩
    · injection hv with _ _ h3; omega
    · injection hv with _ _ h3
      have : maxLen ≤ 9223372036854775807 := by unfold maxLen; omega
      omega
  · obtain ⟨g, off, e, hg, _, hc2⟩ := hx h0
    exact ⟨g, off, e, hg, fun j x hj => hc2 j _ (by rw [List.getElem?_map, hj]; rfl)⟩
theorem entry_wide {e : EntryD} (h : EntryOk e) : Wide 10 e := by
  obtain ⟨hr, hs, hw⟩ := entry_right h
  obtain ⟨f0, f8, t0, t40, hk⟩ := h
  rcases hk with ⟨_, hn, _, _, hq, hp, hd⟩ | ⟨_, hse, _, _, _, _, hq0, hq, hp0, hp, hd0, hd4, hd⟩
  · refine ⟨by have := (name_ser hn).2; omega, by rw [hd]; simp, by rw [hd]; simp, by rw [hd]; simp, by omega, by omega, by omega⟩
  · refine ⟨by rw [hse]; show (0 : Nat) ≤ _; omega, fun d hx => by have := (name_ser (hd d hx).1).2; omega, hw.2.2.2, by omega, by omega, by omega, by omega⟩
theorem u8_xor_natE (a b : Nat) (ha : a < 256) (hb : b < 256) : bits .xor .u8 (a : Int) (b : Int) = ((a ^^^ b : Nat) : Int) := by
  have h : a ^^^ b < 256 := Nat.xor_lt_two_pow (n := 8) ha hb
  show IntKind.u8.wrap ((BitVec.ofInt 8 (a : Int) ^^^ BitVec.ofInt 8 (b : Int)).toNat : Int) = _
  rw [BitVec.toNat_xor, BitVec.ofInt_natCast, BitVec.ofInt_natCast, BitVec.toNat_ofNat, BitVec.toNat_ofNat, Nat.mod_eq_of_lt (by omega), Nat.mod_eq_of_lt (by omega), IntKind.wrap_u8]
  omega
theorem u8_xor_some (cc : UInt8) (p : Nat) (hp : p < 256) : ∃ y : UInt8, bits .xor .u8 (cc.toNat : Int) (p : Int) = (y.toNat : Int) := by
  have hc := UInt8.toNat_lt cc
  have h : cc.toNat ^^^ p < 256 := Nat.xor_lt_two_pow (n := 8) (by omega) hp
  refine ⟨UInt8.ofNat (cc.toNat ^^^ p), ?_⟩
  rw [UInt8.toNat_ofNat_of_lt' h]
  exact u8_xor_natE _ _ (by omega) hp
theorem wpList_append_g {P : Program} {ops : Array Oper} {rest : List Oper} {o : Oper} {a : Act} {Q : Exit → Act → World → Prop} (w : World) (hw : Region.wanted o (yielded ops a.tmps) = true) (s x : Operand) (t : TypeId)
    (ho : o.op = .call { callee := .builtin .append, args := #[s, x], argTypes := #[t, t] })
    (base : Nat) (e : TypeId) (i : TypeInfo) (z : Value) (size bytes : Nat) (ht : P.underlying t = some (.slice e)) (hi : P.info? e = some i) (hz : i.zero = some z)
    (hsize : i.size = size) (hby : i.bytes = bytes) (hzs : z.cells.size = size) (hsz : 0 < size)
    (v : Value) (n : Nat) (xs : List Value) (hs : a.eval s = v) (hown : w.ownsRow base e size v n xs)
    (B : Nat) (A : Option Addr) (m c : Nat) (news : List Value) (hx : a.eval x = .slice A m c) (hr : Reads w B size A m news) (h1 : ∀ u ∈ news, u.oneCell' = true)
    (h63 : n + m ≤ maxLen) (hbytes : (n + m) * bytes ≤ 140737488355328) (hbase : base ≤ w.heap.size)
    (h : ∀ v' w', w'.ownsRow base e size v' (n + m) (xs ++ news) → w.grownBy w' v.ownBlock → (v'.ownBlock = v.ownBlock ∨ v'.ownBlock = some w.heap.size) → wpList P ops Q rest (a.put o.dst v') w') : wpList P ops Q (o :: rest) a w := by
  simp only [wpList]
  rw [if_pos hw]
  exact .inl (wp_append_any w s x t ho base e i z size bytes ht hi hz hsize hby hzs hsz v n xs hs hown B A m c news hx hr h1 h63 hbytes hbase h)
def numL : List Int := [-1, 0, 1, 2, 4, 7, 8, 9223372036854775807]
set_option maxRecDepth 100000 in
set_option maxHeartbeats 8000000 in
theorem enumbers_walk (m : Int) (w : World) (hm : w.cell? ⟨0, 0, none⟩ = some (.int .i64 m)) :
    Calls Tryz.prog 3 #[] w fun e w' => SamePost true w e w' := by
  have hw0 : 0 < w.heap.size := by
    have := World.block_lt_of_cell? w _ hm
    simpa using this
  have Hm : Hid (∀ W, Below w.heap.size w W → W.cell? ⟨0, 0, none⟩ = some (.int .i64 m)) := fun W hb => (hb.cell (p := ⟨0, 0, none⟩) hw0).trans hm
  obtain ⟨i0, hi0, hz0, hz1, hz2⟩ := info_parts infoU8
  have Hi0 := Lib.hid hi0; have Hz0 := Lib.hid hz0; have Hz1 := Lib.hid hz1; have Hz2 := Lib.hid hz2
  clear hm hi0 hz0 hz1 hz2
  go_enter Tryz.func3, Tryz.ntmps3
  go_wp2_with fail
  go_loopw [1] (fun i wr => ∃ x : Nat, i = .int .i64 x ∧ x ≤ 60 ∧ Hid (Below w.heap.size w wr)) (fun i _ => 60 - (intOf i).toNat)
  case atStart => exact ⟨0, rfl, by omega, Below.refl _ _⟩
  case round =>
    obtain ⟨x, rfl, hx, Hb⟩ := hrel
    by_cases hlt : x < 60
    · have hlti : (x : Int) < 60 := by omega
      go_wp2_with fail
      refine (tape4_any x wr (by omega)).mono ?_
      rintro e w1 ⟨v, l, rfl, hl, hown, hb1⟩
      rw [← hl] at hown
      obtain ⟨At, ct, rfl, hnums⟩ := nums_own hown
      have Hb1 := Lib.hid (below_then Hb.out hb1)
      have hT := tape_new hnums (Below.refl _ w1)
      have Hen := Lib.hid (entry_any w1.heap.size _ 0 _ hT)
      have Hba := Lib.hid (Hb1.out.alloc Hb1.out.size (.cells #[.slice At l.length ct, .int .i64 0] 31))
      have hz1 : w.heap.size ≤ w1.heap.size := Hb1.out.size
      clear hown hnums hT hb1 Hb1
      rw [hl] at Hen Hba
      go_wp2_with fail
      refine Hen.out.mono ?_
      rintro e w2 ⟨en, dv, k1, rfl, hok, hD, _, hk2⟩
      have Hb2 := Lib.hid ((Keeps.of_below (M := []) Hba.out).trans hk2 (by intro g hg; simp at hg; right; omega)).below
      have HD2 := Lib.hid (hD [] (by simp))
      have HW := Lib.hid (entry_wide hok)
      obtain ⟨hr0, hsh, hwf⟩ := entry_right hok
      have hbl := bytesE_len hok
      have Hr0 := Lib.hid hr0; have Hsh := Lib.hid hsh; have Hwf := Lib.hid hwf; have Hbl := Lib.hid hbl
      obtain ⟨A, c, rfl, _⟩ := HD2.out.len
      clear hok hD hk2 hr0 hsh hwf hbl Hen Hba hl
      obtain ⟨kind, ag, sh, seq, ep, ds, ser, fr, tag⟩ := en
      simp only [eCell] at *
      go_upto_region 5 with (fail)
      have hB := Blk.new w2 26 #[.int .i64 kind, .int .i64 ag, .int .i64 sh, .int .i64 seq, .int .i64 ep, .slice A ds.length c, .string ser, .int .i64 fr, .int .i64 tag]
      have HD3 : Hid (Ds (w2.alloc (.cells #[.int .i64 kind, .int .i64 ag, .int .i64 sh, .int .i64 seq, .int .i64 ep, .slice A ds.length c, .string ser, .int .i64 fr, .int .i64 tag] 26)) [] (.slice A ds.length c) ds) := HD2.out.keep (M' := []) ((Keeps.refl _ _).alloc _) (by simp)
      have Hb3 := Lib.hid (Hb2.out.alloc Hb2.out.size (.cells #[.int .i64 kind, .int .i64 ag, .int .i64 sh, .int .i64 seq, .int .i64 ep, .slice A ds.length c, .string ser, .int .i64 fr, .int .i64 tag] 26))
      have hg3 : w2.heap.size < (w2.alloc (.cells #[.int .i64 kind, .int .i64 ag, .int .i64 sh, .int .i64 seq, .int .i64 ep, .slice A ds.length c, .string ser, .int .i64 fr, .int .i64 tag] 26)).heap.size := hB.lt
      have HB := Lib.hid hB
      clear hB HD2 Hb2
      generalize w2.alloc (.cells #[.int .i64 kind, .int .i64 ag, .int .i64 sh, .int .i64 seq, .int .i64 ep, .slice A ds.length c, .string ser, .int .i64 fr, .int .i64 tag] 26) = w3 at *
      generalize w2.heap.size = g3 at *
      have HBW : Hid (∀ W, Below w3.heap.size w3 W → Blk W g3 26 #[.int .i64 kind, .int .i64 ag, .int .i64 sh, .int .i64 seq, .int .i64 ep, .slice A ds.length c, .string ser, .int .i64 fr, .int .i64 tag]) := fun W hb => HB.out.below hb hg3
      have HDW : Hid (∀ W, Below w3.heap.size w3 W → Ds W [] (.slice A ds.length c) ds) := fun W hb => HD3.out.keep (M' := []) (Keeps.of_below hb) (by simp)
      have HmW : Hid (∀ W, Below w3.heap.size w3 W → W.cell? ⟨0, 0, none⟩ = some (.int .i64 m)) := fun W hb => Hm.out W (below_then Hb3.out hb)
      have HSA : Hid (∀ W, Below w3.heap.size w3 W → Calls Tryz.prog 17 #[.agg #[.int .i64 kind, .int .i64 ag, .int .i64 sh, .int .i64 seq, .int .i64 ep, .slice A ds.length c, .string ser, .int .i64 fr, .int .i64 tag]] W fun e w' => SamePost true W e w') := fun W hb => lawsame_any 10 ⟨kind, ag, sh, seq, ep, ds, ser, fr, tag⟩ (.slice A ds.length c) m W (HDW.out W hb) (by omega) HW.out (HmW.out W hb)
      have HOD : Hid (∀ W (what n : Int), n ≤ 9223372036854775807 → Below w3.heap.size w3 W → Calls Tryz.prog 18 #[.agg #[.int .i64 kind, .int .i64 ag, .int .i64 sh, .int .i64 seq, .int .i64 ep, .slice A ds.length c, .string ser, .int .i64 fr, .int .i64 tag], .int .i64 what, .int .i64 n] W fun e w' => OddPost 20 W e w') := fun W what n hn hb => odd_any 10 ⟨kind, ag, sh, seq, ep, ds, ser, fr, tag⟩ (.slice A ds.length c) what n W (HDW.out W hb) (by omega) HW.out hn
      have HSO : Hid (∀ W e dv, Below w3.heap.size w3 W → Ds W [] dv e.ds → Wide 20 e → Calls Tryz.prog 17 #[.agg (eCell (e, dv)).toArray] W fun r w' => SamePost true W r w') := fun W e dv hb hd hw => lawsame_any 20 e dv m W hd (by omega) hw (HmW.out W hb)
      have HBy : Hid (∀ W, Below w3.heap.size w3 W → Calls Tryz.prog 19 #[.agg #[.int .i64 kind, .int .i64 ag, .int .i64 sh, .int .i64 seq, .int .i64 ep, .slice A ds.length c, .string ser, .int .i64 fr, .int .i64 tag]] W fun r w' => OwnB (bytesE ⟨kind, ag, sh, seq, ep, ds, ser, fr, tag⟩) W r w') := fun W hb => rbytes_any ⟨kind, ag, sh, seq, ep, ds, ser, fr, tag⟩ (.slice A ds.length c) W Hr0.out (HDW.out W hb) Hsh.out Hwf.out
      have HRD : Hid (∀ (q : List UInt8) v W, q.length ≤ 1300 → Bs W [] v q → Below w3.heap.size w3 W → Calls Tryz.prog 20 #[v] W fun e w' => SamePost true W e w') := fun q v W hq hv hb => reads_any v q m W hv (by omega) (HmW.out W hb)
      clear HB HD3 HmW HDW Hr0 Hsh Hwf HW
      generalize bytesE ⟨kind, ag, sh, seq, ep, ds, ser, fr, tag⟩ = be at *
      obtain ⟨c0, c1, c2, c3, c4, c5, c6, c7, c8, _⟩ := rblk9 (HBW.out _ (Below.refl _ _))
      go_wp2_with fail
      refine (HSA.out _ (Below.refl _ _)).mono ?_
      rintro r w4 ⟨rfl, hb4⟩
      have Hb4 := Lib.hid hb4
      clear hb4 HSA c0 c1 c2 c3 c4 c5 c6 c7 c8
      go_wp2_with fail
      go_loopw [3] (fun i wr => ∃ y : Nat, i = .int .i64 y ∧ y ≤ 12 ∧ Hid (Below w3.heap.size w3 wr)) (fun i _ => 12 - (intOf i).toNat)
      case atStart => exact ⟨0, rfl, by omega, Hb4.out⟩
      case round =>
        obtain ⟨y, rfl, hy, Hbq⟩ := hrel
        by_cases hyl : y < 12
        · have hyli : (y : Int) < 12 := by omega
          have hBn := Blk.new wr 2 #[.int .i64 (-1), .int .i64 0, .int .i64 1, .int .i64 2, .int .i64 4, .int .i64 7, .int .i64 8, .int .i64 9223372036854775807]
          have Hbq2 := Lib.hid (Hbq.out.alloc Hbq.out.size (.cells #[.int .i64 (-1), .int .i64 0, .int .i64 1, .int .i64 2, .int .i64 4, .int .i64 7, .int .i64 8, .int .i64 9223372036854775807] 2))
          have hgn : wr.heap.size < (wr.alloc (.cells #[.int .i64 (-1), .int .i64 0, .int .i64 1, .int .i64 2, .int .i64 4, .int .i64 7, .int .i64 8, .int .i64 9223372036854775807] 2)).heap.size := hBn.lt
          have HBn := Lib.hid hBn
          clear hBn
          go_wp2_with fail
          generalize wr.alloc (.cells #[.int .i64 (-1), .int .i64 0, .int .i64 1, .int .i64 2, .int .i64 4, .int .i64 7, .int .i64 8, .int .i64 9223372036854775807] 2) = wn at *
          generalize wr.heap.size = gn at *
          go_loopw [27] (fun i wr => ∃ z : Nat, i = .int .i64 z ∧ z ≤ 8 ∧ Hid (Below wn.heap.size wn wr)) (fun i _ => 8 - (intOf i).toNat)
          case atStart => exact ⟨0, rfl, by omega, Below.refl _ _⟩
          case round =>
            obtain ⟨z, rfl, hz, Hbz⟩ := hrel
            have Hbz3 := Lib.hid (Hbq2.out.trans (Hbz.out.mono Hbq2.out.size))
            by_cases hzl : z < 8
            · have hzli : (z : Int) < 8 := by omega
              have hnl : z < numL.length := hzl
              have cn : wr.cell? ⟨gn, z, none⟩ = some (.int .i64 numL[z]) := by
                have h1 := (HBn.out.below Hbz.out hgn).cell z
                rw [show (#[.int .i64 (-1), .int .i64 0, .int .i64 1, .int .i64 2, .int .i64 4, .int .i64 7, .int .i64 8, .int .i64 9223372036854775807] : Array Value) = (numL.map (Value.int .i64)).toArray from rfl, List.getElem?_toArray, List.getElem?_map, List.getElem?_eq_getElem hnl] at h1
                exact h1
              have hnb : numL[z] ≤ 9223372036854775807 := by
                have : ∀ q ∈ numL, q ≤ (9223372036854775807 : Int) := by decide
                exact this _ (List.getElem_mem _)
              generalize numL[z] = nz at *
              have Ho := Lib.hid (HOD.out wr y nz hnb Hbz3.out)
              obtain ⟨c0, c1, c2, c3, c4, c5, c6, c7, c8, _⟩ := rblk9 (HBW.out _ Hbz3.out)
              clear hnl
              go_wp2_with fail
              refine Ho.out.mono ?_
              rintro r w6 ⟨e', dv', rfl, hd', hw', hb6⟩
              have Hb6 := Lib.hid (Hbz3.out.trans (hb6.mono Hbz3.out.size))
              have Hb6n := Lib.hid (below_then Hbz.out hb6)
              have Hs6 := Lib.hid (HSO.out w6 e' dv' Hb6.out hd' hw')
              clear hd' hw' hb6 Ho cn c0 c1 c2 c3 c4 c5 c6 c7 c8
              go_wp2_with fail
              refine Hs6.out.mono ?_
              rintro r w7 ⟨rfl, hb7⟩
              have Hb7 := Lib.hid (below_then Hb6n.out hb7)
              clear hb7 Hs6
              go_wp2
              go_roundw
              case rel => exact ⟨z + 1, by go_num, by omega, Hb7⟩
              case measure => simp [intOf] <;> omega
            · obtain rfl : z = 8 := by omega
              go_wp2
              go_roundw
              case rel => exact ⟨y + 1, by go_num, by omega, Hbz3⟩
              case measure => simp [intOf] <;> omega
        · obtain rfl : y = 12 := by omega
          obtain ⟨c0, c1, c2, c3, c4, c5, c6, c7, c8, _⟩ := rblk9 (HBW.out _ Hbq.out)
          go_wp2_with fail
          refine (HBy.out _ Hbq.out).mono ?_
          rintro r w8 ⟨vb, rfl, hownb, hb8⟩
          have Hb8 := Lib.hid (Hbq.out.trans (hb8.mono Hbq.out.size))
          have Hbs := Lib.hid (own_bs hownb)
          obtain ⟨Ab, cb, rfl, hcb⟩ := Hbs.out.len
          clear hownb hb8 c0 c1 c2 c3 c4 c5 c6 c7 c8 HOD HSO HBy
          have hbl2 : be.length ≤ 1200 := Hbl.out
          go_wp2_with fail
          go_loopw [7] (fun i wr => ∃ z : Nat, i = .int .i64 z ∧ z ≤ be.length + 1 ∧ Hid (Below w8.heap.size w8 wr)) (fun i _ => be.length + 1 - (intOf i).toNat)
          case atStart => exact ⟨0, rfl, by omega, Below.refl _ _⟩
          case round =>
            obtain ⟨z, rfl, hz, Hbz⟩ := hrel
            have Hbz3 := Lib.hid (Hb8.out.trans (Hbz.out.mono Hb8.out.size))
            by_cases hzl : z ≤ be.length
            · have hzli : (z : Int) ≤ (be.length : Int) := by omega
              have hzc : (z : Int) ≤ (cb : Int) := by omega
              by_cases h20 : x < 20
              · have h20i : (x : Int) < 20 := by omega
                have Hbq : Hid (Bs wr [] (.slice Ab z cb) (be.take z)) := (Hbs.out.keep (M' := []) (Keeps.of_below Hbz.out) (by simp)).headG z hzl
                have hqlen : Hid ((be.take z).length = z) := List.length_take_of_le hzl
                have HR1 := Lib.hid (HRD.out (be.take z) _ wr (by rw [hqlen.out]; omega) Hbq.out Hbz3.out)
                go_wp2_with fail
                refine HR1.out.mono ?_
                rintro r wA ⟨rfl, hbA⟩
                have HbA := Lib.hid (Hbz3.out.trans (hbA.mono Hbz3.out.size))
                have HbA8 := Lib.hid (below_then Hbz.out hbA)
                have HRz : Hid (Reads wA wA.heap.size 1 Ab z ((be.take z).map bV)) := by
                  have h := bs_reads (A := Ab) (c := cb) (l := be.take z) (by rw [hqlen.out]; exact Hbq.out.keep (M' := []) (Keeps.of_below hbA) (by simp))
                  rwa [hqlen.out] at h
                have HbsA := Lib.hid (Hbs.out.keep (M' := []) (Keeps.of_below HbA8.out) (by simp))
                clear hbA HR1 Hbq
                generalize be.take z = q at *
                go_wp2_with (at_builtin; go_must (refine wpList_append_g _ (by rfl) (.tmp 56) (.tmp 59) _ rfl wA.heap.size 5 i0 _ 1 1 Tryz.underlying36 Hi0.out Hz0.out Hz1.out Hz2.out rfl (by omega) (.slice (some ⟨wA.heap.size, 0, none⟩) 0 0) 0 [] rfl (World.ownsRow_made wA #[] 0 (Nat.le_refl _) (by unfold maxLen; omega) rfl) wA.heap.size Ab z cb (q.map bV) rfl (HRz.out.alloc (Nat.le_refl _) _) (bV_one q) (by unfold maxLen; omega) (by omega) (by simp) ?_))
                intro v5 w5 ho hg hat
                have Hown5 : Hid (w5.ownsRow wA.heap.size 5 1 v5 z (q.map bV)) := (show World.ownsRow _ _ _ _ _ _ _ by simpa using ho)
                have Hb5 : Hid (Below wA.heap.size wA w5) := grown_empty hg
                have hz5 : wA.heap.size ≤ w5.heap.size := Hb5.out.size
                clear ho hg hat
                have Hown6 := Lib.hid (Hown5.out.alloc (.cells #[.int .u8 1] 5))
                have Hb6 := Lib.hid (Hb5.out.alloc hz5 (.cells #[.int .u8 1] 5))
                go_wp2_with (at_builtin; refine wpList_append_g _ (by rfl) (.tmp 60) (.tmp 61) _ rfl wA.heap.size 5 i0 _ 1 1 Tryz.underlying36 Hi0.out Hz0.out Hz1.out Hz2.out rfl (by omega) v5 z (q.map bV) rfl Hown6.out (w5.heap.size + 1) (some ⟨w5.heap.size, 0, none⟩) 1 1 [.int .u8 1] rfl (reads_new w5 _ _ _ _ rfl) (by intro u hu; simp at hu; subst hu; rfl) (by unfold maxLen; omega) (by omega) (by simp; omega) ?_)
                intro v7 w7 ho hg hat
                have hq7 : (q ++ [(1 : UInt8)]).length = z + 1 := by rw [List.length_append, hqlen.out]; rfl
                have Hown7 : Hid (w7.ownsRow wA.heap.size 5 1 v7 (q ++ [(1 : UInt8)]).length ((q ++ [(1 : UInt8)]).map bV)) := by
                  show World.ownsRow _ _ _ _ _ _ _
                  rw [hq7, List.map_append]
                  exact ho
                have Hb7 : Hid (Below wA.heap.size wA w7) := Hb6.out.grown hg Hb6.out.size (fun g hg => (Hown5.out.lt g hg).1)
                have Hb73 := Lib.hid (HbA.out.trans (Hb7.out.mono HbA.out.size))
                have HR7 := Lib.hid (HRD.out (q ++ [(1 : UInt8)]) v7 w7 (by rw [hq7]; omega) (own_bs Hown7.out) Hb73.out)
                clear ho hg hat Hown6 Hb6 Hown7 hq7
                go_wp2_with fail
                refine HR7.out.mono ?_
                rintro r wC ⟨rfl, hbC⟩
                have HbC := Lib.hid (Hb73.out.trans (hbC.mono Hb73.out.size))
                have HbC8 := Lib.hid (below_then HbA8.out (below_then Hb7.out hbC))
                clear hbC HR7 Hb73 Hb7 Hb5 Hown5 HRz hz5
                by_cases hzl2 : z < be.length
                · have hzi2 : (z : Int) < (be.length : Int) := by omega
                  have HRb : Hid (Reads wC wC.heap.size 1 Ab be.length (be.map bV)) := bs_reads (Hbs.out.keep (M' := []) (Keeps.of_below HbC8.out) (by simp))
                  go_wp2_with (at_builtin; refine wpList_append_any _ rfl (.tmp 70) (.tmp 71) _ rfl wC.heap.size 5 i0 _ 1 1 Tryz.underlying36 Hi0.out Hz0.out Hz1.out Hz2.out rfl (by omega) (.slice (some ⟨wC.heap.size, 0, none⟩) 0 0) 0 [] rfl (World.ownsRow_made wC #[] 0 (Nat.le_refl _) (by unfold maxLen; omega) rfl) wC.heap.size Ab be.length cb (be.map bV) rfl (HRb.out.alloc (Nat.le_refl _) _) (bV_one be) (by unfold maxLen; omega) (by omega) (by simp) ?_)
                  intro v9 w9 ho hg hat
                  have hown9 : w9.ownsRow wC.heap.size 5 1 v9 be.length (be.map bV) := by simpa using ho
                  have Hb9 : Hid (Below wC.heap.size wC w9) := grown_empty hg
                  clear ho hg hat HRb
                  obtain ⟨g9, cap9, rfl, hg9, hgl9⟩ := hown9.form (by omega)
                  have hcell9 : w9.cell? ⟨g9, z, none⟩ = some (.int .u8 be[z].toNat) := by
                    obtain ⟨A', c', he, _, _, hx⟩ := Rd.of_own (M := []) hown9 (by simp)
                    obtain ⟨g', off', rfl, _, _, hcc⟩ := hx (by omega)
                    injection he with h1 _ _
                    injection h1 with h1
                    injection h1 with h1 h2 _
                    subst h1 h2
                    have := hcc z (bV be[z]) (by rw [List.getElem?_map, List.getElem?_eq_getElem hzl2]; rfl)
                    rwa [Nat.zero_add] at this
                  have hfz9 : w9.frozen? ⟨g9, z, none⟩ = false := by
                    rcases hown9.2 with ⟨h, _⟩ | ⟨g', cap', cur, hv, _, hg, _⟩
                    · cases h
                    · injection hv with h1 _ _
                      injection h1 with h1
                      injection h1 with h1 _ _
                      subst h1
                      exact Base.Blk.frozen hg _
                  obtain ⟨yy, hyy⟩ := u8_xor_some be[z] (2 ^ (x % 8) % 256) (Nat.mod_lt _ (by omega))
                  have Hown9 := Lib.hid hown9
                  clear hown9
                  go_wp2_with fail
                  have hyy2 : bits .xor .u8 (be[z].toNat : Int) (2 ^ (x % 8) % 256) = (yy.toNat : Int) := by
                    have h := hyy
                    rw [Int.natCast_emod, Int.natCast_pow] at h
                    exact h
                  rw [hyy2]
                  have hownX : (w9.setCell ⟨g9, z, none⟩ (.int .u8 yy.toNat)).ownsRow wC.heap.size 5 1 (.slice (some ⟨g9, 0, none⟩) be.length cap9) (be.set z yy).length ((be.set z yy).map bV) := by
                    have := own_set Hown9.out z (bV yy) (by omega)
                    rw [List.length_set, List.map_set]
                    exact this
                  have hb9x : Below wC.heap.size wC (w9.setCell ⟨g9, z, none⟩ (.int .u8 yy.toNat)) := Hb9.out.setCell hg9 _
                  have HR9 := HRD.out (be.set z yy) _ _ (by rw [List.length_set]; omega) (own_bs hownX) (HbC.out.trans (hb9x.mono HbC.out.size))
                  have Hb9x := Lib.hid (below_then HbC8.out hb9x)
                  clear hyy hyy2 hownX hb9x hcell9 hfz9
                  refine HR9.mono ?_
                  rintro r wE ⟨rfl, hbE⟩
                  have HbE := Lib.hid (below_then Hb9x.out hbE)
                  clear hbE HR9
                  go_wp2
                  go_roundw
                  case rel => exact ⟨z + 1, by go_num, by omega, HbE⟩
                  case measure => simp [intOf] <;> omega
                · have hzi2 : decide ((z : Int) < (be.length : Int)) = false := decide_eq_false (by omega)
                  go_wp2
                  go_roundw
                  case rel => exact ⟨z + 1, by go_num, by omega, HbC8⟩
                  case measure => simp [intOf] <;> omega
              · have h20i : decide ((x : Int) < 20) = false := decide_eq_false (by omega)
                go_wp2
                go_roundw
                case rel => exact ⟨x + 1, by go_num, by omega, below_then Hb3.out Hbz3.out⟩
                case measure => simp [intOf] <;> omega
            · have hzli : decide ((z : Int) ≤ (be.length : Int)) = false := decide_eq_false (by omega)
              go_wp2
              go_roundw
              case rel => exact ⟨x + 1, by go_num, by omega, below_then Hb3.out Hbz3.out⟩
              case measure => simp [intOf] <;> omega
    · obtain rfl : x = 60 := by omega
      go_wp2_with fail
      refine (known_any m wr (Hm.out wr Hb.out)).mono ?_
      rintro r w9 ⟨rfl, hb9⟩
      have Hb9 := Lib.hid (below_then Hb.out hb9)
      clear hb9
      go_wp2
      go_ret
      exact ⟨rfl, Hb9.out⟩
end Go.Proofs.YtinnifhnabncfaaGreatDoor.Vi
end
