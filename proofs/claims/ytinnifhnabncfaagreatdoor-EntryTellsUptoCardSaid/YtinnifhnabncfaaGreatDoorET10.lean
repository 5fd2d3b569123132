/- Texts put together: EnN, JoinP, RfJ, RefJ. -/
import Derived.Deep.RegionWith
import Derived.Test.YtinnifhnabncfaaGreatDoorET8
import Derived.Test.YtinnifhnabncfaaGreatDoorET9
set_option linter.unusedVariables false
set_option linter.unusedSimpArgs false
/- The walk of hopperlaw4.EntryNumbers. -/
section
namespace Go.Proofs.YtinnifhnabncfaaGreatDoor.Vi
open Go.RowKit Base Mem Tape Go.Shelf
theorem infoInt4 : (Tryz.prog.info? 3).map (fun i => (i.zero, i.size, i.bytes)) = some (some (.int .i64 0), 1, 8) := by kernel_rfl
def Tape400E (w : World) (e : Ending) (w' : World) : Prop := ∃ (v : Value) (l : List Int), e = .returned v ∧ l.length = 400 ∧ w'.ownsRow w.heap.size 3 1 v 400 (l.map (Value.int .i64)) ∧ Below w.heap.size w w'
set_option maxRecDepth 100000 in
theorem tape4_any (k : Nat) (w : World) (hk : k ≤ 60) : Calls Tryz.prog 15 #[.int .i64 k] w fun e w' => Tape400E w e w' := by
  obtain ⟨i0, hi0, hz0, hz1, hz2⟩ := info_parts infoInt4
  have Hi0 := Lib.hid hi0; have Hz0 := Lib.hid hz0; have Hz1 := Lib.hid hz1; have Hz2 := Lib.hid hz2
  clear hi0 hz0 hz1 hz2
  go_enter Tryz.func15, Tryz.ntmps15
  go_wp2
  go_loopw [3, 4] (fun out i wr => ∃ (x : Nat) (l : List Int), i = .int .i64 x ∧ x ≤ 400 ∧ Hid (l.length = x) ∧ Hid (wr.ownsRow w.heap.size 3 1 out x (l.map (Value.int .i64))) ∧ Hid (Below w.heap.size w wr)) (fun _ i _ => 400 - (intOf i).toNat)
  case atStart => exact ⟨0, [], rfl, by omega, rfl, World.ownsRow_nil _ _ _ _, Below.refl _ _⟩
  case round =>
    obtain ⟨x, l, rfl, hx, Hl, Hown, Hb⟩ := hrel
    by_cases hx4 : x < 400
    · have hm1 : 0 ≤ (x : Int) * x ∧ (x : Int) * x ≤ 400 * 400 := ⟨Int.mul_nonneg (by omega) (by omega), Int.mul_le_mul (by omega) (by omega) (by omega) (by omega)⟩
      have hm2 : 0 ≤ (x : Int) * k ∧ (x : Int) * k ≤ 400 * 60 := ⟨Int.mul_nonneg (by omega) (by omega), Int.mul_le_mul (by omega) (by omega) (by omega) (by omega)⟩
      have Hown2 := Lib.hid (Hown.out.alloc (.cells #[.int .i64 (((x : Int) * x * 7 + k * 23 + x * k) % 211)] 3))
      go_wp2_with (at_builtin; refine wpList_append_any _ rfl (.tmp 9) (.tmp 22) _ rfl w.heap.size 3 i0 _ 1 8 Tryz.underlying28 Hi0.out Hz0.out Hz1.out Hz2.out rfl (by omega) u3 x (l.map (Value.int .i64)) rfl Hown2.out (wr.heap.size + 1) (some ⟨wr.heap.size, 0, none⟩) 1 1 [.int .i64 (((x : Int) * x * 7 + k * 23 + x * k) % 211)] rfl (reads_new _ _ _ _ _ rfl) (by intro u hu; simp at hu; subst hu; rfl) (by unfold maxLen; omega) (by omega) (by have := Hb.out.size; simp; omega) ?_)
      intro v' w4 hown4 hg4 hat4
      have Hb4 : Hid (Below w.heap.size w w4) := (Hb.out.alloc Hb.out.size _).grown hg4 (by have := Hb.out.size; simp; omega) (fun g hg => (Hown.out.lt g hg).1)
      have Hl4 : Hid ((l ++ [((x : Int) * x * 7 + k * 23 + x * k) % 211]).length = x + 1) := by show _ = _; rw [List.length_append, Hl.out]; rfl
      have Hown4 : Hid (w4.ownsRow w.heap.size 3 1 v' (x + 1) ((l ++ [((x : Int) * x * 7 + k * 23 + x * k) % 211]).map (Value.int .i64))) := by show World.ownsRow _ _ _ _ _ _ _; rw [List.map_append]; exact hown4
      clear hown4 hg4 hat4
      go_wp2
      go_roundw
      case rel => exact ⟨x + 1, _, by go_num, by omega, Hl4, Hown4, Hb4⟩
      case measure => simp [intOf] <;> omega
    · obtain rfl : x = 400 := by omega
      have hp : Hid (Tape400E w (.returned u3) wr) := ⟨u3, l, rfl, Hl.out, Hown.out, Hb.out⟩
      go_wp2
      go_ret
      exact hp.out
theorem nums_own {w : World} {base : Nat} {t : TypeId} {v : Value} {l : List Int} (h : w.ownsRow base t 1 v l.length (l.map (Value.int .i64))) : ∃ A c, v = .slice A l.length c ∧ Nums w A c l := by
  obtain ⟨A, c, rfl, hc, _, hx⟩ := Rd.of_own (M := []) h (by simp)
  refine ⟨A, c, rfl, hc, ?_, fun h0 => ?_⟩
  · rcases h.2 with ⟨hv, _⟩ | ⟨g, cap, cur, hv, _, _, _, hm, _⟩
    · injection hv with _ _ h3; omega
    · injection hv with _ _ h3
      have : maxLen ≤ 9223372036854775807 := by unfold maxLen; omega
      omega
  · obtain ⟨g, off, e, hg, _, hc2⟩ := hx h0
    exact ⟨g, off, e, hg, fun j x hj => hc2 j _ (by rw [List.getElem?_map, hj]; rfl)⟩
theorem entry_wide {e : EntryD} (h : EntryOk e) : Wide 10 e := by
  obtain ⟨hr, hs, hw⟩ := entry_right h
  obtain ⟨f0, f8, t0, t40, hk⟩ := h
  rcases hk with ⟨_, hn, _, _, hq, hp, hd⟩ | ⟨_, hse, _, _, _, _, hq0, hq, hp0, hp, hd0, hd4, hd⟩
  · refine ⟨by have := (name_ser hn).2; omega, by rw [hd]; simp, by rw [hd]; simp, by rw [hd]; simp, by omega, by omega, by omega⟩
  · refine ⟨by rw [hse]; show (0 : Nat) ≤ _; omega, fun d hx => by have := (name_ser (hd d hx).1).2; omega, hw.2.2.2, by omega, by omega, by omega, by omega⟩
theorem u8_xor_natE (a b : Nat) (ha : a < 256) (hb : b < 256) : bits .xor .u8 (a : Int) (b : Int) = ((a ^^^ b : Nat) : Int) := by
  have h : a ^^^ b < 256 := Nat.xor_lt_two_pow (n := 8) ha hb
  show IntKind.u8.wrap ((BitVec.ofInt 8 (a : Int) ^^^ BitVec.ofInt 8 (b : Int)).toNat : Int) = _
  rw [BitVec.toNat_xor, BitVec.ofInt_natCast, BitVec.ofInt_natCast, BitVec.toNat_ofNat, BitVec.toNat_ofNat, Nat.mod_eq_of_lt (by omega), Nat.mod_eq_of_lt (by omega), IntKind.wrap_u8]
  omega
theorem u8_xor_some (cc : UInt8) (p : Nat) (hp : p < 256) : ∃ y : UInt8, bits .xor .u8 (cc.toNat : Int) (p : Int) = (y.toNat : Int) := by
  have hc := UInt8.toNat_lt cc
  have h : cc.toNat ^^^ p < 256 := Nat.xor_lt_two_pow (n := 8) (by omega) hp
  refine ⟨UInt8.ofNat (cc.toNat ^^^ p), ?_⟩
  rw [UInt8.toNat_ofNat_of_lt' h]
  exact u8_xor_natE _ _ (by omega) hp
theorem wpList_append_g {P : Program} {ops : Array Oper} {rest : List Oper} {o : Oper} {a : Act} {Q : Exit → Act → World → Prop} (w : World) (hw : Region.wanted o (yielded ops a.tmps) = true) (s x : Operand) (t : TypeId)
    (ho : o.op = .call { callee := .builtin .append, args := #[s, x], argTypes := #[t, t] })
    (base : Nat) (e : TypeId) (i : TypeInfo) (z : Value) (size bytes : Nat) (ht : P.underlying t = some (.slice e)) (hi : P.info? e = some i) (hz : i.zero = some z)
    (hsize : i.size = size) (hby : i.bytes = bytes) (hzs : z.cells.size = size) (hsz : 0 < size)
    (v : Value) (n : Nat) (xs : List Value) (hs : a.eval s = v) (hown : w.ownsRow base e size v n xs)
    (B : Nat) (A : Option Addr) (m c : Nat) (news : List Value) (hx : a.eval x = .slice A m c) (hr : Reads w B size A m news) (h1 : ∀ u ∈ news, u.oneCell' = true)
    (h63 : n + m ≤ maxLen) (hbytes : (n + m) * bytes ≤ 140737488355328) (hbase : base ≤ w.heap.size)
    (h : ∀ v' w', w'.ownsRow base e size v' (n + m) (xs ++ news) → w.grownBy w' v.ownBlock → (v'.ownBlock = v.ownBlock ∨ v'.ownBlock = some w.heap.size) → wpList P ops Q rest (a.put o.dst v') w') : wpList P ops Q (o :: rest) a w := by
  simp only [wpList]
  rw [if_pos hw]
  exact .inl (wp_append_any w s x t ho base e i z size bytes ht hi hz hsize hby hzs hsz v n xs hs hown B A m c news hx hr h1 h63 hbytes hbase h)
def numL : List Int := [-1, 0, 1, 2, 4, 7, 8, 9223372036854775807]
set_option maxRecDepth 100000 in
set_option maxHeartbeats 8000000 in
theorem enumbers_walk (m : Int) (w : World) (hm : w.cell? ⟨0, 0, none⟩ = some (.int .i64 m)) :
    Calls Tryz.prog 3 #[] w fun e w' => SamePost true w e w' := by
  have hw0 : 0 < w.heap.size := by
    have := World.block_lt_of_cell? w _ hm
    simpa using this
  have Hm : Hid (∀ W, Below w.heap.size w W → W.cell? ⟨0, 0, none⟩ = some (.int .i64 m)) := fun W hb => (hb.cell (p := ⟨0, 0, none⟩) hw0).trans hm
  obtain ⟨i0, hi0, hz0, hz1, hz2⟩ := info_parts infoU8
  have Hi0 := Lib.hid hi0; have Hz0 := Lib.hid hz0; have Hz1 := Lib.hid hz1; have Hz2 := Lib.hid hz2
  clear hm hi0 hz0 hz1 hz2
  go_enter Tryz.func3, Tryz.ntmps3
  go_wp2_with fail
  go_loopw [1] (fun i wr => ∃ x : Nat, i = .int .i64 x ∧ x ≤ 60 ∧ Hid (Below w.heap.size w wr)) (fun i _ => 60 - (intOf i).toNat)
  case atStart => exact ⟨0, rfl, by omega, Below.refl _ _⟩
  case round =>
    obtain ⟨x, rfl, hx, Hb⟩ := hrel
    by_cases hlt : x < 60
    · have hlti : (x : Int) < 60 := by omega
      go_wp2_with fail
      refine (tape4_any x wr (by omega)).mono ?_
      rintro e w1 ⟨v, l, rfl, hl, hown, hb1⟩
      rw [← hl] at hown
      obtain ⟨At, ct, rfl, hnums⟩ := nums_own hown
      have Hb1 := Lib.hid (below_then Hb.out hb1)
      have hT := tape_new hnums (Below.refl _ w1)
      have Hen := Lib.hid (entry_any w1.heap.size _ 0 _ hT)
      have Hba := Lib.hid (Hb1.out.alloc Hb1.out.size (.cells #[.slice At l.length ct, .int .i64 0] 31))
      have hz1 : w.heap.size ≤ w1.heap.size := Hb1.out.size
      clear hown hnums hT hb1 Hb1
      rw [hl] at Hen Hba
      go_wp2_with fail
      refine Hen.out.mono ?_
      rintro e w2 ⟨en, dv, k1, rfl, hok, hD, _, hk2⟩
      have Hb2 := Lib.hid ((Keeps.of_below (M := []) Hba.out).trans hk2 (by intro g hg; simp at hg; right; omega)).below
      have HD2 := Lib.hid (hD [] (by simp))
      have HW := Lib.hid (entry_wide hok)
      obtain ⟨hr0, hsh, hwf⟩ := entry_right hok
      have hbl := bytesE_len hok
      have Hr0 := Lib.hid hr0; have Hsh := Lib.hid hsh; have Hwf := Lib.hid hwf; have Hbl := Lib.hid hbl
      obtain ⟨A, c, rfl, _⟩ := HD2.out.len
      clear hok hD hk2 hr0 hsh hwf hbl Hen Hba hl
      obtain ⟨kind, ag, sh, seq, ep, ds, ser, fr, tag⟩ := en
      simp only [eCell] at *
      go_upto_region 5 with (fail)
      have hB := Blk.new w2 26 #[.int .i64 kind, .int .i64 ag, .int .i64 sh, .int .i64 seq, .int .i64 ep, .slice A ds.length c, .string ser, .int .i64 fr, .int .i64 tag]
      have HD3 : Hid (Ds (w2.alloc (.cells #[.int .i64 kind, .int .i64 ag, .int .i64 sh, .int .i64 seq, .int .i64 ep, .slice A ds.length c, .string ser, .int .i64 fr, .int .i64 tag] 26)) [] (.slice A ds.length c) ds) := HD2.out.keep (M' := []) ((Keeps.refl _ _).alloc _) (by simp)
      have Hb3 := Lib.hid (Hb2.out.alloc Hb2.out.size (.cells #[.int .i64 kind, .int .i64 ag, .int .i64 sh, .int .i64 seq, .int .i64 ep, .slice A ds.length c, .string ser, .int .i64 fr, .int .i64 tag] 26))
      have hg3 : w2.heap.size < (w2.alloc (.cells #[.int .i64 kind, .int .i64 ag, .int .i64 sh, .int .i64 seq, .int .i64 ep, .slice A ds.length c, .string ser, .int .i64 fr, .int .i64 tag] 26)).heap.size := hB.lt
      have HB := Lib.hid hB
      clear hB HD2 Hb2
      generalize w2.alloc (.cells #[.int .i64 kind, .int .i64 ag, .int .i64 sh, .int .i64 seq, .int .i64 ep, .slice A ds.length c, .string ser, .int .i64 fr, .int .i64 tag] 26) = w3 at *
      generalize w2.heap.size = g3 at *
      have HBW : Hid (∀ W, Below w3.heap.size w3 W → Blk W g3 26 #[.int .i64 kind, .int .i64 ag, .int .i64 sh, .int .i64 seq, .int .i64 ep, .slice A ds.length c, .string ser, .int .i64 fr, .int .i64 tag]) := fun W hb => HB.out.below hb hg3
      have HDW : Hid (∀ W, Below w3.heap.size w3 W → Ds W [] (.slice A ds.length c) ds) := fun W hb => HD3.out.keep (M' := []) (Keeps.of_below hb) (by simp)
      have HmW : Hid (∀ W, Below w3.heap.size w3 W → W.cell? ⟨0, 0, none⟩ = some (.int .i64 m)) := fun W hb => Hm.out W (below_then Hb3.out hb)
      have HSA : Hid (∀ W, Below w3.heap.size w3 W → Calls Tryz.prog 17 #[.agg #[.int .i64 kind, .int .i64 ag, .int .i64 sh, .int .i64 seq, .int .i64 ep, .slice A ds.length c, .string ser, .int .i64 fr, .int .i64 tag]] W fun e w' => SamePost true W e w') := fun W hb => lawsame_any 10 ⟨kind, ag, sh, seq, ep, ds, ser, fr, tag⟩ (.slice A ds.length c) m W (HDW.out W hb) (by omega) HW.out (HmW.out W hb)
      have HOD : Hid (∀ W (what n : Int), n ≤ 9223372036854775807 → Below w3.heap.size w3 W → Calls Tryz.prog 18 #[.agg #[.int .i64 kind, .int .i64 ag, .int .i64 sh, .int .i64 seq, .int .i64 ep, .slice A ds.length c, .string ser, .int .i64 fr, .int .i64 tag], .int .i64 what, .int .i64 n] W fun e w' => OddPost 20 W e w') := fun W what n hn hb => odd_any 10 ⟨kind, ag, sh, seq, ep, ds, ser, fr, tag⟩ (.slice A ds.length c) what n W (HDW.out W hb) (by omega) HW.out hn
      have HSO : Hid (∀ W e dv, Below w3.heap.size w3 W → Ds W [] dv e.ds → Wide 20 e → Calls Tryz.prog 17 #[.agg (eCell (e, dv)).toArray] W fun r w' => SamePost true W r w') := fun W e dv hb hd hw => lawsame_any 20 e dv m W hd (by omega) hw (HmW.out W hb)
      have HBy : Hid (∀ W, Below w3.heap.size w3 W → Calls Tryz.prog 19 #[.agg #[.int .i64 kind, .int .i64 ag, .int .i64 sh, .int .i64 seq, .int .i64 ep, .slice A ds.length c, .string ser, .int .i64 fr, .int .i64 tag]] W fun r w' => OwnB (bytesE ⟨kind, ag, sh, seq, ep, ds, ser, fr, tag⟩) W r w') := fun W hb => rbytes_any ⟨kind, ag, sh, seq, ep, ds, ser, fr, tag⟩ (.slice A ds.length c) W Hr0.out (HDW.out W hb) Hsh.out Hwf.out
      have HRD : Hid (∀ (q : List UInt8) v W, q.length ≤ 1300 → Bs W [] v q → Below w3.heap.size w3 W → Calls Tryz.prog 20 #[v] W fun e w' => SamePost true W e w') := fun q v W hq hv hb => reads_any v q m W hv (by omega) (HmW.out W hb)
      clear HB HD3 HmW HDW Hr0 Hsh Hwf HW
      generalize bytesE ⟨kind, ag, sh, seq, ep, ds, ser, fr, tag⟩ = be at *
      obtain ⟨c0, c1, c2, c3, c4, c5, c6, c7, c8, _⟩ := rblk9 (HBW.out _ (Below.refl _ _))
      go_wp2_with fail
      refine (HSA.out _ (Below.refl _ _)).mono ?_
      rintro r w4 ⟨rfl, hb4⟩
      have Hb4 := Lib.hid hb4
      clear hb4 HSA c0 c1 c2 c3 c4 c5 c6 c7 c8
      go_wp2_with fail
      go_loopw [3] (fun i wr => ∃ y : Nat, i = .int .i64 y ∧ y ≤ 12 ∧ Hid (Below w3.heap.size w3 wr)) (fun i _ => 12 - (intOf i).toNat)
      case atStart => exact ⟨0, rfl, by omega, Hb4.out⟩
      case round =>
        obtain ⟨y, rfl, hy, Hbq⟩ := hrel
        by_cases hyl : y < 12
        · have hyli : (y : Int) < 12 := by omega
          have hBn := Blk.new wr 2 #[.int .i64 (-1), .int .i64 0, .int .i64 1, .int .i64 2, .int .i64 4, .int .i64 7, .int .i64 8, .int .i64 9223372036854775807]
          have Hbq2 := Lib.hid (Hbq.out.alloc Hbq.out.size (.cells #[.int .i64 (-1), .int .i64 0, .int .i64 1, .int .i64 2, .int .i64 4, .int .i64 7, .int .i64 8, .int .i64 9223372036854775807] 2))
          have hgn : wr.heap.size < (wr.alloc (.cells #[.int .i64 (-1), .int .i64 0, .int .i64 1, .int .i64 2, .int .i64 4, .int .i64 7, .int .i64 8, .int .i64 9223372036854775807] 2)).heap.size := hBn.lt
          have HBn := Lib.hid hBn
          clear hBn
          go_wp2_with fail
          generalize wr.alloc (.cells #[.int .i64 (-1), .int .i64 0, .int .i64 1, .int .i64 2, .int .i64 4, .int .i64 7, .int .i64 8, .int .i64 9223372036854775807] 2) = wn at *
          generalize wr.heap.size = gn at *
          go_loopw [27] (fun i wr => ∃ z : Nat, i = .int .i64 z ∧ z ≤ 8 ∧ Hid (Below wn.heap.size wn wr)) (fun i _ => 8 - (intOf i).toNat)
          case atStart => exact ⟨0, rfl, by omega, Below.refl _ _⟩
          case round =>
            obtain ⟨z, rfl, hz, Hbz⟩ := hrel
            have Hbz3 := Lib.hid (Hbq2.out.trans (Hbz.out.mono Hbq2.out.size))
            by_cases hzl : z < 8
            · have hzli : (z : Int) < 8 := by omega
              have hnl : z < numL.length := hzl
              have cn : wr.cell? ⟨gn, z, none⟩ = some (.int .i64 numL[z]) := by
                have h1 := (HBn.out.below Hbz.out hgn).cell z
                rw [show (#[.int .i64 (-1), .int .i64 0, .int .i64 1, .int .i64 2, .int .i64 4, .int .i64 7, .int .i64 8, .int .i64 9223372036854775807] : Array Value) = (numL.map (Value.int .i64)).toArray from rfl, List.getElem?_toArray, List.getElem?_map, List.getElem?_eq_getElem hnl] at h1
                exact h1
              have hnb : numL[z] ≤ 9223372036854775807 := by
                have : ∀ q ∈ numL, q ≤ (9223372036854775807 : Int) := by decide
                exact this _ (List.getElem_mem _)
              generalize numL[z] = nz at *
              have Ho := Lib.hid (HOD.out wr y nz hnb Hbz3.out)
              obtain ⟨c0, c1, c2, c3, c4, c5, c6, c7, c8, _⟩ := rblk9 (HBW.out _ Hbz3.out)
              clear hnl
              go_wp2_with fail
              refine Ho.out.mono ?_
              rintro r w6 ⟨e', dv', rfl, hd', hw', hb6⟩
              have Hb6 := Lib.hid (Hbz3.out.trans (hb6.mono Hbz3.out.size))
              have Hb6n := Lib.hid (below_then Hbz.out hb6)
              have Hs6 := Lib.hid (HSO.out w6 e' dv' Hb6.out hd' hw')
              clear hd' hw' hb6 Ho cn c0 c1 c2 c3 c4 c5 c6 c7 c8
              go_wp2_with fail
              refine Hs6.out.mono ?_
              rintro r w7 ⟨rfl, hb7⟩
              have Hb7 := Lib.hid (below_then Hb6n.out hb7)
              clear hb7 Hs6
              go_wp2
              go_roundw
              case rel => exact ⟨z + 1, by go_num, by omega, Hb7⟩
              case measure => simp [intOf] <;> omega
            · obtain rfl : z = 8 := by omega
              go_wp2
              go_roundw
              case rel => exact ⟨y + 1, by go_num, by omega, Hbz3⟩
              case measure => simp [intOf] <;> omega
        · obtain rfl : y = 12 := by omega
          obtain ⟨c0, c1, c2, c3, c4, c5, c6, c7, c8, _⟩ := rblk9 (HBW.out _ Hbq.out)
          go_wp2_with fail
          refine (HBy.out _ Hbq.out).mono ?_
          rintro r w8 ⟨vb, rfl, hownb, hb8⟩
          have Hb8 := Lib.hid (Hbq.out.trans (hb8.mono Hbq.out.size))
          have Hbs := Lib.hid (own_bs hownb)
          obtain ⟨Ab, cb, rfl, hcb⟩ := Hbs.out.len
          clear hownb hb8 c0 c1 c2 c3 c4 c5 c6 c7 c8 HOD HSO HBy
          have hbl2 : be.length ≤ 1200 := Hbl.out
          go_wp2_with fail
          go_loopw [7] (fun i wr => ∃ z : Nat, i = .int .i64 z ∧ z ≤ be.length + 1 ∧ Hid (Below w8.heap.size w8 wr)) (fun i _ => be.length + 1 - (intOf i).toNat)
          case atStart => exact ⟨0, rfl, by omega, Below.refl _ _⟩
          case round =>
            obtain ⟨z, rfl, hz, Hbz⟩ := hrel
            have Hbz3 := Lib.hid (Hb8.out.trans (Hbz.out.mono Hb8.out.size))
            by_cases hzl : z ≤ be.length
            · have hzli : (z : Int) ≤ (be.length : Int) := by omega
              have hzc : (z : Int) ≤ (cb : Int) := by omega
              by_cases h20 : x < 20
              · have h20i : (x : Int) < 20 := by omega
                have Hbq : Hid (Bs wr [] (.slice Ab z cb) (be.take z)) := (Hbs.out.keep (M' := []) (Keeps.of_below Hbz.out) (by simp)).headG z hzl
                have hqlen : Hid ((be.take z).length = z) := List.length_take_of_le hzl
                have HR1 := Lib.hid (HRD.out (be.take z) _ wr (by rw [hqlen.out]; omega) Hbq.out Hbz3.out)
                go_wp2_with fail
                refine HR1.out.mono ?_
                rintro r wA ⟨rfl, hbA⟩
                have HbA := Lib.hid (Hbz3.out.trans (hbA.mono Hbz3.out.size))
                have HbA8 := Lib.hid (below_then Hbz.out hbA)
                have HRz : Hid (Reads wA wA.heap.size 1 Ab z ((be.take z).map bV)) := by
                  have h := bs_reads (A := Ab) (c := cb) (l := be.take z) (by rw [hqlen.out]; exact Hbq.out.keep (M' := []) (Keeps.of_below hbA) (by simp))
                  rwa [hqlen.out] at h
                have HbsA := Lib.hid (Hbs.out.keep (M' := []) (Keeps.of_below HbA8.out) (by simp))
                clear hbA HR1 Hbq
                generalize be.take z = q at *
                go_wp2_with (at_builtin; go_must (refine wpList_append_g _ (by rfl) (.tmp 56) (.tmp 59) _ rfl wA.heap.size 5 i0 _ 1 1 Tryz.underlying36 Hi0.out Hz0.out Hz1.out Hz2.out rfl (by omega) (.slice (some ⟨wA.heap.size, 0, none⟩) 0 0) 0 [] rfl (World.ownsRow_made wA #[] 0 (Nat.le_refl _) (by unfold maxLen; omega) rfl) wA.heap.size Ab z cb (q.map bV) rfl (HRz.out.alloc (Nat.le_refl _) _) (bV_one q) (by unfold maxLen; omega) (by omega) (by simp) ?_))
                intro v5 w5 ho hg hat
                have Hown5 : Hid (w5.ownsRow wA.heap.size 5 1 v5 z (q.map bV)) := (show World.ownsRow _ _ _ _ _ _ _ by simpa using ho)
                have Hb5 : Hid (Below wA.heap.size wA w5) := grown_empty hg
                have hz5 : wA.heap.size ≤ w5.heap.size := Hb5.out.size
                clear ho hg hat
                have Hown6 := Lib.hid (Hown5.out.alloc (.cells #[.int .u8 1] 5))
                have Hb6 := Lib.hid (Hb5.out.alloc hz5 (.cells #[.int .u8 1] 5))
                go_wp2_with (at_builtin; refine wpList_append_g _ (by rfl) (.tmp 60) (.tmp 61) _ rfl wA.heap.size 5 i0 _ 1 1 Tryz.underlying36 Hi0.out Hz0.out Hz1.out Hz2.out rfl (by omega) v5 z (q.map bV) rfl Hown6.out (w5.heap.size + 1) (some ⟨w5.heap.size, 0, none⟩) 1 1 [.int .u8 1] rfl (reads_new w5 _ _ _ _ rfl) (by intro u hu; simp at hu; subst hu; rfl) (by unfold maxLen; omega) (by omega) (by simp; omega) ?_)
                intro v7 w7 ho hg hat
                have hq7 : (q ++ [(1 : UInt8)]).length = z + 1 := by rw [List.length_append, hqlen.out]; rfl
                have Hown7 : Hid (w7.ownsRow wA.heap.size 5 1 v7 (q ++ [(1 : UInt8)]).length ((q ++ [(1 : UInt8)]).map bV)) := by
                  show World.ownsRow _ _ _ _ _ _ _
                  rw [hq7, List.map_append]
                  exact ho
                have Hb7 : Hid (Below wA.heap.size wA w7) := Hb6.out.grown hg Hb6.out.size (fun g hg => (Hown5.out.lt g hg).1)
                have Hb73 := Lib.hid (HbA.out.trans (Hb7.out.mono HbA.out.size))
                have HR7 := Lib.hid (HRD.out (q ++ [(1 : UInt8)]) v7 w7 (by rw [hq7]; omega) (own_bs Hown7.out) Hb73.out)
                clear ho hg hat Hown6 Hb6 Hown7 hq7
                go_wp2_with fail
                refine HR7.out.mono ?_
                rintro r wC ⟨rfl, hbC⟩
                have HbC := Lib.hid (Hb73.out.trans (hbC.mono Hb73.out.size))
                have HbC8 := Lib.hid (below_then HbA8.out (below_then Hb7.out hbC))
                clear hbC HR7 Hb73 Hb7 Hb5 Hown5 HRz hz5
                by_cases hzl2 : z < be.length
                · have hzi2 : (z : Int) < (be.length : Int) := by omega
                  have HRb : Hid (Reads wC wC.heap.size 1 Ab be.length (be.map bV)) := bs_reads (Hbs.out.keep (M' := []) (Keeps.of_below HbC8.out) (by simp))
                  go_wp2_with (at_builtin; refine wpList_append_any _ rfl (.tmp 70) (.tmp 71) _ rfl wC.heap.size 5 i0 _ 1 1 Tryz.underlying36 Hi0.out Hz0.out Hz1.out Hz2.out rfl (by omega) (.slice (some ⟨wC.heap.size, 0, none⟩) 0 0) 0 [] rfl (World.ownsRow_made wC #[] 0 (Nat.le_refl _) (by unfold maxLen; omega) rfl) wC.heap.size Ab be.length cb (be.map bV) rfl (HRb.out.alloc (Nat.le_refl _) _) (bV_one be) (by unfold maxLen; omega) (by omega) (by simp) ?_)
                  intro v9 w9 ho hg hat
                  have hown9 : w9.ownsRow wC.heap.size 5 1 v9 be.length (be.map bV) := by simpa using ho
                  have Hb9 : Hid (Below wC.heap.size wC w9) := grown_empty hg
                  clear ho hg hat HRb
                  obtain ⟨g9, cap9, rfl, hg9, hgl9⟩ := hown9.form (by omega)
                  have hcell9 : w9.cell? ⟨g9, z, none⟩ = some (.int .u8 be[z].toNat) := by
                    obtain ⟨A', c', he, _, _, hx⟩ := Rd.of_own (M := []) hown9 (by simp)
                    obtain ⟨g', off', rfl, _, _, hcc⟩ := hx (by omega)
                    injection he with h1 _ _
                    injection h1 with h1
                    injection h1 with h1 h2 _
                    subst h1 h2
                    have := hcc z (bV be[z]) (by rw [List.getElem?_map, List.getElem?_eq_getElem hzl2]; rfl)
                    rwa [Nat.zero_add] at this
                  have hfz9 : w9.frozen? ⟨g9, z, none⟩ = false := by
                    rcases hown9.2 with ⟨h, _⟩ | ⟨g', cap', cur, hv, _, hg, _⟩
                    · cases h
                    · injection hv with h1 _ _
                      injection h1 with h1
                      injection h1 with h1 _ _
                      subst h1
                      exact Base.Blk.frozen hg _
                  obtain ⟨yy, hyy⟩ := u8_xor_some be[z] (2 ^ (x % 8) % 256) (Nat.mod_lt _ (by omega))
                  have Hown9 := Lib.hid hown9
                  clear hown9
                  go_wp2_with fail
                  have hyy2 : bits .xor .u8 (be[z].toNat : Int) (2 ^ (x % 8) % 256) = (yy.toNat : Int) := by
                    have h := hyy
                    rw [Int.natCast_emod, Int.natCast_pow] at h
                    exact h
                  rw [hyy2]
                  have hownX : (w9.setCell ⟨g9, z, none⟩ (.int .u8 yy.toNat)).ownsRow wC.heap.size 5 1 (.slice (some ⟨g9, 0, none⟩) be.length cap9) (be.set z yy).length ((be.set z yy).map bV) := by
                    have := own_set Hown9.out z (bV yy) (by omega)
                    rw [List.length_set, List.map_set]
                    exact this
                  have hb9x : Below wC.heap.size wC (w9.setCell ⟨g9, z, none⟩ (.int .u8 yy.toNat)) := Hb9.out.setCell hg9 _
                  have HR9 := HRD.out (be.set z yy) _ _ (by rw [List.length_set]; omega) (own_bs hownX) (HbC.out.trans (hb9x.mono HbC.out.size))
                  have Hb9x := Lib.hid (below_then HbC8.out hb9x)
                  clear hyy hyy2 hownX hb9x hcell9 hfz9
                  refine HR9.mono ?_
                  rintro r wE ⟨rfl, hbE⟩
                  have HbE := Lib.hid (below_then Hb9x.out hbE)
                  clear hbE HR9
                  go_wp2
                  go_roundw
                  case rel => exact ⟨z + 1, by go_num, by omega, HbE⟩
                  case measure => simp [intOf] <;> omega
                · have hzi2 : decide ((z : Int) < (be.length : Int)) = false := decide_eq_false (by omega)
                  go_wp2
                  go_roundw
                  case rel => exact ⟨z + 1, by go_num, by omega, HbC8⟩
                  case measure => simp [intOf] <;> omega
              · have h20i : decide ((x : Int) < 20) = false := decide_eq_false (by omega)
                go_wp2
                go_roundw
                case rel => exact ⟨x + 1, by go_num, by omega, below_then Hb3.out Hbz3.out⟩
                case measure => simp [intOf] <;> omega
            · have hzli : decide ((z : Int) ≤ (be.length : Int)) = false := decide_eq_false (by omega)
              go_wp2
              go_roundw
              case rel => exact ⟨x + 1, by go_num, by omega, below_then Hb3.out Hbz3.out⟩
              case measure => simp [intOf] <;> omega
    · obtain rfl : x = 60 := by omega
      go_wp2_with fail
      refine (known_any m wr (Hm.out wr Hb.out)).mono ?_
      rintro r w9 ⟨rfl, hb9⟩
      have Hb9 := Lib.hid (below_then Hb.out hb9)
      clear hb9
      go_wp2
      go_ret
      exact ⟨rfl, Hb9.out⟩
end Go.Proofs.YtinnifhnabncfaaGreatDoor.Vi
end
/- Plain words: joined deltas have each series once, and the same sums; joined again they stay. -/
section
namespace Go.Proofs.YtinnifhnabncfaaGreatDoor.Vi
open Go.RowKit Base Mem Tape
theorem ser_iff (a b : ByteArray) : (a.toList == b.toList) = true ↔ a = b := by
  rw [beq_iff_eq]
  exact ⟨toList_inj, fun h => by rw [h]⟩
theorem ser_ne {a b : ByteArray} (h : a ≠ b) : (a.toList == b.toList) = false := by
  rw [Bool.eq_false_iff]
  exact fun he => h ((ser_iff a b).1 he)
/-- The sum of a series. -/
def sumS (p : List DeltaD) (s : ByteArray) : Nat := (p.map fun d => if (d.ser.toList == s.toList) = true then d.n.toNat else 0).sum
theorem sumS_snoc (p : List DeltaD) (d : DeltaD) (s : ByteArray) : sumS (p ++ [d]) s = sumS p s + if (d.ser.toList == s.toList) = true then d.n.toNat else 0 := by
  unfold sumS
  rw [List.map_append, List.sum_append]
  simp
theorem sumS_none (p : List DeltaD) (s : ByteArray) (h : ∀ d ∈ p, d.ser ≠ s) : sumS p s = 0 := by
  induction p with
  | nil => rfl
  | cons d p ih =>
    have h1 := ih (fun x hx => h x (by simp [hx]))
    unfold sumS at h1 ⊢
    rw [List.map_cons, List.sum_cons, h1, ser_ne (h d (by simp))]
    simp
theorem sumS_le (p : List DeltaD) (s : ByteArray) (h : ∀ d ∈ p, d.n ≤ 65535) : sumS p s ≤ 65535 * p.length := by
  induction p with
  | nil => simp [sumS]
  | cons d p ih =>
    have h1 := ih (fun x hx => h x (by simp [hx]))
    have h2 := h d (by simp)
    unfold sumS at h1 ⊢
    rw [List.map_cons, List.sum_cons, List.length_cons]
    split <;> omega
/-- No two of one series. -/
def Dist (l : List DeltaD) : Prop := (l.map (·.ser)).Pairwise (· ≠ ·)
structure JInv (p acc : List DeltaD) : Prop where
  dist : Dist acc
  sums : ∀ y ∈ acc, y.n = (sumS p y.ser : Nat)
  all : ∀ d ∈ p, ∃ y ∈ acc, y.ser = d.ser
theorem map_set_ser (acc : List DeltaD) (k : Nat) (hk : k < acc.length) (n : Int) : (acc.set k ⟨acc[k].ser, n⟩).map (·.ser) = acc.map (·.ser) := by
  rw [List.map_set]
  apply List.ext_getElem (by simp)
  intro i h1 h2
  rw [List.getElem_set]
  split
  · subst_vars; simp
  · rfl
theorem dist_ne {l : List DeltaD} (h : Dist l) {i j : Nat} (hi : i < l.length) (hj : j < l.length) (hij : i ≠ j) : l[i].ser ≠ l[j].ser := by
  have h1 := List.pairwise_iff_getElem.1 h
  rcases Nat.lt_or_gt_of_ne hij with h2 | h2
  · have := h1 i j (by simpa using hi) (by simpa using hj) h2
    simpa using this
  · have := h1 j i (by simpa using hj) (by simpa using hi) h2
    intro e
    apply this
    simpa using e.symm
theorem jinv_step {p acc : List DeltaD} {d : DeltaD} (h : JInv p acc) (h0 : 0 ≤ d.n) (h1 : d.n ≤ 65535) (hp : ∀ x ∈ p, x.n ≤ 65535) (hl : p.length ≤ 1000) : JInv (p ++ [d]) (addD acc d) := by
  obtain ⟨hd, hs, ha⟩ := h
  unfold addD
  rcases ixD_cases acc d.ser with ⟨hix, hno⟩ | ⟨k, hk, hix, heq⟩
  · rw [hix, if_pos (by decide)]
    have hne : ∀ y ∈ acc, y.ser ≠ d.ser := fun y hy e => by have := hno y hy; rw [e] at this; simp at this
    refine ⟨?_, ?_, ?_⟩
    · unfold Dist
      rw [List.map_append, List.pairwise_append]
      refine ⟨hd, by simp, ?_⟩
      intro a ha' b hb'
      simp at ha' hb'
      obtain ⟨y, hy, rfl⟩ := ha'
      subst hb'
      exact hne y hy
    · intro y hy
      rw [sumS_snoc]
      rcases List.mem_append.1 hy with hy | hy
      · rw [ser_ne (fun e => hne y hy e.symm), hs y hy]; simp
      · simp at hy
        subst hy
        have h0' : sumS p y.ser = 0 := sumS_none p y.ser (fun x hx e => by
          obtain ⟨z, hz, hze⟩ := ha x hx
          exact hne z hz (hze.trans e))
        rw [h0', if_pos (by simp)]
        omega
    · intro x hx
      rcases List.mem_append.1 hx with hx | hx
      · obtain ⟨y, hy, e⟩ := ha x hx
        exact ⟨y, List.mem_append_left _ hy, e⟩
      · simp at hx
        subst hx
        exact ⟨x, by simp, rfl⟩
  · have hser : acc[k].ser = d.ser := (ser_iff _ _).1 heq
    rw [hix, if_neg (by omega), Int.toNat_natCast, getElem!_pos acc k hk]
    have hnk := hs acc[k] (List.getElem_mem _)
    have hle := sumS_le p acc[k].ser hp
    have hadd : addS acc[k].n.toNat d.n.toNat = sumS p acc[k].ser + d.n.toNat := by
      unfold addS
      rw [hnk, Int.toNat_natCast, if_neg (by omega)]
    rw [hadd]
    refine ⟨?_, ?_, ?_⟩
    · unfold Dist
      rw [map_set_ser acc k hk]
      exact hd
    · intro y hy
      rw [sumS_snoc]
      obtain ⟨i, hi, rfl⟩ := List.getElem_of_mem hy
      rw [List.length_set] at hi
      rw [List.getElem_set]
      by_cases hik : k = i
      · subst hik
        rw [if_pos rfl]
        simp only []
        rw [hser, if_pos (by simp)]
      · rw [if_neg hik]
        have hne := dist_ne hd hk hi hik
        rw [ser_ne (fun e => hne (hser.trans e)), hs acc[i] (List.getElem_mem _)]
        simp
    · intro x hx
      have hmem : ∀ s, (∃ y ∈ acc, y.ser = s) → ∃ y ∈ acc.set k ⟨acc[k].ser, (sumS p acc[k].ser + d.n.toNat : Nat)⟩, y.ser = s := by
        rintro s ⟨y, hy, rfl⟩
        have h2 : y.ser ∈ (acc.set k ⟨acc[k].ser, ((sumS p acc[k].ser + d.n.toNat : Nat) : Int)⟩).map (·.ser) := by rw [map_set_ser acc k hk]; exact List.mem_map_of_mem hy
        obtain ⟨z, hz, e⟩ := List.mem_map.1 h2
        exact ⟨z, hz, e⟩
      rcases List.mem_append.1 hx with hx | hx
      · exact hmem _ (ha x hx)
      · simp at hx
        subst hx
        exact hmem _ ⟨acc[k], List.getElem_mem _, hser⟩
theorem jinv_fold (l : List DeltaD) : ∀ (p acc : List DeltaD), JInv p acc → (∀ d ∈ p ++ l, 0 ≤ d.n ∧ d.n ≤ 65535) → (p ++ l).length ≤ 1000 → JInv (p ++ l) (l.foldl addD acc) := by
  induction l with
  | nil => intro p acc h _ _; simpa using h
  | cons d l ih =>
    intro p acc h hn hl
    rw [List.foldl_cons]
    have h1 := jinv_step h (hn d (by simp)).1 (hn d (by simp)).2 (fun x hx => (hn x (by simp [hx])).2) (by simp at hl; omega)
    have h2 := ih (p ++ [d]) (addD acc d) h1 (by simpa using hn) (by simpa using hl)
    simpa using h2
theorem join_inv (l : List DeltaD) (hn : ∀ d ∈ l, 0 ≤ d.n ∧ d.n ≤ 65535) (hl : l.length ≤ 1000) : JInv l (joinD l) := by
  have := jinv_fold l [] [] ⟨List.Pairwise.nil, by simp, by simp⟩ (by simpa using hn) (by simpa using hl)
  simpa [joinD] using this
theorem fold_dist (l : List DeltaD) : ∀ acc, Dist (acc ++ l) → l.foldl addD acc = acc ++ l := by
  induction l with
  | nil => intro acc _; simp
  | cons d l ih =>
    intro acc h
    rw [List.foldl_cons]
    have hadd : addD acc d = acc ++ [d] := by
      unfold addD
      rcases ixD_cases acc d.ser with ⟨hix, _⟩ | ⟨k, hk, hix, heq⟩
      · rw [hix, if_pos (by decide)]
      · exfalso
        have hser : acc[k].ser = d.ser := (ser_iff _ _).1 heq
        have := dist_ne h (i := k) (j := acc.length) (by simp; omega) (by simp) (by omega)
        rw [List.getElem_append_left hk] at this
        simp at this
        exact this hser
    rw [hadd, ih (acc ++ [d]) (by simpa using h)]
    simp
theorem join_again (l : List DeltaD) (h : Dist l) : joinD l = l := by
  have := fold_dist l [] (by simpa using h)
  simpa [joinD] using this
end Go.Proofs.YtinnifhnabncfaaGreatDoor.Vi
end
/- Plain words for the document's joining of deltas. -/
section
namespace Go.Proofs.YtinnifhnabncfaaGreatDoor.Vi
open Go.RowKit Base Mem Tape
theorem ix_no {acc : List DeltaD} {s : ByteArray} (h : ∀ y ∈ acc, y.ser ≠ s) : ixD acc s = -1 := by
  rcases ixD_cases acc s with ⟨h1, _⟩ | ⟨k, hk, _, he⟩
  · exact h1
  · exact absurd ((ser_iff _ _).1 he) (h _ (List.getElem_mem _))
theorem ix_uniq {acc : List DeltaD} {s : ByteArray} (hd : Dist acc) {k : Nat} (hk : k < acc.length) (e : acc[k].ser = s) : ixD acc s = k := by
  rcases ixD_cases acc s with ⟨_, h2⟩ | ⟨j, hj, h1, he⟩
  · have := h2 acc[k] (List.getElem_mem _)
    rw [(ser_iff _ _).2 e] at this
    cases this
  · by_cases hjk : j = k
    · rw [h1, hjk]
    · exact absurd (((ser_iff _ _).1 he).trans e.symm) (dist_ne hd hj hk hjk)
theorem addD_dist {acc : List DeltaD} {d : DeltaD} (hd : Dist acc) : Dist (addD acc d) := by
  unfold addD
  rcases ixD_cases acc d.ser with ⟨hix, hno⟩ | ⟨k, hk, hix, _⟩
  · rw [hix, if_pos (by decide)]
    have hne : ∀ y ∈ acc, y.ser ≠ d.ser := fun y hy e => by have := hno y hy; rw [e] at this; simp at this
    unfold Dist
    rw [List.map_append, List.pairwise_append]
    refine ⟨hd, by simp, ?_⟩
    intro a ha' b hb'
    simp at ha' hb'
    obtain ⟨y, hy, rfl⟩ := ha'
    subst hb'
    exact hne y hy
  · rw [hix, if_neg (by omega), Int.toNat_natCast, getElem!_pos acc k hk]
    unfold Dist
    rw [map_set_ser acc k hk]
    exact hd
theorem fold_keeps (l : List DeltaD) : ∀ {acc : List DeltaD}, Dist acc → Dist (l.foldl addD acc) := by
  induction l with
  | nil => intro acc h; exact h
  | cons d l ih => intro acc h; rw [List.foldl_cons]; exact ih (addD_dist h)
end Go.Proofs.YtinnifhnabncfaaGreatDoor.Vi
end
/- Contracts of hopperref4.Sum, Join. -/
section
namespace Go.Proofs.YtinnifhnabncfaaGreatDoor.Vi
open Go.RowKit Base Mem Go.Shelf
theorem rsum_any (a b : Nat) (w : World) (ha : a < 18446744073709551616) (hb : b < 18446744073709551616) :
    Calls Tryz.prog 77 #[.int .u64 a, .int .u64 b] w fun e w' => e = .returned (.int .u64 (addS a b)) ∧ w' = w := by
  by_cases h : 18446744073709551615 < a + b
  · have hR : Hid (addS a b = 18446744073709551615) := by show _ = _; unfold addS; rw [if_pos h]
    obtain ⟨s, hs⟩ : ∃ s : Int, s = (a : Int) + b - 18446744073709551616 := ⟨_, rfl⟩
    have hw : IntKind.u64.wrap ((a : Int) + (b : Int)) = s := by rw [IntKind.wrap_u64]; omega
    have hlt : s < (a : Int) := by omega
    clear hs h
    rw [hR.out]
    go_enter Tryz.func77, Tryz.ntmps77
    go_wp2
    go_ret
    exact ⟨rfl, rfl⟩
  · have hR : Hid (addS a b = a + b) := by show _ = _; unfold addS; rw [if_neg h]
    obtain ⟨s, hs⟩ : ∃ s : Int, s = ((a + b : Nat) : Int) := ⟨_, rfl⟩
    have hw : IntKind.u64.wrap ((a : Int) + (b : Int)) = s := by rw [IntKind.wrap_u64]; omega
    have hlt : decide (s < (a : Int)) = false := decide_eq_false (by omega)
    have HS := Lib.hid hs
    clear hs h
    rw [hR.out, ← HS.out]
    go_enter Tryz.func77, Tryz.ntmps77
    go_wp2
    go_ret
    exact ⟨rfl, rfl⟩
def AtOk (acc : List DeltaD) (s : ByteArray) (y : Nat) (v : Value) : Prop := (v = .int .i64 (-1) ∧ ∀ j (h : j < acc.length), j < y → acc[j].ser ≠ s) ∨ (∃ k, ∃ h : k < acc.length, v = .int .i64 (k : Nat) ∧ acc[k].ser = s)
theorem AtOk.hit {acc : List DeltaD} {s : ByteArray} {y : Nat} (h : y < acc.length) (he : (acc[y].ser.toList == s.toList) = true) : AtOk acc s (y + 1) (.int .i64 y) := .inr ⟨y, h, rfl, (ser_iff _ _).1 he⟩
theorem AtOk.miss {acc : List DeltaD} {s : ByteArray} {y : Nat} {v : Value} (h : y < acc.length) (he : (acc[y].ser.toList == s.toList) = false) (ho : AtOk acc s y v) : AtOk acc s (y + 1) v := by
  rcases ho with ⟨h1, h2⟩ | h1
  · refine .inl ⟨h1, fun j hj hy => ?_⟩
    rcases Nat.lt_or_ge j y with h3 | h3
    · exact h2 j hj h3
    · obtain rfl : j = y := by omega
      intro e
      rw [(ser_iff _ _).2 e] at he
      cases he
  · exact .inr h1
theorem AtOk.fin {acc : List DeltaD} {s : ByteArray} {v : Value} (hd : Dist acc) (ho : AtOk acc s acc.length v) : (v = .int .i64 (-1) ∧ ixD acc s = -1) ∨ (∃ k, ∃ h : k < acc.length, v = .int .i64 (k : Nat) ∧ ixD acc s = k) := by
  rcases ho with ⟨h1, h2⟩ | ⟨k, hk, h1, h2⟩
  · refine .inl ⟨h1, ix_no (fun y hy => ?_)⟩
    obtain ⟨j, hj, rfl⟩ := List.getElem_of_mem hy
    exact h2 j hj hj
  · exact .inr ⟨k, hk, h1, ix_uniq hd hk h2⟩
def RJPost (l : List DeltaD) (w : World) (e : Ending) (w' : World) : Prop := ∃ v, e = .returned v ∧ w'.ownsRow w.heap.size 86 2 v (joinD l).length (dCells (joinD l)) ∧ Below w.heap.size w w'
set_option maxRecDepth 100000 in
set_option maxHeartbeats 2000000 in
theorem rjoin_any (v : Value) (l : List DeltaD) (w : World) (h : Ds w [] v l) (hn : ∀ d ∈ l, NOk d) (hl : l.length ≤ 1099511627776) :
    Calls Tryz.prog 27 #[v] w fun e w' => RJPost l w e w' := by
  obtain ⟨i0, hi0, hz0, hz1, hz2⟩ := info_parts infoDelta2
  have Hi0 := Lib.hid hi0; have Hz0 := Lib.hid hz0; have Hz1 := Lib.hid hz1; have Hz2 := Lib.hid hz2
  obtain ⟨A, c, rfl, hc⟩ := h.len
  have Hh := Lib.hid h; have Hn := Lib.hid hn
  clear h hn hi0 hz0 hz1 hz2
  go_enter Tryz.func27, Tryz.ntmps27
  go_wp2_with fail
  go_loopw [3, 10] (fun out i wr => ∃ (x : Nat) (acc : List DeltaD), i = .int .i64 x ∧ x ≤ l.length ∧ Hid (∀ d ∈ acc, NOk d) ∧ Hid (acc = (l.take x).foldl addD []) ∧ Hid (wr.ownsRow w.heap.size 86 2 out acc.length (dCells acc)) ∧ Hid (Below w.heap.size w wr)) (fun _ i _ => l.length - (intOf i).toNat)
  case atStart => exact ⟨0, [], rfl, by omega, (show ∀ d ∈ ([] : List DeltaD), NOk d by simp), rfl, World.ownsRow_nil _ _ _ _, Below.refl _ _⟩
  case round =>
    obtain ⟨x, acc, rfl, hx, Hok, Hacc, Hown, Hbr⟩ := hrel
    have hal : acc.length ≤ x := by
      have := take_fold_len (l.take x) []
      rw [← Hacc.out, List.length_take] at this
      simp at this
      omega
    have Hdist : Hid (Dist acc) := by
      show Dist _
      rw [Hacc.out]
      exact fold_keeps _ List.Pairwise.nil
    by_cases hlt : x < l.length
    · have hx1 : (x : Int) < (l.length : Int) := by omega
      obtain ⟨g, off, _, e1, _, hg, _, hcell⟩ := Rd.at_ dCell 2 (fun _ => rfl) (Hh.out.keep (Keeps.of_below (M := []) Hbr.out) (by simp)) hlt
      obtain rfl : A = some ⟨g, off, none⟩ := by injection e1
      clear e1
      have p0 := hcell 0 _ rfl
      have p1 := hcell 1 _ rfl
      rw [Nat.add_zero] at p0
      obtain ⟨hn0, hn1⟩ := Hn.out l[x] (List.getElem_mem _)
      have htk : Hid (addD acc l[x] = (l.take (x + 1)).foldl addD []) := by
        show _ = _
        rw [List.take_succ_eq_append_getElem hlt, List.foldl_append, ← Hacc.out]; rfl
      clear hcell
      generalize l[x] = d at *
      obtain ⟨ser, nn⟩ := d
      simp only [] at p0 p1 hn0 hn1
      obtain ⟨n, rfl⟩ := Int.eq_ofNat_of_zero_le hn0
      obtain ⟨Ao, co, rfl, hco⟩ := (show Ds wr [] u3 acc from Rd.of_own Hown.out (by simp)).len
      have hBx := Blk.new wr 86 #[.string ser, .int .u64 n]
      have HbA := Lib.hid (Hbr.out.alloc Hbr.out.size (.cells #[.string ser, .int .u64 n] 86))
      have HownA := Lib.hid (Hown.out.alloc (.cells #[.string ser, .int .u64 n] 86))
      have hg5 : wr.heap.size < (wr.alloc (.cells #[.string ser, .int .u64 n] 86)).heap.size := by simp
      have hgo : ∀ g, (Value.slice Ao acc.length co).ownBlock = some g → g < wr.heap.size := fun g hg => (Hown.out.lt g hg).2
      have Hgo := Lib.hid hgo
      have d0 := hBx.cell 0; have d1 := hBx.cell 1
      simp only [List.getElem?_toArray, List.getElem?_cons_succ, List.getElem?_cons_zero] at d0 d1
      clear hBx hgo
      go_upto_region 5 with (fail)
      clear p0 p1
      have hbg : w.heap.size ≤ wr.heap.size := Hbr.out.size
      generalize wr.alloc (.cells #[.string ser, .int .u64 n] 86) = wa at *
      generalize wr.heap.size = g5 at *
      have HA : Hid (addD acc ⟨ser, (n : Int)⟩ = if ixD acc ser < 0 then acc ++ [⟨ser, (n : Int)⟩] else acc.set (ixD acc ser).toNat ⟨acc[(ixD acc ser).toNat]!.ser, (addS acc[(ixD acc ser).toNat]!.n.toNat n : Nat)⟩) := rfl
      have HDa := Lib.hid (show Ds wa [] (.slice Ao acc.length co) acc from Rd.of_own HownA.out (by simp))
      go_wp2_with fail
      go_loopw [6, 16] (fun at_ i wi => ∃ y q : Nat, i = .int .i64 y ∧ y ≤ acc.length ∧ Hid (AtOk acc ser y at_) ∧ wi = wa.drewN q) (fun _ i _ => acc.length - (intOf i).toNat)
      case atStart => exact ⟨0, 0, rfl, by omega, (show AtOk _ _ _ _ from .inl ⟨rfl, fun j _ h => absurd h (by omega)⟩), rfl⟩
      case round =>
        obtain ⟨y, q, rfl, hy, Hat, rfl⟩ := hrel
        by_cases hya : y < acc.length
        · have hy1 : (y : Int) < (acc.length : Int) := by omega
          obtain ⟨g2, off2, _, e2, _, hg2, _, hcell⟩ := Rd.at_ dCell 2 (fun _ => rfl) HDa.out hya
          obtain rfl : Ao = some ⟨g2, off2, none⟩ := by injection e2
          clear e2
          have r0 := hcell 0 _ rfl
          rw [Nat.add_zero] at r0
          have Hhit := Lib.hid (AtOk.hit (s := ser) hya)
          have Hmiss := Lib.hid (fun h => AtOk.miss (s := ser) hya h Hat.out)
          clear hcell
          generalize acc[y].ser = pn at *
          by_cases h3 : (pn.toList == ser.toList) = true
          · have Hh3 := Lib.hid (Hhit.out h3)
            clear Hhit Hmiss Hat
            go_wp2_with fail
            go_quiet (fail)
            go_wp2
            go_roundw
            case rel => exact ⟨y + 1, _, by go_num, by omega, Hh3, rfl⟩
            case measure => simp [intOf] <;> omega
          · have h3' : (pn.toList == ser.toList) = false := by simpa using h3
            have Hh3 := Lib.hid (Hmiss.out h3')
            clear Hhit Hmiss Hat h3
            go_wp2_with fail
            go_quiet (fail)
            go_wp2
            go_roundw
            case rel => exact ⟨y + 1, _, by go_num, by omega, Hh3, rfl⟩
            case measure => simp [intOf] <;> omega
        · obtain rfl : y = acc.length := by omega
          have hbq : Hid (Below w.heap.size w (wa.drewN q)) := ((Keeps.of_below (M := []) HbA.out).drewN q).below
          have hfin := AtOk.fin Hdist.out Hat.out
          clear Hat Hdist hya
          rcases hfin with ⟨rfl, hix⟩ | ⟨k, hk, rfl, hix⟩
          · have HR : Hid (addD acc ⟨ser, (n : Int)⟩ = acc ++ [⟨ser, (n : Int)⟩]) := by show _ = _; rw [HA.out, hix]; rfl
            clear hix HA
            have Hown3 : Hid (((wa.drewN q).alloc (.cells #[.string ser, .int .u64 n] 86)).ownsRow w.heap.size 86 2 (.slice Ao acc.length co) acc.length (dCells acc)) := World.ownsRow.alloc (w := wa.drewN q) HownA.out _
            have Hb3 := Lib.hid (hbq.out.alloc hbq.out.size (.cells #[.string ser, .int .u64 n] 86))
            go_wp2_with (at_builtin; refine wpList_append_any _ rfl (.tmp 31) (.tmp 33) _ rfl w.heap.size 86 i0 _ 2 24 Tryz.underlying24 Hi0.out Hz0.out Hz1.out Hz2.out rfl (by omega) (.slice Ao acc.length co) acc.length (dCells acc) rfl Hown3.out (wa.heap.size + 1) (some ⟨wa.heap.size, 0, none⟩) 1 1 (dCell ⟨ser, (n : Int)⟩) rfl (reads_new (wa.drewN q) _ _ _ _ rfl) (by intro u hu; simp [dCell] at hu; rcases hu with rfl | rfl <;> rfl) (by unfold maxLen; omega) (by omega) Hb3.out.size ?_)
            intro v6 w6 hown6 hg6 hat6
            have Hown6 : Hid (w6.ownsRow w.heap.size 86 2 v6 (addD acc ⟨ser, (n : Int)⟩).length (dCells (addD acc ⟨ser, (n : Int)⟩))) := by
              show World.ownsRow _ _ _ _ _ _ _
              rw [HR.out]
              unfold dCells at hown6 ⊢
              rw [List.flatMap_append]
              simpa using hown6
            have Hb6 : Hid (Below w.heap.size w w6) := Hb3.out.grown hg6 Hb3.out.size (fun g hg => (Hown.out.lt g hg).1)
            have Hok6 : Hid (∀ d ∈ addD acc ⟨ser, (n : Int)⟩, NOk d) := by
              show ∀ _, _
              rw [HR.out]
              intro d hd
              rcases List.mem_append.1 hd with hd | hd
              · exact Hok.out d hd
              · simp at hd; subst hd; exact ⟨hn0, hn1⟩
            clear hown6 hg6 hat6
            go_wp2
            go_roundw
            case rel => exact ⟨x + 1, addD acc ⟨ser, (n : Int)⟩, by go_num, by omega, Hok6, htk, Hown6, Hb6⟩
            case measure => simp [intOf] <;> omega
          · have hak : Hid (acc[(ixD acc ser).toNat]! = acc[k]) := by show _ = _; rw [hix, Int.toNat_natCast, getElem!_pos acc k hk]
            obtain ⟨hq0, hq1⟩ := Hok.out acc[k] (List.getElem_mem _)
            have HR : Hid (addD acc ⟨ser, (n : Int)⟩ = acc.set k ⟨acc[k].ser, (addS acc[k].n.toNat n : Nat)⟩) := by show _ = _; rw [HA.out, hak.out, hix, if_neg (by omega), Int.toNat_natCast]
            have hset := Lib.hid (dCells_set acc k hk (addS acc[k].n.toNat n : Nat))
            obtain ⟨g2, cap, hv, hge, hgl⟩ := Hown.out.form (by omega)
            injection hv with hv1 _ hv3
            subst hv1 hv3
            have hg25 : g2 < g5 := Hgo.out g2 rfl
            have hown3 : (wa.drewN q).ownsRow w.heap.size 86 2 (.slice (some ⟨g2, 0, none⟩) acc.length co) acc.length (dCells acc) := HownA.out
            obtain ⟨g', off', _, e1, _, _, _, hcell⟩ := Rd.at_ dCell 2 (fun _ => rfl) (show Ds wa [] _ acc from Rd.of_own HownA.out (by simp)) hk
            injection e1 with e1 _ e9
            injection e1 with e1
            injection e1 with e1 e2 _
            subst e1 e2
            clear e9
            have c1 : wa.cell? ⟨g2, k * 2 + 1, none⟩ = some (.int .u64 acc[k].n) := by have := hcell 1 _ rfl; rwa [Nat.zero_add] at this
            have Hown3 := Lib.hid (fun m => own_set (w := (wa.drewN q).drewN m) hown3 (k * 2 + 1) (.int .u64 (addS acc[k].n.toNat n : Nat)) (by omega))
            have Hok6 : Hid (∀ d ∈ addD acc ⟨ser, (n : Int)⟩, NOk d) := by
              show ∀ _, _
              rw [HR.out]
              intro d hd
              have := addS_lt acc[k].n.toNat n
              rcases List.mem_or_eq_of_mem_set hd with hd | rfl
              · exact Hok.out d hd
              · exact ⟨by simp only []; omega, by simp only []; omega⟩
            have Hown6 : Hid (∀ m, (((wa.drewN q).drewN m).setCell ⟨g2, k * 2 + 1, none⟩ (.int .u64 (addS acc[k].n.toNat n : Nat))).ownsRow w.heap.size 86 2 (.slice (some ⟨g2, 0, none⟩) acc.length co) (addD acc ⟨ser, (n : Int)⟩).length (dCells (addD acc ⟨ser, (n : Int)⟩))) := by
              show ∀ m, World.ownsRow _ _ _ _ _ _ _
              intro m
              rw [HR.out, List.length_set, ← hset.out]
              exact Hown3.out m
            have Hb6 : Hid (∀ m, Below w.heap.size w (((wa.drewN q).drewN m).setCell ⟨g2, k * 2 + 1, none⟩ (.int .u64 (addS acc[k].n.toNat n : Nat)))) := fun m => ((Keeps.of_below (M := []) hbq.out).drewN m).below.setCell hge _
            have hfz : wa.frozen? ⟨g2, k * 2 + 1, none⟩ = false := by
              have := HownA.out.2
              rcases this with ⟨h, _⟩ | ⟨g', cap', cur, hv, _, hg, _⟩
              · cases h
              · injection hv with h1 _ _
                injection h1 with h1
                injection h1 with h1 _ _
                subst h1
                exact Base.Blk.frozen hg _
            clear hown3 hcell Hown3 hak hset HR HA hix
            obtain ⟨nk, hnk⟩ := Int.eq_ofNat_of_zero_le hq0
            rw [show acc[k].n.toNat = nk by rw [hnk]; rfl] at Hown6 Hb6
            rw [hnk] at c1 hq0 hq1
            clear hnk
            have hki : (0 : Int) ≤ (k : Int) := by omega
            have hki2 : (k : Int) < (acc.length : Int) := by omega
            have hadd := Lib.hid (fun W => rsum_any nk n W (by omega) (by omega))
            generalize addS nk n = sm at *
            generalize addD acc ⟨ser, (n : Int)⟩ = acc2 at *
            clear hq0 hq1 hn0 hn1 hge hgl
            go_wp2_with fail
            go_region_with ((go_at_call 77; refine (hadd.out _).mono ?_; rintro e w' ⟨rfl, rfl⟩))
            all_goals
              go_wp2
              go_roundw
              case rel => exact ⟨x + 1, acc2, by go_num, by omega, Hok6, htk, Hown6.out 1, Hb6.out 1⟩
              case measure => simp [intOf] <;> omega
    · obtain rfl : x = l.length := by omega
      have hfin : Hid (joinD l = acc) := by show _ = _; rw [Hacc.out, List.take_length]; rfl
      have hp : Hid (RJPost l w (.returned u3) wr) := by
        show RJPost _ _ _ _
        unfold RJPost
        rw [hfin.out]
        exact ⟨_, rfl, Hown.out, Hbr.out⟩
      go_wp2
      go_ret
      exact hp.out
end Go.Proofs.YtinnifhnabncfaaGreatDoor.Vi
end
