/- Append of a text onto bytes without room; contract of varint.Text. -/
import Derived.Test.YtinnifhnabncfaaDoorVar1
import Derived.Lib.AppendStr
import Derived.Laws.BytesString
namespace Go.Proofs.YtinnifhnabncfaaDoor.Vi
open Go.RowKit Base Mem
/-- What an append onto a full row leaves. -/
structure Onto (w w' : World) (v v' : Value) (n m : Nat) (xs ys : List Value) : Prop where
  below : Below w.heap.size w w'
  reads : ∀ M, (∀ g ∈ M, g < w.heap.size) → Rd w M 1 v n xs → Rd w' M 1 v' (n + m) (xs ++ ys)
theorem run_append_full_string {P : Program} (w : World) (t u ty e : TypeId) (i : TypeInfo) (ht : P.underlying t = some (.slice e)) (hu : P.underlying u = some .string) (hi : P.info? e = some i) (hz : i.zero = some (.int .u8 0))
    (hsize : i.size = 1) (hby : i.bytes = 1) (A : Option Addr) (n : Nat) (xs : List Value) (h : Rd w [] 1 (.slice A n n) n xs) (s : ByteArray) (hbytes : n + s.size ≤ 140737488355328) :
    ∃ v' w', (Builtin.append_ #[t, u] ty #[.slice A n n, .string s]).run P w = .ok v' w' ∧ Onto w w' (.slice A n n) v' n s.size xs (Lib.strCells s) := by
  obtain ⟨A', c', he, _, hl, hr⟩ := h
  injection he with h1 h2 h3
  subst h1
  have hl' : xs.length = n := by simpa using hl
  have grown : ∀ (old : Nat), old < n + s.size → Onto w (w.drew.alloc (.cells (xs.toArray ++ (Lib.strCells s).toArray ++ Builtin.zeroCells (Value.int .u8 0).cells (grownCap w (n + s.size) old e - (n + s.size))) e)) (.slice A n n)
      (.slice (some ⟨w.heap.size, 0, none⟩) (n + s.size) (grownCap w (n + s.size) old e)) n s.size xs (Lib.strCells s) := by
    intro old ho
    have hge := grownCap_ge w (n + s.size) old e
    refine ⟨((Keeps.refl [] w).drew.alloc _).below, fun M hM _ => ⟨_, _, rfl, hge, by rw [List.length_append, hl', Lib.strCells_length, Nat.mul_one], fun _ => ⟨w.heap.size, 0, rfl, by simp, fun hm => by have := hM _ hm; omega, fun j x hx => ?_⟩⟩⟩
    rw [show (w.heap.size : Nat) = w.drew.heap.size from rfl, (Blk.new w.drew e _).cell (0 + j), Nat.zero_add, ← Array.getElem?_toList]
    simp only [Array.toList_append, List.toList_toArray]
    rw [List.getElem?_append_left (List.getElem?_eq_some_iff.1 hx).1]
    exact hx
  by_cases hm : s.size = 0
  · have hn : Lib.strCells s = [] := List.eq_nil_of_length_eq_zero (by rw [Lib.strCells_length]; exact hm)
    refine ⟨.slice A n n, w, ?_, Below.refl _ _, fun M _ h => by rw [hn, hm]; simpa using h⟩
    have hf := Lib.run_firstCells_string (P := P) w 1 s
    rw [hm] at hf
    rw [hn] at hf
    rcases A with _ | ad
    · have hn0 : n = 0 := by
        rcases Nat.eq_zero_or_pos n with h | h
        · exact h
        · obtain ⟨_, _, h, _⟩ := hr h; cases h
      subst hn0
      simp [Builtin.append_, run_underlying ht, run_underlying hu, sizeOf, typeInfo, hi, hsize, Builtin.lenOf, hm, hf]
    · simp [Builtin.append_, run_underlying ht, run_underlying hu, sizeOf, typeInfo, hi, hsize, Builtin.lenOf, hm, hf, storeCells]
  · rcases A with _ | ad
    · have hn0 : n = 0 := by
        rcases Nat.eq_zero_or_pos n with h | h
        · exact h
        · obtain ⟨_, _, h, _⟩ := hr h; cases h
      subst hn0
      have hx : xs = [] := List.eq_nil_of_length_eq_zero hl'
      subst hx
      have hrun := run_append_nil_string (P := P) w t u ty e i (.int .u8 0) ht hu hi hz s (by omega) (by omega) (by rw [hby]; omega)
      have hgr := grown 0 (by omega)
      simp only [Nat.zero_add, Array.empty_append] at hgr ⊢
      have e1 : (s.data.map fun b => Value.int .u8 b.toNat) = (Lib.strCells s).toArray := by
        apply Array.ext'
        simp [Lib.strCells]
      rw [e1] at hrun
      exact ⟨_, _, hrun, hgr⟩
    · have holds : ∀ j u, xs[j]? = some u → w.cell? (ad.add j) = some u := by
        intro j x hx
        have hn0 : 0 < n := by have := (List.getElem?_eq_some_iff.1 hx).1; omega
        obtain ⟨g, off, h, _, _, hc⟩ := hr hn0
        injection h with h
        subst h
        rw [addr_add]
        exact hc j x hx
      have hrun := Lib.run_append_grow_string (P := P) w t u ty e i (.int .u8 0) ht hu hi hz ad n n xs (by rw [hsize]; simpa using hl') holds s (by omega) (by omega) (by rw [hby]; exact growslice_fits (by omega) (by omega))
      exact ⟨_, _, hrun, grown n (by omega)⟩
theorem wpList_append_full_string {P : Program} {ops : Array Oper} {rest : List Oper} {o : Oper} {a : Act} {w : World} {Q : Exit → Act → World → Prop} (hgd : o.guard = none) (sl x : Operand) (t u : TypeId)
    (ho : o.op = .call { callee := .builtin .append, args := #[sl, x], argTypes := #[t, u] })
    (e : TypeId) (i : TypeInfo) (ht : P.underlying t = some (.slice e)) (hu : P.underlying u = some .string) (hi : P.info? e = some i) (hz : i.zero = some (.int .u8 0)) (hsize : i.size = 1) (hby : i.bytes = 1)
    (A : Option Addr) (n : Nat) (xs : List Value) (hs : a.eval sl = .slice A n n) (h : Rd w [] 1 (.slice A n n) n xs) (s : ByteArray) (hx : a.eval x = .string s) (hbytes : n + s.size ≤ 140737488355328)
    (hq : ∀ v' w', Onto w w' (.slice A n n) v' n s.size xs (Lib.strCells s) → wpList P ops Q rest (a.put o.dst v') w') : wpList P ops Q (o :: rest) a w := by
  refine wpList_plain hgd fun K hK => ?_
  obtain ⟨v', w', hr, h2⟩ := run_append_full_string (P := P) w t u o.type e i ht hu hi hz hsize hby A n xs h s hbytes
  unfold Oper.wp execOp
  simp only [ho, resolve, invoke, builtin, Sem.run_bind, Sem.run_pure, Result.andThen_ok, List.map_toArray, List.map_cons, List.map_nil, hs, hx, hr]
  exact hK _ _ (hq v' w' h2)
set_option maxRecDepth 100000 in
theorem text_any (v : Value) (l : List UInt8) (s : ByteArray) (w : World) (h : Bs w [] v l) (hl : l.length + s.size ≤ 140737488355000) :
    Calls Tryd.prog 25 #[v, .string s] w fun e w' => BsPost (l ++ Lib.uvarint s.size ++ sB s) w e w' := by
  obtain ⟨i0, hi0, hz0, hz1, hz2⟩ := info_parts infoU8
  have Hi0 := Lib.hid hi0; have Hz0 := Lib.hid hz0; have Hz1 := Lib.hid hz1; have Hz2 := Lib.hid hz2
  have hp := Lib.hid (put_any v l s.size w h (by omega) (by omega))
  have hun := Lib.uvarint_length64 (x := s.size) (by omega)
  have hsb : (s.size : Int) < 18446744073709551616 := by omega
  clear h hi0 hz0 hz1 hz2
  go_enter Tryd.func25, Tryd.ntmps25
  go_wp2_with fail
  refine hp.out.mono ?_
  rintro e w1 ⟨A, rfl, hR, hb⟩
  have hlen : (l ++ Lib.uvarint s.size).length + s.size ≤ 140737488355328 := by rw [List.length_append]; omega
  have Hfin : Hid (∀ L : List UInt8, (L ++ sB s).length = L.length + s.size) := fun L => by rw [List.length_append]; rfl
  generalize hL : l ++ Lib.uvarint s.size = L at *
  have HR := Lib.hid hR; have Hb := Lib.hid hb; have HL := Lib.hid hL
  clear hR hb hp hL
  have hrd := Lib.hid (HR.out [] (by simp))
  go_wp2_with (at_builtin; refine wpList_append_full_string rfl (.tmp 9) (.tmp 10) _ _ rfl 5 i0 Tryd.underlying32 Tryd.underlying9 Hi0.out Hz0.out Hz1.out Hz2.out A L.length (L.map bV) rfl hrd.out s rfl hlen ?_)
  intro v' w' ho
  have hR2 : Hid (∀ M, (∀ g ∈ M, g < w.heap.size) → Bs w' M v' (L ++ sB s)) := fun M hM => by
    have h1 := ho.reads M (fun g hg => Nat.lt_of_lt_of_le (hM g hg) Hb.out.size) (HR.out M hM)
    show Rd w' M 1 v' (L ++ sB s).length ((L ++ sB s).map bV)
    rw [Hfin.out L, List.map_append]
    exact h1
  have Hb2 := Lib.hid (below_then Hb.out ho.below)
  clear ho
  generalize hF : L ++ sB s = F at hR2
  have HF := Lib.hid hF
  clear hF
  obtain ⟨A2, c2, rfl, hc2⟩ := (hR2.out [] (by simp)).len
  go_wp2_with fail
  refine (clipU8 A2 _ c2 _ hc2).mono ?_
  rintro e w'' ⟨rfl, rfl⟩
  have hC : Hid (BsPost (l ++ Lib.uvarint s.size ++ sB s) w (.returned (.slice A2 F.length F.length)) w') := by
    show BsPost _ _ _ _
    rw [HL.out, HF.out]
    exact ⟨_, rfl, fun M hM => Rd.clip (hR2.out M hM), Hb2.out⟩
  go_wp2
  go_ret
  exact hC.out
end Go.Proofs.YtinnifhnabncfaaDoor.Vi
