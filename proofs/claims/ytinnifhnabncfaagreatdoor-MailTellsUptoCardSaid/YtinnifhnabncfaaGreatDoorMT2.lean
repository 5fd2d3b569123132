/- Texts put together: MailTellsLift. -/
import Derived.Test.YtinnifhnabncfaaGreatDoorCards
import Derived.Test.YtinnifhnabncfaaGreatDoorTie
import Derived.ChangeOld
import Derived.Below
import Derived.Test.YtinnifhnabncfaaGreatDoorMN1
import Derived.Test.YtinnifhnabncfaaGreatDoorMT1
set_option linter.unusedVariables false
set_option linter.unusedSimpArgs false
section
namespace Go.Proofs.YtinnifhnabncfaaGreatDoor.mailTells
open Go.ChangeShapes Go.WideShapes Go.ChangeAt Go.RowKit Base Mem
set_option linter.unusedVariables false
theorem own : ownKnob Tryz.prog.godebug = none := by kernel_rfl
theorem laidOut : laidOutB Tryz.prog = true := by kernel_rfl
/-- A slice of integers that came in. -/
def IsRow (k : IntKind) (w : World) (a : Option Addr) (len cap : Nat) (zs : List Int) : Prop :=
 (a = none ∧ len = 0 ∧ cap = 0 ∧ zs = []) ∨
 ∃ x, a = some x ∧ len ≤ cap ∧ cap ≤ maxLen ∧ zs.length = cap ∧ (∀ i, i < zs.length → w.cell? (x.add i) = some (.int k (zs.getD i 0))) ∧ ∀ n ∈ zs, (Lit.int k n).wf = true
theorem nums_of {w : World} {a : Option Addr} {len cap : Nat} {zs : List Int} (h : IsRow .i64 w a len cap zs) : (zs.take len).length = len ∧ Vi.Nums w a cap (zs.take len) := by
 obtain ⟨h1, h2, h3, _, h5⟩ := Mem.row_view h
 exact ⟨h1, by omega, h3, h5⟩
set_option maxRecDepth 100000 in
set_option maxHeartbeats 2000000 in
theorem contract (H : Type) (enc : TypeId × Value → H) (W : World) (base : Nat) (args : Array Value) (ds gs : List (DataW H)) (before : List MemPlace)
  (hk : Rows.uptoSmall H (ds ++ gs) = true) (hval : ∀ (j : Nat) t v, Tryz.f10.params[j]? = some t → args[j]? = some v → Value.okWide Tryz.prog W .any base t v)
  (hW : DataW.Whole enc Tryz.prog Tryz.f10.params.toList Rows.mailTellsSpec.vars false W args.toList ds gs before) (hsh : W.ShapedOpen Tryz.prog) :
  Calls Tryz.prog 10 args W fun e W' => ∃ v, e = .returned v ∧ Rows.mailTellsSpec.post enc Tryz.prog Tryz.f10 false true false false W args v W' := by
 have hW' := hW
 obtain ⟨p, q, hA0, hV, rfl, hfz, hnd⟩ := hW
 have hA : DataW.TrodAll enc Tryz.prog W 0 (fun _ => true) true Tryz.f10.params.toList args.toList ds p := hA0
 rw [Tryz.params10] at hA hval
 obtain ⟨v0, vs0, d0, ds0, p0, q0, hargs, rfl, rfl, h0, r0⟩ := trodAll_cons hA
 obtain ⟨v1, vs1, d1, ds1, p1, q1, rfl, rfl, rfl, h1, r1⟩ := trodAll_cons r0
 obtain ⟨v2, vs2, d2, ds2, p2, q2, rfl, rfl, rfl, h2, r2⟩ := trodAll_cons r1
 obtain ⟨v3, vs3, d3, ds3, p3, q3, rfl, rfl, rfl, h3, r3⟩ := trodAll_cons r2
 obtain ⟨v4, vs4, d4, ds4, p4, q4, rfl, rfl, rfl, h4, r4⟩ := trodAll_cons r3
 obtain ⟨v5, vs5, d5, ds5, p5, q5, rfl, rfl, rfl, h5, r5⟩ := trodAll_cons r4
 obtain ⟨v6, vs6, d6, ds6, p6, q6, rfl, rfl, rfl, h6, r6⟩ := trodAll_cons r5
 obtain ⟨rfl, rfl, rfl⟩ := trodAll_nil r6
 obtain rfl : args = #[v0, v1, v2, v3, v4, v5, v6] := by cases args; simp_all
 obtain ⟨rfl, rfl⟩ := trodVars_none hV
 obtain ⟨a0, n0, c0, rfl⟩ := okWide_slice Tryz.underlying28 (hval 0 28 v0 rfl rfl)
 have k0 := h0; have k3 := h3; have k4 := h4
 have lt0 : ∀ x ∈ p0, x.block < W.heap.size := by obtain ⟨m, hm⟩ := k0; exact DataW.trod_lt m _ _ _ hm
 have lt3 : ∀ x ∈ p3, x.block < W.heap.size := by obtain ⟨m, hm⟩ := k3; exact DataW.trod_lt m _ _ _ hm
 have lt4 : ∀ x ∈ p4, x.block < W.heap.size := by obtain ⟨m, hm⟩ := k4; exact DataW.trod_lt m _ _ _ hm
 obtain ⟨z0, g0⟩ : ∃ zs, IsRow .i64 W a0 n0 c0 zs := by
  obtain ⟨fuel, hf⟩ := h0
  rcases open_ints Tryz.underlying28 Tryz.underlying3 (by kernel_rfl) hf with ⟨hcs, _⟩ | ⟨x, l, c, zs, hcs, _, hl, hm, hz, _, hcell, hwz⟩
  ·simp [Value.cells] at hcs
   obtain ⟨rfl, rfl, rfl⟩ := hcs
   exact ⟨[], .inl ⟨rfl, rfl, rfl, rfl⟩⟩
  ·simp [Value.cells] at hcs
   obtain ⟨rfl, rfl, rfl⟩ := hcs
   exact ⟨zs, .inr ⟨_, rfl, hl, hm, by simpa using hz, hcell, hwz⟩⟩
 obtain ⟨L0, N0⟩ := nums_of g0
 obtain ⟨i1, rfl, rfl, rfl, g1⟩ := open_int Tryz.underlying3 (hval 1 3 v1 rfl rfl) h1
 obtain ⟨i2, rfl, rfl, rfl, g2⟩ := open_int Tryz.underlying2 (hval 2 2 v2 rfl rfl) h2
 obtain ⟨raw, rdv, rlv, rfl, hrd, hrb⟩ := Vi.open_msg (hval 3 68 v3 rfl rfl) h3
 obtain ⟨a4, n4, c4, rfl⟩ := okWide_slice Tryz.underlying36 (hval 4 36 v4 rfl rfl)
 obtain ⟨lb, rfl, hbs, hbl⟩ : ∃ l : List UInt8, l.length = n4 ∧ Vi.Bs W [] (.slice a4 n4 c4) l ∧ n4 ≤ Rows.uptoBulk d4 := by
  obtain ⟨fuel, hf⟩ := h4; exact Vi.open_bs hf
 obtain ⟨i5, rfl, rfl, rfl, g5⟩ := open_int Tryz.underlying3 (hval 5 3 v5 rfl rfl) h5
 obtain ⟨i6, rfl, rfl, rfl, g6⟩ := open_int Tryz.underlying5 (hval 6 5 v6 rfl rfl) h6
 have hbd := Vi.bulk_bound hk
 simp only [List.append_nil, Rows.uptoBulkAll] at hbd
 have hw6 := Vi.wfE_u8 g6
 have hw2 := Vi.wfE_i64 g2
 obtain ⟨t6, rfl⟩ := Int.eq_ofNat_of_zero_le hw6.1
 obtain ⟨mx, hm⟩ := CardW.max_cell hsh
 clear hA0
 have hbig := hrb (by omega)
 have hwalk : Calls Tryz.prog 10 #[.slice a0 n0 c0, .int .i64 i1, .int .i64 i2, .agg (Vi.mCell raw rdv rlv).toArray, .slice a4 lb.length c4, .int .i64 i5, .int .u8 t6] W fun e w' => Vi.SamePost true W e w' := by
  have := Vi.mtells_walk a0 c0 (z0.take n0) i1 i2 raw rdv rlv a4 c4 lb i5 t6 mx W N0 hw2 hrd hbig.short hbig.wf hbs (by omega) (by omega) hm
  rw [L0] at this
  exact this
 refine hwalk.mono fun e W' ⟨he, bel⟩ => ?_
 subst he
 exact ⟨_, rfl, _, _, _, [], _, [], hW', trodAll_mk1 (shut_bool Tryz.underlying4 _), (trodAll_cons_mk (Below.trod laidOut (by kernel_rfl) (of_decide_eq_true (by kernel_rfl)) k0 bel lt0) (trodAll_cons_mk (shut_int Tryz.underlying3 g1) (trodAll_cons_mk (shut_int Tryz.underlying2 g2) (trodAll_cons_mk (Below.trod laidOut (by kernel_rfl) (of_decide_eq_true (by kernel_rfl)) k3 bel lt3) (trodAll_cons_mk (Below.trod laidOut (by kernel_rfl) (of_decide_eq_true (by kernel_rfl)) k4 bel lt4) (trodAll_cons_mk (shut_int Tryz.underlying3 g5) (trodAll_cons_mk (shut_int Tryz.underlying5 g6) trodAll_mk0))))))), rfl, bel.frame _, fun h => by cases h⟩
theorem reads (os : Os) {H : Type} (enc : TypeId × Value → H) : ∃ places, DataW.whole enc Tryz.prog ((CardW.laidWorld os).forCall (fun _ _ => 0) ⟨#[], #[.slice none 0 0, .int .i64 0, .int .i64 0, .agg #[.int .i64 0, .int .i64 0, .int .i64 0, .int .i64 0, .int .i64 0, .int .i64 0, .slice none 0 0, .string ⟨#[]⟩, .int .i64 0, .int .i64 0, .int .i64 0, .int .i64 0, .int .u64 0, .int .i64 0, .int .i64 0, .slice none 0 0, .int .i64 0, .int .i64 0], .slice none 0 0, .int .i64 0, .int .u8 0], []⟩).memory Tryz.f10.params.toList Rows.mailTellsSpec.vars false (#[.slice none 0 0, .int .i64 0, .int .i64 0, .agg #[.int .i64 0, .int .i64 0, .int .i64 0, .int .i64 0, .int .i64 0, .int .i64 0, .slice none 0 0, .string ⟨#[]⟩, .int .i64 0, .int .i64 0, .int .i64 0, .int .i64 0, .int .u64 0, .int .i64 0, .int .i64 0, .slice none 0 0, .int .i64 0, .int .i64 0], .slice none 0 0, .int .i64 0, .int .u8 0] : Array Value).toList 8 = some ([.nil, .lit (.int .i64 0), .lit (.int .i64 0), .agg [.lit (.int .i64 0), .agg [.lit (.int .i64 0), .agg [.lit (.int .i64 0), .lit (.int .i64 0), .lit (.int .i64 0)], .lit (.int .i64 0), .nil, .lit (.string []), .lit (.int .i64 0), .lit (.int .i64 0)], .lit (.int .i64 0), .lit (.int .i64 0), .lit (.int .u64 0), .lit (.int .i64 0), .lit (.int .i64 0), .nil, .lit (.int .i64 0), .lit (.int .i64 0)], .nil, .lit (.int .i64 0), .lit (.int .u8 0)], [], places) :=
 ⟨[], by kernel_rfl⟩
set_option maxRecDepth 100000 in
theorem lifted (os : Os) (started : os.Started) (H : Type) (enc : TypeId × Value → H) (F : Stop.Interp) :
  ReturnsInHanded {} Tryz.checked os 10 .any ((Rows.OpenSpec.upto Rows.mailTellsSpec).preRow enc Tryz.prog Tryz.f10 Rows.mailTellsUptoRow.domain false Rows.mailTellsUptoRow.laid) (((Rows.OpenSpec.upto Rows.mailTellsSpec).at F).post enc Tryz.prog Tryz.f10 false true false false) := by
 obtain ⟨places, hx⟩ := reads os enc
 refine returnsInHanded_of_row (C := Tryz.checked) (s := (Rows.OpenSpec.upto Rows.mailTellsSpec)) own started (by kernel_rfl) Tryz.func10
  (witness_row_at (enc := enc) (C := Tryz.checked) false (CardW.laidWorld os) #[.slice none 0 0, .int .i64 0, .int .i64 0, .agg #[.int .i64 0, .int .i64 0, .int .i64 0, .int .i64 0, .int .i64 0, .int .i64 0, .slice none 0 0, .string ⟨#[]⟩, .int .i64 0, .int .i64 0, .int .i64 0, .int .i64 0, .int .u64 0, .int .i64 0, .int .i64 0, .slice none 0 0, .int .i64 0, .int .i64 0], .slice none 0 0, .int .i64 0, .int .u8 0] rfl (by kernel_rfl) (by kernel_rfl) (by kernel_rfl)
   (OpenSpec.preRow_of_cond 8 hx (by kernel_rfl) (fun k hk => by cases hk; kernel_rfl) (by kernel_rfl) (CardW.laid_met os _))) ?_
 intro W base args ds gs before hval hW _ hcond _ _ hsh _
 exact contract H enc W base args ds gs before (hcond _ rfl) hval hW hsh
end Go.Proofs.YtinnifhnabncfaaGreatDoor.mailTells
end
