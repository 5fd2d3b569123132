/- Texts put together: VotePlaysLift. -/
import Derived.Test.YtinnifhnabncfaaGreatDoorCards
import Derived.Test.YtinnifhnabncfaaGreatDoorTie
import Derived.ChangeOld
import Derived.Below
import Derived.Test.YtinnifhnabncfaaGreatDoorVP1
import Derived.Test.YtinnifhnabncfaaGreatDoorVP12
import Derived.Test.YtinnifhnabncfaaGreatDoorVP13
set_option linter.unusedVariables false
set_option linter.unusedSimpArgs false
section
namespace Go.Proofs.YtinnifhnabncfaaGreatDoor.votePlays
open Go.ChangeShapes Go.WideShapes Go.ChangeAt Go.RowKit Base Mem
set_option linter.unusedVariables false
theorem own : ownKnob Tryz.prog.godebug = none := by kernel_rfl
theorem laidOut : laidOutB Tryz.prog = true := by kernel_rfl
/-- A slice of integers that came in. -/
def IsRow (k : IntKind) (w : World) (a : Option Addr) (len cap : Nat) (zs : List Int) : Prop :=
 (a = none ∧ len = 0 ∧ cap = 0 ∧ zs = []) ∨
 ∃ x, a = some x ∧ len ≤ cap ∧ cap ≤ maxLen ∧ zs.length = cap ∧ (∀ i, i < zs.length → w.cell? (x.add i) = some (.int k (zs.getD i 0))) ∧ ∀ n ∈ zs, (Lit.int k n).wf = true
theorem nums_of {w : World} {a : Option Addr} {len cap : Nat} {zs : List Int} (h : IsRow .i64 w a len cap zs) : (zs.take len).length = len ∧ Vi.Nums w a cap (zs.take len) := by
 obtain ⟨h1, h2, h3, _, h5⟩ := Mem.row_view h
 exact ⟨h1, by omega, h3, h5⟩
set_option maxRecDepth 100000 in
set_option maxHeartbeats 2000000 in
theorem contract (H : Type) (enc : TypeId × Value → H) (W : World) (base : Nat) (args : Array Value) (ds gs : List (DataW H)) (before : List MemPlace)
  (hk : Rows.uptoSmall H (ds ++ gs) = true) (hval : ∀ (j : Nat) t v, Tryz.f8.params[j]? = some t → args[j]? = some v → Value.okWide Tryz.prog W .any base t v)
  (hW : DataW.Whole enc Tryz.prog Tryz.f8.params.toList Rows.votePlaysSpec.vars false W args.toList ds gs before) (hsh : W.ShapedOpen Tryz.prog) :
  Calls Tryz.prog 8 args W fun e W' => ∃ v, e = .returned v ∧ Rows.votePlaysSpec.post enc Tryz.prog Tryz.f8 false true false false W args v W' := by
 have hW' := hW
 obtain ⟨p, q, hA0, hV, rfl, hfz, hnd⟩ := hW
 have hA : DataW.TrodAll enc Tryz.prog W 0 (fun _ => true) true Tryz.f8.params.toList args.toList ds p := hA0
 rw [Tryz.params8] at hA hval
 obtain ⟨v0, vs0, d0, ds0, p0, q0, hargs, rfl, rfl, h0, r0⟩ := trodAll_cons hA
 obtain ⟨v1, vs1, d1, ds1, p1, q1, rfl, rfl, rfl, h1, r1⟩ := trodAll_cons r0
 obtain ⟨v2, vs2, d2, ds2, p2, q2, rfl, rfl, rfl, h2, r2⟩ := trodAll_cons r1
 obtain ⟨rfl, rfl, rfl⟩ := trodAll_nil r2
 obtain rfl : args = #[v0, v1, v2] := by cases args; simp_all
 obtain ⟨rfl, rfl⟩ := trodVars_none hV
 obtain ⟨a0, n0, c0, rfl⟩ := okWide_slice Tryz.underlying28 (hval 0 28 v0 rfl rfl)
 have k0 := h0; have k1 := h1; have k2 := h2
 have lt0 : ∀ x ∈ p0, x.block < W.heap.size := by obtain ⟨m, hm⟩ := k0; exact DataW.trod_lt m _ _ _ hm
 have lt1 : ∀ x ∈ p1, x.block < W.heap.size := by obtain ⟨m, hm⟩ := k1; exact DataW.trod_lt m _ _ _ hm
 have lt2 : ∀ x ∈ p2, x.block < W.heap.size := by obtain ⟨m, hm⟩ := k2; exact DataW.trod_lt m _ _ _ hm
 obtain ⟨z0, g0⟩ : ∃ zs, IsRow .i64 W a0 n0 c0 zs := by
  obtain ⟨fuel, hf⟩ := h0
  rcases open_ints Tryz.underlying28 Tryz.underlying3 (by kernel_rfl) hf with ⟨hcs, _⟩ | ⟨x, l, c, zs, hcs, _, hl, hm, hz, _, hcell, hwz⟩
  ·simp [Value.cells] at hcs
   obtain ⟨rfl, rfl, rfl⟩ := hcs
   exact ⟨[], .inl ⟨rfl, rfl, rfl, rfl⟩⟩
  ·simp [Value.cells] at hcs
   obtain ⟨rfl, rfl, rfl⟩ := hcs
   exact ⟨zs, .inr ⟨_, rfl, hl, hm, by simpa using hz, hcell, hwz⟩⟩
 obtain ⟨L0, N0⟩ := nums_of g0
 obtain ⟨a1, n1, c1, rfl⟩ := okWide_slice Tryz.underlying36 (hval 1 36 v1 rfl rfl)
 obtain ⟨lb, rfl, hbs, hbl⟩ : ∃ l : List UInt8, l.length = n1 ∧ Vi.Bs W [] (.slice a1 n1 c1) l ∧ n1 ≤ Rows.uptoBulk d1 := by
  obtain ⟨fuel, hf⟩ := h1; exact Vi.open_bs hf
 obtain ⟨a2, n2, c2, rfl⟩ := okWide_slice Tryz.underlying50 (hval 2 50 v2 rfl rfl)
 obtain ⟨la, rfl, has, hal⟩ : ∃ l : List Vi.AskD, l.length = n2 ∧ Vi.AskAt W [] (.slice a2 n2 c2) l ∧ ∀ q ∈ l, Vi.AskIn (Rows.uptoBulk d2) q := by
  obtain ⟨fuel, hf⟩ := h2; exact Vi.open_asks hf
 have hbd := Vi.bulk_bound hk
 simp only [List.append_nil, Rows.uptoBulkAll] at hbd
 obtain ⟨mx, hm⟩ := CardW.max_cell hsh
 clear hA0
 have hok : ∀ a ∈ la, a.t ≤ 9223372036854775807 ∧ ∀ e ∈ a.log, Vi.Short e ∧ Vi.Wf e := fun a ha => ⟨(hal a ha).1, fun e he => ⟨((hal a ha).2 e he).short (by omega), ((hal a ha).2 e he).wf⟩⟩
 have hwalk : Calls Tryz.prog 8 #[.slice a0 n0 c0, .slice a1 lb.length c1, .slice a2 la.length c2] W fun e w' => Vi.SamePost true W e w' := by
  have := Vi.vplays_walk a0 c0 (z0.take n0) a1 c1 lb a2 c2 la mx W N0 hbs has hok hm
  rw [L0] at this
  exact this
 refine hwalk.mono fun e W' ⟨he, bel⟩ => ?_
 subst he
 exact ⟨_, rfl, _, _, _, [], _, [], hW', trodAll_mk1 (shut_bool Tryz.underlying4 _), (trodAll_cons_mk (Below.trod laidOut (by kernel_rfl) (of_decide_eq_true (by kernel_rfl)) k0 bel lt0) (trodAll_cons_mk (Below.trod laidOut (by kernel_rfl) (of_decide_eq_true (by kernel_rfl)) k1 bel lt1) (trodAll_cons_mk (Below.trod laidOut (by kernel_rfl) (of_decide_eq_true (by kernel_rfl)) k2 bel lt2) trodAll_mk0))), rfl, bel.frame _, fun h => by cases h⟩
theorem reads (os : Os) {H : Type} (enc : TypeId × Value → H) : ∃ places, DataW.whole enc Tryz.prog ((CardW.laidWorld os).forCall (fun _ _ => 0) ⟨#[], #[.slice none 0 0, .slice none 0 0, .slice none 0 0], []⟩).memory Tryz.f8.params.toList Rows.votePlaysSpec.vars false (#[.slice none 0 0, .slice none 0 0, .slice none 0 0] : Array Value).toList 8 = some ([.nil, .nil, .nil], [], places) :=
 ⟨[], by kernel_rfl⟩
set_option maxRecDepth 100000 in
theorem lifted (os : Os) (started : os.Started) (H : Type) (enc : TypeId × Value → H) (F : Stop.Interp) :
  ReturnsInHanded {} Tryz.checked os 8 .any ((Rows.OpenSpec.upto Rows.votePlaysSpec).preRow enc Tryz.prog Tryz.f8 Rows.votePlaysUptoRow.domain false Rows.votePlaysUptoRow.laid) (((Rows.OpenSpec.upto Rows.votePlaysSpec).at F).post enc Tryz.prog Tryz.f8 false true false false) := by
 obtain ⟨places, hx⟩ := reads os enc
 refine returnsInHanded_of_row (C := Tryz.checked) (s := (Rows.OpenSpec.upto Rows.votePlaysSpec)) own started (by kernel_rfl) Tryz.func8
  (witness_row_at (enc := enc) (C := Tryz.checked) false (CardW.laidWorld os) #[.slice none 0 0, .slice none 0 0, .slice none 0 0] rfl (by kernel_rfl) (by kernel_rfl) (by kernel_rfl)
   (OpenSpec.preRow_of_cond 8 hx (by kernel_rfl) (fun k hk => by cases hk; kernel_rfl) (by kernel_rfl) (CardW.laid_met os _))) ?_
 intro W base args ds gs before hval hW _ hcond _ _ hsh _
 exact contract H enc W base args ds gs before (hcond _ rfl) hval hW hsh
end Go.Proofs.YtinnifhnabncfaaGreatDoor.votePlays
end
