/- Texts put together: ModelRowsLift. -/
import Derived.Test.YtambjickanapjaaGreatDoorCards
import Derived.Test.YtambjickanapjaaGreatDoorTie
import Derived.ChangeOld
import Derived.Below
import Derived.Test.YtambjickanapjaaGreatDoorMW12
import Derived.Test.YtambjickanapjaaGreatDoorMW13
set_option linter.unusedVariables false
set_option linter.unusedSimpArgs false
set_option maxRecDepth 100000
set_option maxHeartbeats 8000000
section
namespace Go.Proofs.YtambjickanapjaaGreatDoor.modelRows
open Go.ChangeShapes Go.WideShapes Go.ChangeAt Go.RowKit
set_option linter.unusedVariables false
theorem own:ownKnob Tryz.prog.godebug=none:=by kernel_rfl
theorem laidOut:laidOutB Tryz.prog=true:=by kernel_rfl
/-- A slice of integers that came in. -/
def IsRow (k:IntKind) (w:World) (a:Option Addr) (len cap:Nat) (zs:List Int):Prop:=
 (a=none∧len=0∧cap=0∧zs=[])∨
 ∃ x,a=some x∧len≤cap∧cap≤maxLen∧zs.length=cap∧(∀ i,i < zs.length→w.cell? (x.add i)=some (.int k (zs.getD i 0)))∧∀ n∈zs,(Lit.int k n).wf=true
theorem nums_of {w:World} {a:Option Addr} {len cap:Nat} {zs:List Int} (h:IsRow .i64 w a len cap zs):(zs.take len).length=len∧Vi.Nums w a cap (zs.take len):=by
 obtain ⟨h1,h2,h3,_,h5⟩:=Mem.row_view h
 exact ⟨h1,by omega,h3,h5⟩
theorem contract (H:Type) (enc:TypeId×Value→H) (W:World) (base:Nat) (args:Array Value) (ds gs:List (DataW H)) (before:List MemPlace)
  (hval:∀ (j:Nat) t v,Tryz.f3.params[j]? = some t→args[j]? = some v→Value.okWide Tryz.prog W .any base t v)
  (hW:DataW.Whole enc Tryz.prog Tryz.f3.params.toList Rows.modelRowsSpec.vars false W args.toList ds gs before) (hsh:W.ShapedOpen Tryz.prog) :
  Calls Tryz.prog 3 args W fun e W'=>∃ v,e=.returned v∧Rows.modelRowsSpec.post enc Tryz.prog Tryz.f3 false true false false W args v W':=by
 have hW':=hW
 obtain ⟨p,q,hA0,hV,rfl,hfz,hnd⟩:=hW
 have hA:DataW.TrodAll enc Tryz.prog W 0 (fun _=>true) true Tryz.f3.params.toList args.toList ds p:=hA0
 rw [Tryz.params3] at hA hval
 obtain ⟨v0,vs0,d0,ds0,p0,q0,hargs,rfl,rfl,h0,r0⟩:=trodAll_cons hA
 obtain ⟨v1,vs1,d1,ds1,p1,q1,rfl,rfl,rfl,h1,r1⟩:=trodAll_cons r0
 obtain ⟨rfl,rfl,rfl⟩:=trodAll_nil r1
 obtain rfl:args=#[v0,v1]:=by cases args;simp_all
 obtain ⟨rfl,rfl⟩:=trodVars_none hV
 obtain ⟨a0,n0,c0,rfl⟩:=okWide_slice Tryz.underlying22 (hval 0 22 v0 rfl rfl)
 have k0:=h0
 have lt0:∀ x∈p0,x.block < W.heap.size:=by obtain ⟨m,hm⟩:=k0;exact DataW.trod_lt m _ _ _ hm
 obtain ⟨z0,g0⟩:∃ zs,IsRow .i64 W a0 n0 c0 zs:=by
  obtain ⟨fuel,hf⟩:=h0
  rcases open_ints Tryz.underlying22 Tryz.underlying3 (by kernel_rfl) hf with ⟨hcs,_⟩ | ⟨x,l,c,zs,hcs,_,hl,hm,hz,_,hcell,hwz⟩
  ·simp [Value.cells] at hcs
   obtain ⟨rfl,rfl,rfl⟩:=hcs
   exact ⟨[],.inl ⟨rfl,rfl,rfl,rfl⟩⟩
  ·simp [Value.cells] at hcs
   obtain ⟨rfl,rfl,rfl⟩:=hcs
   exact ⟨zs,.inr ⟨_,rfl,hl,hm,by simpa using hz,hcell,hwz⟩⟩
 obtain ⟨L0,N0⟩:=nums_of g0
 obtain ⟨i1,rfl,rfl,rfl,g1⟩:=open_int Tryz.underlying3 (hval 1 3 v1 rfl rfl) h1
 obtain ⟨mx,hm⟩:=CardW.max_cell hsh
 clear hA0
 have hwalk:Calls Tryz.prog 3 #[.slice a0 n0 c0,.int .i64 i1] W fun e w'=>Vi.SamePost true W e w':=by
  have:=Vi.mrows_walk a0 c0 (z0.take n0) i1 mx W N0 hm
  rw [L0] at this
  exact this
 refine hwalk.mono fun e W' ⟨he,bel⟩=>?_
 subst he
 exact ⟨_,rfl,_,_,_,[],_,[],hW',trodAll_mk1 (shut_bool Tryz.underlying4 _),(trodAll_cons_mk (Below.trod laidOut (by kernel_rfl) (of_decide_eq_true (by kernel_rfl)) k0 bel lt0) (trodAll_cons_mk (shut_int Tryz.underlying3 g1) trodAll_mk0)),rfl,bel.frame _,fun h=>by cases h⟩
theorem reads (os:Os) {H:Type} (enc:TypeId×Value→H):∃ places,DataW.whole enc Tryz.prog ((CardW.laidWorld os).forCall (fun _ _=>0) ⟨#[],#[.slice none 0 0,.int .i64 0],[]⟩).memory Tryz.f3.params.toList Rows.modelRowsSpec.vars false (#[Value.slice none 0 0,.int .i64 0]).toList 8=some ([.nil,.lit (.int .i64 0)],[],places):=
 ⟨[],by kernel_rfl⟩
theorem lifted (os:Os) (started:os.Started) (H:Type) (enc:TypeId×Value→H) (F:Stop.Interp) :
  ReturnsInHanded {} Tryz.checked os 3 .any ((OpenSpec.ofChange Rows.modelRowsSpec).preRow enc Tryz.prog Tryz.f3 Rows.modelRowsRow.domain false Rows.modelRowsRow.laid) (((OpenSpec.ofChange Rows.modelRowsSpec).at F).post enc Tryz.prog Tryz.f3 false true false false):=by
 obtain ⟨places,hx⟩:=reads os enc
 refine returnsInHanded_of_row (C:=Tryz.checked) (s:=(OpenSpec.ofChange Rows.modelRowsSpec)) own started (by kernel_rfl) Tryz.func3
  (witness_row_at (enc := enc) (C := Tryz.checked) false (CardW.laidWorld os) #[.slice none 0 0, .int .i64 0] rfl (by kernel_rfl) (by kernel_rfl) (by kernel_rfl)
   (OpenSpec.preRow_of_cond 8 hx (by kernel_rfl) (fun k hk => by cases hk) (by kernel_rfl) (CardW.laid_met os _))) ?_
 intro W base args ds gs before hval hW _ _ _ _ hsh _
 exact contract H enc W base args ds gs before hval hW hsh
end Go.Proofs.YtambjickanapjaaGreatDoor.modelRows
end
