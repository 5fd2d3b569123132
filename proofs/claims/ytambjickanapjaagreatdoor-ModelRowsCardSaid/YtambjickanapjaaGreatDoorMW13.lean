/- Texts put together: CardW. -/
import Derived.Test.YtambjickanapjaaGreatDoorRows
import Derived.WalkKit
import Derived.ProofKit
import Derived.OpenShut
import Derived.Deep.DeepHandedRow
import Derived.Lib.LaidTab
set_option linter.unusedVariables false
set_option linter.unusedSimpArgs false
set_option maxRecDepth 100000
set_option maxHeartbeats 8000000
section
namespace Go.Proofs.YtambjickanapjaaGreatDoor.CardW
open Go.ChangeShapes Go.WideShapes Go.ChangeAt Go.RowKit
theorem max_cell {W:World} (h:W.ShapedOpen Tryz.prog):∃ m,W.cell? ⟨0,0,none⟩=some (.int .i64 m):=by
 obtain ⟨cs,hh,hs,hr⟩:=h.1 0 #[.int .i64 0] 3 (by decide +kernel) (by kernel_rfl)
 obtain ⟨ts,hts,_,hall⟩:=hr (by kernel_rfl)
 rw [show Tryz.prog.cellTypes Tryz.prog.depth 3=some [3] by kernel_rfl] at hts
 cases hts
 have hs1:cs.size=1:=hs
 have h1:0 < cs.size:=by omega
 obtain ⟨u,hu',hok⟩:=hall 0 cs[0] (by simp [h1])
 obtain rfl:u=3:=by simpa using hu'.symm
 have hcell:W.cell? ⟨0,0,none⟩=some cs[0]:=by simp [World.cell?,hh,h1]
 rw [hcell]
 unfold Cell.ok at hok
 rw [Tryz.underlying3] at hok
 cases hv:cs[0] with
 | int k n=>
  rw [hv] at hok
  simp at hok
  obtain ⟨rfl,_⟩:=hok
  exact ⟨n,rfl⟩
 | _=>rw [hv] at hok;simp at hok
def laidL : List (String × DataW Unit) := [("unicode/utf8.acceptRanges", Rows.laid_unicode_utf8_acceptRanges), ("unicode/utf8.first", Rows.laid_unicode_utf8_first)]
def lay (cs:Array Value):Obj→Obj
 | .cells _ t frozen=>.cells cs t frozen
 | o=>o
noncomputable def laidWorld (os:Os):World:=
 { World.holding Tryz.prog os ⟨#[],#[],[]⟩ with heap:=((World.holding Tryz.prog os ⟨#[],#[],[]⟩).heap.modify 2 (lay (#[128,191,160,191,128,159,144,191,128,143,0,0,0,0,0,0,0,0,0,0,0,0,0,0,0,0,0,0,0,0,0,0].map (Value.int .u8 ·)))).modify 1 (lay (Go.Pinned.utf8FirstZ.map fun n=>Value.int .u8 (n:Nat)).toArray) }
theorem laid_met (os:Os) (args:Array Value):laidMet Tryz.prog laidL ((laidWorld os).forCall (fun _ _=>0) ⟨#[],args,[]⟩).memory:=
 laidMet_of_run' 8 (by kernel_rfl) (by kernel_rfl)
end Go.Proofs.YtambjickanapjaaGreatDoor.CardW
end
