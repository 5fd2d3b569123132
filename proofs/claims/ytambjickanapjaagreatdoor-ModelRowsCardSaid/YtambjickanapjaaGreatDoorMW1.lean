/- Texts put together: Base, Mem, Data, Map, McQ, Clone, Tape, Tape2, Tape3, CtA, CtB, Var1, Var2, Var3. -/
import Derived.WalkKit
import Derived.Lib.Hide
import Derived.Handy
import Derived.OpenShut
import Derived.ProofKit
import Derived.ChangeSame
import Derived.Laws.OwnMore
import Derived.Deep.AppendLies
import Derived.Deep.Draws
import Derived.Maps.AppendAt
import Derived.RegionTactic
import Derived.OwnWalk
import Derived.BigQuiet
import Derived.Deep.QuietTactic
import Derived.Maps.RangeWalk
import Derived.DeepKeys4
import Derived.Test.YtambjickanapjaaGreatDoorProg
import Derived.WalkSpells
import Derived.Deep.RegionHeld3
import Derived.Deep.DeepCutAuto
import Derived.Lib.Varint
import Derived.Lib.VarintMem
import Derived.Lib.AppendStr
import Derived.Laws.BytesString
import Derived.Laws.BitsAllLaws
import Derived.OrdersHeld
set_option linter.unusedVariables false
set_option linter.unusedSimpArgs false
set_option maxRecDepth 100000
set_option maxHeartbeats 8000000
section
namespace Go.Proofs.YtambjickanapjaaGreatDoor.Base
open Go.RowKit
theorem ret_int {k:IntKind} {a b:Int} (h:a=b):Ending.returned (.int k a)=.returned (.int k b):=by rw [h]
theorem ret_bool {a b:Bool} (h:a=b):Ending.returned (.bool a)=.returned (.bool b):=by rw [h]
/-- Block g is just the cells cs of element type t, none frozen. -/
def Blk (w:World) (g:Nat) (t:TypeId) (cs:Array Value):Prop:=w.heap[g]? = some (.cells cs t (0,0))
theorem Blk.lt {w:World} {g:Nat} {t:TypeId} {cs:Array Value} (h:Blk w g t cs):g < w.heap.size:=by
 rcases Nat.lt_or_ge g w.heap.size with hlt | hge
 ·exact hlt
 ·unfold Blk at h;rw [Array.getElem?_eq_none hge] at h;cases h
theorem Blk.cell {w:World} {g:Nat} {t:TypeId} {cs:Array Value} (h:Blk w g t cs) (i:Nat):w.cell? ⟨g,i,none⟩=cs[i]?:=cell_of_row w g i cs t (0,0) h
theorem Blk.frozen {w:World} {g:Nat} {t:TypeId} {cs:Array Value} (h:Blk w g t cs) (i:Nat):w.frozen? ⟨g,i,none⟩=false:=by
 unfold Blk at h
 simp [World.frozen?,h]
theorem Blk.new (w:World) (t:TypeId) (cs:Array Value):Blk (w.alloc (.cells cs t)) w.heap.size t cs:=heap_alloc_new w _
theorem Blk.set_ {w:World} {g:Nat} {t:TypeId} {cs:Array Value} (h:Blk w g t cs) (i:Nat) (u:Value):Blk (w.setCell ⟨g,i,none⟩ u) g t (cs.setIfInBounds i u):=by
 unfold Blk at h ⊢
 simp [World.setCell,Array.getElem?_modify,h]
theorem Blk.below {w w':World} {g:Nat} {t:TypeId} {cs:Array Value} {B:Nat} (h:Blk w g t cs) (hb:Below B w w') (hg:g < B):Blk w' g t cs:=(hb.block g hg).trans h
theorem below_new {w w':World} (h:Below w.heap.size w w') (o:Obj):Below w.heap.size w (w'.alloc o):=h.alloc h.size o
theorem below_then {a b c:World} (h:Below a.heap.size a b) (k:Below b.heap.size b c):Below a.heap.size a c:=h.trans (k.mono h.size)
section
open Go.WideShapes Go.ChangeShapes
variable {H:Type} {enc:TypeId×Value→H} {P:Program}
end
end Go.Proofs.YtambjickanapjaaGreatDoor.Base
end
section
namespace Go.Proofs.YtambjickanapjaaGreatDoor.Mem
open Go.RowKit
theorem block_of_add (a:Addr) (n:Nat):(a.add n).block=a.block:=by unfold Addr.add;split <;> rfl
theorem add_of_add (a:Addr) (i j:Nat):(a.add i).add j=a.add (i + j):=by
 unfold Addr.add
 by_cases hi:i=0 <;> by_cases hj:j=0 <;> simp [hi,hj,Nat.add_assoc]
def Reads (w:World) (B size:Nat) (A:Option Addr) (n:Nat) (xs:List Value):Prop:=
 xs.length=n * size∧(0 < n→∃ ad,A=some ad∧ad.block < B∧∀ j u,xs[j]? = some u→w.cell? (ad.add j)=some u)
section
variable {w w':World} {B B' size n:Nat} {A:Option Addr} {xs:List Value}
theorem Reads.at_ {k:Nat} (h:Reads w B 1 A n xs) (hk:k < n):∃ ad u,A=some ad∧ad.block < B∧xs[k]? = some u∧w.cell? (ad.add k)=some u:=by
 obtain ⟨ad,e,hb,hc⟩:=h.2 (by omega)
 have hl:k < xs.length:=by have:=h.1;omega
 exact ⟨ad,xs[k],e,hb,List.getElem?_eq_getElem hl,hc k _ (List.getElem?_eq_getElem hl)⟩
theorem Reads.keep (h:Reads w B size A n xs) (hk:∀ p:Addr,p.block < B→w'.cell? p=w.cell? p):Reads w' B size A n xs:=
 ⟨h.1,fun hn=>by
  obtain ⟨ad,e,hb,hc⟩:=h.2 hn
  exact ⟨ad,e,hb,fun j u hu=>(hk _ (by rw [block_of_add];exact hb)).trans (hc j u hu)⟩⟩
theorem Reads.more (h:Reads w B size A n xs) (hB:B≤B'):Reads w B' size A n xs:=
 ⟨h.1,fun hn=>by
  obtain ⟨ad,e,hb,hc⟩:=h.2 hn
  exact ⟨ad,e,by omega,hc⟩⟩
theorem Reads.below (h:Reads w B size A n xs) (hb:Below B w w'):Reads w' B size A n xs:=h.keep fun _ hp=>hb.cell hp
theorem Reads.drew (h:Reads w B size A n xs):Reads w.drew B size A n xs:=h
theorem Reads.drewN (h:Reads w B size A n xs) (k:Nat):Reads (w.drewN k) B size A n xs:=h
theorem Reads.alloc (h:Reads w B size A n xs) (hB:B≤w.heap.size) (o:Obj):Reads (w.alloc o) B size A n xs:=h.keep fun p hp=>World.cell?_alloc_lt w o p (by omega)
theorem Reads.setCell (h:Reads w B size A n xs) {p:Addr} (hB:B≤p.block) (u:Value):Reads (w.setCell p u) B size A n xs:=
 h.keep fun q hq=>World.cell?_setCell_other w p q u (fun e=>by subst e;omega)
theorem Reads.grown (h:Reads w B size A n xs) {row:Option Nat} (hg:w.grownBy w' row) (hB:B≤w.heap.size) (hr:∀ g,row=some g→B≤g):Reads w' B size A n xs:=
 h.keep fun p hp=>World.cell?_of_block (hg.block p.block (by omega) (fun e=>by have:=hr _ e.symm;omega))
theorem Reads.cut (h:Reads w B size A n xs) {k cap:Nat} (hk:k≤n) (hc:n≤cap) :
  Reads w B size (if cap=k then A else A.map (·.add (k * size))) (n - k) (xs.drop (k * size)):=by
 refine ⟨by rw [List.length_drop,h.1,Nat.sub_mul],fun hn=>?_⟩
 obtain ⟨ad,rfl,hb,hcell⟩:=h.2 (by omega)
 rw [if_neg (by omega)]
 refine ⟨ad.add (k * size),rfl,by rw [block_of_add];exact hb,fun j u hu=>?_⟩
 rw [add_of_add]
 exact hcell _ u (by rw [← hu,List.getElem?_drop])
theorem Reads.of_own {base:Nat} {e:TypeId} {c:Nat} (h:w.ownsRow base e size (.slice A n c) n xs):Reads w w.heap.size size A n xs:=by
 refine ⟨h.1,fun hn=>?_⟩
 obtain ⟨g,cap,hv,_,hlt⟩:=h.form hn
 have hA:A=some ⟨g,0,none⟩:=by injection hv
 subst hA
 exact ⟨_,rfl,hlt,h.cells (g:=g) rfl⟩
end
section
variable {P:Program} (w:World)
theorem run_append_of_nil (base:Nat) (t ty e:TypeId) (i:TypeInfo) (size:Nat) (ht:P.underlying t=some (.slice e)) (hi:P.info? e=some i)
  (v:Value) (n:Nat) (xs:List Value) (hown:w.ownsRow base e size v n xs) (c:Nat):(Builtin.append_ #[t,t] ty #[v,.slice none 0 c]).run P w=.ok v w:=by
 rcases hown.2 with ⟨rfl,rfl⟩ | ⟨g,cap,cur,rfl,_,_,hnc,_⟩
 ·simp [Builtin.append_,run_underlying ht,sizeOf,typeInfo,hi,Builtin.lenOf,Builtin.firstCells]
 ·simp [Builtin.append_,run_underlying ht,sizeOf,typeInfo,hi,Builtin.lenOf,Builtin.firstCells,hnc,storeCells]
theorem run_append_any (base:Nat) (t ty e:TypeId) (i:TypeInfo) (z:Value) (size bytes:Nat) (ht:P.underlying t=some (.slice e)) (hi:P.info? e=some i) (hz:i.zero=some z)
  (hsize:i.size=size) (hby:i.bytes=bytes) (hzs:z.cells.size=size) (hsz:0 < size)
  (v:Value) (n:Nat) (xs:List Value) (hown:w.ownsRow base e size v n xs)
  (B:Nat) (A:Option Addr) (m c:Nat) (news:List Value) (hr:Reads w B size A m news) (h1:∀ u∈news,u.oneCell'=true)
  (h63:n + m≤maxLen) (hbytes:(n + m) * bytes≤140737488355328) (hbase:base≤w.heap.size) :
  ∃ v' w',(Builtin.append_ #[t,t] ty #[v,.slice A m c]).run P w=.ok v' w'∧w'.ownsRow base e size v' (n + m) (xs++news)∧w.grownBy w' v.ownBlock∧
   (v'.ownBlock=v.ownBlock∨v'.ownBlock=some w.heap.size):=by
 rcases A with _ | ad
 ·have hm:m=0:=by
   rcases Nat.eq_zero_or_pos m with h0 | h0
   ·exact h0
   ·obtain ⟨ad,h,_⟩:=hr.2 h0
    cases h
  subst hm
  have hn:news=[]:=List.eq_nil_of_length_eq_zero (by simpa using hr.1)
  subst hn
  exact ⟨v,w,run_append_of_nil w base t ty e i size ht hi v n xs hown c,by simpa using hown,World.grownBy.refl w _,.inl rfl⟩
 ·have hcells:∀ j u,news[j]? = some u→w.cell? (ad.add j)=some u:=by
   intro j u hu
   rcases Nat.eq_zero_or_pos m with h0 | h0
   ·subst h0
    have hn:news=[]:=List.eq_nil_of_length_eq_zero (by simpa using hr.1)
    subst hn
    simp at hu
   ·obtain ⟨ad',h,_,hc⟩:=hr.2 h0
    injection h with h
    subst h
    exact hc j u hu
  obtain ⟨v',w',hrun,h2,h3,_,h5⟩:=run_append_own_at (P:=P) w base t ty e i z size bytes ht hi hz hsize hby hzs hsz v n xs hown ad m c news hr.1 hcells h1 h63 hbytes hbase
  exact ⟨v',w',hrun,h2,h3,h5⟩
theorem wp_append_any {o:Oper} {a:Act} {K:Act→World→Prop} {Q:Exit→Act→World→Prop} (s x:Operand) (t:TypeId)
  (ho:o.op=.call { callee:=.builtin .append,args:=#[s,x],argTypes:=#[t,t] })
  (base:Nat) (e:TypeId) (i:TypeInfo) (z:Value) (size bytes:Nat) (ht:P.underlying t=some (.slice e)) (hi:P.info? e=some i) (hz:i.zero=some z)
  (hsize:i.size=size) (hby:i.bytes=bytes) (hzs:z.cells.size=size) (hsz:0 < size)
  (v:Value) (n:Nat) (xs:List Value) (hs:a.eval s=v) (hown:w.ownsRow base e size v n xs)
  (B:Nat) (A:Option Addr) (m c:Nat) (news:List Value) (hx:a.eval x=.slice A m c) (hr:Reads w B size A m news) (h1:∀ u∈news,u.oneCell'=true)
  (h63:n + m≤maxLen) (hbytes:(n + m) * bytes≤140737488355328) (hbase:base≤w.heap.size)
  (h:∀ v' w',w'.ownsRow base e size v' (n + m) (xs++news)→w.grownBy w' v.ownBlock→(v'.ownBlock=v.ownBlock∨v'.ownBlock=some w.heap.size)→K (a.put o.dst v') w'):o.wp P a w K Q:=by
 obtain ⟨v',w',hrun,h2,h3,h4⟩:=run_append_any (P:=P) w base t o.type e i z size bytes ht hi hz hsize hby hzs hsz v n xs hown B A m c news hr h1 h63 hbytes hbase
 unfold Oper.wp execOp
 simp only [ho,resolve,invoke,builtin,Sem.run_bind,Sem.run_pure,Result.andThen_ok,List.map_toArray,List.map_cons,List.map_nil,hs,hx,hrun]
 exact h v' w' h2 h3 h4
theorem wpList_append_any {ops:Array Oper} {rest:List Oper} {o:Oper} {a:Act} {Q:Exit→Act→World→Prop} (hgd:o.guard=none) (s x:Operand) (t:TypeId)
  (ho:o.op=.call { callee:=.builtin .append,args:=#[s,x],argTypes:=#[t,t] })
  (base:Nat) (e:TypeId) (i:TypeInfo) (z:Value) (size bytes:Nat) (ht:P.underlying t=some (.slice e)) (hi:P.info? e=some i) (hz:i.zero=some z)
  (hsize:i.size=size) (hby:i.bytes=bytes) (hzs:z.cells.size=size) (hsz:0 < size)
  (v:Value) (n:Nat) (xs:List Value) (hs:a.eval s=v) (hown:w.ownsRow base e size v n xs)
  (B:Nat) (A:Option Addr) (m c:Nat) (news:List Value) (hx:a.eval x=.slice A m c) (hr:Reads w B size A m news) (h1:∀ u∈news,u.oneCell'=true)
  (h63:n + m≤maxLen) (hbytes:(n + m) * bytes≤140737488355328) (hbase:base≤w.heap.size)
  (h:∀ v' w',w'.ownsRow base e size v' (n + m) (xs++news)→w.grownBy w' v.ownBlock→(v'.ownBlock=v.ownBlock∨v'.ownBlock=some w.heap.size)→wpList P ops Q rest (a.put o.dst v') w'):wpList P ops Q (o :: rest) a w:=
 wpList_plain hgd fun _ hK=>wp_append_any w s x t ho base e i z size bytes ht hi hz hsize hby hzs hsz v n xs hs hown B A m c news hx hr h1 h63 hbytes hbase fun v' w' h2 h3 h4=>hK _ _ (h v' w' h2 h3 h4)
theorem step_append_any {ops:Array Oper} {o:Oper} {a:Act} {K:Act→World→Prop} {Q:Exit→Act→World→Prop} {E:Prop} (hgd:o.guard=none) (s x:Operand) (t:TypeId)
  (ho:o.op=.call { callee:=.builtin .append,args:=#[s,x],argTypes:=#[t,t] })
  (base:Nat) (e:TypeId) (i:TypeInfo) (z:Value) (size bytes:Nat) (ht:P.underlying t=some (.slice e)) (hi:P.info? e=some i) (hz:i.zero=some z)
  (hsize:i.size=size) (hby:i.bytes=bytes) (hzs:z.cells.size=size) (hsz:0 < size)
  (v:Value) (n:Nat) (xs:List Value) (hs:a.eval s=v) (hown:w.ownsRow base e size v n xs)
  (B:Nat) (A:Option Addr) (m c:Nat) (news:List Value) (hx:a.eval x=.slice A m c) (hr:Reads w B size A m news) (h1:∀ u∈news,u.oneCell'=true)
  (h63:n + m≤maxLen) (hbytes:(n + m) * bytes≤140737488355328) (hbase:base≤w.heap.size)
  (h:∀ v' w',w'.ownsRow base e size v' (n + m) (xs++news)→w.grownBy w' v.ownBlock→(v'.ownBlock=v.ownBlock∨v'.ownBlock=some w.heap.size)→K (a.put o.dst v') w') :
  if Region.wanted o (yielded ops a.tmps)=true then Oper.wp P o a w K Q else E:=by
 have hw:Region.wanted o (yielded ops a.tmps)=true:=by simp [Region.wanted,hgd]
 rw [if_pos hw]
 exact wp_append_any w s x t ho base e i z size bytes ht hi hz hsize hby hzs hsz v n xs hs hown B A m c news hx hr h1 h63 hbytes hbase h
end
theorem below_new' (w:World) (o:Obj):Below w.heap.size w (w.alloc o):=(Below.refl _ _).alloc (Nat.le_refl _) o
theorem bcell {W w1:World} (hb:Below W.heap.size W w1):(∀ b o,b < W.heap.size→w1.cell? ⟨b,o,none⟩=W.cell? ⟨b,o,none⟩)∧(∀ b o,b < W.heap.size→w1.frozen? ⟨b,o,none⟩=W.frozen? ⟨b,o,none⟩):=
 ⟨fun b o h=>hb.cell (p:=⟨b,o,none⟩) h,fun b o h=>hb.frozen (p:=⟨b,o,none⟩) h⟩
theorem quiet_left {P:Program} {f:FuncId} {args:Array Value} {w:World} {n:Nat} {v:Value}
  (h:Calls P f args (w.drewN n) fun e w'=>e=.returned v∧w.drewN n=w'):Calls P f args (w.drewN n) fun e w''=>e=.returned v∧∃ m,w''=w.drewN m:=
 h.mono fun _ _ ⟨he,hm⟩=>⟨he,n,hm.symm⟩
theorem quiet_add {P:Program} {f:FuncId} {args:Array Value} {w:World} {n:Nat} {v:Value}
  (h:Calls P f args (w.drewN n) fun e w'=>e=.returned v∧∃ m,w'=(w.drewN n).drewN m):Calls P f args (w.drewN n) fun e w''=>e=.returned v∧∃ m,w''=w.drewN m:=
 h.mono fun _ _ ⟨he,m,hm⟩=>⟨he,n + m,by rw [hm,World.drewN_drewN]⟩
/-- What lay in blocks other than those of M lies there still. -/
structure Keeps (M:List Nat) (w w':World):Prop where
 os:w'.os=w.os
 tape:w'.tape=w.tape
 output:w'.output=w.output
 size:w.heap.size≤w'.heap.size
 block:∀ g,g < w.heap.size→g∉M→w'.heap[g]? = w.heap[g]?
section
variable {M M':List Nat} {a w w':World}
theorem Keeps.refl (M:List Nat) (w:World):Keeps M w w:=⟨rfl,rfl,rfl,Nat.le_refl _,fun _ _ _=>rfl⟩
theorem Keeps.trans (h:Keeps M a w) (k:Keeps M' w w') (hM:∀ g∈M',g∈M∨a.heap.size≤g):Keeps M a w':=
 ⟨k.os.trans h.os,k.tape.trans h.tape,k.output.trans h.output,Nat.le_trans h.size k.size,fun g hg hn=>
  (k.block g (Nat.lt_of_lt_of_le hg h.size) (fun hm=>by rcases hM g hm with h1 | h1;exact hn h1;omega)).trans (h.block g hg hn)⟩
theorem Keeps.mono (h:Keeps M a w) (hM:∀ g∈M,g∈M'∨a.heap.size≤g):Keeps M' a w:=
 ⟨h.os,h.tape,h.output,h.size,fun g hg hn=>h.block g hg (fun hm=>by rcases hM g hm with h1 | h1;exact hn h1;omega)⟩
theorem Keeps.drew (h:Keeps M a w):Keeps M a w.drew:=⟨h.os,h.tape,h.output,h.size,h.block⟩
theorem Keeps.drewN (h:Keeps M a w) (n:Nat):Keeps M a (w.drewN n):=⟨h.os,h.tape,h.output,h.size,h.block⟩
theorem Keeps.alloc (h:Keeps M a w) (o:Obj):Keeps M a (w.alloc o):=
 ⟨h.os,h.tape,h.output,Nat.le_trans h.size (by simp),fun g hg hn=>(Below.heap_alloc w o g (Nat.lt_of_lt_of_le hg h.size)).trans (h.block g hg hn)⟩
theorem Keeps.setCell (h:Keeps M a w) {p:Addr} (hp:p.block∈M∨a.heap.size≤p.block) (u:Value):Keeps M a (w.setCell p u):=
 ⟨h.os, h.tape, h.output, by simpa [World.setCell] using h.size, fun g hg hn => (Below.heap_setCell w p u g (by
  rintro rfl
  rcases hp with hp | hp
  ·exact hn hp
  ·omega)).trans (h.block g hg hn)⟩
theorem Keeps.grown (h:Keeps M a w) {row:Option Nat} (hg:w.grownBy w' row) (hr:∀ g,row=some g→g∈M∨a.heap.size≤g):Keeps M a w':=
 ⟨hg.os.trans h.os,hg.tape.trans h.tape,hg.output.trans h.output,Nat.le_trans h.size hg.size,fun g hlt hn=>
  (hg.block g (Nat.lt_of_lt_of_le hlt h.size) (fun e=>by rcases hr g e.symm with h1 | h1;exact hn h1;omega)).trans (h.block g hlt hn)⟩
theorem Keeps.of_below (h:Below a.heap.size a w):Keeps M a w:=⟨h.os,h.tape,h.output,h.size,fun g hg _=>h.block g hg⟩
theorem Keeps.below (h:Keeps [] a w):Below a.heap.size a w:=⟨h.os,h.tape,h.output,h.size,fun g hg=>h.block g hg (by simp)⟩
theorem Keeps.belowB (h:Keeps M a w) {B:Nat} (hB:B≤a.heap.size) (hM:∀ g∈M,B≤g):Below B a w:=
 ⟨h.os,h.tape,h.output,h.size,fun g hg=>h.block g (by omega) (fun hm=>by have:=hM g hm;omega)⟩
theorem Keeps.cell (h:Keeps M w w') {p:Addr} (hp:p.block < w.heap.size) (hn:p.block∉M):w'.cell? p=w.cell? p:=World.cell?_of_block (h.block _ hp hn)
theorem Keeps.blk (h:Keeps M w w') {g:Nat} {t:TypeId} {cs:Array Value} (hb:Base.Blk w g t cs) (hn:g∉M):Base.Blk w' g t cs:=(h.block g hb.lt hn).trans hb
end
theorem own_below {w w1:World} {base:Nat} {e:TypeId} {size n:Nat} {v:Value} {xs:List Value} (h:w.ownsRow base e size v n xs) (hb:Below w.heap.size w w1):w1.ownsRow base e size v n xs:=
 h.kept (row:=none) ⟨hb.os,hb.tape,hb.output,hb.size,fun k hk _=>hb.block k hk⟩ (by cases h':v.ownBlock <;> simp)
theorem reads_new (w:World) (t:TypeId) (size m:Nat) (xs:List Value) (h:xs.length=m * size):Reads (w.alloc (.cells xs.toArray t)) (w.heap.size + 1) size (some ⟨w.heap.size,0,none⟩) m xs:=
 ⟨h,fun _=>⟨_,rfl,by show w.heap.size < _;omega,fun j u hu=>by rw [show (⟨w.heap.size,0,none⟩:Addr).add j=⟨w.heap.size,j,none⟩ by unfold Addr.add;split <;> simp_all,(Base.Blk.new w t _).cell j];simpa using hu⟩⟩
theorem own_keep {M:List Nat} {w w1:World} {base:Nat} {e:TypeId} {size n:Nat} {v:Value} {xs:List Value} (h:w.ownsRow base e size v n xs) (hk:Keeps M w w1) (hM:∀ g∈M,g < base):w1.ownsRow base e size v n xs:=by
 obtain ⟨hl,h⟩:=h
 refine ⟨hl,?_⟩
 rcases h with h | ⟨g,cap,cur,hv,hb,hg,rest⟩
 ·exact .inl h
 ·exact .inr ⟨g,cap,cur,hv,hb,(hk.block g (Array.getElem?_eq_some_iff.1 hg).1 (fun hm=>by have:=hM g hm;omega)).trans hg,rest⟩
/-- The slice v of n things of size cells each reads as xs; it lies in no block of M. -/
def Rd (w:World) (M:List Nat) (size:Nat) (v:Value) (n:Nat) (xs:List Value):Prop:=
 ∃ A c,v=.slice A n c∧n≤c∧xs.length=n * size∧
  (0 < n→∃ g off,A=some ⟨g,off,none⟩∧g < w.heap.size∧g∉M∧∀ j u,xs[j]? = some u→w.cell? ⟨g,off + j,none⟩=some u)
section
variable {M M':List Nat} {w w':World} {size n:Nat} {v:Value} {xs:List Value}
theorem addr_add (g off j:Nat):(⟨g,off,none⟩:Addr).add j=⟨g,off + j,none⟩:=by unfold Addr.add;split <;> simp_all
theorem Rd.keep (h:Rd w M size v n xs) (k:Keeps M' w w') (hM:∀ g∈M',g∈M∨w.heap.size≤g):Rd w' M size v n xs:=by
 obtain ⟨A,c,rfl,hc,hl,hr⟩:=h
 refine ⟨A,c,rfl,hc,hl,fun hn=>?_⟩
 obtain ⟨g,off,rfl,hg,hm,hx⟩:=hr hn
 refine ⟨g,off,rfl,Nat.lt_of_lt_of_le hg k.size,hm,fun j u hu=>?_⟩
 rw [World.cell?_of_block (k.block g hg (fun hm'=>by rcases hM g hm' with h1 | h1;exact hm h1;omega))]
 exact hx j u hu
theorem Rd.avoid (h:Rd w M size v n xs) (hM:∀ g∈M',g∈M∨w.heap.size≤g):Rd w M' size v n xs:=by
 obtain ⟨A,c,rfl,hc,hl,hr⟩:=h
 refine ⟨A,c,rfl,hc,hl,fun hn=>?_⟩
 obtain ⟨g,off,rfl,hg,hm,hx⟩:=hr hn
 exact ⟨g,off,rfl,hg,fun hm'=>by rcases hM g hm' with h1 | h1;exact hm h1;omega,hx⟩
theorem Rd.reads (h:Rd w M size v n xs):∃ A c,v=.slice A n c∧n≤c∧Reads w w.heap.size size A n xs:=by
 obtain ⟨A,c,rfl,hc,hl,hr⟩:=h
 refine ⟨A,c,rfl,hc,hl,fun hn=>?_⟩
 obtain ⟨g,off,rfl,hg,_,hx⟩:=hr hn
 exact ⟨_,rfl,hg,fun j u hu=>by rw [addr_add];exact hx j u hu⟩
theorem Rd.clip {A:Option Addr} {c:Nat} (h:Rd w M size (.slice A n c) n xs):Rd w M size (.slice A n n) n xs:=by
 obtain ⟨A',c',he,hc,hl,hr⟩:=h
 injection he with h1 h2 h3
 subst h1
 exact ⟨A,n,rfl,Nat.le_refl _,hl,hr⟩
theorem Rd.more {g:Nat} (h:Rd w (g :: M) size v n xs):Rd w M size v n xs:=h.avoid (fun _ hx=>.inl (List.mem_cons_of_mem _ hx))
theorem Rd.of_own {base:Nat} {e:TypeId} (h:w.ownsRow base e size v n xs) (hM:∀ g∈M,g < base):Rd w M size v n xs:=by
 obtain ⟨hl,h⟩:=h
 rcases h with ⟨rfl,rfl⟩ | ⟨g,cap,cur,rfl,hb,hg,hnc,_,hcs,ht⟩
 ·exact ⟨none,0,rfl,Nat.le_refl _,hl,fun h=>absurd h (by omega)⟩
 ·refine ⟨_,cap,rfl,hnc,hl,fun _=>⟨g,0,rfl,(Array.getElem?_eq_some_iff.1 hg).1,fun hm=>by have:=hM g hm;omega,fun j u hu=>?_⟩⟩
  rw [cell_of_row w g (0 + j) cur e (0,0) hg]
  rw [← ht,List.getElem?_take] at hu
  split at hu
  ·simpa using hu
  ·cases hu
end
/-- What the frame of a proof says of a slice of integers that came in, in the words of the walks. -/
theorem row_view {k:IntKind} {w:World} {a:Option Addr} {len cap:Nat} {zs:List Int}
  (h:(a=none∧len=0∧cap=0∧zs=[])∨∃ x,a=some x∧len≤cap∧cap≤maxLen∧zs.length=cap∧(∀ i,i < zs.length→w.cell? (x.add i)=some (.int k (zs.getD i 0)))∧∀ n∈zs,(Lit.int k n).wf=true) :
  (zs.take len).length=len∧len≤cap∧cap≤9223372036854775807∧(∀ n∈zs.take len,(Lit.int k n).wf=true)∧
  (0 < (zs.take len).length→∃ g off,a=some ⟨g,off,none⟩∧g < w.heap.size∧∀ (j:Nat) (x:Int),(zs.take len)[j]? = some x→w.cell? ⟨g,off + j,none⟩=some (.int k x)):=by
 rcases h with ⟨rfl,rfl,rfl,rfl⟩ | ⟨x,rfl,hl,hm,hz,hc,hw⟩
 ·exact ⟨rfl,Nat.le_refl _,by omega,by simp,by simp⟩
 ·refine ⟨by rw [List.length_take];omega,hl,by simpa [maxLen] using hm,fun n hn=>hw n (List.mem_of_mem_take hn),fun h0=>?_⟩
  rw [List.length_take] at h0
  have h1:=hc 0 (by omega)
  obtain ⟨g,off,sp⟩:=x
  have hsp:sp=none:=by
   cases sp with
   | none=>rfl
   | some q=>
    rw [show (⟨g,off,some q⟩:Addr).add 0=⟨g,off,some q⟩ from rfl] at h1
    unfold World.cell? at h1
    split at h1 <;> simp at h1
  subst hsp
  refine ⟨g,off,rfl,World.block_lt_of_cell? w _ h1,fun j y hj=>?_⟩
  rw [List.getElem?_take] at hj
  split at hj
  ·rename_i hlt
   have h2:=hc j (by omega)
   rw [addr_add] at h2
   rw [h2,List.getD_eq_getElem?_getD,hj]
   rfl
  ·cases hj
structure DeltaD where
 ser:ByteArray
 n:Int
structure EntryD where
 kind:Int
 ag:Int
 sh:Int
 seq:Int
 ep:Int
 ds:List DeltaD
 ser:ByteArray
 fr:Int
 tag:Int
def dCell (d:DeltaD):List Value:=[.string d.ser,.int .u64 d.n]
def dCells (ds:List DeltaD):List Value:=ds.flatMap dCell
def eCell (p:EntryD×Value):List Value:=
 [.int .i64 p.1.kind,.int .i64 p.1.ag,.int .i64 p.1.sh,.int .i64 p.1.seq,.int .i64 p.1.ep,p.2,.string p.1.ser,.int .i64 p.1.fr,.int .i64 p.1.tag]
/-- v reads as these deltas. -/
def Ds (w:World) (M:List Nat) (v:Value) (ds:List DeltaD):Prop:=Rd w M 2 v ds.length (dCells ds)
/-- v reads as these entries. -/
def Ens (w:World) (M:List Nat) (v:Value) (l:List EntryD):Prop:=
 ∃ ps:List (EntryD×Value),ps.map (·.1)=l∧Rd w M 9 v ps.length (ps.flatMap eCell)∧∀ p∈ps,Ds w M p.2 p.1.ds
theorem flat_len {α:Type} (f:α→List Value) (c:Nat) (hf:∀ x,(f x).length=c) (l:List α):(l.flatMap f).length=l.length * c:=by
 induction l with
 | nil=>simp
 | cons x l ih=>simp [hf,ih,Nat.add_mul];omega
theorem flat_at {α:Type} (f:α→List Value) (c:Nat) (hf:∀ x,(f x).length=c) (l:List α) (k j:Nat) (hk:k < l.length) (hj:j < c):(l.flatMap f)[k * c + j]? = (f l[k])[j]?:=by
 induction l generalizing k with
 | nil=>simp at hk
 | cons x l ih=>
  cases k with
  | zero=>simp only [List.flatMap_cons,Nat.zero_mul,Nat.zero_add,List.getElem_cons_zero];rw [List.getElem?_append_left (by rw [hf];exact hj)]
  | succ k=>
   simp only [List.flatMap_cons,List.getElem_cons_succ]
   rw [List.getElem?_append_right (by rw [hf,Nat.add_mul];omega),hf,show (k + 1) * c + j - c=k * c + j by rw [Nat.add_mul];omega]
   exact ih k (by simpa using hk)
theorem dCells_len (ds:List DeltaD):(dCells ds).length=ds.length * 2:=flat_len dCell 2 (fun _=>rfl) ds
theorem dCells_one (ds:List DeltaD):∀ u∈dCells ds,u.oneCell'=true:=by
 intro u hu
 obtain ⟨d,_,hd⟩:=List.mem_flatMap.1 hu
 simp [dCell] at hd
 rcases hd with rfl | rfl <;> rfl
section
variable {w w':World} {M M':List Nat} {v:Value} {ds:List DeltaD} {l:List EntryD}
theorem Ds.keep (h:Ds w M v ds) (k:Keeps M' w w') (hM:∀ g∈M',g∈M∨w.heap.size≤g):Ds w' M v ds:=Rd.keep h k hM
theorem Ds.avoid (h:Ds w M v ds) (hM:∀ g∈M',g∈M∨w.heap.size≤g):Ds w M' v ds:=Rd.avoid h hM
theorem Ens.keep (h:Ens w M v l) (k:Keeps M' w w') (hM:∀ g∈M',g∈M∨w.heap.size≤g):Ens w' M v l:=by
 obtain ⟨ps,hl,hr,hd⟩:=h
 exact ⟨ps,hl,hr.keep k hM,fun p hp=>(hd p hp).keep k hM⟩
theorem Ens.avoid (h:Ens w M v l) (hM:∀ g∈M',g∈M∨w.heap.size≤g):Ens w M' v l:=by
 obtain ⟨ps,hl,hr,hd⟩:=h
 exact ⟨ps,hl,hr.avoid hM,fun p hp=>(hd p hp).avoid hM⟩
theorem Ens.len (h:Ens w M v l):∃ A c,v=.slice A l.length c∧l.length≤c:=by
 obtain ⟨ps,rfl,⟨A,c,rfl,hc,_⟩,_⟩:=h
 exact ⟨A,c,by simp,by simpa using hc⟩
theorem Ds.len (h:Ds w M v ds):∃ A c,v=.slice A ds.length c∧ds.length≤c:=by
 obtain ⟨A,c,rfl,hc,_⟩:=h
 exact ⟨A,c,rfl,hc⟩
theorem Ens.nil (w:World) (M:List Nat):Ens w M (.slice none 0 0) []:=⟨[],rfl,⟨none,0,rfl,Nat.le_refl _,rfl,fun h=>absurd h (by simp)⟩,by simp⟩
theorem Ds.nil (w:World) (M:List Nat):Ds w M (.slice none 0 0) []:=⟨none,0,rfl,Nat.le_refl _,rfl,fun h=>absurd h (by simp)⟩
/-- The cells of a slice's k-th thing. -/
theorem Rd.at_ {α:Type} (f:α→List Value) (c:Nat) (hf:∀ x,(f x).length=c) {xs:List α} (h:Rd w M c v xs.length (xs.flatMap f)) {k:Nat} (hk:k < xs.length) :
  ∃ g off cap,v=.slice (some ⟨g,off,none⟩) xs.length cap∧xs.length≤cap∧g < w.heap.size∧g∉M∧∀ j u,(f xs[k])[j]? = some u→w.cell? ⟨g,off + k * c + j,none⟩=some u:=by
 obtain ⟨A,cap,rfl,hc,hl,hr⟩:=h
 obtain ⟨g,off,rfl,hg,hm,hx⟩:=hr (by omega)
 refine ⟨g,off,cap,rfl,hc,hg,hm,fun j u hu=>?_⟩
 have hj:j < c:=by
  rw [← hf xs[k]]
  exact (List.getElem?_eq_some_iff.1 hu).1
 rw [Nat.add_assoc]
 exact hx _ u (by rw [flat_at f c hf xs k j hk hj];exact hu)
end
/-- The deltas of the entries that a row of the call's own holds lie in blocks that are neither old nor the row's. -/
def DsOwn (w wr:World) (out:Value) (qs:List (EntryD×Value)):Prop:=∀ q∈qs,∀ M',(∀ g∈M',g < w.heap.size∨out.ownBlock=some g)→Ds wr M' q.2 q.1.ds
theorem dsOwn_one {w w1 w2:World} {out v' dv:Value} {o:Obj} {ds:List DeltaD}
  (h:∀ M',(∀ g∈M',g < w.heap.size∨out.ownBlock=some g)→Ds w1 M' dv ds)
  (hg:(w1.alloc o).grownBy w2 out.ownBlock) (hat:v'.ownBlock=out.ownBlock∨v'.ownBlock=some (w1.heap.size + 1)) (M':List Nat) (hM:∀ g∈M',g < w.heap.size∨v'.ownBlock=some g):Ds w2 M' dv ds:=by
 have h1 := h (out.ownBlock.toList ++ M'.filter (fun g => decide (g < w.heap.size))) (by
  intro g hg
  rcases List.mem_append.1 hg with h1 | h1
  ·right;simpa using h1
  ·left; simpa using (List.mem_filter.1 h1).2)
 have h2:Ds (w1.alloc o) (out.ownBlock.toList++M'.filter (fun g=>decide (g < w.heap.size))) dv ds:=h1.keep (M':=[]) ((Keeps.refl _ _).alloc o) (by simp)
 have h3 : Ds (w1.alloc o) (out.ownBlock.toList ++ M') dv ds := h2.avoid (by
  intro g hg
  rcases List.mem_append.1 hg with h1 | h1
  ·exact .inl (List.mem_append_left _ h1)
  ·rcases hM g h1 with h4 | h4
   ·exact .inl (List.mem_append_right _ (List.mem_filter.2 ⟨h1,by simpa using h4⟩))
   ·rcases hat with h5 | h5
    ·exact .inl (List.mem_append_left _ (by rw [h5] at h4;simpa using h4))
    ·rw [h5] at h4; injection h4 with h4; right; simp; omega)
 have h4:Keeps out.ownBlock.toList (w1.alloc o) w2:=(Keeps.refl _ _).grown hg (fun g hg=>.inl (by simpa using hg))
 exact (h3.keep h4 (fun g hg=>.inl (List.mem_append_left _ hg))).avoid (fun g hg=>.inl (List.mem_append_right _ hg))
theorem dsOwn_step {w wr w1 w2:World} {out v' dv':Value} {o:Obj} {qs:List (EntryD×Value)} {e:EntryD} (hds:DsOwn w wr out qs) (hb1:Below wr.heap.size wr w1) (hlt:∀ g,out.ownBlock=some g→g < wr.heap.size) (hw:w.heap.size≤wr.heap.size)
  (hnew:∀ M',(∀ g∈M',g < wr.heap.size)→Ds w1 M' dv' e.ds)
  (hg:(w1.alloc o).grownBy w2 out.ownBlock) (hat:v'.ownBlock=out.ownBlock∨v'.ownBlock=some (w1.heap.size + 1)):DsOwn w w2 v' (qs++[(e,dv')]):=by
 intro q hq M' hM
 rcases List.mem_append.1 hq with h1 | h1
 ·exact dsOwn_one (fun M'' hM''=>(hds q h1 M'' hM'').keep (M':=[]) (Keeps.of_below hb1) (by simp)) hg hat M' hM
 ·simp at h1
  subst h1
  exact dsOwn_one (fun M'' hM''=>hnew M'' (fun g hg=>by rcases hM'' g hg with h | h;omega;exact hlt g h)) hg hat M' hM
theorem dsOwn_stepK {Mk:List Nat} {w wr w1 w2:World} {out v' dv':Value} {o:Obj} {qs:List (EntryD×Value)} {e:EntryD} (hds:DsOwn w wr out qs) (hk:Keeps Mk wr w1) (hMk:∀ g∈Mk,g < w.heap.size) (hlt:∀ g,out.ownBlock=some g→g < wr.heap.size) (hw:w.heap.size≤wr.heap.size)
  (hnew:∀ M',(∀ g∈M',g < wr.heap.size)→Ds w1 M' dv' e.ds)
  (hg:(w1.alloc o).grownBy w2 out.ownBlock) (hat:v'.ownBlock=out.ownBlock∨v'.ownBlock=some (w1.heap.size + 1)):DsOwn w w2 v' (qs++[(e,dv')]):=by
 intro q hq M' hM
 rcases List.mem_append.1 hq with h1 | h1
 ·refine dsOwn_one (fun M'' hM''=>?_) hg hat M' hM
  exact ((hds q h1 (Mk++M'') (by intro g hg;rcases List.mem_append.1 hg with h2 | h2;exact .inl (hMk g h2);exact hM'' g h2)).keep hk (fun _ hg=>.inl (List.mem_append_left _ hg))).avoid (fun _ hg=>.inl (List.mem_append_right _ hg))
 ·simp at h1
  subst h1
  exact dsOwn_one (fun M'' hM''=>hnew M'' (fun g hg=>by rcases hM'' g hg with h | h;omega;exact hlt g h)) hg hat M' hM
theorem below_step {w wr w1 w2:World} {o:Obj} {row:Option Nat} (h:Below w.heap.size w wr) (hb1:Below wr.heap.size wr w1) (hg:(w1.alloc o).grownBy w2 row) (hr:∀ g,row=some g→w.heap.size≤g):Below w.heap.size w w2:=
 ((h.trans (hb1.mono h.size)).alloc (Nat.le_trans h.size hb1.size) o).grown hg (by have:=h.size;have:=hb1.size;simp;omega) hr
end Go.Proofs.YtambjickanapjaaGreatDoor.Mem
end
section
namespace Go.Proofs.YtambjickanapjaaGreatDoor.Vi
open Go.RowKit Base Mem
open Go.Maps (Keyed)
section
variable {H:Type} {P:Program} {k e t:TypeId} {q:IntKind} {w w':World} {b n r:Nat} {D:DataW H} {R:Value→Option (DataW H×List MemPlace)}
theorem om_keep {M:List Nat} (h:w.ownsMap P k R b n D) (hk:Keeps M w w') (hb:b∉M):w'.ownsMap P k R b n D:=by
 have hlt:=h.lt
 obtain ⟨es,clock,h1,F,hs,hD⟩:=h
 exact ⟨es,clock,(hk.block b hlt hb).trans h1,F,hs,hD⟩
theorem rg_keep {M:List Nat} {left:Lit→Bool} {cnt:Nat} (h:w.ranges P k R b r n D left cnt) (hk:Keeps M w w') (hb:b∉M) (hr:r∉M):w'.ranges P k R b r n D left cnt:=by
 have h1:=h.owns.lt
 have h2:=h.lt
 obtain ⟨es,clock,since,seen,c0,hb',F,hs,hD,hr',rest⟩:=h
 exact ⟨es,clock,since,seen,c0,(hk.block b h1 hb).trans hb',F,hs,hD,(hk.block r h2 hr).trans hr',rest⟩
theorem turned_keeps (h:w.mapTurned w' b):Keeps [b] w w':=(Keeps.refl _ _).grown h.grown (fun g hg=>.inl (by cases hg;simp))
/-- The number at a key. -/
def numAt (q:IntKind) (D:DataW H) (kl:Lit):Int:=match D.atKey kl (.lit (.int q 0)) with | .lit (.int _ c)=>c | _=>0
theorem numAt_of {kl:Lit} {c:Int} (h:D.atKey kl (.lit (.int q 0))=.lit (.int q c)):numAt q D kl=c:=by unfold numAt;rw [h]
theorem om_num (h:w.ownsMap P k (plainElem P e) b n D) (K:Keyed P k) (ht:P.underlying t=some (.map k e)) (he:P.underlying e=some (.int q)) (hz:(zeroValue e).run P w=.ok (.int q 0) w) {key:Value} {kl:Lit} (hkey:keyOf P k key=some kl) :
  (Instr.lookup t (.map (some b)) key false).run P w=.ok (.int q (numAt q D kl)) w∧D.atKey kl (.lit (.int q 0))=.lit (.int q (numAt q D kl))∧(Lit.int q (numAt q D kl)).wf=true:=by
 obtain ⟨c,hrun,hat,hwf⟩:=h.lookup_int K ht he hz hkey
 rw [numAt_of hat]
 exact ⟨hrun,hat,hwf⟩
theorem numAt_same (hD:Maps.IsMap D) {kl:Lit} (hk:WideAt.IsKeyLit kl) (c:Int):numAt q (D.put kl (.lit (.int q c))) kl=c:=numAt_of (Maps.atKey_put_same hD hk _ _)
theorem numAt_other {kl kl':Lit} (h:kl'≠kl) (d:DataW H):numAt q (D.put kl d) kl'=numAt q D kl':=by unfold numAt;rw [Maps.atKey_put_other h]
theorem numAt_empty (kl:Lit):numAt q (DataW.map []:DataW H) kl=0:=rfl
/-- A value as an element. -/
def heldElem (v:Value):Option (DataW Value×List MemPlace):=some (.held v,[])
end
section
variable {H:Type} {P:Program} (w:World) {ops:Array Oper} {rest:List Oper} {o:Oper} {a:Act} {Q:Exit→Act→World→Prop}
theorem wpl_look_num (hg:o.guard=none) (m x:Operand) (t:TypeId) (hop:o.op=Op.lookup t m x false)
  (k e:TypeId) (q:IntKind) (K:Keyed P k) (ht:P.underlying t=some (.map k e)) (he:P.underlying e=some (.int q)) (hz:(zeroValue e).run P w=.ok (.int q 0) w) (b n:Nat) (D:DataW H)
  (hm:a.eval m=.map (some b)) (hown:w.ownsMap P k (plainElem P e) b n D) (key:Value) (kl:Lit) (hx:a.eval x=key) (hkey:keyOf P k key=some kl)
  (hK:wpList P ops Q rest (a.put o.dst (.int q (numAt q D kl))) w):wpList P ops Q (o :: rest) a w:=
 wpList_lookup_own_int w hg m x t hop k e q K ht he hz b n D hm hown key kl hx hkey (fun c hat _=>by rw [← numAt_of hat];exact hK)
theorem wpl_look_has (hg:o.guard=none) (m x:Operand) (t:TypeId) (hop:o.op=Op.lookup t m x true)
  (k e:TypeId) (q:IntKind) (K:Keyed P k) (ht:P.underlying t=some (.map k e)) (he:P.underlying e=some (.int q)) (hz:(zeroValue e).run P w=.ok (.int q 0) w) (b n:Nat) (D:DataW H)
  (hm:a.eval m=.map (some b)) (hown:w.ownsMap P k (plainElem P e) b n D) (key:Value) (kl:Lit) (hx:a.eval x=key) (hkey:keyOf P k key=some kl)
  (hK:wpList P ops Q rest (a.put o.dst (.tuple #[.int q (numAt q D kl),.bool (Maps.has D kl)])) w):wpList P ops Q (o :: rest) a w:=
 wpList_lookup_own_ok_int w hg m x t hop k e q K ht he hz b n D hm hown key kl hx hkey (fun c hat _=>by rw [← numAt_of hat];exact hK)
theorem wpl_look_held (hg:o.guard=none) (m x:Operand) (t:TypeId) (hop:o.op=Op.lookup t m x true)
  (k e:TypeId) (K:Keyed P k) (ht:P.underlying t=some (.map k e)) {z:Value} (hz:(zeroValue e).run P w=.ok z w) (b n:Nat) (D:DataW Value)
  (hm:a.eval m=.map (some b)) (hown:w.ownsMap P k heldElem b n D) (key:Value) (kl:Lit) (hx:a.eval x=key) (hkey:keyOf P k key=some kl) (v:Value) (hv:D.atKey kl (.held z)=.held v)
  (hK:wpList P ops Q rest (a.put o.dst (.tuple #[v,.bool (Maps.has D kl)])) w):wpList P ops Q (o :: rest) a w:=
 wpList_lookup_own_ok w hg m x t hop k e K ht heldElem hz (.held z) [] rfl b n D hm hown key kl hx hkey (fun u ps hu => by
  have h1:(DataW.held u:DataW Value)=.held v:=by rw [← hv];unfold heldElem at hu;injection hu with hu;injection hu
  injection h1 with h1
  subst h1
  exact hK)
end
end Go.Proofs.YtambjickanapjaaGreatDoor.Vi
end
section
namespace Go.Proofs.YtambjickanapjaaGreatDoor.Vi
open Go.RowKit Base Mem
/-- A series as a key. -/
def skey (s:ByteArray):Lit:=.string s.data.toList
theorem skey_inj {a b:ByteArray} (h:skey a=skey b):a=b:=by
 unfold skey at h
 injection h with h
 obtain ⟨⟨a⟩⟩:=a
 obtain ⟨⟨b⟩⟩:=b
 simp only [] at h
 rw [h]
theorem skey_key (s:ByteArray):WideAt.IsKeyLit (skey s):=trivial
/-- What deltas come to, if they may be added one by one. -/
def mayL (DS:DataW Unit):DataW Unit→List DeltaD→Option (DataW Unit)
 | more,[]=>some more
 | more,d :: r=>
  if 18446744073709551615 - numAt .u64 more (skey d.ser) < d.n∨18446744073709551615 - numAt .u64 DS (skey d.ser) < numAt .u64 more (skey d.ser) + d.n then none
  else mayL DS (more.put (skey d.ser) (.lit (.int .u64 (numAt .u64 more (skey d.ser) + d.n)))) r
/-- How many keys are new, of those that are left. -/
def leftN (DS more:DataW Unit) (left:Lit→Bool):Nat:=match more with | .map es=>(es.filter fun p=>left p.1 && !Maps.has DS p.1).length | _=>0
def newS (DS more:DataW Unit):Nat:=leftN DS more (Maps.has more)
def mayS (DS:DataW Unit) (l:List DeltaD):Int:=match mayL DS (.map []) l with | none=>25 | some more=>if 16 < Maps.size DS + newS DS more then 24 else 0
def addZ (a b:Int):Int:=if 18446744073709551615 < a + b then 18446744073709551615 else a + b
def addL:DataW Unit→List DeltaD→DataW Unit
 | DS,[]=>DS
 | DS,d :: r=>addL (DS.put (skey d.ser) (.lit (.int .u64 (addZ (numAt .u64 DS (skey d.ser)) d.n)))) r
theorem strike_left (DS:DataW Unit) (left:Lit→Bool) (kl:Lit) (hk:WideAt.IsKeyLit kl) (hl:left kl=true):∀ es:List (Lit×DataW Unit),es.Pairwise (fun p q=>p.1≠q.1)→
  ((∃ p∈es,p.1=kl)→(es.filter fun p=>left p.1 && !Maps.has DS p.1).length=(es.filter fun p=>(left p.1 && !p.1.sameKey kl) && !Maps.has DS p.1).length + (if Maps.has DS kl=true then 0 else 1))∧
  ((∀ p∈es,p.1≠kl)→(es.filter fun p=>left p.1 && !Maps.has DS p.1).length=(es.filter fun p=>(left p.1 && !p.1.sameKey kl) && !Maps.has DS p.1).length)
 | [],_=>⟨fun ⟨_,h,_⟩=>by simp at h,fun _=>rfl⟩
 | y :: r,h=>by
  obtain ⟨h1,h2⟩:=List.pairwise_cons.1 h
  obtain ⟨i1,i2⟩:=strike_left DS left kl hk hl r h2
  refine ⟨?_,?_⟩
  ·rintro ⟨p,hp,he⟩
   by_cases hy:y.1=kl
   ·have hr:∀ p∈r,p.1≠kl:=fun p hp e=>h1 p hp (by rw [hy,e])
    have i2':=i2 hr
    rw [List.filter_cons,List.filter_cons,hy,hl,WideAt.sameKey_self hk]
    cases hd:Maps.has DS kl <;> simp [i2']
   ·have hs:=Maps.sameKey_ne hy
    have hin:∃ p∈r,p.1=kl:=by
     rcases List.mem_cons.1 hp with rfl | hp
     ·exact absurd he hy
     ·exact ⟨p,hp,he⟩
    have i1':=i1 hin
    have hc:((left y.1 && !y.1.sameKey kl) && !Maps.has DS y.1)=(left y.1 && !Maps.has DS y.1):=by rw [hs,Bool.not_false,Bool.and_true]
    rw [List.filter_cons,List.filter_cons,hc]
    split
    ·rw [List.length_cons,List.length_cons,i1'];omega
    ·exact i1'
  ·intro hall
   have hs:=Maps.sameKey_ne (hall y (by simp))
   have i2':=i2 (fun p hp=>hall p (by simp [hp]))
   have hc:((left y.1 && !y.1.sameKey kl) && !Maps.has DS y.1)=(left y.1 && !Maps.has DS y.1):=by rw [hs,Bool.not_false,Bool.and_true]
   rw [List.filter_cons,List.filter_cons,hc]
   split
   ·rw [List.length_cons,List.length_cons,i2']
   ·exact i2'
theorem leftN_step {DS more:DataW Unit} (ht:Maps.Tidy more) {left:Lit→Bool} {kl:Lit} (hk:WideAt.IsKeyLit kl) (hl:left kl=true) (hh:Maps.has more kl=true) :
  leftN DS more left=leftN DS more (fun z=>left z && !z.sameKey kl) + (if Maps.has DS kl=true then 0 else 1):=by
 obtain ⟨es,rfl,hp⟩:=ht
 obtain ⟨p,hp1,hp2⟩:=List.any_eq_true.1 hh
 exact (strike_left DS left kl hk hl es hp).1 ⟨p,hp1,WideAt.sameKey_eq hp2⟩
theorem leftN_end {DS more:DataW Unit} {left:Lit→Bool} (h:∀ kl,left kl=false):leftN DS more left=0:=by
 unfold leftN
 cases more <;> try rfl
 simp [h]
theorem leftN_le (DS more:DataW Unit) (left:Lit→Bool):leftN DS more left≤Maps.size more:=by
 unfold leftN Maps.size
 cases more <;> try exact Nat.le_refl _
 exact List.length_filter_le _ _
theorem size_put_le {D:DataW Unit} (h:Maps.Tidy D) (kl:Lit) (d:DataW Unit):Maps.size (D.put kl d)≤Maps.size D + 1:=by
 rw [Maps.size_put h]
 split <;> omega
end Go.Proofs.YtambjickanapjaaGreatDoor.Vi
end
section
namespace Go.Proofs.YtambjickanapjaaGreatDoor.Mem
open Go.RowKit
theorem grown_empty {w w1:World} {t:TypeId} (h:(w.alloc (.cells #[] t)).grownBy w1 (Value.ownBlock (.slice (some ⟨w.heap.size,0,none⟩) 0 0))):Below w.heap.size w w1:=
 (below_new' w _).grown h (by simp) (fun k hk=>by simp [Value.ownBlock] at hk;omega)
theorem infoDelta:(Tryz.prog.info? 63).map (fun i=>(i.zero,i.size,i.bytes))=some (some (.agg #[.string ByteArray.empty,.int .u64 0]),2,24):=by kernel_rfl
theorem cloneDelta (M:List Nat) (v:Value) (n:Nat) (xs:List Value) (w:World) (h:Rd w M 2 v n xs) (h1:∀ u∈xs,u.oneCell'=true) (hb:n * 24≤140737488355328) :
  Calls Tryz.prog 248 #[v] w fun e w'=>∃ v',e=.returned v'∧w'.ownsRow w.heap.size 63 2 v' n xs∧Below w.heap.size w w':=by
 obtain ⟨A,c,rfl,hc,hr⟩:=h.reads
 obtain ⟨i0,hi0,hz0,hz1,hz2⟩:=info_parts infoDelta
 have Hr:=Lib.hid hr;have Hb:=Lib.hid hb;have Hx:=Lib.hid h1;have Hh:=Lib.hid h
 have Hi0:=Lib.hid hi0;have Hz0:=Lib.hid hz0;have Hz1:=Lib.hid hz1;have Hz2:=Lib.hid hz2
 clear hr hb h1 h hi0 hz0 hz1 hz2
 have he:=fun W=>Lib.run_eql_slice_nil (P:=Tryz.prog) W 34 _ A n c 0 0 Tryz.underlying34
 rcases A with _ | ad
 ·go_enter Tryz.func248,Tryz.ntmps248
  go_wp2
  go_ret
  have hn:n=0:=by
   rcases Nat.eq_zero_or_pos n with h | h
   ·exact h
   ·obtain ⟨_,he,_⟩:=Hr.out.2 h;cases he
  subst hn
  have hx:xs=[]:=List.eq_nil_of_length_eq_zero (by simpa using Hr.out.1)
  subst hx
  exact ⟨_,rfl,World.ownsRow_nil _ _ _ _,Below.refl _ _⟩
 ·go_enter Tryz.func248,Tryz.ntmps248
  go_wp2_with (at_builtin;refine wpList_append_any _ rfl (.tmp 5) (.tmp 6) _ rfl w.heap.size 63 i0 _ 2 24 Tryz.underlying34 Hi0.out Hz0.out Hz1.out Hz2.out rfl (by omega) (.slice (some ⟨w.heap.size,0,none⟩) 0 0) 0 [] rfl (World.ownsRow_made w #[] 0 (Nat.le_refl _) (by unfold maxLen;omega) rfl) w.heap.size (some ad) n c xs rfl (Hr.out.alloc (Nat.le_refl _) _) Hx.out ?_ ?_ ?_ ?_)
  ·have:=Hb.out;unfold maxLen;omega
  ·have:=Hb.out;omega
  ·simp
  ·intro v' w1 hown hg hat
   have H1:=Lib.hid hown;clear hown
   have H2:=Lib.hid hg;clear hg
   clear hat
   go_wp2
   go_ret
   exact ⟨v',rfl,by simpa using H1.out,grown_empty H2.out⟩
theorem clipDelta (A:Option Addr) (n c:Nat) (w:World) (hn:n≤c) :
  Calls Tryz.prog 177 #[.slice A n c] w fun e w'=>e=.returned (.slice A n n)∧w=w':=by
 go_enter Tryz.func177,Tryz.ntmps177
 go_wp2
 go_ret
 exact ⟨rfl,rfl⟩
theorem clipIdent (A:Option Addr) (n c:Nat) (w:World) (hn:n≤c) :
  Calls Tryz.prog 60 #[.slice A n c] w fun e w'=>e=.returned (.slice A n n)∧w=w':=by
 go_enter Tryz.func60,Tryz.ntmps60
 go_wp2
 go_ret
 exact ⟨rfl,rfl⟩
theorem clipEntry (A:Option Addr) (n c:Nat) (w:World) (hn:n≤c) :
  Calls Tryz.prog 135 #[.slice A n c] w fun e w'=>e=.returned (.slice A n n)∧w=w':=by
 go_enter Tryz.func135,Tryz.ntmps135
 go_wp2
 go_ret
 exact ⟨rfl,rfl⟩
theorem infoLabel:(Tryz.prog.info? 282).map (fun i=>(i.zero,i.size,i.bytes))=some (some (.agg #[.string ByteArray.empty,.string ByteArray.empty]),2,32):=by kernel_rfl
theorem cloneLabel (M:List Nat) (v:Value) (n:Nat) (xs:List Value) (w:World) (h:Rd w M 2 v n xs) (h1:∀ u∈xs,u.oneCell'=true) (hb:n * 32≤140737488355328) :
  Calls Tryz.prog 296 #[v] w fun e w'=>∃ v',e=.returned v'∧w'.ownsRow w.heap.size 282 2 v' n xs∧Below w.heap.size w w':=by
 obtain ⟨A,c,rfl,hc,hr⟩:=h.reads
 obtain ⟨i0,hi0,hz0,hz1,hz2⟩:=info_parts infoLabel
 have Hr:=Lib.hid hr;have Hb:=Lib.hid hb;have Hx:=Lib.hid h1;have Hh:=Lib.hid h
 have Hi0:=Lib.hid hi0;have Hz0:=Lib.hid hz0;have Hz1:=Lib.hid hz1;have Hz2:=Lib.hid hz2
 clear hr hb h1 h hi0 hz0 hz1 hz2
 have he:=fun W=>Lib.run_eql_slice_nil (P:=Tryz.prog) W 205 _ A n c 0 0 Tryz.underlying205
 rcases A with _ | ad
 ·go_enter Tryz.func296,Tryz.ntmps296
  go_wp2
  go_ret
  have hn:n=0:=by
   rcases Nat.eq_zero_or_pos n with h | h
   ·exact h
   ·obtain ⟨_,he,_⟩:=Hr.out.2 h;cases he
  subst hn
  have hx:xs=[]:=List.eq_nil_of_length_eq_zero (by simpa using Hr.out.1)
  subst hx
  exact ⟨_,rfl,World.ownsRow_nil _ _ _ _,Below.refl _ _⟩
 ·go_enter Tryz.func296,Tryz.ntmps296
  go_wp2_with (at_builtin;refine wpList_append_any _ rfl (.tmp 5) (.tmp 6) _ rfl w.heap.size 282 i0 _ 2 32 Tryz.underlying205 Hi0.out Hz0.out Hz1.out Hz2.out rfl (by omega) (.slice (some ⟨w.heap.size,0,none⟩) 0 0) 0 [] rfl (World.ownsRow_made w #[] 0 (Nat.le_refl _) (by unfold maxLen;omega) rfl) w.heap.size (some ad) n c xs rfl (Hr.out.alloc (Nat.le_refl _) _) Hx.out ?_ ?_ ?_ ?_)
  ·have:=Hb.out;unfold maxLen;omega
  ·have:=Hb.out;omega
  ·simp
  ·intro v' w1 hown hg hat
   have H1:=Lib.hid hown;clear hown
   have H2:=Lib.hid hg;clear hg
   clear hat
   go_wp2
   go_ret
   exact ⟨v',rfl,by simpa using H1.out,grown_empty H2.out⟩
theorem clipLabel (A:Option Addr) (n c:Nat) (w:World) (hn:n≤c) :
  Calls Tryz.prog 192 #[.slice A n c] w fun e w'=>e=.returned (.slice A n n)∧w=w':=by
 go_enter Tryz.func192,Tryz.ntmps192
 go_wp2
 go_ret
 exact ⟨rfl,rfl⟩
theorem infoU8:(Tryz.prog.info? 5).map (fun i=>(i.zero,i.size,i.bytes))=some (some (.int .u8 0),1,1):=by kernel_rfl
theorem cloneU8 (M:List Nat) (v:Value) (n:Nat) (xs:List Value) (w:World) (h:Rd w M 1 v n xs) (h1:∀ u∈xs,u.oneCell'=true) (hb:n * 1≤140737488355328) :
  Calls Tryz.prog 76 #[v] w fun e w'=>∃ v',e=.returned v'∧w'.ownsRow w.heap.size 5 1 v' n xs∧Below w.heap.size w w':=by
 obtain ⟨A,c,rfl,hc,hr⟩:=h.reads
 obtain ⟨i0,hi0,hz0,hz1,hz2⟩:=info_parts infoU8
 have Hr:=Lib.hid hr;have Hb:=Lib.hid hb;have Hx:=Lib.hid h1;have Hh:=Lib.hid h
 have Hi0:=Lib.hid hi0;have Hz0:=Lib.hid hz0;have Hz1:=Lib.hid hz1;have Hz2:=Lib.hid hz2
 clear hr hb h1 h hi0 hz0 hz1 hz2
 have he:=fun W=>Lib.run_eql_slice_nil (P:=Tryz.prog) W 50 _ A n c 0 0 Tryz.underlying50
 rcases A with _ | ad
 ·go_enter Tryz.func76,Tryz.ntmps76
  go_wp2
  go_ret
  have hn:n=0:=by
   rcases Nat.eq_zero_or_pos n with h | h
   ·exact h
   ·obtain ⟨_,he,_⟩:=Hr.out.2 h;cases he
  subst hn
  have hx:xs=[]:=List.eq_nil_of_length_eq_zero (by simpa using Hr.out.1)
  subst hx
  exact ⟨_,rfl,World.ownsRow_nil _ _ _ _,Below.refl _ _⟩
 ·go_enter Tryz.func76,Tryz.ntmps76
  go_wp2_with (at_builtin;refine wpList_append_any _ rfl (.tmp 5) (.tmp 6) _ rfl w.heap.size 5 i0 _ 1 1 Tryz.underlying50 Hi0.out Hz0.out Hz1.out Hz2.out rfl (by omega) (.slice (some ⟨w.heap.size,0,none⟩) 0 0) 0 [] rfl (World.ownsRow_made w #[] 0 (Nat.le_refl _) (by unfold maxLen;omega) rfl) w.heap.size (some ad) n c xs rfl (Hr.out.alloc (Nat.le_refl _) _) Hx.out ?_ ?_ ?_ ?_)
  ·have:=Hb.out;unfold maxLen;omega
  ·have:=Hb.out;omega
  ·simp
  ·intro v' w1 hown hg hat
   have H1:=Lib.hid hown;clear hown
   have H2:=Lib.hid hg;clear hg
   clear hat
   go_wp2
   go_ret
   exact ⟨v',rfl,by simpa using H1.out,grown_empty H2.out⟩
theorem clipU8 (A:Option Addr) (n c:Nat) (w:World) (hn:n≤c) :
  Calls Tryz.prog 151 #[.slice A n c] w fun e w'=>e=.returned (.slice A n n)∧w=w':=by
 go_enter Tryz.func151,Tryz.ntmps151
 go_wp2
 go_ret
 exact ⟨rfl,rfl⟩
end Go.Proofs.YtambjickanapjaaGreatDoor.Mem
end
section
namespace Go.Proofs.YtambjickanapjaaGreatDoor.Tape
open Go.RowKit Base Mem
def withinS (n lo hi:Int):Int:=if lo≤n∧n≤hi then n else lo + n % (hi - lo + 1)
theorem tmod_fix (n m:Int) (hm:0 < m):(n.tmod m < 0→n.tmod m + m=n % m)∧(¬ n.tmod m < 0→n.tmod m=n % m):=by
 have h:=Int.tmod_eq_emod (a:=n) (b:=m)
 have h1:=Int.emod_nonneg n (show m≠0 by omega)
 have h2:=Int.emod_lt_of_pos n hm
 split at h
 ·omega
 ·rename_i hc
  have h3:n % m≠0:=fun h0=>hc (.inr (Int.dvd_of_emod_eq_zero h0))
  omega
theorem within_bd (n lo hi:Int) (h:lo≤hi):lo≤withinS n lo hi∧withinS n lo hi≤hi:=by
 unfold withinS
 have h1:=Int.emod_nonneg n (show hi - lo + 1≠0 by omega)
 have h2:=Int.emod_lt_of_pos n (show 0 < hi - lo + 1 by omega)
 split <;> omega
theorem within_any (n lo hi:Int) (w:World) (h0:0≤lo) (h1:lo≤hi) (h2:hi≤1073741824) :
  Calls Tryz.prog 7 #[.int .i64 n,.int .i64 lo,.int .i64 hi] w fun e w'=>e=.returned (.int .i64 (withinS n lo hi))∧w=w':=by
 by_cases hin:lo≤n∧n≤hi
 ·have Hw:Hid (withinS n lo hi=n):=if_pos hin
  obtain ⟨hi1,hi2⟩:=hin
  go_enter Tryz.func7,Tryz.ntmps7
  go_wp2
  go_ret
  exact ⟨ret_int Hw.out.symm,rfl⟩
 ·have Hw:Hid (withinS n lo hi=lo + n % (hi - lo + 1)):=if_neg hin
  obtain ⟨t1,t2⟩:=tmod_fix n (hi - lo + 1) (by omega)
  have h3:=Int.emod_nonneg n (show hi - lo + 1≠0 by omega)
  have h4:=Int.emod_lt_of_pos n (show 0 < hi - lo + 1 by omega)
  have hc:n < lo∨(lo≤n∧hi < n):=by omega
  have T1:=Lib.hid t1;have T2:=Lib.hid t2
  clear hin t1 t2
  have hb:n.tmod (hi - lo + 1) < hi - lo + 1∧-(hi - lo + 1)≤n.tmod (hi - lo + 1):=by
   have a:=T1.out;have b:=T2.out
   by_cases hh:n.tmod (hi - lo + 1) < 0
   ·have:=a hh;omega
   ·have:=b hh;omega
  obtain ⟨hb1,hb2⟩:=hb
  generalize hg:n.tmod (hi - lo + 1)=t at *
  generalize n % (hi - lo + 1)=r at *
  by_cases ht:t < 0
  ·have Hr:Hid (t + hi - lo + 1=r):=by have:=T1.out ht;show _=_;omega
   rcases hc with hc | ⟨hc,hc2⟩
   all_goals
    go_enter Tryz.func7,Tryz.ntmps7
    go_wp2
    go_ret
    exact ⟨ret_int (by rw [Hw.out,← Hr.out]),rfl⟩
  ·have Hr:Hid (t=r):=T2.out ht
   rcases hc with hc | ⟨hc,hc2⟩
   all_goals
    go_enter Tryz.func7,Tryz.ntmps7
    go_wp2
    go_ret
    exact ⟨ret_int (by rw [Hw.out,← Hr.out]),rfl⟩
/-- A tape's numbers, and below which block they lie. -/
structure TapeL where
 l:List Int
 B:Nat
/-- A tape lies in block b: its numbers, how many are read. -/
structure TapeAt (w:World) (b:Nat) (L:TapeL) (k:Nat):Prop where
 le:k≤L.l.length
 max:L.l.length≤9223372036854775807
 low:L.B≤b
 mem:∃ A c,Blk w b 26 #[.slice A L.l.length c,.int .i64 k]∧L.l.length≤c∧(0 < L.l.length→∃ g off,A=some ⟨g,off,none⟩∧g < L.B∧∀ (j:Nat) (x:Int),L.l[j]? = some x→w.cell? ⟨g,off + j,none⟩=some (.int .i64 x))
section
variable {w w':World} {M':List Nat} {b k:Nat} {L:TapeL}
theorem TapeAt.lt (h:TapeAt w b L k):b < w.heap.size:=by obtain ⟨_,_,_,_,_,hv,_⟩:=h;exact hv.lt
theorem TapeAt.keep2 (h:TapeAt w b L k) (hk:Keeps M' w w') (hM:∀ g∈M',L.B≤g∧g≠b):TapeAt w' b L k:=by
 obtain ⟨h1,h2,h3,A,c,hv,hc,hr⟩:=h
 refine ⟨h1,h2,h3,A,c,hk.blk hv (fun hm=>(hM b hm).2 rfl),hc,fun hn=>?_⟩
 obtain ⟨g,off,e,hg,hx⟩:=hr hn
 exact ⟨g,off,e,hg,fun j x hj=>(hk.cell (p:=⟨g,off + j,none⟩) (by have:=hv.lt;simp;omega) (fun hm=>by have:=hM g hm;omega)).trans (hx j x hj)⟩
theorem TapeAt.keep (h:TapeAt w b L k) (hk:Keeps M' w w') (hM:∀ g∈M',b < g):TapeAt w' b L k:=
 h.keep2 hk (fun g hg=>by have:=hM g hg;have:=h.low;omega)
theorem TapeAt.set_at (h:TapeAt w b L k) {j:Nat} (hj:j≤L.l.length):TapeAt (w.setCell ⟨b,1,none⟩ (.int .i64 j)) b L j:=by
 obtain ⟨h1,h2,h3,A,c,hv,hc,hr⟩:=h
 refine ⟨hj,h2,h3,A,c,hv.set_ 1 (.int .i64 j),hc,fun hn=>?_⟩
 obtain ⟨g,off,e,hg,hx⟩:=hr hn
 exact ⟨g,off,e,hg,fun j' x hj'=>(World.cell?_setCell_other _ _ _ _ (by intro e;injection e with e1;omega)).trans (hx j' x hj')⟩
theorem TapeAt.drewN (h:TapeAt w b L k) (n:Nat):TapeAt (w.drewN n) b L k:=h.keep (M':=[]) ((Keeps.refl _ _).drewN n) (by simp)
theorem TapeAt.cells (h:TapeAt w b L k):∃ A c,w.cell? ⟨b,0,none⟩=some (.slice A L.l.length c)∧L.l.length≤c∧w.cell? ⟨b,1,none⟩=some (.int .i64 k)∧w.frozen? ⟨b,1,none⟩=false∧b < w.heap.size∧
  (k < L.l.length→∃ g off x,A=some ⟨g,off,none⟩∧g < w.heap.size∧g≠b∧w.cell? ⟨g,off + k,none⟩=some (.int .i64 x)):=by
 obtain ⟨h1,h2,h3,A,c,hv,hc,hr⟩:=h
 refine ⟨A,c,hv.cell 0,hc,hv.cell 1,hv.frozen 1,hv.lt,fun hk=>?_⟩
 obtain ⟨g,off,e,hg,hx⟩:=hr (by omega)
 exact ⟨g,off,L.l[k],e,by have:=hv.lt;omega,by omega,hx k _ (List.getElem?_eq_getElem hk)⟩
end
theorem next_any (b:Nat) (L:TapeL) (k:Nat) (n:Int) (w:World) (h:TapeAt w b L k) :
  Calls Tryz.prog 17 #[.pointer (some ⟨b,0,none⟩),.int .i64 n] w fun e w'=>∃ (v:Int) (k':Nat),e=.returned (.int .i64 v)∧0≤v∧(1≤n→v < n)∧TapeAt w' b L k'∧Keeps [b] w w':=by
 obtain ⟨A,c,c0,hc,c1,f1,hlt,hx⟩:=h.cells
 have hle:=h.le
 have hmx:=h.max
 have H:=Lib.hid h
 by_cases hk:k < L.l.length
 ·by_cases hn:1≤n
  ·obtain ⟨g,off,x,rfl,hg,hne,hcell⟩:=hx hk
   have hwi:=Lib.hid (fun W=>within_any x 0 1073741824 W (by omega) (by omega) (by omega))
   have hwb:=within_bd x 0 1073741824 (by omega)
   have hcell2:(w.setCell ⟨b,1,none⟩ (.int .i64 ((k:Int) + 1))).cell? ⟨g,off + k,none⟩=some (.int .i64 x):=by
    rw [World.cell?_setCell_other _ _ _ _ (by intro e;injection e with e1;exact hne e1.symm)];exact hcell
   have hj:((k:Int) + 1 - 1)=k:=by omega
   clear h hx hcell
   generalize withinS x 0 1073741824=y at *
   have hr1:=Int.emod_nonneg y (show n≠0 by omega)
   have hr2:=Int.emod_lt_of_pos y (show 0 < n by omega)
   have d0:decide (L.l.length≤k)=false:=by simp;omega
   have d1:decide (n < 1)=false:=by simp;omega
   go_enter Tryz.func17,Tryz.ntmps17
   go_wp2
   go_quiet (fail)
   go_wp2
   have hT:TapeAt ((w.drewN nq).setCell ⟨b,1,none⟩ (.int .i64 ((k:Int) + 1))) b L (k + 1):=by
    have:=(H.out.drewN nq).set_at (j:=k + 1) (by omega)
    rwa [show (((k + 1:Nat)):Int)=(k:Int) + 1 by omega] at this
   have hK:Keeps [b] w ((w.drewN nq).setCell ⟨b,1,none⟩ (.int .i64 ((k:Int) + 1))):=((Keeps.refl _ _).drewN nq).setCell (by simp) _
   have e0:((w.drewN nq).setCell ⟨b,1,none⟩ (.int .i64 ((k:Int) + 1))).cell? ⟨b,0,none⟩=some (.slice (some ⟨g,off,none⟩) L.l.length c):=by
    rw [World.cell?_setCell_other _ _ _ _ (by intro e;injection e with e1 e2;omega)];exact c0
   have e1:((w.drewN nq).setCell ⟨b,1,none⟩ (.int .i64 ((k:Int) + 1))).cell? ⟨b,1,none⟩=some (.int .i64 ((k:Int) + 1)):=by
    obtain ⟨_,_,_,_,_,hv,_⟩:=hT
    have:=hv.cell 1
    simpa using this
   have e2:((w.drewN nq).setCell ⟨b,1,none⟩ (.int .i64 ((k:Int) + 1))).cell? ⟨g,off + k,none⟩=some (.int .i64 x):=hcell2
   clear hcell2 c0 c1 f1
   generalize ((w.drewN nq).setCell ⟨b,1,none⟩ (.int .i64 ((k:Int) + 1)))=W at *
   have hk0:(0:Int)≤(k:Int):=by omega
   have hk1:(k:Int) < (L.l.length:Int):=by omega
   go_quiet ((go_at_call 7;exact quiet_left (hwi.out _)))
   go_wp2
   go_ret
   exact ⟨_,_,rfl,hr1,fun _=>hr2,hT.drewN _,hK.drewN _⟩
  ·have d0:decide (L.l.length≤k)=false:=by simp;omega
   have d1:decide (n < 1)=true:=by simp;omega
   clear h hx
   go_enter Tryz.func17,Tryz.ntmps17
   go_wp2
   go_quiet (fail)
   go_wp2
   go_ret
   exact ⟨0,k,rfl,by omega,fun h=>by omega,H.out.drewN _,(Keeps.refl _ _).drewN _⟩
 ·have d0:decide (L.l.length≤k)=true:=by simp;omega
  clear h hx
  go_enter Tryz.func17,Tryz.ntmps17
  go_wp2
  go_quiet (fail)
  go_wp2
  go_ret
  exact ⟨0,k,rfl,by omega,fun h=>by omega,H.out.drewN _,(Keeps.refl _ _).drewN _⟩
def nameL:List (List UInt8):=[[97,61,49],[97,61,50],[97,61,49,44,98,61,120],[106,111,98,61,97,112,105,44,122,111,110,101,61,101,117],[106,111,98,61,119,101,98],[107,61,118],[110,61,48],[97,61,51,44,99,61,57]]
/-- A series that there is. -/
def NameOk (s:ByteArray):Prop:=∃ l∈nameL,s=⟨l.toArray⟩
def DeltaOk (d:DeltaD):Prop:=NameOk d.ser∧1≤d.n∧d.n≤18446744073709551615
theorem names_any (w:World):Calls Tryz.prog 14 #[] w fun e w'=>e=.returned (.slice (some ⟨w.heap.size,0,none⟩) 8 8)∧Blk w' w.heap.size 9 (nameL.map fun l=>Value.string ⟨l.toArray⟩).toArray∧Below w.heap.size w w':=by
 go_enter Tryz.func14,Tryz.ntmps14
 go_wp2
 go_ret
 exact ⟨rfl,Blk.new w _ _,below_new' _ _⟩
theorem name_at {w:World} {g j:Nat} (h:Blk w g 9 (nameL.map fun l=>Value.string ⟨l.toArray⟩).toArray) (hj:j < 8):∃ s,w.cell? ⟨g,j,none⟩=some (.string s)∧NameOk s:=by
 have hl:j < nameL.length:=hj
 refine ⟨⟨nameL[j].toArray⟩,?_,nameL[j],List.getElem_mem hl,rfl⟩
 rw [h.cell,List.getElem?_toArray,List.getElem?_map,List.getElem?_eq_getElem hl]
 rfl
theorem series_any (b:Nat) (L:TapeL) (k:Nat) (w:World) (h:TapeAt w b L k) :
  Calls Tryz.prog 37 #[.pointer (some ⟨b,0,none⟩)] w fun e w'=>∃ (s:ByteArray) (k':Nat),e=.returned (.string s)∧NameOk s∧TapeAt w' b L k'∧Keeps [b] w w':=by
 have H:=Lib.hid h
 obtain ⟨_,_,_,_,_,_,hlt,_⟩:=h.cells
 clear h
 go_enter Tryz.func37,Tryz.ntmps37
 go_wp2_with fail
 refine (names_any w).mono ?_
 rintro e w1 ⟨rfl,hb1,hbel⟩
 have hT:=H.out.keep (Keeps.of_below (M:=[]) hbel) (by simp)
 have Hb1:=Lib.hid hb1;have Hbel:=Lib.hid hbel;have HT:=Lib.hid hT
 clear hb1 hbel hT
 go_wp2_with fail
 refine (next_any b L k 8 w1 HT.out).mono ?_
 rintro e w2 ⟨v,k',rfl,hv0,hv8,hT2,hK2⟩
 obtain ⟨j,rfl⟩:=Int.eq_ofNat_of_zero_le hv0
 have hj8:(j:Int) < 8:=hv8 (by omega)
 obtain ⟨s,hs,hok⟩:=name_at (hK2.blk Hb1.out (by simp;omega)) (show j < 8 by omega)
 have HT2:=Lib.hid hT2;have HK:=Lib.hid ((Keeps.of_below (M:=[b]) Hbel.out).trans hK2 (by simp))
 have Hok:=Lib.hid hok
 clear hv8 hT2 hK2 hok
 go_wp2
 go_ret
 exact ⟨s,k',rfl,Hok.out,HT2.out,HK.out⟩
theorem n_any (b:Nat) (L:TapeL) (k:Nat) (w:World) (h:TapeAt w b L k) :
  Calls Tryz.prog 36 #[.pointer (some ⟨b,0,none⟩)] w fun e w'=>∃ (n:Int) (k':Nat),e=.returned (.int .u64 n)∧(1≤n∧n≤18446744073709551615)∧TapeAt w' b L k'∧Keeps [b] w w':=by
 have H:=Lib.hid h
 clear h
 go_enter Tryz.func36,Tryz.ntmps36
 go_wp2_with fail
 refine (next_any b L k 12 w H.out).mono ?_
 rintro e w1 ⟨v,k',rfl,hv0,hv8,hT,hK⟩
 have hv12:=hv8 (by omega)
 have HT:=Lib.hid hT;have HK:=Lib.hid hK
 clear hv8 hT hK
 by_cases c0:v=0
 ·subst c0
  go_wp2
  go_ret
  exact ⟨_,_,rfl,⟨by omega,by omega⟩,HT.out,HK.out⟩
 ·by_cases c1:v=1
  ·subst c1
   go_wp2
   go_ret
   exact ⟨_,_,rfl,⟨by omega,by omega⟩,HT.out,HK.out⟩
  ·by_cases c2:v=2
   ·subst c2
    go_wp2_with fail
    refine (next_any b L k' 1073741824 w1 HT.out).mono ?_
    rintro e w2 ⟨x,k2,rfl,hx0,hx1,hT2,hK2⟩
    have hx2:=hx1 (by omega)
    have HT2:=Lib.hid hT2;have HK2:=Lib.hid (HK.out.trans hK2 (by simp))
    clear hx1 hT2 hK2
    go_wp2
    go_ret
    exact ⟨_,_,rfl,⟨by omega,by omega⟩,HT2.out,HK2.out⟩
   ·have d0:(v == 0)=false:=by simpa using c0
    have d1:(v == 1)=false:=by simpa using c1
    have d2:(v == 2)=false:=by simpa using c2
    clear c0 c1 c2
    go_wp2_with fail
    refine (next_any b L k' 50 w1 HT.out).mono ?_
    rintro e w2 ⟨x,k2,rfl,hx0,hx1,hT2,hK2⟩
    have hx2:=hx1 (by omega)
    have HT2:=Lib.hid hT2;have HK2:=Lib.hid (HK.out.trans hK2 (by simp))
    clear hx1 hT2 hK2
    go_wp2
    go_ret
    exact ⟨_,_,rfl,⟨by omega,by omega⟩,HT2.out,HK2.out⟩
theorem infoDelta':(Tryz.prog.info? 63).map (fun i=>(i.zero,i.size,i.bytes))=some (some (.agg #[.string ByteArray.empty,.int .u64 0]),2,24):=by kernel_rfl
def DeltasPost (b:Nat) (L:TapeL) (most:Int) (w:World) (e:Ending) (w':World):Prop:=∃ (v:Value) (ds:List DeltaD) (k':Nat),e=.returned v∧(∀ d∈ds,DeltaOk d)∧1≤ds.length∧(ds.length:Int)≤most∧
   w'.ownsRow w.heap.size 63 2 v ds.length (dCells ds)∧TapeAt w' b L k'∧Keeps [b] w w'
theorem deltas_any (b:Nat) (L:TapeL) (k:Nat) (most:Int) (w:World) (h:TapeAt w b L k) (h1:1≤most) (h2:most≤1000) :
  Calls Tryz.prog 48 #[.pointer (some ⟨b,0,none⟩),.int .i64 most] w fun e w'=>DeltasPost b L most w e w':=by
 obtain ⟨_,_,_,_,_,_,hbw,_⟩:=h.cells
 have H:=Lib.hid h
 obtain ⟨i0,hi0,hz0,hz1,hz2⟩:=info_parts infoDelta'
 have Hi0:=Lib.hid hi0;have Hz0:=Lib.hid hz0;have Hz1:=Lib.hid hz1;have Hz2:=Lib.hid hz2
 clear h hi0 hz0 hz1 hz2
 go_enter Tryz.func48,Tryz.ntmps48
 go_wp2_with fail
 refine (next_any b L k most w H.out).mono ?_
 rintro e w1 ⟨v,k1,rfl,hv0,hv8,hT,hK⟩
 have hv9:=hv8 h1
 have HT:=Lib.hid hT;have HK:=Lib.hid hK
 clear hv8 hT hK
 go_wp2
 go_loopw [5,6] (fun out nn wr=>∃ (ds:List DeltaD) (r:Int) (k':Nat),nn=.int .i64 r∧0≤r∧r + ds.length=1 + v∧Hid (∀ d∈ds,DeltaOk d)∧Hid (wr.ownsRow w.heap.size 63 2 out ds.length (dCells ds))∧Hid (TapeAt wr b L k')∧Hid (Keeps [b] w wr))
  (fun _ nn _=>(intOf nn).toNat)
 case atStart=>exact ⟨[],1 + v,k1,rfl,by omega,by simp,(show ∀ _,_ from by simp),World.ownsRow_nil _ _ _ _,HT.out,HK.out⟩
 case round=>
  obtain ⟨ds,r,k',rfl,hr0,hrl,Hok,Hown,HTr,HKr⟩:=hrel
  have Hrl:=Lib.hid hrl
  have hr1:r≤1 + v:=by omega
  clear hrl
  by_cases hr:0 < r
  ·go_wp2_with fail
   refine (series_any b L k' wr HTr.out).mono ?_
   rintro e w2 ⟨s,k2,rfl,hs,hT2,hK2⟩
   have Hs:=Lib.hid hs;have HT2:=Lib.hid hT2;have HK2:=Lib.hid hK2
   clear hs hT2 hK2
   go_wp2_with fail
   refine (n_any b L k2 w2 HT2.out).mono ?_
   rintro e w3 ⟨n,k3,rfl,hn,hT3,hK3⟩
   have Hn:=Lib.hid hn;have HT3:=Lib.hid hT3
   have hK4:=HK2.out.trans hK3 (by simp)
   have HK4:=Lib.hid hK4
   have hown3:w3.ownsRow w.heap.size 63 2 u5 ds.length (dCells ds):=own_keep Hown.out hK4 (by simp;omega)
   have Hown3:=Lib.hid (hown3.alloc (.cells #[.string s,.int .u64 n] 63))
   have hds:ds.length≤1000:=by have:=Hrl.out;omega
   clear hn hT3 hK3 hK4 hown3
   go_wp2_with (at_builtin;refine wpList_append_any _ rfl (.tmp 15) (.tmp 21) _ rfl w.heap.size 63 i0 _ 2 24 Tryz.underlying34 Hi0.out Hz0.out Hz1.out Hz2.out rfl (by omega) u5 ds.length (dCells ds) rfl Hown3.out (w3.heap.size + 1) (some ⟨w3.heap.size,0,none⟩) 1 1 (dCell ⟨s,n⟩) rfl (reads_new _ _ _ _ _ rfl) (by intro u hu;simp [dCell] at hu;rcases hu with rfl | rfl <;> rfl) (by unfold maxLen;omega) (by omega) (by have:=HKr.out.size;have:=HK4.out.size;simp;omega) ?_)
   intro v' w4 hown4 hg4 hat4
   have hlt0:=Hown.out.lt
   have hK5:Keeps [b] w w4:=((HKr.out.trans HK4.out (by simp)).alloc _).grown hg4 (fun g hg=>.inr (hlt0 g hg).1)
   have hT5:TapeAt w4 b L k3:=HT3.out.keep (M':=u5.ownBlock.toList) (((Keeps.refl _ _).alloc _).grown hg4 (fun g hg=>.inl (by simpa using hg))) (by intro g hg;have:=hlt0 g (by simpa using hg);omega)
   have hok4:∀ d∈ds++[(⟨s,n⟩:DeltaD)],DeltaOk d:=fun d hd=>by
    rcases List.mem_append.1 hd with hd | hd
    ·exact Hok.out d hd
    ·simp at hd;subst hd;exact ⟨Hs.out,Hn.out⟩
   have Hok4:=Lib.hid hok4
   clear hok4
   have Hown4:Hid (w4.ownsRow w.heap.size 63 2 v' (ds++[(⟨s,n⟩:DeltaD)]).length (dCells (ds++[(⟨s,n⟩:DeltaD)]))):=by
    show World.ownsRow _ _ _ _ _ _ _
    rw [List.length_append]
    unfold dCells at hown4 ⊢
    rw [List.flatMap_append]
    simpa using hown4
   have HT5:=Lib.hid hT5;have HK5:=Lib.hid hK5
   clear hown4 hg4 hat4 hlt0 hK5 hT5
   go_wp2
   go_roundw
   case rel=>exact ⟨ds++[(⟨s,n⟩:DeltaD)],r - 1,k3,rfl,by omega,by have:=Hrl.out;simp;omega,Hok4,Hown4,HT5,HK5⟩
   case measure=>simp [intOf];omega
  ·have hr0:r=0:=by omega
   subst hr0
   have hpost:DeltasPost b L most w (.returned u5) wr:=⟨u5,ds,k',rfl,Hok.out,by have:=Hrl.out;omega,by have:=Hrl.out;omega,Hown.out,HTr.out,HKr.out⟩
   go_wp2
   go_ret
   exact hpost
def EntryOk (e:EntryD):Prop:=0≤e.fr∧e.fr < 8∧0≤e.tag∧e.tag < 40∧
  ((e.kind = 2 ∧ NameOk e.ser ∧ e.ag = 0 ∧ e.sh = 0 ∧ e.seq = 0 ∧ e.ep = 0 ∧ e.ds = []) ∨
   (e.kind = 1 ∧ e.ser = ByteArray.empty ∧ 0 ≤ e.ag ∧ e.ag < 3 ∧ 0 ≤ e.sh ∧ e.sh < 2 ∧ 1 ≤ e.seq ∧ e.seq ≤ 90 ∧ 1 ≤ e.ep ∧ e.ep ≤ 4 ∧ 1 ≤ e.ds.length ∧ e.ds.length ≤ 4 ∧ ∀ d ∈ e.ds, DeltaOk d))
def EntryPost (b:Nat) (L:TapeL) (w:World) (e:Ending) (w':World):Prop:=∃ (en:EntryD) (dv:Value) (k':Nat),e=.returned (.agg (eCell (en,dv)).toArray)∧EntryOk en∧(∀ M,(∀ g∈M,g < w.heap.size)→Ds w' M dv en.ds)∧TapeAt w' b L k'∧Keeps [b] w w'
def zeroE:Array Value:=#[.int .i64 0,.int .i64 0,.int .i64 0,.int .i64 0,.int .i64 0,.slice none 0 0,.string ⟨#[]⟩,.int .i64 0,.int .i64 0]
/-- The cells of a block that is known whole. -/
theorem blk_cells {w:World} {g:Nat} {t:TypeId} {c0 c1 c2 c3 c4 c5 c6 c7 c8:Value} (h:Blk w g t #[c0,c1,c2,c3,c4,c5,c6,c7,c8]) :
  w.cell? ⟨g,0,none⟩=some c0∧w.cell? ⟨g,1,none⟩=some c1∧w.cell? ⟨g,2,none⟩=some c2∧w.cell? ⟨g,3,none⟩=some c3∧w.cell? ⟨g,4,none⟩=some c4∧w.cell? ⟨g,5,none⟩=some c5∧w.cell? ⟨g,6,none⟩=some c6∧w.cell? ⟨g,7,none⟩=some c7∧w.cell? ⟨g,8,none⟩=some c8∧(∀ i,w.frozen? ⟨g,i,none⟩=false):=
 ⟨h.cell 0,h.cell 1,h.cell 2,h.cell 3,h.cell 4,h.cell 5,h.cell 6,h.cell 7,h.cell 8,h.frozen⟩
theorem step_next (b:Nat) (L:TapeL) (k:Nat) (n:Int) (w0 w:World) (h:TapeAt w b L k) (hK:Keeps [b] w0 w) (hn:1≤n) :
  Calls Tryz.prog 17 #[.pointer (some ⟨b,0,none⟩),.int .i64 n] w fun e w'=>∃ (v:Int) (k':Nat),e=.returned (.int .i64 v)∧(0≤v∧v < n)∧Hid (TapeAt w' b L k')∧Hid (Keeps [b] w w')∧Hid (Keeps [b] w0 w'):=
 (next_any b L k n w h).mono fun _ _ ⟨v,k',he,h0,h1,hT,hk⟩=>⟨v,k',he,⟨h0,h1 hn⟩,hT,hk,hK.trans hk (by simp)⟩
/-- What is known between two calls: the tape, the result's block g0, the entry's block g1. -/
structure St (w0 w:World) (b:Nat) (L:TapeL) (k g0 g1:Nat) (c1:Array Value):Prop where
 tape:TapeAt w b L k
 keeps:Keeps [b] w0 w
 b0:Blk w g0 36 zeroE
 b1:Blk w g1 36 c1
 lt0:b < g0
 lt1:g0 < g1
 old:w0.heap.size≤g0
theorem St.set {w0 w:World} {b:Nat} {L:TapeL} {k g0 g1:Nat} {c1:Array Value} (h:St w0 w b L k g0 g1 c1) (i:Nat) (v:Value):St w0 (w.setCell ⟨g1,i,none⟩ v) b L k g0 g1 (c1.setIfInBounds i v):=by
 have hk:Keeps [g1] w (w.setCell ⟨g1,i,none⟩ v):=(Keeps.refl _ _).setCell (by simp) v
 have:=h.lt0;have:=h.lt1;have:=h.old
 exact ⟨h.tape.keep hk (by intro g hg;simp at hg;omega),h.keeps.trans hk (by intro g hg;simp at hg;right;omega),hk.blk h.b0 (by simp;omega),h.b1.set_ i v,h.lt0,h.lt1,h.old⟩
theorem St.keep {w0 w w':World} {b:Nat} {L:TapeL} {k k' g0 g1:Nat} {c1:Array Value} (h:St w0 w b L k g0 g1 c1) (hT:TapeAt w' b L k') (hk:Keeps [b] w w'):St w0 w' b L k' g0 g1 c1:=by
 have:=h.lt0;have:=h.lt1;have:=h.old
 exact ⟨hT,h.keeps.trans hk (by simp),hk.blk h.b0 (by simp;omega),hk.blk h.b1 (by simp;omega),h.lt0,h.lt1,h.old⟩
theorem st_next {w0 w:World} {b:Nat} {L:TapeL} {k g0 g1:Nat} {c1:Array Value} (h:St w0 w b L k g0 g1 c1) (n:Int) (hn:1≤n) :
  Calls Tryz.prog 17 #[.pointer (some ⟨b,0,none⟩),.int .i64 n] w fun e w'=>∃ (v:Int) (k':Nat),e=.returned (.int .i64 v)∧(0≤v∧v < n)∧Hid (St w0 w' b L k' g0 g1 c1):=
 (next_any b L k n w h.tape).mono fun _ _ ⟨v,k',he,h0,h1,hT,hk⟩=>⟨v,k',he,⟨h0,h1 hn⟩,h.keep hT hk⟩
theorem st_series {w0 w:World} {b:Nat} {L:TapeL} {k g0 g1:Nat} {c1:Array Value} (h:St w0 w b L k g0 g1 c1) :
  Calls Tryz.prog 37 #[.pointer (some ⟨b,0,none⟩)] w fun e w'=>∃ (s:ByteArray) (k':Nat),e=.returned (.string s)∧Hid (NameOk s)∧Hid (St w0 w' b L k' g0 g1 c1):=
 (series_any b L k w h.tape).mono fun _ _ ⟨s,k',he,h0,hT,hk⟩=>⟨s,k',he,h0,h.keep hT hk⟩
def DelOk (w0 w':World) (v:Value) (ds:List DeltaD):Prop:=(∀ d∈ds,DeltaOk d)∧1≤ds.length∧ds.length≤4∧(∀ M,(∀ g∈M,g < w0.heap.size)→Ds w' M v ds)
theorem st_deltas {w0 w:World} {b:Nat} {L:TapeL} {k g0 g1:Nat} {c1:Array Value} (h:St w0 w b L k g0 g1 c1) :
  Calls Tryz.prog 48 #[.pointer (some ⟨b,0,none⟩),.int .i64 4] w fun e w'=>∃ (v:Value) (ds:List DeltaD) (k':Nat),e=.returned v∧Hid (DelOk w w' v ds)∧Hid (St w0 w' b L k' g0 g1 c1):=
 (deltas_any b L k 4 w h.tape (by omega) (by omega)).mono fun _ _ ⟨v,ds,k',he,h1,h2,h3,h4,hT,hk⟩=>⟨v,ds,k',he,⟨h1,h2,by omega,fun M hM=>Rd.of_own h4 hM⟩,h.keep hT hk⟩
theorem entry_any (b:Nat) (L:TapeL) (k:Nat) (w:World) (h:TapeAt w b L k) :
  Calls Tryz.prog 18 #[.pointer (some ⟨b,0,none⟩)] w fun e w'=>EntryPost b L w e w':=by
 have hbw:=h.lt
 have H:=Lib.hid h
 clear h
 go_enter Tryz.func18,Tryz.ntmps18
 go_wp2_with fail
 have hT0:TapeAt (w.alloc (.cells zeroE 36)) b L k:=H.out.keep (M':=[]) ((Keeps.refl _ _).alloc _) (by simp)
 have hB0:Blk (w.alloc (.cells zeroE 36)) w.heap.size 36 zeroE:=Blk.new w _ _
 have hK0:Keeps [b] w (w.alloc (.cells zeroE 36)):=(Keeps.refl _ _).alloc _
 have hsz:w.heap.size < (w.alloc (.cells zeroE 36)).heap.size:=by simp
 refine (step_next b L k 8 w _ hT0 hK0 (by omega)).mono ?_
 rintro e w1 ⟨fr,k1,rfl,⟨hf0,hf1⟩,HT1,HK1,HKw1⟩
 have hB1:=HK1.out.blk hB0 (by simp;omega)
 have hs1:=HK1.out.size
 clear hT0 hB0 hK0
 obtain ⟨g0,hg0⟩:∃ g,g=w.heap.size:=⟨_,rfl⟩
 rw [← hg0] at hB1 ⊢
 have hbg0:b < g0:=by omega
 have hg1:g0 < w1.heap.size:=by omega
 have HB1:=Lib.hid hB1;have Hg0:=Lib.hid hg0
 clear hB1 hg0 hsz hs1
 go_wp2_with fail
 refine (step_next b L k1 40 w w1 HT1.out HKw1.out (by omega)).mono ?_
 rintro e w2 ⟨tag,k2,rfl,⟨ht0,ht1⟩,HT2,HK2,HKw2⟩
 have HB2:=Lib.hid (HK2.out.blk HB1.out (by simp;omega))
 have hg2:g0 < w2.heap.size:=Nat.lt_of_lt_of_le hg1 HK2.out.size
 go_wp2_with fail
 have hst:St w (w2.alloc (.cells #[.int .i64 1,.int .i64 0,.int .i64 0,.int .i64 0,.int .i64 0,.slice none 0 0,.string ⟨#[]⟩,.int .i64 fr,.int .i64 tag] 36)) b L k2 g0 w2.heap.size #[.int .i64 1,.int .i64 0,.int .i64 0,.int .i64 0,.int .i64 0,.slice none 0 0,.string ⟨#[]⟩,.int .i64 fr,.int .i64 tag]:=
  ⟨HT2.out.keep (M':=[]) ((Keeps.refl _ _).alloc _) (by simp),HKw2.out.alloc _,(HB2.out.below (below_new' w2 _) hg2),Blk.new w2 _ _,hbg0,hg2,by have:=Hg0.out;omega⟩
 have Hst:=Lib.hid hst
 clear hst
 generalize (w2.alloc (.cells #[.int .i64 1,.int .i64 0,.int .i64 0,.int .i64 0,.int .i64 0,.slice none 0 0,.string ⟨#[]⟩,.int .i64 fr,.int .i64 tag] 36))=w3 at *
 generalize w2.heap.size=g1 at *
 clear HT2 HK2 HKw2 HB2 HT1 HK1 HKw1 HB1 hg1
 go_wp2_with fail
 refine (st_next Hst.out 5 (by omega)).mono ?_
 rintro e w4 ⟨v,k4,rfl,⟨hv0,hv1⟩,H4⟩
 clear Hst
 by_cases c0:v=0
 ·subst c0
  go_wp2_with fail
  refine (st_series H4.out).mono ?_
  rintro e w5 ⟨sr,k5,rfl,Hok,H5⟩
  obtain ⟨q0,q1,q2,q3,q4,q5,q6,q7,q8,qf⟩:=blk_cells H5.out.b1
  obtain ⟨r0,r1,r2,r3,r4,r5,r6,r7,r8,rf⟩:=blk_cells H5.out.b0
  have H6:=Lib.hid ((H5.out.set 0 (.int .i64 2)).set 6 (.string sr))
  have hl0:=H5.out.lt0;have hl1:=H5.out.lt1;have hl2:=H5.out.old
  clear H4 H5
  go_wp2
  refine bodyPost_ret (v:=.agg #[.int .i64 2,.int .i64 0,.int .i64 0,.int .i64 0,.int .i64 0,.slice none 0 0,.string sr,.int .i64 fr,.int .i64 tag]) (by simp [results,Tryz.results18,go_sem,r0,r1,r2,r3,r4,r5,r6,r7,r8]) rfl ?_
  refine ⟨⟨2,0,0,0,0,[],sr,fr,tag⟩,.slice none 0 0,k5,rfl,⟨hf0,hf1,ht0,ht1,.inl ⟨rfl,Hok.out,rfl,rfl,rfl,rfl,rfl⟩⟩,fun M _=>Ds.nil _ _,?_,?_⟩
  ·refine H6.out.tape.keep (M':=[g0]) ?_ (by intro g hg;simp at hg;omega)
   repeat (first | (with_reducible exact Keeps.refl _ _) | (with_reducible refine Keeps.setCell ?_ (by simp) _))
  ·repeat (first | (with_reducible exact H6.out.keeps) | (with_reducible refine Keeps.setCell ?_ (by right;simp;omega) _))
 ·have d0:(v == 0)=false:=by simpa using c0
  clear c0
  go_wp2_with fail
  refine (st_next H4.out 3 (by omega)).mono ?_
  rintro e w5 ⟨ag,k5,rfl,⟨ha0,ha1⟩,H5⟩
  clear H4
  go_wp2_with fail
  refine (st_next H5.out 2 (by omega)).mono ?_
  rintro e w6 ⟨sh,k6,rfl,⟨hs0,hs1⟩,H6⟩
  clear H5
  go_wp2_with fail
  refine (st_next H6.out 12 (by omega)).mono ?_
  rintro e w7 ⟨sq,k7,rfl,⟨hq0,hq1⟩,H7⟩
  clear H6
  obtain ⟨q0,q1,q2,q3,q4,q5,q6,q7,q8,qf⟩:=blk_cells H7.out.b1
  have hst:=((H7.out.set 1 (.int .i64 ag)).set 2 (.int .i64 sh)).set 3 (.int .i64 (1 + sq))
  have H8:=Lib.hid hst
  clear hst H7
  go_wp2_with fail
  refine (st_next H8.out 9 (by omega)).mono ?_
  rintro e w9 ⟨v9,k9,rfl,⟨hn0,hn1⟩,H9⟩
  clear H8 q0 q1 q2 q3 q4 q5 q6 q7 q8 qf
  by_cases c9:v9=0
  ·subst c9
   go_wp2_with fail
   refine (st_next H9.out 90 (by omega)).mono ?_
   rintro e wa ⟨sq2,ka,rfl,⟨hz0,hz1⟩,Ha⟩
   clear H9 hq0 hq1
   have hsq:1≤1 + sq2∧1 + sq2≤90:=by omega
   obtain ⟨q0,q1,q2,q3,q4,q5,q6,q7,q8,qf⟩:=blk_cells Ha.out.b1
   have hst:=Ha.out.set 3 (.int .i64 (1 + sq2))
   have Hb:=Lib.hid hst
   clear hst Ha
   go_wp2_with fail
   refine (st_next Hb.out 4 (by omega)).mono ?_
   rintro e wb ⟨ep,kb,rfl,⟨he0,he1⟩,Hc⟩
   clear Hb
   try clear q0 q1 q2 q3 q4 q5 q6 q7 q8 qf
   obtain ⟨q0,q1,q2,q3,q4,q5,q6,q7,q8,qf⟩:=blk_cells Hc.out.b1
   have Hd:=Lib.hid (Hc.out.set 4 (.int .i64 (1 + ep)))
   clear Hc
   go_wp2_with fail
   refine (st_deltas Hd.out).mono ?_
   rintro e wd ⟨dv,ds,kd,rfl,Hdel,He⟩
   clear q0 q1 q2 q3 q4 q5 q6 q7 q8 qf
   obtain ⟨Av,cv,hve,_⟩:=(Hdel.out.2.2.2 [] (by simp)).len
   subst hve
   have hdold:w.heap.size≤(wb.setCell ⟨g1,4,none⟩ (.int .i64 (1 + ep))).heap.size:=Hd.out.keeps.size
   have hgs:g1 < (wb.setCell ⟨g1,4,none⟩ (.int .i64 (1 + ep))).heap.size:=Hd.out.b1.lt
   have Hdold:=Lib.hid hdold
   have Hgs:=Lib.hid hgs
   clear hdold hgs
   obtain ⟨q0,q1,q2,q3,q4,q5,q6,q7,q8,qf⟩:=blk_cells He.out.b1
   obtain ⟨r0,r1,r2,r3,r4,r5,r6,r7,r8,rf⟩:=blk_cells He.out.b0
   have hl2:=He.out.old
   have Hf:=Lib.hid (He.out.set 5 (.slice Av ds.length cv))
   clear He Hd
   go_wp2
   refine bodyPost_ret (v:=.agg #[.int .i64 1,.int .i64 ag,.int .i64 sh,.int .i64 (1 + sq2),.int .i64 (1 + ep),.slice Av ds.length cv,.string ⟨#[]⟩,.int .i64 fr,.int .i64 tag]) (by simp [results,Tryz.results18,go_sem,r0,r1,r2,r3,r4,r5,r6,r7,r8]) rfl ?_
   refine ⟨⟨1,ag,sh,1 + sq2,1 + ep,ds,⟨#[]⟩,fr,tag⟩,.slice Av ds.length cv,kd,rfl,⟨hf0,hf1,ht0,ht1,.inr ⟨rfl,rfl,ha0,ha1,hs0,hs1,hsq.1,hsq.2,by simp only [];omega,by simp only [];omega,Hdel.out.2.1,Hdel.out.2.2.1,Hdel.out.1⟩⟩,?_,?_,?_⟩
   ·intro M hM
    have h0:=Hdel.out.2.2.2 (g0 :: g1 :: M) (by intro g hg;simp at hg;have:=Hgs.out;have:=Hdold.out;rcases hg with rfl | rfl | hg;omega;omega;have:=hM g hg;omega)
    refine ((h0.keep (M':=[g0,g1]) ?_ (by intro g hg;simp at hg;rcases hg with rfl | rfl <;> simp)).avoid (fun g hg=>.inl (List.mem_cons_of_mem _ (List.mem_cons_of_mem _ hg))))
    repeat (first | (with_reducible exact Keeps.refl _ _) | (with_reducible refine Keeps.setCell ?_ (by simp) _))
   ·refine Hf.out.tape.keep (M':=[g0]) ?_ (by intro g hg;simp at hg;omega)
    repeat (first | (with_reducible exact Keeps.refl _ _) | (with_reducible refine Keeps.setCell ?_ (by simp) _))
   ·repeat (first | (with_reducible exact Hf.out.keeps) | (with_reducible refine Keeps.setCell ?_ (by right;simp;omega) _))
  ·have d9:(v9 == 0)=false:=by simpa using c9
   clear c9
   have hsq:1≤1 + sq∧1 + sq≤90:=by omega
   have Hb:=H9
   clear H9
   go_wp2_with fail
   refine (st_next Hb.out 4 (by omega)).mono ?_
   rintro e wb ⟨ep,kb,rfl,⟨he0,he1⟩,Hc⟩
   clear Hb
   try clear q0 q1 q2 q3 q4 q5 q6 q7 q8 qf
   obtain ⟨q0,q1,q2,q3,q4,q5,q6,q7,q8,qf⟩:=blk_cells Hc.out.b1
   have Hd:=Lib.hid (Hc.out.set 4 (.int .i64 (1 + ep)))
   clear Hc
   go_wp2_with fail
   refine (st_deltas Hd.out).mono ?_
   rintro e wd ⟨dv,ds,kd,rfl,Hdel,He⟩
   clear q0 q1 q2 q3 q4 q5 q6 q7 q8 qf
   obtain ⟨Av,cv,hve,_⟩:=(Hdel.out.2.2.2 [] (by simp)).len
   subst hve
   have hdold:w.heap.size≤(wb.setCell ⟨g1,4,none⟩ (.int .i64 (1 + ep))).heap.size:=Hd.out.keeps.size
   have hgs:g1 < (wb.setCell ⟨g1,4,none⟩ (.int .i64 (1 + ep))).heap.size:=Hd.out.b1.lt
   have Hdold:=Lib.hid hdold
   have Hgs:=Lib.hid hgs
   clear hdold hgs
   obtain ⟨q0,q1,q2,q3,q4,q5,q6,q7,q8,qf⟩:=blk_cells He.out.b1
   obtain ⟨r0,r1,r2,r3,r4,r5,r6,r7,r8,rf⟩:=blk_cells He.out.b0
   have hl2:=He.out.old
   have Hf:=Lib.hid (He.out.set 5 (.slice Av ds.length cv))
   clear He Hd
   go_wp2
   refine bodyPost_ret (v:=.agg #[.int .i64 1,.int .i64 ag,.int .i64 sh,.int .i64 (1 + sq),.int .i64 (1 + ep),.slice Av ds.length cv,.string ⟨#[]⟩,.int .i64 fr,.int .i64 tag]) (by simp [results,Tryz.results18,go_sem,r0,r1,r2,r3,r4,r5,r6,r7,r8]) rfl ?_
   refine ⟨⟨1,ag,sh,1 + sq,1 + ep,ds,⟨#[]⟩,fr,tag⟩,.slice Av ds.length cv,kd,rfl,⟨hf0,hf1,ht0,ht1,.inr ⟨rfl,rfl,ha0,ha1,hs0,hs1,hsq.1,hsq.2,by simp only [];omega,by simp only [];omega,Hdel.out.2.1,Hdel.out.2.2.1,Hdel.out.1⟩⟩,?_,?_,?_⟩
   ·intro M hM
    have h0:=Hdel.out.2.2.2 (g0 :: g1 :: M) (by intro g hg;simp at hg;have:=Hgs.out;have:=Hdold.out;rcases hg with rfl | rfl | hg;omega;omega;have:=hM g hg;omega)
    refine ((h0.keep (M':=[g0,g1]) ?_ (by intro g hg;simp at hg;rcases hg with rfl | rfl <;> simp)).avoid (fun g hg=>.inl (List.mem_cons_of_mem _ (List.mem_cons_of_mem _ hg))))
    repeat (first | (with_reducible exact Keeps.refl _ _) | (with_reducible refine Keeps.setCell ?_ (by simp) _))
   ·refine Hf.out.tape.keep (M':=[g0]) ?_ (by intro g hg;simp at hg;omega)
    repeat (first | (with_reducible exact Keeps.refl _ _) | (with_reducible refine Keeps.setCell ?_ (by simp) _))
   ·repeat (first | (with_reducible exact Hf.out.keeps) | (with_reducible refine Keeps.setCell ?_ (by right;simp;omega) _))

end Go.Proofs.YtambjickanapjaaGreatDoor.Tape
end
section
namespace Go.Proofs.YtambjickanapjaaGreatDoor.Vi
open Go.RowKit Base Mem
open Go.Maps (Keyed)
theorem uStr:Tryz.prog.underlying 9=some .string:=by kernel_rfl
theorem uInt:Tryz.prog.underlying 3=some (.int .i64):=by kernel_rfl
theorem uI64:Tryz.prog.underlying 2=some (.int .i64):=by kernel_rfl
theorem uU64:Tryz.prog.underlying 45=some (.int .u64):=by kernel_rfl
theorem uMS:Tryz.prog.underlying 200=some (.map 9 45):=by kernel_rfl
theorem uME:Tryz.prog.underlying 103=some (.map 3 2):=by kernel_rfl
theorem zU64 (w:World):(zeroValue 45).run Tryz.prog w=.ok (.int .u64 0) w:=by kernel_rfl
theorem zI64 (w:World):(zeroValue 2).run Tryz.prog w=.ok (.int .i64 0) w:=by kernel_rfl
theorem lawS:Keyed Tryz.prog 9:=Maps.string_keyed uStr
theorem lawI:Keyed Tryz.prog 3:=Maps.int_keyed uInt
def I64 (n:Int):Prop:=-9223372036854775808≤n∧n≤9223372036854775807
theorem skey_of {s:ByteArray} (h:s.size≤9223372036854775807):keyOf Tryz.prog 9 (.string s)=some (skey s):=Go.WideMaps.keyOf_string_mk uStr h
/-- Sums lie in block g, their map in block b. -/
def SmAt (w:World) (g b N:Nat) (D:DataW Unit):Prop:=Blk w g 202 #[.map (some b)]∧w.ownsMap Tryz.prog 9 (plainElem Tryz.prog 45) b N D∧g≠b
theorem SmAt.keep {w w':World} {g b N:Nat} {D:DataW Unit} {M:List Nat} (h:SmAt w g b N D) (hk:Keeps M w w') (hg:g∉M) (hb:b∉M):SmAt w' g b N D:=⟨hk.blk h.1 hg,om_keep h.2.1 hk hb,h.2.2⟩
def SmNew (w:World) (e:Ending) (w':World):Prop:=∃ g b,e=.returned (.pointer (some ⟨g,0,none⟩))∧SmAt w' g b 0 (.map [])∧w.heap.size≤g∧w.heap.size≤b∧Below w.heap.size w w'
theorem smnew_any (w:World):Calls Tryz.prog 49 #[] w fun e w'=>SmNew w e w':=by
 have hmm:=@run_makeMap Tryz.prog
 have hR:Hid (SmNew w (.returned (.pointer (some ⟨w.heap.size + 1,0,none⟩))) ((w.alloc (.map #[] 0)).alloc (.cells #[.map (some w.heap.size)] 202))):=by
  refine ⟨w.heap.size + 1,w.heap.size,rfl,⟨?_,World.ownsMap.alloc (World.ownsMap_made _ _ _ _) _,by omega⟩,by omega,by omega,(below_new' w _).alloc (by simp) _⟩
  have:=Blk.new (w.alloc (.map #[] 0)) 202 #[.map (some w.heap.size)]
  simpa using this
 go_enter Tryz.func49,Tryz.ntmps49
 go_wp2
 go_ret
 exact hR.out
theorem smget_any (g b N:Nat) (D:DataW Unit) (s:ByteArray) (w:World) (h:SmAt w g b N D) (hs:s.size≤9223372036854775807) :
  Calls Tryz.prog 51 #[.pointer (some ⟨g,0,none⟩),.string s] w fun e w'=>e=.returned (.int .u64 (numAt .u64 D (skey s)))∧w=w':=by
 have c0:=h.1.cell 0
 simp only [List.getElem?_toArray,List.getElem?_cons_succ,List.getElem?_cons_zero] at c0
 have hown:=Lib.hid h.2.1
 clear h
 go_enter Tryz.func51,Tryz.ntmps51
 go_wp2_with (at_lookup;refine wpl_look_num _ rfl _ _ 200 rfl 9 45 .u64 lawS uMS uU64 (zU64 _) b N D rfl hown.out _ _ rfl (skey_of hs) ?_)
 go_wp2
 go_ret
 exact ⟨rfl,rfl⟩
theorem belowQ {B:Nat} {a w:World} (h:Below B a w) (n:Nat):Below B a (w.drewN n):=⟨h.os,h.tape,h.output,h.size,h.block⟩
/-- A delta that may be: a number of 64 bits, a series that is no longer than a string may be. -/
def DOk (d:DeltaD):Prop:=0≤d.n∧d.n≤18446744073709551615∧d.ser.size≤9223372036854775807
def MyPost (c:Int) (w:World) (e:Ending) (w':World):Prop:=e=.returned (.int .i64 c)∧Below w.heap.size w w'
theorem wf_u64_bd {c:Int} (h:(Lit.int .u64 c).wf=true):0≤c∧c≤18446744073709551615:=by
 unfold Lit.wf at h
 rw [Bool.and_eq_true,decide_eq_true_eq,decide_eq_true_eq] at h
 exact h
theorem om_bd {w:World} {b N:Nat} {D:DataW Unit} (h:w.ownsMap Tryz.prog 9 (plainElem Tryz.prog 45) b N D) {s:ByteArray} (hs:s.size≤9223372036854775807):0≤numAt .u64 D (skey s)∧numAt .u64 D (skey s)≤18446744073709551615:=
 wf_u64_bd (om_num h lawS uMS uU64 (zU64 _) (skey_of hs)).2.2
theorem invKS:∀ key kl,keyOf Tryz.prog 9 key=some kl→∃ x,key=Value.string x:=fun key kl h=>by
 cases key <;> simp [keyOf,uStr,mapKey] at h
 exact ⟨_,rfl⟩
theorem invVU:∀ v (y:DataW Unit×List MemPlace),plainElem Tryz.prog 45 v=some y→∃ c,v=Value.int .u64 c:=fun v y h=>by
 obtain ⟨c,rfl,_⟩:=plainElem_int_inv uU64 h
 exact ⟨c,rfl⟩
theorem mayL_cons (DS more:DataW Unit) (d:DeltaD) (r:List DeltaD):mayL DS more (d :: r)=if 18446744073709551615 - numAt .u64 more (skey d.ser) < d.n∨18446744073709551615 - numAt .u64 DS (skey d.ser) < numAt .u64 more (skey d.ser) + d.n then none else mayL DS (more.put (skey d.ser) (.lit (.int .u64 (numAt .u64 more (skey d.ser) + d.n)))) r:=rfl
theorem may_any (g b N:Nat) (DS:DataW Unit) (v:Value) (l:List DeltaD) (w:World) (h:SmAt w g b N DS) (hd:Ds w [] v l) (hn:∀ d∈l,DOk d) (hl:l.length≤1099511627776) (hN:N≤1099511627776) :
  Calls Tryz.prog 193 #[.pointer (some ⟨g,0,none⟩),v] w fun e w'=>MyPost (mayS DS l) w e w':=by
 have hmm:=@run_makeMap Tryz.prog
 have HM:=Lib.hid h;have HD:=Lib.hid hd;have Hn:=Lib.hid hn
 obtain ⟨A,c,rfl,hc⟩:=hd.len
 have hb0:Hid (Below w.heap.size w (w.alloc (.map #[] 0))):=below_new' w _
 have ho0:Hid ((w.alloc (.map #[] 0)).ownsMap Tryz.prog 9 (plainElem (H:=Unit) Tryz.prog 45) w.heap.size 0 (.map [])):=World.ownsMap_made _ _ _ _
 clear h hd hn
 obtain ⟨W0,HW0⟩:∃ W0:Nat,Hid (W0=w.heap.size):=⟨_,rfl⟩
 go_enter Tryz.func193,Tryz.ntmps193
 go_wp2_with fail
 rw [← HW0.out] at ho0 hb0
 rw [← HW0.out]
 go_loopw [16] (fun i wr=>∃ (x:Nat) (Dm:DataW Unit),i=.int .i64 x∧x≤l.length∧Hid (wr.ownsMap Tryz.prog 9 (plainElem Tryz.prog 45) W0 x Dm)∧Hid (mayL DS (.map []) l=mayL DS Dm (l.drop x))∧Hid (Below W0 w wr)) (fun i _=>l.length - (intOf i).toNat)
 case atStart=>exact ⟨0,.map [],rfl,by omega,ho0,rfl,hb0⟩
 case round=>
  obtain ⟨x,Dm,rfl,hx,Hown,Hmay,Hbr⟩:=hrel
  by_cases hlt:x < l.length
  ·have hx1:(x:Int) < (l.length:Int):=by omega
   obtain ⟨g3,off,_,e1,_,hg3,_,hcell⟩:=Rd.at_ dCell 2 (fun _=>rfl) (HD.out.keep (Keeps.of_below (M:=[]) (by have:=Hbr.out;rw [HW0.out] at this;exact this)) (by simp)) hlt
   obtain rfl:A=some ⟨g3,off,none⟩:=by injection e1
   clear e1
   have p0:=hcell 0 _ rfl
   have p1:=hcell 1 _ rfl
   rw [Nat.add_zero] at p0
   obtain ⟨hn0,hn1,hns⟩:=Hn.out l[x] (List.getElem_mem _)
   have hM0:=Hmay.out
   rw [← List.getElem_cons_drop hlt,mayL_cons] at hM0
   have HMs:Hid (SmAt wr g b N DS):=HM.out.keep (M:=[]) (Keeps.of_below (by have:=Hbr.out;rw [HW0.out] at this;exact this)) (by simp) (by simp)
   clear hcell Hmay
   generalize l[x]=d at *
   obtain ⟨ser,n⟩:=d
   simp only [] at p0 p1 hn0 hn1 hns hM0
   obtain ⟨hc0,hc1⟩:=om_bd Hown.out hns
   obtain ⟨he0,he1⟩:=om_bd HMs.out.2.1 hns
   have HM0:=Lib.hid hM0
   clear hM0
   have hBx:=Blk.new wr 63 #[.string ser,.int .u64 n]
   have HbA:=Lib.hid (Hbr.out.alloc (by have:=Hbr.out.size;have:=HW0.out;omega) (.cells #[.string ser,.int .u64 n] 63))
   have HownA:=Lib.hid (Hown.out.alloc (.cells #[.string ser,.int .u64 n] 63))
   have HMsA:Hid (SmAt (wr.alloc (.cells #[.string ser,.int .u64 n] 63)) g b N DS):=HMs.out.keep (M:=[]) ((Keeps.refl _ _).alloc _) (by simp) (by simp)
   have d0:=hBx.cell 0;have d1:=hBx.cell 1
   simp only [List.getElem?_toArray,List.getElem?_cons_succ,List.getElem?_cons_zero] at d0 d1
   clear hBx HMs Hown
   go_upto_region 5 with (fail)
   clear p0 p1
   generalize wr.alloc (.cells #[.string ser,.int .u64 n] 63)=wa at *
   generalize wr.heap.size=g7 at *
   have q0:=HMsA.out.1.cell 0
   simp only [List.getElem?_toArray,List.getElem?_cons_zero] at q0
   have hlook:∀ q,(Instr.lookup 200 (.map (some b)) (.string ser) false).run Tryz.prog (wa.drewN q)=.ok (.int .u64 (numAt .u64 DS (skey ser))) (wa.drewN q):=fun q=>(om_num (w:=wa.drewN q) (om_keep HMsA.out.2.1 (M:=[]) ((Keeps.refl _ _).drewN q) (by simp)) lawS uMS uU64 (zU64 _) (skey_of hns)).1
   go_upto_region 6 with (at_lookup;refine wpl_look_num _ rfl _ _ 200 rfl 9 45 .u64 lawS uMS uU64 (zU64 _) W0 x Dm rfl HownA.out _ _ rfl (skey_of hns) ?_)
   generalize hcd:numAt .u64 Dm (skey ser)=cd at *
   generalize hce:numAt .u64 DS (skey ser)=ce at *
   have hw1:IntKind.u64.wrap (18446744073709551615 - cd)=18446744073709551615 - cd:=by rw [IntKind.wrap_u64];omega
   have hw2:IntKind.u64.wrap (18446744073709551615 - ce)=18446744073709551615 - ce:=by rw [IntKind.wrap_u64];omega
   by_cases h1:18446744073709551615 - cd < n
   ·have h1i:decide (18446744073709551615 - cd < n)=true:=decide_eq_true h1
    have hR:Hid (mayS DS l=25):=by
     show _=_
     unfold mayS
     rw [HM0.out,if_pos (.inl h1)]
    have hbw:Hid (∀ q,Below W0 w (wa.drewN q)):=fun q=>belowQ HbA.out q
    go_quiet (fail)
    have hP:Hid (MyPost (mayS DS l) w (.returned (.int .i64 25)) (wa.drewN nq)):=⟨by rw [hR.out],by rw [← HW0.out];exact hbw.out _⟩
    go_wp2
    go_ret
    exact hP.out
   ·have h1i:decide (18446744073709551615 - cd < n)=false:=decide_eq_false h1
    have hw3:IntKind.u64.wrap (cd + n)=cd + n:=by rw [IntKind.wrap_u64];omega
    by_cases h2:18446744073709551615 - ce < cd + n
    ·have h2i:decide (18446744073709551615 - ce < cd + n)=true:=decide_eq_true h2
     have hR:Hid (mayS DS l=25):=by
      show _=_
      unfold mayS
      rw [HM0.out,if_pos (.inr h2)]
     have hbw:Hid (∀ q,Below W0 w (wa.drewN q)):=fun q=>belowQ HbA.out q
     go_quiet (fail)
     have hP:Hid (MyPost (mayS DS l) w (.returned (.int .i64 25)) (wa.drewN nq)):=⟨by rw [hR.out],by rw [← HW0.out];exact hbw.out _⟩
     go_wp2
     go_ret
     exact hP.out
    ·have h2i:decide (18446744073709551615 - ce < cd + n)=false:=decide_eq_false h2
     have hbw:Hid (∀ q,Below W0 w (wa.drewN q)):=fun q=>belowQ HbA.out q
     have how:Hid (∀ q,(wa.drewN q).ownsMap Tryz.prog 9 (plainElem Tryz.prog 45) W0 x Dm):=fun q=>om_keep HownA.out (M:=[]) ((Keeps.refl _ _).drewN q) (by simp)
     have hR:Hid (mayL DS (.map []) l=mayL DS (Dm.put (skey ser) (.lit (.int .u64 (cd + n)))) (l.drop (x + 1))):=by
      show _=_
      rw [HM0.out,if_neg (by omega)]
     clear HM0
     go_quiet (fail)
     go_wp2_with (at_mapUpdate;refine wpList_mapUpdate_own _ rfl _ _ _ 200 rfl 9 45 lawS uMS _ W0 x Dm rfl (how.out nq) (by unfold maxLen;omega) _ _ _ rfl rfl (skey_of hns) _ [] (plainElem_int uU64 (WalkArith.wf_u64 ⟨by omega,by omega⟩)) ?_)
     intro w2 hown2 hg2
     have Hown2:=Lib.hid hown2
     have Hb2:Hid (Below W0 w w2):=(hbw.out nq).grown hg2 (by have:=(hbw.out nq).size;have:=HW0.out;omega) (fun j hj=>by cases hj;exact Nat.le_refl _)
     clear hown2 hg2
     go_wp2
     go_roundw
     case rel=>exact ⟨x + 1,_,by go_num,by omega,Hown2,hR,Hb2⟩
     case measure=>simp [intOf] <;> omega
  ·obtain rfl:x=l.length:=by omega
   have hM0:=Hmay.out
   rw [List.drop_length] at hM0
   have HM0:Hid (mayL DS (.map []) l=some Dm):=hM0
   have HMs:Hid (SmAt wr g b N DS):=HM.out.keep (M:=[]) (Keeps.of_below (by have:=Hbr.out;rw [HW0.out] at this;exact this)) (by simp) (by simp)
   have hS:Hid (mayS DS l=if 16 < Maps.size DS + newS DS Dm then 24 else 0):=by
    show _=_
    unfold mayS
    rw [HM0.out]
   have q0:=HMs.out.1.cell 0
   simp only [List.getElem?_toArray,List.getElem?_cons_zero] at q0
   clear hM0 Hmay HM0
   have HT:Hid (Maps.Tidy Dm):=Hown.out.tidy lawS
   go_wp2_with (first | (at_len;refine wpList_len_own _ rfl _ 200 rfl 9 45 uMS _ b N DS rfl HMs.out.2.1 ?_) | (at_range;refine wpList_range_own _ rfl _ 200 rfl 9 45 lawS uMS _ W0 l.length Dm rfl Hown.out ?_;intro w0 hrg0 hg0 hs0))
   have Hrg0:=Lib.hid hrg0
   have Hb0:Hid (Below W0 w w0):=Hbr.out.grown hg0 (by have:=Hbr.out.size;have:=HW0.out;omega) (fun j hj=>by cases hj)
   clear hrg0 hg0 hs0
   have Hr:Hid (W0≤wr.heap.size):=by show _≤_;have:=Hbr.out.size;have:=HW0.out;omega
   generalize wr.heap.size=r at *
   go_frame
   go_loopw [9] (fun n wr=>∃ (left:Lit→Bool) (cnt k:Nat),n=.int .i64 k∧Hid (k + leftN DS Dm left=Maps.size DS + newS DS Dm)∧Hid (wr.ranges Tryz.prog 9 (plainElem Tryz.prog 45) W0 r l.length Dm left cnt)∧Hid (Below W0 w wr)) (fun _ wr=>wr.rangeLeft W0 r)
   case atStart=>exact ⟨_,_,_,rfl,(show _=_ from rfl),Hrg0.out,Hb0.out⟩
   case round=>
    obtain ⟨left,cnt,k,rfl,Hk,Hrg,Hbw⟩:=hrel
    have HMs:Hid (SmAt wr g b N DS):=HM.out.keep (M:=[]) (Keeps.of_below (by have:=Hbw.out;rw [HW0.out] at this;exact this)) (by simp) (by simp)
    go_wp2_with (at_next;refine wpList_next_ranges _ rfl _ rfl 9 lawS (plainElem Tryz.prog 45) Value.string (Value.int .u64) invKS invVU W0 r l.length Dm left cnt rfl Hrg.out ?_ ?_)
    ·intro hc0 hl0
     have hk:k=Maps.size DS + newS DS Dm:=by
      have:=Hk.out
      rw [leftN_end hl0] at this
      omega
     have hP:Hid (MyPost (mayS DS l) w (.returned (.int .i64 (if 16 < k then 24 else 0))) wr):=⟨by rw [hS.out,hk],by rw [← HW0.out];exact Hbw.out⟩
     clear hl0
     by_cases h16:16 < k
     ·have h16i:decide ((16:Int) < (k:Int))=true:=decide_eq_true (by omega)
      rw [if_pos h16] at hP
      go_wp2
      go_ret
      exact hP.out
     ·have h16i:decide ((16:Int) < (k:Int))=false:=decide_eq_false (by omega)
      rw [if_neg h16] at hP
      go_wp2
      go_ret
      exact hP.out
    ·intro x c kl yd yp w2 cnt2 hkey hlk hv hat hrg2 hlt2 hg2 hs2 hen
     have Hrg2:=Lib.hid hrg2
     have hm1:=hrg2.left_eq
     have hm0:=Hrg.out.left_eq
     have Hb2:Hid (Below W0 w w2):=Hbw.out.grown hg2 (by have:=Hbw.out.size;have:=HW0.out;omega) (fun j hj=>by cases hj;exact Hr.out)
     have HMs2:Hid (SmAt w2 g b N DS):=HM.out.keep (M:=[]) (Keeps.of_below (by have:=Hb2.out;rw [HW0.out] at this;exact this)) (by simp) (by simp)
     have q2:=HMs2.out.1.cell 0
     simp only [List.getElem?_toArray,List.getElem?_cons_zero] at q2
     have hstep:=leftN_step (DS:=DS) HT.out (lawS.key hkey) hlk (Maps.has_true_of_atKey hat)
     have Hk0:=Hk.out
     clear hs2 hg2 hrg2 hat hv hlk HMs Hbw Hrg
     cases hh:Maps.has DS kl with
     | true=>
      rw [hh,if_pos rfl] at hstep
      have hkn:Hid (k + leftN DS Dm (fun z=>left z && !z.sameKey kl)=Maps.size DS + newS DS Dm):=by show _=_;omega
      clear hstep Hk0
      go_wp2_with (at_lookup;refine wpl_look_has _ rfl _ _ 200 rfl 9 45 .u64 lawS uMS uU64 (zU64 _) b N DS rfl HMs2.out.2.1 _ _ rfl hkey ?_;rw [hh])
      go_roundw
      case rel=>exact ⟨_,_,k,rfl,hkn,Hrg2.out,Hb2.out⟩
      case measure=>omega
     | false=>
      rw [hh,if_neg (by simp)] at hstep
      have hkn:Hid ((k + 1) + leftN DS Dm (fun z=>left z && !z.sameKey kl)=Maps.size DS + newS DS Dm):=by show _=_;omega
      have hkb:k < 4611686018427387904:=by
       have h1:=HMs2.out.2.1.size_le
       have h2:=leftN_le DS Dm (Maps.has Dm)
       have h3:=Hrg2.out.owns.size_le
       have h4:=hkn.out
       unfold newS at h4
       omega
      clear hstep Hk0
      go_wp2_with (at_lookup;refine wpl_look_has _ rfl _ _ 200 rfl 9 45 .u64 lawS uMS uU64 (zU64 _) b N DS rfl HMs2.out.2.1 _ _ rfl hkey ?_;rw [hh])
      go_roundw
      case rel=>exact ⟨_,_,k + 1,by go_num,hkn,Hrg2.out,Hb2.out⟩
      case measure=>omega
end Go.Proofs.YtambjickanapjaaGreatDoor.Vi
end
section
namespace Go.Proofs.YtambjickanapjaaGreatDoor.Vi
open Go.RowKit Base Mem
def bV (x:UInt8):Value:=.int .u8 x.toNat
/-- v reads as these bytes. -/
def Bs (w:World) (M:List Nat) (v:Value) (l:List UInt8):Prop:=Rd w M 1 v l.length (l.map bV)
theorem Bs.keep {w w':World} {M M':List Nat} {v:Value} {l:List UInt8} (h:Bs w M v l) (k:Keeps M' w w') (hM:∀ g∈M',g∈M∨w.heap.size≤g):Bs w' M v l:=Rd.keep h k hM
theorem Bs.avoid {w:World} {M M':List Nat} {v:Value} {l:List UInt8} (h:Bs w M v l) (hM:∀ g∈M',g∈M∨w.heap.size≤g):Bs w M' v l:=Rd.avoid h hM
theorem Bs.len {w:World} {M:List Nat} {v:Value} {l:List UInt8} (h:Bs w M v l):∃ A c,v=.slice A l.length c∧l.length≤c:=by
 obtain ⟨A,c,rfl,hc,_⟩:=h
 exact ⟨A,c,rfl,hc⟩
theorem Bs.nil (w:World) (M:List Nat):Bs w M (.slice none 0 0) []:=⟨none,0,rfl,Nat.le_refl _,rfl,fun h=>absurd h (by simp)⟩
theorem bV_one (l:List UInt8):∀ u∈l.map bV,u.oneCell'=true:=by
 intro u hu
 obtain ⟨x,_,rfl⟩:=List.mem_map.1 hu
 rfl
/-- What a call answers that makes bytes: a row of its own. -/
def BsPost (l:List UInt8) (w:World) (e:Ending) (w':World):Prop:=∃ A,e=.returned (.slice A l.length l.length)∧(∀ M,(∀ g∈M,g < w.heap.size)→Bs w' M (.slice A l.length l.length) l)∧Below w.heap.size w w'
theorem bV_low (m:Nat):bV (UInt8.ofNat m)=.int .u8 ((m:Int) % 256):=by
 unfold bV
 rw [UInt8.toNat_ofNat']
 simp
theorem bV_toUInt8 (m:Nat):bV m.toUInt8=.int .u8 ((m:Int) % 256):=bV_low m
theorem put_any (v:Value) (l:List UInt8) (n:Nat) (w:World) (h:Bs w [] v l) (hn:n < 18446744073709551616) (hl:l.length≤140737488355000) :
  Calls Tryz.prog 220 #[v,.int .u64 n] w fun e w'=>BsPost (l++Lib.uvarint n) w e w':=by
 obtain ⟨i0,hi0,hz0,hz1,hz2⟩:=info_parts infoU8
 have Hi0:=Lib.hid hi0;have Hz0:=Lib.hid hz0;have Hz1:=Lib.hid hz1;have Hz2:=Lib.hid hz2
 have hcl:=Lib.hid (cloneU8 [] v l.length (l.map bV) w h (bV_one l) (by omega))
 obtain ⟨A,c,rfl,hc⟩:=h.len
 clear h hi0 hz0 hz1 hz2
 have Hun:=Lib.hid (Lib.uvarint_length64 hn)
 go_enter Tryz.func220,Tryz.ntmps220
 go_wp2_with fail
 refine hcl.out.mono ?_
 rintro e w1 ⟨v1,rfl,hown,hb1⟩
 have Hown:=Lib.hid hown;have Hb1:=Lib.hid hb1
 clear hown hb1 hcl
 go_wp2_with fail
 go_slots
 go_loopw [1,5] (fun x out wr=>∃ (m:Nat) (pre:List UInt8),x=.int .u64 m∧m < 18446744073709551616∧Hid (Lib.uvarint n=pre++Lib.uvarint m)∧Hid (wr.ownsRow w.heap.size 5 1 out (l.length + pre.length) ((l++pre).map bV))∧Hid (Below w.heap.size w wr)) (fun x _ _=>(intOf x).toNat)
 case atStart=>exact ⟨n,[],rfl,hn,rfl,(show World.ownsRow _ _ _ _ _ _ _ by simpa using Hown.out),Hb1.out⟩
 case round=>
  obtain ⟨m,pre,rfl,hm,Hp,Hor,Hbr⟩:=hrel
  have hlen:Hid (l.length + pre.length + 1≤140737488355328):=by
   have h1:=Hun.out
   rw [Hp.out,List.length_append] at h1
   have:=Lib.uvarint_pos m
   show _≤_;omega
  by_cases hbig:128≤m
  ·have hor:bits .or .u8 ((m:Int) % 256) 128=((m % 128 + 128:Nat):Int):=by
    rw [Lib.u8_or128_any _ (by omega) (by omega)];omega
   have hmi:(128:Int)≤(m:Int):=by omega
   have hown3:=Lib.hid (Hor.out.alloc (.cells #[.int .u8 ((m % 128 + 128:Nat):Int)] 5))
   go_wp2_with (at_builtin;refine wpList_append_any _ rfl (.tmp 10) (.tmp 14) _ rfl w.heap.size 5 i0 _ 1 1 Tryz.underlying50 Hi0.out Hz0.out Hz1.out Hz2.out rfl (by omega) u5 (l.length + pre.length) ((l++pre).map bV) rfl hown3.out (wr.heap.size + 1) (some ⟨wr.heap.size,0,none⟩) 1 1 [.int .u8 ((m % 128 + 128:Nat):Int)] rfl (reads_new _ _ _ _ _ rfl) (by intro u hu;simp at hu;subst hu;rfl) (by have:=hlen.out;unfold maxLen;omega) (by have:=hlen.out;omega) (by have:=Hbr.out.size;simp;omega) ?_)
   intro v' w4 hown4 hg4 hat4
   have hcell:Hid (bV (m % 128 + 128).toUInt8=.int .u8 ((m % 128 + 128:Nat):Int)):=by show _=_;rw [bV_toUInt8];congr 1;omega
   have Hown4:Hid (w4.ownsRow w.heap.size 5 1 v' (l.length + (pre++[(m % 128 + 128).toUInt8]).length) ((l++(pre++[(m % 128 + 128).toUInt8])).map bV)):=by
    show World.ownsRow _ _ _ _ _ _ _
    rw [← List.append_assoc,List.map_append,List.map_cons,List.map_nil,hcell.out]
    simpa [Nat.add_assoc] using hown4
   have Hb4:Hid (Below w.heap.size w w4):=(Hbr.out.alloc Hbr.out.size _).grown hg4 (by have:=Hbr.out.size;simp;omega) (fun g hg=>(Hor.out.lt g hg).1)
   have Hp4:Hid (Lib.uvarint n=(pre++[(m % 128 + 128).toUInt8])++Lib.uvarint (m / 128)):=by show _=_;rw [Hp.out,Lib.uvarint_big hbig];simp
   clear hown4 hg4 hat4
   go_wp2
   go_roundw
   case rel=>exact ⟨m / 128,pre++[(m % 128 + 128).toUInt8],by go_num,by omega,Hp4,Hown4,Hb4⟩
   case measure=>simp [intOf] <;> omega
  ·have hmi:(m:Int) < 128:=by omega
   have hmm:(m:Int) % 256=(m:Int):=by omega
   have hown3:=Lib.hid (Hor.out.alloc (.cells #[.int .u8 (m:Int)] 5))
   go_wp2_with (at_builtin;refine wpList_append_any _ rfl (.tmp 18) (.tmp 21) _ rfl w.heap.size 5 i0 _ 1 1 Tryz.underlying50 Hi0.out Hz0.out Hz1.out Hz2.out rfl (by omega) u5 (l.length + pre.length) ((l++pre).map bV) rfl hown3.out (wr.heap.size + 1) (some ⟨wr.heap.size,0,none⟩) 1 1 [.int .u8 (m:Int)] rfl (reads_new _ _ _ _ _ rfl) (by intro u hu;simp at hu;subst hu;rfl) (by have:=hlen.out;unfold maxLen;omega) (by have:=hlen.out;omega) (by have:=Hbr.out.size;simp;omega) ?_)
   intro v' w4 hown4 hg4 hat4
   have hcell:Hid (bV m.toUInt8=.int .u8 (m:Int)):=by show _=_;rw [bV_toUInt8];congr 1
   have hfin:Hid (l++Lib.uvarint n=l++(pre++[m.toUInt8])):=by show _=_;rw [Hp.out,Lib.uvarint_small (by omega)]
   have Hown4:Hid (w4.ownsRow w.heap.size 5 1 v' (l++(pre++[m.toUInt8])).length ((l++(pre++[m.toUInt8])).map bV)):=by
    show World.ownsRow _ _ _ _ _ _ _
    rw [← List.append_assoc,List.map_append,List.map_cons,List.map_nil,hcell.out]
    simpa [Nat.add_assoc] using hown4
   have Hb4:Hid (Below w.heap.size w w4):=(Hbr.out.alloc Hbr.out.size _).grown hg4 (by have:=Hbr.out.size;simp;omega) (fun g hg=>(Hor.out.lt g hg).1)
   clear hown4 hg4 hat4
   generalize l++(pre++[m.toUInt8])=L at Hown4 hfin
   have hR:Hid (∀ M,(∀ g∈M,g < w.heap.size)→Bs w4 M v' L):=fun M hM=>Rd.of_own Hown4.out hM
   obtain ⟨A2,c2,rfl,hc2⟩:=(hR.out [] (by simp)).len
   go_wp2_with fail
   refine (clipU8 A2 _ c2 _ hc2).mono ?_
   rintro e w' ⟨rfl,rfl⟩
   have hC:Hid (BsPost (l++Lib.uvarint n) w (.returned (.slice A2 L.length L.length)) w4):=by
    show BsPost _ _ _ _
    rw [hfin.out]
    exact ⟨_,rfl,fun M hM=>Rd.clip (hR.out M hM),Hb4.out⟩
   go_wp2
   go_ret
   exact hC.out
/-- A string's bytes. -/
def sB (s:ByteArray):List UInt8:=s.data.toList
/-- What an append onto a full row leaves. -/
structure Onto (w w':World) (v v':Value) (n m:Nat) (xs ys:List Value):Prop where
 below:Below w.heap.size w w'
 reads:∀ M,(∀ g∈M,g < w.heap.size)→Rd w M 1 v n xs→Rd w' M 1 v' (n + m) (xs++ys)
/-- The number at the front, and its bytes; 0, 0: there is none. -/
def getF:Nat→Nat→List UInt8→Nat×Nat
 | _,_,[]=>(0,0)
 | i,n,c :: r=>
  if 10≤i then (0,0)
  else if 18446744073709551616≤c.toNat % 128 * 2 ^ (7 * i) then (0,0)
  else if 128≤c.toNat then getF (i + 1) (n + c.toNat % 128 * 2 ^ (7 * i)) r
  else if c.toNat=0∧0 < i then (0,0) else (n + c.toNat % 128 * 2 ^ (7 * i),i + 1)
theorem and127:∀ a:Fin 256,(a.val &&& 18446744073709551487)=a.val % 128:=by decide +kernel
theorem part_eq (c:Nat) (h:c < 256):bits .andNot .u64 (c:Int) 128=((c % 128:Nat):Int):=by
 have:=u64_andNot_nat c 128 (by omega) (by omega)
 rw [show (18446744073709551615 - 128:Nat)=18446744073709551487 from rfl,and127 ⟨c,h⟩] at this
 exact this
theorem or_eq (n p k:Nat) (hn:n < 2 ^ k) (hp:p * 2 ^ k < 18446744073709551616) (hn2:n < 18446744073709551616):bits .or .u64 (n:Int) ((p * 2 ^ k:Nat):Int)=((n + p * 2 ^ k:Nat):Int):=by
 rw [u64_or_nat _ _ hn2 hp,Nat.or_comm,nat_join k (p * 2 ^ k) n (Nat.mul_mod_left _ _) hn,Nat.add_comm]
theorem cast_shl (p k:Nat):(p:Int) * 2 ^ k=((p * 2 ^ k:Nat):Int):=by rw [Int.natCast_mul,Int.natCast_pow];rfl
theorem shl_fit (p k:Nat) (h:p * 2 ^ k < 18446744073709551616):IntKind.u64.wrap ((p:Int) * 2 ^ k)=((p * 2 ^ k:Nat):Int):=by
 rw [IntKind.wrap_u64,cast_shl]
 omega
theorem shr_fit (p k:Nat):((p * 2 ^ k:Nat):Int) / 2 ^ k=(p:Int):=by
 rw [Int.natCast_mul,Int.natCast_pow]
 exact Int.mul_ediv_cancel _ (by exact_mod_cast Nat.ne_of_gt (Nat.two_pow_pos k))
theorem shl_lose (p k:Nat) (h:18446744073709551616≤p * 2 ^ k):IntKind.u64.wrap ((p:Int) * 2 ^ k) / 2 ^ k≠(p:Int):=by
 intro he
 have hk:(0:Nat) < 2 ^ k:=Nat.two_pow_pos k
 rw [IntKind.wrap_u64,show ((p:Int) * 2 ^ k)=((p * 2 ^ k:Nat):Int) by rw [Int.natCast_mul,Int.natCast_pow];rfl,show (18446744073709551616:Int)=((18446744073709551616:Nat):Int) from rfl,← Int.natCast_emod,show ((2:Int) ^ k)=((2 ^ k:Nat):Int) by rw [Int.natCast_pow];rfl,← Int.natCast_ediv] at he
 have he':(p * 2 ^ k % 18446744073709551616) / 2 ^ k=p:=by exact_mod_cast he
 have h1:p * 2 ^ k % 18446744073709551616 < p * 2 ^ k:=Nat.lt_of_lt_of_le (Nat.mod_lt _ (by omega)) h
 have h2:(p * 2 ^ k % 18446744073709551616) / 2 ^ k < p:=Nat.div_lt_of_lt_mul (by rw [Nat.mul_comm (2 ^ k) p];exact h1)
 omega
def getL (l:List UInt8):Nat×Nat:=getF 0 0 l
theorem get_any (v:Value) (l:List UInt8) (w:World) (h:Bs w [] v l) (hl:l.length≤4611686018427387904) :
  Calls Tryz.prog 278 #[v] w fun e w'=>e=.returned (.tuple #[.int .u64 (getL l).1,.int .i64 (getL l).2])∧∃ q,w'=w.drewN q:=by
 have H:=Lib.hid h
 obtain ⟨A,c,rfl,hc⟩:=h.len
 clear h
 go_enter Tryz.func278,Tryz.ntmps278
 obtain ⟨m,hm⟩:∃ m,m=min l.length 10:=⟨_,rfl⟩
 have hml:m≤l.length:=by omega
 have hm10:m≤10:=by omega
 have Hm:=Lib.hid hm
 go_upto_region 2 with (fail)
 go_cut [10,11] (fun s t wx=>s=.int .i64 m∧t=.int .i64 0∧wx=w)
 case first=>
  by_cases h10:l.length≤10
  ·obtain rfl:m=l.length:=by omega
   clear hm Hm
   go_wp2_with fail
   all_goals go_meet
   all_goals first | exact ⟨rfl,rfl,rfl⟩ | (exfalso;omega)
  ·obtain rfl:m=10:=by omega
   clear hm Hm
   go_wp2_with fail
   all_goals go_meet
   all_goals first | exact ⟨rfl,rfl,rfl⟩ | (exfalso;omega)
 case rest=>
 obtain ⟨rfl,rfl,rfl⟩:=hcut
 clear hm
 go_wp2_with fail
 go_slots
 go_loopw [4,11] (fun nn i wr=>∃ (x n q:Nat),nn=.int .u64 n∧i=.int .i64 x∧x≤m∧Hid (n < 2 ^ (7 * x))∧Hid (getL l=getF x n (l.drop x))∧wr=wc.drewN q) (fun _ i _=>m - (intOf i).toNat)
 case atStart=>exact ⟨0,0,0,rfl,rfl,by omega,(show (0:Nat) < 2 ^ (7 * 0) by omega),rfl,rfl⟩
 case round=>
  obtain ⟨x,n,q,rfl,rfl,hx,Hn,Hg,rfl⟩:=hrel
  by_cases hlm:x < m
  ·have hlt:x < l.length:=by omega
   obtain ⟨g,off,_,e1,_,hg,_,h1⟩:=Rd.at_ (fun b=>[bV b]) 1 (fun _=>rfl) (xs:=l) (show Rd (wc.drewN q) [] 1 (.slice A l.length c) l.length (l.flatMap fun b=>[bV b]) by rw [← List.map_eq_flatMap];exact H.out) hlt
   obtain rfl:A=some ⟨g,off,none⟩:=by injection e1
   clear e1
   have c0:=h1 0 _ rfl
   clear h1
   rw [Nat.mul_one,Nat.add_zero] at c0
   simp only [bV] at c0
   have hb:=UInt8.toNat_lt (l[x])
   have hdrop:l.drop x=l[x] :: l.drop (x + 1):=List.drop_eq_getElem_cons hlt
   have Hst := Lib.hid (show getL l = (if 10 ≤ x then (0, 0)
    else if 18446744073709551616≤l[x].toNat % 128 * 2 ^ (7 * x) then (0,0)
    else if 128≤l[x].toNat then getF (x + 1) (n + l[x].toNat % 128 * 2 ^ (7 * x)) (l.drop (x + 1))
    else if l[x].toNat = 0 ∧ 0 < x then (0, 0) else (n + l[x].toNat % 128 * 2 ^ (7 * x), x + 1)) by rw [Hg.out, hdrop]; rfl)
   generalize l[x].toNat=cb at *
   have hx1:(x:Int) < (l.length:Int):=by omega
   have hx2:(x:Int) < (m:Int):=by omega
   have hcb:(cb:Int) < 256:=by omega
   have hpe:=part_eq cb (by omega)
   have hpl:cb % 128 < 128:=Nat.mod_lt _ (by omega)
   generalize cb % 128=p at *
   have h7:7 * x=x * 7:=by omega
   rw [h7] at Hst Hn
   have h64:(2:Nat) ^ (x * 7)≤2 ^ 63:=Nat.pow_le_pow_right (by omega) (by omega)
   have hn64:n < 18446744073709551616:=Nat.lt_of_lt_of_le Hn.out (by omega)
   clear hdrop h7
   by_cases hbig:18446744073709551616≤p * 2 ^ (x * 7)
   ·have hne:=shl_lose p (x * 7) hbig
    have hbne:(IntKind.u64.wrap ((p:Int) * 2 ^ (x * 7)) / 2 ^ (x * 7) != (p:Int))=true:=by simpa using hne
    have hR:Hid (getL l=(0,0)):=by show _=_;rw [Hst.out,if_neg (by omega),if_pos hbig]
    clear hne hbig h64
    go_wp2
    go_ret2
    rw [hR.out]
    exact ⟨rfl,q,rfl⟩
   ·have hs1:=shl_fit p (x * 7) (by omega)
    have hs2:=shr_fit p (x * 7)
    have hs3:=or_eq n p (x * 7) Hn.out (by omega) hn64
    have HT:Hid (getL l=(if 128≤cb then getF (x + 1) (n + p * 2 ^ (x * 7)) (l.drop (x + 1)) else if cb=0∧0 < x then (0,0) else (n + p * 2 ^ (x * 7),x + 1))):=by show _=_;rw [Hst.out,if_neg (by omega),if_neg hbig]
    have Hnn:Hid (n + p * 2 ^ (x * 7) < 2 ^ (7 * (x + 1))):=by
     show _ < _
     rw [show 7 * (x + 1)=x * 7 + 7 by omega,Nat.pow_add]
     have h1:=Hn.out
     have h2:(p + 1) * 2 ^ (x * 7)≤128 * 2 ^ (x * 7):=Nat.mul_le_mul_right _ (by omega)
     rw [Nat.add_mul] at h2
     have h3:(2:Nat) ^ 7=128:=rfl
     rw [h3,Nat.mul_comm _ 128]
     omega
    have Hfit:=Lib.hid (show p * 2 ^ (x * 7) < 18446744073709551616 by omega)
    generalize hT:p * 2 ^ (x * 7)=T at hs1 hs2 hs3 HT Hnn Hfit
    clear hbig h64 Hst hT
    have hself:((p:Int) != (p:Int))=false:=by simp
    by_cases hc128:128≤cb
    ·have hd:(128:Int)≤(cb:Int):=by omega
     go_wp2
     go_roundw
     case rel=>exact ⟨x + 1,n + T,q,rfl,by go_num,by omega,Hnn,by show _=_;rw [HT.out,if_pos hc128],rfl⟩
     case measure=>simp [intOf] <;> omega
    ·have hd:(cb:Int) < 128:=by omega
     by_cases h0:cb=0∧0 < x
     ·obtain ⟨h0,h1⟩:=h0
      have hR:Hid (getL l=(0,0)):=by show _=_;rw [HT.out,if_neg hc128,if_pos ⟨h0,h1⟩]
      have hcz:((cb:Int) == 0)=true:=by simp [h0]
      have hx0:(0:Int) < (x:Int):=by omega
      clear h0 HT
      go_wp2
      go_ret2
      rw [hR.out]
      exact ⟨rfl,q,rfl⟩
     ·have hR:Hid (getL l=(n + T,x + 1)):=by show _=_;rw [HT.out,if_neg hc128,if_neg h0]
      by_cases hz:cb=0
      ·have hcz:((cb:Int) == 0)=true:=by simp [hz]
       have hx0:decide ((0:Int) < (x:Int))=false:=decide_eq_false (by omega)
       have hx0':¬ 0 < x:=by omega
       clear hz h0 HT
       go_wp2
       go_ret2
       rw [hR.out]
       exact ⟨by simp,q,rfl⟩
      ·have hcz:((cb:Int) == 0)=false:=by simp;omega
       go_wp2
       go_ret2
       rw [hR.out]
       exact ⟨by simp,q,rfl⟩
  ·obtain rfl:x=m:=by omega
   have hR:Hid (getL l=(0,0)):=by
    show _=_
    rw [Hg.out]
    by_cases hl10:l.length≤10
    ·rw [List.drop_eq_nil_of_le (by have:=Hm.out;omega)];rfl
    ·have hm:=Hm.out
     have hlt:x < l.length:=by omega
     rw [List.drop_eq_getElem_cons hlt,getF,if_pos (by omega)]
   go_wp2
   go_ret2
   rw [hR.out]
   exact ⟨rfl,q,rfl⟩
end Go.Proofs.YtambjickanapjaaGreatDoor.Vi
end
