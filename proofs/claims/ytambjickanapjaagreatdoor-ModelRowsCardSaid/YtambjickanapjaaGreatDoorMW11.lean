/- Texts put together: RpD, RpE, RpF, RpG, RpH, RpI, RpJ, RpK, RpL, RpN, RpO, RpQ, Lab7, OnA, AgA, Wal2, AgB, AgC, AgD, AgE, AgF, AgG, AgH, StC, AgI, Draw, AgJ, AgK, AgL, AgN, AgO, AgU, MrwE. -/
import Derived.BigQuiet
import Derived.ArgAppend
import Derived.WideKeyEntry
import Derived.Deep.DeepCutAuto
import Derived.WalkMore
import Derived.Test.YtambjickanapjaaGreatDoorProg
import Derived.WalkKit
import Derived.Lib.Hide
import Derived.Handy
import Derived.Test.YtambjickanapjaaGreatDoorMW1
import Derived.Test.YtambjickanapjaaGreatDoorMW4
import Derived.Test.YtambjickanapjaaGreatDoorMW5
import Derived.Test.YtambjickanapjaaGreatDoorMW6
import Derived.Test.YtambjickanapjaaGreatDoorMW7
import Derived.Test.YtambjickanapjaaGreatDoorMW10
set_option linter.unusedVariables false
set_option linter.unusedSimpArgs false
set_option maxRecDepth 100000
set_option maxHeartbeats 8000000
section
namespace Go.Proofs.YtambjickanapjaaGreatDoor.Vi
open Go.RowKit Base Mem Go.Shelf Tape
open Lead (VoteD VoteAt)
section
variable {w w':World} {M:List Nat} {tg:Nat→Nat} {r d:Nat} {R R':RpD} {C:RpC}
end
structure RoSt (w:World) (M:List Nat) (tg:Nat→Nat) (r d:Nat) (R:RpD) (out:List SentD) (ov:Value) (wx:World) (Mk:List Nat) (tgk:Nat→Nat):Prop where
 ag:RpAt wx Mk tgk r d R
 x:Ext w M tg wx Mk tgk
 k:Keeps (sel M tg (List.range 30)) w wx
 qs:∃ qs:List (SentD×Value×Value),qs.map (·.1)=out∧wx.ownsRow w.heap.size 98 19 ov out.length (qs.flatMap srCell)∧∀ q∈qs,∀ L,(∀ g∈L,g < w.heap.size)→MsgAt wx (L++Mk) q.1.m q.2.1 q.2.2
 far:∀ g,ov.ownBlock=some g→g∈Mk∧tgk g=99
section
variable {w w' wx wy:World} {M M' Mk My:List Nat} {tg tg' tgk tgy:Nat→Nat} {r d:Nat} {R R':RpD} {C:RpC} {T:List Nat} {out:List SentD} {ov:Value}
theorem RoSt.step (h:RoSt w M tg r d R out ov wx Mk tgk) (hx:Ext wx Mk tgk wy My tgy) (hk:Keeps (sel Mk tgk (List.range 30)) wx wy) (ha:RpAt wy My tgy r d R'):RoSt w M tg r d R' out ov wy My tgy:=by
 obtain ⟨qs,h1,h2,h3⟩:=h.qs
 refine ⟨ha,h.x.trans hx h.k.size,Ext.keeps h.x h.k hk,⟨qs,h1,row_other hk h2 (fun g hg=>by rw [(h.far g hg).2];simp),fun q hq L hL=>?_⟩,fun g hg=>?_⟩
 ·refine ((h3 q hq L hL).avoid (M':=L++My) (fun g hg=>?_)).keep hk (fun g hg=>.inl (List.mem_append_right _ (hx.sub g (mem_sel.1 hg).1)))
  rcases List.mem_append.1 hg with h4 | h4
  ·exact .inl (List.mem_append_left _ h4)
  ·rcases hx.new g h4 with h5 | h5
   ·exact .inl (List.mem_append_right _ h5)
   ·exact .inr h5
 ·obtain ⟨h4,h5⟩:=h.far g hg
  exact ⟨hx.sub g h4,(hx.tag g (hx.old g h4)).trans h5⟩
theorem RoSt.keep0 (h:RoSt w M tg r d R out ov wx Mk tgk) (hk:Keeps [] wx wy):RoSt w M tg r d R out ov wy Mk tgk:=
 h.step (Ext.refl h.x.lt hk.size) (hk.to_sel (by simp)) (h.ag.keep0 h.x.lt hk)
/-- A message more. -/
theorem RoSt.put {w1 w2:World} {s:SentD} {dv lv ov':Value} {o:Obj} {qs:List (SentD×Value×Value)} (h1:RoSt w M tg r d R' out ov w1 My tgy) (e1:qs.map (·.1)=out) (e2:w1.ownsRow w.heap.size 98 19 ov out.length (qs.flatMap srCell)) (e3:∀ q∈qs,∀ L,(∀ g∈L,g < w.heap.size)→MsgAt w1 (L++My) q.1.m q.2.1 q.2.2)
  (hds:∀ L,(∀ g∈L,g < w.heap.size)→MsgAt w1 (L++My) s.m dv lv) (hg:(w1.alloc o).grownBy w2 ov.ownBlock) (hat:ov'.ownBlock=ov.ownBlock∨ov'.ownBlock=some (w1.alloc o).heap.size)
  (hrw:w2.ownsRow w.heap.size 98 19 ov' (out.length + 1) (qs.flatMap srCell++srCell (s,dv,lv))) :
  ∃ M2 tg2,RoSt w M tg r d R' (out++[s]) ov' w2 M2 tg2∧Ext w1 My tgy w2 M2 tg2∧Keeps (sel My tgy [99]) w1 w2:=by
 have k12:Keeps ov.ownBlock.toList w1 w2:=(((Keeps.refl [] w1).alloc o).mono (by simp)).grown hg (fun g hg=>.inl (by simpa using hg))
 have hks:Keeps (sel My tgy [99]) w1 w2:=k12.to_sel (fun g hg=>.inl (by have:=h1.far g (by simpa using hg);simp [this.1,this.2]))
 have hx2 : Ext w1 My tgy w2 (ov'.ownBlock.toList ++ My) (fun x => if ov'.ownBlock = some x then 99 else tgy x) := Ext.add h1.x.lt hks.size _ _ (fun g hg => by
  refine ⟨?_,(hrw.lt g hg).2⟩
  rcases hat with h4 | h4
  ·exact .inl (h1.far g (by rw [← h4,hg]))
  ·rw [h4] at hg; injection hg with hg; subst hg; right; rw [World.size_alloc]; omega)
 obtain ⟨ho,C,hC,hv⟩:=h1.ag
 refine ⟨_,_,⟨⟨ho,C,hC,hv.keepT hx2 hks (by simp)⟩,h1.x.trans hx2 h1.k.size,h1.k.trans k12 (fun g hg=>.inr ?_),⟨qs++[(s,dv,lv)],by rw [List.map_append,e1];rfl,?_,fun q hq L hL=>?_⟩,fun g hg=>⟨List.mem_append_left _ (by simpa using hg),by simp [hg]⟩⟩,hx2,hks⟩
 ·exact (e2.lt g (by simpa using hg)).1
 ·rw [List.length_append,List.flatMap_append]
  have:=hrw
  simpa using this
 ·have hout:∀ q':SentD×Value×Value,MsgAt w1 (L++My) q'.1.m q'.2.1 q'.2.2→MsgAt w2 (L++(ov'.ownBlock.toList++My)) q'.1.m q'.2.1 q'.2.2:=fun q' hq'=>by
   refine (hq'.avoid (M':=L++(ov'.ownBlock.toList++My)) (fun g hg=>?_)).keep k12 (fun g hg=>.inl ?_)
   ·rcases List.mem_append.1 hg with h4 | h4
    ·exact .inl (List.mem_append_left _ h4)
    ·rcases hx2.new g h4 with h5 | h5
     ·exact .inl (List.mem_append_right _ h5)
     ·exact .inr h5
   ·exact List.mem_append_right _ (hx2.sub g (h1.far g (by simpa using hg)).1)
  rcases List.mem_append.1 hq with h4 | h4
  ·exact hout q (e3 q h4 L hL)
  ·simp at h4;subst h4
   exact hout _ (hds L hL)
theorem RoSt.start (h:RpAt w M tg r d R) (hM:∀ g∈M,g < w.heap.size):RoSt w M tg r d R [] (.slice none 0 0) w M tg:=
 ⟨h,Ext.refl hM (Nat.le_refl _),Keeps.refl _ _,⟨[],rfl,World.ownsRow_nil _ _ _ _,fun q hq=>(nomatch hq)⟩,fun g hg=>(nomatch hg)⟩
end
def ROPost (M:List Nat) (tg:Nat→Nat) (r d:Nat) (P:RpD×List SentD) (w:World) (e:Ending) (w':World):Prop:=∃ v M' tg',e=.returned v∧RoSt w M tg r d P.1 P.2 v w' M' tg'
section
variable {w:World} {M:List Nat} {tg:Nat→Nat} {r d:Nat} {R:RpD}
end
end Go.Proofs.YtambjickanapjaaGreatDoor.Vi
end
section
namespace Go.Proofs.YtambjickanapjaaGreatDoor.Vi
open Go.RowKit Base Mem Go.Shelf Tape
open Lead (VoteD VoteAt promiseS wonS accS medS termS newVote)
section
variable {w w' wx wy:World} {M M' Mk My:List Nat} {tg tg' tgk tgy:Nat→Nat} {r d:Nat} {R R':RpD} {C:RpC} {T:List Nat} {out:List SentD} {ov:Value}
/-- More messages. -/
theorem RoSt.grow {w1 w2:World} {ov':Value} {news:List (SentD×Value×Value)} {qs:List (SentD×Value×Value)} (h1:RoSt w M tg r d R' out ov w1 My tgy) (e1:qs.map (·.1)=out) (e2:w1.ownsRow w.heap.size 98 19 ov out.length (qs.flatMap srCell)) (e3:∀ q∈qs,∀ L,(∀ g∈L,g < w.heap.size)→MsgAt w1 (L++My) q.1.m q.2.1 q.2.2)
  (hds:∀ q∈news,∀ L,(∀ g∈L,g < w.heap.size)→MsgAt w1 (L++My) q.1.m q.2.1 q.2.2) (hg:w1.grownBy w2 ov.ownBlock) (hat:ov'.ownBlock=ov.ownBlock∨ov'.ownBlock=some w1.heap.size)
  (hrw:w2.ownsRow w.heap.size 98 19 ov' (out.length + news.length) (qs.flatMap srCell++news.flatMap srCell)) :
  ∃ M2 tg2,RoSt w M tg r d R' (out++news.map (·.1)) ov' w2 M2 tg2∧Ext w1 My tgy w2 M2 tg2∧Keeps (sel My tgy [99]) w1 w2:=by
 have k12:Keeps ov.ownBlock.toList w1 w2:=((Keeps.refl [] w1).mono (by simp)).grown hg (fun g hg=>.inl (by simpa using hg))
 have hks:Keeps (sel My tgy [99]) w1 w2:=k12.to_sel (fun g hg=>.inl (by have:=h1.far g (by simpa using hg);simp [this.1,this.2]))
 have hx2 : Ext w1 My tgy w2 (ov'.ownBlock.toList ++ My) (fun x => if ov'.ownBlock = some x then 99 else tgy x) := Ext.add h1.x.lt hks.size _ _ (fun g hg => by
  refine ⟨?_,(hrw.lt g hg).2⟩
  rcases hat with h4 | h4
  ·exact .inl (h1.far g (by rw [← h4,hg]))
  ·rw [h4] at hg; injection hg with hg; subst hg; right; omega)
 obtain ⟨ho,C,hC,hv⟩:=h1.ag
 refine ⟨_,_,⟨⟨ho,C,hC,hv.keepT hx2 hks (by simp)⟩,h1.x.trans hx2 h1.k.size,h1.k.trans k12 (fun g hg=>.inr ?_),⟨qs++news,by rw [List.map_append,e1],?_,fun q hq L hL=>?_⟩,fun g hg=>⟨List.mem_append_left _ (by simpa using hg),by simp [hg]⟩⟩,hx2,hks⟩
 ·exact (e2.lt g (by simpa using hg)).1
 ·rw [List.length_append,List.flatMap_append,List.length_map]
  exact hrw
 ·have hout:∀ q':SentD×Value×Value,MsgAt w1 (L++My) q'.1.m q'.2.1 q'.2.2→MsgAt w2 (L++(ov'.ownBlock.toList++My)) q'.1.m q'.2.1 q'.2.2:=fun q' hq'=>by
   refine (hq'.avoid (M':=L++(ov'.ownBlock.toList++My)) (fun g hg=>?_)).keep k12 (fun g hg=>.inl ?_)
   ·rcases List.mem_append.1 hg with h4 | h4
    ·exact .inl (List.mem_append_left _ h4)
    ·rcases hx2.new g h4 with h5 | h5
     ·exact .inl (List.mem_append_right _ h5)
     ·exact .inr h5
   ·exact List.mem_append_right _ (hx2.sub g (h1.far g (by simpa using hg)).1)
  rcases List.mem_append.1 hq with h4 | h4
  ·exact hout q (e3 q h4 L hL)
  ·exact hout _ (hds q h4 L hL)
/-- From an elder world on. -/
theorem RoSt.base {w1:World} {M1:List Nat} {tg1:Nat→Nat} (h:RoSt w1 M1 tg1 r d R out ov wx Mk tgk) (hx:Ext w M tg w1 M1 tg1) (hk:Keeps (sel M tg (List.range 30)) w w1):RoSt w M tg r d R out ov wx Mk tgk:=by
 obtain ⟨qs,h1,h2,h3⟩:=h.qs
 exact ⟨h.ag,hx.trans h.x hk.size,Ext.keeps hx hk h.k,⟨qs,h1,own_low3 h2 hk.size,fun q hq L hL=>h3 q hq L (fun g hg=>Nat.lt_of_lt_of_le (hL g hg) hk.size)⟩,h.far⟩
theorem ROPost.base {w1:World} {M1:List Nat} {tg1:Nat→Nat} {P:RpD×List SentD} {e:Ending} (h:ROPost M1 tg1 r d P w1 e w') (hx:Ext w M tg w1 M1 tg1) (hk:Keeps (sel M tg (List.range 30)) w w1):ROPost M tg r d P w e w':=by
 obtain ⟨v,M',tg',h1,h2⟩:=h
 exact ⟨v,M',tg',h1,h2.base hx hk⟩
end
section
variable {w w':World} {M:List Nat} {tg:Nat→Nat} {r d:Nat} {R:RpD} {C:RpC}
theorem RpV.setWord (h:RpV w M tg r R C) (hM:∀ g∈M,g < w.heap.size) {Y':List Nat} {y:WordD} {b':List UInt8} {k' n':Nat} (hz:StZ w' C.s C.p Y' M y C.d b' k' n') (hg:Grows C.Y w Y') (hk:Keeps (C.s :: C.p :: C.Y) w w') :
  ∃ M' tg',RpV w' M' tg' r { R with x:=y,b:=b',k:=k',n:=n' } { C with Y:=Y' }∧Ext w M tg w' M' tg'∧Keeps (sel M tg [2,3,4]) w w':=by
 have hks : Keeps (sel M tg [2, 3, 4]) w w' := hk.to_sel (fun g hg => by
  left
  rcases List.mem_cons.1 hg with rfl | hg
  ·exact ⟨h.sM,by rw [h.ts];simp⟩
  ·rcases List.mem_cons.1 hg with rfl | hg
   ·exact ⟨h.pM,by rw [h.tp];simp⟩
   ·exact ⟨(h.yM g hg).1, by rw [(h.yM g hg).2]; simp⟩)
 have hYl:∀ g∈Y',g < w'.heap.size:=fun g hg=>hz.old g (by simp [hg])
 have hx:Ext w M tg w' (Y'++M) (fun x=>if x∈Y' then 4 else tg x):=⟨fun g hg=>List.mem_append_right _ hg,fun g hg'=>by
  rcases List.mem_append.1 hg' with h1 | h1
  ·exact (hg g h1).imp (fun h2=>(h.yM g h2).1) id
  ·exact .inl h1,fun g hg'=>by
  show (if g∈Y' then 4 else tg g)=tg g
  split
  ·rename_i h1
   rcases hg g h1 with h2 | h2
   ·exact (h.yM g h2).2.symm
   ·omega
  ·rfl,hM,fun g hg'=>by
  rcases List.mem_append.1 hg' with h1 | h1
  ·exact hYl g h1
  ·exact Nat.lt_of_lt_of_le (hM g h1) hk.size⟩
 have hn:∀ g t,tg g=t→t≠2→t≠3→t≠4→g∉sel M tg [2,3,4]:=fun g t h1 h2 h3 h4 hm=>by
  have h5:=(mem_sel.1 hm).2
  simp at h5
  omega
 have hmt:∀ g t,g∈M∧tg g=t→g∈Y'++M∧(fun x=>if x∈Y' then 4 else tg x) g=t:=fun g t h1=>⟨hx.sub g h1.1,(hx.tag g (hM g h1.1)).trans h1.2⟩
 refine ⟨Y'++M,_,⟨hks.blk h.blk (hn _ _ h.tr (by omega) (by omega) (by omega)),?_,h.mc.keep hks (fun x hx'=>hn x _ (h.xM x hx').2 (by omega) (by omega) (by omega)),fun v hv=>?_,(hmt _ _ ⟨h.rM,h.tr⟩).1,(hmt _ _ ⟨h.rM,h.tr⟩).2,(hmt _ _ ⟨h.sM,h.ts⟩).1,(hmt _ _ ⟨h.sM,h.ts⟩).2,(hmt _ _ ⟨h.pM,h.tp⟩).1,(hmt _ _ ⟨h.pM,h.tp⟩).2,fun g hg'=>⟨List.mem_append_left _ hg',by show (if g∈Y' then 4 else tg g)=4;rw [if_pos hg']⟩,fun g hg'=>hmt _ _ (h.xM g hg'),h.nN⟩,hx,hks⟩
 ·obtain ⟨lv,hb,he,hr⟩:=hz
  refine ⟨lv,hb,he.avoid (fun g hg'=>?_),hr⟩
  rcases List.mem_append.1 hg' with h1 | h1
  ·exact .inl (List.mem_append_left _ h1)
  ·rcases List.mem_append.1 h1 with h2 | h2
   ·exact .inl (List.mem_append_left _ (by simp [h2]))
   ·exact .inl (List.mem_append_right _ h2)
 ·obtain ⟨h1,h2,h3⟩:=h.vt v hv
  exact ⟨(h1.more hx.new).keep hks (hn _ _ h3 (by omega) (by omega) (by omega)) (fun g hg'=>.inl (hx.sub g (mem_sel.1 hg').1)),hmt _ _ ⟨h2,h3⟩⟩
/-- What a write of the word leaves. -/
def RwPost (M:List Nat) (tg:Nat→Nat) (r:Nat) (C:RpC) (P:Bool×RpD) (w:World) (e:Ending) (w':World):Prop:=
 e=.returned (.bool P.1)∧∃ M' tg' Y',RpV w' M' tg' r P.2 { C with Y:=Y' }∧Ext w M tg w' M' tg'∧Keeps (sel M tg [2,3,4]) w w'
theorem RwPost.same (h:RpV w M tg r R C) (hM:∀ g∈M,g < w.heap.size) (hk:Keeps [] w w') (b:Bool):RwPost M tg r C (b,R) w (.returned (.bool b)) w':=
 ⟨rfl,M,tg,C.Y,h.keep0 hM hk,Ext.refl hM hk.size,hk.to_sel (by simp)⟩
theorem RwPost.kept (h:RpV w M tg r R C) (hM:∀ g∈M,g < w.heap.size) {y:WordD} {e:Ending} (hp:KpPostZ C.s C.p C.Y M y C.d R.b R.n w e w'):RwPost M tg r C (rpKeep R y) w e w':=by
 unfold KpPostZ at hp
 unfold rpKeep
 split at hp
 ·rename_i hc
  rw [if_pos hc]
  obtain ⟨rfl,Y',h1,h2,h3⟩:=hp
  obtain ⟨M',tg',a1,a2,a3⟩:=h.setWord hM h1 h2 h3
  exact ⟨rfl,M',tg',Y',a1,a2,a3⟩
 ·rename_i hc
  rw [if_neg hc]
  obtain ⟨rfl,h1⟩:=hp
  exact RwPost.same h hM h1 false
end
section
variable {w w':World} {M:List Nat} {tg:Nat→Nat} {r d:Nat} {R:RpD} {C:RpC}
theorem vlen_any {s p:Nat} {Y:List Nat} {x:WordD} {d k n:Nat} {b:List UInt8} (w:World) (h:StAt w s p Y x d b k n) :
  Calls Tryz.prog 71 #[.pointer (some ⟨s,0,none⟩)] w fun e w'=>e=.returned (.int .i64 x.log.length)∧w=w':=by
 obtain ⟨A,c,hb,he⟩:=h.lv
 obtain ⟨c0,c1,c2,c3,hlt⟩:=blk4 hb
 clear h hb he
 go_enter Tryz.func71,Tryz.ntmps71
 go_wp2
 go_ret
 exact ⟨rfl,rfl⟩
end
theorem own_one {w:World} {base:Nat} (hb:base≤w.heap.size) (e:TypeId) (cs:Array Value):(w.alloc (.cells cs e)).ownsRow base e cs.size (.slice (some ⟨w.heap.size,0,none⟩) 1 1) 1 cs.toList:=by
 refine ⟨by simp,.inr ⟨w.heap.size,1,cs,rfl,hb,heap_alloc_new w _,Nat.le_refl _,by unfold maxLen;omega,by simp,List.take_of_length_le (by simp)⟩⟩
section
variable {w w':World} {M:List Nat} {tg:Nat→Nat} {r d:Nat} {R:RpD} {C:RpC}
theorem RoSt.one (h:RpAt w M tg r d R) (hM:∀ g∈M,g < w.heap.size) (s:SentD) (h1:s.m.en.ds=[]) (h2:s.m.log=[]):ROPost M tg r d (R,[s]) w (.returned (.slice (some ⟨w.heap.size,0,none⟩) 1 1)) (w.alloc (.cells (sCell s.dst s.m (.slice none 0 0) (.slice none 0 0)).toArray 98)):=by
 have hk:Keeps [] w (w.alloc (.cells (sCell s.dst s.m (.slice none 0 0) (.slice none 0 0)).toArray 98)):=(Keeps.refl _ _).alloc _
 obtain ⟨a1,a2⟩:=h.more hM hk [w.heap.size] (fun g hg=>by simp at hg;subst hg;exact ⟨Nat.le_refl _,by rw [World.size_alloc];omega⟩)
 refine ⟨_,_,_,rfl,a1,a2,hk.to_sel (by simp),⟨[(s,.slice none 0 0,.slice none 0 0)],rfl,own_one (Nat.le_refl _) _ _,fun q hq L hL=>?_⟩,fun g hg=>?_⟩
 ·simp at hq;subst hq
  exact ⟨by rw [h1];exact Ds.nil _ _,by rw [h2];exact Ens.nil _ _⟩
 ·injection hg with hg
  subst hg
  exact ⟨by simp,by simp⟩
end
section
variable {w w':World} {M:List Nat} {tg:Nat→Nat} {r d:Nat} {R:RpD} {C:RpC}
theorem ROPost.nil {R':RpD} {M':List Nat} {tg':Nat→Nat} (h:RpAt w' M' tg' r d R') (hx:Ext w M tg w' M' tg') (hk:Keeps (sel M tg (List.range 30)) w w'):ROPost M tg r d (R',[]) w (.returned (.slice none 0 0)) w':=
 ROPost.base (w1:=w') ⟨_,M',tg',rfl,RoSt.start h hx.lt⟩ hx hk
end
section
variable {w w':World} {M:List Nat} {tg:Nat→Nat} {r d:Nat} {R:RpD} {C:RpC}
end
end Go.Proofs.YtambjickanapjaaGreatDoor.Vi
end
section
namespace Go.Proofs.YtambjickanapjaaGreatDoor.Vi
open Go.RowKit Base Mem Go.Shelf Tape
open Lead (VoteD VoteAt promiseS wonS accS medS termS newVote taken)
section
variable {w w':World} {M:List Nat} {tg:Nat→Nat} {r d:Nat} {R:RpD} {C:RpC}
/-- Messages to all, beside a replica. -/
theorem AllPost.ro {out:List SentD} {e:Ending} (h:RpAt w M tg r d R) (hM:∀ g∈M,g < w.heap.size) (hp:AllPost out w e w'):ROPost M tg r d (R,out) w e w':=by
 obtain ⟨ov,qs,rfl,hq,hs,hb⟩:=hp
 have hsr:=hs M hM
 have hk:Keeps [] w w':=Keeps.of_below (M:=[]) hb
 obtain ⟨ho,C,hC,hv⟩:=h
 have hx:=Ext.add (tg:=tg) hM hk.size ov.ownBlock 99 (fun g hg=>⟨.inr (hsr.row.lt g hg).1,(hsr.row.lt g hg).2⟩)
 refine ⟨ov,_,_,rfl,⟨ho,C,hC,hv.keepT (T:=[]) hx (hk.to_sel (by simp)) (by simp)⟩,hx,hk.to_sel (by simp),⟨qs,hq,by rw [← hq,List.length_map];exact hsr.row,fun q hq' L hL=>hsr.val q hq' _ (fun g hg=>?_)⟩,fun g hg=>⟨List.mem_append_left _ (by simpa using hg),by simp [hg]⟩⟩
 rcases List.mem_append.1 hg with h1 | h1
 ·exact .inl (hL g h1)
 ·rcases List.mem_append.1 h1 with h2 | h2
  ·exact .inr (.inr (by simpa using h2))
  ·exact .inr (.inl h2)
end
end Go.Proofs.YtambjickanapjaaGreatDoor.Vi
end
section
namespace Go.Proofs.YtambjickanapjaaGreatDoor.Vi
open Go.RowKit Base Mem Go.Shelf Tape
open Lead (VoteD VoteAt promiseS wonS accS medS termS newVote)
section
variable {w w':World} {M:List Nat} {tg:Nat→Nat} {r d:Nat} {R:RpD} {C:RpC}
end
section
variable {w w':World} {M:List Nat} {tg:Nat→Nat} {r d:Nat} {R:RpD} {C:RpC}
end
section
variable {w w':World} {Y:List Nat} {d k:Nat} {b:List UInt8}
def RnPost (Y:List Nat) (d:Nat) (R:RpD) (w:World) (e:Ending) (w':World):Prop:=
 ∃ r M tg,e=.returned (.pointer (some ⟨r,0,none⟩))∧RpAt w' M tg r d R∧(∀ g∈M,g∈Y∨w.heap.size≤g)∧(∀ g∈M,g < w'.heap.size)∧(∀ g∈Y,g∈M∧tg g=4)∧Keeps Y w w'∧w.heap.size≤r
theorem mc_core {g:Nat} {X:List Nat} (h:McAt w g X mc0 0):∃ X',McAt w g X' mc0 0∧∀ x∈X',x∈X∧x < w.heap.size:=by
 obtain ⟨c,DH,h⟩:=h
 refine ⟨c.core g,⟨c,DH,h.b0,h.sm,h.m2,h.m3,h.nd,h.sh,h.no,h.dj,fun x hx=>hx,fun kl hk=>absurd rfl hk⟩,fun x hx=>⟨h.inX x hx,?_⟩⟩
 have a1:=h.b0.lt
 have a2:=h.sm.1.lt
 have a3:=h.sm.2.1.lt
 have a4:=h.m2.lt
 have a5:=h.m3.lt
 simp only [McC.core,List.mem_cons,List.not_mem_nil,or_false] at hx
 rcases hx with rfl | rfl | rfl | rfl | rfl <;> assumption
theorem rpnew_any (node nodes:Int) (h1:1≤nodes) (h2:nodes≤8) (h3:0≤node) (h4:node < nodes) (hd:DkAt w Y d b k) (mx:Int) (hm:w.cell? ⟨0,0,none⟩=some (.int .i64 mx)) (h0:0∉Y) :
  Calls Tryz.prog 63 #[.int .i64 node,.int .i64 nodes,.pointer (some ⟨d,0,none⟩)] w fun e w'=>RnPost Y d (rpNew node nodes b) w e w':=by
 have HV:=Lib.hid (vopen_any Y d k b w hd mx hm h0)
 have e1:decide (nodes < 1)=false:=decide_eq_false (by omega)
 have e2:decide (8 < nodes)=false:=decide_eq_false (by omega)
 have e3:decide (node < 0)=false:=decide_eq_false (by omega)
 have e4:decide (nodes≤node)=false:=decide_eq_false (by omega)
 have HB:=Lib.hid (⟨⟨h1,h2⟩,h3,h4⟩:(1≤nodes∧nodes≤8)∧0≤node∧node < nodes)
 have HY:Hid (∀ g∈Y,g < w.heap.size):=by obtain ⟨_,_,_,_,_,_,_,h⟩:=hd;exact h
 clear h1 h2 h3 h4 hd hm h0
 go_enter Tryz.func63,Tryz.ntmps63
 go_wp2_with fail
 refine HV.out.mono ?_
 rintro e w1 ⟨s,p,rfl,hst,hk1,hs,hp⟩
 have Hst:=Lib.hid hst;have Hk1:=Lib.hid hk1;have Hs:=Lib.hid hs;have Hp:=Lib.hid hp
 clear hst hk1 hs hp HV
 go_wp2_with fail
 refine (mcnew_any w1).mono ?_
 rintro e w2 ⟨g,X,rfl,hmc,hX,hb⟩
 have Hmc:=Lib.hid hmc;have HXn:=Lib.hid hX;have Hb:=Lib.hid hb
 clear hmc hX hb
 go_wp2_with fail
 go_ret
 clear e1 e2 e3 e4
 obtain ⟨w3,hw3⟩:∃ w3,w3=w2.alloc (.cells #[.int .i64 node,.int .i64 nodes,.pointer (some ⟨s,0,none⟩),.pointer (some ⟨g,0,none⟩),.int .i64 0,.pointer none,.bool false,.int .i64 0] 232):=⟨_,rfl⟩
 have hk3:Keeps [] w2 w3:=by rw [hw3];exact (Keeps.refl _ _).alloc _
 have hB:Blk w3 w2.heap.size 232 #[.int .i64 node,.int .i64 nodes,.pointer (some ⟨s,0,none⟩),.pointer (some ⟨g,0,none⟩),.int .i64 0,.pointer none,.bool false,.int .i64 0]:=by rw [hw3];exact Blk.new w2 _ _
 show RnPost Y d (rpNew node nodes b) w (.returned (.pointer (some ⟨w2.heap.size,0,none⟩))) (w2.alloc _)
 rw [← hw3]
 clear hw3
 have hk2:Keeps [] w1 w2:=Keeps.of_below (M:=[]) Hb.out
 obtain ⟨X',hmc,hX'⟩:=mc_core Hmc.out
 have z12:=hk2.size
 have z01:=Hk1.out.size
 have z23:=hB.lt
 have ls:=Hst.out.old s (by simp)
 have lp:=Hst.out.old p (by simp)
 have hs:=Hs.out
 have hp:=Hp.out
 have lX:∀ x∈X',w1.heap.size≤x∧x < w2.heap.size:=fun x hx=>⟨HXn.out x (hX' x hx).1,(hX' x hx).2⟩
 obtain ⟨lv,hb1,he1,hl1,hsY,hwk⟩:=Hst.out
 have hsp:s≠p:=fun e=>hsY (by rw [e];simp)
 have hM:∀ x∈w2.heap.size :: s :: p :: (Y++X'),x∈s :: p :: Y∨w1.heap.size≤x:=fun x hx=>by
  rcases List.mem_cons.1 hx with rfl | hx
  ·exact .inr z12
  ·rcases List.mem_cons.1 hx with rfl | hx
   ·exact .inl (by simp)
   ·rcases List.mem_cons.1 hx with rfl | hx
    ·exact .inl (by simp)
    ·rcases List.mem_append.1 hx with hx | hx
     ·exact .inl (by simp [hx])
     ·exact .inr (lX x hx).1
 have hZ : StZ w1 s p Y (w2.heap.size :: s :: p :: (Y ++ X')) (lastV word0 (scanS b).1) d (b.take (scanS b).2) (scanS b).2 (scanS b).1.length := ⟨lv, hb1, he1.avoid (fun x hx => by
  rcases List.mem_append.1 hx with hx | hx
  ·exact .inl hx
  ·exact hM x hx), hl1, hsY, hwk⟩
 refine ⟨w2.heap.size,w2.heap.size :: s :: p :: (Y++X'),fun x=>if x=w2.heap.size then 1 else if x=s then 2 else if x=p then 3 else if x∈X' then 5 else 4,rfl,⟨?_,⟨s,p,g,d,Y,X',0,0⟩,rfl,⟨hB,(hZ.keep0 hk2).keep0 hk3,hmc.keep hk3 (by simp),fun v hv=>(nomatch hv),by simp,by simp,by simp,?_,by simp,?_,fun x hx=>⟨by simp [hx],?_⟩,fun x hx=>⟨by simp [hx],?_⟩,Nat.zero_le _⟩⟩,fun x hx=>?_,fun x hx=>?_,fun x hx=>⟨by simp [hx],?_⟩,(Hk1.out.trans hk2 (by simp)).trans hk3 (by simp),by omega⟩
 ·exact ⟨HB.out.1,HB.out.2,⟨Nat.zero_le _,Nat.zero_le _⟩,Nat.zero_le _,fun kl=>by show (mc00.get kl).f≤64 * ((0:Nat):Int);exact Int.le_refl _,fun v hv=>(nomatch hv),fun hl=>(nomatch hl)⟩
 ·show (if s=w2.heap.size then 1 else if s=s then 2 else _)=2
  rw [if_neg (by omega),if_pos rfl]
 ·show (if p=w2.heap.size then 1 else if p=s then 2 else if p=p then 3 else _)=3
  rw [if_neg (by omega),if_neg (fun e=>hsp e.symm),if_pos rfl]
 ·have h1:=HY.out x hx
  show (if x=w2.heap.size then 1 else if x=s then 2 else if x=p then 3 else if x∈X' then 5 else 4)=4
  rw [if_neg (by omega),if_neg (by omega),if_neg (by omega),if_neg (fun hm=>by have:=lX x hm;omega)]
 ·have h1:=lX x hx
  show (if x=w2.heap.size then 1 else if x=s then 2 else if x=p then 3 else if x∈X' then 5 else 4)=5
  rw [if_neg (by omega),if_neg (by omega),if_neg (by omega),if_pos hx]
 ·rcases List.mem_cons.1 hx with rfl | hx
  ·exact .inr (by omega)
  ·rcases List.mem_cons.1 hx with rfl | hx
   ·exact .inr hs
   ·rcases List.mem_cons.1 hx with rfl | hx
    ·exact .inr hp
    ·rcases List.mem_append.1 hx with hx | hx
     ·exact .inl hx
     ·exact .inr (by have:=lX x hx;omega)
 ·rcases List.mem_cons.1 hx with rfl | hx
  ·exact z23
  ·rcases List.mem_cons.1 hx with rfl | hx
   ·omega
   ·rcases List.mem_cons.1 hx with rfl | hx
    ·omega
    ·rcases List.mem_append.1 hx with hx | hx
     ·have:=HY.out x hx;omega
     ·have:=lX x hx;omega
 ·have h1:=HY.out x hx
  show (if x=w2.heap.size then 1 else if x=s then 2 else if x=p then 3 else if x∈X' then 5 else 4)=4
  rw [if_neg (by omega),if_neg (by omega),if_neg (by omega),if_neg (fun hm=>by have:=lX x hm;omega)]
end
end Go.Proofs.YtambjickanapjaaGreatDoor.Vi
end
section
namespace Go.Proofs.YtambjickanapjaaGreatDoor.Vi
open Go.RowKit Base Mem
def stepP (h:Nat) (x:UInt8):Nat:=((h ^^^ x.toNat) * 1099511628211) % 18446744073709551616
attribute [irreducible] stepP
end Go.Proofs.YtambjickanapjaaGreatDoor.Vi
end
section
namespace Go.Proofs.YtambjickanapjaaGreatDoor.Vi
open Go.RowKit Base Mem Tape
open Go.Maps (Keyed)
open Go.WideMaps (KeyLaw)
open Go.ChangeMaps (setBlock heap_setBlock_same)
/-- An Ident's key. -/
noncomputable def ik (a s n:Int):Lit:=(keyOf Tryz.prog 33 (.agg #[.int .i64 a,.int .i64 s,.int .i64 n])).getD (.bool false)
attribute [irreducible] ik
section
variable {H:Type} {P:Program} {k e t:TypeId} {q:IntKind} {w:World} {b n:Nat} {D:DataW H}
end
end Go.Proofs.YtambjickanapjaaGreatDoor.Vi
end
section
namespace Go.Proofs.YtambjickanapjaaGreatDoor.Vi
open Go.RowKit Base Mem Go.Shelf Tape
open Go.Maps (Keyed)
/-- An agent. tries: how often a batch was sent, and when it is sent again; asked: the tags that wait for an answer (none: a read); cn: how many entries its maps were given. -/
structure AgD where
 node:Int
 reps:Int
 now:Int
 tag:Int
 last:Int
 bk:BkD
 tries:Int→Int→Option (Int×Int)
 asked:List (Int×Option (Int×Int))
 b:List UInt8
 k:Nat
 n:Nat
 cn:Nat
def zTry:Value:=.agg #[.int .i64 0,.int .i64 0]
def tryV:Option (Int×Int)→Value
 | none=>zTry
 | some (n,t)=>.agg #[.int .i64 n,.int .i64 t]
def zId:Value:=.agg #[.int .i64 0,.int .i64 0,.int .i64 0]
def idV (node:Int):Option (Int×Int)→Value
 | none=>zId
 | some (s,q)=>.agg #[.int .i64 node,.int .i64 s,.int .i64 q]
def look (asked:List (Int×Option (Int×Int))) (tag:Int):Option (Option (Int×Int)):=(asked.find? fun p=>p.1 == tag).map (·.2)
def tkey (a:Int):Lit:=.int .i64 a
/-- The map of tries says this. -/
def TrOk (D:DataW Value) (node:Int) (tries:Int→Int→Option (Int×Int)):Prop:=∀ s q,I64 s→I64 q→D.atKey (ik node s q) (.held zTry)=.held (tryV (tries s q))
/-- The map of tags says this. -/
def AsOk (D:DataW Value) (node:Int) (asked:List (Int×Option (Int×Int))):Prop:=∀ t,I64 t→(Maps.has D (tkey t)=(look asked t).isSome)∧D.atKey (tkey t) (.held zId)=.held (idV node ((look asked t).getD none))
def AgOk (A:AgD):Prop:=(0≤A.node∧A.node < 8)∧(1≤A.reps∧A.reps≤8)∧(0≤A.last∧A.last < A.reps)∧(0≤A.now∧A.now≤1099511627776)∧1≤A.bk.ep∧(A.bk.ep * 4294967296≤A.tag∧A.tag≤A.bk.ep * 4294967296 + A.cn)∧A.bk.cuts.length≤A.n∧A.cn≤1099511627776∧
 (∀ s q x,A.tries s q=some x→0≤x.1∧x.1≤A.cn∧0≤x.2∧x.2≤2199023255552)∧(∀ p∈A.asked,A.bk.ep * 4294967296 < p.1∧p.1≤A.tag∧∀ x,p.2=some x→0≤x.1∧x.1 < 4∧1≤x.2∧x.2≤9223372036854775807)∧(A.asked.map (·.1)).Nodup
structure AgC where
 s:Nat
 p:Nat
 tb:Nat
 ab:Nat
 d:Nat
 Y:List Nat
 Nt:Nat
 Na:Nat
 Dt:DataW Value
 Da:DataW Value
def agCells (A:AgD) (C:AgC):Array Value:=#[.int .i64 A.node,.int .i64 A.reps,.pointer (some ⟨C.p,0,none⟩),.pointer (some ⟨C.s,0,none⟩),.int .i64 A.now,.int .i64 A.tag,.int .i64 A.last,.map (some C.tb),.map (some C.ab)]
structure AgV (w:World) (M:List Nat) (tg:Nat→Nat) (a:Nat) (A:AgD) (C:AgC):Prop where
 blk:Blk w a 156 (agCells A C)
 aM:a∈M
 ta:tg a=20
 bk:BkAt w M tg C.s A.bk
 lg:LgAt w C.p C.Y C.d A.b A.k A.n
 pM:C.p∈M
 tp:tg C.p=21
 yM:∀ g∈C.Y,g∈M∧tg g=22
 tr:w.ownsMap Tryz.prog 33 heldElem C.tb C.Nt C.Dt
 tbM:C.tb∈M
 ttb:tg C.tb=23
 as_:w.ownsMap Tryz.prog 2 heldElem C.ab C.Na C.Da
 abM:C.ab∈M
 tab:tg C.ab=24
 trD:TrOk C.Dt A.node A.tries
 asD:AsOk C.Da A.node A.asked
 nt:C.Nt≤A.cn
 na:C.Na≤A.cn
def AgAt (w:World) (M:List Nat) (tg:Nat→Nat) (a d:Nat) (A:AgD):Prop:=AgOk A∧∃ C,C.d=d∧AgV w M tg a A C
section
variable {w w':World} {M M':List Nat} {tg tg':Nat→Nat} {a d:Nat} {A:AgD} {C:AgC} {T:List Nat}
theorem Ext.addL (hM:∀ g∈M,g < w.heap.size) (hw:w.heap.size≤w'.heap.size) (L:List Nat) (t:Nat) (hr:∀ g∈L,(g∈M∧tg g=t∨w.heap.size≤g)∧g < w'.heap.size):Ext w M tg w' (L++M) (fun x=>if x∈L then t else tg x):=
 ⟨fun g hg=>List.mem_append_right _ hg,fun g hg=>by
  rcases List.mem_append.1 hg with h | h
  ·rcases (hr g h).1 with h1 | h1
   ·exact .inl h1.1
   ·exact .inr h1
  ·exact .inl h,fun g hg=>by
  show (if g∈L then t else tg g)=tg g
  split
  ·rename_i h
   rcases (hr g h).1 with h1 | h1
   ·exact h1.2.symm
   ·omega
  ·rfl,hM,fun g hg=>by
  rcases List.mem_append.1 hg with h | h
  ·exact (hr g h).2
  ·exact Nat.lt_of_lt_of_le (hM g h) hw⟩
theorem map_other {k:TypeId} {b n:Nat} {D:DataW Value} (kp:Keeps (sel M tg T) w w') (h:w.ownsMap Tryz.prog k heldElem b n D) (ht:tg b∉T):w'.ownsMap Tryz.prog k heldElem b n D:=om_keep h kp (fun hm=>ht (mem_sel.1 hm).2)
theorem lg_other (kp : Keeps (sel M tg T) w w') (h : AgV w M tg a A C) (h1 : 21 ∉ T) (h2 : 22 ∉ T) : LgAt w' C.p C.Y C.d A.b A.k A.n := h.lg.keep kp (fun g hg hm => by
 rcases List.mem_cons.1 hg with rfl | hg
 ·exact h1 (by have:=(mem_sel.1 hm).2;rwa [h.tp] at this)
 ·exact h2 (by have := (mem_sel.1 hm).2; rwa [(h.yM g hg).2] at this))
/-- All but the book turned not. -/
theorem AgV.rest (h:AgV w M tg a A C) (x:Ext w M tg w' M' tg') (kp:Keeps (sel M tg T) w w') (hT:∀ t∈T,t < 20) {S':BkD} (hb:BkAt w' M' tg' C.s S'):AgV w' M' tg' a { A with bk:=S' } C:=by
 have n:∀ {t},20≤t→t∉T:=fun {t} h1 h2=>by have:=hT t h2;omega
 exact ⟨blk_other kp h.blk (by rw [h.ta];exact n (by omega)),x.sub _ h.aM,by rw [x.tag _ (x.old _ h.aM)];exact h.ta,hb,(show LgAt w' C.p C.Y C.d A.b A.k A.n from lg_other kp h (n (by omega)) (n (by omega))),x.sub _ h.pM,by rw [x.tag _ (x.old _ h.pM)];exact h.tp,
  fun g hg=>⟨x.sub _ (h.yM g hg).1,by rw [x.tag _ (x.old _ (h.yM g hg).1)];exact (h.yM g hg).2⟩,map_other kp h.tr (by rw [h.ttb];exact n (by omega)),x.sub _ h.tbM,by rw [x.tag _ (x.old _ h.tbM)];exact h.ttb,
  map_other kp h.as_ (by rw [h.tab];exact n (by omega)),x.sub _ h.abM,by rw [x.tag _ (x.old _ h.abM)];exact h.tab,h.trD,h.asD,h.nt,h.na⟩
theorem AgV.keep0 (h:AgV w M tg a A C) (hM:∀ g∈M,g < w.heap.size) (k:Keeps [] w w'):AgV w' M tg a A C:=
 h.rest (T:=[]) (Ext.refl hM k.size) (k.to_sel (by simp)) (by simp) (h.bk.keep0 hM k)
theorem AgAt.keep0 (h:AgAt w M tg a d A) (hM:∀ g∈M,g < w.heap.size) (k:Keeps [] w w'):AgAt w' M tg a d A:=by
 obtain ⟨ho,C,e,hv⟩:=h
 exact ⟨ho,C,e,hv.keep0 hM k⟩
/-- The log turned. -/
theorem AgV.setLg (h:AgV w M tg a A C) (hM:∀ g∈M,g < w.heap.size) {Y':List Nat} {b':List UInt8} {k' n':Nat} (hl:LgAt w' C.p Y' C.d b' k' n') (hg:Grows C.Y w Y') (kp:Keeps (C.p :: C.Y) w w') :
  ∃ M' tg',AgV w' M' tg' a { A with b:=b',k:=k',n:=n' } { C with Y:=Y' }∧Ext w M tg w' M' tg'∧Keeps (sel M tg [21,22]) w w':=by
 have ks : Keeps (sel M tg [21, 22]) w w' := kp.to_sel (fun g hg => by
  rcases List.mem_cons.1 hg with rfl | hg
  ·exact .inl ⟨h.pM,by rw [h.tp];simp⟩
  ·exact .inl ⟨(h.yM g hg).1, by rw [(h.yM g hg).2]; simp⟩)
 have hx : Ext w M tg w' (Y' ++ M) (fun x => if x ∈ Y' then 22 else tg x) := Ext.addL hM ks.size Y' 22 (fun g hgY => by
  refine ⟨?_,hl.2.1.old g hgY⟩
  rcases hg g hgY with h1 | h1
  ·exact .inl (h.yM g h1)
  ·exact .inr h1)
 refine ⟨_,_,⟨blk_other ks h.blk (by rw [h.ta];simp),hx.sub _ h.aM,?_,h.bk.keep hx ks (by simp),hl,hx.sub _ h.pM,?_,fun g hgY=>⟨List.mem_append_left _ hgY,by simp [hgY]⟩,map_other ks h.tr (by rw [h.ttb];simp),hx.sub _ h.tbM,?_,map_other ks h.as_ (by rw [h.tab];simp),hx.sub _ h.abM,?_,h.trD,h.asD,h.nt,h.na⟩,hx,ks⟩
 ·exact (hx.tag _ (hM _ h.aM)).trans h.ta
 ·exact (hx.tag _ (hM _ h.pM)).trans h.tp
 ·exact (hx.tag _ (hM _ h.tbM)).trans h.ttb
 ·exact (hx.tag _ (hM _ h.abM)).trans h.tab
end
end Go.Proofs.YtambjickanapjaaGreatDoor.Vi
end
section
namespace Go.Proofs.YtambjickanapjaaGreatDoor.Vi
open Go.RowKit Base Mem
/-- Why a record may not be written: it is too long, or the disk is full. -/
def waCode (l b:List UInt8):Int:=if 65536 < l.length then 3 else if 1048576 < b.length + (frameL l).length then 24 else 0
def WxPost (p:Nat) (Y:List Nat) (d:Nat) (b l:List UInt8) (k n:Nat) (sync:Bool) (w:World) (e:Ending) (w':World):Prop:=
 e=.returned (.int .i64 (waCode l b))∧((waCode l b=0∧∃ Y',LgAt w' p Y' d (b++frameL l) (if sync=true then b.length + (frameL l).length else k) (n + 1)∧Grows Y w Y'∧Keeps (p :: Y) w w')∨(waCode l b≠0∧Keeps [] w w'))
theorem wappendx_any (p:Nat) (Y:List Nat) (d k n:Nat) (b:List UInt8) (w:World) (h:LgAt w p Y d b k n) (v:Value) (l:List UInt8) (hv:Bs w [] v l) :
  Calls Tryz.prog 107 #[.pointer (some ⟨p,0,none⟩),v] w fun e w'=>WxPost p Y d b l k n false w e w':=by
 have hle:=h.2.1.le
 have hfl:=frameL_len l
 have hnb:=h.2.2.2
 have H:=Lib.hid h
 have hp:=h.1.lt
 by_cases hlong:65536 < l.length
 ·have HP:Hid (∀ W,Keeps [] w W→WxPost p Y d b l k n false w (.returned (.int .i64 3)) W):=fun W h=>by
   have hw:waCode l b=3:=by unfold waCode;rw [if_pos hlong]
   exact ⟨by rw [hw],.inr ⟨by rw [hw];decide,h⟩⟩
  have hf:=Lib.hid (frame_long v l w hv hlong)
  obtain ⟨A,c,rfl,_⟩:=hv.len
  clear h hv
  go_enter Tryz.func107,Tryz.ntmps107
  go_wp2_with fail
  refine hf.out.mono ?_
  rintro e w1 ⟨rfl,rfl⟩
  go_wp2
  go_ret
  exact HP.out _ (Keeps.refl _ _)
 ·have hf:=Lib.hid (frame_any v l w hv (by omega))
  obtain ⟨A,c,rfl,_⟩:=hv.len
  have hul:=Lib.uvarint_length64 (x:=l.length) (by omega)
  clear hv h
  have HP0:Hid (∀ e W,b.length + (frameL l).length≤1048576→(e=.returned (.int .i64 0)∧∃ Y',LgAt W p Y' d (b++frameL l) k (n + 1)∧Grows Y w Y'∧Keeps (p :: Y) w W)→WxPost p Y d b l k n false w e W):=fun e W hr h=>by
   have hw:waCode l b=0:=by unfold waCode;rw [if_neg hlong,if_neg (by omega)]
   exact ⟨by rw [hw];exact h.1,.inl ⟨hw,h.2⟩⟩
  have HP1:Hid (∀ W,¬ b.length + (frameL l).length≤1048576→Keeps [] w W→WxPost p Y d b l k n false w (.returned (.int .i64 24)) W):=fun W hr h=>by
   have hw:waCode l b=24:=by unfold waCode;rw [if_neg hlong,if_pos (by omega)]
   exact ⟨by rw [hw],.inr ⟨by rw [hw];decide,h⟩⟩
  have HFr:Hid (∀ e W,FrPost l w e W→∃ A c,e=.returned (.tuple #[.slice A (frameL l).length c,.int .i64 0])∧(∀ M,(∀ g∈M,g < w.heap.size)→Bs W M (.slice A (frameL l).length c) (frameL l))∧Below w.heap.size w W):=fun _ _ h=>h
  generalize frameL l=x at *
  have hx5:5≤x.length:=by have:=Lib.uvarint_pos l.length;omega
  have hx6:x.length≤65600:=by omega
  clear hfl hul
  go_enter Tryz.func107,Tryz.ntmps107
  go_wp2_with fail
  refine hf.out.mono ?_
  intro e w1 hfp
  obtain ⟨A1,c1,rfl,hB,hb1⟩:=HFr.out _ _ hfp
  have Hk1:=Lib.hid (Keeps.of_below (M:=[]) hb1)
  have HB:=Lib.hid (hB [] (by simp))
  have HL1:=Lib.hid (H.out.keep0 Hk1.out)
  have q0:=HL1.out.1.cell 0
  simp only [List.getElem?_toArray,List.getElem?_cons_zero] at q0
  clear hB hb1 hf
  simp only []
  go_wp2_with fail
  refine (dkappend_any w1 HL1.out.2.1 _ x [] HB.out (by omega) (by omega)).mono ?_
  intro e w2 hpost
  by_cases hr:b.length + x.length≤1048576
  ·unfold DaPost at hpost
   rw [if_pos hr] at hpost
   obtain ⟨rfl,Y',hD,hG,hK⟩:=hpost
   have hB2:Blk w2 p 246 #[.pointer (some ⟨d,0,none⟩),.int .i64 n]:=hK.blk HL1.out.1 HL1.out.2.2.1
   have q1:=hB2.cell 1
   have f1:=hB2.frozen 1
   simp only [List.getElem?_toArray,List.getElem?_cons_succ,List.getElem?_cons_zero] at q1
   have hR:Hid (WxPost p Y d b l k n false w (.returned (.int .i64 0)) (w2.setCell ⟨p,1,none⟩ (.int .i64 ((n:Int) + 1)))):=by
    refine HP0.out _ _ hr ⟨rfl,Y',?_,?_,?_⟩
    ·have hk3:Keeps [p] w2 (w2.setCell ⟨p,1,none⟩ (.int .i64 ((n:Int) + 1))):=(Keeps.refl _ _).setCell (by simp) _
     have hpY:p∉Y':=fun hm=>by
      rcases hG p hm with h | h
      ·exact HL1.out.2.2.1 h
      ·have:=Hk1.out.size;omega
     refine ⟨?_,hD.keep hk3 (fun g hg=>by rintro hm;simp at hm;subst hm;exact hpY hg),hpY,by rw [List.length_append];omega⟩
     have:=hB2.set_ 1 (.int .i64 ((n:Int) + 1))
     simpa using this
    ·intro g hg
     rcases hG g hg with h | h
     ·exact .inl h
     ·exact .inr (Nat.le_trans Hk1.out.size h)
    ·exact (((Hk1.out.mono (M':=p :: Y) (by simp)).trans hK (fun g hg=>.inl (by simp [hg]))).setCell (by simp) _)
   clear hD hG hK hB2
   go_wp2
   go_ret
   exact hR.out
  ·unfold DaPost at hpost
   rw [if_neg hr] at hpost
   obtain ⟨rfl,rfl⟩:=hpost
   have hR:Hid (WxPost p Y d b l k n false w (.returned (.int .i64 24)) w1):=HP1.out _ hr Hk1.out
   go_wp2
   go_ret
   exact hR.out
theorem wwritex_any (p:Nat) (Y:List Nat) (d k n:Nat) (b:List UInt8) (w:World) (h:LgAt w p Y d b k n) (v:Value) (l:List UInt8) (hv:Bs w [] v l) :
  Calls Tryz.prog 80 #[.pointer (some ⟨p,0,none⟩),v] w fun e w'=>WxPost p Y d b l k n true w e w':=by
 have ha:=Lib.hid (wappendx_any p Y d k n b w h v l hv)
 obtain ⟨A,c,rfl,_⟩:=hv.len
 have hlen:(b++frameL l).length=b.length + (frameL l).length:=List.length_append
 clear h hv
 have HA:Hid (∀ e W,WxPost p Y d b l k n false w e W→e=.returned (.int .i64 (waCode l b))∧((waCode l b=0∧∃ Y',LgAt W p Y' d (b++frameL l) k (n + 1)∧Grows Y w Y'∧Keeps (p :: Y) w W)∨(waCode l b≠0∧Keeps [] w W))):=fun e W h=>by unfold WxPost at h;exact h
 have HP0:Hid (waCode l b=0→∀ W,(∃ Y',LgAt W p Y' d (b++frameL l) (b.length + (frameL l).length) (n + 1)∧Grows Y w Y'∧Keeps (p :: Y) w W)→WxPost p Y d b l k n true w (.returned (.int .i64 (waCode l b))) W):=fun h0 W h=>⟨rfl,.inl ⟨h0,h⟩⟩
 have HP1:Hid (waCode l b≠0→∀ W,Keeps [] w W→WxPost p Y d b l k n true w (.returned (.int .i64 (waCode l b))) W):=fun h0 W h=>⟨rfl,.inr ⟨h0,h⟩⟩
 generalize waCode l b=x at *
 by_cases h0:x=0
 ·subst h0
  go_enter Tryz.func80,Tryz.ntmps80
  go_wp2_with fail
  refine ha.out.mono ?_
  intro e w1 hpost
  obtain ⟨rfl,h1⟩:=HA.out _ _ hpost
  obtain ⟨Y',hL,hG,hK⟩:∃ Y',LgAt w1 p Y' d (b++frameL l) k (n + 1)∧Grows Y w Y'∧Keeps (p :: Y) w w1:=by
   rcases h1 with h1 | h1
   ·exact h1.2
   ·exact absurd rfl h1.1
  have HL:=Lib.hid hL;have HG:=Lib.hid hG;have HK:=Lib.hid hK
  clear hL hG hK hpost h1
  go_wp2_with fail
  refine (wsync_any p Y' d k (n + 1) _ w1 HL.out).mono ?_
  rintro e w2 ⟨rfl,hL2,hk2⟩
  have hR:Hid (WxPost p Y d b l k n true w (.returned (.int .i64 0)) w2):=by
   refine HP0.out trivial _ ⟨Y',by rw [← hlen];exact hL2,HG.out,HK.out.trans hk2 (fun g hg=>?_)⟩
   rcases HG.out g hg with h | h
   ·exact .inl (by simp [h])
   ·exact .inr h
  clear hL2 hk2
  go_wp2
  go_ret
  exact hR.out
 ·have hx0:(x == 0)=false:=by simpa using h0
  have H0:=Lib.hid h0
  clear h0
  go_enter Tryz.func80,Tryz.ntmps80
  go_wp2_with fail
  refine ha.out.mono ?_
  intro e w1 hpost
  obtain ⟨rfl,h1⟩:=HA.out _ _ hpost
  have hR:Hid (WxPost p Y d b l k n true w (.returned (.int .i64 x)) w1):=by
   rcases h1 with h1 | h1
   ·exact absurd h1.1 H0.out
   ·exact HP1.out H0.out _ h1.2
  clear hpost h1
  go_wp2
  go_ret
  exact hR.out
end Go.Proofs.YtambjickanapjaaGreatDoor.Vi
end
section
namespace Go.Proofs.YtambjickanapjaaGreatDoor.Vi
open Go.RowKit Base Mem Go.Shelf Tape
open Go.Maps (Keyed)
section
variable {w w':World} {M M':List Nat} {tg tg':Nat→Nat} {a d:Nat} {A:AgD} {C:AgC} {T:List Nat}
theorem rec_post_val {l:List UInt8} {e:Ending} (h:RecPost l w e w'):∃ Ar n,e=.returned (.slice Ar n n)∧Bs w' [] (.slice Ar n n) l∧Below w.heap.size w w':=by
 obtain ⟨Ar,h1,h2,h3⟩:=h
 exact ⟨Ar,_,h1,h2,h3⟩
end
section
variable {w w':World} {M M':List Nat} {tg tg':Nat→Nat} {a d:Nat} {A:AgD} {C:AgC} {T:List Nat}
end
section
variable {w w':World} {M M':List Nat} {tg tg':Nat→Nat} {a d:Nat} {A:AgD} {C:AgC} {T:List Nat}
end
def idCell (p:Int×Int×Int):List Value:=[.int .i64 p.1,.int .i64 p.2.1,.int .i64 p.2.2]
section
variable {w w':World} {M M':List Nat} {tg tg':Nat→Nat} {a d:Nat} {A:AgD} {C:AgC} {T:List Nat}
end
section
variable {w w':World} {M M':List Nat} {tg tg':Nat→Nat} {a d:Nat} {A:AgD} {C:AgC} {T:List Nat}
/-- The tags turned: the agent's block and the map of tags. -/
theorem AgV.setAs (h:AgV w M tg a A C) (hM:∀ g∈M,g < w.heap.size) {B:AgD} {Na':Nat} {Da':DataW Value} (hB:B.node=A.node∧B.bk=A.bk∧B.b=A.b∧B.k=A.k∧B.n=A.n∧B.tries=A.tries) (hcn:A.cn≤B.cn)
  (hb:Blk w' a 156 (agCells B C)) (hm:w'.ownsMap Tryz.prog 2 heldElem C.ab Na' Da') (hok:AsOk Da' B.node B.asked) (hna:Na'≤B.cn) (kp:Keeps [a,C.ab] w w') :
  AgV w' M tg a B { C with Na:=Na',Da:=Da' }∧Ext w M tg w' M tg∧Keeps (sel M tg [20,24]) w w':=by
 have ks : Keeps (sel M tg [20, 24]) w w' := kp.to_sel (fun g hg => by
  simp at hg
  rcases hg with rfl | rfl
  ·exact .inl ⟨h.aM,by rw [h.ta];simp⟩
  ·exact .inl ⟨h.abM, by rw [h.tab]; simp⟩)
 have hx:Ext w M tg w' M tg:=Ext.refl hM ks.size
 obtain ⟨e1,e2,e3,e4,e5,e6⟩:=hB
 have hlg:LgAt w' C.p C.Y C.d A.b A.k A.n:=lg_other ks h (by simp) (by simp)
 refine ⟨⟨hb,h.aM,h.ta,?_,?_,h.pM,h.tp,h.yM,map_other ks h.tr (by rw [h.ttb];simp),h.tbM,h.ttb,hm,h.abM,h.tab,?_,hok,Nat.le_trans h.nt hcn,hna⟩,hx,ks⟩
 ·rw [e2];exact h.bk.keep hx ks (by simp)
 ·rw [e3,e4,e5];exact hlg
 ·rw [e1,e6];exact h.trD
end
section
variable {w w':World} {M M':List Nat} {tg tg':Nat→Nat} {a d:Nat} {A:AgD} {C:AgC} {T:List Nat}
end
structure CutSt (w:World) (M:List Nat) (tg:Nat→Nat) (a d:Nat) (A:AgD) (out:List (Int×Int×Int)) (ov:Value) (wx:World) (Mk:List Nat) (tgk:Nat→Nat):Prop where
 ag:AgAt wx Mk tgk a d A
 x:Ext w M tg wx Mk tgk
 k:Keeps (sel M tg (List.range 30)) w wx
 row:wx.ownsRow w.heap.size 33 3 ov out.length (out.flatMap idCell)
 far:∀ g,ov.ownBlock=some g→g∈Mk∧tgk g=99
section
variable {w w' wx wy:World} {M M' Mk My:List Nat} {tg tg' tgk tgy:Nat→Nat} {a d:Nat} {A B:AgD} {C:AgC} {T:List Nat} {out:List (Int×Int×Int)} {ov:Value}
theorem AgAt.cuts (h:AgAt w M tg a d A):A.bk.cuts.length≤1048576:=by
 obtain ⟨ho,C,_,hv⟩:=h
 have h1:=ho.2.2.2.2.2.2.1
 have h2:=hv.lg.2.2.2
 have h3:=hv.lg.2.1.le.2
 omega
theorem CutSt.step (h:CutSt w M tg a d A out ov wx Mk tgk) (hx:Ext wx Mk tgk wy My tgy) (hk:Keeps (sel Mk tgk (List.range 30)) wx wy) (ha:AgAt wy My tgy a d B):CutSt w M tg a d B out ov wy My tgy:=by
 refine ⟨ha,h.x.trans hx h.k.size,Ext.keeps h.x h.k hk,row_other hk h.row (fun g hg=>by rw [(h.far g hg).2];simp),fun g hg=>?_⟩
 obtain ⟨h1,h2⟩:=h.far g hg
 exact ⟨hx.sub g h1,(hx.tag g (hx.old g h1)).trans h2⟩
theorem CutSt.keep0 (h:CutSt w M tg a d A out ov wx Mk tgk) (hk:Keeps [] wx wy):CutSt w M tg a d A out ov wy Mk tgk:=
 h.step (Ext.refl h.x.lt hk.size) (hk.to_sel (by simp)) (h.ag.keep0 h.x.lt hk)
theorem AgV.keepT (h:AgV w M tg a A C) (x:Ext w M tg w' M' tg') (kp:Keeps (sel M tg T) w w') (hT:∀ t∈T,30≤t):AgV w' M' tg' a A C:=by
 have n:∀ {t},t < 30→t∉T:=fun {t} h1 h2=>by have:=hT t h2;omega
 exact ⟨blk_other kp h.blk (by rw [h.ta];exact n (by omega)),x.sub _ h.aM,by rw [x.tag _ (x.old _ h.aM)];exact h.ta,h.bk.keep x kp (fun t ht=>by have:=hT t ht;omega),lg_other kp h (n (by omega)) (n (by omega)),x.sub _ h.pM,by rw [x.tag _ (x.old _ h.pM)];exact h.tp,
  fun g hg=>⟨x.sub _ (h.yM g hg).1,by rw [x.tag _ (x.old _ (h.yM g hg).1)];exact (h.yM g hg).2⟩,map_other kp h.tr (by rw [h.ttb];exact n (by omega)),x.sub _ h.tbM,by rw [x.tag _ (x.old _ h.tbM)];exact h.ttb,
  map_other kp h.as_ (by rw [h.tab];exact n (by omega)),x.sub _ h.abM,by rw [x.tag _ (x.old _ h.abM)];exact h.tab,h.trD,h.asD,h.nt,h.na⟩
theorem CutSt.put {out':List (Int×Int×Int)} {ov':Value} (h:CutSt w M tg a d A out ov wx Mk tgk) (hk:Keeps ov.ownBlock.toList wx wy) (hrow:wy.ownsRow w.heap.size 33 3 ov' out'.length (out'.flatMap idCell)) (hat:ov'.ownBlock=ov.ownBlock∨∃ g,ov'.ownBlock=some g∧wx.heap.size≤g) :
  ∃ My tgy,CutSt w M tg a d A out' ov' wy My tgy∧Ext wx Mk tgk wy My tgy∧Keeps (sel Mk tgk [99]) wx wy:=by
 have hks:Keeps (sel Mk tgk [99]) wx wy:=hk.to_sel (fun g hg=>.inl (by have:=h.far g (by simpa using hg);simp [this.1,this.2]))
 have hx : Ext wx Mk tgk wy (ov'.ownBlock.toList ++ Mk) (fun x => if ov'.ownBlock = some x then 99 else tgk x) := Ext.add h.x.lt hks.size _ _ (fun g hg => by
  refine ⟨?_,(hrow.lt g hg).2⟩
  rcases hat with h1 | ⟨g',h1,h2⟩
  ·exact .inl (h.far g (by rw [← h1,hg]))
  ·rw [h1] at hg; injection hg with hg; subst hg; exact .inr h2)
 obtain ⟨ho,C,hC,hv⟩:=h.ag
 exact ⟨_,_,⟨⟨ho,C,hC,hv.keepT hx hks (by simp)⟩,h.x.trans hx h.k.size,h.k.trans hk (fun g hg=>.inr (h.row.lt g (by simpa using hg)).1),hrow,fun g hg=>⟨List.mem_append_left _ (by simpa using hg),by simp [hg]⟩⟩,hx,hks⟩
theorem Ds.tail {v:World} {L:List Nat} {Av:Option Addr} {c:Nat} {l:List DeltaD} (h:Ds v L (.slice Av l.length c) l) (n:Nat) (hn:n≤l.length):Ds v L (.slice (if c=n then Av else Av.map (·.add (n * 2))) (l.length - n) (c - n)) (l.drop n):=by
 obtain ⟨A',c',e,hcc,hl,hr⟩:=h
 injection e with e1 _ e3
 subst e1 e3
 show Rd _ _ _ _ (l.drop n).length _
 rw [List.length_drop]
 refine ⟨_,c - n,rfl,by omega,by rw [dCells_len,List.length_drop],fun h0=>?_⟩
 obtain ⟨g,off,rfl,hg,hm,hx⟩:=hr (by omega)
 rw [if_neg (by omega)]
 refine ⟨g,off + n * 2,by simp [addr_add],hg,hm,fun j u hu=>?_⟩
 rw [Nat.add_assoc]
 refine hx (n * 2 + j) u ?_
 have hs:dCells l=dCells (l.take n)++dCells (l.drop n):=by unfold dCells;rw [← List.flatMap_append,List.take_append_drop]
 rw [hs,List.getElem?_append_right (by rw [dCells_len,List.length_take];omega),dCells_len,List.length_take,Nat.min_eq_left hn,Nat.add_sub_cancel_left]
 exact hu
theorem Ds.head {v:World} {L:List Nat} {Av:Option Addr} {c:Nat} {l:List DeltaD} (h:Ds v L (.slice Av l.length c) l) (n:Nat) (hn:n≤l.length):Ds v L (.slice Av n c) (l.take n):=by
 obtain ⟨A',c',e,hcc,hl,hr⟩:=h
 injection e with e1 _ e3
 subst e1 e3
 show Rd _ _ _ _ (l.take n).length _
 rw [List.length_take,Nat.min_eq_left hn]
 refine ⟨_,c,rfl,by omega,by rw [dCells_len,List.length_take];omega,fun h0=>?_⟩
 obtain ⟨g,off,rfl,hg,hm,hx⟩:=hr (by omega)
 refine ⟨g,off,rfl,hg,hm,fun j u hu=>hx j u ?_⟩
 have hs:dCells l=dCells (l.take n)++dCells (l.drop n):=by unfold dCells;rw [← List.flatMap_append,List.take_append_drop]
 have hj:=(List.getElem?_eq_some_iff.1 hu).1
 rw [hs,List.getElem?_append_left hj]
 exact hu
end
end Go.Proofs.YtambjickanapjaaGreatDoor.Vi
end
section
namespace Go.Proofs.YtambjickanapjaaGreatDoor.Vi
open Go.RowKit Base Mem
open Go.Maps (Keyed)
section
variable {P:Program} {k e t:TypeId} {w:World} {b n:Nat} {D:DataW Value}
end
end Go.Proofs.YtambjickanapjaaGreatDoor.Vi
end
section
namespace Go.Proofs.YtambjickanapjaaGreatDoor.Vi
open Go.RowKit Base Mem Go.Shelf Tape
open Go.Maps (Keyed)
section
variable {w w':World} {M M':List Nat} {tg tg':Nat→Nat} {a d:Nat} {A:AgD}
/-- New blocks are put beside an agent's. -/
theorem AgAt.more (h:AgAt w M tg a d A) (hM:∀ g∈M,g < w.heap.size) (hk:Keeps [] w w') (L:List Nat) (hL:∀ g∈L,w.heap.size≤g∧g < w'.heap.size) :
  AgAt w' (L++M) (fun x=>if x∈L then 99 else tg x) a d A∧Ext w M tg w' (L++M) (fun x=>if x∈L then 99 else tg x):=by
 have hx:=Ext.addL (tg:=tg) hM hk.size L 99 (fun g hg=>⟨.inr (hL g hg).1,(hL g hg).2⟩)
 obtain ⟨ho,C,e,hv⟩:=h
 exact ⟨⟨ho,C,e,hv.keepT (T:=[]) hx (hk.to_sel (by simp)) (by simp)⟩,hx⟩
/-- Blocks that lie beside an agent's own turned. -/
theorem AgAt.beside (h:AgAt w M tg a d A) (hM:∀ g∈M,g < w.heap.size) {L:List Nat} (hL:∀ g∈L,g∈M∧tg g=99) (hk:Keeps L w w'):AgAt w' M tg a d A:=by
 obtain ⟨ho,C,e,hv⟩:=h
 exact ⟨ho,C,e,hv.keepT (T:=[99]) (Ext.refl hM hk.size) (hk.to_sel (fun g hg=>.inl ⟨(hL g hg).1,by rw [(hL g hg).2];simp⟩)) (by simp)⟩
end
section
variable {w w':World} {M:List Nat} {tg:Nat→Nat} {a d:Nat} {A:AgD}
end
end Go.Proofs.YtambjickanapjaaGreatDoor.Vi
end
section
namespace Go.Proofs.YtambjickanapjaaGreatDoor.Draw
open Go.RowKit

theorem ret_int {k:IntKind} {a b:Int} (h:a=b):Ending.returned (.int k a)=.returned (.int k b):=by rw [h]
theorem ret_bool {a b:Bool} (h:a=b):Ending.returned (.bool a)=.returned (.bool b):=by rw [h]
def nextS (s:Int):Int:=IntKind.u64.wrap (IntKind.u64.wrap (s * 6364136223846793005) + 1442695040888963407)
theorem next_any (s:Int) (w:World) :
  Calls Tryz.prog 290 #[.int .u64 s] w fun e w'=>e=.returned (.int .u64 (nextS s))∧w=w':=by
 go_enter Tryz.func290,Tryz.ntmps290
 go_wp2
 go_ret
 exact ⟨rfl,rfl⟩
end Go.Proofs.YtambjickanapjaaGreatDoor.Draw
end
section
namespace Go.Proofs.YtambjickanapjaaGreatDoor.Vi
open Go.RowKit Base Mem Go.Shelf Tape
open Go.Maps (Keyed)
open Draw
def setTr (t:Int→Int→Option (Int×Int)) (s q:Int) (x:Option (Int×Int)):Int→Int→Option (Int×Int):=fun s' q'=>if s'=s∧q'=q then x else t s' q'
section
variable {w w':World} {M M':List Nat} {tg tg':Nat→Nat} {a d:Nat} {A:AgD} {C:AgC} {T:List Nat}
/-- The tries turned. -/
theorem AgV.setTr (h:AgV w M tg a A C) (hM:∀ g∈M,g < w.heap.size) {tr':Int→Int→Option (Int×Int)} {cn' Nt':Nat} {Dt':DataW Value} (hcn:A.cn≤cn')
  (hm:w'.ownsMap Tryz.prog 33 heldElem C.tb Nt' Dt') (hok:TrOk Dt' A.node tr') (hnt:Nt'≤cn') (kp:Keeps [C.tb] w w') :
  AgV w' M tg a { A with tries:=tr',cn:=cn' } { C with Nt:=Nt',Dt:=Dt' }∧Ext w M tg w' M tg∧Keeps (sel M tg [23]) w w':=by
 have ks : Keeps (sel M tg [23]) w w' := kp.to_sel (fun g hg => by
  simp at hg
  subst hg
  exact .inl ⟨h.tbM, by rw [h.ttb]; simp⟩)
 have hx:Ext w M tg w' M tg:=Ext.refl hM ks.size
 have hlg:LgAt w' C.p C.Y C.d A.b A.k A.n:=lg_other ks h (by simp) (by simp)
 exact ⟨⟨blk_other ks h.blk (by rw [h.ta];simp),h.aM,h.ta,h.bk.keep hx ks (by simp),hlg,h.pM,h.tp,h.yM,hm,h.tbM,h.ttb,map_other ks h.as_ (by rw [h.tab];simp),h.abM,h.tab,hok,h.asD,hnt,Nat.le_trans h.na hcn⟩,hx,ks⟩
end
section
variable {w w':World} {M:List Nat} {tg:Nat→Nat} {a d:Nat} {A:AgD}
end
def snCell (p:SentD×Value):List Value:=sCell p.1.dst p.1.m p.2 (.slice none 0 0)
structure TkSt (w:World) (M:List Nat) (tg:Nat→Nat) (a d:Nat) (A:AgD) (out:List SentD) (ov:Value) (wx:World) (Mk:List Nat) (tgk:Nat→Nat):Prop where
 ag:AgAt wx Mk tgk a d A
 x:Ext w M tg wx Mk tgk
 k:Keeps (sel M tg (List.range 30)) w wx
 qs:∃ qs:List (SentD×Value),qs.map (·.1)=out∧wx.ownsRow w.heap.size 98 19 ov out.length (qs.flatMap snCell)∧∀ q∈qs,∀ L,(∀ g∈L,g < w.heap.size)→Ds wx (L++Mk) q.2 q.1.m.en.ds
 far:∀ g,ov.ownBlock=some g→g∈Mk∧tgk g=99
section
variable {w w' wx wy:World} {M M' Mk My:List Nat} {tg tg' tgk tgy:Nat→Nat} {a d:Nat} {A B:AgD} {C:AgC} {T:List Nat} {out:List SentD} {ov:Value}
theorem TkSt.step (h:TkSt w M tg a d A out ov wx Mk tgk) (hx:Ext wx Mk tgk wy My tgy) (hk:Keeps (sel Mk tgk (List.range 30)) wx wy) (ha:AgAt wy My tgy a d B):TkSt w M tg a d B out ov wy My tgy:=by
 obtain ⟨qs,h1,h2,h3⟩:=h.qs
 refine ⟨ha,h.x.trans hx h.k.size,Ext.keeps h.x h.k hk,⟨qs,h1,row_other hk h2 (fun g hg=>by rw [(h.far g hg).2];simp),fun q hq L hL=>?_⟩,fun g hg=>?_⟩
 ·refine ((h3 q hq L hL).avoid (M':=L++My) (fun g hg=>?_)).keep hk (fun g hg=>.inl (List.mem_append_right _ (hx.sub g (mem_sel.1 hg).1)))
  rcases List.mem_append.1 hg with h4 | h4
  ·exact .inl (List.mem_append_left _ h4)
  ·rcases hx.new g h4 with h5 | h5
   ·exact .inl (List.mem_append_right _ h5)
   ·exact .inr h5
 ·obtain ⟨h4,h5⟩:=h.far g hg
  exact ⟨hx.sub g h4,(hx.tag g (hx.old g h4)).trans h5⟩
theorem TkSt.keep0 (h:TkSt w M tg a d A out ov wx Mk tgk) (hk:Keeps [] wx wy):TkSt w M tg a d A out ov wy Mk tgk:=
 h.step (Ext.refl h.x.lt hk.size) (hk.to_sel (by simp)) (h.ag.keep0 h.x.lt hk)
/-- A message more. -/
theorem TkSt.put {w1 w2:World} {s:SentD} {dv ov':Value} {o:Obj} {qs:List (SentD×Value)} (h1:TkSt w M tg a d B out ov w1 My tgy) (e1:qs.map (·.1)=out) (e2:w1.ownsRow w.heap.size 98 19 ov out.length (qs.flatMap snCell)) (e3:∀ q∈qs,∀ L,(∀ g∈L,g < w.heap.size)→Ds w1 (L++My) q.2 q.1.m.en.ds)
  (hds:∀ L,(∀ g∈L,g < w.heap.size)→Ds w1 (L++My) dv s.m.en.ds) (hg:(w1.alloc o).grownBy w2 ov.ownBlock) (hat:ov'.ownBlock=ov.ownBlock∨ov'.ownBlock=some (w1.alloc o).heap.size)
  (hrw:w2.ownsRow w.heap.size 98 19 ov' (out.length + 1) (qs.flatMap snCell++snCell (s,dv))) :
  ∃ M2 tg2,TkSt w M tg a d B (out++[s]) ov' w2 M2 tg2∧Ext w1 My tgy w2 M2 tg2∧Keeps (sel My tgy [99]) w1 w2:=by
 have k12:Keeps ov.ownBlock.toList w1 w2:=(((Keeps.refl [] w1).alloc o).mono (by simp)).grown hg (fun g hg=>.inl (by simpa using hg))
 have hks:Keeps (sel My tgy [99]) w1 w2:=k12.to_sel (fun g hg=>.inl (by have:=h1.far g (by simpa using hg);simp [this.1,this.2]))
 have hx2 : Ext w1 My tgy w2 (ov'.ownBlock.toList ++ My) (fun x => if ov'.ownBlock = some x then 99 else tgy x) := Ext.add h1.x.lt hks.size _ _ (fun g hg => by
  refine ⟨?_,(hrw.lt g hg).2⟩
  rcases hat with h4 | h4
  ·exact .inl (h1.far g (by rw [← h4,hg]))
  ·rw [h4] at hg; injection hg with hg; subst hg; right; rw [World.size_alloc]; omega)
 obtain ⟨ho,C,hC,hv⟩:=h1.ag
 refine ⟨_,_,⟨⟨ho,C,hC,hv.keepT hx2 hks (by simp)⟩,h1.x.trans hx2 h1.k.size,h1.k.trans k12 (fun g hg=>.inr ?_),⟨qs++[(s,dv)],by rw [List.map_append,e1];rfl,?_,fun q hq L hL=>?_⟩,fun g hg=>⟨List.mem_append_left _ (by simpa using hg),by simp [hg]⟩⟩,hx2,hks⟩
 ·exact (e2.lt g (by simpa using hg)).1
 ·rw [List.length_append,List.flatMap_append]
  have:=hrw
  simpa using this
 ·have hout:∀ q':SentD×Value,Ds w1 (L++My) q'.2 q'.1.m.en.ds→Ds w2 (L++(ov'.ownBlock.toList++My)) q'.2 q'.1.m.en.ds:=fun q' hq'=>by
   refine (hq'.avoid (M':=L++(ov'.ownBlock.toList++My)) (fun g hg=>?_)).keep k12 (fun g hg=>.inl ?_)
   ·rcases List.mem_append.1 hg with h4 | h4
    ·exact .inl (List.mem_append_left _ h4)
    ·rcases hx2.new g h4 with h5 | h5
     ·exact .inl (List.mem_append_right _ h5)
     ·exact .inr h5
   ·exact List.mem_append_right _ (hx2.sub g (h1.far g (by simpa using hg)).1)
  rcases List.mem_append.1 hq with h4 | h4
  ·exact hout q (e3 q h4 L hL)
  ·simp at h4;subst h4
   exact hout _ (hds L hL)
end
end Go.Proofs.YtambjickanapjaaGreatDoor.Vi
end
section
namespace Go.Proofs.YtambjickanapjaaGreatDoor.Vi
open Go.RowKit Base Mem Go.Shelf Tape
open Go.Maps (Keyed)

section
variable {w w':World} {M:List Nat} {tg:Nat→Nat} {a d:Nat} {A:AgD}
end
/-- What an agent's records come to, with an epoch more. -/
def newBk (b:List UInt8):BkD:={ takesB bk0 (scanS b).1 with ep:=(takesB bk0 (scanS b).1).ep + 1 }
def badNew (node reps:Int):Bool:=decide (node < 0) || decide (8≤node) || decide (reps < 1) || decide (8 < reps)
/-- A new agent on a disk with these bytes. -/
def agNew (node reps:Int) (b:List UInt8):Option AgD:=
 if badNew node reps=true then none
 else if 1073741824 < (newBk b).ep then none
 else if waCode (recE (newBk b).ep.toNat) (b.take (scanS b).2)≠0 then none
 else some ⟨node,reps,0,(newBk b).ep * 4294967296,0,newBk b,fun _ _=>none,[],b.take (scanS b).2++frameL (recE (newBk b).ep.toNat),(b.take (scanS b).2).length + (frameL (recE (newBk b).ep.toNat)).length,(scanS b).1.length + 1,0⟩
def NwPost (Y:List Nat) (d:Nat) (R:Option AgD) (w:World) (e:Ending) (w':World):Prop:=
 Keeps Y w w'∧match R with
 | none=>e=.returned (.pointer none)
 | some A=>∃ a M' tg',e=.returned (.pointer (some ⟨a,0,none⟩))∧AgAt w' M' tg' a d A∧(∀ g∈M',g∈Y∨w.heap.size≤g)∧(∀ g∈M',g < w'.heap.size)∧(∀ g∈Y,g∈M'∧tg' g=22)
/-- The same, beside older blocks L. -/
def NwPostZ (Y L:List Nat) (d:Nat) (R:Option AgD) (w:World) (e:Ending) (w':World):Prop:=
 Keeps Y w w'∧match R with
 | none=>e=.returned (.pointer none)
 | some A=>∃ a M' tg',e=.returned (.pointer (some ⟨a,0,none⟩))∧AgAt w' M' tg' a d A∧(∀ g∈M',g∈Y++L∨w.heap.size≤g)∧(∀ g∈M',g < w'.heap.size)∧(∀ g∈Y++L,g∈M')∧(∀ g∈Y,tg' g=22)∧∀ g,g < w.heap.size→g∉Y→tg' g=99
def tgN (Y:List Nat) (s:Nat) (qb:Nat→Nat) (a p tb ab x:Nat):Nat:=if x=s then 1 else if x=qb 0 then 10 else if x=qb 1 then 12 else if x=qb 2 then 14 else if x=qb 3 then 16 else if x=a then 20 else if x=p then 21 else if x=tb then 23 else if x=ab then 24 else if x∈Y then 22 else 99
section
variable {w w':World} {Y:List Nat} {d k:Nat} {b:List UInt8}
theorem newAg_ok {node reps:Int} (h:badNew node reps=false) (he:¬ 1073741824 < (newBk b).ep) (h0:0≤(takesB bk0 (scanS b).1).ep) {A:AgD} (hA:A=⟨node,reps,0,(newBk b).ep * 4294967296,0,newBk b,fun _ _=>none,[],b.take (scanS b).2++frameL (recE (newBk b).ep.toNat),(b.take (scanS b).2).length + (frameL (recE (newBk b).ep.toNat)).length,(scanS b).1.length + 1,0⟩):AgOk A:=by
 subst hA
 simp only [badNew,Bool.or_eq_false_iff,decide_eq_false_iff_not] at h
 obtain ⟨⟨⟨h1,h2⟩,h3⟩,h4⟩:=h
 have h5:(newBk b).ep=(takesB bk0 (scanS b).1).ep + 1:=rfl
 have hc:=takesB_cuts (scanS b).1 bk0
 have hc0:(newBk b).cuts.length≤(scanS b).1.length + 1:=by
  show (takesB bk0 (scanS b).1).cuts.length≤_
  have:bk0.cuts.length=0:=rfl
  omega
 exact ⟨⟨by show 0≤node;omega,by show node < 8;omega⟩,⟨by show 1≤reps;omega,by show reps≤8;omega⟩,⟨by show (0:Int)≤0;omega,by show (0:Int) < reps;omega⟩,⟨by show (0:Int)≤0;omega,by show (0:Int)≤_;omega⟩,by show 1≤(newBk b).ep;omega,
  ⟨Int.le_refl _,by show (newBk b).ep * 4294967296≤(newBk b).ep * 4294967296 + ((0:Nat):Int);omega⟩,hc0,by show (0:Nat)≤_;omega,fun s q x hx=>(nomatch hx),fun p hp=>(nomatch hp),List.nodup_nil⟩
theorem agnew_z (L:List Nat) (hL:∀ g∈L,g < w.heap.size) (h0L:0∉L) (h:DkAt w Y d b k) (node reps m:Int) (h0:0∉Y) (hm:w.cell? ⟨0,0,none⟩=some (.int .i64 m)) :
  Calls Tryz.prog 30 #[.int .i64 node,.int .i64 reps,.pointer (some ⟨d,0,none⟩)] w fun e w'=>NwPostZ Y L d (agNew node reps b) w e w':=by
 have hw0:0 < w.heap.size:=by
  have:=World.block_lt_of_cell? w _ hm
  simpa using this
 have hYw:=h.old
 have HL:=Lib.hid hL;have H0L:=Lib.hid h0L
 clear hL h0L
 have hsc:=scanS_bd b
 have hbl:b.length≤1048576:=h.le.2
 have hop:=Lib.hid (wopen_any Y d k b w h)
 have HR : Hid (agNew node reps b = if badNew node reps = true then none
  else if 1073741824 < (newBk b).ep then none
  else if waCode (recE (newBk b).ep.toNat) (b.take (scanS b).2)≠0 then none
  else some ⟨node, reps, 0, (newBk b).ep * 4294967296, 0, newBk b, fun _ _ => none, [], b.take (scanS b).2 ++ frameL (recE (newBk b).ep.toNat), (b.take (scanS b).2).length + (frameL (recE (newBk b).ep.toNat)).length, (scanS b).1.length + 1, 0⟩) := rfl
 have HOK:=Lib.hid (fun hb he h0=>newAg_ok (b:=b) (node:=node) (reps:=reps) hb he h0 rfl)
 have HE:Hid ((newBk b).ep=(takesB bk0 (scanS b).1).ep + 1∧newBk b={ takesB bk0 (scanS b).1 with ep:=(newBk b).ep }):=⟨rfl,rfl⟩
 have hop2:Hid (∀ e W,WoPost Y d b w e W→∃ p v,e=.returned (.tuple #[.pointer (some ⟨p,0,none⟩),v])∧w.heap.size≤p∧LgAt W p Y d (b.take (scanS b).2) (scanS b).2 (scanS b).1.length∧(∀ M,(∀ g∈M,g < w.heap.size)→Bss W (p :: M) v (scanS b).1)∧Keeps Y w W):=fun _ _ h=>h
 have HBd:Hid (badNew node reps=(decide (node < 0) || decide (8≤node) || decide (reps < 1) || decide (8 < reps))):=rfl
 have Hm:=Lib.hid hm;have HY:=Lib.hid hYw;have H0:=Lib.hid h0;have Hrl:=Lib.hid hsc.2.1
 have hrs:(scanS b).1.length≤1048576:=by have:=hsc.2.2;omega
 generalize scanS b=R at *
 generalize agNew node reps b=Z at *
 obtain ⟨rs,nn⟩:=R
 simp only [] at hop2 HR HOK HE Hrl hrs
 clear h hm hYw h0 hsc
 have hmm:=@run_makeMap Tryz.prog
 go_enter Tryz.func30,Tryz.ntmps30
 go_upto_region 1 with (fail)
 go_cut [27] (fun c W=>c=.bool (badNew node reps)∧w=W)
 case first=>
  by_cases h1:node < 0
  ·have d1:decide (node < 0)=true:=decide_eq_true h1
   have hB:Hid (badNew node reps=true):=by show _=_;rw [HBd.out,d1];simp
   go_wp2_with fail
   go_meet
   exact ⟨by rw [hB.out],rfl⟩
  ·have d1:decide (node < 0)=false:=decide_eq_false h1
   by_cases h2:8≤node
   ·have d2:decide (8≤node)=true:=decide_eq_true h2
    have hB:Hid (badNew node reps=true):=by show _=_;rw [HBd.out,d2];simp
    go_wp2_with fail
    go_meet
    exact ⟨by rw [hB.out],rfl⟩
   ·have d2:decide (8≤node)=false:=decide_eq_false h2
    by_cases h3:reps < 1
    ·have d3:decide (reps < 1)=true:=decide_eq_true h3
     have hB:Hid (badNew node reps=true):=by show _=_;rw [HBd.out,d3];simp
     go_wp2_with fail
     go_meet
     exact ⟨by rw [hB.out],rfl⟩
    ·have d3:decide (reps < 1)=false:=decide_eq_false h3
     by_cases h4:8 < reps
     ·have d4:decide (8 < reps)=true:=decide_eq_true h4
      have hB:Hid (badNew node reps=true):=by show _=_;rw [HBd.out,d4];simp
      go_wp2_with fail
      go_meet
      exact ⟨by rw [hB.out],rfl⟩
     ·have d4:decide (8 < reps)=false:=decide_eq_false h4
      have hB:Hid (badNew node reps=false):=by show _=_;rw [HBd.out,d1,d2,d3,d4];rfl
      go_wp2_with fail
      go_meet
      exact ⟨by rw [hB.out],rfl⟩
 case rest=>
 obtain ⟨rfl,rfl⟩:=hcut
 cases hbd:badNew node reps with
 | true=>
  have hP:Hid (NwPostZ Y L d Z w (.returned (.pointer none)) w):=by
   rw [HR.out,if_pos hbd]
   exact ⟨Keeps.refl _ _,rfl⟩
  clear hbd
  go_wp2
  go_ret
  exact hP.out
 | false=>
  rw [if_neg (by rw [hbd];simp)] at HR
  have HOK2:=Lib.hid (HOK.out hbd)
  clear hbd HBd HOK
  go_wp2_with fail
  refine hop.out.mono ?_
  intro e w1 hwo
  obtain ⟨p,v,rfl,hp,hlg,hbs,hk1⟩:=hop2.out _ _ hwo
  clear hwo hop2
  have Hlg:=Lib.hid hlg;have Hbs:=Lib.hid hbs;have Hk1:=Lib.hid hk1
  have hpl:p < w1.heap.size:=hlg.1.lt
  clear hlg hbs hk1 hop
  go_wp2_with fail
  refine (bknew_any w1).mono ?_
  rintro e w2 ⟨s,qb,rfl,hBs,hQ,hI,hs,hb2⟩
  have HBs:=Lib.hid hBs;have HQ:=Lib.hid hQ;have HI:=Lib.hid hI;have Hb2:=Lib.hid hb2
  have hslt:s < w2.heap.size:=hBs.lt
  clear hBs hQ hI hb2
  go_upto_region 5 with (fail)
  -- the new agent
  obtain ⟨w3,hw3⟩:∃ w3,w3=((w2.alloc (.map #[] 0)).alloc (.map #[] 0)).alloc (.cells #[.int .i64 node,.int .i64 reps,.pointer (some ⟨p,0,none⟩),.pointer (some ⟨s,0,none⟩),.int .i64 0,.int .i64 0,.int .i64 0,.map (some w2.heap.size),.map (some (w2.heap.size + 1))] 156):=⟨_,rfl⟩
  have hb3:Below w2.heap.size w2 w3:=by rw [hw3];exact (((Below.refl _ _).alloc (Nat.le_refl _) _).alloc (by simp) _).alloc (by simp;omega) _
  have hT:w3.ownsMap Tryz.prog 33 heldElem w2.heap.size 0 (.map []:DataW Value):=by
   rw [hw3];exact ((World.ownsMap_made w2 _ _ _).alloc _).alloc _
  have hA:w3.ownsMap Tryz.prog 2 heldElem (w2.heap.size + 1) 0 (.map []:DataW Value):=by
   have h9:=World.ownsMap_made (H:=Value) (w2.alloc (.map #[] 0)) Tryz.prog 2 heldElem
   rw [World.size_alloc] at h9
   rw [hw3];exact h9.alloc _
  have hBa:Blk w3 (w2.heap.size + 1 + 1) 156 #[.int .i64 node,.int .i64 reps,.pointer (some ⟨p,0,none⟩),.pointer (some ⟨s,0,none⟩),.int .i64 0,.int .i64 0,.int .i64 0,.map (some w2.heap.size),.map (some (w2.heap.size + 1))]:=by
   have h9:=Blk.new ((w2.alloc (.map #[] 0)).alloc (.map #[] 0)) 156 #[.int .i64 node,.int .i64 reps,.pointer (some ⟨p,0,none⟩),.pointer (some ⟨s,0,none⟩),.int .i64 0,.int .i64 0,.int .i64 0,.map (some w2.heap.size),.map (some (w2.heap.size + 1))]
   rw [World.size_alloc,World.size_alloc] at h9
   rw [hw3];exact h9
  have hks3:Keeps [] w1 w3:=(Keeps.of_below (M:=[]) Hb2.out).trans (Keeps.of_below (M:=[]) hb3) (by simp)
  have i01:=HI.out 0 1 (by omega) (by omega);have i12:=HI.out 1 2 (by omega) (by omega);have i23:=HI.out 2 3 (by omega) (by omega);have is0:=(HQ.out 0 (by omega)).2
  have iq3:=(HQ.out 3 (by omega)).1.lt
  have hw1s:=Hk1.out.size
  have hw3s:=hb3.size
  have hYs:∀ g∈Y,g < w.heap.size:=HY.out
  have hal:=hBa.lt
  obtain ⟨tb,htb⟩:∃ tb,tb=w2.heap.size:=⟨_,rfl⟩
  obtain ⟨ab,hab⟩:∃ ab,ab=w2.heap.size + 1:=⟨_,rfl⟩
  obtain ⟨a,ha⟩:∃ a,a=w2.heap.size + 1 + 1:=⟨_,rfl⟩
  rw [← htb] at hT
  rw [← hab] at hA
  rw [← ha] at hBa hal
  rw [← hab,← htb] at hBa
  have t1:tgN Y s qb a p tb ab s=1:=by unfold tgN;rw [if_pos rfl]
  have t10:tgN Y s qb a p tb ab (qb 0)=10:=by unfold tgN;rw [if_neg (by omega),if_pos rfl]
  have t12:tgN Y s qb a p tb ab (qb 1)=12:=by unfold tgN;rw [if_neg (by omega),if_neg (by omega),if_pos rfl]
  have t14:tgN Y s qb a p tb ab (qb 2)=14:=by unfold tgN;rw [if_neg (by omega),if_neg (by omega),if_neg (by omega),if_pos rfl]
  have t16:tgN Y s qb a p tb ab (qb 3)=16:=by unfold tgN;rw [if_neg (by omega),if_neg (by omega),if_neg (by omega),if_neg (by omega),if_pos rfl]
  have t20:tgN Y s qb a p tb ab a=20:=by unfold tgN;rw [if_neg (by omega),if_neg (by omega),if_neg (by omega),if_neg (by omega),if_neg (by omega),if_pos rfl]
  have t21:tgN Y s qb a p tb ab p=21:=by unfold tgN;rw [if_neg (by omega),if_neg (by omega),if_neg (by omega),if_neg (by omega),if_neg (by omega),if_neg (by omega),if_pos rfl]
  have t23:tgN Y s qb a p tb ab tb=23:=by unfold tgN;rw [if_neg (by omega),if_neg (by omega),if_neg (by omega),if_neg (by omega),if_neg (by omega),if_neg (by omega),if_neg (by omega),if_pos rfl]
  have t24:tgN Y s qb a p tb ab ab=24:=by unfold tgN;rw [if_neg (by omega),if_neg (by omega),if_neg (by omega),if_neg (by omega),if_neg (by omega),if_neg (by omega),if_neg (by omega),if_neg (by omega),if_pos rfl]
  have t22:∀ g∈Y,tgN Y s qb a p tb ab g=22:=fun g hg=>by
   have:=hYs g hg
   unfold tgN;rw [if_neg (by omega),if_neg (by omega),if_neg (by omega),if_neg (by omega),if_neg (by omega),if_neg (by omega),if_neg (by omega),if_neg (by omega),if_neg (by omega),if_pos hg]
  have t99:∀ g,g < w.heap.size→g∉Y→tgN Y s qb a p tb ab g=99:=fun g hg hn=>by
   unfold tgN;rw [if_neg (by omega),if_neg (by omega),if_neg (by omega),if_neg (by omega),if_neg (by omega),if_neg (by omega),if_neg (by omega),if_neg (by omega),if_neg (by omega),if_neg hn]
  have hM:∀ g∈[s,qb 0,qb 1,qb 2,qb 3,a,p,tb,ab]++(Y++L),g < w3.heap.size:=fun g hg=>by
   rcases List.mem_append.1 hg with h | h
   ·simp at h;omega
   ·have:g < w.heap.size:=by
     rcases List.mem_append.1 h with h | h
     ·exact hYs g h
     ·exact HL.out g h
    omega
  have hnew:∀ g∈[s,qb 0,qb 1,qb 2,qb 3,a,p,tb,ab]++(Y++L),g∈p :: (Y++L)∨w1.heap.size≤g:=fun g hg=>by
   rcases List.mem_append.1 hg with h | h
   ·simp at h
    rcases h with h | h | h | h | h | h | h | h | h
    ·right;omega
    ·right;omega
    ·right;omega
    ·right;omega
    ·right;omega
    ·right;omega
    ·left;simp [h]
    ·right;omega
    ·right;omega
   ·left;exact List.mem_cons_of_mem _ h
  have hnew0:∀ g∈[s,qb 0,qb 1,qb 2,qb 3,a,p,tb,ab]++(Y++L),g∈Y++L∨w.heap.size≤g:=fun g hg=>by
   rcases hnew g hg with h | h
   ·rcases List.mem_cons.1 h with h | h
    ·subst h;exact .inr hp
    ·exact .inl h
   ·right;omega
  have h0M:0∉[s,qb 0,qb 1,qb 2,qb 3,a,p,tb,ab]++(Y++L):=fun hm=>by
   rcases hnew0 0 hm with h | h
   ·rcases List.mem_append.1 h with h | h
    ·exact H0.out h
    ·exact H0L.out h
   ·omega
  have hin:s∈[s,qb 0,qb 1,qb 2,qb 3,a,p,tb,ab]++(Y++L)∧a∈[s,qb 0,qb 1,qb 2,qb 3,a,p,tb,ab]++(Y++L)∧p∈[s,qb 0,qb 1,qb 2,qb 3,a,p,tb,ab]++(Y++L)∧tb∈[s,qb 0,qb 1,qb 2,qb 3,a,p,tb,ab]++(Y++L)∧ab∈[s,qb 0,qb 1,qb 2,qb 3,a,p,tb,ab]++(Y++L)∧(∀ j,j < 4→qb j∈[s,qb 0,qb 1,qb 2,qb 3,a,p,tb,ab]++(Y++L))∧∀ g∈Y++L,g∈[s,qb 0,qb 1,qb 2,qb 3,a,p,tb,ab]++(Y++L):=by
   refine ⟨by simp,by simp,by simp,by simp,by simp,fun j hj=>?_,fun g hg=>List.mem_append_right _ hg⟩
   rcases (show j=0∨j=1∨j=2∨j=3 by omega) with rfl | rfl | rfl | rfl <;> simp
  obtain ⟨in1,in2,in3,in4,in5,in6,in7⟩:=hin
  have hqt:∀ j,j < 4→tgN Y s qb a p tb ab (qb j)=10 + 2 * j:=fun j hj=>by
   rcases (show j=0∨j=1∨j=2∨j=3 by omega) with rfl | rfl | rfl | rfl <;> assumption
  generalize [s,qb 0,qb 1,qb 2,qb 3,a,p,tb,ab]++(Y++L)=M0 at *
  generalize tgN Y s qb a p tb ab=tg0 at *
  have hbk3:BkAt w3 M0 tg0 s bk0:=bk_new_at (HBs.out.below hb3 hslt) (fun j hj=>⟨(HQ.out j hj).1.below hb3 (HQ.out j hj).1.lt,(HQ.out j hj).2⟩) in1 t1 (fun j hj=>⟨in6 j hj,hqt j hj⟩)
  have Hv3:Hid (AgV w3 M0 tg0 a ⟨node,reps,0,0,0,bk0,fun _ _=>none,[],b.take nn,nn,rs.length,0⟩ ⟨s,p,tb,ab,d,Y,0,0,.map [],.map []⟩):=
   ⟨hBa,in2,t20,hbk3,Hlg.out.keep0 hks3,in3,t21,fun g hg=>⟨in7 g (List.mem_append_left _ hg),t22 g hg⟩,hT,in4,t23,hA,in5,t24,fun _ _ _ _=>rfl,fun _ _=>⟨rfl,rfl⟩,Nat.le_refl _,Nat.le_refl _⟩
  have Hbss:Hid (Bss w3 M0 v rs):=((Hbs.out (Y++L) (fun g hg=>by rcases List.mem_append.1 hg with h | h;exact HY.out g h;exact HL.out g h)).avoid hnew).keep hks3 (by simp)
  have hkY:Keeps Y w w3:=Hk1.out.trans hks3 (by simp)
  have hm3:w3.cell? ⟨0,0,none⟩=some (.int .i64 m):=(hkY.cell (p:=⟨0,0,none⟩) hw0 H0.out).trans Hm.out
  have htk:=Lib.hid (btakes_any v rs m Hbss.out hbk3 hM h0M Hrl.out hm3 (by show 0 + rs.length≤_;omega))
  have HM0:=Lib.hid hM;have HN0:=Lib.hid hnew0;have HKY:=Lib.hid hkY
  have HY0:Hid (∀ g∈Y,g∈M0∧tg0 g=22):=fun g hg=>⟨in7 g (List.mem_append_left _ hg),t22 g hg⟩
  have HI0:Hid (∀ g∈Y++L,g∈M0):=in7
  have H99:Hid (∀ g,g < w.heap.size→g∉Y→tg0 g=99):=t99
  have hc3:w3.cell? ⟨a,3,none⟩=some (.pointer (some ⟨s,0,none⟩)):=hBa.cell 3
  have hw3':((w2.alloc (.map #[] 0)).alloc (.map #[] 0)).alloc (.cells #[.int .i64 node,.int .i64 reps,.pointer (some ⟨p,0,none⟩),.pointer (some ⟨s,0,none⟩),.int .i64 0,.int .i64 0,.int .i64 0,.map (some w2.heap.size),.map (some (w2.heap.size + 1))] 156)=w3:=hw3.symm
  rw [hw3',← ha]
  clear hw3 hw3' hb3 hT hA hBa i01 i12 i23 is0 iq3 t1 t10 t12 t14 t16 t20 t21 t22 t99 t23 t24 hM hnew hnew0 h0M in1 in2 in3 in4 in5 in6 in7 hqt hbk3 hks3 HBs HQ HI Hb2 Hbs Hbss hkY hm3 htb hab ha Hlg hslt hw1s hw3s hYs hal hpl
  go_wp2_with fail
  refine htk.out.mono ?_
  rintro e w4 ⟨rfl,M4,tg4,hb4,hx4,hk4⟩
  have hv4:=Hv3.out.rest hx4 hk4 (by simp) hb4
  obtain ⟨hbo,vs,vc,qb4,hbv⟩:=hb4
  have hep:0≤(takesB bk0 rs).ep∧(takesB bk0 rs).ep≤1073741824:=⟨hbo.1,hbo.2.1⟩
  obtain ⟨en,hen⟩:∃ en:Nat,(newBk b).ep=en:=⟨(newBk b).ep.toNat,by have:=HE.out.1;omega⟩
  have hwe:IntKind.i64.wrap ((takesB bk0 rs).ep + 1)=(en:Int):=by rw [IntKind.wrap_i64,← hen,HE.out.1];omega
  have hent:(newBk b).ep.toNat=en:=by omega
  obtain ⟨w5,hw5⟩:∃ w5,w5=w4.setCell ⟨s,0,none⟩ (.int .i64 en):=⟨_,rfl⟩
  obtain ⟨hv5b,hks5⟩:=hbv.setEp hx4.lt (en:Int)
  rw [← hw5] at hv5b hks5
  have c3:w4.cell? ⟨a,3,none⟩=some (.pointer (some ⟨s,0,none⟩)):=hv4.blk.cell 3
  have s0:w4.cell? ⟨s,0,none⟩=some (.int .i64 (takesB bk0 rs).ep):=hbv.blk.cell 0
  have f0:=hbv.blk.frozen 0
  have hx5:Ext w4 M4 tg4 w5 M4 tg4:=Ext.refl hx4.lt hks5.size
  have hba5:Blk w5 a 156 _:=blk_other hks5 hv4.blk (by rw [hv4.ta];simp)
  have c3':w5.cell? ⟨a,3,none⟩=some (.pointer (some ⟨s,0,none⟩)):=hba5.cell 3
  have s0':w5.cell? ⟨s,0,none⟩=some (.int .i64 en):=hv5b.blk.cell 0
  have hk35:Keeps (sel M0 tg0 (List.range 20)) w3 w5:=Ext.keeps hx4 hk4 (hks5.sel_mono (by simp))
  have hs0:∀ g∈M0,tg0 g < 30→g∈Y∨w.heap.size≤g:=fun g hg ht=>by
   by_cases h1:w.heap.size≤g
   ·exact .inr h1
   ·by_cases h2:g∈Y
    ·exact .inl h2
    ·have:=H99.out g (by omega) h2;omega
  have hkw5:Keeps Y w w5:=HKY.out.trans hk35 (fun g hg=>hs0 g (mem_sel.1 hg).1 (by have:=(mem_sel.1 hg).2;simp at this;omega))
  have h995:∀ g,g < w.heap.size→g∉Y→tg4 g=99:=fun g hg hn=>(hx4.tag g (Nat.lt_of_lt_of_le hg HKY.out.size)).trans (H99.out g hg hn)
  have hi5:∀ g∈Y++L,g∈M4:=fun g hg=>hx4.sub g (HI0.out g hg)
  have hn5:∀ g∈M4,g∈Y++L∨w.heap.size≤g:=fun g hg=>by
   rcases hx4.new g hg with h | h
   ·exact HN0.out g h
   ·right;have:=HKY.out.size;omega
  have hY5:∀ g∈Y,g∈M4∧tg4 g=22:=fun g hg=>⟨hx4.sub g (HY0.out g hg).1,by rw [hx4.tag g (HM0.out g (HY0.out g hg).1)];exact (HY0.out g hg).2⟩
  have H995:=Lib.hid h995;have HI5:=Lib.hid hi5
  have HS5:Hid (∀ g∈M4,tg4 g < 30→g∈Y∨w.heap.size≤g):=fun g hg ht=>by
   by_cases h1:w.heap.size≤g
   ·exact .inr h1
   ·by_cases h2:g∈Y
    ·exact .inl h2
    ·have:=h995 g (by omega) h2;omega
  have HKW5:=Lib.hid hkw5;have HN5:=Lib.hid hn5;have HY5:=Lib.hid hY5;have HL5:=Lib.hid hx5.lt
  have hw5':w4.setCell ⟨s,0,none⟩ (.int .i64 (en:Int))=w5:=hw5.symm
  have HV4:=Lib.hid hv4;have HBO:=Lib.hid hbo;have HV5:=Lib.hid hv5b;have HX5:=Lib.hid hx5;have HKS5:=Lib.hid hks5
  have Hep:=Lib.hid hep;have Hen:=Lib.hid hen;have Hent:=Lib.hid hent
  clear hw5 hx4 hk4 hv4 hbo hbv hv5b hks5 hx5 hba5 hk35 hkw5 hn5 hY5 h995 hi5 hs0 Hv3 htk HN0 HM0 HKY HY0 HI0 H99 hep hen hent
  rw [Hent.out,Hen.out] at HR HOK2
  by_cases hE:1073741824 < (en:Int)
  ·have hP:Hid (NwPostZ Y L d Z w (.returned (.pointer none)) w5):=by
    rw [HR.out,if_pos hE]
    exact ⟨HKW5.out,rfl⟩
   have d1:decide (1073741824 < (en:Int))=true:=decide_eq_true hE
   clear hE HR
   go_wp2
   go_ret
   exact hP.out
  ·rw [if_neg hE] at HR
   have d1:decide (1073741824 < (en:Int))=false:=decide_eq_false hE
   have hbk5:BkAt w5 M4 tg4 s (newBk b):=by
    obtain ⟨o1,o2,o3⟩:=HBO.out
    have h9:=HE.out.2
    rw [h9,Hen.out]
    exact ⟨⟨by show 0≤(en:Int);omega,by show (en:Int)≤_;omega,o3⟩,vs,vc,qb4,HV5.out⟩
   have Hv5:Hid (AgV w5 M4 tg4 a ⟨node,reps,0,0,0,newBk b,fun _ _=>none,[],b.take nn,nn,rs.length,0⟩ ⟨s,p,tb,ab,d,Y,0,0,.map [],.map []⟩):=HV4.out.rest HX5.out HKS5.out (by simp) hbk5
   have hE2:=Lib.hid hE
   clear hE hbk5 HV4 HBO HV5 HX5 HKS5
   go_wp2_with fail
   refine ((bkepoch_any en _ (by have:=hE2.out;omega)).mono fun e w' h=>rec_post_val h).mono ?_
   rintro e w6 ⟨Ar,mm,rfl,hbs6,hb6⟩
   have Hk6:=Lib.hid (Keeps.of_below (M:=[]) hb6)
   have Hv6:=Lib.hid (Hv5.out.keep0 HL5.out Hk6.out)
   have HL6:Hid (∀ g∈M4,g < w6.heap.size):=fun g hg=>Nat.lt_of_lt_of_le (HL5.out g hg) Hk6.out.size
   have hww:=Lib.hid (wwritex_any p Y d nn rs.length (b.take nn) w6 Hv6.out.lg _ _ hbs6)
   clear hbs6 hb6
   go_wp2_with fail
   refine hww.out.mono ?_
   intro e w7 hpo
   have he:=hpo.1
   subst he
   have Hpo:=Lib.hid hpo
   clear hpo hww
   by_cases hz:waCode (recE en) (b.take nn)=0
   ·rw [if_neg (by rw [hz];simp)] at HR
    have HG:Hid (∃ Y',LgAt w7 p Y' d (b.take nn++frameL (recE en)) ((b.take nn).length + (frameL (recE en)).length) (rs.length + 1)∧Grows Y w6 Y'∧Keeps (p :: Y) w6 w7):=by
     rcases Hpo.out.2 with ⟨_,h⟩ | ⟨h,_⟩
     ·exact h
     ·exact absurd hz h
    have hb:(waCode (recE en) (b.take nn) != 0)=false:=by simp [hz]
    obtain ⟨Y',hlg,hgr,hk67⟩:=HG.out
    obtain ⟨M7,tg7,hv7,hx7,hk7⟩:=Hv6.out.setLg HL6.out (b':=b.take nn++frameL (recE en)) (k':=(b.take nn).length + (frameL (recE en)).length) (n':=rs.length + 1) hlg hgr hk67
    have a3:w7.cell? ⟨a,3,none⟩=some (.pointer (some ⟨s,0,none⟩)):=hv7.blk.cell 3
    have a5:w7.cell? ⟨a,5,none⟩=some (.int .i64 0):=hv7.blk.cell 5
    have f5:=hv7.blk.frozen 5
    have e0:w7.cell? ⟨s,0,none⟩=some (.int .i64 en):=by
     obtain ⟨_,v1,v2,q1,hq⟩:=hv7.bk
     have h9:=hq.blk.cell 0
     have h8:w7.cell? ⟨s,0,none⟩=some (.int .i64 (newBk b).ep):=h9
     rw [Hen.out] at h8
     exact h8
    have hP:Hid (∀ W,W=w7.setCell ⟨a,5,none⟩ (.int .i64 ((en:Int) * 4294967296))→NwPostZ Y L d Z w (.returned (.pointer (some ⟨a,0,none⟩))) W):=fun W hW=>by
     have hka:Keeps [a] w7 W:=by rw [hW];exact (Keeps.refl _ _).setCell (by simp) _
     have hB:Blk W a 156 #[.int .i64 node,.int .i64 reps,.pointer (some ⟨p,0,none⟩),.pointer (some ⟨s,0,none⟩),.int .i64 0,.int .i64 ((en:Int) * 4294967296),.int .i64 0,.map (some tb),.map (some ab)]:=by
      have h9:=hv7.blk.set_ 5 (.int .i64 ((en:Int) * 4294967296))
      rw [hW]
      simpa [agCells] using h9
     have hab:ab≠a:=fun h=>absurd (hv7.tab.symm.trans ((congrArg tg7 h).trans hv7.ta)) (by decide)
     obtain ⟨r1,r2,r3⟩:=hv7.setAs hx7.lt (B:=⟨node,reps,0,(en:Int) * 4294967296,0,newBk b,fun _ _=>none,[],b.take nn++frameL (recE en),(b.take nn).length + (frameL (recE en)).length,rs.length + 1,0⟩) ⟨rfl,rfl,rfl,rfl,rfl,rfl⟩ (Nat.le_refl _) hB (om_keep hv7.as_ hka (by simpa using hab)) hv7.asD hv7.na (hka.mono (M':=[a,ab]) (by simp))
     have hkw6:Keeps Y w w6:=HKW5.out.trans Hk6.out (by simp)
     have hkY:Keeps Y w W:=by
      refine (hkw6.trans hk7 (fun g hg=>HS5.out g (mem_sel.1 hg).1 (by have:=(mem_sel.1 hg).2;simp at this;omega))).trans r3 (fun g hg=>?_)
      rcases hx7.new g (mem_sel.1 hg).1 with h | h
      ·refine HS5.out g h ?_
       have h9:=(mem_sel.1 hg).2
       rw [hx7.tag g (HL6.out g h)] at h9
       simp at h9
       omega
      ·right;have:=hkw6.size;omega
     rw [HR.out]
     refine ⟨hkY,a,M7,tg7,rfl,⟨HOK2.out hE2.out Hep.out.1,_,rfl,r1⟩,fun g hg=>?_,r2.lt,fun g hg=>hx7.sub g (HI5.out g hg),fun g hg=>by rw [hx7.tag g (HL6.out g (HY5.out g hg).1)];exact (HY5.out g hg).2,fun g hg hn=>(hx7.tag g (Nat.lt_of_lt_of_le hg hkw6.size)).trans (H995.out g hg hn)⟩
     rcases hx7.new g hg with h | h
     ·exact HN5.out g h
     ·right;have:=hkw6.size;omega
    have hsh:wrap64 ((en:Int) * 4294967296)=(en:Int) * 4294967296:=by
     have h9:=hE2.out
     unfold wrap64
     omega
    clear hlg hgr hk67 hv7 hx7 hk7 HG hz
    generalize waCode (recE en) (b.take nn)=cw at *
    go_upto_region 9 with (fail)
    go_wp2_with fail
    go_ret
    exact hP.out _ rfl
   ·have hP:Hid (NwPostZ Y L d Z w (.returned (.pointer none)) w7):=by
     rw [HR.out,if_pos hz]
     refine ⟨?_,rfl⟩
     rcases Hpo.out.2 with ⟨h,_⟩ | ⟨_,h⟩
     ·exact absurd h hz
     ·exact (HKW5.out.trans Hk6.out (by simp)).trans h (by simp)
    have hb:(waCode (recE en) (b.take nn) != 0)=true:=by simp [hz]
    clear hz HR Hpo
    generalize waCode (recE en) (b.take nn)=cw at *
    go_wp2
    go_ret
    exact hP.out
theorem agnew_any (h:DkAt w Y d b k) (node reps m:Int) (h0:0∉Y) (hm:w.cell? ⟨0,0,none⟩=some (.int .i64 m)) :
  Calls Tryz.prog 30 #[.int .i64 node,.int .i64 reps,.pointer (some ⟨d,0,none⟩)] w fun e w'=>NwPost Y d (agNew node reps b) w e w':=by
 refine (agnew_z [] (by simp) (by simp) h node reps m h0 hm).mono ?_
 rintro e w' ⟨h1,h2⟩
 refine ⟨h1,?_⟩
 cases hR:agNew node reps b with
 | none=>rw [hR] at h2;exact h2
 | some A=>
  rw [hR] at h2
  obtain ⟨a,M',tg',h3,h4,h5,h6,h7,h8,-⟩:=h2
  rw [List.append_nil] at h5 h7
  exact ⟨a,M',tg',h3,h4,h5,h6,fun g hg=>⟨h7 g hg,h8 g hg⟩⟩
end
end Go.Proofs.YtambjickanapjaaGreatDoor.Vi
end
section
namespace Go.Proofs.YtambjickanapjaaGreatDoor.Vi
open Go.RowKit Base Mem Go.Shelf Tape
/-- A new replica's word, and its disk. -/
def FrR (W:World) (r d:Nat) (F:List Nat):Prop:=∃ s p Y,(∀ g∈r :: s :: p :: Y,g∈F)∧W.cell? ⟨r,2,none⟩=some (.pointer (some ⟨s,0,none⟩))∧W.cell? ⟨r,4,none⟩=some (.int .i64 0)∧StAt W s p Y word0 d [] 0 0
theorem ens_none {w w':World} {M M':List Nat} {v:Value} (h:Ens w M v []):Ens w' M' v []:=by
 obtain ⟨ps,h1,⟨A,c,e,hc,hl,hr⟩,h3⟩:=h
 obtain rfl:ps=[]:=by simpa using h1
 exact ⟨[],rfl,⟨A,c,e,hc,hl,fun h=>absurd h (by simp)⟩,by simp⟩
theorem FrR.keep {W V:World} {r d:Nat} {F M:List Nat} (h:FrR W r d F) (hk:Keeps M W V) (hM:∀ g∈F,g∉M):FrR V r d F:=by
 obtain ⟨s,p,Y,hF,c2,c4,lv,hb,he,hl,hs,ho⟩:=h
 exact ⟨s,p,Y,hF,hk.c c2 (hM _ (hF _ (by simp))),hk.c c4 (hM _ (hF _ (by simp))),lv,hk.blk hb (hM _ (hF _ (by simp))),ens_none he,hl.keep hk (fun g hg=>hM _ (hF _ (by simp at hg ⊢;rcases hg with h | h <;> simp [h]))),hs,ho⟩
theorem FrR.of {W:World} {M:List Nat} {tg:Nat→Nat} {r d:Nat} {i n:Int} (h:RpAt W M tg r d (rpNew i n [])):FrR W r d M:=by
 obtain ⟨_,C,rfl,hv⟩:=h
 refine ⟨C.s,C.p,C.Y,fun g hg=>?_,(rpcells hv).2.2.1,(rpcells hv).2.2.2.2.1,hv.st.st⟩
 simp only [List.mem_cons] at hg
 rcases hg with rfl | rfl | rfl | hg
 ·exact hv.rM
 ·exact hv.sM
 ·exact hv.pM
 ·exact (hv.yM _ hg).1
def pl (f:Nat→Nat) (n:Nat):List Value:=(List.range n).map fun j=>.pointer (some ⟨f j,0,none⟩)
def up {α:Type} (f:Nat→α) (k:Nat) (x:α):Nat→α:=fun j=>if j=k then x else f j
theorem pl_up (f:Nat→Nat) (n x:Nat):pl (up f n x) (n + 1)=pl f n++[.pointer (some ⟨x,0,none⟩)]:=by
 unfold pl
 rw [List.range_succ,List.map_append]
 congr 1
 ·refine List.map_congr_left fun j hj=>?_
  have:=List.mem_range.1 hj
  unfold up
  rw [if_neg (by omega)]
 ·simp [up]
structure NwSt (w W:World) (g:Nat) (nv:Value) (nr nd na:Nat) (vr va vd:Value) (rs ds:Nat→Nat) (as_:List Value) (Fs:Nat→List Nat):Prop where
 blk:Blk W g 128 #[vr,va,vd,nv]
 gr:w.heap.size≤g
 kp:Keeps [] w W
 ro:W.ownsRow w.heap.size 129 1 vr nr (pl rs nr)
 do_:W.ownsRow w.heap.size 68 1 vd nd (pl ds nd)
 ao:W.ownsRow w.heap.size 75 1 va na as_
 fr:∀ j,j < nr→FrR W (rs j) (ds j) (Fs j)∧∀ x∈Fs j,x < W.heap.size∧x≠g∧vr.ownBlock≠some x∧va.ownBlock≠some x∧vd.ownBlock≠some x
 n1:vr.ownBlock≠some g∧va.ownBlock≠some g∧vd.ownBlock≠some g
 n2:∀ x,vr.ownBlock=some x→va.ownBlock≠some x∧vd.ownBlock≠some x
 n3:∀ x,va.ownBlock=some x→vd.ownBlock≠some x
section
variable {w W V:World} {g nr nd na:Nat} {nv vr va vd v':Value} {rs ds:Nat→Nat} {as_:List Value} {Fs:Nat→List Nat} {Y F:List Nat} {d r:Nat}
/-- Blocks that are none of its own. -/
def NwFree (g nr:Nat) (vr va vd:Value) (Fs:Nat→List Nat) (x:Nat):Prop:=x≠g∧vr.ownBlock≠some x∧va.ownBlock≠some x∧vd.ownBlock≠some x∧∀ j,j < nr→x∉Fs j
theorem NwSt.keepY (h:NwSt w W g nv nr nd na vr va vd rs ds as_ Fs) (hk:Keeps Y W V) (hY:∀ x∈Y,w.heap.size≤x∧NwFree g nr vr va vd Fs x):NwSt w V g nv nr nd na vr va vd rs ds as_ Fs:=
 ⟨hk.blk h.blk (fun hm=>(hY g hm).2.1 rfl),h.gr,h.kp.trans hk (fun x hx=>.inr (hY x hx).1),own_other2 h.ro hk (fun x e hm=>(hY x hm).2.2.1 e),own_other2 h.do_ hk (fun x e hm=>(hY x hm).2.2.2.2.1 e),own_other2 h.ao hk (fun x e hm=>(hY x hm).2.2.2.1 e),
  fun j hj=>⟨(h.fr j hj).1.keep hk (fun x hx hm=>(hY x hm).2.2.2.2.2 j hj hx),fun x hx=>⟨Nat.lt_of_lt_of_le ((h.fr j hj).2 x hx).1 hk.size,((h.fr j hj).2 x hx).2⟩⟩,h.n1,h.n2,h.n3⟩
theorem NwSt.free (h:NwSt w W g nv nr nd na vr va vd rs ds as_ Fs) {x:Nat} (hx:W.heap.size≤x):NwFree g nr vr va vd Fs x:=
 ⟨fun e=>by have:=h.blk.lt;omega,fun e=>by have:=(h.ro.lt x e).2;omega,fun e=>by have:=(h.ao.lt x e).2;omega,fun e=>by have:=(h.do_.lt x e).2;omega,fun j hj hm=>by have:=((h.fr j hj).2 x hm).1;omega⟩
theorem NwSt.disk (h:NwSt w W g nv nr nd na vr va vd rs ds as_ Fs) (hn:nr≤nd) (hown:V.ownsRow w.heap.size 68 1 v' (nd + 1) (pl ds nd++[.pointer (some ⟨d,0,none⟩)])) (hg:W.grownBy V vd.ownBlock) (hat:v'.ownBlock=vd.ownBlock∨v'.ownBlock=some W.heap.size∨v'.ownBlock=some (W.heap.size + 1)) :
  NwSt w (V.setCell ⟨g,2,none⟩ v') g nv nr (nd + 1) na vr va v' rs (up ds nd d) as_ Fs:=by
 have hk1:Keeps vd.ownBlock.toList W V:=(Keeps.refl _ _).grown hg (fun x hx=>.inl (by simp [hx]))
 have hx1:∀ x,x < W.heap.size→vd.ownBlock≠some x→v'.ownBlock≠some x:=fun x h1 h2 e=>by
  rcases hat with q | q | q
  ·exact h2 (q ▸ e)
  ·rw [q] at e;injection e;omega
  ·rw [q] at e;injection e;omega
 have hk2:Keeps (g :: vd.ownBlock.toList) W (V.setCell ⟨g,2,none⟩ v'):=(hk1.mono (fun x hx=>.inl (by simp at hx ⊢;exact .inr hx))).setCell (.inl (by simp)) _
 have hg2:∀ x,x≠g→vd.ownBlock≠some x→x∉g :: vd.ownBlock.toList:=fun x h1 h2 hm=>by simp at hm;rcases hm with e | e;exact h1 e;exact h2 e
 have hnd:∀ j,j < nr→up ds nd d j=ds j:=fun j hj=>if_neg (by omega)
 refine ⟨(hk1.blk h.blk (by simpa using h.n1.2.2)).set_ 2 v',h.gr,h.kp.trans hk2 (fun x hx=>.inr ?_),own_other2 h.ro hk2 (fun x e=>hg2 x (fun q=>h.n1.1 (q ▸ e)) (h.n2 x e).2),?_,own_other2 h.ao hk2 (fun x e=>hg2 x (fun q=>h.n1.2.1 (q ▸ e)) (h.n3 x e)),fun j hj=>?_,⟨h.n1.1,h.n1.2.1,hx1 g h.blk.lt h.n1.2.2⟩,fun x e=>⟨(h.n2 x e).1,hx1 x (h.ro.lt x e).2 (h.n2 x e).2⟩,fun x e=>hx1 x (h.ao.lt x e).2 (h.n3 x e)⟩
 ·simp at hx
  rcases hx with e | e
  ·rw [e];exact h.gr
  ·exact (h.do_.lt x e).1
 ·rw [pl_up]
  exact own_other2 hown ((Keeps.refl [g] V).setCell (.inl (by simp)) v') (fun x e hm=>by simp at hm;subst hm;exact hx1 x h.blk.lt h.n1.2.2 e)
 ·obtain ⟨h1,h2⟩:=h.fr j hj
  rw [hnd j hj]
  exact ⟨h1.keep hk2 (fun x hx=>hg2 x (h2 x hx).2.1 (h2 x hx).2.2.2.2),fun x hx=>⟨Nat.lt_of_lt_of_le (h2 x hx).1 hk2.size,(h2 x hx).2.1,(h2 x hx).2.2.1,(h2 x hx).2.2.2.1,hx1 x (h2 x hx).1 (h2 x hx).2.2.2.2⟩⟩
theorem NwSt.rep (h:NwSt w W g nv nr nd na vr va vd rs ds as_ Fs) (hf:FrR W r (ds nr) F) (hF:∀ x∈F,x < W.heap.size∧NwFree g nr vr va vd Fs x) (hown:V.ownsRow w.heap.size 129 1 v' (nr + 1) (pl rs nr++[.pointer (some ⟨r,0,none⟩)])) (hg:W.grownBy V vr.ownBlock) (hat:v'.ownBlock=vr.ownBlock∨v'.ownBlock=some W.heap.size∨v'.ownBlock=some (W.heap.size + 1)) :
  NwSt w (V.setCell ⟨g,0,none⟩ v') g nv (nr + 1) nd na v' va vd (up rs nr r) ds as_ (up Fs nr F):=by
 have hk1:Keeps vr.ownBlock.toList W V:=(Keeps.refl _ _).grown hg (fun x hx=>.inl (by simp [hx]))
 have hx1:∀ x,x < W.heap.size→vr.ownBlock≠some x→v'.ownBlock≠some x:=fun x h1 h2 e=>by
  rcases hat with q | q | q
  ·exact h2 (q ▸ e)
  ·rw [q] at e;injection e;omega
  ·rw [q] at e;injection e;omega
 have hk2:Keeps (g :: vr.ownBlock.toList) W (V.setCell ⟨g,0,none⟩ v'):=(hk1.mono (fun x hx=>.inl (by simp at hx ⊢;exact .inr hx))).setCell (.inl (by simp)) _
 have hg2:∀ x,x≠g→vr.ownBlock≠some x→x∉g :: vr.ownBlock.toList:=fun x h1 h2 hm=>by simp at hm;rcases hm with e | e;exact h1 e;exact h2 e
 have hra:∀ x,va.ownBlock=some x→vr.ownBlock≠some x:=fun x e q=>(h.n2 x q).1 e
 have hrd:∀ x,vd.ownBlock=some x→vr.ownBlock≠some x:=fun x e q=>(h.n2 x q).2 e
 refine ⟨(hk1.blk h.blk (by simpa using h.n1.1)).set_ 0 v',h.gr,h.kp.trans hk2 (fun x hx=>.inr ?_),?_,own_other2 h.do_ hk2 (fun x e=>hg2 x (fun q=>h.n1.2.2 (q ▸ e)) (hrd x e)),own_other2 h.ao hk2 (fun x e=>hg2 x (fun q=>h.n1.2.1 (q ▸ e)) (hra x e)),fun j hj=>?_,⟨hx1 g h.blk.lt h.n1.1,h.n1.2.1,h.n1.2.2⟩,fun x e=>⟨fun q=>hx1 x (h.ao.lt x q).2 (hra x q) e,fun q=>hx1 x (h.do_.lt x q).2 (hrd x q) e⟩,h.n3⟩
 ·simp at hx
  rcases hx with e | e
  ·rw [e];exact h.gr
  ·exact (h.ro.lt x e).1
 ·rw [pl_up]
  exact own_other2 hown ((Keeps.refl [g] V).setCell (.inl (by simp)) v') (fun x e hm=>by simp at hm;subst hm;exact hx1 x h.blk.lt h.n1.1 e)
 ·by_cases hj':j=nr
  ·subst hj'
   simp only [up,if_pos]
   exact ⟨hf.keep hk2 (fun x hx=>hg2 x (hF x hx).2.1 (hF x hx).2.2.1),fun x hx=>⟨Nat.lt_of_lt_of_le (hF x hx).1 hk2.size,(hF x hx).2.1,hx1 x (hF x hx).1 (hF x hx).2.2.1,(hF x hx).2.2.2.1,(hF x hx).2.2.2.2.1⟩⟩
  ·obtain ⟨h1,h2⟩:=h.fr j (by omega)
   simp only [up,if_neg hj']
   exact ⟨h1.keep hk2 (fun x hx=>hg2 x (h2 x hx).2.1 (h2 x hx).2.2.1),fun x hx=>⟨Nat.lt_of_lt_of_le (h2 x hx).1 hk2.size,(h2 x hx).2.1,hx1 x (h2 x hx).1 (h2 x hx).2.2.1,(h2 x hx).2.2.2.1,(h2 x hx).2.2.2.2⟩⟩
theorem NwSt.ag (h:NwSt w W g nv nr nd na vr va vd rs ds as_ Fs) (u:Value) (hown:V.ownsRow w.heap.size 75 1 v' (na + 1) (as_++[u])) (hg:W.grownBy V va.ownBlock) (hat:v'.ownBlock=va.ownBlock∨v'.ownBlock=some W.heap.size∨v'.ownBlock=some (W.heap.size + 1)) :
  NwSt w (V.setCell ⟨g,1,none⟩ v') g nv nr nd (na + 1) vr v' vd rs ds (as_++[u]) Fs:=by
 have hk1:Keeps va.ownBlock.toList W V:=(Keeps.refl _ _).grown hg (fun x hx=>.inl (by simp [hx]))
 have hx1:∀ x,x < W.heap.size→va.ownBlock≠some x→v'.ownBlock≠some x:=fun x h1 h2 e=>by
  rcases hat with q | q | q
  ·exact h2 (q ▸ e)
  ·rw [q] at e;injection e;omega
  ·rw [q] at e;injection e;omega
 have hk2:Keeps (g :: va.ownBlock.toList) W (V.setCell ⟨g,1,none⟩ v'):=(hk1.mono (fun x hx=>.inl (by simp at hx ⊢;exact .inr hx))).setCell (.inl (by simp)) _
 have hg2:∀ x,x≠g→va.ownBlock≠some x→x∉g :: va.ownBlock.toList:=fun x h1 h2 hm=>by simp at hm;rcases hm with e | e;exact h1 e;exact h2 e
 have hda:∀ x,vd.ownBlock=some x→va.ownBlock≠some x:=fun x e q=>h.n3 x q e
 refine ⟨(hk1.blk h.blk (by simpa using h.n1.2.1)).set_ 1 v',h.gr,h.kp.trans hk2 (fun x hx=>.inr ?_),own_other2 h.ro hk2 (fun x e=>hg2 x (fun q=>h.n1.1 (q ▸ e)) (h.n2 x e).1),own_other2 h.do_ hk2 (fun x e=>hg2 x (fun q=>h.n1.2.2 (q ▸ e)) (hda x e)),?_,fun j hj=>?_,⟨h.n1.1,hx1 g h.blk.lt h.n1.2.1,h.n1.2.2⟩,fun x e=>⟨hx1 x (h.ro.lt x e).2 (h.n2 x e).1,(h.n2 x e).2⟩,fun x e q=>hx1 x (h.do_.lt x q).2 (hda x q) e⟩
 ·simp at hx
  rcases hx with e | e
  ·rw [e];exact h.gr
  ·exact (h.ao.lt x e).1
 ·exact own_other2 hown ((Keeps.refl [g] V).setCell (.inl (by simp)) v') (fun x e hm=>by simp at hm;subst hm;exact hx1 x h.blk.lt h.n1.2.1 e)
 ·obtain ⟨h1,h2⟩:=h.fr j hj
  exact ⟨h1.keep hk2 (fun x hx=>hg2 x (h2 x hx).2.1 (h2 x hx).2.2.2.1),fun x hx=>⟨Nat.lt_of_lt_of_le (h2 x hx).1 hk2.size,(h2 x hx).2.1,(h2 x hx).2.2.1,hx1 x (h2 x hx).1 (h2 x hx).2.2.2.1,(h2 x hx).2.2.2.2⟩⟩
end
theorem eltRep:Elt Tryz.prog 124 129 1 8:=⟨by kernel_rfl,⟨.pointer none,by kernel_rfl,rfl⟩,by omega⟩
theorem eltAg:Elt Tryz.prog 125 75 1 8:=⟨by kernel_rfl,⟨.pointer none,by kernel_rfl,rfl⟩,by omega⟩
theorem eltDisk:Elt Tryz.prog 126 68 1 8:=⟨by kernel_rfl,⟨.pointer none,by kernel_rfl,rfl⟩,by omega⟩
theorem netnew_any (n:Int) (h1:1≤n) (h8:n≤8) (w:World):Calls Tryz.prog 62 #[.int .i64 n] w fun e w'=>∃ b,e=.returned (.pointer (some ⟨b,0,none⟩))∧Keeps [] w w':=by
 have e1:decide (n < 1)=false:=decide_eq_false (by omega)
 have e2:decide (8 < n)=false:=decide_eq_false (by omega)
 go_enter Tryz.func62,Tryz.ntmps62
 go_wp2
 go_ret
 exact ⟨_,rfl,(Keeps.refl _ _).alloc _⟩
def WnPost (w:World) (e:Ending) (w':World):Prop:=∃ g nv vr va vd rs ds as_ Fs,e=.returned (.pointer (some ⟨g,0,none⟩))∧NwSt w w' g nv 2 3 1 vr va vd rs ds as_ Fs
/-- append of one element, in a drawn region. -/
theorem apw {P:Program} {o:Oper} {a:Act} {K:Act→World→Prop} {Q:Exit→Act→World→Prop} {w W:World} {t e:TypeId} {size bytes base n:Nat} {v:Value} {xs ns:List Value} (E:Elt P t e size bytes) (s x:Operand) (T:TypeId) (hW:W=(w.alloc (.cells ns.toArray T)).drew∨W=w.alloc (.cells ns.toArray T)) (hown:w.ownsRow base e size v n xs) (hb:base≤w.heap.size)
  (h:∀ v' w',w'.ownsRow base e size v' (n + 1) (xs++ns)→w.grownBy w' v.ownBlock→(v'.ownBlock=v.ownBlock∨v'.ownBlock=some w.heap.size∨v'.ownBlock=some (w.heap.size + 1))→K (a.put o.dst v') w')
  (hn:(n + 1) * bytes≤140737488355328) (hm:n + 1≤maxLen) (hl:ns.length=size) (h1:∀ u∈ns,u.oneCell'=true)
  (hs:a.eval s=v) (hx:a.eval x=.slice (some ⟨w.heap.size,0,none⟩) 1 1)
  (ho:o.op=.call { callee:=.builtin .append,args:=#[s,x],argTypes:=#[t,t] }):o.wp P a W K Q:=by
 obtain ⟨z,hi,hz⟩:=E.inf
 obtain ⟨i0,hi0,hz0,hz1,hz2⟩:=info_parts hi
 have hsz:W.heap.size=w.heap.size + 1:=by rcases hW with rfl | rfl <;> simp
 have hbl:∀ g,g < w.heap.size→W.heap[g]? = w.heap[g]?:=fun g hg=>by rcases hW with rfl | rfl <;> exact Below.heap_alloc w _ g hg
 have hos:W.os=w.os∧W.tape=w.tape∧W.output=w.output:=by rcases hW with rfl | rfl <;> exact ⟨rfl,rfl,rfl⟩
 have ho2:W.ownsRow base e size v n xs:=by rcases hW with rfl | rfl <;> exact hown.alloc _
 have hr:Reads W (w.heap.size + 1) size (some ⟨w.heap.size,0,none⟩) 1 ns:=by rcases hW with rfl | rfl <;> exact reads_new _ _ _ _ _ (by rw [hl,Nat.one_mul])
 refine wp_append_any W s x t ho base e i0 z size bytes E.ut hi0 hz0 hz1 hz2 hz E.pos v n xs hs ho2 (w.heap.size + 1) _ 1 1 ns hx hr h1 hm hn (by omega) (fun v' w' h2 h3 h4=>h v' w' h2 ?_ ?_)
 ·exact ⟨h3.os.trans hos.1,h3.tape.trans hos.2.1,h3.output.trans hos.2.2,by have:=h3.size;omega,fun g hg hr=>(h3.block g (by omega) hr).trans (hbl g hg)⟩
 ·rw [hsz] at h4
  rcases h4 with h4 | h4
  ·exact .inl h4
  ·exact .inr (.inr h4)
theorem wnew_any (mx:Int) (w:World) (hm:w.cell? ⟨0,0,none⟩=some (.int .i64 mx)) :
  Calls Tryz.prog 22 #[.int .i64 2,.int .i64 1] w fun e w'=>WnPost w e w':=by
 have Hm:Hid (∀ W,Keeps [] w W→W.cell? ⟨0,0,none⟩=some (.int .i64 mx)):=fun W hk=>hk.c hm
 have hw0:0 < w.heap.size:=by
  have:=World.block_lt_of_cell? w _ hm
  simpa using this
 clear hm
 go_enter Tryz.func22,Tryz.ntmps22
 go_wp2_with fail
 refine (netnew_any 3 (by omega) (by omega) _).mono ?_
 rintro e w1 ⟨nb,rfl,hk1⟩
 have HS0:Hid (NwSt w (w1.alloc (.cells #[.slice none 0 0,.slice none 0 0,.slice none 0 0,.pointer (some ⟨nb,0,none⟩)] 128)) w1.heap.size (.pointer (some ⟨nb,0,none⟩)) 0 0 0 (.slice none 0 0) (.slice none 0 0) (.slice none 0 0) (fun _=>0) (fun _=>0) [] (fun _=>[])):=
  ⟨Blk.new _ _ _,hk1.size,hk1.alloc _,World.ownsRow_nil _ _ _ _,World.ownsRow_nil _ _ _ _,World.ownsRow_nil _ _ _ _,fun j hj=>absurd hj (by omega),by simp [Value.ownBlock],by simp [Value.ownBlock],by simp [Value.ownBlock]⟩
 obtain ⟨g,Hg⟩:∃ g,Hid (g=w1.heap.size):=⟨_,rfl⟩
 go_upto_region 4 with (fail)
 generalize w1.alloc (.cells #[.slice none 0 0,.slice none 0 0,.slice none 0 0,.pointer (some ⟨nb,0,none⟩)] 128)=w2 at *
 rw [← Hg.out] at HS0 ⊢
 clear Hg hk1
 go_wp2_with fail
 go_loopw [33] (fun i wr=>∃ (x:Nat) (vr va vd:Value) (rs ds:Nat→Nat) (as_:List Value) (Fs:Nat→List Nat),i=.int .i64 x∧x≤3∧Hid (NwSt w wr g (.pointer (some ⟨nb,0,none⟩)) (min x 2) x (x - 2) vr va vd rs ds as_ Fs)) (fun i _=>3 - (intOf i).toNat)
 case atStart=>exact ⟨0,_,_,_,_,_,_,_,rfl,by omega,HS0⟩
 case round=>
  obtain ⟨x,vr,va,vd,rs,ds,as_,Fs,rfl,hx,HS⟩:=hrel
  clear HS0
  by_cases hlx:x < 3
  ·have hx1:(x:Int) < 3:=by omega
   go_wp2_with fail
   refine (dknew_any wr).mono ?_
   rintro e w3 ⟨rfl,hd3,hb3⟩
   have HS3:=Lib.hid (HS.out.keepY (Keeps.of_below (M:=[]) hb3) (by simp))
   have HFd:=Lib.hid (HS.out.free (Nat.le_refl _))
   have Hwd:Hid (w.heap.size≤wr.heap.size):=HS.out.kp.size
   have HD3:=Lib.hid hd3
   obtain ⟨d,Hd⟩:∃ d,Hid (d=wr.heap.size):=⟨_,rfl⟩
   rw [← Hd.out] at HFd HD3 Hwd ⊢
   have hbl:=HS3.out.blk
   have c2:=hbl.cell 2
   simp only [List.getElem?_toArray,List.getElem?_cons_succ,List.getElem?_cons_zero] at c2
   have hg3:=hbl.lt
   clear hd3 hb3 HS hbl
   go_upto_region 9 with (at_builtin;refine ap1 eltDisk (.tmp 41) (.tmp 43) HS3.out.do_ HS3.out.kp.size (fun v' w5 hown5 hg5 hat5=>?_);obtain ⟨A5,c5,rfl,-⟩:=Rd.of_own (M:=[]) hown5 (by simp);have hkd:Keeps vd.ownBlock.toList w3 w5:=(Keeps.refl _ _).grown hg5 (fun y hy=>.inl (by simp [hy]));have hb5:=hkd.blk HS3.out.blk (by simpa using HS3.out.n1.2.2);have d2:=hb5.cell 2;simp only [List.getElem?_toArray,List.getElem?_cons_succ,List.getElem?_cons_zero] at d2;have f2:=hb5.frozen 2;have hg5':=hb5.lt)
   have HS5:=Lib.hid (HS3.out.disk (by omega) hown5 hg5 hat5 (d:=d))
   have HD5:Hid (DkAt (w5.setCell ⟨g,2,none⟩ (.slice A5 (x + 1) c5)) [d] d [] 0):=by
    have hk:Keeps (g :: vd.ownBlock.toList) w3 (w5.setCell ⟨g,2,none⟩ (.slice A5 (x + 1) c5)):=(hkd.mono (fun y hy=>.inl (by simp at hy ⊢;exact .inr hy))).setCell (.inl (by simp)) _
    refine HD3.out.keep hk (fun y hy hm=>?_)
    simp at hy
    subst hy
    simp at hm
    rcases hm with e | e
    ·exact HFd.out.1 e
    ·exact HFd.out.2.2.2.1 e
   have HFd5:Hid (NwFree g (min x 2) vr va (.slice A5 (x + 1) c5) Fs d):=⟨HFd.out.1,HFd.out.2.1,HFd.out.2.2.1,fun e=>by
    rcases hat5 with q | q | q
    ·exact HFd.out.2.2.2.1 (q ▸ e)
    ·rw [q] at e;injection e with e;have:=HD3.out.lt;omega
    ·rw [q] at e;injection e with e;have:=HD3.out.lt;omega,HFd.out.2.2.2.2⟩
   clear hkd hb5 hown5 hg5 hat5 HS3 HD3 HFd c2 hg3
   clear d2 f2 hg5'
   generalize w5.setCell ⟨g,2,none⟩ (.slice A5 (x + 1) c5)=w6 at *
   by_cases h2:x < 2
   ·have hx2:(x:Int) < 2:=by omega
    have hm2:min x 2=x:=by omega
    have hm3:x - 2=0:=by omega
    rw [hm2,hm3] at HS5
    rw [hm2] at HFd5
    clear hm2 hm3
    have HQ:Hid (∀ W,Keeps [] w6 W→Calls Tryz.prog 63 #[.int .i64 x,.int .i64 2,.pointer (some ⟨d,0,none⟩)] W fun e W'=>∃ r F,e=.returned (.pointer (some ⟨r,0,none⟩))∧FrR W' r d F∧(∀ y∈F,y < W'.heap.size∧NwFree g x vr va (.slice A5 (x + 1) c5) Fs y)∧NwSt w W' g (.pointer (some ⟨nb,0,none⟩)) x (x + 1) 0 vr va (.slice A5 (x + 1) c5) rs (up ds x d) as_ Fs):=fun W hk=>by
     have hd0:0≠d:=fun h0=>by have:=Hwd.out;omega
     refine (rpnew_any x 2 (by omega) (by omega) (by omega) (by omega) (HD5.out.keep0 hk) mx (Hm.out _ (HS5.out.kp.trans hk (by simp))) (by simpa using hd0)).mono ?_
     rintro e W' ⟨r,M,tg,rfl,hat,hM,hlt,-,hk',-⟩
     have hS:=HS5.out.keepY hk (by simp)
     refine ⟨r,M,rfl,FrR.of hat,fun y hy=>⟨hlt y hy,?_⟩,hS.keepY hk' (fun y hy=>by simp at hy;subst hy;exact ⟨Hwd.out,HFd5.out⟩)⟩
     rcases hM y hy with h | h
     ·simp at h;subst h;exact HFd5.out
     ·exact hS.free h
    have c0:w6.cell? ⟨g,0,none⟩=some vr:=HS5.out.blk.cell 0
    go_upto_region 10 with (fail)
    refine wp_region_held_drew (S:=fun _=>True) (by kernel_rfl) trivial (fun hHeld=>?_)
    refine tk [0,1,2,3,5,6,7] ?_
    refine wpAnyH_ready (rs:=[4,8]) (by kernel_rfl) (by simp) ?_
    refine AllReadyH.cons (o:=_) rfl (fun K hK=>?A) (AllReadyH.cons (o:=_) rfl (fun K hK=>?B) AllReadyH.nil)
    case' A=>
     go_simp
     refine hK.out _ _ trivial (fun _=>?_)
     clear hK K hHeld c0
     refine rd 8 (fun K hK=>?_)
     go_simp
     refine (HQ.out _ (Keeps.refl _ _).drew).mono ?_
     rintro e w7 ⟨r,F,rfl,hf,hF,hS⟩
     have Hf:=Lib.hid hf;have HF:=Lib.hid hF;have HS7:=Lib.hid hS
     clear hf hF hS
     refine hK.out _ _ trivial (fun hHeld=>?_)
     clear hK K
    case' B=>
     clear c0
     go_simp
     refine (HQ.out _ (Keeps.refl _ _).drew).mono ?_
     rintro e w7 ⟨r,F,rfl,hf,hF,hS⟩
     have Hf:=Lib.hid hf;have HF:=Lib.hid hF;have HS7:=Lib.hid hS
     clear hf hF
     have c0:w7.cell? ⟨g,0,none⟩=some vr:=hS.blk.cell 0
     have hgl:=hS.blk.lt
     clear hS
     refine hK.out _ _ trivial (fun hHeld=>?_)
     clear hK K
     try simp only [sgl,Act.put]
     refine wpAnyH_ready (rs:=[4,9]) (by kernel_rfl) (by simp) ?_
     refine AllReadyH.cons (o:=_) rfl (fun K hK=>?C) (AllReadyH.cons (o:=_) rfl (fun K hK=>?D) AllReadyH.nil)
    case' C=>
     go_simp
     refine hK.out _ _ trivial (fun hHeld=>?_)
     clear hK K c0 hgl
    case' A | C=>
     try simp only [sgl,Act.put]
     refine rd 9 (fun K hK=>?_)
     go_simp
     refine hK.out _ _ trivial (fun hHeld=>?_)
     clear hK K
    case' D=>
     go_simp
     refine hK.out _ _ trivial (fun hHeld=>?_)
     clear hK K
     try simp only [sgl,Act.put]
     refine rd 4 (fun K hK=>?_)
     go_simp
     refine hK.out _ _ trivial (fun hHeld=>?_)
     clear hK K c0 hgl
    all_goals
     try simp only [sgl,Act.put]
     refine rd 10 (fun K hK=>?_)
     rw [if_pos (by rfl)]
     refine apw eltRep (.tmp 54) (.tmp 59) 129 (.inr rfl) HS7.out.ro HS7.out.kp.size (fun v' w8 hown8 hg8 hat8=>?_) (by omega) (by unfold maxLen;omega) rfl (by simp [Value.oneCell']) rfl rfl rfl
     obtain ⟨A8,c8,rfl,-⟩:=Rd.of_own (M:=[]) hown8 (by simp)
     have hkr:Keeps vr.ownBlock.toList w7 w8:=(Keeps.refl _ _).grown hg8 (fun y hy=>.inl (by simp [hy]))
     have hb8:=hkr.blk HS7.out.blk (by simpa using HS7.out.n1.1)
     have d0:=hb8.cell 0
     simp only [List.getElem?_toArray,List.getElem?_cons_zero] at d0
     have f0:=hb8.frozen 0
     have hl8:=hb8.lt
     have HS8:=Lib.hid (HS7.out.rep (by simpa [up] using Hf.out) HF.out hown8 hg8 hat8)
     clear hkr hb8 hown8 hg8 hat8 HS7 Hf HF
     refine hK.out _ _ trivial (fun hHeld=>?_)
     clear hK K
     refine tk [11,12] ?_
     refine rd 13 (fun K hK=>?_)
     go_simp
     refine hK.out _ _ trivial (fun hHeld=>?_)
     clear hK K d0 f0 hl8
     refine dn ?_
     go_wp2_with fail
     go_roundw
     case rel=>exact ⟨x + 1,_,_,_,_,_,_,_,by go_num,by omega,(by rw [show min (x + 1) 2=x + 1 by omega,show x + 1 - 2=0 by omega];exact HS8.out)⟩
     case measure=>simp [intOf] <;> omega
   ·have hx2:decide ((x:Int) < 2)=false:=decide_eq_false (by omega)
    have hm2:min x 2=2:=by omega
    have hm3:x - 2=0:=by omega
    rw [hm2,hm3] at HS5
    rw [hm2] at HFd5
    clear hm2 hm3
    have HQ:Hid (∀ W,Keeps [] w6 W→Calls Tryz.prog 30 #[.int .i64 x,.int .i64 2,.pointer (some ⟨d,0,none⟩)] W fun e W'=>∃ q:Option Addr,e=.returned (.pointer q)∧NwSt w W' g (.pointer (some ⟨nb,0,none⟩)) 2 (x + 1) 0 vr va (.slice A5 (x + 1) c5) rs (up ds x d) as_ Fs):=fun W hk=>by
     have hd0:0≠d:=fun h0=>by have:=Hwd.out;omega
     refine (agnew_any (HD5.out.keep0 hk) x 2 mx (by simpa using hd0) (Hm.out _ (HS5.out.kp.trans hk (by simp)))).mono ?_
     rintro e W' ⟨hk',hR⟩
     have hS:=(HS5.out.keepY hk (by simp)).keepY hk' (fun y hy=>by simp at hy;subst hy;exact ⟨Hwd.out,HFd5.out⟩)
     cases hA:agNew (x:Int) 2 [] with
     | none=>rw [hA] at hR;exact ⟨none,hR,hS⟩
     | some A=>rw [hA] at hR;obtain ⟨a,_,_,he,_⟩:=hR;exact ⟨_,he,hS⟩
    have c0:w6.cell? ⟨g,1,none⟩=some va:=HS5.out.blk.cell 1
    go_upto_region 11 with (fail)
    refine wp_region_held_drew (S:=fun _=>True) (by kernel_rfl) trivial (fun hHeld=>?_)
    refine tk [0,1,2,3,5,6,7] ?_
    refine wpAnyH_ready (rs:=[4,8]) (by kernel_rfl) (by simp) ?_
    refine AllReadyH.cons (o:=_) rfl (fun K hK=>?E1) (AllReadyH.cons (o:=_) rfl (fun K hK=>?F1) AllReadyH.nil)
    case' E1=>
     go_simp
     refine hK.out _ _ trivial (fun _=>?_)
     clear hK K hHeld c0
     refine rd 8 (fun K hK=>?_)
     go_simp
     refine (HQ.out _ (Keeps.refl _ _).drew).mono ?_
     rintro e w7 ⟨q,rfl,hS⟩
     have HS7:=Lib.hid hS
     clear hS
     refine hK.out _ _ trivial (fun hHeld=>?_)
     clear hK K
    case' F1=>
     clear c0
     go_simp
     refine (HQ.out _ (Keeps.refl _ _).drew).mono ?_
     rintro e w7 ⟨q,rfl,hS⟩
     have HS7:=Lib.hid hS
     have c0:w7.cell? ⟨g,1,none⟩=some va:=hS.blk.cell 1
     have hgl:=hS.blk.lt
     clear hS
     refine hK.out _ _ trivial (fun hHeld=>?_)
     clear hK K
     try simp only [sgl,Act.put]
     refine wpAnyH_ready (rs:=[4,9]) (by kernel_rfl) (by simp) ?_
     refine AllReadyH.cons (o:=_) rfl (fun K hK=>?G1) (AllReadyH.cons (o:=_) rfl (fun K hK=>?H1) AllReadyH.nil)
    case' G1=>
     go_simp
     refine hK.out _ _ trivial (fun hHeld=>?_)
     clear hK K c0 hgl
    case' E1 | G1=>
     try simp only [sgl,Act.put]
     refine rd 9 (fun K hK=>?_)
     go_simp
     refine hK.out _ _ trivial (fun hHeld=>?_)
     clear hK K
    case' H1=>
     go_simp
     refine hK.out _ _ trivial (fun hHeld=>?_)
     clear hK K
     try simp only [sgl,Act.put]
     refine rd 4 (fun K hK=>?_)
     go_simp
     refine hK.out _ _ trivial (fun hHeld=>?_)
     clear hK K c0 hgl
    all_goals
     try simp only [sgl,Act.put]
     refine rd 10 (fun K hK=>?_)
     rw [if_pos (by rfl)]
     refine apw eltAg (.tmp 67) (.tmp 72) 75 (.inr rfl) HS7.out.ao HS7.out.kp.size (fun v' w8 hown8 hg8 hat8=>?_) (by omega) (by unfold maxLen;omega) rfl (by simp [Value.oneCell']) rfl rfl rfl
     obtain ⟨A8,c8,rfl,-⟩:=Rd.of_own (M:=[]) hown8 (by simp)
     have hkr:Keeps va.ownBlock.toList w7 w8:=(Keeps.refl _ _).grown hg8 (fun y hy=>.inl (by simp [hy]))
     have hb8:=hkr.blk HS7.out.blk (by simpa using HS7.out.n1.2.1)
     have d0:=hb8.cell 1
     simp only [List.getElem?_toArray,List.getElem?_cons_succ,List.getElem?_cons_zero] at d0
     have f0:=hb8.frozen 1
     have hl8:=hb8.lt
     have HS8:=Lib.hid (HS7.out.ag _ hown8 hg8 hat8)
     clear hkr hb8 hown8 hg8 hat8 HS7
     refine hK.out _ _ trivial (fun hHeld=>?_)
     clear hK K
     refine tk [11,12] ?_
     refine rd 13 (fun K hK=>?_)
     go_simp
     refine hK.out _ _ trivial (fun hHeld=>?_)
     clear hK K d0 f0 hl8
     refine dn ?_
     go_wp2_with fail
     go_roundw
     case rel=>exact ⟨x + 1,_,_,_,_,_,_,_,by go_num,by omega,(by rw [show min (x + 1) 2=2 by omega,show x + 1 - 2=0 + 1 by omega];exact HS8.out)⟩
     case measure=>simp [intOf] <;> omega
  ·obtain rfl:x=3:=by omega
   have hP:Hid (WnPost w (.returned (.pointer (some ⟨g,0,none⟩))) wr):=⟨g,_,vr,va,vd,rs,ds,as_,Fs,rfl,HS.out⟩
   have hx1:decide (((3:Nat):Int) < 3)=false:=rfl
   clear HS
   go_wp2_with fail
   go_ret
   exact hP.out
end Go.Proofs.YtambjickanapjaaGreatDoor.Vi
end
