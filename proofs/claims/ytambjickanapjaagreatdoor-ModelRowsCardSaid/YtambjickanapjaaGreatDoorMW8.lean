/- Texts put together: Qu3, Row2, AgLay, Crc, CatLay, Cat, FrB, FrR, Dk1, Qu4, Qu5, Bk4. -/
import Derived.StillTailTactics
import Derived.Shelf.SlGeneric
import Derived.Shelf.SlLaysH0
import Derived.Ground.SlgfProg
import Derived.Test.YtambjickanapjaaGreatDoorProg
import Derived.Shelf.Spec.SlicesGrow
import Derived.ArgAppend
import Derived.Laws.IdiomCopy
import Derived.Shelf.SlicesQ.IndexFunc
import Derived.Deep.RegionLaw
import Derived.Test.YtambjickanapjaaGreatDoorMW1
import Derived.Test.YtambjickanapjaaGreatDoorMW4
import Derived.Test.YtambjickanapjaaGreatDoorMW5
import Derived.Test.YtambjickanapjaaGreatDoorMW7
set_option linter.unusedVariables false
set_option linter.unusedSimpArgs false
set_option maxRecDepth 100000
set_option maxHeartbeats 8000000
section
namespace Go.Proofs.YtambjickanapjaaGreatDoor.Vi
open Go.RowKit Base Mem
section
variable {w w':World} {M M':List Nat} {tg tg':Nat→Nat} {t q:Nat} {Q:QuD} {T:List Nat} {v:Value} {ps:List (BatD×Value)}
theorem Bats.take {A:Option Addr} {c:Nat} {l:List BatD} (h:Bats w M (.slice A l.length c) l) (m:Nat) (hm:m≤l.length):Bats w M (.slice A m c) (l.take m):=by
 obtain ⟨ps,hl,⟨A',c',e,hc,hx,hr⟩,hd⟩:=h
 injection e with e1 e2 e3
 subst e1 e3
 have hpl:ps.length=l.length:=e2.symm
 refine ⟨ps.take m,by rw [List.map_take,hl],⟨A,c,by rw [List.length_take,Nat.min_eq_left (by omega)],by rw [List.length_take];omega,by rw [bCells_len],fun h0=>?_⟩,fun p hp=>hd p (List.mem_of_mem_take hp)⟩
 rw [List.length_take] at h0
 obtain ⟨g,off,e1,e2,e3,e4⟩:=hr (by omega)
 refine ⟨g,off,e1,e2,e3,fun j u hu=>e4 j u ?_⟩
 have hs:ps.flatMap bCell=(ps.take m).flatMap bCell++(ps.drop m).flatMap bCell:=by rw [← List.flatMap_append,List.take_append_drop]
 have hj:=(List.getElem?_eq_some_iff.1 hu).1
 rw [hs,List.getElem?_append_left hj]
 exact hu
/-- What Add leaves. -/
def QaPost (M:List Nat) (tg:Nat→Nat) (t q:Nat) (R:Int×QuD) (w:World) (e:Ending) (w':World):Prop:=
 e=.returned (.int .i64 R.1)∧∃ M' tg',QuAt w' M' tg' t q R.2∧Ext w M tg w' M' tg'∧Keeps (sel M tg [t,t + 1]) w w'
theorem qa_same (h:QuAt w M tg t q Q) (hM:∀ g∈M,g < w.heap.size) (hk:Keeps [] w w') (c:Int):QaPost M tg t q (c,Q) w (.returned (.int .i64 c)) w':=
 ⟨rfl,M,tg,h.keep0 hM hk,Ext.refl hM hk.size,hk.to_sel (by simp)⟩
/-- Behind the append and the two stores. -/
theorem qa_put {w1 w2:World} {v' dv:Value} {b:BatD} {o:Obj} (hv:QuV w M tg t q Q v ps) (ho:QuOk (quAdd Q b).2) (hq:quAdd Q b=(0,⟨Q.l++[b],b.seq⟩)) (hM:∀ g∈M,g < w.heap.size) (hb1:Below w.heap.size w w1)
  (hd:∀ L,(∀ g∈L,g < w.heap.size)→Ds w1 L dv b.ds) (hown:w2.ownsRow 0 193 2 v' (ps.length + 1) (ps.flatMap bCell++bCell (b,dv))) (hg:(w1.alloc o).grownBy w2 v.ownBlock) (hat:v'.ownBlock=v.ownBlock∨v'.ownBlock=some (w1.heap.size + 1)) :
  QaPost M tg t q (quAdd Q b) w (.returned (.int .i64 0)) ((w2.setCell ⟨q,0,none⟩ v').setCell ⟨q,1,none⟩ (.int .i64 b.seq)):=by
 rw [hq] at ho ⊢
 have hvq:v.ownBlock≠some q:=fun h=>by have:=(hv.tr q h).2;rw [hv.tq] at this;omega
 have hqw:=hv.blk.lt
 have hv'q:v'.ownBlock≠some q:=fun h=>by
  rcases hat with h1 | h1
  ·exact hvq (by rw [← h1,h])
  ·rw [h1] at h;injection h with h;have:=hb1.size;omega
 have k12:Keeps v.ownBlock.toList w w2:=(((Keeps.of_below (M:=[]) hb1).alloc o).mono (by simp)).grown hg (fun g hg=>.inl (by simpa using hg))
 have k2:Keeps [q] w2 ((w2.setCell ⟨q,0,none⟩ v').setCell ⟨q,1,none⟩ (.int .i64 b.seq)):=((Keeps.refl _ _).setCell (by simp) _).setCell (by simp) _
 have hnew:∀ g,v'.ownBlock=some g→(g∈M∧tg g=t + 1∨w.heap.size≤g)∧g < w2.heap.size:=fun g hg=>by
  refine ⟨?_,(hown.lt g hg).2⟩
  rcases hat with h1 | h1
  ·exact .inl (hv.tr g (by rw [← h1,hg]))
  ·rw [h1] at hg;injection hg with hg;have:=hb1.size;exact .inr (by omega)
 have hx:Ext w M tg w2 (v'.ownBlock.toList++M) (fun x=>if v'.ownBlock=some x then t + 1 else tg x):=Ext.add hM k12.size _ _ hnew
 have hks:Keeps (sel M tg [t,t + 1]) w w2:=k12.to_sel (fun g hg=>.inl (by have:=hv.tr g (by simpa using hg);simp [this.1,this.2]))
 have hkf:Keeps (sel M tg [t,t + 1]) w ((w2.setCell ⟨q,0,none⟩ v').setCell ⟨q,1,none⟩ (.int .i64 b.seq)):=hks.trans k2 (fun g hg=>.inl (by simp at hg;subst hg;exact mem_sel.2 ⟨hv.inM,by rw [hv.tq];simp⟩))
 refine ⟨rfl,_,_,⟨ho,v',ps++[(b,dv)],?_⟩,hx.later k2.size,hkf⟩
 refine ⟨?_,by rw [List.map_append,hv.map];rfl,?_,fun p hp=>?_,List.mem_append_right _ hv.inM,?_,fun g hg=>⟨List.mem_append_left _ (by simpa using hg),by simp [hg]⟩⟩
 ·have hB2:Blk w2 q 271 #[v,.int .i64 Q.last]:=k12.blk hv.blk (by simpa using hvq)
  have:=(hB2.set_ 0 v').set_ 1 (.int .i64 b.seq)
  simpa using this
 ·have:=own_other2 hown k2 (fun g hg hm=>by simp at hm;subst hm;exact hv'q hg)
  simpa using this
 ·have hL:∀ g∈v'.ownBlock.toList++M,g < w.heap.size∨v'.ownBlock=some g:=fun g hg=>by
   rcases List.mem_append.1 hg with h | h
   ·exact .inr (by simpa using h)
   ·exact .inl (hM g h)
  have hfin:Ds w2 (v'.ownBlock.toList++M) p.2 p.1.ds:=by
   rcases List.mem_append.1 hp with h | h
   ·exact hx.ds hks (hv.ds p h)
   ·simp at h;subst h
    exact dsOwn_one (fun L hL=>hd L (fun g hg=>by rcases hL g hg with h | h;exact h;exact hM g (hv.tr g h).1)) hg hat _ hL
  exact hfin.keep k2 (fun g hg=>.inl (by simp at hg;subst hg;exact List.mem_append_right _ hv.inM))
 ·have:=hx.tag q hqw
  exact this.trans hv.tq
theorem qadd_any (h:QuAt w M tg t q Q) (hM:∀ g∈M,g < w.heap.size) (b:BatD) (dv:Value) (hd:Ds w [] dv b.ds) (hs:b.seq≤9223372036854775807) (hn:∀ d∈b.ds,NOk d) (hl:b.ds.length≤1000000) :
  Calls Tryz.prog 240 #[.pointer (some ⟨q,0,none⟩),.agg (bCell (b,dv)).toArray] w fun e w'=>QaPost M tg t q (quAdd Q b) w e w':=by
 have hok:=quAdd_ok h.1 hs hn
 have H:=Lib.hid h
 obtain ⟨ho,v,ps,hv⟩:=h
 obtain ⟨A,c,rfl,hc⟩:=hv.len
 obtain ⟨Ad,cd,rfl,hcd⟩:=hd.len
 have c0:=hv.blk.cell 0;have c1:=hv.blk.cell 1
 simp only [List.getElem?_toArray,List.getElem?_cons_succ,List.getElem?_cons_zero] at c0 c1
 have hlt:=hv.blk.lt
 have hl16:=ho.1;have hl0:=ho.2.1;have hl1:=ho.2.2.1
 have HM:=Lib.hid hM;have Hok:=Lib.hid hok;have Hv:=Lib.hid hv;have Hd:=Lib.hid hd
 unfold bCell
 simp only []
 by_cases ha:quArg Q b=true
 ·have HP:Hid (∀ q',QaPost M tg t q (quAdd Q b) w (.returned (.int .i64 1)) ((w.alloc (.cells #[.int .i64 b.seq,.slice Ad b.ds.length cd] 193)).drewN q')):=fun q'=>by
   have:quAdd Q b=(1,Q):=by unfold quAdd;rw [if_pos ha]
   rw [this]
   exact qa_same H.out HM.out (((Keeps.refl _ _).alloc _).drewN _) 1
  simp only [quArg,Bool.or_eq_true,decide_eq_true_eq] at ha
  have hor:b.seq < 1∨b.seq≤Q.last∨b.ds.length=0∨8 < b.ds.length:=by
   rcases ha with ((h | h) | h) | h
   ·exact .inl h
   ·exact .inr (.inl h)
   ·exact .inr (.inr (.inl h))
   ·exact .inr (.inr (.inr h))
  clear hok hv hd hM ha
  generalize b.ds.length=n at *
  generalize Q.l.length=m at *
  by_cases h1:b.seq < 1
  ·have d1:decide (b.seq < 1)=true:=decide_eq_true h1
   go_enter Tryz.func240,Tryz.ntmps240
   go_wp2_with fail
   go_quiet (fail)
   go_wp2
   go_ret
   exact HP.out _
  ·have d1:decide (b.seq < 1)=false:=decide_eq_false h1
   by_cases h2:b.seq≤Q.last
   ·have d2:decide (b.seq≤Q.last)=true:=decide_eq_true h2
    go_enter Tryz.func240,Tryz.ntmps240
    go_wp2_with fail
    go_quiet (fail)
    go_wp2
    go_ret
    exact HP.out _
   ·have d2:decide (b.seq≤Q.last)=false:=decide_eq_false h2
    by_cases h3:n=0
    ·subst h3
     go_enter Tryz.func240,Tryz.ntmps240
     go_wp2_with fail
     go_quiet (fail)
     go_wp2
     go_ret
     exact HP.out _
    ·have d3:((n:Int) == 0)=false:=beq_eq_false_iff_ne.2 (by omega)
     have h8:8 < n:=by omega
     have d4:decide ((8:Int) < (n:Int))=true:=decide_eq_true (by omega)
     have d5:decide (8 < n)=true:=decide_eq_true h8
     clear hor
     go_enter Tryz.func240,Tryz.ntmps240
     go_wp2_with fail
     go_quiet (fail)
     go_wp2
     go_ret
     exact HP.out _
 ·have hqa:Hid (quArg Q b=false):=by show _=_;simpa using ha
  simp only [quArg,Bool.or_eq_true,decide_eq_true_eq,not_or] at ha
  obtain ⟨⟨⟨h1,h2⟩,h3⟩,h4⟩:=ha
  have d1:decide (b.seq < 1)=false:=decide_eq_false h1
  have d2:decide (b.seq≤Q.last)=false:=decide_eq_false h2
  by_cases h16:16≤Q.l.length
  ·have HP:Hid (∀ q',QaPost M tg t q (quAdd Q b) w (.returned (.int .i64 24)) ((w.alloc (.cells #[.int .i64 b.seq,.slice Ad b.ds.length cd] 193)).drewN q')):=fun q'=>by
    have:quAdd Q b=(24,Q):=by unfold quAdd;rw [hqa.out,if_neg (by simp),if_pos h16]
    rw [this]
    exact qa_same H.out HM.out (((Keeps.refl _ _).alloc _).drewN _) 24
   clear hok hv hd hM hqa
   generalize b.ds.length=n at *
   generalize Q.l.length=m at *
   have d3:((n:Int) == 0)=false:=beq_eq_false_iff_ne.2 (by omega)
   have d4:decide ((8:Int) < (n:Int))=false:=decide_eq_false (by omega)
   have d6:decide ((16:Int)≤(m:Int))=true:=decide_eq_true (by omega)
   go_enter Tryz.func240,Tryz.ntmps240
   go_wp2_with fail
   go_quiet (fail)
   go_wp2
   go_ret
   exact HP.out _
  ·have hqq:quAdd Q b=(0,⟨Q.l++[b],b.seq⟩):=by unfold quAdd;rw [hqa.out,if_neg (by simp),if_neg h16]
   obtain ⟨w0,hw0⟩:∃ w0,w0=w.alloc (.cells #[.int .i64 b.seq,.slice Ad b.ds.length cd] 193):=⟨_,rfl⟩
   have hb0:Below w.heap.size w w0:=by rw [hw0];exact (Below.refl _ _).alloc (Nat.le_refl _) _
   have hz0:w0.heap.size=w.heap.size + 1:=by rw [hw0];simp
   have hB0:Blk w0 w.heap.size 193 #[.int .i64 b.seq,.slice Ad b.ds.length cd]:=by rw [hw0];exact Blk.new w _ _
   have HV0:=Lib.hid (Hv.out.keep0 hM (Keeps.of_below (M:=[]) hb0))
   have Hb0:=Lib.hid hb0
   have HB0:=Lib.hid hB0
   have b0:=hB0.cell 0;have b1:=hB0.cell 1
   simp only [List.getElem?_toArray,List.getElem?_cons_succ,List.getElem?_cons_zero] at b0 b1
   have c0':w0.cell? ⟨q,0,none⟩=some (.slice A Q.l.length c):=(hb0.cell (p:=⟨q,0,none⟩) hlt).trans c0
   have Hown:=Lib.hid (own_any [] b (.slice Ad b.ds.length cd) w0.drew ((hd.keep (Keeps.of_below (M:=[]) hb0) (by simp)).keep ((Keeps.refl [] _).drew) (by simp)) (by omega))
   have Hqq:=Lib.hid hqq
   have d3:((b.ds.length:Int) == 0)=false:=beq_eq_false_iff_ne.2 (by omega)
   have d4:decide ((8:Int) < (b.ds.length:Int))=false:=decide_eq_false (by omega)
   have d6:decide ((16:Int)≤(Q.l.length:Int))=false:=decide_eq_false (by omega)
   have HOwn:Hid (∀ W,Keeps [] w0 W→Calls Tryz.prog 244 #[.agg #[.int .i64 b.seq,.slice Ad b.ds.length cd]] W fun r w'=>∃ (A':Option Addr) (n c':Nat),r=.returned (.agg #[.int .i64 b.seq,.slice A' n c'])∧(∀ L,(∀ g∈L,g < W.heap.size)→Ds w' L (.slice A' n c') b.ds)∧Below W.heap.size W w'):=fun W hk=>by
    refine (own_any [] b (.slice Ad b.ds.length cd) W ((hd.keep (Keeps.of_below (M:=[]) hb0) (by simp)).keep hk (by simp)) (by omega)).mono ?_
    rintro e w' ⟨dv',rfl,h1,h2⟩
    obtain ⟨A',c',rfl,_⟩:=(h1 [] (by simp)).len
    exact ⟨A',_,c',rfl,h1,h2⟩
   have hqb:¬ q=w.heap.size:=by omega
   have HS:Hid (∀ W,Keeps (q :: (Value.ownBlock (.slice A Q.l.length c)).toList) w0 W→W.cell? ⟨w.heap.size,0,none⟩=some (.int .i64 b.seq)∧W.cell? ⟨w.heap.size,1,none⟩=some (.slice Ad b.ds.length cd)):=fun W hk=>by
    have := hk.blk HB0.out (by
     intro hm
     rcases List.mem_cons.1 hm with h | h
     ·omega
     ·have := hM _ (hv.tr _ (by simpa using h)).1; omega)
    exact ⟨this.cell 0,this.cell 1⟩
   have c1':w0.cell? ⟨q,1,none⟩=some (.int .i64 Q.last):=(hb0.cell (p:=⟨q,1,none⟩) hlt).trans c1
   obtain ⟨i0,hi0,hz0',hz1,hz2⟩:=info_parts infoBatch2
   have Hi0:=Lib.hid hi0;have Hz0:=Lib.hid hz0';have Hz1:=Lib.hid hz1;have Hz2:=Lib.hid hz2
   have hrow:=HV0.out.row
   have hpl:ps.length=Q.l.length:=by rw [← hv.map,List.length_map]
   have Hpl:=Lib.hid hpl;have Hrow:=Lib.hid hrow;have Hl16:=Lib.hid hl16
   have HF:Hid (∀ W,Keeps (Value.ownBlock (.slice A Q.l.length c)).toList w0 W→W.cell? ⟨q,0,none⟩=some (.slice A Q.l.length c)∧W.cell? ⟨q,1,none⟩=some (.int .i64 Q.last)∧W.frozen? ⟨q,0,none⟩=false∧W.frozen? ⟨q,1,none⟩=false):=fun W hk=>by
    have := hk.blk HV0.out.blk (by
     intro hm
     have := (hv.tr q (by simpa using hm)).2; rw [hv.tq] at this; omega)
    exact ⟨this.cell 0,this.cell 1,this.frozen 0,this.frozen 1⟩
   clear hok hv hd hM hqa c0 c1 hqq h1 h2 h3 h4 h16 hi0 hz0' hz1 hz2 hB0 hrow hpl hl16 hl0 hl1 ho H Hown
   go_enter Tryz.func240,Tryz.ntmps240
   go_upto_region 1 with (fail)
   rw [← hw0]
   clear hw0
   go_wp2_with fail
   go_quiet (fail)
   go_upto_region 5 with (fail)
   clear d1 d2 d3 d4 d6 c1' c0' b0 b1 hqb
   obtain ⟨wq,hwq⟩:∃ wq,wq=w0.drewN nq:=⟨_,rfl⟩
   have Hkq:Hid (Keeps [] w0 wq):=by rw [hwq];exact (Keeps.refl _ _).drewN _
   rw [← hwq]
   clear hwq
   obtain ⟨p0,p1,-,-⟩:=HF.out wq (Hkq.out.mono (by simp))
   refine wp_region_held_drew (S:=(fun W=>W.cell? ⟨w.heap.size,0,none⟩=some (.int .i64 b.seq)∧W.cell? ⟨w.heap.size,1,none⟩=some (.slice Ad b.ds.length cd))) (by kernel_rfl) (by refine HS.out _ ?_;repeat (first | (with_reducible exact HK2.out) | (with_reducible exact HK1.out) | (with_reducible exact Hkq.out.mono (by simp)) | (with_reducible refine Keeps.setCell ?_ (by simp) _) | (with_reducible refine Keeps.alloc ?_ _) | (with_reducible refine Keeps.drew ?_))) (fun hHeld=>?_)
   refine tk [0,1,2,3,4,6,10,11] ?_
   refine wpAnyH_ready (rs:=[5,7]) (by kernel_rfl) (by simp) ?_
   refine AllReadyH.cons (o:=_) rfl (fun K hK=>?u23) (AllReadyH.cons (o:=_) rfl (fun K hK=>?u24) AllReadyH.nil)
   case' u23=>
    go_simp
    refine hK.out _ _ (by refine HS.out _ ?_;repeat (first | (with_reducible exact HK2.out) | (with_reducible exact HK1.out) | (with_reducible exact Hkq.out.mono (by simp)) | (with_reducible refine Keeps.setCell ?_ (by simp) _) | (with_reducible refine Keeps.alloc ?_ _) | (with_reducible refine Keeps.drew ?_))) (fun _=>?_)
    clear hK K hHeld;rename_i hHeld
    try simp only [sgl,Act.put]
    refine rd 7 (fun K hK=>?_)
    go_simp
    with_reducible refine (HOwn.out _ Hkq.out.drew).mono ?_
    rintro e w1 ⟨A',n',c',rfl,hds',hbel0⟩
    have hbel:Below wq.heap.size wq w1:=⟨hbel0.os,hbel0.tape,hbel0.output,hbel0.size,hbel0.block⟩
    have Hds:=Lib.hid hds'
    have Hbel:Hid (Below wq.heap.size wq w1):=hbel
    have HK1:Hid (Keeps (q :: (Value.ownBlock (.slice A Q.l.length c)).toList) w0 w1):=(Hkq.out.trans (Keeps.of_below (M:=[]) hbel) (by simp)).mono (by simp)
    obtain ⟨p2,-,-,-⟩:=HF.out w1 ((Hkq.out.trans (Keeps.of_below (M:=[]) hbel) (by simp)).mono (by simp))
    have p3:∀ o,(w1.alloc o).cell? ⟨q,0,none⟩=some (.slice A Q.l.length c):=fun o=>(HF.out (w1.alloc o) (((Hkq.out.trans (Keeps.of_below (M:=[]) hbel) (by simp)).alloc o).mono (by simp))).1
    clear hds' hbel hbel0
    refine hK.out _ _ (by refine HS.out _ ?_;repeat (first | (with_reducible exact HK2.out) | (with_reducible exact HK1.out) | (with_reducible exact Hkq.out.mono (by simp)) | (with_reducible refine Keeps.setCell ?_ (by simp) _) | (with_reducible refine Keeps.alloc ?_ _) | (with_reducible refine Keeps.drew ?_))) (fun _=>?_)
    clear hK K hHeld;rename_i hHeld
    try simp only [sgl,Act.put]
    refine rd 8 (fun K hK=>?_)
    go_simp
    refine hK.out _ _ (by refine HS.out _ ?_;repeat (first | (with_reducible exact HK2.out) | (with_reducible exact HK1.out) | (with_reducible exact Hkq.out.mono (by simp)) | (with_reducible refine Keeps.setCell ?_ (by simp) _) | (with_reducible refine Keeps.alloc ?_ _) | (with_reducible refine Keeps.drew ?_))) (fun _=>?_)
    clear hK K hHeld;rename_i hHeld
    try simp only [sgl,Act.put]
    refine rd 9 (fun K hK=>?_)
    refine step_append_any _ rfl (.tmp 42) (.tmp 45) 190 rfl 0 193 i0 _ 2 32 Tryz.underlying190 Hi0.out Hz0.out Hz1.out Hz2.out rfl (by omega) (.slice A Q.l.length c) ps.length (ps.flatMap bCell) (by simp [Act.eval,Act.put]) ((own_below (own_below (own_below Hrow.out (Hkq.out.below)) Hbel.out) (below_new' w1 _))) (w1.heap.size + 1) (some ⟨w1.heap.size,0,none⟩) 1 1 [.int .i64 b.seq,.slice A' n' c'] (by simp [Act.eval,Act.put]) (reads_new _ _ _ _ _ rfl) (by intro u hu;simp at hu;rcases hu with rfl | rfl <;> rfl) (by have:=Hl16.out;have:=Hpl.out;unfold maxLen;omega) (by have:=Hl16.out;have:=Hpl.out;omega) (Nat.zero_le _) ?_
    intro v2 w2 hown2 hg2 hat2
    rw [World.size_alloc] at hat2
    have hk2:Keeps (Value.ownBlock (.slice A Q.l.length c)).toList w0 w2:=(((Hkq.out.trans (Keeps.of_below (M:=[]) Hbel.out) (by simp)).alloc _).mono (by simp)).grown hg2 (fun g hg=>.inl (by simpa using hg))
    have HK2:Hid (Keeps (q :: (Value.ownBlock (.slice A Q.l.length c)).toList) w0 w2):=hk2.mono (fun _ hg=>.inl (List.mem_cons_of_mem _ hg))
    obtain ⟨p4,p5,p6,p7⟩:=HF.out w2 hk2
    obtain ⟨A2,c2,rfl⟩:∃ A2 c2,v2=.slice A2 (ps.length + 1) c2:=by
     obtain ⟨A2,c2,h1,_⟩:=Rd.of_own (M:=[]) hown2 (by simp)
     exact ⟨A2,c2,h1⟩
    have Hown2:=Lib.hid hown2;have Hg2:=Lib.hid hg2;have Hat2:=Lib.hid hat2
    clear hown2 hg2 hat2 hk2
    refine hK.out _ _ (by refine HS.out _ ?_;repeat (first | (with_reducible exact HK2.out) | (with_reducible exact HK1.out) | (with_reducible exact Hkq.out.mono (by simp)) | (with_reducible refine Keeps.setCell ?_ (by simp) _) | (with_reducible refine Keeps.alloc ?_ _) | (with_reducible refine Keeps.drew ?_))) (fun _=>?_)
    clear hK K hHeld;rename_i hHeld
    refine tk [12,13] ?_
    refine rd 14 (fun K hK=>?_)
    go_simp
    refine hK.out _ _ (by refine HS.out _ ?_;repeat (first | (with_reducible exact HK2.out) | (with_reducible exact HK1.out) | (with_reducible exact Hkq.out.mono (by simp)) | (with_reducible refine Keeps.setCell ?_ (by simp) _) | (with_reducible refine Keeps.alloc ?_ _) | (with_reducible refine Keeps.drew ?_))) (fun _=>?_)
    clear hK K hHeld;rename_i hHeld
    refine tk [15,16] ?_
    refine rd 17 (fun K hK=>?_)
    go_simp
    refine hK.out _ _ (by refine HS.out _ ?_;repeat (first | (with_reducible exact HK2.out) | (with_reducible exact HK1.out) | (with_reducible exact Hkq.out.mono (by simp)) | (with_reducible refine Keeps.setCell ?_ (by simp) _) | (with_reducible refine Keeps.alloc ?_ _) | (with_reducible refine Keeps.drew ?_))) (fun _=>?_)
    clear hK K hHeld;rename_i hHeld
    try simp only [sgl,Act.put]
    refine dn ?_
    clear hHeld
   case' u24=>
    go_simp
    with_reducible refine (HOwn.out _ Hkq.out.drew).mono ?_
    rintro e w1 ⟨A',n',c',rfl,hds',hbel0⟩
    have hbel:Below wq.heap.size wq w1:=⟨hbel0.os,hbel0.tape,hbel0.output,hbel0.size,hbel0.block⟩
    have Hds:=Lib.hid hds'
    have Hbel:Hid (Below wq.heap.size wq w1):=hbel
    have HK1:Hid (Keeps (q :: (Value.ownBlock (.slice A Q.l.length c)).toList) w0 w1):=(Hkq.out.trans (Keeps.of_below (M:=[]) hbel) (by simp)).mono (by simp)
    obtain ⟨p2,-,-,-⟩:=HF.out w1 ((Hkq.out.trans (Keeps.of_below (M:=[]) hbel) (by simp)).mono (by simp))
    have p3:∀ o,(w1.alloc o).cell? ⟨q,0,none⟩=some (.slice A Q.l.length c):=fun o=>(HF.out (w1.alloc o) (((Hkq.out.trans (Keeps.of_below (M:=[]) hbel) (by simp)).alloc o).mono (by simp))).1
    clear hds' hbel hbel0
    refine hK.out _ _ (by refine HS.out _ ?_;repeat (first | (with_reducible exact HK2.out) | (with_reducible exact HK1.out) | (with_reducible exact Hkq.out.mono (by simp)) | (with_reducible refine Keeps.setCell ?_ (by simp) _) | (with_reducible refine Keeps.alloc ?_ _) | (with_reducible refine Keeps.drew ?_))) (fun _=>?_)
    clear hK K hHeld;rename_i hHeld
    try simp only [sgl,Act.put]
    refine wpAnyH_ready (rs:=[5,8]) (by kernel_rfl) (by simp) ?_
    refine AllReadyH.cons (o:=_) rfl (fun K hK=>?u21) (AllReadyH.cons (o:=_) rfl (fun K hK=>?u22) AllReadyH.nil)
    case' u21=>
     go_simp
     refine hK.out _ _ (by refine HS.out _ ?_;repeat (first | (with_reducible exact HK2.out) | (with_reducible exact HK1.out) | (with_reducible exact Hkq.out.mono (by simp)) | (with_reducible refine Keeps.setCell ?_ (by simp) _) | (with_reducible refine Keeps.alloc ?_ _) | (with_reducible refine Keeps.drew ?_))) (fun _=>?_)
     clear hK K hHeld;rename_i hHeld
     try simp only [sgl,Act.put]
     refine rd 8 (fun K hK=>?_)
     go_simp
     refine hK.out _ _ (by refine HS.out _ ?_;repeat (first | (with_reducible exact HK2.out) | (with_reducible exact HK1.out) | (with_reducible exact Hkq.out.mono (by simp)) | (with_reducible refine Keeps.setCell ?_ (by simp) _) | (with_reducible refine Keeps.alloc ?_ _) | (with_reducible refine Keeps.drew ?_))) (fun _=>?_)
     clear hK K hHeld;rename_i hHeld
     try simp only [sgl,Act.put]
     refine rd 9 (fun K hK=>?_)
     refine step_append_any _ rfl (.tmp 42) (.tmp 45) 190 rfl 0 193 i0 _ 2 32 Tryz.underlying190 Hi0.out Hz0.out Hz1.out Hz2.out rfl (by omega) (.slice A Q.l.length c) ps.length (ps.flatMap bCell) (by simp [Act.eval,Act.put]) ((own_below (own_below (own_below Hrow.out (Hkq.out.below)) Hbel.out) (below_new' w1 _))) (w1.heap.size + 1) (some ⟨w1.heap.size,0,none⟩) 1 1 [.int .i64 b.seq,.slice A' n' c'] (by simp [Act.eval,Act.put]) (reads_new _ _ _ _ _ rfl) (by intro u hu;simp at hu;rcases hu with rfl | rfl <;> rfl) (by have:=Hl16.out;have:=Hpl.out;unfold maxLen;omega) (by have:=Hl16.out;have:=Hpl.out;omega) (Nat.zero_le _) ?_
     intro v2 w2 hown2 hg2 hat2
     rw [World.size_alloc] at hat2
     have hk2:Keeps (Value.ownBlock (.slice A Q.l.length c)).toList w0 w2:=(((Hkq.out.trans (Keeps.of_below (M:=[]) Hbel.out) (by simp)).alloc _).mono (by simp)).grown hg2 (fun g hg=>.inl (by simpa using hg))
     have HK2:Hid (Keeps (q :: (Value.ownBlock (.slice A Q.l.length c)).toList) w0 w2):=hk2.mono (fun _ hg=>.inl (List.mem_cons_of_mem _ hg))
     obtain ⟨p4,p5,p6,p7⟩:=HF.out w2 hk2
     obtain ⟨A2,c2,rfl⟩:∃ A2 c2,v2=.slice A2 (ps.length + 1) c2:=by
      obtain ⟨A2,c2,h1,_⟩:=Rd.of_own (M:=[]) hown2 (by simp)
      exact ⟨A2,c2,h1⟩
     have Hown2:=Lib.hid hown2;have Hg2:=Lib.hid hg2;have Hat2:=Lib.hid hat2
     clear hown2 hg2 hat2 hk2
     refine hK.out _ _ (by refine HS.out _ ?_;repeat (first | (with_reducible exact HK2.out) | (with_reducible exact HK1.out) | (with_reducible exact Hkq.out.mono (by simp)) | (with_reducible refine Keeps.setCell ?_ (by simp) _) | (with_reducible refine Keeps.alloc ?_ _) | (with_reducible refine Keeps.drew ?_))) (fun _=>?_)
     clear hK K hHeld;rename_i hHeld
     refine tk [12,13] ?_
     refine rd 14 (fun K hK=>?_)
     go_simp
     refine hK.out _ _ (by refine HS.out _ ?_;repeat (first | (with_reducible exact HK2.out) | (with_reducible exact HK1.out) | (with_reducible exact Hkq.out.mono (by simp)) | (with_reducible refine Keeps.setCell ?_ (by simp) _) | (with_reducible refine Keeps.alloc ?_ _) | (with_reducible refine Keeps.drew ?_))) (fun _=>?_)
     clear hK K hHeld;rename_i hHeld
     refine tk [15,16] ?_
     refine rd 17 (fun K hK=>?_)
     go_simp
     refine hK.out _ _ (by refine HS.out _ ?_;repeat (first | (with_reducible exact HK2.out) | (with_reducible exact HK1.out) | (with_reducible exact Hkq.out.mono (by simp)) | (with_reducible refine Keeps.setCell ?_ (by simp) _) | (with_reducible refine Keeps.alloc ?_ _) | (with_reducible refine Keeps.drew ?_))) (fun _=>?_)
     clear hK K hHeld;rename_i hHeld
     try simp only [sgl,Act.put]
     refine dn ?_
     clear hHeld
    case' u22=>
     go_simp
     refine hK.out _ _ (by refine HS.out _ ?_;repeat (first | (with_reducible exact HK2.out) | (with_reducible exact HK1.out) | (with_reducible exact Hkq.out.mono (by simp)) | (with_reducible refine Keeps.setCell ?_ (by simp) _) | (with_reducible refine Keeps.alloc ?_ _) | (with_reducible refine Keeps.drew ?_))) (fun _=>?_)
     clear hK K hHeld;rename_i hHeld
     try simp only [sgl,Act.put]
     refine rd 5 (fun K hK=>?_)
     go_simp
     refine hK.out _ _ (by refine HS.out _ ?_;repeat (first | (with_reducible exact HK2.out) | (with_reducible exact HK1.out) | (with_reducible exact Hkq.out.mono (by simp)) | (with_reducible refine Keeps.setCell ?_ (by simp) _) | (with_reducible refine Keeps.alloc ?_ _) | (with_reducible refine Keeps.drew ?_))) (fun _=>?_)
     clear hK K hHeld;rename_i hHeld
     try simp only [sgl,Act.put]
     refine rd 9 (fun K hK=>?_)
     refine step_append_any _ rfl (.tmp 42) (.tmp 45) 190 rfl 0 193 i0 _ 2 32 Tryz.underlying190 Hi0.out Hz0.out Hz1.out Hz2.out rfl (by omega) (.slice A Q.l.length c) ps.length (ps.flatMap bCell) (by simp [Act.eval,Act.put]) ((own_below (own_below (own_below Hrow.out (Hkq.out.below)) Hbel.out) (below_new' w1 _))) (w1.heap.size + 1) (some ⟨w1.heap.size,0,none⟩) 1 1 [.int .i64 b.seq,.slice A' n' c'] (by simp [Act.eval,Act.put]) (reads_new _ _ _ _ _ rfl) (by intro u hu;simp at hu;rcases hu with rfl | rfl <;> rfl) (by have:=Hl16.out;have:=Hpl.out;unfold maxLen;omega) (by have:=Hl16.out;have:=Hpl.out;omega) (Nat.zero_le _) ?_
     intro v2 w2 hown2 hg2 hat2
     rw [World.size_alloc] at hat2
     have hk2:Keeps (Value.ownBlock (.slice A Q.l.length c)).toList w0 w2:=(((Hkq.out.trans (Keeps.of_below (M:=[]) Hbel.out) (by simp)).alloc _).mono (by simp)).grown hg2 (fun g hg=>.inl (by simpa using hg))
     have HK2:Hid (Keeps (q :: (Value.ownBlock (.slice A Q.l.length c)).toList) w0 w2):=hk2.mono (fun _ hg=>.inl (List.mem_cons_of_mem _ hg))
     obtain ⟨p4,p5,p6,p7⟩:=HF.out w2 hk2
     obtain ⟨A2,c2,rfl⟩:∃ A2 c2,v2=.slice A2 (ps.length + 1) c2:=by
      obtain ⟨A2,c2,h1,_⟩:=Rd.of_own (M:=[]) hown2 (by simp)
      exact ⟨A2,c2,h1⟩
     have Hown2:=Lib.hid hown2;have Hg2:=Lib.hid hg2;have Hat2:=Lib.hid hat2
     clear hown2 hg2 hat2 hk2
     refine hK.out _ _ (by refine HS.out _ ?_;repeat (first | (with_reducible exact HK2.out) | (with_reducible exact HK1.out) | (with_reducible exact Hkq.out.mono (by simp)) | (with_reducible refine Keeps.setCell ?_ (by simp) _) | (with_reducible refine Keeps.alloc ?_ _) | (with_reducible refine Keeps.drew ?_))) (fun _=>?_)
     clear hK K hHeld;rename_i hHeld
     refine tk [12,13] ?_
     refine rd 14 (fun K hK=>?_)
     go_simp
     refine hK.out _ _ (by refine HS.out _ ?_;repeat (first | (with_reducible exact HK2.out) | (with_reducible exact HK1.out) | (with_reducible exact Hkq.out.mono (by simp)) | (with_reducible refine Keeps.setCell ?_ (by simp) _) | (with_reducible refine Keeps.alloc ?_ _) | (with_reducible refine Keeps.drew ?_))) (fun _=>?_)
     clear hK K hHeld;rename_i hHeld
     refine tk [15,16] ?_
     refine rd 17 (fun K hK=>?_)
     go_simp
     refine hK.out _ _ (by refine HS.out _ ?_;repeat (first | (with_reducible exact HK2.out) | (with_reducible exact HK1.out) | (with_reducible exact Hkq.out.mono (by simp)) | (with_reducible refine Keeps.setCell ?_ (by simp) _) | (with_reducible refine Keeps.alloc ?_ _) | (with_reducible refine Keeps.drew ?_))) (fun _=>?_)
     clear hK K hHeld;rename_i hHeld
     try simp only [sgl,Act.put]
     refine dn ?_
     clear hHeld
   all_goals
    have hP:=Lib.hid (qa_put Hv.out Hok.out Hqq.out HM.out (Hb0.out.trans ((Hkq.out.below.trans (Hbel.out.mono Hkq.out.size)).mono Hb0.out.size)) (fun L hL=>Hds.out L (fun g hg=>Nat.lt_of_lt_of_le (Nat.lt_of_lt_of_le (hL g hg) Hb0.out.size) Hkq.out.size)) Hown2.out Hg2.out Hat2.out)
    go_wp2
    go_ret
    exact hP.out
end
end Go.Proofs.YtambjickanapjaaGreatDoor.Vi
end
section
namespace Go.Proofs.YtambjickanapjaaGreatDoor.Mem
open Go.RowKit Base
theorem blk_lay (g:Nat) (t:TypeId):∀ (vs pre mid suf:List Value) (o:Nat) (w:World),Blk w g t (pre++mid++suf).toArray→pre.length=o→mid.length=vs.length→Blk (w.setCells g o vs) g t (pre++vs++suf).toArray
 | [],pre,mid,suf,o,w,h,hp,hm=>by
  obtain rfl:mid=[]:=List.length_eq_zero_iff.1 (by simpa using hm)
  exact h
 | v :: r,pre,mid,suf,o,w,h,hp,hm=>by
  obtain ⟨m,ms,rfl⟩:∃ m ms,mid=m :: ms:=by
   cases mid with
   | nil=>simp at hm
   | cons m ms=>exact ⟨m,ms,rfl⟩
  have h1:=h.set_ o v
  have e:(pre++m :: ms++suf).toArray.setIfInBounds o v=(pre++[v]++ms++suf).toArray:=by
   rw [List.setIfInBounds_toArray]
   subst hp
   simp
  rw [e] at h1
  have:=blk_lay g t r (pre++[v]) ms suf (o + 1) (w.setCell ⟨g,o,none⟩ v) h1 (by simp [hp]) (by simpa using hm)
  have e2:pre++[v]++r++suf=pre++v :: r++suf:=by simp
  rw [e2] at this
  exact this
theorem keeps_lay {M:List Nat} {a:World} (g:Nat) (hg:g∈M∨a.heap.size≤g):∀ (vs:List Value) (o:Nat) (w:World),Keeps M a w→Keeps M a (w.setCells g o vs)
 | [],_,_,h=>h
 | v :: r,o,w,h=>keeps_lay g hg r (o + 1) _ (h.setCell (p:=⟨g,o,none⟩) hg v)
theorem run_clear_one {P:Program} (w:World) (t e ty:TypeId) (z:Value) (ht:P.underlying t=some (.slice e)) (hv:∀ w,(zeroValue e).run P w=.ok z w) (b o c:Nat)
  (hc:∀ j,j < (Builtin.zeroCells z.cells 1).toList.length→(w.cell? ⟨b,o + j,none⟩).isSome=true) (hf:∀ j,j < (Builtin.zeroCells z.cells 1).toList.length→w.frozen? ⟨b,o + j,none⟩=false) (h1:∀ v∈(Builtin.zeroCells z.cells 1).toList,v.oneCell'=true) :
  (Builtin.clear_ #[t] ty #[.slice (some ⟨b,o,none⟩) 1 c]).run P w=.ok (.tuple #[]) (w.setCells b o (Builtin.zeroCells z.cells 1).toList):=by
 have hst:=run_storeCells_cells (P:=P) b o (Builtin.zeroCells z.cells 1).toList 0 w hc hf h1
 simp only [Nat.add_zero] at hst
 have h2:Sem.run P (storeCells { block:=b,off:=o } (Builtin.zeroCells z.cells 1).toList) w=.ok () (w.setCells b o (Builtin.zeroCells z.cells 1).toList):=by simpa using hst
 simp [Builtin.clear_,run_underlying ht,hv]
 rw [h2]
 rfl
/-- A thing of size cells taken out of a row of the call's own: those behind it move up, zeros are laid last. -/
theorem own_take_out {w:World} {base:Nat} {e:TypeId} {size g n cap:Nat} {A B C Z:List Value} (h:w.ownsRow base e size (.slice (some ⟨g,0,none⟩) (n + 1) cap) (n + 1) (A++B++C)) (hB:B.length=size) (hZ:Z.length=size) :
  ((w.setCells g A.length C).setCells g (A.length + C.length) Z).ownsRow base e size (.slice (some ⟨g,0,none⟩) n cap) n (A++C):=by
 obtain ⟨hl,h⟩:=h
 simp only [List.length_append,hB,Nat.add_mul,Nat.one_mul] at hl
 refine ⟨by rw [List.length_append];omega,.inr ?_⟩
 rcases h with ⟨h,_⟩ | ⟨g',cap',cur,he,hb,hg,hnc,hcm,hcs,ht⟩
 ·cases h
 ·injection he with he1 he2 he3
  injection he1 with he1
  injection he1 with he1 _ _
  subst he1 he3
  have hcur:cur.toList=A++(B++C)++cur.toList.drop ((n + 1) * size):=by rw [← List.append_assoc,← ht,List.take_append_drop]
  generalize cur.toList.drop ((n + 1) * size)=suf at hcur
  have hb0:Blk w g e (A++(B++C)++suf).toArray:=by rw [← hcur];exact hg
  -- the move
  have e1:A++(B++C)++suf=A++(B++C).take C.length++((B++C).drop C.length++suf):=by
   simp only [List.append_assoc]
   rw [← List.append_assoc ((B++C).take C.length),List.take_append_drop]
   simp
  rw [e1] at hb0
  have hb1:=blk_lay g e C A _ _ A.length w hb0 rfl (by rw [List.length_take,List.length_append];omega)
  have e2:A++C++((B++C).drop C.length++suf)=(A++C)++(B++C).drop C.length++suf:=by simp
  rw [e2] at hb1
  have hb2:=blk_lay g e Z (A++C) _ _ (A.length + C.length) _ hb1 (by simp) (by rw [List.length_drop,List.length_append];omega)
  refine ⟨g,_,_,rfl,hb,hb2,by omega,hcm,?_,?_⟩
  ·have hl2:=congrArg List.length hcur
   rw [Array.length_toList] at hl2
   rw [← hcs,hl2]
   simp only [List.size_toArray,List.length_append,hB,hZ]
   omega
  ·show (A++C++Z++suf).take (n * size)=A++C
   have hn:n * size=(A++C).length:=by rw [List.length_append];omega
   rw [hn,List.append_assoc (A++C),List.take_left]
end Go.Proofs.YtambjickanapjaaGreatDoor.Mem
end
section
namespace Go.Proofs
open Go.Shelf
def Tryz.indexFuncBatch_ren:Go.Shelf.Ren:=⟨fun | 6=>250 | n=>n,fun | 22=>190 | 23=>193 | 25=>320 | 3=>3 | 0=>0 | 4=>4 | n=>n,fun | n=>n⟩
theorem Tryz.indexFuncBatch:Go.Proofs.SlLaysH0.n6 Tryz.prog Tryz.indexFuncBatch_ren:={
 mixed:=by kernel_rfl
 f6:=⟨Tryz.f250.name,by decide,Tryz.func250.trans (congrArg some (by kernel_rfl))⟩
 t0:=Tryz.underlying0
 a0:=Tryz.isAgg0
 z0:=Tryz.sizeOf0
 v0:=Tryz.zeroValue0
 t3:=Tryz.underlying3
 a3:=Tryz.isAgg3
 z3:=Tryz.sizeOf3
 v3:=Tryz.zeroValue3
 t4:=Tryz.underlying4
 a4:=Tryz.isAgg4
 z4:=Tryz.sizeOf4
 v4:=Tryz.zeroValue4
 t22:=Tryz.underlying190
 a22:=Tryz.isAgg190
 z22:=Tryz.sizeOf190
 v22:=Tryz.zeroValue190
 t25:=Tryz.underlying320
 a25:=Tryz.isAgg320
 z25:=Tryz.sizeOf320
 v25:=Tryz.zeroValue320 }
end Go.Proofs
end
section
namespace Go.Proofs.YtambjickanapjaaGreatDoor.Vi
open Go.RowKit Base Mem
theorem bad_any (M:List Nat) (p:Nat) (l:List UInt8) (bad:Bool) (w:World) (h:RdAt w M p l bad) :
  Calls Tryz.prog 275 #[.pointer (some ⟨p,0,none⟩)] w fun e w'=>e=.returned (.bool bad)∧w=w':=by
 obtain ⟨hl,v,hb,hs⟩:=h
 have c1:w.cell? ⟨p,1,none⟩=some (.bool bad):=hb.cell 1
 clear hb hs
 go_enter Tryz.func275,Tryz.ntmps275
 go_wp2
 go_ret
 exact ⟨rfl,rfl⟩
theorem u32_xor_nat (a b:Nat) (ha:a < 4294967296) (hb:b < 4294967296):bits .xor .u32 (a:Int) (b:Int)=((a ^^^ b:Nat):Int):=by
 show IntKind.u32.wrap ((BitVec.ofInt 32 (a:Int) ^^^ BitVec.ofInt 32 (b:Int)).toNat:Int)=_
 have h:a ^^^ b < 4294967296:=Nat.xor_lt_two_pow (n:=32) ha hb
 rw [BitVec.toNat_xor,BitVec.ofInt_natCast,BitVec.ofInt_natCast,BitVec.toNat_ofNat,BitVec.toNat_ofNat,Nat.mod_eq_of_lt ha,Nat.mod_eq_of_lt hb,IntKind.wrap_u32]
 omega
theorem u32_and1 (a:Nat) (ha:a < 4294967296):bits .and .u32 (a:Int) 1=((a % 2:Nat):Int):=by
 show IntKind.u32.wrap ((BitVec.ofInt 32 (a:Int) &&& BitVec.ofInt 32 1).toNat:Int)=_
 rw [BitVec.toNat_and,BitVec.ofInt_natCast,BitVec.toNat_ofNat,Nat.mod_eq_of_lt ha,show (BitVec.ofInt 32 1).toNat=2 ^ 1 - 1 from rfl,Nat.and_two_pow_sub_one_eq_mod,IntKind.wrap_u32]
 omega
theorem crcN_snoc:∀ (k c:Nat),crcN (k + 1) c=crcStep (crcN k c)
 | 0,c=>rfl
 | k + 1,c=>by rw [crcN,crcN_snoc k,crcN]
theorem crcnext_any (c:Nat) (x:UInt8) (w:World) (hc:c < 4294967296) :
  Calls Tryz.prog 318 #[.int .u32 c,bV x] w fun e w'=>e=.returned (.int .u32 (crcNext c x))∧w=w':=by
 have hx:=x.toNat_lt
 have Hx:Hid (crcNext c x=crcN 8 (c ^^^ x.toNat)):=rfl
 have hxor:=u32_xor_nat c x.toNat hc (by omega)
 have h0:=Lib.hid (xor_byte_lt hc x)
 have hcv:IntKind.u32.wrap (x.toNat:Int)=(x.toNat:Int):=by rw [IntKind.wrap_u32];omega
 unfold bV
 generalize c ^^^ x.toNat=a at *
 generalize x.toNat=xn at *
 go_enter Tryz.func318,Tryz.ntmps318
 go_wp2_with fail
 go_loop [0,10] (fun s i=>∃ k:Nat,i=.int .i64 k∧k≤8∧s=.int .u32 (crcN k a:Nat)) (fun _ i=>8 - (intOf i).toNat)
 case atStart=>exact ⟨0,rfl,by omega,rfl⟩
 case round=>
  obtain ⟨k,rfl,hk,rfl⟩:=hrel
  have hlt:=crcN_lt k h0.out
  have Hs:=Lib.hid (crcN_snoc k a)
  generalize hb:crcN k a=b at *
  have Hb:=Lib.hid hb
  clear hb
  by_cases h8:k < 8
  ·have hki:(k:Int) < 8:=by omega
   obtain ⟨q,hq⟩:∃ q,q=b / 2:=⟨_,rfl⟩
   obtain ⟨p,hp⟩:∃ p,p=b % 2:=⟨_,rfl⟩
   obtain ⟨r,hr⟩:∃ r,r=3988292384 * p:=⟨_,rfl⟩
   have hand:=u32_and1 b hlt
   have hmul:IntKind.u32.wrap (3988292384 * (p:Int))=(r:Int):=by rw [IntKind.wrap_u32];omega
   have hshr:(b:Int) / 2=(q:Int):=by omega
   have hx2:=u32_xor_nat q r (by omega) (by omega)
   have Hst:Hid (crcN (k + 1) a=q ^^^ r):=by show _=_;rw [Hs.out,hr,hq,hp];rfl
   rw [← hp] at hand
   generalize q ^^^ r=nx at *
   clear hxor hcv Hs hq hp hr hlt
   go_wp2
   go_round
   case rel=>exact ⟨k + 1,by go_num,by omega,by rw [Hst.out]⟩
   case measure=>simp [intOf] <;> omega
  ·obtain rfl:k=8:=by omega
   clear hxor hcv
   go_wp2
   go_ret
   exact ⟨ret_int (by rw [Hx.out,Hb.out]),rfl⟩
theorem crcOn_snoc (c:Nat) (l:List UInt8) (x:UInt8):crcOn c (l++[x])=crcNext (crcOn c l) x:=by
 unfold crcOn
 rw [List.foldl_append];rfl
theorem crcon_any (c:Nat) (v:Value) (l:List UInt8) (w:World) (hc:c < 4294967296) (h:Bs w [] v l) (hl:l.length≤4611686018427387904) :
  Calls Tryz.prog 288 #[.int .u32 c,v] w fun e w'=>e=.returned (.int .u32 (crcOn c l))∧w=w':=by
 obtain ⟨A,cp,rfl,hcp⟩:=h.len
 have Hh:=Lib.hid h
 clear h
 go_enter Tryz.func288,Tryz.ntmps288
 go_wp2_with fail
 go_loopw [0,9] (fun s i wr=>∃ k:Nat,i=.int .i64 k∧k≤l.length∧s=.int .u32 (crcOn c (l.take k):Nat)∧wr=w) (fun _ i _=>l.length - (intOf i).toNat)
 case atStart=>exact ⟨0,rfl,by omega,rfl,rfl⟩
 case round=>
  obtain ⟨k,rfl,hk,rfl,rfl⟩:=hrel
  have hlt:=crcOn_lt (l.take k) hc
  by_cases h8:k < l.length
  ·have hki:(k:Int) < (l.length:Int):=by omega
   obtain ⟨g,off,_,e1,_,_,_,h1⟩:=Rd.at_ (fun b=>[bV b]) 1 (fun _=>rfl) (xs:=l) (show Rd wr [] 1 (.slice A l.length cp) l.length (l.flatMap fun b=>[bV b]) by rw [← List.map_eq_flatMap];exact Hh.out) h8
   obtain rfl:A=some ⟨g,off,none⟩:=by injection e1
   clear e1
   have c0:=h1 0 _ rfl
   rw [Nat.mul_one,Nat.add_zero] at c0
   have Hs:Hid (crcOn c (l.take (k + 1))=crcNext (crcOn c (l.take k)) l[k]):=by show _=_;rw [List.take_succ_eq_append_getElem h8,crcOn_snoc]
   generalize crcOn c (l.take k)=b at *
   have hnx:=Lib.hid (crcnext_any b l[k] wr hlt)
   simp only [bV] at c0 hnx
   generalize crcNext b l[k]=nx at *
   generalize l[k].toNat=xn at *
   clear h1 hlt
   go_wp2_with fail
   refine hnx.out.mono ?_
   rintro e w' ⟨rfl,rfl⟩
   go_wp2
   go_roundw
   case rel=>exact ⟨k + 1,by go_num,by omega,by rw [Hs.out],by first | trivial | rfl⟩
   case measure=>simp [intOf] <;> omega
  ·obtain rfl:k=l.length:=by omega
   have Ht:Hid (crcOn c (l.take l.length)=crcOn c l):=by show _=_;rw [List.take_length]
   go_wp2
   go_ret
   exact ⟨ret_int (by rw [Ht.out]),rfl⟩
theorem u32_not (b:Nat) (hb:b < 4294967296):bits .xor .u32 4294967295 (b:Int)=((4294967295 - b:Nat):Int):=by
 have h1:(BitVec.allOnes 32 ^^^ BitVec.ofNat 32 b).toNat=(~~~ (BitVec.ofNat 32 b)).toNat:=by rw [BitVec.allOnes_xor]
 rw [BitVec.toNat_xor,BitVec.toNat_allOnes,BitVec.toNat_not,BitVec.toNat_ofNat,Nat.mod_eq_of_lt hb] at h1
 have h2:=u32_xor_nat 4294967295 b (by decide) hb
 rw [show (4294967295 ^^^ b:Nat)=4294967295 - b from h1] at h2
 exact h2
theorem crcof_any (v:Value) (l:List UInt8) (w:World) (h:Bs w [] v l) (hl:l.length≤4611686018427387904) :
  Calls Tryz.prog 237 #[v] w fun e w'=>e=.returned (.int .u32 (crcOf l))∧w=w':=by
 have hon:=Lib.hid (crcon_any 4294967295 v l w (by decide) h hl)
 obtain ⟨A,cp,rfl,hcp⟩:=h.len
 have hlt:=crcOn_lt l (c:=4294967295) (by decide)
 have Ho:Hid (crcOf l=4294967295 - crcOn 4294967295 l):=rfl
 clear h
 generalize crcOn 4294967295 l=b at *
 go_enter Tryz.func237,Tryz.ntmps237
 go_wp2_with fail
 refine hon.out.mono ?_
 rintro e w' ⟨rfl,rfl⟩
 go_wp2
 go_ret
 refine ⟨ret_int ?_,rfl⟩
 rw [Ho.out,← u32_not b hlt]
 rfl
end Go.Proofs.YtambjickanapjaaGreatDoor.Vi
end
section
namespace Go.Proofs
open Go.Shelf
def Tryz.growU8_ren:Go.Shelf.Ren:=⟨fun | 4=>289 | n=>n,fun | 22=>50 | 25=>5 | 3=>3 | 4=>4 | 9=>9 | 20=>20 | 0=>0 | n=>n,fun | n=>n⟩
theorem Tryz.growU8:Go.Proofs.Lays8.n4 Tryz.prog Tryz.growU8_ren:={
 mixed:=by kernel_rfl
 f4:=⟨Tryz.f289.name,by decide,Tryz.func289.trans (congrArg some (by kernel_rfl))⟩
 t0:=Tryz.underlying0
 a0:=Tryz.isAgg0
 z0:=Tryz.sizeOf0
 v0:=Tryz.zeroValue0
 t3:=Tryz.underlying3
 a3:=Tryz.isAgg3
 z3:=Tryz.sizeOf3
 v3:=Tryz.zeroValue3
 t4:=Tryz.underlying4
 a4:=Tryz.isAgg4
 z4:=Tryz.sizeOf4
 v4:=Tryz.zeroValue4
 t9:=Tryz.underlying9
 a9:=Tryz.isAgg9
 z9:=Tryz.sizeOf9
 v9:=Tryz.zeroValue9
 t20:=Tryz.underlying20
 a20:=Tryz.isAgg20
 z20:=Tryz.sizeOf20
 v20:=Tryz.zeroValue20
 t22:=Tryz.underlying50
 a22:=Tryz.isAgg50
 z22:=Tryz.sizeOf50
 v22:=Tryz.zeroValue50 }
end Go.Proofs
end
section
namespace Go.Proofs.YtambjickanapjaaGreatDoor.Vi
open Go.RowKit Base Mem Go.Shelf
def GrowPost (w:World) (e:Ending) (w':World):Prop:=∃ v,e=.returned v∧w'.ownsRow w.heap.size 5 1 v 0 []∧Below w.heap.size w w'
theorem growB_any (n:Nat) (w:World) (hn:n≤2097152) :
  Calls Tryz.prog 289 #[.slice none 0 0,.int .i64 n] w fun e w'=>GrowPost w e w':=by
 obtain ⟨i0,hi0,hz0,hz1,hz2⟩:=info_parts infoU8
 by_cases h0:n=0
 ·subst h0
  have h:=Any8.slices_Grow_room Tryz.growU8 none 0 0 0 w (by omega) (by omega) (by omega) (by omega)
  refine Calls.mono h ?_
  rintro e w' ⟨rfl,rfl⟩
  exact ⟨_,rfl,World.ownsRow_nil _ _ _ _,Below.refl _ _⟩
 ·have h:=Any8.slices_Grow_grow Tryz.growU8 i0 _ hi0 hz0 (by omega) none 0 0 n [] w (by omega) (by omega) (by rw [hz2];omega) (by omega) (by simp) (fun _=>rfl) (fun _ h=>by cases h)
  refine Calls.mono h ?_
  rintro e w' ⟨rfl,rfl⟩
  have hge:=grownCap_ge w (0 + n) 0 5
  have hle:=grownCap_le_maxLen w (0 + n) 0 5 (by unfold maxLen;omega)
  refine ⟨_,rfl,⟨by simp,.inr ⟨w.heap.size,_,_,rfl,Nat.le_refl _,heap_alloc_new _ _,Nat.zero_le _,hle,?_,by simp⟩⟩,below_new (((Keeps.refl [] w).drew).below) _⟩
  simp only [Array.size_append,size_zeroCells,List.size_toArray,List.length_nil]
  have ht:Tryz.growU8_ren.t 25=5:=rfl
  rw [ht]
  show 0 + (0 + n - 0) * 1 + (_ - (0 + n)) * 1=_
  omega
def CatPost (la lb:List UInt8) (w:World) (e:Ending) (w':World):Prop:=∃ v,e=.returned v∧w'.ownsRow w.heap.size 5 1 v (la.length + lb.length) ((la++lb).map bV)∧Below w.heap.size w w'
theorem concatB_any (gs:Nat) (va vb:Value) (la lb:List UInt8) (w:World) (ha:Bs w [] va la) (hb:Bs w [] vb lb) (hla:la.length≤1048576) (hlb:lb.length≤1048576)
  (hgs:gs < w.heap.size) (h0:w.cell? ⟨gs,0,none⟩=some va) (h1:w.cell? ⟨gs,1,none⟩=some vb) :
  Calls Tryz.prog 238 #[.slice (some ⟨gs,0,none⟩) 2 2] w fun e w'=>CatPost la lb w e w':=by
 have Ha:=Lib.hid ha;have Hb:=Lib.hid hb
 obtain ⟨Aa,ca,rfl,hca⟩:=ha.len
 obtain ⟨Ab,cb,rfl,hcb⟩:=hb.len
 obtain ⟨i0,hi0,hz0,hz1,hz2⟩:=info_parts infoU8
 have Hi0:=Lib.hid hi0;have Hz0:=Lib.hid hz0;have Hz1:=Lib.hid hz1;have Hz2:=Lib.hid hz2
 clear ha hb hi0 hz0 hz1 hz2
 go_enter Tryz.func238,Tryz.ntmps238
 go_wp2_with fail
 go_loopw [3,11] (fun n j wr=>∃ x y q:Nat,n=.int .i64 y∧j=.int .i64 x∧x≤2∧Hid ((x=0→y=0)∧(x=1→y=la.length)∧(x=2→y=la.length + lb.length))∧wr=w.drewN q) (fun _ j _=>2 - (intOf j).toNat)
 case atStart=>exact ⟨0,0,0,rfl,rfl,by omega,⟨by omega,by omega,by omega⟩,rfl⟩
 case round=>
  obtain ⟨x,y,q,rfl,rfl,hx,Hy,rfl⟩:=hrel
  rcases (show x=0∨x=1∨x=2 by omega) with rfl | rfl | rfl
  ·obtain rfl:y=0:=Hy.out.1 rfl
   go_wp2
   go_roundw
   case rel=>exact ⟨1,la.length,q,by go_num,by go_num,by omega,⟨by omega,by omega,by omega⟩,rfl⟩
   case measure=>simp [intOf]
  ·obtain rfl:y=la.length:=Hy.out.2.1 rfl
   go_wp2
   go_roundw
   case rel=>exact ⟨2,la.length + lb.length,q,by go_num,by go_num,by omega,⟨by omega,by omega,by omega⟩,rfl⟩
   case measure=>simp [intOf]
  ·obtain rfl:y=la.length + lb.length:=Hy.out.2.2 rfl
   have hgr := Lib.hid (show Calls Tryz.prog 289 #[.slice none 0 0, .int .i64 ((la.length : Int) + lb.length)] (w.drewN q) (GrowPost (w.drewN q)) by
    have:=growB_any (la.length + lb.length) (w.drewN q) (by omega)
    rwa [Int.natCast_add] at this)
   go_wp2_with fail
   refine hgr.out.mono ?_
   rintro e w1 ⟨v0,rfl,hown0,hb0⟩
   have Hown0:=Lib.hid (show w1.ownsRow w.heap.size 5 1 v0 0 [] from hown0)
   have Hb0:=Lib.hid (show Below w.heap.size w w1 from ⟨hb0.os,hb0.tape,hb0.output,hb0.size,hb0.block⟩)
   have k0:w1.cell? ⟨gs,0,none⟩=some (.slice Aa la.length ca):=(Hb0.out.cell (p:=⟨gs,0,none⟩) hgs).trans h0
   have k1:w1.cell? ⟨gs,1,none⟩=some (.slice Ab lb.length cb):=(Hb0.out.cell (p:=⟨gs,1,none⟩) hgs).trans h1
   clear hown0 hb0 Hy hgr
   go_wp2_with fail
   go_loopw [6,27] (fun out j wr=>∃ x:Nat,j=.int .i64 x∧x≤2∧Hid (Below w.heap.size w wr)∧Hid ((x=0→wr.ownsRow w.heap.size 5 1 out 0 [])∧(x=1→wr.ownsRow w.heap.size 5 1 out la.length (la.map bV))∧(x=2→wr.ownsRow w.heap.size 5 1 out (la.length + lb.length) ((la++lb).map bV)))) (fun _ j _=>2 - (intOf j).toNat)
   case atStart=>exact ⟨0,rfl,by omega,Hb0.out,⟨fun _=>Hown0.out,by omega,by omega⟩⟩
   case round=>
    obtain ⟨x,rfl,hx,Hbr,Hor⟩:=hrel
    have k0:wr.cell? ⟨gs,0,none⟩=some (.slice Aa la.length ca):=(Hbr.out.cell (p:=⟨gs,0,none⟩) hgs).trans h0
    have k1:wr.cell? ⟨gs,1,none⟩=some (.slice Ab lb.length cb):=(Hbr.out.cell (p:=⟨gs,1,none⟩) hgs).trans h1
    rcases (show x=0∨x=1∨x=2 by omega) with rfl | rfl | rfl
    ·have Hown:=Lib.hid (Hor.out.1 rfl)
     have Hrd:=Lib.hid ((Ha.out.keep (Keeps.of_below (M:=[]) Hbr.out) (by simp)).reads)
     obtain ⟨A1,c1,e1,_,hrd⟩:=Hrd.out
     injection e1 with e1 _ e2
     subst e1 e2
     have Hrd2:=Lib.hid hrd
     clear hrd Hrd
     go_wp2_with (at_builtin;refine wpList_append_any _ rfl (.tmp 31) (.tmp 32) _ rfl w.heap.size 5 i0 _ 1 1 Tryz.underlying50 Hi0.out Hz0.out Hz1.out Hz2.out rfl (by omega) u6 0 [] rfl Hown.out wr.heap.size Aa la.length ca (la.map bV) rfl Hrd2.out (bV_one la) (by unfold maxLen;omega) (by omega) Hbr.out.size ?_)
     intro v' w4 hown4 hg4 hat4
     have Hown4:Hid (w4.ownsRow w.heap.size 5 1 v' la.length (la.map bV)):=by show World.ownsRow _ _ _ _ _ _ _;simpa using hown4
     have Hb4:=Lib.hid (Hbr.out.grown hg4 Hbr.out.size (fun g hg=>(Hown.out.lt g hg).1))
     clear hown4 hg4 hat4
     go_wp2
     go_roundw
     case rel=>exact ⟨1,by go_num,by omega,Hb4,⟨by omega,fun _=>Hown4.out,by omega⟩⟩
     case measure=>simp [intOf]
    ·have Hown:=Lib.hid (Hor.out.2.1 rfl)
     have Hrd:=Lib.hid ((Hb.out.keep (Keeps.of_below (M:=[]) Hbr.out) (by simp)).reads)
     obtain ⟨A1,c1,e1,_,hrd⟩:=Hrd.out
     injection e1 with e1 _ e2
     subst e1 e2
     have Hrd2:=Lib.hid hrd
     clear hrd Hrd
     go_wp2_with (at_builtin;refine wpList_append_any _ rfl (.tmp 31) (.tmp 32) _ rfl w.heap.size 5 i0 _ 1 1 Tryz.underlying50 Hi0.out Hz0.out Hz1.out Hz2.out rfl (by omega) u6 la.length (la.map bV) rfl Hown.out wr.heap.size Ab lb.length cb (lb.map bV) rfl Hrd2.out (bV_one lb) (by unfold maxLen;omega) (by omega) Hbr.out.size ?_)
     intro v' w4 hown4 hg4 hat4
     have Hown4:Hid (w4.ownsRow w.heap.size 5 1 v' (la.length + lb.length) ((la++lb).map bV)):=by show World.ownsRow _ _ _ _ _ _ _;rw [List.map_append];exact hown4
     have Hb4:=Lib.hid (Hbr.out.grown hg4 Hbr.out.size (fun g hg=>(Hown.out.lt g hg).1))
     clear hown4 hg4 hat4
     go_wp2
     go_roundw
     case rel=>exact ⟨2,by go_num,by omega,Hb4,⟨by omega,by omega,fun _=>Hown4.out⟩⟩
     case measure=>simp [intOf]
    ·have hp:CatPost la lb w (.returned u6) wr:=⟨u6,rfl,Hor.out.2.2 rfl,Hbr.out⟩
     go_wp2
     go_ret
     exact hp
theorem own_more {w:World} {base base':Nat} {e:TypeId} {size n:Nat} {v:Value} {xs:List Value} (h:w.ownsRow base e size v n xs) (hb:base'≤base):w.ownsRow base' e size v n xs:=by
 obtain ⟨hl,h⟩:=h
 refine ⟨hl,h.imp id ?_⟩
 rintro ⟨g,cap,cur,hv,hbg,rest⟩
 exact ⟨g,cap,cur,hv,Nat.le_trans hb hbg,rest⟩
def FrPost (l:List UInt8) (w:World) (e:Ending) (w':World):Prop:=∃ A c,e=.returned (.tuple #[.slice A (frameL l).length c,.int .i64 0])∧(∀ M,(∀ g∈M,g < w.heap.size)→Bs w' M (.slice A (frameL l).length c) (frameL l))∧Below w.heap.size w w'
theorem frame_long (v:Value) (l:List UInt8) (w:World) (h:Bs w [] v l) (hl:65536 < l.length) :
  Calls Tryz.prog 170 #[v] w fun e w'=>e=.returned (.tuple #[.slice none 0 0,.int .i64 3])∧w=w':=by
 obtain ⟨A,c,rfl,_⟩:=h.len
 have hi:(65536:Int) < (l.length:Int):=by omega
 clear h
 go_enter Tryz.func170,Tryz.ntmps170
 go_wp2
 go_ret2
 exact ⟨rfl,rfl⟩
theorem frame_any (v:Value) (l:List UInt8) (w:World) (h:Bs w [] v l) (hl:l.length≤65536) :
  Calls Tryz.prog 170 #[v] w fun e w'=>FrPost l w e w':=by
 obtain ⟨i0,hi0,hz0,hz1,hz2⟩:=info_parts infoU8
 have Hi0:=Lib.hid hi0;have Hz0:=Lib.hid hz0;have Hz1:=Lib.hid hz1;have Hz2:=Lib.hid hz2
 obtain ⟨A,c,rfl,hc⟩:=h.len
 have Hh:=Lib.hid h
 have hput:=put_any (.slice none 0 0) [] l.length w (Bs.nil _ _) (by omega) (by simp)
 rw [List.nil_append] at hput
 have Hput:=Lib.hid hput
 have hul:=Lib.uvarint_length64 (x:=l.length) (by omega)
 have hup:=Lib.uvarint_pos l.length
 have HF:Hid (frameL l=Lib.uvarint l.length++(leL (crcOf l)++l)):=rfl
 have hcr:=Lib.hid (fun W (hk:Keeps [] w W)=>crcof_any (.slice A l.length c) l W (h.keep hk (by simp)) (by omega))
 have hs:=crcOf_lt l
 clear h hi0 hz0 hz1 hz2 hput
 generalize crcOf l=s at *
 generalize Lib.uvarint l.length=uv at *
 obtain ⟨n,hn⟩:∃ n,n=uv.length:=⟨_,rfl⟩
 have Hn:=Lib.hid hn
 rw [← hn] at hul hup
 have hwl:IntKind.u64.wrap (l.length:Int)=(l.length:Int):=by rw [IntKind.wrap_u64];omega
 have hli:decide ((65536:Int) < (l.length:Int))=false:=decide_eq_false (by omega)
 clear hn
 go_enter Tryz.func170,Tryz.ntmps170
 go_wp2_with fail
 refine Hput.out.mono ?_
 rintro e w1 ⟨A1,rfl,hB1,hb1⟩
 obtain ⟨g1,o1,rfl⟩:=(hB1 [] (by simp)).some_ (by have:=Hn.out;omega)
 rw [← Hn.out] at hB1 ⊢
 have HB1:=Lib.hid (hB1 [] (by simp));have Hb1:=Lib.hid hb1
 have Hc1:=Lib.hid (hcr.out w1 (Keeps.of_below hb1))
 clear hB1 hb1 hcr Hput
 go_wp2_with fail
 refine Hc1.out.mono ?_
 rintro e w' ⟨rfl,rfl⟩
 clear Hc1
 go_wp2_with fail
 go_loopw [4,16] (fun out i wr=>∃ x:Nat,i=.int .i64 x∧x≤4∧Hid ((x=0→out=.slice (some ⟨g1,o1,none⟩) n n∧Bs wr [] out uv)∧(0 < x→wr.ownsRow w.heap.size 5 1 out (n + x) ((uv++(leL s).take x).map bV)))∧Hid (Below w.heap.size w wr)) (fun _ i _=>4 - (intOf i).toNat)
 case atStart=>exact ⟨0,rfl,by omega,⟨fun _=>⟨rfl,HB1.out⟩,by omega⟩,Hb1.out⟩
 case round=>
  obtain ⟨x,rfl,hx,Hor,Hbr⟩:=hrel
  rcases (show x=0∨x=1∨x=2∨x=3∨x=4 by omega) with rfl | rfl | rfl | rfl | rfl
  ·have hone:Hid (bV (UInt8.ofNat (s))=.int .u8 ((s:Int) % 256)):=by show _=_;rw [bV_low];try (congr 1)
   have Hrd:=Lib.hid (reads_new wr 5 1 1 [.int .u8 ((s:Int) % 256)] rfl)
   obtain ⟨rfl,hB⟩:=Hor.out.1 rfl
   obtain ⟨_, _, eA, hg, _⟩ := (show ∃ g off, (some ⟨g1, o1, none⟩ : Option Addr) = some ⟨g, off, none⟩ ∧ g < wr.heap.size ∧ True by
    obtain ⟨A',c',e2,_,_,hr⟩:=hB
    injection e2 with e2 _ _
    subst e2
    obtain ⟨g',off',e3,hg',_,_⟩:=hr (by have:=Hn.out;omega)
    exact ⟨g', off', e3, hg', trivial⟩)
   injection eA with eA
   injection eA with eg eo _
   subst eg eo
   have HBw:=Lib.hid hB
   have Hcells:Hid (∀ (j:Nat) u,(uv.map bV)[j]? = some u→(wr.alloc (.cells #[.int .u8 ((s:Int) % 256)] 5)).cell? ⟨g1,o1 + j,none⟩=some u):=fun j u hu=>by
    obtain ⟨A',c',e2,_,_,hr⟩:=HBw.out
    injection e2 with e2 _ _
    subst e2
    obtain ⟨g',off',e3,hg',_,hx⟩:=hr (by have:=Hn.out;omega)
    injection e3 with e3
    injection e3 with e3 e4 _
    subst e3 e4
    rw [World.cell?_alloc_lt wr _ ⟨g1,o1 + j,none⟩ hg]
    exact hx j u hu
   clear hB
   go_wp2_with (at_builtin;refine wpList_append_arg _ rfl (.tmp 19) (.tmp 25) _ rfl 5 i0 _ 1 1 Tryz.underlying50 Hi0.out Hz0.out Hz1.out Hz2.out rfl (by omega) g1 o1 n n (uv.map bV) rfl (by have:=Hn.out;simp;omega) Hcells.out ⟨wr.heap.size,0,none⟩ 1 1 [.int .u8 ((s:Int) % 256)] rfl rfl (fun j u hu=>(Hrd.out.2 (by omega)).elim fun ad h=>by obtain ⟨e,_,hx⟩:=h;injection e with e;subst e;exact hx j u hu) (by intro u hu;simp at hu;subst hu;rfl) (fun h=>by omega) (by unfold maxLen;omega) (by omega) (fun h=>by omega) (fun _=>?_))
   intro v' w4 hown4 hg4
   have Hown4:Hid (w4.ownsRow w.heap.size 5 1 v' (n + 1) ((uv++(leL s).take 1).map bV)):=by
    show World.ownsRow _ _ _ _ _ _ _
    have e:(uv++(leL s).take 1).map bV=uv.map bV++[.int .u8 ((s:Int) % 256)]:=by rw [← hone.out];simp [leL]
    rw [e]
    exact own_more (base':=w.heap.size) hown4 (by have:=Hbr.out.size;simp;omega)
   have Hb4:Hid (Below w.heap.size w w4):=(Hbr.out.alloc Hbr.out.size _).grown hg4 (by have:=Hbr.out.size;simp;omega) (by simp)
   clear hown4 hg4
   go_wp2
   go_roundw
   case rel=>exact ⟨1,by go_num,by omega,⟨by omega,fun _=>Hown4.out⟩,Hb4⟩
   case measure=>simp [intOf]
  ·have hone:Hid (bV (UInt8.ofNat (s / 256))=.int .u8 ((s:Int) / 256 % 256)):=by show _=_;rw [bV_low];try (congr 1)
   have Hrd:=Lib.hid (reads_new wr 5 1 1 [.int .u8 ((s:Int) / 256 % 256)] rfl)
   have Hown3:=Lib.hid ((Hor.out.2 (by omega)).alloc (.cells #[.int .u8 ((s:Int) / 256 % 256)] 5))
   go_wp2_with (at_builtin;go_must (refine wpList_append_any _ rfl (.tmp 19) (.tmp 25) _ rfl w.heap.size 5 i0 _ 1 1 Tryz.underlying50 Hi0.out Hz0.out Hz1.out Hz2.out rfl (by omega) u4 (n + 1) ((uv++(leL s).take 1).map bV) rfl Hown3.out (wr.heap.size + 1) (some ⟨wr.heap.size,0,none⟩) 1 1 [.int .u8 ((s:Int) / 256 % 256)] rfl Hrd.out (by intro u hu;simp at hu;subst hu;rfl) (by unfold maxLen;omega) (by omega) (by have:=Hbr.out.size;simp;omega) ?_))
   intro v' w4 hown4 hg4 hat4
   have Hown4:Hid (w4.ownsRow w.heap.size 5 1 v' (n + 2) ((uv++(leL s).take 2).map bV)):=by
    show World.ownsRow _ _ _ _ _ _ _
    have e:(uv++(leL s).take 2).map bV=(uv++(leL s).take 1).map bV++[.int .u8 ((s:Int) / 256 % 256)]:=by rw [← hone.out];simp [leL]
    rw [e]
    simpa [Nat.add_assoc] using hown4
   have Hb4:Hid (Below w.heap.size w w4):=(Hbr.out.alloc Hbr.out.size _).grown hg4 (by have:=Hbr.out.size;simp;omega) (fun g hg=>((Hor.out.2 (by omega)).lt g hg).1)
   clear hown4 hg4 hat4
   go_wp2
   go_roundw
   case rel=>exact ⟨2,by go_num,by omega,⟨by omega,fun _=>Hown4.out⟩,Hb4⟩
   case measure=>simp [intOf]
  ·have hone:Hid (bV (UInt8.ofNat (s / 65536))=.int .u8 ((s:Int) / 65536 % 256)):=by show _=_;rw [bV_low];try (congr 1)
   have Hrd:=Lib.hid (reads_new wr 5 1 1 [.int .u8 ((s:Int) / 65536 % 256)] rfl)
   have Hown3:=Lib.hid ((Hor.out.2 (by omega)).alloc (.cells #[.int .u8 ((s:Int) / 65536 % 256)] 5))
   go_wp2_with (at_builtin;go_must (refine wpList_append_any _ rfl (.tmp 19) (.tmp 25) _ rfl w.heap.size 5 i0 _ 1 1 Tryz.underlying50 Hi0.out Hz0.out Hz1.out Hz2.out rfl (by omega) u4 (n + 2) ((uv++(leL s).take 2).map bV) rfl Hown3.out (wr.heap.size + 1) (some ⟨wr.heap.size,0,none⟩) 1 1 [.int .u8 ((s:Int) / 65536 % 256)] rfl Hrd.out (by intro u hu;simp at hu;subst hu;rfl) (by unfold maxLen;omega) (by omega) (by have:=Hbr.out.size;simp;omega) ?_))
   intro v' w4 hown4 hg4 hat4
   have Hown4:Hid (w4.ownsRow w.heap.size 5 1 v' (n + 3) ((uv++(leL s).take 3).map bV)):=by
    show World.ownsRow _ _ _ _ _ _ _
    have e:(uv++(leL s).take 3).map bV=(uv++(leL s).take 2).map bV++[.int .u8 ((s:Int) / 65536 % 256)]:=by rw [← hone.out];simp [leL]
    rw [e]
    simpa [Nat.add_assoc] using hown4
   have Hb4:Hid (Below w.heap.size w w4):=(Hbr.out.alloc Hbr.out.size _).grown hg4 (by have:=Hbr.out.size;simp;omega) (fun g hg=>((Hor.out.2 (by omega)).lt g hg).1)
   clear hown4 hg4 hat4
   go_wp2
   go_roundw
   case rel=>exact ⟨3,by go_num,by omega,⟨by omega,fun _=>Hown4.out⟩,Hb4⟩
   case measure=>simp [intOf]
  ·have hone:Hid (bV (UInt8.ofNat (s / 16777216))=.int .u8 ((s:Int) / 16777216)):=by show _=_;rw [bV_low];congr 1;omega
   have Hrd:=Lib.hid (reads_new wr 5 1 1 [.int .u8 ((s:Int) / 16777216)] rfl)
   have Hown3:=Lib.hid ((Hor.out.2 (by omega)).alloc (.cells #[.int .u8 ((s:Int) / 16777216)] 5))
   go_wp2_with (at_builtin;go_must (refine wpList_append_any _ rfl (.tmp 19) (.tmp 25) _ rfl w.heap.size 5 i0 _ 1 1 Tryz.underlying50 Hi0.out Hz0.out Hz1.out Hz2.out rfl (by omega) u4 (n + 3) ((uv++(leL s).take 3).map bV) rfl Hown3.out (wr.heap.size + 1) (some ⟨wr.heap.size,0,none⟩) 1 1 [.int .u8 ((s:Int) / 16777216)] rfl Hrd.out (by intro u hu;simp at hu;subst hu;rfl) (by unfold maxLen;omega) (by omega) (by have:=Hbr.out.size;simp;omega) ?_))
   intro v' w4 hown4 hg4 hat4
   have Hown4:Hid (w4.ownsRow w.heap.size 5 1 v' (n + 4) ((uv++(leL s).take 4).map bV)):=by
    show World.ownsRow _ _ _ _ _ _ _
    have e:(uv++(leL s).take 4).map bV=(uv++(leL s).take 3).map bV++[.int .u8 ((s:Int) / 16777216)]:=by rw [← hone.out];simp [leL]
    rw [e]
    simpa [Nat.add_assoc] using hown4
   have Hb4:Hid (Below w.heap.size w w4):=(Hbr.out.alloc Hbr.out.size _).grown hg4 (by have:=Hbr.out.size;simp;omega) (fun g hg=>((Hor.out.2 (by omega)).lt g hg).1)
   clear hown4 hg4 hat4
   go_wp2
   go_roundw
   case rel=>exact ⟨4,by go_num,by omega,⟨by omega,fun _=>Hown4.out⟩,Hb4⟩
   case measure=>simp [intOf]
  ·have hown:=Hor.out.2 (by omega)
   have hB4:Bs wr [] u4 (uv++leL s):=by
    have:=Rd.of_own (M:=[]) hown (by simp)
    have e:(leL s).take 4=leL s:=rfl
    rw [e] at this
    unfold Bs
    rw [List.length_append,← Hn.out,leL_len]
    exact this
   obtain ⟨A4,c4,rfl,hc4⟩:=hB4.len
   have hl4:(uv++leL s).length=n + 4:=by rw [List.length_append,← Hn.out,leL_len]
   have hBl:Bs wr [] (.slice A l.length c) l:=Hh.out.keep (Keeps.of_below (M:=[]) Hbr.out) (by simp)
   have hk:Keeps [] wr (wr.alloc (.cells #[.slice A4 (n + 4) c4,.slice A l.length c] 50)):=(Keeps.refl _ _).alloc _
   rw [hl4] at hB4
   have hBk:=Blk.new wr 50 #[.slice A4 (n + 4) c4,.slice A l.length c]
   have hcat:=Lib.hid (concatB_any wr.heap.size (.slice A4 (n + 4) c4) (.slice A l.length c) (uv++leL s) l _ (hB4.keep hk (by simp)) (hBl.keep hk (by simp)) (by rw [hl4];omega) (by omega) hBk.lt (hBk.cell 0) (hBk.cell 1))
   have Hb5:=Lib.hid ((Keeps.of_below (M:=[]) Hbr.out).trans hk (by simp)).below
   have hfe:Hid (frameL l=(uv++leL s)++l):=by show _=_;rw [HF.out,List.append_assoc]
   rw [hl4]
   clear hB4 hBl hk hBk hown hl4 hc4
   go_wp2_with fail
   refine hcat.out.mono ?_
   rintro e w6 ⟨v6,rfl,hown6,hb6⟩
   rw [← List.length_append,← hfe.out] at hown6
   have hR6:∀ M,(∀ g∈M,g < w.heap.size)→Bs w6 M v6 (frameL l):=fun M hM=>Rd.of_own hown6 (fun g hg=>by have:=hM g hg;have:=Hb5.out.size;omega)
   obtain ⟨A6,c6,rfl,hc6⟩:=(hR6 [] (by simp)).len
   have hp:Hid (FrPost l w (.returned (.tuple #[.slice A6 (frameL l).length c6,.int .i64 0])) w6):=⟨A6,c6,rfl,hR6,below_then Hb5.out hb6⟩
   clear hown6 hR6 hb6 hcat
   generalize (frameL l).length=fl at *
   go_wp2
   go_ret2
   exact hp.out
def FrRead (l:List UInt8) (w:World) (e:Ending) (w':World):Prop:=match readF l with
 | none=>e=.returned (.tuple #[.slice none 0 0,.int .i64 0,.bool false])∧Below w.heap.size w w'
 | some (x,n)=>∃ A c,e=.returned (.tuple #[.slice A x.length c,.int .i64 n,.bool true])∧(∀ M,(∀ g∈M,g < w.heap.size)→Bs w' M (.slice A x.length c) x)∧Below w.heap.size w w'
theorem u32_or_shift (a b k:Nat) (ha:a < 2 ^ k) (hk:k≤24) (hb:b < 256):bits .or .u32 (a:Int) ((b * 2 ^ k:Nat):Int)=((a + b * 2 ^ k:Nat):Int):=by
 have hp:2 ^ k≤2 ^ 24:=Nat.pow_le_pow_right (by omega) hk
 have hb2:b * 2 ^ k≤255 * 2 ^ 24:=Nat.mul_le_mul (by omega) hp
 have hlt:a + b * 2 ^ k < 4294967296:=by omega
 show IntKind.u32.wrap ((BitVec.ofInt 32 (a:Int) ||| BitVec.ofInt 32 ((b * 2 ^ k:Nat):Int)).toNat:Int)=_
 rw [BitVec.toNat_or,BitVec.ofInt_natCast,BitVec.ofInt_natCast,BitVec.toNat_ofNat,BitVec.toNat_ofNat,Nat.mod_eq_of_lt (by omega),Nat.mod_eq_of_lt (by omega),Nat.or_comm,nat_join k (b * 2 ^ k) a (Nat.mul_mod_left _ _) ha,IntKind.wrap_u32]
 omega
theorem framer_any (v:Value) (l:List UInt8) (w:World) (h:Bs w [] v l) (hl:l.length≤4611686018427387000) :
  Calls Tryz.prog 215 #[v] w fun e w'=>FrRead l w e w':=by
 have hg:=Lib.hid (get_any v l w h (by omega))
 obtain ⟨A,c,rfl,hc⟩:=h.len
 have H:=Lib.hid h
 obtain ⟨hk,hn⟩:=getL_le l
 have HC := Lib.hid (show readF l = (if (getL l).2 = 0 ∨ 65536 < (getL l).1 ∨ l.length < (getL l).2 + 4 + (getL l).1 then none
  else if crcOf ((l.drop ((getL l).2 + 4)).take (getL l).1) = unL (l.drop (getL l).2) then some ((l.drop ((getL l).2 + 4)).take (getL l).1, (getL l).2 + 4 + (getL l).1) else none) from rfl)
 have hnone:Hid (∀ q,readF l=none→FrRead l w (.returned (.tuple #[.slice none 0 0,.int .i64 0,.bool false])) (w.drewN q)):=fun q h=>by
  unfold FrRead;rw [h];exact ⟨rfl,((Keeps.refl [] w).drewN q).below⟩
 clear h
 generalize (getL l).1=n at *
 generalize (getL l).2=k at *
 by_cases hk0:k=0
 ·have hR:=Lib.hid (fun q=>hnone.out q (by rw [HC.out,if_pos (.inl hk0)]))
  subst hk0
  clear HC hnone
  go_enter Tryz.func215,Tryz.ntmps215
  go_wp2_with fail
  refine hg.out.mono ?_
  rintro e w1 ⟨rfl,q,rfl⟩
  go_wp2
  go_ret3
  exact hR.out q
 ·have hkz:((k:Int) == 0)=false:=by simpa using hk0
  by_cases hn6:65536 < n
  ·have hR:=Lib.hid (fun q=>hnone.out q (by rw [HC.out,if_pos (.inr (.inl hn6))]))
   have hni:(65536:Int) < (n:Int):=by omega
   clear HC hnone
   go_enter Tryz.func215,Tryz.ntmps215
   go_wp2_with fail
   refine hg.out.mono ?_
   rintro e w1 ⟨rfl,q,rfl⟩
   go_wp2
   go_ret3
   exact hR.out q
  ·have hni:decide ((65536:Int) < (n:Int))=false:=decide_eq_false (by omega)
   have hwn:IntKind.i64.wrap (n:Int)=(n:Int):=by rw [IntKind.wrap_i64];omega
   have hwk:IntKind.i64.wrap ((k:Int) + 4)=(k:Int) + 4:=by rw [IntKind.wrap_i64];omega
   have hwkn:IntKind.i64.wrap ((k:Int) + 4 + (n:Int))=(k:Int) + 4 + (n:Int):=by rw [IntKind.wrap_i64];omega
   by_cases hlen:l.length < k + 4 + n
   ·have hR:=Lib.hid (fun q=>hnone.out q (by rw [HC.out,if_pos (.inr (.inr hlen))]))
    have hli:(l.length:Int) < (k:Int) + 4 + (n:Int):=by omega
    clear HC hnone
    go_enter Tryz.func215,Tryz.ntmps215
    go_wp2_with fail
    refine hg.out.mono ?_
    rintro e w1 ⟨rfl,q,rfl⟩
    go_wp2
    go_ret3
    exact hR.out q
   ·have hli:decide ((l.length:Int) < (k:Int) + 4 + (n:Int))=false:=decide_eq_false (by omega)
    have HT:Hid (readF l=if crcOf ((l.drop (k + 4)).take n)=unL (l.drop k) then some ((l.drop (k + 4)).take n,k + 4 + n) else none):=by
     show _=_;rw [HC.out,if_neg (by omega)]
    obtain ⟨g,off,rfl⟩:=H.out.some_ (by omega)
    have hcell:∀ j,(hj:j < l.length)→w.cell? ⟨g,off + j,none⟩=some (.int .u8 (l[j]'hj).toNat):=fun j hj=>by
     obtain ⟨A',c',e2,_,_,hr⟩:=H.out
     injection e2 with e2 _ _
     subst e2
     obtain ⟨g',off',e3,_,_,hx⟩:=hr (by omega)
     injection e3 with e3
     injection e3 with e3 e4 _
     subst e3 e4
     exact hx j _ (by rw [List.getElem?_map,List.getElem?_eq_getElem hj];rfl)
    have hcg:g < w.heap.size:=World.block_lt_of_cell? w _ (hcell 0 (by omega))
    have k0:=hcell k (by omega)
    have k1:=hcell (k + 1) (by omega)
    have k2:=hcell (k + 2) (by omega)
    have k3:=hcell (k + 3) (by omega)
    have hun:unL (l.drop k)=l[k].toNat + 256 * l[k + 1].toNat + 65536 * l[k + 2].toNat + 16777216 * l[k + 3].toNat:=by
     unfold unL
     simp only [List.getD_eq_getElem?_getD,List.getElem?_drop,Nat.add_zero]
     rw [List.getElem?_eq_getElem (by omega),List.getElem?_eq_getElem (by omega),List.getElem?_eq_getElem (by omega),List.getElem?_eq_getElem (by omega)]
     rfl
    rw [hun] at HT
    have b0:=l[k].toNat_lt;have b1:=l[k + 1].toNat_lt;have b2:=l[k + 2].toNat_lt;have b3:=l[k + 3].toNat_lt
    generalize l[k].toNat=x0 at *
    generalize l[k + 1].toNat=x1 at *
    generalize l[k + 2].toNat=x2 at *
    generalize l[k + 3].toNat=x3 at *
    clear hcell hun HC hnone
    have Hk0:=Lib.hid k0;have Hk1:=Lib.hid k1;have Hk2:=Lib.hid k2;have Hk3:=Lib.hid k3
    clear k0 k1 k2 k3
    go_enter Tryz.func215,Tryz.ntmps215
    go_wp2_with fail
    refine hg.out.mono ?_
    rintro e w1 ⟨rfl,q,rfl⟩
    go_wp2_with fail
    go_loopw [7,32] (fun s i wr=>∃ (x p:Nat),i=.int .i64 x∧x≤4∧s=.int .u32 p∧Hid ((x=0→p=0)∧(x=1→p=x0)∧(x=2→p=x0 + x1 * 2 ^ 8)∧(x=3→p=x0 + x1 * 2 ^ 8 + x2 * 2 ^ 16)∧(x=4→p=x0 + x1 * 2 ^ 8 + x2 * 2 ^ 16 + x3 * 2 ^ 24))∧wr=w.drewN q) (fun _ i _=>4 - (intOf i).toNat)
    case atStart=>exact ⟨0,0,rfl,by omega,rfl,⟨by omega,by omega,by omega,by omega,by omega⟩,rfl⟩
    case round=>
     obtain ⟨x,p,rfl,hx,rfl,Hp,rfl⟩:=hrel
     rcases (show x=0∨x=1∨x=2∨x=3∨x=4 by omega) with rfl | rfl | rfl | rfl | rfl
     ·have Hpv:=Lib.hid (Hp.out.1 rfl)
      have c0:=Hk0.out
      have Hor:Hid (bits .or .u32 (p:Int) (x0:Int)=((p + x0 * 2 ^ 0:Nat):Int)):=by
       have:=u32_or_shift p x0 0 (by have:=Hpv.out;omega) (by omega) b0
       rw [show ((x0 * 2 ^ 0:Nat):Int)=(x0:Int) by omega] at this
       exact this
      go_wp2_with fail
      exact ⟨⟨1,p + x0 * 2 ^ 0,by go_num,by omega,by first | rw [Hor.out] | (rw [← Hor.out]),⟨by omega,fun _=>by have:=Hpv.out;omega,by omega,by omega,by omega⟩,by first | trivial | rfl⟩,by simp [intOf]⟩
     ·have Hpv:=Lib.hid (Hp.out.2.1 rfl)
      have c0:=Hk1.out
      have Hor:Hid (bits .or .u32 (p:Int) ((x1:Int) * 256)=((p + x1 * 2 ^ 8:Nat):Int)):=by
       have:=u32_or_shift p x1 8 (by have:=Hpv.out;omega) (by omega) b1
       rw [show ((x1 * 2 ^ 8:Nat):Int)=((x1:Int) * 256) by omega] at this
       exact this
      go_wp2_with fail
      exact ⟨⟨2,p + x1 * 2 ^ 8,by go_num,by omega,by first | rw [Hor.out] | (rw [← Hor.out]),⟨by omega,by omega,fun _=>by have:=Hpv.out;omega,by omega,by omega⟩,by first | trivial | rfl⟩,by simp [intOf]⟩
     ·have Hpv:=Lib.hid (Hp.out.2.2.1 rfl)
      have c0:=Hk2.out
      have Hor:Hid (bits .or .u32 (p:Int) ((x2:Int) * 65536)=((p + x2 * 2 ^ 16:Nat):Int)):=by
       have:=u32_or_shift p x2 16 (by have:=Hpv.out;omega) (by omega) b2
       rw [show ((x2 * 2 ^ 16:Nat):Int)=((x2:Int) * 65536) by omega] at this
       exact this
      go_wp2_with fail
      exact ⟨⟨3,p + x2 * 2 ^ 16,by go_num,by omega,by first | rw [Hor.out] | (rw [← Hor.out]),⟨by omega,by omega,by omega,fun _=>by have:=Hpv.out;omega,by omega⟩,by first | trivial | rfl⟩,by simp [intOf]⟩
     ·have Hpv:=Lib.hid (Hp.out.2.2.2.1 rfl)
      have c0:=Hk3.out
      have Hor:Hid (bits .or .u32 (p:Int) ((x3:Int) * 16777216)=((p + x3 * 2 ^ 24:Nat):Int)):=by
       have:=u32_or_shift p x3 24 (by have:=Hpv.out;omega) (by omega) b3
       rw [show ((x3 * 2 ^ 24:Nat):Int)=((x3:Int) * 16777216) by omega] at this
       exact this
      go_wp2_with fail
      exact ⟨⟨4,p + x3 * 2 ^ 24,by go_num,by omega,by first | rw [Hor.out] | (rw [← Hor.out]),⟨by omega,by omega,by omega,by omega,fun _=>by have:=Hpv.out;omega⟩,by first | trivial | rfl⟩,by simp [intOf]⟩
     ·have Hpv:Hid (p=x0 + 256 * x1 + 65536 * x2 + 16777216 * x3):=by have:=Hp.out.2.2.2.2 rfl;show _=_;omega
      have HX:Hid (readF l=if crcOf ((l.drop (k + 4)).take n)=p then some ((l.drop (k + 4)).take n,k + 4 + n) else none):=by show _=_;rw [HT.out,Hpv.out]
      have hxl:((l.drop (k + 4)).take n).length=n:=by rw [List.length_take,List.length_drop];omega
      have hki:(k:Int) + 4≤(k:Int) + 4 + (n:Int):=by omega
      have hkc:(k:Int) + 4 + (n:Int)≤(c:Int):=by omega
      have hHq:=H.out.keep (M':=[]) ((Keeps.refl [] w).drewN q) (by simp)
      have hend:Hid (∀ (v':Value) (W w':World),W=w.drewN q→w'.ownsRow W.heap.size 5 1 v' n (((l.drop (k + 4)).take n).map bV)→Below W.heap.size W w'→∃ A' c',v'=.slice A' n c'∧Calls Tryz.prog 237 #[v'] w' (fun e w''=>e=.returned (.int .u32 (crcOf ((l.drop (k + 4)).take n)))∧w'=w'')∧(crcOf ((l.drop (k + 4)).take n)=p→FrRead l w (.returned (.tuple #[v',.int .i64 ((k:Int) + 4 + (n:Int)),.bool true])) w')∧(¬ crcOf ((l.drop (k + 4)).take n)=p→FrRead l w (.returned (.tuple #[.slice none 0 0,.int .i64 0,.bool false])) w')):=by
       rintro v' W w' rfl hown hb
       have hB:∀ M,(∀ g∈M,g < w.heap.size)→Bs w' M v' ((l.drop (k + 4)).take n):=fun M hM=>by
        unfold Bs
        rw [hxl]
        exact Rd.of_own hown hM
       have hbw:Below w.heap.size w w':=⟨hb.os,hb.tape,hb.output,hb.size,hb.block⟩
       obtain ⟨A',c',e,_⟩:=(hB [] (by simp)).len
       rw [hxl] at e
       refine ⟨A',c',e,crcof_any v' _ w' (hB [] (by simp)) (by omega),fun h=>?_,fun h=>?_⟩
       ·unfold FrRead
        rw [HX.out,if_pos h]
        refine ⟨A',c',?_,?_,hbw⟩
        ·rw [hxl,e,Int.natCast_add,Int.natCast_add];rfl
        ·rw [hxl,← e];exact hB
       ·unfold FrRead
        rw [HX.out,if_neg h]
        exact ⟨rfl,hbw⟩
      clear Hk0 Hk1 Hk2 Hk3 Hp HT HX Hpv
      by_cases hck:c=k + 4
      ·obtain rfl:n=0:=by omega
       have hcl:=Lib.hid (cloneU8 [] (.slice (some ⟨g,off,none⟩) 0 0) 0 [] (w.drewN q) ⟨_,0,rfl,Nat.le_refl _,rfl,fun h=>absurd h (by omega)⟩ (by simp) (by omega))
       rw [List.take_zero,List.map_nil] at hend
       generalize crcOf ([]:List UInt8)=cx at *
       go_wp2_with fail
       refine hcl.out.mono ?_
       rintro e w2 ⟨v',rfl,hown,hb⟩
       obtain ⟨A',c',rfl,hcr,hy,hno⟩:=hend.out v' _ w2 rfl hown hb
       have Hcr:=Lib.hid hcr;have Hy:=Lib.hid hy;have Hno:=Lib.hid hno
       clear hown hb hcl hcr hy hno hend
       go_wp2_with fail
       refine Hcr.out.mono ?_
       rintro e w3 ⟨rfl,rfl⟩
       by_cases hcp:cx=p
       ·have hne:((cx:Int) != (p:Int))=false:=by simp [hcp]
        have hp:=Lib.hid (Hy.out hcp)
        clear hcp Hy Hno
        go_wp2
        go_ret3
        exact hp.out
       ·have hne:((cx:Int) != (p:Int))=true:=by simp;omega
        have hp:=Lib.hid (Hno.out hcp)
        clear hcp Hy Hno
        go_wp2
        go_ret3
        exact hp.out
      ·have hpt:=hHq.part (k + 4) n (by omega) (c - (k + 4)) (by omega) (some ⟨g,off + (k + 4),none⟩) (fun _=>rfl)
       unfold Bs at hpt
       rw [hxl] at hpt
       have hcl:=Lib.hid (cloneU8 [] _ n _ (w.drewN q) hpt (bV_one _) (by omega))
       generalize (l.drop (k + 4)).take n=xs at *
       generalize crcOf xs=cx at *
       clear hpt hHq
       go_wp2_with fail
       refine hcl.out.mono ?_
       rintro e w2 ⟨v',rfl,hown,hb⟩
       obtain ⟨A',c',rfl,hcr,hy,hno⟩:=hend.out v' _ w2 rfl hown hb
       have Hcr:=Lib.hid hcr;have Hy:=Lib.hid hy;have Hno:=Lib.hid hno
       clear hown hb hcl hcr hy hno hend
       go_wp2_with fail
       refine Hcr.out.mono ?_
       rintro e w3 ⟨rfl,rfl⟩
       by_cases hcp:cx=p
       ·have hne:((cx:Int) != (p:Int))=false:=by simp [hcp]
        have hp:=Lib.hid (Hy.out hcp)
        clear hcp Hy Hno
        go_wp2
        go_ret3
        exact hp.out
       ·have hne:((cx:Int) != (p:Int))=true:=by simp;omega
        have hp:=Lib.hid (Hno.out hcp)
        clear hcp Hy Hno
        go_wp2
        go_ret3
        exact hp.out
end Go.Proofs.YtambjickanapjaaGreatDoor.Vi
end
section
namespace Go.Proofs.YtambjickanapjaaGreatDoor.Vi
open Go.RowKit Base Mem
/-- v is a row of these bytes that nobody else writes: it starts its block. -/
def Row1 (w:World) (v:Value) (l:List UInt8):Prop:=
 (v=.slice none 0 0∧l=[])∨∃ g cap cur,v=.slice (some ⟨g,0,none⟩) l.length cap∧Blk w g 5 cur∧l.length≤cap∧cap≤cur.size∧cap≤maxLen∧∀ (j:Nat) (x:UInt8),l[j]? = some x→cur[j]? = some (bV x)
section
variable {w w':World} {M M':List Nat} {v:Value} {l:List UInt8}
theorem Row1.nil (w:World):Row1 w (.slice none 0 0) []:=Or.inl ⟨rfl,rfl⟩
theorem Row1.of_own {base n:Nat} (h:w.ownsRow base 5 1 v n (l.map bV)):Row1 w v l:=by
 obtain ⟨hl,h⟩:=h
 have hn:n=l.length:=by simpa using hl.symm
 subst hn
 rcases h with ⟨rfl,h0⟩ | ⟨g,cap,cur,rfl,_,hg,hnc,hm,hs,ht⟩
 ·exact Or.inl ⟨rfl,List.eq_nil_of_length_eq_zero h0⟩
 ·refine Or.inr ⟨g,cap,cur,rfl,hg,hnc,by omega,hm,fun j x hj=>?_⟩
  have h1:(l.map bV)[j]? = some (bV x):=by rw [List.getElem?_map,hj];rfl
  rw [← ht,List.getElem?_take] at h1
  split at h1
  ·simpa using h1
  ·cases h1
theorem Row1.len (h:Row1 w v l):∃ A c,v=.slice A l.length c∧l.length≤c∧c≤maxLen:=by
 rcases h with ⟨rfl,rfl⟩ | ⟨g,cap,cur,rfl,_,h1,_,h2,_⟩
 ·exact ⟨none,0,rfl,Nat.le_refl _,by unfold maxLen;omega⟩
 ·exact ⟨_,cap,rfl,h1,h2⟩
theorem Row1.lt (h:Row1 w v l) {g:Nat} (hg:v.ownBlock=some g):g < w.heap.size:=by
 rcases h with ⟨rfl,rfl⟩ | ⟨g',cap,cur,rfl,hb,_⟩
 ·simp [Value.ownBlock] at hg
 ·simp [Value.ownBlock] at hg;subst hg;exact hb.lt
theorem Row1.bs (h:Row1 w v l) (hM:∀ g,v.ownBlock=some g→g∉M):Bs w M v l:=by
 rcases h with ⟨rfl,rfl⟩ | ⟨g,cap,cur,rfl,hb,h1,h2,_,hx⟩
 ·exact Bs.nil _ _
 ·refine ⟨_,cap,rfl,h1,by simp,fun _=>⟨g,0,rfl,hb.lt,hM g rfl,fun j u hu=>?_⟩⟩
  rw [hb.cell,Nat.zero_add]
  rw [List.getElem?_map] at hu
  obtain ⟨x,hx1,rfl⟩:=Option.map_eq_some_iff.1 hu
  exact hx j x hx1
theorem Row1.keep (h:Row1 w v l) (k:Keeps M w w') (hM:∀ g,v.ownBlock=some g→g∉M):Row1 w' v l:=by
 rcases h with ⟨rfl,rfl⟩ | ⟨g,cap,cur,rfl,hb,rest⟩
 ·exact .nil _
 ·exact Or.inr ⟨g,cap,cur,rfl,k.blk hb (hM g rfl),rest⟩
theorem Row1.cut {A:Option Addr} {c:Nat} (h:Row1 w (.slice A l.length c) l) (n:Nat) (hn:n≤l.length):Row1 w (.slice A n n) (l.take n):=by
 rcases h with ⟨e,rfl⟩ | ⟨g,cap,cur,e,hb,h1,h2,h3,hx⟩
 ·injection e with e1 e2 e3
  subst e1
  have h0:n=0:=by simpa using hn
  subst h0
  exact .nil _
 ·injection e with e1 e2 e3
  subst e1
  refine Or.inr ⟨g,n,cur,?_,hb,?_,by omega,by omega,fun j x hj=>hx j x ?_⟩
  ·rw [List.length_take,Nat.min_eq_left hn]
  ·rw [List.length_take];omega
  ·rw [List.getElem?_take] at hj
   split at hj
   ·exact hj
   ·cases hj
end
theorem blk_setCells1 {g:Nat} {t:TypeId}:∀ (vs:List Value) (o:Nat) (w:World) (cur:Array Value),Blk w g t cur→
  ∃ cur',Blk (w.setCells g o vs) g t cur'∧cur'.size=cur.size∧(∀ j,j < o→cur'[j]? = cur[j]?)∧(∀ j u,vs[j]? = some u→o + j < cur.size→cur'[o + j]? = some u)∧Keeps [g] w (w.setCells g o vs)
 | [],o,w,cur,h=>⟨cur,h,rfl,fun _ _=>rfl,fun j u hu=>by simp at hu,Keeps.refl _ _⟩
 | x :: vs,o,w,cur,h=>by
  obtain ⟨cur',h1,h2,h3,h4,h5⟩:=blk_setCells1 vs (o + 1) (w.setCell ⟨g,o,none⟩ x) (cur.setIfInBounds o x) (h.set_ o x)
  rw [Array.size_setIfInBounds] at h2 h4
  refine ⟨cur',h1,h2,fun j hj=>?_,fun j u hu hs=>?_,?_⟩
  ·rw [h3 j (by omega),Array.getElem?_setIfInBounds_ne (by omega)]
  ·cases j with
   | zero=>
    simp at hu
    subst hu
    rw [h3 (o + 0) (by omega),Nat.add_zero,Array.getElem?_setIfInBounds_self,if_pos (by omega)]
   | succ j=>
    have:=h4 j u (by simpa using hu) (by omega)
    rwa [show o + (j + 1)=o + 1 + j by omega]
  ·exact ((Keeps.refl [g] w).setCell (by simp) x).trans h5 (by simp)
theorem wpList_append_row1 {ops:Array Oper} {rest:List Oper} {o:Oper} {a:Act} {w:World} {Q:Exit→Act→World→Prop} (hgd:o.guard=none) (s x:Operand)
  (ho:o.op=.call { callee:=.builtin .append,args:=#[s,x],argTypes:=#[50,50] })
  (v:Value) (b l:List UInt8) (A:Option Addr) (c:Nat) (M:List Nat) (hs:a.eval s=v) (hr:Row1 w v b) (hx:a.eval x=.slice A l.length c) (hl:Bs w M (.slice A l.length c) l) (h0:0 < l.length) (hb:b.length + l.length≤100000000)
  (h:∀ v' w',Row1 w' v' (b++l)→Keeps v.ownBlock.toList w w'→(∀ g,v'.ownBlock=some g→v.ownBlock=some g∨w.heap.size≤g)→wpList Tryz.prog ops Q rest (a.put o.dst v') w'):wpList Tryz.prog ops Q (o :: rest) a w:=by
 obtain ⟨i0,hi0,hz0,hz1,hz2⟩:=info_parts infoU8
 obtain ⟨A',c',e,hcc,_,hrd⟩:=hl
 obtain ⟨rfl⟩:A'=A:=by injection e with e _ _;exact e.symm
 obtain ⟨g,off,rfl,hg,_,hc⟩:=hrd h0
 have hn:(l.map bV).length=l.length * 1:=by simp
 have hca:∀ j u,(l.map bV)[j]? = some u→w.cell? ((⟨g,off,none⟩:Addr).add j)=some u:=fun j u hu=>by rw [addr_add];exact hc j u hu
 rcases hr with ⟨rfl,rfl⟩ | ⟨gb,cap,cur,rfl,hB,h1,h2,h3,hx2⟩
 ·refine wpList_append_grows w hgd s x _ ho 5 i0 _ 1 1 Tryz.underlying50 hi0 hz0 hz1 hz2 rfl (by omega) none 0 0 [] hs (fun _=>⟨rfl,rfl⟩) rfl (fun b hb=>by cases hb) ⟨g,off,none⟩ l.length c (l.map bV) hx hn hca (bV_one l) (by omega) (by unfold maxLen;omega) (by omega) ?_
  intro v' w' hown hgr
  have hown':w'.ownsRow w.heap.size 5 1 v' l.length (l.map bV):=by simpa using hown
  exact h v' w' (Row1.of_own hown') ((Keeps.refl _ _).grown hgr (by simp)) (fun k hk=>.inr (hown'.lt k hk).1)
 ·have holds:∀ j u,(b.map bV)[j]? = some u→w.cell? ⟨gb,0 + j,none⟩=some u:=fun j u hu=>by
   rw [hB.cell,Nat.zero_add]
   rw [List.getElem?_map] at hu
   obtain ⟨y,hy,rfl⟩:=Option.map_eq_some_iff.1 hu
   exact hx2 j y hy
  refine wpList_append_arg w hgd s x _ ho 5 i0 _ 1 1 Tryz.underlying50 hi0 hz0 hz1 hz2 rfl (by omega) gb 0 b.length cap (b.map bV) hs (by simp) holds ⟨g,off,none⟩ l.length c (l.map bV) hx hn hca (bV_one l) ?_ (by unfold maxLen;omega) (by omega) ?_ ?_
  ·intro hroom j hj
   rw [List.length_map] at hj
   refine ⟨?_,hB.frozen _⟩
   rw [hB.cell,Array.getElem?_eq_getElem (by omega)];rfl
  ·intro hroom
   obtain ⟨cur',hB',hs',hlow,hin,hk⟩:=blk_setCells1 (l.map bV) (0 + b.length * 1) w cur hB
   refine h _ _ (Or.inr ⟨gb,cap,cur',?_,hB',by rw [List.length_append];omega,by omega,h3,fun j y hj=>?_⟩) (by simpa [Value.ownBlock] using hk) (fun k hk=>.inl hk)
   ·rw [List.length_append]
   ·rcases Nat.lt_or_ge j b.length with hjb | hjb
    ·rw [List.getElem?_append_left hjb] at hj
     rw [hlow j (by omega)]
     exact hx2 j y hj
    ·rw [List.getElem?_append_right hjb] at hj
     have hjl:j - b.length < l.length:=(List.getElem?_eq_some_iff.1 hj).1
     have:=hin (j - b.length) (bV y) (by rw [List.getElem?_map,hj];rfl) (by omega)
     rwa [show 0 + b.length * 1 + (j - b.length)=j by omega] at this
  ·intro hgrow v' w' hown hgr
   have hown':w'.ownsRow w.heap.size 5 1 v' (b.length + l.length) ((b++l).map bV):=by simpa using hown
   exact h v' w' (Row1.of_own hown') ((Keeps.refl _ _).grown hgr (by simp)) (fun k hk=>.inr (hown'.lt k hk).1)
/-- A disk lies in block d: its bytes, how many of them last; it writes no other blocks than those of X. -/
def DkAt (w:World) (X:List Nat) (d:Nat) (b:List UInt8) (k:Nat):Prop:=
 ∃ v,Blk w d 147 #[v,.int .i64 k]∧Row1 w v b∧d∈X∧(∀ g,v.ownBlock=some g→g∈X∧g≠d)∧k≤b.length∧b.length≤1048576∧∀ g∈X,g < w.heap.size
/-- Blocks of X' are those of X, or new. -/
def Grows (X:List Nat) (w:World) (X':List Nat):Prop:=∀ g∈X',g∈X∨w.heap.size≤g
theorem Grows.refl (X:List Nat) (w:World):Grows X w X:=fun _ h=>.inl h
theorem Grows.trans {X X' X'':List Nat} {w w':World} (h:Grows X w X') (k:Grows X' w' X'') (hs:w.heap.size≤w'.heap.size):Grows X w X'':=fun g hg=>by
 rcases k g hg with h1 | h1
 ·exact h g h1
 ·right;omega
theorem DkAt.lt {w:World} {X:List Nat} {d k:Nat} {b:List UInt8} (h:DkAt w X d b k):d < w.heap.size:=by obtain ⟨_,h,_⟩:=h;exact h.lt
theorem DkAt.le {w:World} {X:List Nat} {d k:Nat} {b:List UInt8} (h:DkAt w X d b k):k≤b.length∧b.length≤1048576:=by obtain ⟨_,_,_,_,_,h1,h2,_⟩:=h;exact ⟨h1,h2⟩
theorem DkAt.keep {w w':World} {X M:List Nat} {d k:Nat} {b:List UInt8} (h:DkAt w X d b k) (hk:Keeps M w w') (hM:∀ g∈X,g∉M):DkAt w' X d b k:=by
 obtain ⟨v,h1,h2,h3,h4,h5,h6,h7⟩:=h
 exact ⟨v,hk.blk h1 (hM d h3),h2.keep hk (fun g hg=>hM g (h4 g hg).1),h3,h4,h5,h6,fun g hg=>Nat.lt_of_lt_of_le (h7 g hg) hk.size⟩
theorem DkAt.keep0 {w w':World} {X:List Nat} {d k:Nat} {b:List UInt8} (h:DkAt w X d b k) (hk:Keeps [] w w'):DkAt w' X d b k:=h.keep hk (by simp)
end Go.Proofs.YtambjickanapjaaGreatDoor.Vi
end
section
namespace Go.Proofs.YtambjickanapjaaGreatDoor.Vi
open Go.RowKit Base Mem Go.Shelf
def zB:Value:=.agg #[.int .i64 0,.slice none 0 0]
theorem bCells_one (ps:List (BatD×Value)) (h:∀ p∈ps,∃ A n c,p.2=.slice A n c):∀ u∈ps.flatMap bCell,u.oneCell'=true:=by
 intro u hu
 obtain ⟨p,hp,hu⟩:=List.mem_flatMap.1 hu
 obtain ⟨A,n,c,e⟩:=h p hp
 simp [bCell] at hu
 rcases hu with rfl | rfl
 ·rfl
 ·rw [e];rfl
def DlPost (g i cap:Nat) (ps:List (BatD×Value)) (w:World) (e:Ending) (w':World):Prop:=
 e=.returned (.slice (some ⟨g,0,none⟩) (ps.length - 1) cap)∧w'.ownsRow 0 193 2 (.slice (some ⟨g,0,none⟩) (ps.length - 1) cap) (ps.length - 1) ((ps.eraseIdx i).flatMap bCell)∧Keeps [g] w w'
theorem qdelete_any (g i cap:Nat) (ps:List (BatD×Value)) (w:World) (h:w.ownsRow 0 193 2 (.slice (some ⟨g,0,none⟩) ps.length cap) ps.length (ps.flatMap bCell)) (hs:∀ p∈ps,∃ A n c,p.2=.slice A n c) (hi:i < ps.length) (hl:ps.length≤1000000) :
  Calls Tryz.prog 252 #[.slice (some ⟨g,0,none⟩) ps.length cap,.int .i64 i,.int .i64 ((i:Int) + 1)] w fun e w'=>DlPost g i cap ps w e w':=by
 obtain ⟨n,hn⟩:∃ n,ps.length=n + 1:=⟨ps.length - 1,by omega⟩
 have hsp:ps.flatMap bCell=(ps.take i).flatMap bCell++bCell ps[i]++(ps.drop (i + 1)).flatMap bCell:=by
  have h1:ps=ps.take i++ps[i] :: ps.drop (i + 1):=by rw [← List.drop_eq_getElem_cons hi,List.take_append_drop]
  have h2:=congrArg (fun l:List (BatD×Value)=>l.flatMap bCell) h1
  simp only [List.flatMap_append,List.flatMap_cons] at h2
  rw [List.append_assoc]
  exact h2
 have her:(ps.eraseIdx i).flatMap bCell=(ps.take i).flatMap bCell++(ps.drop (i + 1)).flatMap bCell:=by rw [List.eraseIdx_eq_take_drop_succ,List.flatMap_append]
 have hcap:ps.length≤cap∧cap≤maxLen:=by
  rcases h.2 with ⟨h,_⟩ | ⟨g',cap',cur,he,_,_,h1,h2,_⟩
  ·cases h
  ·injection he with _ _ he;subst he;exact ⟨h1,h2⟩
 have hCone:∀ u∈(ps.drop (i + 1)).flatMap bCell,u.oneCell'=true:=bCells_one _ (fun p hp=>hs p (List.mem_of_mem_drop hp))
 have hAl:((ps.take i).flatMap bCell).length=i * 2:=by rw [bCells_len,List.length_take];omega
 have hCl:((ps.drop (i + 1)).flatMap bCell).length=(n - i) * 2:=by rw [bCells_len,List.length_drop];omega
 have HP:Hid (∀ W,DlPost g i cap ps w (.returned (.slice (some ⟨g,0,none⟩) n cap)) W↔(W.ownsRow 0 193 2 (.slice (some ⟨g,0,none⟩) n cap) n ((ps.take i).flatMap bCell++(ps.drop (i + 1)).flatMap bCell)∧Keeps [g] w W)):=fun W=>by
  unfold DlPost
  rw [her,hn,Nat.add_sub_cancel]
  simp
 have hrow:=h
 rw [hsp,hn] at hrow
 have hcell:=fun j hj=>World.ownsRow.cellAt h j hj
 rw [hsp,hn] at hcell
 have hfr:∀ j,w.frozen? ⟨g,j,none⟩=false:=fun j=>by
  rcases h.2 with ⟨h,_⟩ | ⟨g',cap',cur,he,_,hg,_⟩
  ·cases h
  ·injection he with he _ _;injection he with he;injection he with he _ _;subst he
   exact Blk.frozen (show Blk w g 193 cur from hg) j
 rw [hn] at hcap hl hi ⊢
 unfold maxLen at hcap
 obtain ⟨i0,hi0,hz0,hz1,hz2⟩:=info_parts infoBatch2
 obtain ⟨A,HA⟩:∃ A,Hid ((ps.take i).flatMap bCell=A):=⟨_,rfl⟩
 obtain ⟨C,HC⟩:∃ C,Hid ((ps.drop (i + 1)).flatMap bCell=C):=⟨_,rfl⟩
 rw [HA.out] at hAl
 rw [HC.out] at hCl hCone
 rw [HA.out,HC.out] at hrow hcell HP
 obtain ⟨ad,had,hsrc⟩:∃ ad:Addr,(if cap=i + 1 then some (⟨g,0,none⟩:Addr) else some ⟨g,(i + 1) * 2,none⟩)=some ad∧Hid (∀ t u,C[t]? = some u→w.drew.cell? (ad.add t)=some u):=by
  by_cases hc:cap=i + 1
  ·refine ⟨⟨g,0,none⟩,by rw [if_pos hc],fun t u hu=>?_⟩
   have:C.length=0:=by rw [hCl];omega
   rw [List.length_eq_zero_iff.1 this] at hu
   simp at hu
  ·refine ⟨⟨g,(i + 1) * 2,none⟩,by rw [if_neg hc],fun t u hu=>?_⟩
   have ht:=(List.getElem?_eq_some_iff.1 hu).1
   rw [Addr.add_lit]
   have:=hcell ((i + 1) * 2 + t) (by omega)
   rw [List.getElem?_append_right (by rw [List.length_append,hAl];simp [bCell];omega),List.length_append,hAl] at this
   rw [show (i + 1) * 2 + t - (i * 2 + (bCell ps[i]).length)=t by simp [bCell];omega,hu] at this
   exact this
 have s1:Hid (C.length=(n - i) * 2):=hCl
 have s2:Hid (∀ u∈C,u.oneCell'=true):=hCone
 have s3:Hid (∀ t,t < C.length→(w.drew.cell? ⟨g,0 + i * 2 + t,none⟩).isSome=true∧w.drew.frozen? ⟨g,0 + i * 2 + t,none⟩=false):=fun t ht=>by
  refine ⟨?_,hfr _⟩
  have:=hcell (0 + i * 2 + t) (by omega)
  show (w.cell? _).isSome=true
  rw [this,List.getElem?_eq_getElem (by simp [bCell];omega)]
  rfl
 obtain ⟨W1,hW1⟩:∃ W1,W1=w.drew.setCells g (0 + i * 2) C:=⟨_,rfl⟩
 have hK1:Hid (Keeps [g] w W1):=by rw [hW1];exact keeps_lay g (by simp) _ _ _ (Keeps.refl _ _).drew
 have hfin:Hid ((W1.setCells g (n * 2) (Builtin.zeroCells zB.cells 1).toList).ownsRow 0 193 2 (.slice (some ⟨g,0,none⟩) n cap) n (A++C)):=by
  have h2:=own_take_out (w:=w.drew) (Z:=(Builtin.zeroCells zB.cells 1).toList) hrow rfl (by rw [Array.length_toList,size_zeroCells];rfl)
  rw [hAl] at h2
  rw [hW1,Nat.zero_add]
  rw [show n * 2=i * 2 + C.length by omega]
  exact h2
 have hcl:∀ ty,(Builtin.clear_ #[190] ty #[.slice (some ⟨g,n * 2,none⟩) 1 (cap - n)]).run Tryz.prog W1=.ok (.tuple #[]) (W1.setCells g (n * 2) (Builtin.zeroCells zB.cells 1).toList):=fun ty=>by
  have hb:∃ cur,Blk W1 g 193 cur∧cur.size=cap * 2:=by
   rcases h.2 with ⟨h,_⟩ | ⟨g',cap',cur,he,_,hg,_,_,hz,_⟩
   ·cases h
   ·injection he with he1 he2 he3;injection he1 with he1;injection he1 with he1 _ _;subst he1 he3
    obtain ⟨cur',hb,hs,_⟩:=blk_setCells1 C (0 + i * 2) w.drew cur (show Blk w g 193 cur from hg)
    exact ⟨cur',by rw [hW1];exact hb,by rw [hs];exact hz⟩
  obtain ⟨cur,hb,hz⟩:=hb
  refine run_clear_one W1 _ 193 ty zB Tryz.underlying190 Tryz.zeroValue193 g (n * 2) (cap - n) (fun j hj=>?_) (fun j _=>hb.frozen _) ?_
  ·rw [hb.cell]
   have hj2:j < 2:=by rw [Array.length_toList,size_zeroCells] at hj;exact hj
   rw [Array.getElem?_eq_getElem (by omega)];rfl
  ·intro v hv
   simp only [Builtin.zeroCells,Array.toList_map,List.mem_map] at hv
   obtain ⟨i,_,rfl⟩:=hv
   show (#[Value.int .i64 0,.slice none 0 0][i % 2]!).oneCell'=true
   rcases (show i % 2=0∨i % 2=1 by omega) with h | h <;> rw [h] <;> rfl
 obtain ⟨Z,HZ⟩:∃ Z,Hid ((Builtin.zeroCells zB.cells 1).toList=Z):=⟨_,rfl⟩
 rw [HZ.out] at hfin hcl
 have hW:Hid (W1=w.drew.setCells g (0 + i * 2) C):=hW1
 have Hcap:=Lib.hid hcap;have Hi0:=Lib.hid hi0;have Hz1:=Lib.hid hz1
 have hic:i≤cap:=by omega
 have hjc:i + 1≤cap:=by omega
 have hin:i + 1≤n + 1:=by omega
 have hni:i + (n - i)=n:=by omega
 have h01:(0:Int)≤(i:Int) + 1:=by omega
 have hin2:i≤n:=by omega
 clear hW1 hrow hcell hfr hCone hAl hCl h hs hsp her hi0 hz0 hz1 hz2
 go_enter Tryz.func252,Tryz.ntmps252
 go_wp2_with fail
 go_region_law (refine step_append_room rfl (.tmp 22) (.tmp 25) 190 rfl 193 i0 2 Tryz.underlying190 Hi0.out Hz1.out g 0 i cap (by simp [Act.eval,Act.put]) ad (n - i) (cap - (i + 1)) C (by simp [Act.eval,Act.put]) s1.out hsrc.out s2.out (by omega) s3.out ?_;rw [← hW.out])
 go_wp2
 go_ret
 exact (HP.out _).2 ⟨hfin.out,keeps_lay g (by simp) _ _ _ hK1.out⟩
instance:Inhabited (BatD×Value):=⟨(⟨0,[]⟩,.slice none 0 0)⟩
theorem sameSeq_any (p:BatD×Value) (B:Nat) (s:Int) (w:World) (hB:B < w.heap.size) (hc:w.cell? ⟨B,0,none⟩=some (.int .i64 s)) :
  Calls Tryz.prog 251 #[.agg (bCell p).toArray,.pointer (some ⟨B,0,none⟩)] w fun e w'=>e=.returned (.bool (p.1.seq == s))∧Below w.heap.size w w':=by
 have hb:Hid (∀ o,Below w.heap.size w (w.alloc o)):=fun o=>(Below.refl _ _).alloc (Nat.le_refl _) o
 have hca:∀ o,(w.alloc o).cell? ⟨B,0,none⟩=some (.int .i64 s):=fun o=>((hb.out o).cell (p:=⟨B,0,none⟩) hB).trans hc
 unfold bCell
 go_enter Tryz.func251,Tryz.ntmps251
 go_wp2
 go_ret
 exact ⟨rfl,hb.out _⟩
theorem bat_cells {w:World} {v:Value} {ps:List (BatD×Value)} (h:Rd w [] 2 v ps.length (ps.flatMap bCell)) (h0:0 < ps.length):∃ g off c,v=.slice (some ⟨g,off,none⟩) ps.length c∧g < w.heap.size∧∀ j,j < ps.length→∀ i u,(bCell ps[j]!)[i]? = some u→w.cell? ⟨g,off + j * 2 + i,none⟩=some u:=by
 obtain ⟨g,off,c,e,_,hg,_,_⟩:=Rd.at_ bCell 2 (fun _=>rfl) h h0
 refine ⟨g,off,c,e,hg,fun j hj i u hu=>?_⟩
 obtain ⟨g2,off2,c2,e2,_,_,_,hx⟩:=Rd.at_ bCell 2 (fun _=>rfl) h hj
 rw [e] at e2
 injection e2 with e2 _ _
 injection e2 with e2
 injection e2 with e3 e4 _
 subst e3 e4
 exact hx i u (by rw [← getElem!_pos ps j hj];exact hu)
theorem indexb_nil (A:Option Addr) (c g:Nat) (lb:Array Value) (w:World) :
  Calls Tryz.prog 250 #[.slice A 0 c,.func (.func g) #[] lb] w fun e w'=>e=.returned (.int .i64 (-1))∧Below w.heap.size w w':=by
 go_enter Tryz.func250,Tryz.ntmps250
 go_wp2_with fail
 go_loopw [8] (fun i wr=>i=.int .i64 0∧Hid (Below w.heap.size w wr)) (fun i _=>0)
 case atStart=>exact ⟨rfl,Below.refl _ _⟩
 case round=>
  obtain ⟨rfl,Hb⟩:=hrel
  go_wp2
  go_ret
  exact ⟨rfl,Hb.out⟩
/-- The place of the first of that number, or -1. -/
def ixP (s:Int) (ps:List (BatD×Value)):Int:=Lib.idxBy (fun _ (p:BatD×Value)=>p.1.seq == s) ps default
theorem ixb_any (v:Value) (ps:List (BatD×Value)) (B:Nat) (s:Int) (w:World) (h:Rd w [] 2 v ps.length (ps.flatMap bCell)) (hl:ps.length≤4611686018427387904) (hB:B < w.heap.size) (hc:w.cell? ⟨B,0,none⟩=some (.int .i64 s)) :
  Calls Tryz.prog 250 #[v,.func (.func 251) #[] #[.pointer (some ⟨B,0,none⟩)]] w fun r w'=>r=.returned (.int .i64 (ixP s ps))∧Below w.heap.size w w':=by
 by_cases h0:0 < ps.length
 ·obtain ⟨g,off,c,rfl,hg,hx⟩:=bat_cells h h0
  have heg:∀ args w,(callFunc 251 args).run Tryz.prog w=.ok (.enter 251 args) w:=enters_of Tryz.func251 (by kernel_rfl) rfl
  have hp:PredBelow Tryz.prog 251 #[.pointer (some ⟨B,0,none⟩)] (fun x=>.agg (bCell x).toArray) (fun p=>p.1.seq == s) w:=fun W x hb=>by
   refine Calls.mono (sameSeq_any x B s W (Nat.lt_of_lt_of_le hB hb.size) ((hb.cell (p:=⟨B,0,none⟩) hB).trans hc)) ?_
   rintro r w' ⟨rfl,hb2⟩
   exact ⟨rfl,hb.trans (hb2.mono hb.size)⟩
  have:=AnyQ.slices_IndexFunc Tryz.indexFuncBatch 2 Tryz.isAgg193 Tryz.sizeOf193 bCell (fun _=>rfl) (fun p=>p.1.seq == s) 251 #[.pointer (some ⟨B,0,none⟩)] heg g off ps.length c ps w hp (Nat.le_refl _) (by omega) hg hx
  rw [List.take_length] at this
  exact this
 ·obtain rfl:ps=[]:=List.length_eq_zero_iff.1 (by omega)
  obtain ⟨A,c,rfl,_⟩:=h
  exact indexb_nil A c _ _ w
theorem ixP_cases (s:Int) (ps:List (BatD×Value)):(ixP s ps = -1∧outB s (ps.map (·.1))=ps.map (·.1)∧hasB s (ps.map (·.1))=false)∨∃ k,k < ps.length∧ixP s ps=(k:Int)∧outB s (ps.map (·.1))=(ps.eraseIdx k).map (·.1)∧hasB s (ps.map (·.1))=true:=by
 have h:∀ (ps:List (BatD×Value)) (i:Nat),(Lib.idxByFrom (fun _ (p:BatD×Value)=>p.1.seq == s) default ps i = -1∧outB s (ps.map (·.1))=ps.map (·.1)∧hasB s (ps.map (·.1))=false)∨∃ k,k < ps.length∧Lib.idxByFrom (fun _ (p:BatD×Value)=>p.1.seq == s) default ps i=((i + k:Nat):Int)∧outB s (ps.map (·.1))=(ps.eraseIdx k).map (·.1)∧hasB s (ps.map (·.1))=true:=by
  intro ps
  induction ps with
  | nil=>intro i;exact .inl ⟨rfl,rfl,rfl⟩
  | cons p r ih=>
   intro i
   by_cases hp:p.1.seq=s
   ·refine .inr ⟨0,by simp,?_,?_,?_⟩
    ·simp [Lib.idxByFrom,hp]
    ·simp [outB,hp]
    ·simp [hasB,hp]
   ·rcases ih (i + 1) with ⟨h1,h2,h3⟩ | ⟨k,hk,h1,h2,h3⟩
    ·refine .inl ⟨?_,?_,?_⟩
     ·simp only [Lib.idxByFrom];rw [if_neg (by simpa using hp)];exact h1
     ·simp only [List.map_cons,outB];rw [if_neg hp,h2]
     ·simp only [hasB,List.map_cons,List.any_cons] at h3 ⊢;rw [h3];simp [hp]
    ·refine .inr ⟨k + 1,by simp;omega,?_,?_,?_⟩
     ·simp only [Lib.idxByFrom];rw [if_neg (by simpa using hp),h1];congr 1;omega
     ·simp only [List.map_cons,outB];rw [if_neg hp,h2];simp
     ·simp only [hasB,List.map_cons,List.any_cons] at h3 ⊢;rw [h3];simp
 rcases h ps 0 with h | ⟨k,h1,h2,h3⟩
 ·exact .inl h
 ·exact .inr ⟨k,h1,by unfold ixP Lib.idxBy;rw [h2,Nat.zero_add],h3⟩
/-- What Done leaves. -/
def QdPost (M:List Nat) (tg:Nat→Nat) (t q:Nat) (r:Bool) (Q:QuD) (w:World) (e:Ending) (w':World):Prop:=
 e=.returned (.bool r)∧QuAt w' M tg t q Q∧Keeps (sel M tg [t,t + 1]) w w'
section
variable {w w':World} {M M':List Nat} {tg tg':Nat→Nat} {t q:Nat} {Q:QuD} {T:List Nat} {v:Value} {ps:List (BatD×Value)}
theorem qdone_any (h:QuAt w M tg t q Q) (hM:∀ g∈M,g < w.heap.size) (s:Int) :
  Calls Tryz.prog 186 #[.pointer (some ⟨q,0,none⟩),.int .i64 s] w fun e w'=>QdPost M tg t q (hasB s Q.l) (quDone Q s) w e w':=by
 obtain ⟨ho,v,ps,hv⟩:=h
 obtain ⟨A,c,rfl,hc⟩:=hv.len
 have c0:=hv.blk.cell 0
 simp only [List.getElem?_toArray,List.getElem?_cons_zero] at c0
 have hlt:=hv.blk.lt
 have hpl:ps.length=Q.l.length:=by rw [← hv.map,List.length_map]
 have hl16:=ho.1
 have hq2:=quDone_ok s ho
 obtain ⟨w0,hw0⟩:∃ w0,w0=w.alloc (.cells #[.int .i64 s] 2):=⟨_,rfl⟩
 have hb0:Below w.heap.size w w0:=by rw [hw0];exact (Below.refl _ _).alloc (Nat.le_refl _) _
 have hs0:w.heap.size < w0.heap.size:=by rw [hw0];simp
 have hB0:Blk w0 w.heap.size 2 #[.int .i64 s]:=by rw [hw0];exact Blk.new w _ _
 have c0':w0.cell? ⟨q,0,none⟩=some (.slice A Q.l.length c):=(hb0.cell (p:=⟨q,0,none⟩) hlt).trans c0
 have hix:=Lib.hid (ixb_any (.slice A Q.l.length c) ps w.heap.size s w0 (by have:=Rd.of_own (M:=[]) hv.row (by simp);exact this.keep (Keeps.of_below (M:=[]) hb0) (by simp)) (by omega) hs0 (hB0.cell 0))
 have Hv:=Lib.hid hv;have Hq2:=Lib.hid hq2;have HM:=Lib.hid hM;have Hb0:=Lib.hid hb0
 have Hpl:=Lib.hid hpl
 rcases ixP_cases s ps with ⟨h1,h2,h3⟩ | ⟨k,hk,h1,h2,h3⟩
 ·rw [hv.map] at h2 h3
  have hP:Hid (∀ W,Below w0.heap.size w0 W→QdPost M tg t q (hasB s Q.l) (quDone Q s) w (.returned (.bool false)) W):=fun W hb=>by
   have hk:Keeps [] w W:=(Keeps.of_below (M:=[]) Hb0.out).trans (Keeps.of_below (M:=[]) hb) (by simp)
   have hQ:quDone Q s=Q:=by unfold quDone;rw [h2]
   rw [h3]
   exact ⟨rfl,by rw [hQ];exact ⟨ho,_,ps,Hv.out.keep0 HM.out hk⟩,hk.to_sel (by simp)⟩
  rw [h1] at hix
  clear hv hq2 hM hb0 h1 h2 h3 ho hB0 hpl hc c0
  go_enter Tryz.func186,Tryz.ntmps186
  go_upto_region 1 with (fail)
  rw [← hw0]
  clear hw0
  go_wp2_with fail
  refine hix.out.mono ?_
  rintro e w1 ⟨rfl,hb1⟩
  have Hb1:=Lib.hid hb1
  clear hb1 hix
  go_wp2
  go_ret
  exact hP.out _ Hb1.out
 ·rw [hv.map] at h2 h3
  obtain ⟨g,rfl⟩:∃ g,A=some ⟨g,0,none⟩:=by
   obtain ⟨g,cap,he,_⟩:=hv.row.form (by omega)
   injection he with he _ _
   exact ⟨g,he⟩
  have hg:=hv.tr g rfl
  have hgq:g≠q:=fun h=>by have:=hg.2;rw [h,hv.tq] at this;omega
  have hel:(ps.eraseIdx k).length=ps.length - 1:=by rw [List.length_eraseIdx];simp [hk]
  have hrow0:w0.ownsRow 0 193 2 (.slice (some ⟨g,0,none⟩) ps.length c) ps.length (ps.flatMap bCell):=by
   have:=own_below hv.row hb0
   rw [hpl] at this ⊢
   exact this
  have hdl:Hid (∀ W,Below w0.heap.size w0 W→Calls Tryz.prog 252 #[.slice (some ⟨g,0,none⟩) Q.l.length c,.int .i64 k,.int .i64 ((k:Int) + 1)] W fun e w'=>DlPost g k c ps W e w'):=fun W hb=>by
   have:=qdelete_any g k c ps W (own_below hrow0 hb) (fun p hp=>by obtain ⟨A,c,e,_⟩:=(Hv.out.ds p hp).len;exact ⟨A,_,c,e⟩) hk (by omega)
   rw [hpl] at this
   exact this
  have hfin:Hid (∀ W1 W2,Below w0.heap.size w0 W1→W2.ownsRow 0 193 2 (.slice (some ⟨g,0,none⟩) (ps.length - 1) c) (ps.length - 1) ((ps.eraseIdx k).flatMap bCell)→Keeps [g] W1 W2→QdPost M tg t q (hasB s Q.l) (quDone Q s) w (.returned (.bool true)) (W2.setCell ⟨q,0,none⟩ (.slice (some ⟨g,0,none⟩) (ps.length - 1) c))):=fun W1 W2 hb hown hk2=>by
   have hk1:Keeps [] w W1:=(Keeps.of_below (M:=[]) Hb0.out).trans (Keeps.of_below (M:=[]) hb) (by simp)
   have hkg:Keeps [g] w W2:=(hk1.mono (by simp)).trans hk2 (by simp)
   have hks:Keeps (sel M tg [t,t + 1]) w W2:=hkg.to_sel (fun x hx=>by simp at hx;subst hx;exact .inl ⟨hg.1,by rw [hg.2];simp⟩)
   have k2:Keeps [q] W2 (W2.setCell ⟨q,0,none⟩ (.slice (some ⟨g,0,none⟩) (ps.length - 1) c)):=(Keeps.refl _ _).setCell (by simp) _
   have hx:Ext w M tg W2 M tg:=Ext.refl HM.out hkg.size
   rw [h3]
   refine ⟨rfl,⟨Hq2.out,.slice (some ⟨g,0,none⟩) (ps.length - 1) c,ps.eraseIdx k,?_,h2.symm,?_,fun p hp=>?_,Hv.out.inM,Hv.out.tq,fun x hx=>?_⟩,hks.trans k2 (fun x hx=>.inl (by simp at hx;subst hx;exact mem_sel.2 ⟨Hv.out.inM,by rw [Hv.out.tq];simp⟩))⟩
   ·have hB2:=hkg.blk Hv.out.blk (by simpa using Ne.symm hgq)
    have h9:=hB2.set_ 0 (.slice (some ⟨g,0,none⟩) (ps.length - 1) c)
    show Blk _ q _ #[.slice (some ⟨g,0,none⟩) (ps.length - 1) c,.int .i64 Q.last]
    simpa using h9
   ·rw [hel]
    exact own_other2 hown k2 (fun x hx=>by rw [← show g=x by simpa [Value.ownBlock] using hx];simpa using hgq)
   ·have h5:=hx.ds hks (Hv.out.ds p (List.mem_of_mem_eraseIdx hp))
    exact h5.keep k2 (fun x hx=>.inl (by simp at hx;subst hx;exact Hv.out.inM))
   ·rw [← show g=x by simpa [Value.ownBlock] using hx];exact hg
  have hqf:Hid (∀ W,Keeps [g] w0 W→W.cell? ⟨q,0,none⟩=some (.slice (some ⟨g,0,none⟩) Q.l.length c)∧W.frozen? ⟨q,0,none⟩=false):=fun W hk=>by
   have:=hk.blk (Hv.out.keep0 HM.out (Keeps.of_below (M:=[]) Hb0.out)).blk (by simpa using Ne.symm hgq)
   exact ⟨this.cell 0,this.frozen 0⟩
  rw [h1] at hix
  have hk16:k < 16:=by omega
  clear hv hq2 hM hb0 h1 h2 h3 ho hB0 hpl c0 hg hgq hrow0 hel
  go_enter Tryz.func186,Tryz.ntmps186
  go_upto_region 1 with (fail)
  rw [← hw0]
  clear hw0
  go_wp2_with fail
  refine hix.out.mono ?_
  rintro e w1 ⟨rfl,hb1⟩
  have Hb1:=Lib.hid hb1
  obtain ⟨c1,f1⟩:=hqf.out w1 (Keeps.of_below hb1)
  clear hb1 hix
  go_wp2_with fail
  refine (hdl.out _ Hb1.out).mono ?_
  rintro e w2 ⟨rfl,hown,hk2⟩
  obtain ⟨c2,f2⟩:=hqf.out w2 ((Keeps.of_below (M:=[g]) Hb1.out).trans hk2 (by simp))
  have hR:=Lib.hid (hfin.out _ _ Hb1.out hown hk2)
  clear hown hk2 hdl
  go_wp2
  go_ret
  exact hR.out
end
end Go.Proofs.YtambjickanapjaaGreatDoor.Vi
end
section
namespace Go.Proofs.YtambjickanapjaaGreatDoor.Vi
open Go.RowKit Base Mem
def cCell (c:Int×Int):List Value:=[.int .i64 0,.int .i64 c.1,.int .i64 c.2]
/-- A delta that waits. -/
def SaOk (d:DeltaD):Prop:=NOk d∧d.ser.size≤65536
def BkOk (S:BkD):Prop:=0≤S.ep∧S.ep≤1073741824∧S.sa.length≤32∧(∀ d∈S.sa,SaOk d)∧1≤S.sh∧S.sh≤4∧(∀ k,∀ b∈(S.q k).l,∀ d∈b.ds,SaOk d)∧∀ k,QuOk (S.q k)
/-- A state lies in block s (part 1), its samples in vs' block (2), its cuts in vc's (3), its queues in the blocks of qb (10, 12, 14, 16). -/
structure BkV (w:World) (M:List Nat) (tg:Nat→Nat) (s:Nat) (S:BkD) (vs vc:Value) (qb:Nat→Nat):Prop where
 blk:Blk w s 143 #[.int .i64 S.ep,vs,.int .i64 S.sh,.pointer (some ⟨qb 0,0,none⟩),.pointer (some ⟨qb 1,0,none⟩),.pointer (some ⟨qb 2,0,none⟩),.pointer (some ⟨qb 3,0,none⟩),vc]
 inM:s∈M
 ts:tg s=1
 sa:w.ownsRow 0 63 2 vs S.sa.length (dCells S.sa)
 tsa:∀ g,vs.ownBlock=some g→g∈M∧tg g=2
 cu:w.ownsRow 0 33 3 vc S.cuts.length (S.cuts.flatMap cCell)
 tcu:∀ g,vc.ownBlock=some g→g∈M∧tg g=3
 q:∀ k,k < 4→QuAt w M tg (10 + 2 * k) (qb k) (S.q k)
def BkAt (w:World) (M:List Nat) (tg:Nat→Nat) (s:Nat) (S:BkD):Prop:=BkOk S∧∃ vs vc qb,BkV w M tg s S vs vc qb
section
variable {w w':World} {M M':List Nat} {tg tg':Nat→Nat} {s:Nat} {S:BkD} {T:List Nat} {vs vc:Value} {qb:Nat→Nat}
theorem BkV.keep (h:BkV w M tg s S vs vc qb) (x:Ext w M tg w' M' tg') (k:Keeps (sel M tg T) w w') (hT:∀ t∈T,20≤t):BkV w' M' tg' s S vs vc qb:=by
 have n:∀ {t},t < 20→t∉T:=fun {t} h1 h2=>by have:=hT t h2;omega
 have hs:=h.blk.lt
 refine ⟨blk_other k h.blk (by rw [h.ts];exact n (by omega)),x.sub _ h.inM,by rw [x.tag s hs];exact h.ts,row_other k h.sa (fun g hg=>by rw [(h.tsa g hg).2];exact n (by omega)),fun g hg=>?_,row_other k h.cu (fun g hg=>by rw [(h.tcu g hg).2];exact n (by omega)),fun g hg=>?_,fun j hj=>(h.q j hj).keep x k (n (by omega)) (n (by omega))⟩
 ·obtain ⟨a1,a2⟩:=h.tsa g hg
  exact ⟨x.sub _ a1,by rw [x.tag g (x.old g a1)];exact a2⟩
 ·obtain ⟨a1,a2⟩:=h.tcu g hg
  exact ⟨x.sub _ a1,by rw [x.tag g (x.old g a1)];exact a2⟩
theorem BkAt.keep (h:BkAt w M tg s S) (x:Ext w M tg w' M' tg') (k:Keeps (sel M tg T) w w') (hT:∀ t∈T,20≤t):BkAt w' M' tg' s S:=by
 obtain ⟨ho,vs,vc,qb,hv⟩:=h
 exact ⟨ho,vs,vc,qb,hv.keep x k hT⟩
theorem BkV.keep0 (h:BkV w M tg s S vs vc qb) (hM:∀ g∈M,g < w.heap.size) (k:Keeps [] w w'):BkV w' M tg s S vs vc qb:=h.keep (T:=[]) (Ext.refl hM k.size) (k.to_sel (by simp)) (by simp)
theorem BkAt.keep0 (h:BkAt w M tg s S) (hM:∀ g∈M,g < w.heap.size) (k:Keeps [] w w'):BkAt w' M tg s S:=h.keep (T:=[]) (Ext.refl hM k.size) (k.to_sel (by simp)) (by simp)
theorem BkV.ds (h:BkV w M tg s S vs vc qb):Ds w [] vs S.sa:=Rd.of_own h.sa (by simp)
theorem blk8 {w:World} {g:Nat} {t:TypeId} {c0 c1 c2 c3 c4 c5 c6 c7:Value} (h:Blk w g t #[c0,c1,c2,c3,c4,c5,c6,c7]) :
  w.cell? ⟨g,0,none⟩=some c0∧w.cell? ⟨g,1,none⟩=some c1∧w.cell? ⟨g,2,none⟩=some c2∧w.cell? ⟨g,3,none⟩=some c3∧w.cell? ⟨g,4,none⟩=some c4∧w.cell? ⟨g,5,none⟩=some c5∧w.cell? ⟨g,6,none⟩=some c6∧w.cell? ⟨g,7,none⟩=some c7∧g < w.heap.size:=
 ⟨h.cell 0,h.cell 1,h.cell 2,h.cell 3,h.cell 4,h.cell 5,h.cell 6,h.cell 7,h.lt⟩
def MayPost (c:Int) (w:World) (e:Ending) (w':World):Prop:=e=.returned (.int .i64 c)∧Below w.heap.size w w'
theorem overL_cons (ser:ByteArray) (sum:Int) (x:DeltaD) (r:List DeltaD):overL ser sum (x :: r)=if x.ser=ser then (if 18446744073709551615 - x.n < sum then true else overL ser (sum + x.n) r) else overL ser sum r:=rfl
theorem bmay_any (h:BkAt w M tg s S) (d:DeltaD) (hd:NOk d) (m:Int) (hs:d.ser.size < 4294967281) (hm:w.cell? ⟨0,0,none⟩=some (.int .i64 m)) :
  Calls Tryz.prog 106 #[.pointer (some ⟨s,0,none⟩),.agg #[.string d.ser,.int .u64 d.n]] w fun e w'=>MayPost (mayB S d) w e w':=by
 have hw0:0 < w.heap.size:=by
  have:=World.block_lt_of_cell? w _ hm
  simpa using this
 obtain ⟨ho,vs,vc,qb,hv⟩:=h
 have hD:=Lib.hid hv.ds
 obtain ⟨A,c,rfl,hc⟩:=hv.ds.len
 obtain ⟨-,c1,-,-,-,-,-,-,hlt⟩:=blk8 hv.blk
 have hl32:=ho.2.2.1
 have Hsa:=Lib.hid ho.2.2.2.1
 obtain ⟨w0,hw0'⟩:∃ w0,w0=w.alloc (.cells #[.string d.ser,.int .u64 d.n] 63):=⟨_,rfl⟩
 have hb0:Below w.heap.size w w0:=by rw [hw0'];exact (Below.refl _ _).alloc (Nat.le_refl _) _
 have hB0:Blk w0 w.heap.size 63 #[.string d.ser,.int .u64 d.n]:=by rw [hw0'];exact Blk.new w _ _
 have hsz0:w0.heap.size=w.heap.size + 1:=by rw [hw0'];simp
 have b0:=hB0.cell 0;have b1:=hB0.cell 1
 simp only [List.getElem?_toArray,List.getElem?_cons_succ,List.getElem?_cons_zero] at b0 b1
 have hr:=Lib.hid (bright_any d m w0 hs ((hb0.cell (p:=⟨0,0,none⟩) hw0).trans hm))
 have HB0:=Lib.hid hB0;have Hb0:=Lib.hid hb0
 have HV:Hid (mayB S d=if goodD d=false then 1 else if 32≤S.sa.length then 24 else if overL d.ser d.n S.sa=true then 25 else 0):=rfl
 have c1':w0.cell? ⟨s,1,none⟩=some (.slice A S.sa.length c):=(hb0.cell (p:=⟨s,1,none⟩) hlt).trans c1
 clear hB0 hb0 hm hv ho c1
 rcases hg:goodD d with _ | _
 ·rw [hg,if_pos rfl] at HV
  rw [hg] at hr
  clear hg
  go_enter Tryz.func106,Tryz.ntmps106
  go_upto_region 1 with (fail)
  rw [← hw0']
  clear hw0'
  go_wp2_with fail
  refine hr.out.mono ?_
  rintro e w1 ⟨rfl,hb1⟩
  have hP:Hid (MayPost (mayB S d) w (.returned (.int .i64 1)) w1):=by rw [HV.out];exact ⟨rfl,Hb0.out.trans (hb1.mono Hb0.out.size)⟩
  clear hr hb1
  go_wp2
  go_ret
  exact hP.out
 ·rw [hg,if_neg (by simp)] at HV
  rw [hg] at hr
  clear hg
  by_cases h32:32≤S.sa.length
  ·rw [if_pos h32] at HV
   have hd1:decide ((32:Int)≤(S.sa.length:Int))=true:=decide_eq_true (by omega)
   go_enter Tryz.func106,Tryz.ntmps106
   go_upto_region 1 with (fail)
   rw [← hw0']
   clear hw0'
   go_wp2_with fail
   refine hr.out.mono ?_
   rintro e w1 ⟨rfl,hb1⟩
   have hP:Hid (MayPost (mayB S d) w (.returned (.int .i64 24)) w1):=by rw [HV.out];exact ⟨rfl,Hb0.out.trans (hb1.mono Hb0.out.size)⟩
   have c1'':w1.cell? ⟨s,1,none⟩=some (.slice A S.sa.length c):=(hb1.cell (p:=⟨s,1,none⟩) (by show s < _;omega)).trans c1'
   clear hr hb1 c1'
   go_wp2
   go_ret
   exact hP.out
  ·rw [if_neg h32] at HV
   have hd1:decide ((32:Int)≤(S.sa.length:Int))=false:=decide_eq_false (by omega)
   obtain ⟨ser,n⟩:=d
   obtain ⟨hn0,hn1⟩:=hd
   simp only [] at HV HB0 b0 b1 hr hw0' hn0 hn1
   generalize S.sa=sa at *
   go_enter Tryz.func106,Tryz.ntmps106
   go_upto_region 1 with (fail)
   rw [← hw0']
   clear hw0'
   go_wp2_with fail
   refine hr.out.mono ?_
   rintro e w1 ⟨rfl,hb1⟩
   have c1'':w1.cell? ⟨s,1,none⟩=some (.slice A sa.length c):=(hb1.cell (p:=⟨s,1,none⟩) (by show s < _;omega)).trans c1'
   have b0':w1.cell? ⟨w.heap.size,0,none⟩=some (.string ser):=(hb1.cell (p:=⟨w.heap.size,0,none⟩) (by show w.heap.size < _;omega)).trans b0
   have b1':w1.cell? ⟨w.heap.size,1,none⟩=some (.int .u64 n):=(hb1.cell (p:=⟨w.heap.size,1,none⟩) (by show w.heap.size < _;omega)).trans b1
   have Hb1:Hid (Below w0.heap.size w0 w1):=hb1
   clear hr hb1 c1' b0 b1
   go_wp2_with fail
   go_loopw [5,24] (fun sum i wr=>∃ (x:Nat) (su:Int),i=.int .i64 x∧x≤sa.length∧sum=.int .u64 su∧0≤su∧su≤18446744073709551615∧Hid (overL ser n sa=overL ser su (sa.drop x))∧Hid (Below w0.heap.size w0 wr)) (fun _ i _=>sa.length - (intOf i).toNat)
   case atStart=>exact ⟨0,n,rfl,by omega,rfl,hn0,by omega,rfl,Hb1.out⟩
   case round=>
    obtain ⟨x,su,rfl,hx,rfl,hs0,hs1,Hov,Hbr⟩:=hrel
    by_cases hlt2:x < sa.length
    ·obtain ⟨g3,off,_,e1,_,hg3,_,hcell⟩:=Rd.at_ dCell 2 (fun _=>rfl) (hD.out.keep (Keeps.of_below (M:=[]) (Hb0.out.trans (Hbr.out.mono Hb0.out.size))) (by simp)) hlt2
     obtain rfl:A=some ⟨g3,off,none⟩:=by injection e1
     clear e1
     have p0:=hcell 0 _ rfl
     have p1:=hcell 1 _ rfl
     rw [Nat.add_zero] at p0
     have hxs:=Hsa.out sa[x] (List.getElem_mem _)
     have hov:=Hov.out
     rw [← List.getElem_cons_drop hlt2,overL_cons] at hov
     have Hov2:=Lib.hid hov
     have q0:wr.cell? ⟨w.heap.size,0,none⟩=some (.string ser):=(Hbr.out.cell (p:=⟨w.heap.size,0,none⟩) (by show w.heap.size < _;omega)).trans (HB0.out.cell 0)
     have q1:wr.cell? ⟨w.heap.size,1,none⟩=some (.int .u64 n):=(Hbr.out.cell (p:=⟨w.heap.size,1,none⟩) (by show w.heap.size < _;omega)).trans (HB0.out.cell 1)
     have hwz:w.heap.size < wr.heap.size:=by have:=Hbr.out.size;omega
     clear hcell hov Hov
     generalize sa[x]=y at *
     obtain ⟨yser,yn⟩:=y
     obtain ⟨⟨hy0,hy1⟩,-⟩:=hxs
     simp only [] at p0 p1 hy0 hy1 Hov2
     have HbA:Hid (Below w0.heap.size w0 (wr.alloc (.cells #[.string yser,.int .u64 yn] 63))):=Hbr.out.alloc (by have:=Hbr.out.size;omega) _
     have hA:=Blk.new wr 63 #[.string yser,.int .u64 yn]
     have a0:=hA.cell 0;have a1:=hA.cell 1
     simp only [List.getElem?_toArray,List.getElem?_cons_succ,List.getElem?_cons_zero] at a0 a1
     clear hA
     have q0':(wr.alloc (.cells #[.string yser,.int .u64 yn] 63)).cell? ⟨w.heap.size,0,none⟩=some (.string ser):=(World.cell?_alloc_lt _ _ _ hwz).trans q0
     have q1':(wr.alloc (.cells #[.string yser,.int .u64 yn] 63)).cell? ⟨w.heap.size,1,none⟩=some (.int .u64 n):=(World.cell?_alloc_lt _ _ _ hwz).trans q1
     have hxi:(x:Int) < (sa.length:Int):=by omega
     by_cases hse:yser=ser
     ·rw [if_pos hse] at Hov2
      subst hse
      by_cases hov:18446744073709551615 - yn < su
      ·have hP:Hid (MayPost (mayB S ⟨yser,n⟩) w (.returned (.int .i64 25)) (wr.alloc (.cells #[.string yser,.int .u64 yn] 63))):=by
        rw [HV.out,Hov2.out,if_pos hov,if_pos rfl]
        exact ⟨rfl,Hb0.out.trans (HbA.out.mono Hb0.out.size)⟩
       have hdo:decide (18446744073709551615 - yn < su)=true:=decide_eq_true hov
       clear hov
       go_wp2_with fail
       go_ret
       exact hP.out
      ·rw [if_neg hov] at Hov2
       have hdo:decide (18446744073709551615 - yn < su)=false:=decide_eq_false hov
       have hsum:su + yn≤18446744073709551615:=by omega
       have hsum0:0≤su + yn:=by omega
       clear hov
       go_wp2_with fail
       go_roundw
       case rel=>exact ⟨x + 1,su + yn,by go_num,by omega,rfl,hsum0,hsum,Hov2,HbA⟩
       case measure=>simp [intOf];omega
     ·rw [if_neg hse] at Hov2
      have hne:(yser.toList == ser.toList)=false:=by
       rw [beq_eq_false_iff_ne]
       intro h
       apply hse
       rw [Lib.toList_data,Lib.toList_data] at h
       cases yser;cases ser
       simp at h
       rw [h]
      have hne2:(yser.toList != ser.toList)=true:=by rw [bne,hne];rfl
      clear hse
      go_wp2_with fail
      go_roundw
      case rel=>exact ⟨x + 1,su,by go_num,by omega,rfl,hs0,hs1,Hov2,HbA⟩
      case measure=>simp [intOf];omega
    ·have hP:Hid (MayPost (mayB S ⟨ser,n⟩) w (.returned (.int .i64 0)) wr):=by
      have hxe:x=sa.length:=by omega
      have:overL ser n sa=false:=by rw [Hov.out,hxe,List.drop_length];rfl
      rw [HV.out,this]
      exact ⟨rfl,Hb0.out.trans (Hbr.out.mono Hb0.out.size)⟩
     have hxi:decide ((x:Int) < (sa.length:Int))=false:=decide_eq_false (by omega)
     clear Hov
     go_wp2_with fail
     go_ret
     exact hP.out
end
end Go.Proofs.YtambjickanapjaaGreatDoor.Vi
end
