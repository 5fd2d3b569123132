/- Texts put together: EntC, Ent9, EntA, EntD, EntK, EntE, McO, WinP, McP, WinA, WinB, WinC, WinD, McA, McF, McB, McC, McD, McG. -/
import Derived.Shelf.SlicesQ.Equal
import Derived.WalkKit
import Derived.Lib.Hide
import Derived.BigQuiet
import Derived.Deep.QuietTactic
import Derived.Deep.RegionHeld3
import Derived.Deep.DeepCutAuto
import Derived.Handy
import Derived.Test.YtambjickanapjaaGreatDoorMW1
import Derived.Test.YtambjickanapjaaGreatDoorMW4
set_option linter.unusedVariables false
set_option linter.unusedSimpArgs false
set_option maxRecDepth 100000
set_option maxHeartbeats 8000000
section
namespace Go.Proofs.YtambjickanapjaaGreatDoor.Vi
open Go.RowKit Base Mem Go.Shelf
def zeroA:Array Value:=#[.int .i64 0,.int .i64 0,.int .i64 0,.int .i64 0,.int .i64 0,.slice none 0 0,.string ⟨#[]⟩,.int .i64 0,.int .i64 0]
/-- What stands between two calls: the reader, the result's block, the entry's block. -/
structure Re (w0 w:World) (p g0 g5:Nat) (l:List UInt8) (bad:Bool) (c:Array Value):Prop where
 rd:RdAt w [g5] p l bad
 keeps:Below w0.heap.size w0 w
 b0:Blk w g0 36 zeroA
 b5:Blk w g5 36 c
 o0:w0.heap.size≤g0
 o1:g0 < p
 o2:p < g5
theorem Re.step {w0 w w':World} {p g0 g5:Nat} {l l':List UInt8} {bad bad':Bool} {c:Array Value} (h:Re w0 w p g0 g5 l bad c) (hr:RdAt w' [g5] p l' bad') (hk:Keeps [p] w w'):Re w0 w' p g0 g5 l' bad' c:=by
 have h0:=h.o0;have h1:=h.o1;have h2:=h.o2
 exact ⟨hr,((Keeps.of_below (M:=[]) h.keeps).trans hk (by intro g hg;simp at hg;right;omega)).below,hk.blk h.b0 (by simp;omega),hk.blk h.b5 (by simp;omega),h0,h1,h2⟩
theorem Re.set {w0 w:World} {p g0 g5:Nat} {l:List UInt8} {bad:Bool} {c:Array Value} (h:Re w0 w p g0 g5 l bad c) (i:Nat) (v:Value):Re w0 (w.setCell ⟨g5,i,none⟩ v) p g0 g5 l bad (c.setIfInBounds i v):=by
 have h0:=h.o0;have h1:=h.o1;have h2:=h.o2
 have hk:Keeps [g5] w (w.setCell ⟨g5,i,none⟩ v):=(Keeps.refl _ _).setCell (by simp) v
 exact ⟨h.rd.keep hk (by simp) (by simp;omega),((Keeps.of_below (M:=[]) h.keeps).trans hk (by intro g hg;simp at hg;right;omega)).below,hk.blk h.b0 (by simp;omega),h.b5.set_ i v,h0,h1,h2⟩
theorem blk9 {w:World} {g:Nat} {t:TypeId} {c0 c1 c2 c3 c4 c5 c6 c7 c8:Value} (h:Blk w g t #[c0,c1,c2,c3,c4,c5,c6,c7,c8]) :
  w.cell? ⟨g,0,none⟩=some c0∧w.cell? ⟨g,1,none⟩=some c1∧w.cell? ⟨g,2,none⟩=some c2∧w.cell? ⟨g,3,none⟩=some c3∧w.cell? ⟨g,4,none⟩=some c4∧w.cell? ⟨g,5,none⟩=some c5∧w.cell? ⟨g,6,none⟩=some c6∧w.cell? ⟨g,7,none⟩=some c7∧w.cell? ⟨g,8,none⟩=some c8∧(∀ i,w.frozen? ⟨g,i,none⟩=false):=
 ⟨h.cell 0,h.cell 1,h.cell 2,h.cell 3,h.cell 4,h.cell 5,h.cell 6,h.cell 7,h.cell 8,h.frozen⟩
/-- What a read answers. -/
def ReadPost (r:EntryD×Nat) (w:World) (e:Ending) (w':World):Prop:=∃ dv,e=.returned (.tuple #[.agg (eCell (r.1,dv)).toArray,.int .i64 r.2])∧(∀ M,(∀ g∈M,g < w.heap.size)→Ds w' M dv r.1.ds)∧Below w.heap.size w w'
/-- What stands where both ways have met. -/
def ReCut (w wx:World) (p g5:Nat) (RH:EntryD×List UInt8×Bool):Prop:=∃ dv,Re w wx p w.heap.size g5 RH.2.1 RH.2.2 (eCell (RH.1,dv)).toArray∧∀ M,(∀ g∈M,g≤w.heap.size)→Ds wx M dv RH.1.ds
theorem eread_any (v:Value) (l:List UInt8) (m:Int) (w:World) (h:Bs w [] v l) (hl:l.length < 4294967281) (hm:w.cell? ⟨0,0,none⟩=some (.int .i64 m)) :
  Calls Tryz.prog 273 #[v] w fun e w'=>ReadPost (readE l) w e w':=by
 have hw0:0 < w.heap.size:=by
  have:=World.block_lt_of_cell? w _ hm
  simpa using this
 have Hm:=Lib.hid hm
 have hsh:=Lib.hid (readH_short l hl)
 have HE:Hid (readE l=if (!(readH l).2.2 && (readH l).2.1.isEmpty)=true∧rightE (readH l).1=0 then ((readH l).1,0) else (zeroD,12)):=rfl
 obtain ⟨kt,ft,tt,hk,hf,ht,hH⟩:=readH_eq l
 generalize readE l=RE at *
 generalize readH l=RH at *
 obtain ⟨A,c,rfl,hc⟩:=h.len
 have Hh:=Lib.hid h
 have Hk:=Lib.hid hk;have Hf:=Lib.hid hf;have Ht:=Lib.hid ht;have HH:=Lib.hid hH
 clear h hm hk hf ht hH
 go_enter Tryz.func273,Tryz.ntmps273
 go_wp2_with fail
 refine (new_any [] _ l (w.alloc (.cells zeroA 36)) (Hh.out.keep (M':=[]) ((Keeps.refl _ _).alloc _) (by simp)) (by omega)).mono ?_
 rintro e w1 ⟨rfl,hrd,hb1⟩
 have hsz:(w.alloc (.cells zeroA 36)).heap.size=w.heap.size + 1:=by simp
 rw [hsz] at hrd hb1 ⊢
 have hB0:Blk w1 w.heap.size 36 zeroA:=(Blk.new w 36 zeroA).below (B:=w.heap.size + 1) hb1 (by omega)
 have hbw:Below w.heap.size w w1:=((Below.refl _ _).alloc (Nat.le_refl _) _).trans (hb1.mono (by omega))
 obtain ⟨p,hp⟩:∃ p,p=w.heap.size + 1:=⟨_,rfl⟩
 rw [← hp] at hrd hb1 ⊢
 have Hrd:=Lib.hid hrd;have HB0:=Lib.hid hB0;have Hbw:=Lib.hid hbw
 have hpw:w.heap.size < p:=by omega
 have hpw1:p < w1.heap.size:=hrd.lt
 clear hrd hB0 hbw hb1 hsz hp
 go_wp2_with fail
 have hby:=Lib.hid (byte_any [] p l false w1 Hrd.out)
 rw [← Hk.out] at hby
 obtain ⟨k1,k2,k3⟩:=kt
 simp only [] at hby Hf HH
 refine hby.out.mono ?_
 rintro e w2 ⟨rfl,hrd2,hk2⟩
 have HB2:=Lib.hid (hk2.blk HB0.out (by simp;omega))
 have Hbw2:=Lib.hid ((Keeps.of_below (M:=[]) Hbw.out).trans hk2 (by intro g hg;simp at hg;right;omega)).below
 have Hrd2:=Lib.hid hrd2
 have hp2:p < w2.heap.size:=hrd2.lt
 simp only [bV]
 have hk256:=UInt8.toNat_lt k1
 generalize k1.toNat=k at *
 have hwk:IntKind.i64.wrap (k:Int)=(k:Int):=by rw [IntKind.wrap_i64];omega
 clear hrd2 hk2 hby Hbw HB0 Hrd Hk hk256
 go_wp2_with fail
 have hst:Re w (w2.alloc (.cells #[.int .i64 k,.int .i64 0,.int .i64 0,.int .i64 0,.int .i64 0,.slice none 0 0,.string ⟨#[]⟩,.int .i64 0,.int .i64 0] 36)) p w.heap.size w2.heap.size k2 k3 #[.int .i64 k,.int .i64 0,.int .i64 0,.int .i64 0,.int .i64 0,.slice none 0 0,.string ⟨#[]⟩,.int .i64 0,.int .i64 0]:=
  ⟨(Hrd2.out.avoid (M':=[w2.heap.size]) (by intro g hg;simp at hg;right;omega)).keep (M':=[]) ((Keeps.refl _ _).alloc _) (by simp) (by simp),Hbw2.out.alloc (by omega) _,HB2.out.below (below_new' w2 _) (by omega),Blk.new w2 _ _,Nat.le_refl _,hpw,hp2⟩
 have H3:=Lib.hid hst
 clear hst HB2 Hbw2 Hrd2
 generalize hw3:w2.alloc _=w3 at *
 generalize w2.heap.size=g5 at *
 clear hw3
 have hct:=Lib.hid (count_any [g5] p k2 k3 8 (by omega) w3 H3.out.rd)
 rw [← Hf.out] at hct
 obtain ⟨f1,f2,f3⟩:=ft
 simp only [] at hct Ht HH
 refine hct.out.mono ?_
 rintro e w4 ⟨rfl,hA4,hk4⟩
 have H4:=Lib.hid (H3.out.step hA4 hk4)
 clear hA4 hk4 H3 hct Hf
 go_wp2_with fail
 have hct:=Lib.hid (rint_any [g5] p f2 f3 w4 H4.out.rd)
 rw [← Ht.out] at hct
 obtain ⟨t1,t2,t3⟩:=tt
 simp only [] at hct HH
 refine hct.out.mono ?_
 rintro e w5 ⟨rfl,hA5,hk5⟩
 have H5:=Lib.hid (H4.out.step hA5 hk5)
 clear hA5 hk5 H4 hct Ht
 obtain ⟨q0,q1,q2,q3,q4,q5,q6,q7,q8,qf⟩:=blk9 H5.out.b5
 have H6:Hid (Re w ((w5.setCell ⟨g5,7,none⟩ (.int .i64 f1)).setCell ⟨g5,8,none⟩ (.int .i64 t1)) p w.heap.size g5 t2 t3 #[.int .i64 k,.int .i64 0,.int .i64 0,.int .i64 0,.int .i64 0,.slice none 0 0,.string ⟨#[]⟩,.int .i64 f1,.int .i64 t1]):=
  (by simpa using (H5.out.set 7 (.int .i64 f1)).set 8 (.int .i64 t1):Re w _ p w.heap.size g5 t2 t3 _)
 have ho2:=H5.out.o2
 clear H5
 go_upto_if 20 with (fail)
 go_cut [] (fun wx=>ReCut w wx p g5 RH)
 case first=>
  generalize (w5.setCell ⟨g5,7,none⟩ (.int .i64 f1)).setCell ⟨g5,8,none⟩ (.int .i64 t1)=w6 at *
  clear q0 q1 q2 q3 q4 q5 q6 q7 q8 qf
  obtain ⟨q0,q1,q2,q3,q4,q5,q6,q7,q8,qf⟩:=blk9 H6.out.b5
  by_cases hk2:k=2
  ·subst hk2
   have HH2:Hid (RH=(⟨(2:Nat),0,0,0,0,[],⟨(textS t2 t3).1.toArray⟩,f1,t1⟩,(textS t2 t3).2)):=by show _=_;rw [HH.out,readX_two]
   clear HH
   have hct:=Lib.hid (rtext_any [g5] p t2 t3 w6 H6.out.rd)
   generalize textS t2 t3=s at *
   obtain ⟨s1,s2,s3⟩:=s
   simp only [] at hct HH2
   go_wp2_with fail
   refine hct.out.mono ?_
   rintro e w7 ⟨rfl,hA7,hk7⟩
   have H7:=Lib.hid (H6.out.step hA7 hk7)
   clear hA7 hk7 H6 hct q0 q1 q2 q3 q4 q5 q6 q7 q8 qf
   obtain ⟨q0,q1,q2,q3,q4,q5,q6,q7,q8,qf⟩:=blk9 H7.out.b5
   have hC:Hid (ReCut w (w7.setCell ⟨g5,6,none⟩ (.string ⟨s1.toArray⟩)) p g5 RH):=by
    show ReCut _ _ _ _ _
    rw [HH2.out]
    exact ⟨.slice none 0 0,by simpa [eCell] using H7.out.set 6 (.string ⟨s1.toArray⟩),fun M _=>Ds.nil _ _⟩
   clear H7
   go_wp2_with fail
   go_meet
   exact hC.out
  ·have hkb:((k:Int) == 2)=false:=by simp;omega
   obtain ⟨a,s,u,pp,n,d,ha,hs,hq,hpp,hn,hd,e⟩:=readX_else k f1 t1 t2 t3 hk2
   have HH2:=Lib.hid (HH.out.trans e)
   have Ha:=Lib.hid ha;have Hs:=Lib.hid hs;have Hq:=Lib.hid hq;have Hpp:=Lib.hid hpp;have Hn:=Lib.hid hn;have Hd:=Lib.hid hd
   clear HH ha hs hq hpp hn hd e hk2
   have hct:=Lib.hid (count_any [g5] p t2 t3 8 (by omega) w6 H6.out.rd)
   rw [← Ha.out] at hct
   obtain ⟨a1,a2,a3⟩:=a
   simp only [] at hct Hs HH2
   go_wp2_with fail
   refine hct.out.mono ?_
   rintro e wa ⟨rfl,hA,hk⟩
   have HA6:=Lib.hid (H6.out.step hA hk)
   clear hA hk H6 hct Ha
   have hct:=Lib.hid (count_any [g5] p a2 a3 4 (by omega) wa HA6.out.rd)
   rw [← Hs.out] at hct
   obtain ⟨s1,s2,s3⟩:=s
   simp only [] at hct Hq HH2
   go_wp2_with fail
   refine hct.out.mono ?_
   rintro e wb ⟨rfl,hA,hk⟩
   have HB6:=Lib.hid (HA6.out.step hA hk)
   clear hA hk HA6 hct Hs
   clear q0 q1 q2 q3 q4 q5 q6 q7 q8 qf
   obtain ⟨q0,q1,q2,q3,q4,q5,q6,q7,q8,qf⟩:=blk9 HB6.out.b5
   have HC6:Hid (Re w (((wb.setCell ⟨g5,1,none⟩ (.int .i64 a1)).setCell ⟨g5,2,none⟩ (.int .i64 s1)).setCell ⟨g5,3,none⟩ (.int .i64 0)) p w.heap.size g5 s2 s3 #[.int .i64 k,.int .i64 a1,.int .i64 s1,.int .i64 0,.int .i64 0,.slice none 0 0,.string ⟨#[]⟩,.int .i64 f1,.int .i64 t1]):=
    (by simpa using ((HB6.out.set 1 (.int .i64 a1)).set 2 (.int .i64 s1)).set 3 (.int .i64 0):Re w _ p w.heap.size g5 s2 s3 _)
   clear HB6
   go_wp2_with fail
   generalize hwd:((wb.setCell ⟨g5,1,none⟩ (.int .i64 a1)).setCell ⟨g5,2,none⟩ (.int .i64 s1)).setCell ⟨g5,3,none⟩ (.int .i64 0)=wd at *
   clear hwd
   have hct:=Lib.hid (rint_any [g5] p s2 s3 wd HC6.out.rd)
   rw [← Hq.out] at hct
   obtain ⟨u1,u2,u3⟩:=u
   simp only [] at hct Hpp HH2
   refine hct.out.mono ?_
   rintro e we ⟨rfl,hA,hk⟩
   have HE6:=Lib.hid (HC6.out.step hA hk)
   clear hA hk HC6 hct Hq
   have hct:=Lib.hid (rint_any [g5] p u2 u3 we HE6.out.rd)
   rw [← Hpp.out] at hct
   obtain ⟨pp1,pp2,pp3⟩:=pp
   simp only [] at hct Hn HH2
   go_wp2_with fail
   refine hct.out.mono ?_
   rintro e wf ⟨rfl,hA,hk⟩
   have HF6:=Lib.hid (HE6.out.step hA hk)
   clear hA hk HE6 hct Hpp
   clear q0 q1 q2 q3 q4 q5 q6 q7 q8 qf
   obtain ⟨q0,q1,q2,q3,q4,q5,q6,q7,q8,qf⟩:=blk9 HF6.out.b5
   have HG6:Hid (Re w ((wf.setCell ⟨g5,3,none⟩ (.int .i64 u1)).setCell ⟨g5,4,none⟩ (.int .i64 pp1)) p w.heap.size g5 pp2 pp3 #[.int .i64 k,.int .i64 a1,.int .i64 s1,.int .i64 u1,.int .i64 pp1,.slice none 0 0,.string ⟨#[]⟩,.int .i64 f1,.int .i64 t1]):=
    (by simpa using (HF6.out.set 3 (.int .i64 u1)).set 4 (.int .i64 pp1):Re w _ p w.heap.size g5 pp2 pp3 _)
   clear HF6
   go_wp2_with fail
   generalize hwg:(wf.setCell ⟨g5,3,none⟩ (.int .i64 u1)).setCell ⟨g5,4,none⟩ (.int .i64 pp1)=wg at *
   clear hwg
   have hn8:=countS_most pp2 pp3 8
   rw [← Hn.out] at hn8
   have hct:=Lib.hid (count_any [g5] p pp2 pp3 8 (by omega) wg HG6.out.rd)
   rw [← Hn.out] at hct
   obtain ⟨n1,n2,n3⟩:=n
   simp only [] at hct hn8 Hd HH2
   refine hct.out.mono ?_
   rintro e wh ⟨rfl,hA,hk⟩
   have HH6:=Lib.hid (HG6.out.step hA hk)
   clear hA hk HG6 hct Hn
   have hct:=Lib.hid (get_ds [g5] p n1 n2 n3 wh HH6.out.rd hn8)
   have Hdn:=Lib.hid (getDs_short n1 n2 n3).2
   unfold GetPost at hct
   rw [← Hd.out] at hct Hdn
   obtain ⟨d1,d2,d3⟩:=d
   simp only [] at hct HH2 Hdn
   go_wp2_with fail
   refine hct.out.mono ?_
   rintro e wi ⟨dv,rfl,hown,hA,hk⟩
   have hgh:g5 < wh.heap.size:=HH6.out.b5.lt
   have hgw:w.heap.size < wh.heap.size:=HH6.out.b0.lt
   have HI6:=Lib.hid (HH6.out.step hA hk)
   rw [← Hdn.out] at hown
   have HD:Hid (∀ M,(∀ g∈M,g≤w.heap.size)→Ds wi (g5 :: M) dv d1):=fun M hM=>Rd.of_own hown (by intro g hg;rcases List.mem_cons.1 hg with rfl | hg;exact hgh;have:=hM g hg;omega)
   obtain ⟨Ad,cd,rfl,hcd⟩:=(HD.out [] (by simp)).len
   clear hA hk HH6 hct Hd hown
   clear q0 q1 q2 q3 q4 q5 q6 q7 q8 qf
   obtain ⟨q0,q1,q2,q3,q4,q5,q6,q7,q8,qf⟩:=blk9 HI6.out.b5
   have hC:Hid (ReCut w (wi.setCell ⟨g5,5,none⟩ (.slice Ad d1.length cd)) p g5 RH):=by
    show ReCut _ _ _ _ _
    rw [HH2.out]
    exact ⟨.slice Ad d1.length cd,by simpa [eCell] using HI6.out.set 5 (.slice Ad d1.length cd),fun M hM=>Rd.more ((HD.out M hM).keep (M':=[g5]) ((Keeps.refl _ _).setCell (by simp) _) (by simp))⟩
   clear HI6 HD
   go_wp2_with fail
   go_meet
   exact hC.out
 case rest=>
  obtain ⟨dv,hRe,hDs⟩:=hcut
  have HRe:=Lib.hid hRe;have HDs:=Lib.hid hDs
  clear hRe hDs H6 q0 q1 q2 q3 q4 q5 q6 q7 q8 qf HH
  obtain ⟨e,lx,bx⟩:=RH
  simp only [] at hsh HE HRe HDs
  obtain ⟨Ad,cd,rfl,hcd⟩:=(HDs.out [] (by simp)).len
  have hdw:=Lib.hid (done_any [g5] p lx bx _ HRe.out.rd)
  obtain ⟨r0,r1,r2,r3,r4,r5,r6,r7,r8,rf⟩:=blk9 HRe.out.b0
  have ho0:=HRe.out.o0;have ho1:=HRe.out.o1
  cases hdone:(!bx && lx.isEmpty) with
  | false=>
   obtain rfl:RE=(zeroD,12):=by rw [HE.out,hdone,if_neg (by simp)]
   rw [hdone] at hdw
   clear hdone HE
   go_wp2_with fail
   refine hdw.out.mono ?_
   rintro r w' ⟨rfl,rfl⟩
   go_wp2
   refine bodyPost_ret (v:=.tuple #[.agg zeroA,.int .i64 12]) (by simp [results,Tryz.results273,go_sem,zeroA,r0,r1,r2,r3,r4,r5,r6,r7,r8]) rfl ?_
   refine ⟨.slice none 0 0,rfl,fun M _=>Ds.nil _ _,?_⟩
   repeat (first | (with_reducible exact HRe.out.keeps) | (with_reducible refine Below.setCell ?_ (by simp) _))
  | true=>
   rw [hdone] at hdw
   have hri:=Lib.hid (eright_any e _ m wc (HDs.out [] (by simp)) hsh.out.1 ((HRe.out.keeps.cell (p:=⟨0,0,none⟩) hw0).trans Hm.out))
   have HR:Hid (RE=if rightE e=0 then (e,0) else (zeroD,12)):=by show _=_;rw [HE.out,hdone];simp
   clear hdone HE
   generalize rightE e=rr at *
   obtain ⟨kind,ag,sh,seq,ep,ds,ser,fr,tag⟩:=e
   simp only [eCell] at hri HRe HDs HR hcd
   obtain ⟨q0,q1,q2,q3,q4,q5,q6,q7,q8,qf⟩:=blk9 HRe.out.b5
   have ho2:=HRe.out.o2
   have hg5:g5 < wc.heap.size:=HRe.out.b5.lt
   have hwc:w.heap.size < wc.heap.size:=HRe.out.b0.lt
   go_wp2_with fail
   refine hdw.out.mono ?_
   rintro r w' ⟨rfl,rfl⟩
   go_wp2_with fail
   refine hri.out.mono ?_
   rintro r w9 ⟨rfl,hb9⟩
   have H9:=Lib.hid (HRe.out.keeps.trans (hb9.mono HRe.out.keeps.size))
   have HB0:=Lib.hid (HRe.out.b0.below hb9 hwc)
   have HB5:=Lib.hid (HRe.out.b5.below hb9 hg5)
   have HD9:Hid (∀ M,(∀ g∈M,g≤w.heap.size)→Ds w9 M (.slice Ad ds.length cd) ds):=fun M hM=>(HDs.out M hM).keep (Keeps.of_below (M:=[]) hb9) (by simp)
   clear hb9 hri hdw r0 r1 r2 r3 r4 r5 r6 r7 r8 rf q0 q1 q2 q3 q4 q5 q6 q7 q8 qf
   obtain ⟨r0,r1,r2,r3,r4,r5,r6,r7,r8,rf⟩:=blk9 HB0.out
   obtain ⟨q0,q1,q2,q3,q4,q5,q6,q7,q8,qf⟩:=blk9 HB5.out
   by_cases hrr:rr=0
   ·obtain rfl:RE=(⟨kind,ag,sh,seq,ep,ds,ser,fr,tag⟩,0):=by rw [HR.out,if_pos hrr]
    subst hrr
    clear HR
    go_wp2
    refine bodyPost_ret (v:=.tuple #[.agg #[.int .i64 kind,.int .i64 ag,.int .i64 sh,.int .i64 seq,.int .i64 ep,.slice Ad ds.length cd,.string ser,.int .i64 fr,.int .i64 tag],.int .i64 0]) (by simp [results,Tryz.results273,go_sem,r0,r1,r2,r3,r4,r5,r6,r7,r8]) rfl ?_
    refine ⟨.slice Ad ds.length cd,rfl,fun M hM=>?_,?_⟩
    ·have h1:=HD9.out (w.heap.size :: M) (by intro g hg;rcases List.mem_cons.1 hg with rfl | hg;exact Nat.le_refl _;exact Nat.le_of_lt (hM g hg))
     refine Rd.more (h1.keep (M':=[w.heap.size]) ?_ (by simp))
     repeat (first | (with_reducible exact Keeps.refl _ _) | (with_reducible refine Keeps.setCell ?_ (by simp) _))
    ·repeat (first | (with_reducible exact H9.out) | (with_reducible refine Below.setCell ?_ (by simp) _))
   ·obtain rfl:RE=(zeroD,12):=by rw [HR.out,if_neg hrr]
    have hne:((rr:Int) != 0)=true:=by simpa using hrr
    clear HR hrr
    go_wp2
    refine bodyPost_ret (v:=.tuple #[.agg zeroA,.int .i64 12]) (by simp [results,Tryz.results273,go_sem,zeroA,r0,r1,r2,r3,r4,r5,r6,r7,r8]) rfl ?_
    refine ⟨.slice none 0 0,rfl,fun M _=>Ds.nil _ _,?_⟩
    repeat (first | (with_reducible exact H9.out) | (with_reducible refine Below.setCell ?_ (by simp) _))
theorem indexf_nil (A:Option Addr) (c g:Nat) (lb:Array Value) (w:World) :
  Calls Tryz.prog 174 #[.slice A 0 c,.func (.func g) #[] lb] w fun e w'=>e=.returned (.int .i64 (-1))∧Below w.heap.size w w':=by
 go_enter Tryz.func174,Tryz.ntmps174
 go_wp2_with fail
 go_slots
 go_loopw [8] (fun i wr=>i=.int .i64 0∧Hid (Below w.heap.size w wr)) (fun i _=>0)
 case atStart=>exact ⟨rfl,Below.refl _ _⟩
 case round=>
  obtain ⟨rfl,Hb⟩:=hrel
  go_wp2
  go_ret
  exact ⟨rfl,Hb.out⟩
def dEq (x y:DeltaD):Bool:=x.ser.toList == y.ser.toList && (x.n == y.n)
def dsEq (a b:List DeltaD):Bool:=Lib.allEq dEq a b
theorem dEq_at:NeqAt Tryz.prog 63 (fun x=>.agg (dCell x).toArray) dEq:=by
 refine ⟨fun x y w=>?_,GuardAt.agg _ (by kernel_rfl)⟩
 have u1:=Tryz.underlying9
 have a1:=Tryz.isAgg9
 have z1:=Tryz.sizeOf9
 have u3:=Tryz.underlying45
 have a3:=Tryz.isAgg45
 have z3:=Tryz.sizeOf45
 have hS:Tryz.prog.underlying 63=some (.struct (Tryz.prog.fieldsOf 63)):=by kernel_rfl
 have hp:Tryz.prog.stoodInHeld 63=false:=by kernel_rfl
 simp only [dCell,dEq]
 rw [run_neq_struct,show (10000:Nat)=9999 + 1 from rfl,run_equalIn_agg w 9999 63 _ _ hS hp]
 simp only [Program.fieldsOf,Tryz.underlying63]
 go_simp
 by_cases h1:x.ser.toList=y.ser.toList <;> by_cases h2:x.n=y.n <;> simp [h1,h2]
theorem equal_any (va vb:Value) (a b:List DeltaD) (w:World) (ha:Ds w [] va a) (hb:Ds w [] vb b) (h1:a.length≤4611686018427387904) (h2:b.length≤4611686018427387904) :
  Calls Tryz.prog 207 #[va,vb] w fun e w'=>e=.returned (.bool (dsEq a b))∧∃ q,w'=w.drewN q:=by
 by_cases h0:0 < a.length∧0 < b.length
 ·obtain ⟨ga,oa,ca,rfl,hga,hca⟩:=ds_cells ha h0.1
  obtain ⟨gb,ob,cb,rfl,hgb,hcb⟩:=ds_cells hb h0.2
  have:=AnyQ.slices_Equal Tryz.equalDelta 2 Tryz.isAgg63 Tryz.sizeOf63 dCell (fun _=>rfl) dEq dEq_at ga oa a.length ca gb ob b.length cb a b w (Nat.le_refl _) (Nat.le_refl _) (by omega) (by omega) hca hcb
  rw [List.take_length,List.take_length] at this
  exact this
 ·obtain ⟨Aa,ca,rfl,hca⟩:=ha.len
  obtain ⟨Ab,cb,rfl,hcb⟩:=hb.len
  clear ha hb
  by_cases hne:a.length=b.length
  ·have ha0:a=[]:=List.length_eq_zero_iff.1 (by omega)
   have hb0:b=[]:=List.length_eq_zero_iff.1 (by omega)
   subst ha0 hb0
   clear h0 h1 h2 hne hca hcb
   simp only [List.length_nil]
   go_enter Tryz.func207,Tryz.ntmps207
   go_wp2_with fail
   go_loopw [13] (fun i wr=>i=.int .i64 0∧Hid (wr=w)) (fun i _=>0)
   case atStart=>exact ⟨rfl,rfl⟩
   case round=>
    obtain ⟨rfl,hw⟩:=hrel
    obtain rfl:=hw.out
    go_wp2
    go_ret
    exact ⟨rfl,0,rfl⟩
  ·have hR:Hid (dsEq a b=false):=Lib.allEq_len dEq a b hne
   have hnm':¬ (a.length:Int)=(b.length:Int):=by omega
   rw [hR.out]
   clear h0 h1 h2 hne
   go_enter Tryz.func207,Tryz.ntmps207
   go_wp2
   go_ret
   exact ⟨rfl,0,rfl⟩
/-- Are entries the same? -/
def sameE (a b:EntryD):Bool:=a.kind == b.kind && eqI a.ag a.sh a.seq b.ag b.sh b.seq && a.ep == b.ep && dsEq a.ds b.ds && a.ser.toList == b.ser.toList && a.fr == b.fr && a.tag == b.tag
def SamePost (r:Bool) (w:World) (e:Ending) (w':World):Prop:=e=.returned (.bool r)∧Below w.heap.size w w'
theorem same_any (a b:EntryD) (va vb:Value) (w:World) (ha:Ds w [] va a.ds) (hb:Ds w [] vb b.ds) (h1:a.ds.length≤4611686018427387904) (h2:b.ds.length≤4611686018427387904) :
  Calls Tryz.prog 139 #[.agg (eCell (a,va)).toArray,.agg (eCell (b,vb)).toArray] w fun r w'=>SamePost (sameE a b) w r w':=by
 have heq:=Lib.hid (fun W (hk:Keeps [] w W)=>equal_any va vb a.ds b.ds W (ha.keep hk (by simp)) (hb.keep hk (by simp)) h1 h2)
 obtain ⟨Aa,ca,rfl,hca⟩:=ha.len
 obtain ⟨Ab,cb,rfl,hcb⟩:=hb.len
 have HS:Hid (sameE a b=(a.kind == b.kind && eqI a.ag a.sh a.seq b.ag b.sh b.seq && a.ep == b.ep && dsEq a.ds b.ds && a.ser.toList == b.ser.toList && a.fr == b.fr && a.tag == b.tag)):=rfl
 generalize sameE a b=R at *
 generalize dsEq a.ds b.ds=dse at *
 obtain ⟨kind,ag,sh,seq,ep,ds,ser,fr,tag⟩:=a
 obtain ⟨kind',ag',sh',seq',ep',ds',ser',fr',tag'⟩:=b
 simp only [] at heq hca hcb HS
 clear ha hb
 simp only [eCell]
 generalize ds.length=n at *
 generalize ds'.length=n' at *
 have hk:Hid (Keeps [] w ((w.alloc (.cells #[.int .i64 kind,.int .i64 ag,.int .i64 sh,.int .i64 seq,.int .i64 ep,.slice Aa n ca,.string ser,.int .i64 fr,.int .i64 tag] 36)).alloc (.cells #[.int .i64 kind',.int .i64 ag',.int .i64 sh',.int .i64 seq',.int .i64 ep',.slice Ab n' cb,.string ser',.int .i64 fr',.int .i64 tag'] 36))):=((Keeps.refl _ _).alloc _).alloc _
 have heq2:=Lib.hid (heq.out _ hk.out)
 clear heq
 cases h0:(kind == kind') with
 | false=>
  obtain rfl:R=false:=by rw [HS.out,h0];simp
  clear HS
  go_enter Tryz.func139,Tryz.ntmps139
  go_wp2
  go_ret
  exact ⟨rfl,hk.out.below⟩
 | true=>
  cases h1:(eqI ag sh seq ag' sh' seq') with
  | false=>
   obtain rfl:R=false:=by rw [HS.out,h0,h1];simp
   have he:=fun W=>eqI_run ag sh seq ag' sh' seq' false h1 W
   clear h1
   clear HS
   go_enter Tryz.func139,Tryz.ntmps139
   go_wp2
   go_ret
   exact ⟨rfl,hk.out.below⟩
  | true=>
   cases h2:(ep == ep') with
   | false=>
    obtain rfl:R=false:=by rw [HS.out,h0,h1,h2];simp
    have he:=fun W=>eqI_run ag sh seq ag' sh' seq' true h1 W
    clear h1
    clear HS
    go_enter Tryz.func139,Tryz.ntmps139
    go_wp2
    go_ret
    exact ⟨rfl,hk.out.below⟩
   | true=>
    cases h3:dse with
    | false=>
     subst h3
     obtain rfl:R=false:=by rw [HS.out,h0,h1,h2];simp
     have he:=fun W=>eqI_run ag sh seq ag' sh' seq' true h1 W
     clear h1
     clear HS
     go_enter Tryz.func139,Tryz.ntmps139
     go_wp2_with fail
     refine heq2.out.mono ?_
     rintro r w' ⟨rfl,q,rfl⟩
     have HB:=Lib.hid (hk.out.drewN q).below
     clear hk heq2
     go_wp2
     go_ret
     exact ⟨rfl,HB.out⟩
    | true=>
     subst h3
     cases h4:(ser.toList == ser'.toList) with
     | false=>
      obtain rfl:R=false:=by rw [HS.out,h0,h1,h2,h4];simp
      have he:=fun W=>eqI_run ag sh seq ag' sh' seq' true h1 W
      clear h1
      clear HS
      go_enter Tryz.func139,Tryz.ntmps139
      go_wp2_with fail
      refine heq2.out.mono ?_
      rintro r w' ⟨rfl,q,rfl⟩
      have HB:=Lib.hid (hk.out.drewN q).below
      clear hk heq2
      go_wp2
      go_ret
      exact ⟨rfl,HB.out⟩
     | true=>
      cases h5:(fr == fr') with
      | false=>
       obtain rfl:R=false:=by rw [HS.out,h0,h1,h2,h4,h5];simp
       have he:=fun W=>eqI_run ag sh seq ag' sh' seq' true h1 W
       clear h1
       clear HS
       go_enter Tryz.func139,Tryz.ntmps139
       go_wp2_with fail
       refine heq2.out.mono ?_
       rintro r w' ⟨rfl,q,rfl⟩
       have HB:=Lib.hid (hk.out.drewN q).below
       clear hk heq2
       go_wp2
       go_ret
       exact ⟨rfl,HB.out⟩
      | true=>
       cases h6:(tag == tag') with
       | false=>
        obtain rfl:R=false:=by rw [HS.out,h0,h1,h2,h4,h5,h6];simp
        have he:=fun W=>eqI_run ag sh seq ag' sh' seq' true h1 W
        clear h1
        clear HS
        go_enter Tryz.func139,Tryz.ntmps139
        go_wp2_with fail
        refine heq2.out.mono ?_
        rintro r w' ⟨rfl,q,rfl⟩
        have HB:=Lib.hid (hk.out.drewN q).below
        clear hk heq2
        go_wp2
        go_ret
        exact ⟨rfl,HB.out⟩
       | true=>
        obtain rfl:R=true:=by rw [HS.out,h0,h1,h2,h4,h5,h6];simp
        have he:=fun W=>eqI_run ag sh seq ag' sh' seq' true h1 W
        clear h1
        clear HS
        go_enter Tryz.func139,Tryz.ntmps139
        go_wp2_with fail
        refine heq2.out.mono ?_
        rintro r w' ⟨rfl,q,rfl⟩
        have HB:=Lib.hid (hk.out.drewN q).below
        clear hk heq2
        go_wp2
        go_ret
        exact ⟨rfl,HB.out⟩

def kl:List DeltaD:=[⟨⟨#[97]⟩,1⟩,⟨⟨#[98]⟩,2⟩,⟨⟨#[97]⟩,3⟩]
end Go.Proofs.YtambjickanapjaaGreatDoor.Vi
end
section
namespace Go.Proofs.YtambjickanapjaaGreatDoor.Vi
open Go.RowKit Base Mem Tape
theorem toList_inj {a b:ByteArray} (h:a.toList=b.toList):a=b:=by
 rw [Lib.toList_data,Lib.toList_data] at h
 obtain ⟨⟨a⟩⟩:=a
 obtain ⟨⟨b⟩⟩:=b
 simp only [] at h
 rw [h]
theorem names_ok:(nameL.all fun l=>serOk ⟨l.toArray⟩)=true:=by decide +kernel
theorem names_len:(nameL.all fun l=>decide (l.length≤100))=true:=by decide
theorem name_ser {s:ByteArray} (h:NameOk s):serOk s=true∧s.size≤100:=by
 obtain ⟨l,hl,rfl⟩:=h
 refine ⟨List.all_eq_true.1 names_ok l hl,?_⟩
 have:=List.all_eq_true.1 names_len l hl
 show l.toArray.size≤100
 simpa using this
theorem entry_right {e:EntryD} (h:EntryOk e):rightE e=0∧Short e∧Wf e:=by
 obtain ⟨h1,h2,h3,h4,h5⟩:=h
 have hw:withinB e.fr 8=true:=by simp [withinB];omega
 have ht:decide (e.tag < 0)=false:=decide_eq_false (by omega)
 rcases h5 with ⟨hk,hn,ha,hs,hq,hp,hd⟩ | ⟨hk,hse,a0,a1,s0,s1,q0,q1,p0,p1,d0,d1,hd⟩
 ·obtain ⟨hser,hsz⟩:=(name_ser hn)
  refine ⟨?_,⟨by omega,by simp [hd],by simp [hd]⟩,by omega,by omega,by omega,by simp [hd]⟩
  unfold rightE kindS
  rw [hw,ht,hk,ha,hs,hq,hp,hd,hser]
  rfl
 ·refine ⟨?_,⟨by rw [hse];decide,fun d hx=>by have:=(name_ser (hd d hx).1).2;omega,by omega⟩,by omega,by omega,by omega,fun d hx=>⟨by have:=(hd d hx).2;omega,by have:=(hd d hx).2;omega⟩⟩
  have hb:badId e=false:=by
   unfold badId withinB
   simp;omega
  have h0:(e.ds.length == 0 || e.ds.any fun d=>d.n == 0)=false:=by
   rw [Bool.or_eq_false_iff]
   refine ⟨by simp;intro h;rw [h] at d0;simp at d0,?_⟩
   rw [List.any_eq_false]
   intro d hx
   have:=(hd d hx).2
   simp;omega
  have hall:(e.ds.all fun d=>serOk d.ser)=true:=by
   rw [List.all_eq_true]
   exact fun d hx=>(name_ser (hd d hx).1).1
  have hse2:e.ser.toList.isEmpty=true:=by rw [hse];decide +kernel
  unfold rightE kindS writtenS
  rw [hw,ht,hb,h0,hall,hk,hse2,if_neg (by simp),if_neg (by simp),if_pos rfl,if_neg (by simp),if_neg (by omega),if_neg (by simp),if_pos rfl]
end Go.Proofs.YtambjickanapjaaGreatDoor.Vi
end
section
namespace Go.Proofs.YtambjickanapjaaGreatDoor.Vi
open Go.RowKit Base Mem Go.Shelf
open Go.Maps (Keyed)
/-- These deltas have been met: those of the map that are no longer to come. -/
def Coll (D:DataW Unit) (left:Lit→Bool) (ss:List DeltaD):Prop:=
 ss.Pairwise (fun a b=>a.ser≠b.ser)∧∀ d,d∈ss↔(Maps.has D (skey d.ser)=true∧left (skey d.ser)=false∧d.n=numAt .u64 D (skey d.ser))
theorem coll_start (D:DataW Unit):Coll D (Maps.has D) []:=⟨List.Pairwise.nil,fun d=>⟨fun h=>(by simp at h),fun ⟨h1,h2,_⟩=>by rw [h1] at h2;cases h2⟩⟩
theorem coll_step {D:DataW Unit} {left:Lit→Bool} {ss:List DeltaD} (h:Coll D left ss) {x:ByteArray} {c:Int} (hl:left (skey x)=true) (hh:Maps.has D (skey x)=true) (hc:numAt .u64 D (skey x)=c) :
  Coll D (fun z=>left z && !z.sameKey (skey x)) (ss++[⟨x,c⟩]):=by
 obtain ⟨h1,h2⟩:=h
 refine ⟨List.pairwise_append.2 ⟨h1,by simp,fun a ha b hb=>?_⟩,fun d=>?_⟩
 ·simp at hb
  subst hb
  intro e
  have:=((h2 a).1 ha).2.1
  rw [show a.ser=x from e,hl] at this
  cases this
 ·rw [List.mem_append,h2 d,List.mem_singleton]
  show _↔(_∧(left (skey d.ser) && !(skey d.ser).sameKey (skey x))=false∧_)
  by_cases e:d.ser=x
  ·subst e
   rw [hl,WideAt.sameKey_self (skey_key _)]
   constructor
   ·rintro (⟨_,h,_⟩ | h)
    ·cases h
    ·rw [h]
     exact ⟨hh,rfl,hc.symm⟩
   ·rintro ⟨_,_,h⟩
    right
    obtain ⟨s,n⟩:=d
    simp only [] at h hc ⊢
    rw [h,hc]
  ·have hne:skey d.ser≠skey x:=fun h=>e (skey_inj h)
   rw [Maps.sameKey_ne hne,Bool.not_false,Bool.and_true]
   constructor
   ·rintro (h | h)
    ·exact h
    ·exact absurd (by rw [h]) e
   ·exact fun h=>.inl h
/-- All of a map, by series. -/
def IsAll (D:DataW Unit) (l:List DeltaD):Prop:=(l.Pairwise fun a b=>sLt a.ser b.ser=true)∧∀ d,d∈l↔(Maps.has D (skey d.ser)=true∧d.n=numAt .u64 D (skey d.ser))
theorem coll_end {D:DataW Unit} {left:Lit→Bool} {ss:List DeltaD} (h:Coll D left ss) (hl:∀ kl,left kl=false):IsAll D (sortD ss):=by
 obtain ⟨h1,h2⟩:=h
 obtain ⟨h3,h4⟩:=sortD_facts ss
 have h5:(sortD ss).Pairwise (fun a b=>a.ser≠b.ser):=(h3.pairwise_iff (fun {_ _} h=>Ne.symm h)).2 h1
 refine ⟨(h4.and h5).imp (fun {a b} hab=>?_),fun d=>?_⟩
 ·have h6:=hab.1
  rw [sLt_ltD,decide_eq_false_iff_not,List.not_lt] at h6
  rw [sLt_ltD,decide_eq_true_eq]
  rcases List.le_iff_lt_or_eq.1 h6 with h7 | h7
  ·exact h7
  ·exact absurd (toList_inj h7) hab.2
 ·rw [h3.mem_iff,h2 d]
  constructor
  ·exact fun h=>⟨h.1,h.2.2⟩
  ·exact fun h=>⟨h.1,hl _,h.2⟩
def AlP (D:DataW Unit) (w:World) (e:Ending) (w':World):Prop:=∃ v l,e=.returned v∧IsAll D l∧l.length≤12∧(∀ M,(∀ g∈M,g < w.heap.size)→Ds w' M v l)∧Keeps [] w w'
theorem small_any (g b N:Nat) (D:DataW Unit) (w:World) (h:SmAt w g b N D) (h12:Maps.size D≤12) :
  Calls Tryz.prog 142 #[.pointer (some ⟨g,0,none⟩)] w fun e w'=>AlP D w e w':=by
 have c0:=h.1.cell 0
 simp only [List.getElem?_toArray,List.getElem?_cons_zero] at c0
 have HM:=Lib.hid h
 have hbl:b < w.heap.size:=h.2.1.lt
 obtain ⟨i0,hi0,hz0,hz1,hz2⟩:=info_parts infoDelta
 have Hi0:=Lib.hid hi0;have Hz0:=Lib.hid hz0;have Hz1:=Lib.hid hz1;have Hz2:=Lib.hid hz2
 clear h hi0 hz0 hz1 hz2
 go_enter Tryz.func142,Tryz.ntmps142
 go_wp2_with (at_range;refine wpList_range_own _ rfl _ 200 rfl 9 45 lawS uMS _ b N D rfl HM.out.2.1 ?_;intro w0 hrg0 hg0 hs0)
 have Hrg0:=Lib.hid hrg0
 have Hk0:Hid (Keeps [] w w0):=(Keeps.refl _ _).grown hg0 (fun j hj=>by cases hj)
 have hs0':w.heap.size < w0.heap.size:=by rw [hs0];exact Nat.lt_succ_self _
 have Hs0:=Lib.hid hs0'
 clear hrg0 hg0 hs0 hs0' c0
 obtain ⟨r,Hr⟩:∃ r,Hid (r=w.heap.size):=⟨_,rfl⟩
 rw [← Hr.out] at Hrg0 ⊢
 go_frame
 go_loopw [3] (fun out wr=>∃ (left:Lit→Bool) (cnt:Nat) (ss:List DeltaD),ss.length + cnt≤Maps.size D∧Hid (Coll D left ss)∧Hid (wr.ranges Tryz.prog 9 (plainElem Tryz.prog 45) b r N D left cnt)∧Hid (wr.ownsRow w0.heap.size 63 2 out ss.length (dCells ss))∧Hid (Keeps [r] w0 wr)) (fun _ wr=>wr.rangeLeft b r)
 case atStart=>exact ⟨_,_,[],by simp,coll_start D,Hrg0.out,World.ownsRow_nil _ _ _ _,Keeps.refl _ _⟩
 case round=>
  obtain ⟨left,cnt,ss,hcnt,HC,Hrg,Hown,Hkr⟩:=hrel
  obtain ⟨Ao,co,rfl,hco⟩:∃ Ao co,u3=.slice Ao ss.length co∧ss.length≤co:=by
   obtain ⟨Ao,co,h1,h2,_⟩:=Rd.of_own Hown.out (M:=[]) (by simp)
   exact ⟨Ao,co,h1,h2⟩
  go_wp2_with (at_next;refine wpList_next_ranges _ rfl _ rfl 9 lawS (plainElem Tryz.prog 45) Value.string (Value.int .u64) invKS invVU b r N D left cnt rfl Hrg.out ?_ ?_)
  ·intro hc0 hl0
   have HA:=Lib.hid (coll_end HC.out hl0)
   have HSF:=Lib.hid (sortR_any _ (.slice Ao ss.length co) ss wr Hown.out (by omega))
   clear hl0
   go_wp2_with fail
   refine HSF.out.mono ?_
   rintro e w2 ⟨rfl,hds,hk2⟩
   have Hds:=Lib.hid hds;have Hk2:=Lib.hid hk2
   clear hds hk2 HSF
   go_wp2_with fail
   refine (clipDelta Ao ss.length co w2 hco).mono ?_
   rintro e w3 ⟨rfl,rfl⟩
   have hP:Hid (AlP D w (.returned (.slice Ao ss.length ss.length)) w2):=by
    refine ⟨_,sortD ss,rfl,HA.out,by rw [sortD_len];omega,fun M hM=>?_,?_⟩
    ·obtain ⟨A1, c1, e1, h1, h2, h3⟩ := Hds.out M (fun g hg hm => by
      have h4:=(Hown.out.lt g hg).1
      have h5:=hM g hm
      have h6:=Hs0.out
      exact absurd (Nat.lt_of_lt_of_le (Nat.lt_trans h5 h6) h4) (Nat.lt_irrefl _))
     injection e1 with e1 e2 e3
     subst e1
     exact ⟨Ao,ss.length,by rw [sortD_len],by rw [sortD_len];exact Nat.le_refl _,h2,h3⟩
    ·refine (Hk0.out.trans Hkr.out (fun x hx=>.inr (by simp at hx;rw [hx,Hr.out];exact Nat.le_refl _))).trans Hk2.out (fun x hx=>.inr ?_)
     have h4:=(Hown.out.lt x (by simpa using hx)).1
     exact Nat.le_trans (Nat.le_of_lt Hs0.out) h4
   go_wp2
   go_ret
   exact hP.out
  ·intro x c kl yd yp w2 cnt2 hkey hlk hv hat hrg2 hlt2 hg2 hs2 hen
   have hks:kl=skey x:=by
    simp [keyOf,uStr,mapKey] at hkey
    exact hkey.2.symm
   subst hks
   have hnum:numAt .u64 D (skey x)=c:=by
    have h1:=hat (.lit (.int .u64 0))
    obtain ⟨c',e1,e2,_⟩:=plainElem_int_inv uU64 hv
    injection e1 with _ e1
    subst e1
    injection e2 with e2 _
    rw [e2] at h1
    exact numAt_of h1
   have HC2:=Lib.hid (coll_step HC.out hlk (Maps.has_true_of_atKey hat) hnum)
   have hm0:=Hrg.out.left_eq
   have hbr:r < w0.heap.size:=by have:=Hs0.out;rw [Hr.out];exact this
   have Hbr:=Lib.hid hbr
   have Hk2:Hid (Keeps [r] w0 w2):=Hkr.out.grown hg2 (fun j hj=>.inl (by cases hj;simp))
   have hk2w:Keeps [r] wr w2:=(Keeps.refl _ _).grown hg2 (fun j hj=>.inl (by cases hj;simp))
   have Hown2:Hid ((w2.alloc (.cells #[.string x,.int .u64 c] 63)).ownsRow w0.heap.size 63 2 (.slice Ao ss.length co) ss.length (dCells ss)):=(own_keep Hown.out hk2w (by intro g hg;simp at hg;subst hg;exact hbr)).alloc _
   have hkb:Hid (Keeps [] w2 (w2.alloc (.cells #[.string x,.int .u64 c] 63))):=(Keeps.refl _ _).alloc _
   have Hrg2:=Lib.hid hrg2
   have hle:w0.heap.size≤w2.heap.size:=Hk2.out.size
   have hss:ss.length < 12:=by omega
   have hcn:(ss++[(⟨x,c⟩:DeltaD)]).length + cnt2≤Maps.size D:=by simp;omega
   clear hs2 hg2 hrg2 hat hv hlk hkey hk2w hbr Hrg
   go_wp2_with (at_builtin;refine wpList_append_any _ rfl (.tmp 16) (.tmp 20) _ rfl w0.heap.size 63 i0 _ 2 24 Tryz.underlying34 Hi0.out Hz0.out Hz1.out Hz2.out rfl (by omega) (.slice Ao ss.length co) ss.length (dCells ss) rfl Hown2.out (w2.heap.size + 1) (some ⟨w2.heap.size,0,none⟩) 1 1 (dCell ⟨x,c⟩) rfl (reads_new _ _ _ _ _ rfl) (by intro u hu;simp [dCell] at hu;rcases hu with rfl | rfl <;> rfl) (by unfold maxLen;omega) (by omega) (by simp;omega) ?_)
   intro v6 w6 hown6 hg6 hat6
   have Hown6:Hid (w6.ownsRow w0.heap.size 63 2 v6 (ss++[(⟨x,c⟩:DeltaD)]).length (dCells (ss++[(⟨x,c⟩:DeltaD)]))):=by
    show World.ownsRow _ _ _ _ _ _ _
    unfold dCells at hown6 ⊢
    rw [List.flatMap_append]
    simpa using hown6
   have hlt0:=Hown.out.lt
   have hk6:Keeps (Value.slice Ao ss.length co).ownBlock.toList w2 w6:=((Keeps.refl _ _).alloc _).grown hg6 (fun k hk=>.inl (by simp [hk]))
   have Hrg6 : Hid (w6.ranges Tryz.prog 9 (plainElem Tryz.prog 45) b r N D (fun z => left z && !z.sameKey (skey x)) cnt2) := rg_keep Hrg2.out hk6 (fun hm => by
    have h1:=(hlt0 b (by simpa using hm)).1
    have h2:=Hs0.out
    exact absurd (Nat.lt_trans hbl h2) (Nat.not_lt.2 h1)) (fun hm=>by
    have h1:=(hlt0 r (by simpa using hm)).1
    exact absurd Hbr.out (Nat.not_lt.2 h1))
   have Hk6:Hid (Keeps [r] w0 w6):=Hk2.out.trans hk6 (fun k hk=>.inr (hlt0 k (by simpa using hk)).1)
   have hm6:=Hrg6.out.left_eq
   clear hown6 hg6 hat6 hk6 hlt0
   go_wp2
   go_roundw
   case rel=>exact ⟨_,cnt2,ss++[⟨x,c⟩],hcn,HC2,Hrg6,Hown6,Hk6⟩
   case measure=>rw [hm0,hm6];exact hlt2
end Go.Proofs.YtambjickanapjaaGreatDoor.Vi
end
section
namespace Go.Proofs.YtambjickanapjaaGreatDoor.Win
/-- Has number n been seen? All up to f are; behind it those of the mask. -/
def seenW (f:Int) (m:Nat) (n:Int):Bool:=decide (n≤f) || (decide (n - f - 1 < 64) && m.testBit (n - f - 1).toNat)
def farW (f:Int) (n:Int):Bool:=decide (f < n) && decide (64≤n - f - 1)
def normW:Nat→Int→Nat→Int×Nat
 | 0,f,m=>(f,m)
 | k + 1,f,m=>if m % 2=1 then normW k (f + 1) (m / 2) else (f,m)
theorem seenW_step {f:Int} {m:Nat} (hm:m < 2 ^ 64) (h:m % 2=1) (n:Int):seenW (f + 1) (m / 2) n=seenW f m n:=by
 unfold seenW
 rcases Int.lt_trichotomy n (f + 1) with hlt | rfl | hgt
 ·have h1:n≤f:=by omega
  have h2:n≤f + 1:=by omega
  simp [h1,h2]
 ·have h1:¬ (f + 1≤f):=by omega
  have e:(f + 1 - f - 1).toNat=0:=by omega
  have h3:f + 1 - f - 1 < 64:=by omega
  simp [h1,h3,e,h]
 ·have h1:¬ (n≤f):=by omega
  have h2:¬ (n≤f + 1):=by omega
  obtain ⟨k,rfl⟩:∃ k:Nat,n=f + 2 + k:=⟨(n - f - 2).toNat,by omega⟩
  have e1:(f + 2 + (k:Int) - (f + 1) - 1).toNat=k:=by omega
  have e2:(f + 2 + (k:Int) - f - 1).toNat=k + 1:=by omega
  rw [e1,e2,Nat.testBit_div_two]
  simp only [h1,h2,decide_false,Bool.false_or]
  by_cases hk:k < 63
  ·have a1:f + 2 + (k:Int) - (f + 1) - 1 < 64:=by omega
   have a2:f + 2 + (k:Int) - f - 1 < 64:=by omega
   simp [a1,a2]
  ·have a2:¬ (f + 2 + (k:Int) - f - 1 < 64):=by omega
   have hb:m.testBit (k + 1)=false:=Nat.testBit_lt_two_pow (Nat.lt_of_lt_of_le hm (Nat.pow_le_pow_right (by omega) (by omega)))
   simp [a2,hb]
theorem normW_seen:∀ (k:Nat) (f:Int) (m:Nat),m < 2 ^ 64→∀ n,seenW (normW k f m).1 (normW k f m).2 n=seenW f m n
 | 0,_,_,_,_=>rfl
 | k + 1,f,m,hm,n=>by
  rw [normW]
  split
  ·rename_i h
   rw [normW_seen k (f + 1) (m / 2) (by omega) n,seenW_step hm h]
  ·rfl
theorem normW_bd:∀ (k:Nat) (f:Int) (m:Nat),m < 2 ^ 64→f≤(normW k f m).1∧(normW k f m).1≤f + k∧(normW k f m).2 < 2 ^ 64
 | 0,f,m,hm=>⟨Int.le_refl _,by simp [normW],hm⟩
 | k + 1,f,m,hm=>by
  rw [normW]
  split
  ·obtain ⟨h1,h2,h3⟩:=normW_bd k (f + 1) (m / 2) (by omega)
   exact ⟨by omega,by omega,h3⟩
  ·exact ⟨Int.le_refl _,by omega,hm⟩
/-- The window with a number more. -/
def addW (f:Int) (m:Nat) (n:Int):Int×Nat:=normW 64 f (m ||| 2 ^ (n - f - 1).toNat)
theorem or_lt {m j:Nat} (hm:m < 2 ^ 64) (hj:j < 64):m ||| 2 ^ j < 2 ^ 64:=Nat.or_lt_two_pow hm (Nat.pow_lt_pow_right (by omega) hj)
theorem addW_seen {f:Int} {m:Nat} {n:Int} (hm:m < 2 ^ 64) (h1:f < n) (h2:n - f - 1 < 64) (k:Int):seenW (addW f m n).1 (addW f m n).2 k=(seenW f m k || k == n):=by
 unfold addW
 rw [normW_seen 64 f _ (or_lt hm (by omega)) k]
 unfold seenW
 by_cases hk:k≤f
 ·simp [hk]
 ·have hkf:decide (k≤f)=false:=decide_eq_false hk
  rw [hkf,Bool.false_or,Bool.false_or,Nat.testBit_or,Nat.testBit_two_pow]
  by_cases hkn:k=n
  ·subst hkn
   simp [h2]
  ·have hne:(n - f - 1).toNat≠(k - f - 1).toNat:=by omega
   have hd:decide ((n - f - 1).toNat=(k - f - 1).toNat)=false:=decide_eq_false hne
   have hb:(k == n)=false:=by simpa using hkn
   rw [hd,hb,Bool.or_false,Bool.or_false]
end Go.Proofs.YtambjickanapjaaGreatDoor.Win
end
section
namespace Go.Proofs.YtambjickanapjaaGreatDoor.Vi
open Go.RowKit Base Mem Tape
/-- A shard: its floor, its mask, its refused batches. -/
structure ShD where
 f:Int
 m:Nat
 bad:List Int
structure McD where
 DS:DataW Unit
 DE:DataW Unit
 sh:Lit→Option ShD
def McD.get (st:McD) (kl:Lit):ShD:=(st.sh kl).getD ⟨0,0,[]⟩
open Classical in
noncomputable def McD.set (st:McD) (kl:Lit) (s:ShD):McD:={ st with sh:=fun k=>if k=kl then some s else st.sh k }
theorem McD.get_set (st:McD) (kl:Lit) (s:ShD):(st.set kl s).get kl=s:=by simp [McD.get,McD.set]
theorem McD.get_other (st:McD) {kl k:Lit} (s:ShD) (h:k≠kl):(st.set kl s).get k=st.get k:=by simp [McD.get,McD.set,h]
theorem McD.sh_set (st:McD) (kl:Lit) (s:ShD):(st.set kl s).sh kl=some s:=by simp [McD.set]
theorem McD.sh_other (st:McD) {kl k:Lit} (s:ShD) (h:k≠kl):(st.set kl s).sh k=st.sh k:=by simp [McD.set,h]
def ShD.seen (s:ShD) (n:Int):Bool:=Win.seenW s.f s.m n
def ShD.add (s:ShD) (n:Int):ShD:={ s with f:=(Win.addW s.f s.m n).1,m:=(Win.addW s.f s.m n).2 }
/-- A number put among others, in order. -/
def insI (l:List Int) (n:Int):List Int:=(l++[n]).mergeSort (fun a b=>decide (a≤b))
/-- A batch is counted, or refused for good. -/
noncomputable def countM (st:McD) (kl:Lit) (e:EntryD):Int×McD:=
 if mayS st.DS e.ds=0 then (1,({ st with DS:=addL st.DS e.ds }:McD).set kl ((st.get kl).add e.seq))
 else if 8≤(st.get kl).bad.length then (5,st)
 else (3,st.set kl ({ (st.get kl) with bad:=insI (st.get kl).bad e.seq }.add e.seq))
def ekey (a:Int):Lit:=.int .i64 a
def stE (st:McD) (e:EntryD):McD:={ st with DE:=st.DE.put (ekey e.ag) (.lit (.int .i64 e.ep)) }
/-- An entry's answer: code, number, and what the machine is then. -/
noncomputable def applyM (st:McD) (kl:Lit) (e:EntryD):Int×Int×McD:=
 if rightE e=0 then
  if e.kind=2 then (8,numAt .u64 st.DS (skey e.ser),st)
  else if (st.get kl).seen e.seq=true then (if e.seq∈(st.get kl).bad then 3 else 2,0,st)
  else if e.ep < numAt .i64 st.DE (ekey e.ag) then (4,0,st)
  else if Win.farW (st.get kl).f e.seq=true then (5,0,stE st e)
  else ((countM (stE st e) kl e).1,0,(countM (stE st e) kl e).2)
 else (0,0,st)
/-- A window lies in block g: its floor, its mask. -/
def WnAt (w:World) (g:Nat) (f:Int) (m:Nat):Prop:=Blk w g 213 #[.int .i64 f,.int .u64 m]∧0≤f∧f≤4611686018427387904∧m < 18446744073709551616
theorem WnAt.keep {w w':World} {M:List Nat} {g:Nat} {f:Int} {m:Nat} (h:WnAt w g f m) (hk:Keeps M w w') (hg:g∉M):WnAt w' g f m:=⟨hk.blk h.1 hg,h.2⟩
theorem wnnew_any (w:World) :
  Calls Tryz.prog 122 #[] w fun e w'=>e=.returned (.pointer (some ⟨w.heap.size,0,none⟩))∧WnAt w' w.heap.size 0 0∧Below w.heap.size w w':=by
 have hR:Hid (WnAt (w.alloc (.cells #[.int .i64 0,.int .u64 0] 213)) w.heap.size 0 0):=⟨Blk.new w _ _,by omega,by omega,by omega⟩
 go_enter Tryz.func122,Tryz.ntmps122
 go_wp2
 go_ret
 exact ⟨rfl,hR.out,below_new' w _⟩
theorem wnat_any (g:Nat) (f:Int) (m:Nat) (n:Int) (w:World) (h:WnAt w g f m) (hn:n≤9223372036854775807) (hf:f < n) :
  Calls Tryz.prog 123 #[.pointer (some ⟨g,0,none⟩),.int .i64 n] w fun e w'=>e=.returned (.int .u64 (n - f - 1))∧w=w':=by
 obtain ⟨hb,h0,h1,h2⟩:=h
 have c0:=hb.cell 0;have c1:=hb.cell 1
 simp only [List.getElem?_toArray,List.getElem?_cons_succ,List.getElem?_cons_zero] at c0 c1
 clear hb
 have e1:IntKind.u64.wrap n=n:=by rw [IntKind.wrap_u64];omega
 have e2:IntKind.u64.wrap f=f:=by rw [IntKind.wrap_u64];omega
 have e3:IntKind.u64.wrap (n - f)=n - f:=by rw [IntKind.wrap_u64];omega
 have e4:IntKind.u64.wrap (n - f - 1)=n - f - 1:=by rw [IntKind.wrap_u64];omega
 go_enter Tryz.func123,Tryz.ntmps123
 go_wp2
 go_ret
 exact ⟨rfl,rfl⟩
theorem wnfar_any (g:Nat) (f:Int) (m:Nat) (n:Int) (w:World) (h:WnAt w g f m) (hn:n≤9223372036854775807) :
  Calls Tryz.prog 55 #[.pointer (some ⟨g,0,none⟩),.int .i64 n] w fun e w'=>e=.returned (.bool (Win.farW f n))∧w=w':=by
 have hat:=Lib.hid (fun hf=>wnat_any g f m n w h hn hf)
 obtain ⟨hb,h0,h1,h2⟩:=h
 have c0:=hb.cell 0;have c1:=hb.cell 1
 simp only [List.getElem?_toArray,List.getElem?_cons_succ,List.getElem?_cons_zero] at c0 c1
 clear hb
 by_cases hf:f < n
 ·have hp:Hid (∀ b,b=Win.farW f n→Ending.returned (.bool b)=.returned (.bool (Win.farW f n))):=fun b h=>by rw [h]
  have hfi:decide (f < n)=true:=decide_eq_true hf
  have hq:Hid (decide (64≤n - f - 1)=Win.farW f n):=by show _=_;unfold Win.farW;rw [decide_eq_true hf,Bool.true_and]
  have Hat:=Lib.hid (hat.out hf)
  clear hat
  generalize Win.farW f n=r at *
  go_enter Tryz.func55,Tryz.ntmps55
  go_wp2_with fail
  refine Hat.out.mono ?_
  rintro e w1 ⟨rfl,rfl⟩
  have hq':=hq.out
  go_wp2
  go_ret
  exact ⟨rfl,rfl⟩
 ·have hfi:decide (f < n)=false:=decide_eq_false hf
  have hq:Hid (Win.farW f n=false):=by show _=_;unfold Win.farW;rw [decide_eq_false hf,Bool.false_and]
  rw [hq.out]
  clear hat
  go_enter Tryz.func55,Tryz.ntmps55
  go_wp2
  go_ret
  exact ⟨rfl,rfl⟩
theorem wnseen_any (g:Nat) (f:Int) (m:Nat) (n:Int) (w:World) (h:WnAt w g f m) (hn:n≤9223372036854775807) :
  Calls Tryz.prog 53 #[.pointer (some ⟨g,0,none⟩),.int .i64 n] w fun e w'=>e=.returned (.bool (Win.seenW f m n))∧∃ q,w'=w.drewN q:=by
 have HW:Hid (∀ q,WnAt (w.drewN q) g f m):=fun q=>h.keep (M:=[]) ((Keeps.refl _ _).drewN q) (by simp)
 have HF:Hid (∀ q,Calls Tryz.prog 55 #[.pointer (some ⟨g,0,none⟩),.int .i64 n] (w.drewN q) fun e w'=>e=.returned (.bool (Win.farW f n))∧w.drewN q=w'):=fun q=>wnfar_any g f m n _ (HW.out q) hn
 have HA:Hid (f < n→∀ q,Calls Tryz.prog 123 #[.pointer (some ⟨g,0,none⟩),.int .i64 n] (w.drewN q) fun e w'=>e=.returned (.int .u64 (n - f - 1))∧w.drewN q=w'):=fun hf q=>wnat_any g f m n _ (HW.out q) hn hf
 obtain ⟨hb,h0,h1,h2⟩:=h
 have c0:=hb.cell 0;have c1:=hb.cell 1
 simp only [List.getElem?_toArray,List.getElem?_cons_succ,List.getElem?_cons_zero] at c0 c1
 clear hb HW
 by_cases hf:n≤f
 ·have hfi:decide (n≤f)=true:=decide_eq_true hf
  have hq:Hid (Win.seenW f m n=true):=by show _=_;unfold Win.seenW;rw [decide_eq_true hf,Bool.true_or]
  rw [hq.out]
  clear HF HA
  go_enter Tryz.func53,Tryz.ntmps53
  go_wp2_with fail
  go_quiet (fail)
  go_wp2
  go_ret
  exact ⟨rfl,nq,rfl⟩
 ·have hfi:decide (n≤f)=false:=decide_eq_false hf
  have HA2:=Lib.hid (HA.out (by omega))
  clear HA
  cases hfar:Win.farW f n with
  | true=>
   rw [hfar] at HF
   have hq:Hid (Win.seenW f m n=false):=by
    show _=_
    unfold Win.farW at hfar
    unfold Win.seenW
    rw [Bool.and_eq_true,decide_eq_true_eq,decide_eq_true_eq] at hfar
    rw [hfi,Bool.false_or,decide_eq_false (by omega),Bool.false_and]
   rw [hq.out]
   clear HA2
   go_enter Tryz.func53,Tryz.ntmps53
   go_wp2_with fail
   go_quiet ((go_at_call 55;exact quiet_left (HF.out _)))
   go_wp2
   go_ret
   exact ⟨rfl,nq,rfl⟩
  | false=>
   rw [hfar] at HF
   have hj:Hid (0≤n - f - 1∧n - f - 1 < 64):=by
    show _∧_
    unfold Win.farW at hfar
    rw [Bool.and_eq_false_iff,decide_eq_false_iff_not,decide_eq_false_iff_not] at hfar
    omega
   obtain ⟨j,Hj⟩:∃ j:Nat,Hid (n - f - 1=(j:Int)):=⟨(n - f - 1).toNat,by show _=_;have:=hj.out;omega⟩
   have hj64:j < 64:=by have:=hj.out;have:=Hj.out;omega
   rw [Hj.out] at HA2
   clear hj
   go_enter Tryz.func53,Tryz.ntmps53
   go_wp2_with fail
   go_quiet (first | (go_at_call 55;exact quiet_left (HF.out _)) | (go_at_call 123;exact quiet_left (HA2.out _)))
   go_wp2
   go_ret
   have e1:((m:Int) / 2 ^ j)=((m / 2 ^ j:Nat):Int):=by rw [Int.natCast_ediv,Int.natCast_pow];rfl
   have hlt:m / 2 ^ j < 18446744073709551616:=Nat.lt_of_le_of_lt (Nat.div_le_self _ _) h2
   have e2:bits .and .u64 ((m:Int) / 2 ^ j) 1=((m / 2 ^ j % 2:Nat):Int):=by
    rw [e1,show (1:Int)=((1:Nat):Int) from rfl,u64_and_nat _ _ hlt (by omega),Nat.and_one_is_mod]
   have hq:Win.seenW f m n=(bits .and .u64 ((m:Int) / 2 ^ j) 1 == 1):=by
    unfold Win.seenW
    rw [hfi,Bool.false_or,Hj.out,decide_eq_true (show (j:Int) < 64 by omega),Bool.true_and,Int.toNat_natCast,e2,Nat.testBit_eq_decide_div_mod_eq,Bool.eq_iff_iff,decide_eq_true_eq,beq_iff_eq]
    omega
   rw [hq]
   exact ⟨rfl,nq,rfl⟩

theorem bdrewW {B:Nat} {a w:World} (h:Below B a w):Below B a w.drew:=⟨h.os,h.tape,h.output,h.size,h.block⟩
theorem wnat_cells {w:World} {g:Nat} {f:Int} {m:Nat} (h:WnAt w g f m):w.cell? ⟨g,0,none⟩=some (.int .i64 f)∧w.cell? ⟨g,1,none⟩=some (.int .u64 m)∧w.frozen? ⟨g,0,none⟩=false∧w.frozen? ⟨g,1,none⟩=false:=
 ⟨h.1.cell 0,h.1.cell 1,h.1.frozen 0,h.1.frozen 1⟩
theorem normW_even_stop {k:Nat} {f:Int} {m:Nat} (h:m % 2=0):Win.normW k f m=(f,m):=by
 cases k with
 | zero=>rfl
 | succ k=>rw [Win.normW,if_neg (by omega)]
def wnLeft (g:Nat) (w:World):Nat:=match w.cell? ⟨g,1,none⟩ with | some (.int _ c)=>c.toNat | _=>0
theorem wnLeft_of {w:World} {g:Nat} {f:Int} {m:Nat} (h:WnAt w g f m):wnLeft g w=m:=by
 unfold wnLeft
 rw [(wnat_cells h).2.1]
 exact Int.toNat_natCast _
def WdPost (g:Nat) (r:Int×Nat) (w:World) (e:Ending) (w':World):Prop:=e=.returned (.bool true)∧WnAt w' g r.1 r.2∧Keeps [g] w w'
theorem wnadd_any (g:Nat) (f:Int) (m:Nat) (n:Int) (w:World) (h:WnAt w g f m) (hn:n≤9223372036854775807) (hs:Win.seenW f m n=false) (hfar:Win.farW f n=false) (hf:f≤4611686018427387000) :
  Calls Tryz.prog 127 #[.pointer (some ⟨g,0,none⟩),.int .i64 n] w fun e w'=>WdPost g (Win.addW f m n) w e w':=by
 have hlt:f < n:=by
  unfold Win.seenW at hs
  rw [Bool.or_eq_false_iff,decide_eq_false_iff_not] at hs
  omega
 have hj64:n - f - 1 < 64:=by
  unfold Win.farW at hfar
  rw [Bool.and_eq_false_iff,decide_eq_false_iff_not,decide_eq_false_iff_not] at hfar
  omega
 obtain ⟨j,Hj⟩:∃ j:Nat,Hid (n - f - 1=(j:Int)):=⟨(n - f - 1).toNat,by show _=_;omega⟩
 have hj:j < 64:=by have:=Hj.out;omega
 have HF:=Lib.hid (wnfar_any g f m n w h hn)
 have HS:=Lib.hid (wnseen_any g f m n w h hn)
 rw [hfar] at HF
 rw [hs] at HS
 obtain ⟨hb,h0,h1,h2⟩:=id h
 have HA0:Hid (Win.addW f m n=Win.normW 64 f (m ||| 2 ^ j)):=by show _=_;unfold Win.addW;rw [Hj.out,Int.toNat_natCast]
 have HW:=Lib.hid h
 clear h hs hfar hb hj64
 go_enter Tryz.func127,Tryz.ntmps127
 go_wp2_with fail
 refine HF.out.mono ?_
 rintro e w1 ⟨rfl,rfl⟩
 clear HF
 go_wp2_with fail
 refine HS.out.mono ?_
 rintro e w1 ⟨rfl,nq,rfl⟩
 clear HS
 have HW1:Hid (WnAt (w.drewN nq) g f m):=HW.out.keep (M:=[]) ((Keeps.refl _ _).drewN nq) (by simp)
 have Hk1:Hid (Keeps [] w (w.drewN nq)):=(Keeps.refl _ _).drewN nq
 go_upto_region 3 with (fail)
 generalize w.drewN nq=wa at *
 have HSB:Hid (∀ W,Below wa.heap.size wa W→WnAt W g f m):=fun W hb=>HW1.out.keep (M:=[]) (Keeps.of_below hb) (by simp)
 have HAT:Hid (∀ W,Below wa.heap.size wa W→Calls Tryz.prog 123 #[.pointer (some ⟨g,0,none⟩),.int .i64 n] W fun e w'=>e=.returned (.int .u64 j)∧W=w'):=fun W hb=>by
  have:=wnat_any g f m n W (HSB.out W hb) hn hlt
  rw [Hj.out] at this
  exact this
 obtain ⟨m2,Hm2⟩:∃ m2:Nat,Hid (m2=m ||| 2 ^ j):=⟨_,rfl⟩
 have hm2:m2 < 18446744073709551616:=by rw [Hm2.out];exact Win.or_lt h2 hj
 have hwj:IntKind.u64.wrap (2 ^ j)=(2:Int) ^ j:=by
  have hp64:(2:Nat) ^ j < 2 ^ 64:=Nat.pow_lt_pow_right (by omega) hj
  rw [show (2:Int) ^ j=((2 ^ j:Nat):Int) by rw [Int.natCast_pow];rfl,IntKind.wrap_u64]
  generalize (2:Nat) ^ j=p at *
  omega
 have hor:bits .or .u64 (m:Int) (2 ^ j)=(m2:Int):=by
  have hp64:(2:Nat) ^ j < 2 ^ 64:=Nat.pow_lt_pow_right (by omega) hj
  rw [show (2:Int) ^ j=((2 ^ j:Nat):Int) by rw [Int.natCast_pow];rfl,Hm2.out]
  exact u64_or_nat m (2 ^ j) h2 hp64
 obtain ⟨w0,w1,x0,x1⟩:=wnat_cells HW1.out
 go_cut [] (fun wx=>Hid (WnAt wx g f m2)∧Hid (Keeps [g] w wx))
 case first=>
  go_region_with (go_at_call 123;refine (HAT.out _ (bdrewW (Below.refl _ wa))).mono ?_;rintro e w7 ⟨rfl,rfl⟩)
  all_goals
   have hF:Hid (WnAt ((wa.setCell ⟨g,1,none⟩ (.int .u64 m2)).drew) g f m2):=by
    have hb:=HW1.out.1.set_ 1 (.int .u64 m2)
    refine ⟨?_,h0,h1,hm2⟩
    show Blk (wa.setCell ⟨g,1,none⟩ (.int .u64 m2)) g _ _
    simpa using hb
   have hK:Hid (Keeps [g] w ((wa.setCell ⟨g,1,none⟩ (.int .u64 m2)).drew)):=((Hk1.out.mono (M':=[g]) (by simp)).setCell (by simp) _).drew
   go_wp2_with fail
   go_meet
   exact ⟨hF,hK⟩
 case rest=>
  clear w0 w1 x0 x1 hor hwj HSB HAT HW1 Hk1
  rw [← Hm2.out] at HA0
  go_wp2_with fail
  go_loopw [] (fun wr=>∃ (k:Nat) (f':Int) (m':Nat),m' < 2 ^ k∧f' + k≤f + 64∧Hid (WnAt wr g f' m')∧Hid (Win.addW f m n=Win.normW k f' m')∧Hid (Keeps [g] w wr)) (fun wr=>wnLeft g wr)
  case atStart=>exact ⟨64,f,m2,hm2,by omega,hcut.1,HA0,hcut.2⟩
  case round=>
   obtain ⟨k,f',m',hmk,hfk,HWr,HAr,HKr⟩:=hrel
   obtain ⟨_,hf0,hf1,hm64⟩:=HWr.out
   obtain ⟨c0,c1,z0,z1⟩:=wnat_cells HWr.out
   have hand:bits .and .u64 (m':Int) 1=((m' % 2:Nat):Int):=by
    rw [show (1:Int)=((1:Nat):Int) from rfl,u64_and_nat _ _ hm64 (by omega),Nat.and_one_is_mod]
   by_cases hodd:m' % 2=1
   ·rw [hodd] at hand
    have hand1:bits .and .u64 (m':Int) 1=1:=hand
    clear hand
    obtain ⟨k,rfl⟩:∃ k',k=k' + 1:=by
     rcases k with _ | k
     ·rw [Nat.pow_zero] at hmk;omega
     ·exact ⟨k,rfl⟩
    have hfb:f' < 4611686018427387904:=by omega
    have hWn:Hid (WnAt ((wr.setCell ⟨g,0,none⟩ (.int .i64 (f' + 1))).setCell ⟨g,1,none⟩ (.int .u64 ((m' / 2:Nat):Int))) g (f' + 1) (m' / 2)):=by
     have hb:=(HWr.out.1.set_ 0 (.int .i64 (f' + 1))).set_ 1 (.int .u64 ((m' / 2:Nat):Int))
     refine ⟨?_,by omega,by omega,by omega⟩
     simpa using hb
    have hKn:Hid (Keeps [g] w ((wr.setCell ⟨g,0,none⟩ (.int .i64 (f' + 1))).setCell ⟨g,1,none⟩ (.int .u64 ((m' / 2:Nat):Int)))):=(HKr.out.setCell (by simp) _).setCell (by simp) _
    have hAn:Hid (Win.addW f m n=Win.normW k (f' + 1) (m' / 2)):=by
     show _=_
     rw [HAr.out,Win.normW,if_pos hodd]
    have hl1:=wnLeft_of HWr.out
    have hl2:=wnLeft_of hWn.out
    go_wp2_with fail
    go_roundw
    case rel=>exact ⟨k,f' + 1,m' / 2,by rw [Nat.pow_succ] at hmk;omega,by omega,hWn,hAn,hKn⟩
    case measure=>rw [hl1];exact Nat.lt_of_le_of_lt (Nat.le_of_eq hl2) (by omega)
   ·have heven:m' % 2=0:=by omega
    rw [heven] at hand
    have hand0:bits .and .u64 (m':Int) 1=0:=hand
    clear hand
    have hP:Hid (WdPost g (Win.addW f m n) w (.returned (.bool true)) wr):=by
     refine ⟨rfl,?_,HKr.out⟩
     rw [HAr.out,normW_even_stop heven]
     exact HWr.out
    go_wp2
    go_ret
    exact hP.out
end Go.Proofs.YtambjickanapjaaGreatDoor.Vi
end
section
namespace Go.Proofs.YtambjickanapjaaGreatDoor.Vi
open Go.RowKit Base Mem Tape
open Go.Maps (Keyed)
theorem uMH:Tryz.prog.underlying 104=some (.map 210 109):=by kernel_rfl
theorem zPS (w:World):(zeroValue 109).run Tryz.prog w=.ok (.pointer none) w:=by kernel_rfl
theorem laidOutP:laidOutB Tryz.prog=true:=by kernel_rfl
theorem rowP:(210:TypeId) < Tryz.prog.types.size:=of_decide_eq_true (by kernel_rfl)
theorem wideP:(match Tryz.prog.underlying 210 with | some (.array _ _) | some (.struct _)=>true | _=>false)=true:=by kernel_rfl
theorem lawP:Keyed Tryz.prog 210:=Keyed.of_law (deep_law_laid laidOutP (m:=3) (by omega) rowP (by kernel_rfl) wideP)
/-- A shard's key. -/
noncomputable def pk (a s:Int):Lit:=(keyOf Tryz.prog 210 (.agg #[.int .i64 a,.int .i64 s])).getD (.bool false)
theorem ekey_of {a:Int} (h:I64 a):keyOf Tryz.prog 3 (.int .i64 a)=some (ekey a):=Maps.keyOf_int_mk uInt (WalkArith.wf_i64 h)
theorem posP:0 < Tryz.prog.types.size:=of_decide_eq_true (by kernel_rfl)
theorem pk_of {a s:Int} (ha:I64 a) (hs:I64 s):keyOf Tryz.prog 210 (.agg #[.int .i64 a,.int .i64 s])=some (pk a s):=by
 have hwa:=WalkArith.wf_i64 ha
 have hws:=WalkArith.wf_i64 hs
 have hu:=Tryz.underlying210
 have hui:=uInt
 have hk:Tryz.prog.keyType 210=true:=by kernel_rfl
 have hc:Tryz.prog.cellsOf 210=2:=by kernel_rfl
 have hci:Tryz.prog.cellsOf 3=1:=by kernel_rfl
 have hf:(Value.agg #[.int .i64 a,.int .i64 s]).formed Tryz.prog 210=true:=by simp [Value.formed,hu,hc]
 obtain ⟨m,hm⟩:=Nat.exists_eq_succ_of_ne_zero (Nat.ne_of_gt posP)
 have hl:Tryz.prog.keyLits (Tryz.prog.types.size + 1) 210 [.int .i64 a,.int .i64 s]=some [.int .i64 a,.int .i64 s]:=by
  rw [hm]
  unfold Program.keyLits
  rw [hu]
  simp [hc,hci,Program.keyLits,hui,hwa,hws]
 unfold pk
 have hall:∃ l,keyOf Tryz.prog 210 (.agg #[.int .i64 a,.int .i64 s])=some l:=by
  unfold keyOf
  rw [hu]
  simp only [hk,hf,Bool.and_self,if_true]
  exact ⟨_,by rw [show (Value.agg #[.int .i64 a,.int .i64 s]).cells.toList=[.int .i64 a,.int .i64 s] from rfl,hl];rfl⟩
 obtain ⟨l,hl2⟩:=hall
 rw [hl2]
 rfl
/-- A shard lies in block p; F are its blocks. -/
def ShAt (w:World) (p:Nat) (F:List Nat) (s:ShD):Prop:=
 ∃ pw v,Blk w p 114 #[.pointer (some ⟨pw,0,none⟩),v]∧WnAt w pw s.f s.m∧w.ownsRow 0 2 1 v s.bad.length (s.bad.map (Value.int .i64))∧p∈F∧pw∈F∧p≠pw∧
  (∀ g,v.ownBlock=some g→g∈F∧g≠p∧g≠pw)∧s.bad.length≤8∧∀ n∈s.bad,I64 n
theorem own_other2 {M:List Nat} {w w1:World} {base:Nat} {e:TypeId} {size n:Nat} {v:Value} {xs:List Value} (h:w.ownsRow base e size v n xs) (hk:Keeps M w w1) (hM:∀ g,v.ownBlock=some g→g∉M):w1.ownsRow base e size v n xs:=by
 obtain ⟨hl,h⟩:=h
 refine ⟨hl,?_⟩
 rcases h with h | ⟨g,cap,cur,hv,hb,hg,rest⟩
 ·exact .inl h
 ·exact .inr ⟨g,cap,cur,hv,hb,(hk.block g (Array.getElem?_eq_some_iff.1 hg).1 (hM g (by rw [hv];rfl))).trans hg,rest⟩
theorem ShAt.keep {w w':World} {p:Nat} {F M:List Nat} {s:ShD} (h:ShAt w p F s) (hk:Keeps M w w') (hM:∀ g∈F,g∉M):ShAt w' p F s:=by
 obtain ⟨pw,v,h1,h2,h3,h4,h5,h6,h7,h8⟩:=h
 exact ⟨pw,v,hk.blk h1 (hM p h4),h2.keep hk (hM pw h5),own_other2 h3 hk (fun g hg=>hM g (h7 g hg).1),h4,h5,h6,h7,h8⟩
structure McC where
 gs:Nat
 bm:Nat
 be:Nat
 bs:Nat
 pt:Lit→Nat
 fp:Lit→List Nat
def McC.core (c:McC) (g:Nat):List Nat:=[g,c.gs,c.bm,c.be,c.bs]
structure McIn (w:World) (g:Nat) (c:McC) (X:List Nat) (st:McD) (N:Nat) (DH:DataW Value):Prop where
 b0:Blk w g 106 #[.pointer (some ⟨c.gs,0,none⟩),.map (some c.be),.map (some c.bs)]
 sm:SmAt w c.gs c.bm N st.DS
 m2:w.ownsMap Tryz.prog 3 (plainElem Tryz.prog 2) c.be N st.DE
 m3:w.ownsMap Tryz.prog 210 heldElem c.bs N DH
 nd:(c.core g).Nodup
 sh:∀ kl s,st.sh kl=some s→Maps.has DH kl=true∧DH.atKey kl (.held (.pointer none))=.held (.pointer (some ⟨c.pt kl,0,none⟩))∧ShAt w (c.pt kl) (c.fp kl) s∧∀ x∈c.fp kl,x∉c.core g
 no:∀ kl,st.sh kl=none→Maps.has DH kl=false
 dj:∀ kl kl',kl≠kl'→st.sh kl≠none→st.sh kl'≠none→∀ x∈c.fp kl,x∉c.fp kl'
 inX:∀ x∈c.core g,x∈X
 fpX:∀ kl,st.sh kl≠none→∀ x∈c.fp kl,x∈X
/-- A machine lies in block g; X are its blocks. -/
def McAt (w:World) (g:Nat) (X:List Nat) (st:McD) (N:Nat):Prop:=∃ c DH,McIn w g c X st N DH
theorem McIn.keep {w w':World} {g:Nat} {c:McC} {X M:List Nat} {st:McD} {N:Nat} {DH:DataW Value} (h:McIn w g c X st N DH) (hk:Keeps M w w') (hM:∀ x∈X,x∉M):McIn w' g c X st N DH where
 b0:=hk.blk h.b0 (hM _ (h.inX _ (by simp [McC.core])))
 sm:=h.sm.keep hk (hM _ (h.inX _ (by simp [McC.core]))) (hM _ (h.inX _ (by simp [McC.core])))
 m2:=om_keep h.m2 hk (hM _ (h.inX _ (by simp [McC.core])))
 m3:=om_keep h.m3 hk (hM _ (h.inX _ (by simp [McC.core])))
 nd:=h.nd
 sh:=fun kl s hs=>by
  obtain ⟨h1,h2,h3,h4⟩:=h.sh kl s hs
  exact ⟨h1,h2,h3.keep hk (fun x hx=>hM x (h.fpX kl (by rw [hs];simp) x hx)),h4⟩
 no:=h.no
 dj:=h.dj
 inX:=h.inX
 fpX:=h.fpX
theorem McAt.keep {w w':World} {g:Nat} {X M:List Nat} {st:McD} {N:Nat} (h:McAt w g X st N) (hk:Keeps M w w') (hM:∀ x∈X,x∉M):McAt w' g X st N:=by
 obtain ⟨c,DH,h⟩:=h
 exact ⟨c,DH,h.keep hk hM⟩
theorem McIn.more {w:World} {g:Nat} {c:McC} {X:List Nat} {st:McD} {N N':Nat} {DH:DataW Value} (h:McIn w g c X st N DH) (hN:N≤N'):McIn w g c X st N' DH:=
 ⟨h.b0,⟨h.sm.1,h.sm.2.1.mono hN,h.sm.2.2⟩,h.m2.mono hN,h.m3.mono hN,h.nd,h.sh,h.no,h.dj,h.inX,h.fpX⟩
theorem ShAt.lt {w:World} {p:Nat} {F:List Nat} {s:ShD} (h:ShAt w p F s):p < w.heap.size:=by
 obtain ⟨pw,v,h1,_⟩:=h
 exact h1.lt
end Go.Proofs.YtambjickanapjaaGreatDoor.Vi
end
section
namespace Go.Proofs.YtambjickanapjaaGreatDoor.Vi
open Go.RowKit Base Mem Tape
open Classical in
theorem nodup_le {α:Type}:∀ (l m:List α),l.Nodup→(∀ x∈l,x∈m)→l.length≤m.length
 | [],_,_,_=>by simp
 | a :: l,m,hn,hs=>by
  obtain ⟨h1,h2⟩:=List.nodup_cons.1 hn
  have ha:a∈m:=hs a (by simp)
  have:=nodup_le l (m.erase a) h2 (fun x hx=>(List.mem_erase_of_ne (fun e=>h1 (by rw [← e];exact hx))).2 (hs x (by simp [hx])))
  rw [List.length_erase_of_mem ha] at this
  have:0 < m.length:=List.length_pos_of_mem ha
  simp only [List.length_cons]
  omega
def nameK:List Lit:=nameL.map Lit.string
theorem nameK_of {s:ByteArray} (h:NameOk s):skey s∈nameK:=by
 obtain ⟨l,hl,rfl⟩:=h
 exact List.mem_map.2 ⟨l,hl,by simp [skey]⟩
/-- All keys are names that there are. -/
def NamesIn (D:DataW Unit):Prop:=∀ kl,Maps.has D kl=true→kl∈nameK
theorem size_names {D:DataW Unit} (ht:Maps.Tidy D) (hk:∀ es,D=.map es→∀ p∈es,WideAt.IsKeyLit p.1) (hn:NamesIn D):Maps.size D≤8:=by
 obtain ⟨es,rfl,hp⟩:=ht
 have h1:(es.map (·.1)).Nodup:=by
  unfold List.Nodup
  rw [List.pairwise_map]
  exact hp
 have := nodup_le (es.map (·.1)) nameK h1 (fun x hx => by
  obtain ⟨p,hp1,rfl⟩:=List.mem_map.1 hx
  exact hn _ (List.any_eq_true.2 ⟨p, hp1, WideAt.sameKey_self (hk es rfl p hp1)⟩))
 simpa [Maps.size,nameK,nameL] using this
/-- All keys are keys. -/
def KeysIn (D:DataW Unit):Prop:=∃ es,D=.map es∧es.Pairwise (fun p q=>p.1≠q.1)∧∀ p∈es,WideAt.IsKeyLit p.1
theorem KeysIn.tidy {D:DataW Unit} (h:KeysIn D):Maps.Tidy D:=by obtain ⟨es,h1,h2,_⟩:=h;exact ⟨es,h1,h2⟩
theorem KeysIn.size {D:DataW Unit} (h:KeysIn D) (hn:NamesIn D):Maps.size D≤8:=size_names h.tidy (by obtain ⟨es,rfl,_,h3⟩:=h;intro es' he;injection he with he;subst he;exact h3) hn
theorem KeysIn.put {D:DataW Unit} (h:KeysIn D) {kl:Lit} (hk:WideAt.IsKeyLit kl) (d:DataW Unit):KeysIn (D.put kl d):=by
 obtain ⟨es,rfl,h2,h3⟩:=h
 obtain ⟨es',he,hp⟩:=(Maps.Tidy.put ⟨es,rfl,h2⟩ hk d:Maps.Tidy ((DataW.map es).put kl d))
 refine ⟨es',he,hp,fun p hp1=>?_⟩
 have e1:es'=DataW.insert (kl,d) (es.filter fun p=>!p.1.sameKey kl):=by injection he.symm
 rw [e1] at hp1
 have:p=(kl,d)∨p∈(es.filter fun p=>!p.1.sameKey kl):=by
  have:=(WideShapes.insert_perm (kl,d) (es.filter fun p=>!p.1.sameKey kl)).mem_iff.1 hp1
  simpa using this
 rcases this with rfl | h4
 ·exact hk
 ·exact h3 p (List.mem_filter.1 h4).1
/-- What is known ahead of the i-th batch: the agent's epoch is top, no later number was seen, no sum is great. -/
structure FenceOk (ag:Int) (i:Nat) (top:Int) (kl:Lit) (st:McD):Prop where
 ep:numAt .i64 st.DE (ekey ag)=top
 f0:0≤(st.get kl).f
 fi:(st.get kl).f≤i
 m64:(st.get kl).m < 2 ^ 64
 bad:(st.get kl).bad=[]
 new:∀ n:Int,(i:Int) < n→(st.get kl).seen n=false
 sum:∀ s,numAt .u64 st.DS (skey s)≤5 * i
 names:NamesIn st.DS
 keys:KeysIn st.DS
 isE:Maps.IsMap st.DE
theorem FenceOk.mono {ag:Int} {i:Nat} {top:Int} {kl:Lit} {st:McD} (h:FenceOk ag i top kl st):FenceOk ag (i + 1) top kl st:=
 ⟨h.ep,h.f0,by have:=h.fi;omega,h.m64,h.bad,fun n hn=>h.new n (by omega),fun s=>by have:=h.sum s;omega,h.names,h.keys,h.isE⟩
def fenceE (ag:Int) (i:Nat) (s:ByteArray) (p n:Int):EntryD:=⟨1,ag,0,(i:Int) + 1,p,[⟨s,n⟩],ByteArray.empty,0,0⟩
theorem fence_right {ag:Int} (hag:0≤ag∧ag < 8) (i:Nat) {s:ByteArray} (hs:NameOk s) {p n:Int} (hp:1≤p) (hn:1≤n):rightE (fenceE ag i s p n)=0:=by
 have hb:badId (fenceE ag i s p n)=false:=by
  unfold badId withinB fenceE
  simp;omega
 have h0:((fenceE ag i s p n).ds.length == 0 || (fenceE ag i s p n).ds.any fun d=>d.n == 0)=false:=by simp [fenceE];omega
 have hall:((fenceE ag i s p n).ds.all fun d=>serOk d.ser)=true:=by simp [fenceE,(name_ser hs).1]
 have hse:(fenceE ag i s p n).ser.toList.isEmpty=true:=by show ByteArray.empty.toList.isEmpty=true;decide +kernel
 unfold rightE kindS writtenS
 rw [hb,h0,hall,hse]
 simp [fenceE,withinB]
theorem may_fence {ag:Int} {i:Nat} {top:Int} {kl:Lit} {st:McD} (h:FenceOk ag i top kl st) (hi:i < 40) (s:ByteArray) {n:Int} (hn:0≤n∧n≤5):mayS st.DS [⟨s,n⟩]=0:=by
 have h1:=h.sum s
 have hl:mayL st.DS (.map []) [⟨s,n⟩]=some ((DataW.map []).put (skey s) (.lit (.int .u64 (0 + n)))):=by
  unfold mayL
  rw [numAt_empty,if_neg (by simp only [];omega)]
  rfl
 have h2:=h.keys.size h.names
 have h3:newS st.DS ((DataW.map []:DataW Unit).put (skey s) (.lit (.int .u64 (0 + n))))≤Maps.size ((DataW.map []:DataW Unit).put (skey s) (.lit (.int .u64 (0 + n)))):=leftN_le _ _ _
 have h4:=size_put_le (Maps.tidy_empty) (skey s) (.lit (.int .u64 (0 + n)))
 have h5:Maps.size (DataW.map []:DataW Unit)=0:=rfl
 unfold mayS
 rw [hl]
 show (if 16 < Maps.size st.DS + newS st.DS ((DataW.map []:DataW Unit).put (skey s) (.lit (.int .u64 (0 + n)))) then (24:Int) else 0)=0
 rw [if_neg (by omega)]
theorem fence_far {ag:Int} {i:Nat} {top:Int} {kl:Lit} {st:McD} (h:FenceOk ag i top kl st) (hi:i < 40):Win.farW (st.get kl).f ((i:Int) + 1)=false:=by
 have:=h.f0
 unfold Win.farW
 rw [Bool.and_eq_false_iff]
 right
 exact decide_eq_false (by omega)
/-- What one that is counted leaves. -/
noncomputable def fenceS (ag:Int) (i:Nat) (s:ByteArray) (p n:Int) (kl:Lit) (st:McD):McD:=({ (stE st (fenceE ag i s p n)) with DS:=addL st.DS [⟨s,n⟩] }:McD).set kl ((st.get kl).add ((i:Int) + 1))
theorem fence_yes {ag:Int} (hag:0≤ag∧ag < 8) {i:Nat} {top:Int} {kl:Lit} {st:McD} (h:FenceOk ag i top kl st) (hi:i < 40) {s:ByteArray} (hs:NameOk s) {p n:Int} (hp:1≤p) (hn:1≤n∧n≤5) (hge:top≤p):applyM st kl (fenceE ag i s p n)=(1,0,fenceS ag i s p n kl st):=by
 have hns:¬ ((st.get kl).seen (fenceE ag i s p n).seq=true):=by rw [show (fenceE ag i s p n).seq=(i:Int) + 1 from rfl,h.new _ (by omega)];simp
 have hep:numAt .i64 st.DE (ekey (fenceE ag i s p n).ag)=top:=h.ep
 have hfar:¬ (Win.farW (st.get kl).f (fenceE ag i s p n).seq=true):=by rw [show (fenceE ag i s p n).seq=(i:Int) + 1 from rfl,fence_far h hi];simp
 have hm:mayS (stE st (fenceE ag i s p n)).DS (fenceE ag i s p n).ds=0:=may_fence h hi s ⟨by omega,hn.2⟩
 unfold applyM
 rw [if_pos (fence_right hag i hs hp hn.1),if_neg (by show ¬ ((1:Int)=2);decide),if_neg hns,hep,if_neg (by show ¬ (p < top);omega),if_neg hfar]
 unfold countM
 rw [if_pos hm]
 rfl
/-- One batch that is counted. -/
theorem fence_next {ag:Int} {i:Nat} {top:Int} {kl:Lit} {st:McD} (h:FenceOk ag i top kl st) (hi:i < 40) {s:ByteArray} (hs:NameOk s) {p n:Int} (hn:1≤n∧n≤5) :
  FenceOk ag (i + 1) p kl (fenceS ag i s p n kl st)∧((fenceS ag i s p n kl st).get kl).seen ((i:Int) + 1)=true:=by
 have hf0:=h.f0
 have hfi:=h.fi
 have hm64:=h.m64
 have hj:(i:Int) + 1 - (st.get kl).f - 1 < 64:=by omega
 have hseen:=fun k=>Win.addW_seen hm64 (show (st.get kl).f < (i:Int) + 1 by omega) hj k
 have hbd:=Win.normW_bd 64 (st.get kl).f ((st.get kl).m ||| 2 ^ ((i:Int) + 1 - (st.get kl).f - 1).toNat) (Win.or_lt hm64 (by omega))
 have hge':(Win.addW (st.get kl).f (st.get kl).m ((i:Int) + 1)).1≤(i:Int) + 1:=by
  have hn:=hseen ((i:Int) + 2)
  have h2:=h.new ((i:Int) + 2) (by omega)
  unfold ShD.seen at h2
  rw [h2] at hn
  have h3:((i:Int) + 2 == (i:Int) + 1)=false:=by rw [beq_eq_false_iff_ne];omega
  rw [h3] at hn
  unfold Win.seenW at hn
  rw [Bool.or_self,Bool.or_eq_false_iff,decide_eq_false_iff_not] at hn
  omega
 have hmap:Maps.IsMap (st.DS):=h.keys.tidy.isMap
 unfold fenceS
 refine ⟨⟨?_,?_,?_,?_,?_,?_,?_,?_,?_,?_⟩,?_⟩
 ·show numAt .i64 (st.DE.put (ekey ag) (.lit (.int .i64 p))) (ekey ag)=p
  exact numAt_same h.isE (show WideAt.IsKeyLit (ekey ag) from trivial) _
 ·rw [McD.get_set];show (0:Int)≤(Win.addW _ _ _).1;have:=hbd.1;unfold Win.addW;omega
 ·rw [McD.get_set];show (Win.addW (st.get kl).f (st.get kl).m ((i:Int) + 1)).1≤((i + 1:Nat):Int);omega
 ·rw [McD.get_set];exact hbd.2.2
 ·rw [McD.get_set];exact h.bad
 ·intro n hn
  rw [McD.get_set]
  show Win.seenW (Win.addW _ _ _).1 (Win.addW _ _ _).2 n=false
  have h2:=h.new n (by omega)
  unfold ShD.seen at h2
  rw [hseen n,h2,Bool.false_or,beq_eq_false_iff_ne]
  omega
 ·intro s'
  show numAt .u64 (st.DS.put (skey s) (.lit (.int .u64 (addZ (numAt .u64 st.DS (skey s)) n)))) (skey s')≤5 * ((i + 1:Nat):Int)
  have h1:=h.sum s
  by_cases he:s'=s
  ·subst he
   rw [numAt_same hmap (skey_key _)]
   unfold addZ
   split <;> omega
  ·rw [numAt_other (fun e=>he (skey_inj e))]
   have:=h.sum s'
   omega
 ·intro k hk
  show k∈nameK
  by_cases he:k=skey s
  ·subst he;exact nameK_of hs
  ·exact h.names k (by rw [← hk];exact (Maps.has_put_other he _).symm)
 ·exact h.keys.put (skey_key _) _
 ·exact h.isE.put _ _
 ·rw [McD.get_set]
  show Win.seenW (Win.addW _ _ _).1 (Win.addW _ _ _).2 _=true
  rw [hseen,beq_self_eq_true,Bool.or_true]
/-- Nothing. -/
def mc0:McD:=⟨.map [],.map [],fun _=>none⟩
/-- The first state. -/
theorem fence_start (ag:Int) (kl:Lit):FenceOk ag 0 0 kl mc0 where
 ep:=rfl
 f0:=by simp [McD.get,mc0]
 fi:=by simp [McD.get,mc0]
 m64:=by simp [McD.get,mc0]
 bad:=by simp [McD.get,mc0]
 new:=fun n hn=>by
  show Win.seenW 0 0 n=false
  unfold Win.seenW
  rw [decide_eq_false (by omega),Nat.zero_testBit,Bool.and_false,Bool.or_false]
 sum:=fun s=>by show numAt .u64 (DataW.map []:DataW Unit) (skey s)≤_;rw [numAt_empty];simp
 names:=fun k hk=>by simp [Maps.has,mc0] at hk
 keys:=⟨[],rfl,List.Pairwise.nil,by simp⟩
 isE:=Maps.isMap_empty
end Go.Proofs.YtambjickanapjaaGreatDoor.Vi
end
section
namespace Go.Proofs.YtambjickanapjaaGreatDoor.Vi
open Go.RowKit Base Mem Tape
open Go.Maps (Keyed)
def McNewP (w:World) (e:Ending) (w':World):Prop:=∃ g X,e=.returned (.pointer (some ⟨g,0,none⟩))∧McAt w' g X mc0 0∧(∀ x∈X,w.heap.size≤x)∧Below w.heap.size w w'
theorem mcnew_any (w:World):Calls Tryz.prog 19 #[] w fun e w'=>McNewP w e w':=by
 have hmm:=@run_makeMap Tryz.prog
 go_enter Tryz.func19,Tryz.ntmps19
 go_wp2_with fail
 refine (smnew_any w).mono ?_
 rintro e w1 ⟨gs,bm,rfl,hsm,h1,h2,hb⟩
 have hl1:gs < w1.heap.size:=hsm.1.lt
 have hl2:bm < w1.heap.size:=hsm.2.1.lt
 have hP:Hid (McNewP w (.returned (.pointer (some ⟨w1.heap.size + 1 + 1,0,none⟩))) (((w1.alloc (.map #[] 0)).alloc (.map #[] 0)).alloc (.cells #[.pointer (some ⟨gs,0,none⟩),.map (some w1.heap.size),.map (some (w1.heap.size + 1))] 106))):=by
  have hk:Keeps [] w1 (((w1.alloc (.map #[] 0)).alloc (.map #[] 0)).alloc (.cells #[.pointer (some ⟨gs,0,none⟩),.map (some w1.heap.size),.map (some (w1.heap.size + 1))] 106)):=(((Keeps.refl _ _).alloc _).alloc _).alloc _
  refine ⟨w1.heap.size + 1 + 1,[w1.heap.size + 1 + 1,gs,bm,w1.heap.size,w1.heap.size + 1],rfl,⟨⟨gs,bm,w1.heap.size,w1.heap.size + 1,fun _=>0,fun _=>[]⟩,.map [],?_,?_,?_,?_,?_,?_,?_,?_,?_,?_⟩,?_,?_⟩
  ·have:=Blk.new ((w1.alloc (.map #[] 0)).alloc (.map #[] 0)) 106 #[.pointer (some ⟨gs,0,none⟩),.map (some w1.heap.size),.map (some (w1.heap.size + 1))]
   simpa using this
  ·exact hsm.keep hk (by simp) (by simp)
  ·exact ((World.ownsMap_made w1 _ _ _).alloc _).alloc _
  ·have:=World.ownsMap_made (H:=Value) (w1.alloc (.map #[] 0)) Tryz.prog 210 heldElem
   rw [World.size_alloc] at this
   exact this.alloc _
  ·simp only [McC.core,List.nodup_cons,List.mem_cons,List.not_mem_nil,or_false,List.nodup_nil,and_true,not_or,not_false_eq_true]
   have:=hsm.2.2
   omega
  ·intro kl s h;cases h
  ·intro kl _;rfl
  ·intro kl kl' _ h;exact absurd rfl h
  ·intro x hx;exact hx
  ·intro kl h;exact absurd rfl h
  ·intro x hx
   have:=hb.size
   simp at hx
   omega
  ·exact below_then hb (Keeps.below hk)
 clear hsm hb h1 h2
 go_wp2
 go_ret
 exact hP.out
def OfP (st:McD) (c:McC) (kl:Lit) (w:World) (e:Ending) (w':World):Prop:=
 ∃ p F,e=.returned (.pointer (some ⟨p,0,none⟩))∧ShAt w' p F (st.get kl)∧(∀ s,st.sh kl=some s→p=c.pt kl∧F=c.fp kl)∧(st.sh kl=none→∀ x∈F,w.heap.size≤x∧x < w'.heap.size)∧Keeps [] w w'
theorem mcof_any (g:Nat) (c:McC) (X:List Nat) (st:McD) (N:Nat) (DH:DataW Value) (a k:Int) (w:World) (h:McIn w g c X st N DH) (ha:I64 a) (hk:I64 k) :
  Calls Tryz.prog 52 #[.pointer (some ⟨g,0,none⟩),.int .i64 a,.int .i64 k] w fun e w'=>OfP st c (pk a k) w e w':=by
 have c2:=h.b0.cell 2
 simp only [List.getElem?_toArray,List.getElem?_cons_succ,List.getElem?_cons_zero] at c2
 have H:=Lib.hid h
 clear h
 cases hs:st.sh (pk a k) with
 | some s=>
  obtain ⟨h1,h2,h3,h4⟩:=H.out.sh _ _ hs
  have hP:Hid (OfP st c (pk a k) w (.returned (.pointer (some ⟨c.pt (pk a k),0,none⟩))) w):=⟨_,_,rfl,by unfold McD.get;rw [hs];exact h3,(fun s' _=>⟨rfl,rfl⟩),(fun h=>by rw [hs] at h;cases h),Keeps.refl _ _⟩
  clear h3 h4 hs
  generalize c.pt (pk a k)=p at *
  go_enter Tryz.func52,Tryz.ntmps52
  go_wp2_with (at_lookup;refine wpl_look_held _ rfl _ _ 104 rfl 210 109 lawP uMH (zPS _) c.bs N DH rfl H.out.m3 _ _ rfl (pk_of ha hk) _ h2 ?_;rw [h1])
  go_ret
  exact hP.out
 | none=>
  have h1:=H.out.no _ hs
  have h2:=Maps.atKey_of_not_has h1 (.held (.pointer none))
  have Hs:=Lib.hid hs
  clear hs
  go_enter Tryz.func52,Tryz.ntmps52
  go_wp2_with (at_lookup;refine wpl_look_held _ rfl _ _ 104 rfl 210 109 lawP uMH (zPS _) c.bs N DH rfl H.out.m3 _ _ rfl (pk_of ha hk) _ h2 ?_;rw [h1])
  refine (wnnew_any w).mono ?_
  rintro e w1 ⟨rfl,hwn,hb⟩
  have hlt:w.heap.size < w1.heap.size:=hwn.1.lt
  have hP:Hid (OfP st c (pk a k) w (.returned (.pointer (some ⟨w1.heap.size,0,none⟩))) (w1.alloc (.cells #[.pointer (some ⟨w.heap.size,0,none⟩),.slice none 0 0] 114))):=by
   refine ⟨w1.heap.size,[w1.heap.size,w.heap.size],rfl,?_,fun s h=>(by rw [Hs.out] at h;cases h),fun _ x hx=>(by rw [World.size_alloc];simp at hx;omega),(Keeps.of_below hb).trans ((Keeps.refl [] _).alloc _) (by simp)⟩
   unfold McD.get
   rw [Hs.out]
   exact ⟨w.heap.size,.slice none 0 0,Blk.new w1 _ _,hwn.keep (M:=[]) ((Keeps.refl _ _).alloc _) (by simp),World.ownsRow_nil _ _ _ _,by simp,by simp,by omega,(fun g hg=>by cases hg),by simp,by simp⟩
  clear hwn hb
  go_wp2
  go_ret
  exact hP.out
def CntP (g:Nat) (X F:List Nat) (r:Int×McD) (N':Nat) (w:World) (e:Ending) (w':World):Prop:=
 e=.returned (.int .i64 r.1)∧∃ X',McAt w' g X' r.2 N'∧(∀ x∈X',x∈X∨x∈F∨(w.heap.size≤x∧x < w'.heap.size))∧Keeps (X++F) w w'
end Go.Proofs.YtambjickanapjaaGreatDoor.Vi
end
section
namespace Go.Proofs.YtambjickanapjaaGreatDoor.Vi
open Go.RowKit Base Mem Tape
def iV (x:Int):List Value:=[.int .i64 x]
theorem iV_map (l:List Int):l.flatMap iV=l.map (Value.int .i64):=by
 induction l with
 | nil=>rfl
 | cons x l ih=>rw [List.flatMap_cons,ih];rfl
def IxP (l:List Int) (n:Int) (w:World) (e:Ending) (w':World):Prop:=(∃ j:Int,e=.returned (.int .i64 j)∧decide (0≤j)=decide (n∈l))∧w=w'
theorem ixI_any (v:Value) (l:List Int) (n:Int) (w:World) (h:Rd w [] 1 v l.length (l.map (Value.int .i64))) (hl:l.length≤1099511627776) :
  Calls Tryz.prog 124 #[v,.int .i64 n] w fun e w'=>IxP l n w e w':=by
 rw [← iV_map] at h
 have HR:=Lib.hid h
 obtain ⟨A,c,rfl,hc,_⟩:=h
 go_enter Tryz.func124,Tryz.ntmps124
 go_wp2_with fail
 go_loopw [8] (fun i wr=>∃ (x:Nat),i=.int .i64 x∧x≤l.length∧Hid (n∉l.take x)∧wr=w) (fun i _=>l.length - (intOf i).toNat)
 case atStart=>exact ⟨0,rfl,by omega,(show n∉l.take 0 by simp),rfl⟩
 case round=>
  obtain ⟨x,rfl,hx,Hn,rfl⟩:=hrel
  by_cases hlt:x < l.length
  ·have hx1:(x:Int) < (l.length:Int):=by omega
   obtain ⟨g3,off,_,e1,_,hg3,_,hcell⟩:=Rd.at_ iV 1 (fun _=>rfl) HR.out hlt
   obtain rfl:A=some ⟨g3,off,none⟩:=by injection e1
   clear e1
   have p0:=hcell 0 _ rfl
   rw [Nat.add_zero,Nat.mul_one] at p0
   by_cases hq:n=l[x]
   ·have hqi:(n == l[x])=true:=beq_iff_eq.2 hq
    have hP:Hid (IxP l n wr (.returned (.int .i64 x)) wr):=⟨⟨_,rfl,by rw [decide_eq_true (by omega),decide_eq_true (by rw [hq];exact List.getElem_mem _)]⟩,rfl⟩
    clear hcell hq
    generalize l[x]=y at *
    go_wp2
    go_ret
    exact hP.out
   ·have hqi:(n == l[x])=false:=beq_eq_false_iff_ne.2 hq
    have Hn2:Hid (n∉l.take (x + 1)):=by
     show ¬ _
     rw [List.take_succ_eq_append_getElem hlt,List.mem_append,List.mem_singleton]
     rintro (h | h)
     ·exact Hn.out h
     ·exact hq h
    clear hcell hq
    generalize l[x]=y at *
    go_wp2
    go_roundw
    case rel=>exact ⟨x + 1,by go_num,by omega,Hn2,by first | rfl | trivial⟩
    case measure=>simp [intOf] <;> omega
  ·obtain rfl:x=l.length:=by omega
   have hP:Hid (IxP l n wr (.returned (.int .i64 (-1))) wr):=⟨⟨_,rfl,by
    have:=Hn.out
    rw [List.take_length] at this
    rw [decide_eq_false this]
    rfl⟩,rfl⟩
   go_wp2
   go_ret
   exact hP.out
theorem conI_any (v:Value) (l:List Int) (n:Int) (w:World) (h:Rd w [] 1 v l.length (l.map (Value.int .i64))) (hl:l.length≤1099511627776) :
  Calls Tryz.prog 54 #[v,.int .i64 n] w fun e w'=>e=.returned (.bool (decide (n∈l)))∧w=w':=by
 have HI:=Lib.hid (ixI_any v l n w h hl)
 clear h
 go_enter Tryz.func54,Tryz.ntmps54
 go_wp2_with fail
 refine HI.out.mono ?_
 rintro e w1 ⟨⟨j,rfl,hj⟩,rfl⟩
 have hP:Hid (Ending.returned (.bool (decide (0≤j)))=.returned (.bool (decide (n∈l)))):=by show _=_;rw [hj]
 clear hj
 go_wp2
 go_ret
 exact ⟨hP.out,rfl⟩
theorem rd_own {w:World} {v:Value} {l:List Int} (h:w.ownsRow 0 2 1 v l.length (l.map (Value.int .i64))):Rd w [] 1 v l.length (l.map (Value.int .i64)):=Rd.of_own h (by simp)

theorem mc_ep {w w':World} {g:Nat} {c:McC} {X:List Nat} {st:McD} {N N':Nat} {DH:DataW Value} {DE':DataW Unit} (h:McIn w g c X st N DH) (hk:Keeps [c.be] w w')
  (hown:w'.ownsMap Tryz.prog 3 (plainElem Tryz.prog 2) c.be N' DE') (hN:N≤N'):McIn w' g c X { st with DE:=DE' } N' DH:=by
 have hnd:=h.nd
 simp only [McC.core,List.nodup_cons,List.mem_cons,List.not_mem_nil,or_false,List.nodup_nil,and_true,not_or,not_false_eq_true] at hnd
 refine ⟨hk.blk h.b0 (by simp;omega),⟨(h.sm.keep hk (by simp;omega) (by simp;omega)).1,(h.sm.keep hk (by simp;omega) (by simp;omega)).2.1.mono hN,h.sm.2.2⟩,hown,(om_keep h.m3 hk (by simp;omega)).mono hN,h.nd,fun kl s hs=>?_,h.no,h.dj,h.inX,h.fpX⟩
 obtain ⟨h1,h2,h3,h4⟩:=h.sh kl s hs
 exact ⟨h1,h2,h3.keep hk (fun x hx hm=>h4 x hx (by simp at hm;subst hm;simp [McC.core])),h4⟩
def ApP (g:Nat) (X:List Nat) (r:Int×Int×McD) (N':Nat) (w:World) (e:Ending) (w':World):Prop:=
 e=.returned (.tuple #[.int .i64 r.1,.int .u64 r.2.1])∧∃ X',McAt w' g X' r.2.2 N'∧(∀ x∈X',x∈X∨(w.heap.size≤x∧x < w'.heap.size))∧Keeps X w w'
/-- count's contract at an entry. -/
def CountOk (g:Nat) (c:McC) (X:List Nat) (st:McD) (N:Nat) (DH:DataW Value) (e:EntryD) (dv:Value):Prop:=
 rightE e=0→e.kind≠2→(st.get (pk e.ag e.sh)).seen e.seq=false→Win.farW (st.get (pk e.ag e.sh)).f e.seq=false→∀ (W:World) (p:Nat) (F:List Nat),McIn W g c X (stE st e) (N + 1) DH→ShAt W p F ((stE st e).get (pk e.ag e.sh))→
  (∀ s,(stE st e).sh (pk e.ag e.sh)=some s→p=c.pt (pk e.ag e.sh)∧F=c.fp (pk e.ag e.sh))→((stE st e).sh (pk e.ag e.sh)=none→∀ x∈F,x∉X)→(∀ x∈X,x < W.heap.size)→(∀ x∈F,x < W.heap.size)→Ds W X dv e.ds→
  Calls Tryz.prog 56 #[.pointer (some ⟨g,0,none⟩),.pointer (some ⟨p,0,none⟩),.agg (eCell (e,dv)).toArray] W fun r w'=>CntP g X F (countM (stE st e) (pk e.ag e.sh) e) (N + 1 + e.ds.length + 1) W r w'
theorem mcapply_any (g:Nat) (c:McC) (X:List Nat) (st:McD) (N:Nat) (DH:DataW Value) (e:EntryD) (dv:Value) (mx:Int) (w:World) (h:McIn w g c X st N DH) (hcount:CountOk g c X st N DH e dv) (ha:I64 e.ag) (hs:I64 e.sh) (hq:I64 e.seq) (hp:I64 e.ep)
  (hd:Ds w X dv e.ds) (hsh:Short e) (hN:N≤549755813888) (hX:∀ x∈X,x < w.heap.size) (hm:w.cell? ⟨0,0,none⟩=some (.int .i64 mx)) :
  Calls Tryz.prog 20 #[.pointer (some ⟨g,0,none⟩),.agg (eCell (e,dv)).toArray] w fun r w'=>ApP g X (applyM st (pk e.ag e.sh) e) (N + e.ds.length + 2) w r w':=by
 have hw0:0 < w.heap.size:=by
  have:=World.block_lt_of_cell? w _ hm
  simpa using this
 have Hm:Hid (∀ W,Keeps [] w W→W.cell? ⟨0,0,none⟩=some (.int .i64 mx)):=fun W hk=>hk.c hm
 have HH:=Lib.hid h;have HCount:=Lib.hid hcount;have Hsh:=Lib.hid hsh;have HD:=Lib.hid hd
 have hglt:g < w.heap.size:=h.b0.lt
 have hbel:c.be < w.heap.size:=h.m2.lt
 have hbeX:c.be∈X:=h.inX _ (by simp [McC.core])
 have HXlt:Hid (c.be < w.heap.size):=hbel
 have hnd:=h.nd
 simp only [McC.core,List.nodup_cons,List.mem_cons,List.not_mem_nil,or_false,List.nodup_nil,and_true,not_or,not_false_eq_true] at hnd
 obtain ⟨⟨n1,n2,n3,n4⟩,⟨n5,n6,n7⟩,⟨n8,n9⟩,n10⟩:=hnd
 have HAM : Hid (applyM st (pk e.ag e.sh) e = if rightE e = 0 then
  if e.kind=2 then (8,numAt .u64 st.DS (skey e.ser),st)
  else if (st.get (pk e.ag e.sh)).seen e.seq=true then (if e.seq∈(st.get (pk e.ag e.sh)).bad then 3 else 2,0,st)
  else if e.ep < numAt .i64 st.DE (ekey e.ag) then (4,0,st)
  else if Win.farW (st.get (pk e.ag e.sh)).f e.seq=true then (5,0,stE st e)
  else ((countM (stE st e) (pk e.ag e.sh) e).1,0,(countM (stE st e) (pk e.ag e.sh) e).2)
 else (0, 0, st)) := rfl
 have HQ:Hid (∀ W code n,Keeps [] w W→applyM st (pk e.ag e.sh) e=(code,n,st)→ApP g X (applyM st (pk e.ag e.sh) e) (N + e.ds.length + 2) w (.returned (.tuple #[.int .i64 code,.int .u64 n])) W):=fun W code n hk he=>by
  rw [he]
  exact ⟨rfl,X,⟨c,DH,(h.keep hk (by simp)).more (by omega)⟩,fun x hx=>.inl hx,hk.mono (M:=[]) (by simp)⟩
 have HRt:Hid (∀ W,Keeps [] w W→Calls Tryz.prog 50 #[.agg (eCell (e,dv)).toArray] W fun r w'=>NumPost (rightE e) W r w'):=fun W hk=>eright_any e dv mx W ((hd.keep (M':=[]) hk (by simp)).avoid (by simp)) hsh (Hm.out W hk)
 have HOf:Hid (∀ W,Keeps [] w W→Calls Tryz.prog 52 #[.pointer (some ⟨g,0,none⟩),.int .i64 e.ag,.int .i64 e.sh] W fun r w'=>OfP st c (pk e.ag e.sh) W r w'):=fun W hk=>mcof_any g c X st N DH _ _ W (h.keep hk (by simp)) ha hs
 have hser:e.ser.size≤9223372036854775807:=by have:=hsh.1;omega
 have HGet:Hid (∀ W,Keeps [] w W→Calls Tryz.prog 51 #[.pointer (some ⟨c.gs,0,none⟩),.string e.ser] W fun r w'=>r=.returned (.int .u64 (numAt .u64 st.DS (skey e.ser)))∧W=w'):=fun W hk=>smget_any _ _ _ _ _ W ((h.keep hk (by simp)).sm) hser
 have HM2:=Lib.hid h.m2;have HB0:=Lib.hid h.b0
 have Hep:=Lib.hid (ekey_of ha)
 clear h hcount hsh hd hm
 obtain ⟨kind,ag,sh,seq,ep,ds,ser,fr,tag⟩:=e
 simp only [] at *
 obtain ⟨A,cc,rfl,hcc⟩:=HD.out.len
 have hBx:=Blk.new w 36 #[.int .i64 kind,.int .i64 ag,.int .i64 sh,.int .i64 seq,.int .i64 ep,.slice A ds.length cc,.string ser,.int .i64 fr,.int .i64 tag]
 have HkA:Hid (Keeps [] w (w.alloc (.cells #[.int .i64 kind,.int .i64 ag,.int .i64 sh,.int .i64 seq,.int .i64 ep,.slice A ds.length cc,.string ser,.int .i64 fr,.int .i64 tag] 36))):=(Keeps.refl _ _).alloc _
 have HBx:=Lib.hid hBx
 clear hBx
 generalize hkl:pk ag sh=kl at *
 show Calls Tryz.prog 20 #[.pointer (some ⟨g,0,none⟩),.agg #[.int .i64 kind,.int .i64 ag,.int .i64 sh,.int .i64 seq,.int .i64 ep,.slice A ds.length cc,.string ser,.int .i64 fr,.int .i64 tag]] w _
 go_enter Tryz.func20,Tryz.ntmps20
 go_upto_region 1 with (fail)
 generalize w.alloc (.cells #[.int .i64 kind,.int .i64 ag,.int .i64 sh,.int .i64 seq,.int .i64 ep,.slice A ds.length cc,.string ser,.int .i64 fr,.int .i64 tag] 36)=wa at *
 obtain ⟨g7,Hg7⟩:∃ g7,Hid (g7=w.heap.size):=⟨_,rfl⟩
 rw [← Hg7.out] at HBx ⊢
 have q1:g7≠g∧g7≠c.be:=by have:=Hg7.out;omega
 obtain ⟨q1,q2⟩:=q1
 have HE:Hid (∀ W,Keeps [c.be] wa W→W.cell? ⟨g7,0,none⟩=some (.int .i64 kind)∧W.cell? ⟨g7,1,none⟩=some (.int .i64 ag)∧W.cell? ⟨g7,2,none⟩=some (.int .i64 sh)∧W.cell? ⟨g7,3,none⟩=some (.int .i64 seq)∧W.cell? ⟨g7,4,none⟩=some (.int .i64 ep)∧W.cell? ⟨g7,5,none⟩=some (.slice A ds.length cc)∧W.cell? ⟨g7,6,none⟩=some (.string ser)∧W.cell? ⟨g7,7,none⟩=some (.int .i64 fr)∧W.cell? ⟨g7,8,none⟩=some (.int .i64 tag)):=fun W hk=>by
  have h2:=hk.blk HBx.out (by simp;omega)
  exact ⟨h2.cell 0,h2.cell 1,h2.cell 2,h2.cell 3,h2.cell 4,h2.cell 5,h2.cell 6,h2.cell 7,h2.cell 8⟩
 have HMc:Hid (∀ W,Keeps [c.be] wa W→W.cell? ⟨g,0,none⟩=some (.pointer (some ⟨c.gs,0,none⟩))∧W.cell? ⟨g,1,none⟩=some (.map (some c.be))):=fun W hk=>by
  have h2:=hk.blk (HkA.out.blk HB0.out (by simp)) (by simp;omega)
  exact ⟨h2.cell 0,h2.cell 1⟩
 obtain ⟨c0,c1,c2,c3,c4,c5,c6,c7,c8⟩:=HE.out wa (Keeps.refl _ _)
 go_wp2_with fail
 refine (HRt.out wa HkA.out).mono ?_
 rintro r w1 ⟨rfl,hb1⟩
 have Hk1:Hid (Keeps [] w w1):=HkA.out.trans (Keeps.of_below (M:=[]) hb1) (by simp)
 have Hka1:Hid (Keeps [c.be] wa w1):=(Keeps.of_below (M:=[]) hb1).mono (by simp)
 clear hb1 c0 c1 c2 c3 c4 c5 c6 c7 c8 HRt
 obtain ⟨c0,c1,c2,c3,c4,c5,c6,c7,c8⟩:=HE.out w1 Hka1.out
 obtain ⟨m0,m1⟩:=HMc.out w1 Hka1.out
 by_cases hr:rightE ⟨kind,ag,sh,seq,ep,ds,ser,fr,tag⟩=0
 ·have hri:decide (((rightE ⟨kind,ag,sh,seq,ep,ds,ser,fr,tag⟩:Nat):Int)=0)=true:=decide_eq_true (by omega)
  rw [if_pos hr] at HAM
  rw [hr]
  by_cases hk2:kind=2
  ·rw [if_pos hk2] at HAM
   subst hk2
   have hP:Hid (∀ q,ApP g X (applyM st kl ⟨2,ag,sh,seq,ep,ds,ser,fr,tag⟩) (N + ds.length + 2) w (.returned (.tuple #[.int .i64 8,.int .u64 (numAt .u64 st.DS (skey ser))])) (w1.drewN q)):=fun q=>HQ.out _ _ _ (Hk1.out.drewN q) HAM.out
   have HG1:Hid (∀ q,Calls Tryz.prog 51 #[.pointer (some ⟨c.gs,0,none⟩),.string ser] (w1.drewN q) fun r w'=>r=.returned (.int .u64 (numAt .u64 st.DS (skey ser)))∧w1.drewN q=w'):=fun q=>HGet.out _ (Hk1.out.drewN q)
   clear HAM hri
   go_upto_region 4 with (fail)
   go_quiet ((go_at_call 51;exact quiet_left (HG1.out _)))
   go_wp2
   go_ret2
   exact hP.out _
  ·rw [if_neg hk2] at HAM
   have hki:(kind == 2)=false:=beq_eq_false_iff_ne.2 hk2
   clear HGet hri
   go_upto_region 5 with (fail)
   go_wp2_with fail
   refine (HOf.out w1 Hk1.out).mono ?_
   rintro r w2 ⟨p,F,rfl,hsh2,hsome,hnone,hkk2⟩
   have Hk2:Hid (Keeps [] w w2):=Hk1.out.trans hkk2 (by simp)
   have Hka2:Hid (Keeps [c.be] wa w2):=Hka1.out.trans hkk2 (by simp)
   have HSh2:=Lib.hid hsh2;have Hsome:=Lib.hid hsome;have Hnone:=Lib.hid hnone
   have HFb:Hid (∀ x∈F,x≠c.be):=by
    intro x hx
    cases hs':st.sh kl with
    | some s=>
     obtain ⟨_,rfl⟩:=hsome s hs'
     exact fun e=>(HH.out.sh _ s hs').2.2.2 x hx (by rw [e];simp [McC.core])
    | none=>
     have h1:=(hnone hs' x hx).1
     have h2:=Hk1.out.size
     omega
   have HFX:Hid (st.sh kl=none→∀ x∈F,x∉X):=fun hs' x hx hX'=>by
    have h1:=(hnone hs' x hx).1
    have h2:=Hk1.out.size
    have h3:=hX x hX'
    omega
   have HFN:Hid (∀ x∈F,x∈X∨(w.heap.size≤x∧x < w2.heap.size)):=by
    intro x hx
    cases hs':st.sh kl with
    | some s=>
     obtain ⟨_,rfl⟩:=hsome s hs'
     exact .inl (HH.out.fpX _ (by rw [hs'];simp) x hx)
    | none=>
     have h1:=hnone hs' x hx
     have h2:=Hk1.out.size
     exact .inr (by omega)
   obtain ⟨pw,v,hbp,hwn,hown,hpF,hwF,hpw,hvF,hl8,hbd⟩:=hsh2
   have hpb:=HFb.out p hpF
   have hwb:=HFb.out pw hwF
   have HPc:Hid (∀ W,Keeps [c.be] w2 W→W.cell? ⟨p,0,none⟩=some (.pointer (some ⟨pw,0,none⟩))∧W.cell? ⟨p,1,none⟩=some v):=fun W hk=>by
    have h2:=hk.blk hbp (by simp;omega)
    exact ⟨h2.cell 0,h2.cell 1⟩
   have HSeen:Hid (∀ W,Keeps [c.be] w2 W→∀ q,Calls Tryz.prog 53 #[.pointer (some ⟨pw,0,none⟩),.int .i64 seq] (W.drewN q) fun e w'=>e=.returned (.bool ((st.get kl).seen seq))∧∃ m,w'=(W.drewN q).drewN m):=fun W hk q=>
    wnseen_any pw _ _ seq _ (hwn.keep (hk.drewN q) (by simp;omega)) hq.2
   have HFar:Hid (∀ W,Keeps [c.be] w2 W→∀ q,Calls Tryz.prog 55 #[.pointer (some ⟨pw,0,none⟩),.int .i64 seq] (W.drewN q) fun e w'=>e=.returned (.bool (Win.farW (st.get kl).f seq))∧W.drewN q=w'):=fun W hk q=>
    wnfar_any pw _ _ seq _ (hwn.keep (hk.drewN q) (by simp;omega)) hq.2
   have HCon:Hid (∀ W,Keeps [c.be] w2 W→∀ q,Calls Tryz.prog 54 #[v,.int .i64 seq] (W.drewN q) fun e w'=>e=.returned (.bool (decide (seq∈(st.get kl).bad)))∧W.drewN q=w'):=fun W hk q=>
    conI_any v _ seq _ (rd_own (own_other2 hown (hk.drewN q) (fun g' hg'=>by have:=HFb.out g' (hvF g' hg').1;simp;omega))) (by omega)
   clear hbp hwn hown hvF hbd hsome hnone hkk2 HOf c0 c1 c2 c3 c4 c5 c6 c7 c8 m0 m1 hl8
   obtain ⟨c0,c1,c2,c3,c4,c5,c6,c7,c8⟩:=HE.out w2 Hka2.out
   obtain ⟨m0,m1⟩:=HMc.out w2 Hka2.out
   obtain ⟨p0,p1⟩:=HPc.out w2 (Keeps.refl _ _)
   have HS2:=Lib.hid (HSeen.out w2 (Keeps.refl _ _));have HC2:=Lib.hid (HCon.out w2 (Keeps.refl _ _))
   clear HCon
   go_upto_region 6 with (fail)
   cases hsn:(st.get kl).seen seq with
   | true=>
    rw [hsn,if_pos rfl] at HAM
    rw [hsn] at HS2 HSeen
    by_cases hbn:seq∈(st.get kl).bad
    ·rw [if_pos hbn] at HAM
     rw [decide_eq_true hbn] at HC2
     have hP:Hid (∀ q,ApP g X (applyM st kl ⟨kind,ag,sh,seq,ep,ds,ser,fr,tag⟩) (N + ds.length + 2) w (.returned (.tuple #[.int .i64 3,.int .u64 0])) (w2.drewN q)):=fun q=>HQ.out _ _ _ (Hk2.out.drewN q) HAM.out
     clear HAM HSeen HFar
     go_quiet (first | (go_at_call 53;exact quiet_add (HS2.out _)) | (go_at_call 54;exact quiet_left (HC2.out _)))
     go_wp2
     go_ret2
     exact hP.out _
    ·rw [if_neg hbn] at HAM
     rw [decide_eq_false hbn] at HC2
     have hP:Hid (∀ q q',ApP g X (applyM st kl ⟨kind,ag,sh,seq,ep,ds,ser,fr,tag⟩) (N + ds.length + 2) w (.returned (.tuple #[.int .i64 2,.int .u64 0])) ((w2.drewN q).drewN q')):=fun q q'=>HQ.out _ _ _ ((Hk2.out.drewN q).drewN q') HAM.out
     clear HAM HFar
     go_quiet (first | (go_at_call 53;exact quiet_add (HS2.out _)) | (go_at_call 54;exact quiet_left (HC2.out _)))
     have hP':=Lib.hid (hP.out nq)
     have hk3:Hid (Keeps [c.be] w2 (w2.drewN nq)):=(Keeps.refl _ _).drewN nq
     have HS3:=Lib.hid (HSeen.out _ hk3.out)
     go_upto_region 8 with (fail)
     generalize w2.drewN nq=w3 at *
     obtain ⟨c0,c1,c2,c3,c4,c5,c6,c7,c8⟩:=HE.out w3 (Hka2.out.trans hk3.out (by simp))
     obtain ⟨p0,p1⟩:=HPc.out w3 hk3.out
     clear HSeen HS2 HC2 hP
     go_quiet ((go_at_call 53;exact quiet_add (HS3.out _)))
     go_wp2
     go_ret2
     exact hP'.out _
   | false=>
    rw [hsn,if_neg (by simp)] at HAM
    rw [hsn] at HS2 HSeen
    go_quiet (first | (go_at_call 53;exact quiet_add (HS2.out _)) | (go_at_call 54;exact quiet_left (HC2.out _)))
    have hk3:Hid (Keeps [c.be] w2 (w2.drewN nq)):=(Keeps.refl _ _).drewN nq
    have Hk3:Hid (Keeps [] w (w2.drewN nq)):=Hk2.out.drewN nq
    have HS3:=Lib.hid (HSeen.out _ hk3.out)
    go_upto_region 8 with (fail)
    clear c0 c1 c2 c3 c4 c5 c6 c7 c8 m0 m1 p0 p1
    generalize w2.drewN nq=w3 at *
    obtain ⟨c0,c1,c2,c3,c4,c5,c6,c7,c8⟩:=HE.out w3 (Hka2.out.trans hk3.out (by simp))
    obtain ⟨p0,p1⟩:=HPc.out w3 hk3.out
    clear HSeen HS2 HC2
    go_quiet ((go_at_call 53;exact quiet_add (HS3.out _)))
    have hk4:Hid (Keeps [c.be] w2 (w3.drewN nq)):=hk3.out.drewN nq
    have Hk4:Hid (Keeps [] w (w3.drewN nq)):=Hk3.out.drewN nq
    go_upto_region 10 with (fail)
    clear c0 c1 c2 c3 c4 c5 c6 c7 c8 p0 p1 HS3
    generalize w3.drewN nq=w4 at *
    clear hk3 Hk3
    obtain ⟨c0,c1,c2,c3,c4,c5,c6,c7,c8⟩:=HE.out w4 (Hka2.out.trans hk4.out (by simp))
    obtain ⟨m0,m1⟩:=HMc.out w4 (Hka2.out.trans hk4.out (by simp))
    have HM4:Hid (∀ q,(w4.drewN q).ownsMap Tryz.prog 3 (plainElem Tryz.prog 2) c.be N st.DE):=fun q=>om_keep HM2.out (Hk4.out.drewN q) (by simp)
    have hlook:∀ q,(Instr.lookup 103 (.map (some c.be)) (.int .i64 ag) false).run Tryz.prog (w4.drewN q)=.ok (.int .i64 (numAt .i64 st.DE (ekey ag))) (w4.drewN q):=fun q=>(om_num (HM4.out q) lawI uME uI64 (zI64 _) Hep.out).1
    have HIE:Hid (∀ W,Keeps [c.be] w W→W.ownsMap Tryz.prog 3 (plainElem Tryz.prog 2) c.be (N + 1) (st.DE.put (ekey ag) (.lit (.int .i64 ep)))→McIn W g c X (stE st ⟨kind,ag,sh,seq,ep,ds,ser,fr,tag⟩) (N + 1) DH):=fun W h1 h2=>mc_ep HH.out h1 h2 (by omega)
    by_cases hep:ep < numAt .i64 st.DE (ekey ag)
    ·rw [if_pos hep] at HAM
     have hepi:decide (ep < numAt .i64 st.DE (ekey ag))=true:=decide_eq_true hep
     have hP:Hid (∀ q,ApP g X (applyM st kl ⟨kind,ag,sh,seq,ep,ds,ser,fr,tag⟩) (N + ds.length + 2) w (.returned (.tuple #[.int .i64 4,.int .u64 0])) (w4.drewN q)):=fun q=>HQ.out _ _ _ (Hk4.out.drewN q) HAM.out
     clear HAM HFar HIE HM4
     generalize numAt .i64 st.DE (ekey ag)=top at *
     go_quiet (fail)
     go_wp2
     go_ret2
     exact hP.out _
    ·rw [if_neg hep] at HAM
     have hepi:decide (ep < numAt .i64 st.DE (ekey ag))=false:=decide_eq_false hep
     generalize htop:numAt .i64 st.DE (ekey ag)=top at *
     clear htop hep
     go_quiet (fail)
     have hk5:Hid (Keeps [c.be] w2 (w4.drewN nq)):=hk4.out.drewN nq
     have Hk5:Hid (Keeps [] w (w4.drewN nq)):=Hk4.out.drewN nq
     have HM5:=Lib.hid (HM4.out nq)
     go_upto_region 12 with (fail)
     clear c0 c1 c2 c3 c4 c5 c6 c7 c8 m0 m1 hlook HM4
     generalize w4.drewN nq=w5 at *
     clear hk4 Hk4
     have HS5:Hid (∀ W,Keeps [c.be] w5 W→W.cell? ⟨g,1,none⟩=some (.map (some c.be))∧W.cell? ⟨g7,1,none⟩=some (.int .i64 ag)∧W.cell? ⟨g7,4,none⟩=some (.int .i64 ep)):=fun W hk=>by
      have hka:=(Hka2.out.trans hk5.out (by simp)).trans hk (by simp)
      obtain ⟨c0,c1,c2,c3,c4,c5,c6,c7,c8⟩:=HE.out W hka
      exact ⟨(HMc.out W hka).2,c1,c4⟩
     obtain ⟨w6,hupd,hown6,hturn⟩:=(om_keep HM5.out ((Keeps.refl [] w5).drew) (by simp)).store lawI uME (by unfold maxLen;omega) Hep.out (plainElem_int uI64 (WalkArith.wf_i64 hp):plainElem (H:=Unit) Tryz.prog 2 (.int .i64 ep)=_)
     have hk6:=turned_keeps hturn
     have Hk56:Hid (Keeps [c.be] w5 w6):=(Keeps.refl [c.be] w5).drew.trans hk6 (by simp)
     have HIE6:Hid (∀ W,Keeps [] w6 W→McIn W g c X (stE st ⟨kind,ag,sh,seq,ep,ds,ser,fr,tag⟩) (N + 1) DH):=fun W hk=>HIE.out W (((Hk5.out.mono (M':=[c.be]) (by simp)).trans Hk56.out (by simp)).trans hk (by simp)) (om_keep hown6 hk (by simp))
     clear hown6 hturn hk6 HIE HM5
     refine wR HS5 (Keeps.refl _ _) (fun hHeld=>?_)
     refine tk [0,1,2,3,4,5,6,7,8] ?_
     refine rd 9 (fun K hK=>?_)
     go_simp
     refine hK.out _ _ (HS5.out _ Hk56.out) (fun _=>?_)
     clear hK K hHeld;rename_i hHeld
     try simp only [sgl,Act.put]
     refine dn ?_
     clear hupd hHeld HS5
     have hk6:Hid (Keeps [c.be] w2 w6):=hk5.out.trans Hk56.out (by simp)
     have Hk6:Hid (Keeps [c.be] w w6):=(Hk5.out.mono (M':=[c.be]) (by simp)).trans Hk56.out (by simp)
     clear hk5 Hk5 Hk56
     have HF6:=Lib.hid (HFar.out w6 hk6.out)
     obtain ⟨c0,c1,c2,c3,c4,c5,c6,c7,c8⟩:=HE.out w6 (Hka2.out.trans hk6.out (by simp))
     obtain ⟨p0,p1⟩:=HPc.out w6 hk6.out
     clear HFar
     go_upto_region 13 with (fail)
     cases hfr:Win.farW (st.get kl).f seq with
     | true=>
      rw [hfr,if_pos rfl] at HAM
      rw [hfr] at HF6
      have hP:Hid (∀ q,ApP g X (applyM st kl ⟨kind,ag,sh,seq,ep,ds,ser,fr,tag⟩) (N + ds.length + 2) w (.returned (.tuple #[.int .i64 5,.int .u64 0])) (w6.drewN q)):=fun q=>by
       rw [HAM.out]
       exact ⟨rfl,X,⟨c,DH,(HIE6.out _ ((Keeps.refl _ _).drewN q)).more (by omega)⟩,fun x hx=>.inl hx,(Hk6.out.drewN q).mono (by intro x hx;simp at hx;subst hx;exact .inl hbeX)⟩
      clear HAM
      go_quiet ((go_at_call 55;exact quiet_left (HF6.out _)))
      go_wp2
      go_ret2
      exact hP.out _
     | false=>
      rw [hfr,if_neg (by simp)] at HAM
      rw [hfr] at HF6
      go_quiet ((go_at_call 55;exact quiet_left (HF6.out _)))
      have hk7:Hid (Keeps [c.be] w2 (w6.drewN nq)):=hk6.out.drewN nq
      have Hk7:Hid (Keeps [c.be] w (w6.drewN nq)):=Hk6.out.drewN nq
      have HI7:=Lib.hid (HIE6.out _ ((Keeps.refl _ _).drewN nq))
      go_upto_region 15 with (fail)
      clear c0 c1 c2 c3 c4 c5 c6 c7 c8 p0 p1 HF6 HIE6
      generalize w6.drewN nq=w7 at *
      obtain ⟨c0,c1,c2,c3,c4,c5,c6,c7,c8⟩:=HE.out w7 (Hka2.out.trans hk7.out (by simp))
      have HC7:Hid (Calls Tryz.prog 56 #[.pointer (some ⟨g,0,none⟩),.pointer (some ⟨p,0,none⟩),.agg #[.int .i64 kind,.int .i64 ag,.int .i64 sh,.int .i64 seq,.int .i64 ep,.slice A ds.length cc,.string ser,.int .i64 fr,.int .i64 tag]] w7 fun r w'=>CntP g X F (countM (stE st ⟨kind,ag,sh,seq,ep,ds,ser,fr,tag⟩) kl ⟨kind,ag,sh,seq,ep,ds,ser,fr,tag⟩) (N + 1 + ds.length + 1) w7 r w'):=by
       have:=HCount.out hr (by simpa using hk2) (by simp only [];rw [hkl];exact hsn) (by simp only [];rw [hkl];exact hfr) w7 p F HI7.out (by simp only [];rw [hkl];exact HSh2.out.keep hk7.out (fun x hx=>by have:=HFb.out x hx;simp;omega)) (by simp only [];rw [hkl];exact Hsome.out) (by simp only [];rw [hkl];exact HFX.out) (fun x hx=>Nat.lt_of_lt_of_le (hX x hx) Hk7.out.size) (fun x hx=>by rcases HFN.out x hx with h | h;exact Nat.lt_of_lt_of_le (hX x h) Hk7.out.size;exact Nat.lt_of_lt_of_le h.2 hk7.out.size) (HD.out.keep Hk7.out (by intro x hx;simp at hx;subst hx;exact .inl hbeX))
       simp only [] at this
       rw [hkl] at this
       exact this
      go_wp2_with fail
      refine HC7.out.mono ?_
      rintro r w8 ⟨rfl,X',hmc8,hX8,hk8⟩
      have hP:Hid (ApP g X (applyM st kl ⟨kind,ag,sh,seq,ep,ds,ser,fr,tag⟩) (N + ds.length + 2) w (.returned (.tuple #[.int .i64 (countM (stE st ⟨kind,ag,sh,seq,ep,ds,ser,fr,tag⟩) kl ⟨kind,ag,sh,seq,ep,ds,ser,fr,tag⟩).1,.int .u64 0])) w8):=by
       rw [HAM.out]
       have s1:=Hk7.out.size
       have s2:=hk8.size
       have s3:=hk7.out.size
       refine ⟨rfl,X',?_,fun x hx=>?_,?_⟩
       ·rw [show N + ds.length + 2=N + 1 + ds.length + 1 by omega];exact hmc8
       ·rcases hX8 x hx with h | h | h
        ·exact .inl h
        ·rcases HFN.out x h with h | h
         ·exact .inl h
         ·exact .inr (by omega)
        ·exact .inr (by omega)
       ·refine (Hk7.out.mono (M':=X) (by intro x hx;simp at hx;subst hx;exact .inl hbeX)).trans hk8 (fun x hx=>?_)
        rcases List.mem_append.1 hx with h | h
        ·exact .inl h
        ·rcases HFN.out x h with h | h
         ·exact .inl h
         ·exact .inr (by omega)
      clear hmc8 hX8 hk8 HC7 HAM
      go_wp2
      go_ret2
      exact hP.out
 ·have hri:(((rightE ⟨kind,ag,sh,seq,ep,ds,ser,fr,tag⟩:Nat):Int) == 0)=false:=beq_eq_false_iff_ne.2 (by omega)
  have hri2:(((rightE ⟨kind,ag,sh,seq,ep,ds,ser,fr,tag⟩:Nat):Int) != 0)=true:=by rw [bne,hri];rfl
  rw [if_neg hr] at HAM
  have hP:=Lib.hid (HQ.out w1 0 0 Hk1.out HAM.out)
  clear HAM HGet HOf hr
  generalize rightE ⟨kind,ag,sh,seq,ep,ds,ser,fr,tag⟩=rr at *
  go_wp2
  go_ret2
  exact hP.out
end Go.Proofs.YtambjickanapjaaGreatDoor.Vi
end
