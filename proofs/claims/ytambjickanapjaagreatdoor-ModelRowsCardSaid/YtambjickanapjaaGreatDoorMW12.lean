/- Texts put together: MrwF, MrwN, MrwW. -/
import Derived.Deep.DeepCutAuto
import Derived.Test.YtambjickanapjaaGreatDoorMW6
import Derived.Test.YtambjickanapjaaGreatDoorMW7
import Derived.Test.YtambjickanapjaaGreatDoorMW9
import Derived.Test.YtambjickanapjaaGreatDoorMW10
import Derived.Test.YtambjickanapjaaGreatDoorMW11
set_option linter.unusedVariables false
set_option linter.unusedSimpArgs false
set_option maxRecDepth 100000
set_option maxHeartbeats 8000000
section
namespace Go.Proofs.YtambjickanapjaaGreatDoor.Vi
open Go.RowKit Base Mem Go.Shelf Tape
theorem row_n2 {W:World} {base size n:Nat} {e:TypeId} {v:Value} {xs:List Value} (h:W.ownsRow base e size v n xs) (hn:0 < n):∃ g cap,v=.slice (some ⟨g,0,none⟩) n cap∧n≤cap∧∀ j u,xs[j]? = some u→W.cell? ⟨g,j,none⟩=some u:=by
 obtain ⟨g,cap,hv,_,hlt⟩:=h.form hn
 obtain ⟨A,c,h1,h2,h3,h4⟩:=Rd.of_own (M:=[]) h (by simp)
 obtain ⟨g',off,e1,_,_,h5⟩:=h4 hn
 rw [hv] at h1
 injection h1 with h1 _ h6
 rw [e1] at h1
 injection h1 with h1
 injection h1 with h7 h8
 subst h7 h8 h6
 exact ⟨g,cap,hv,h2,fun j u hu=>by have:=h5 j u hu;rwa [Nat.zero_add] at this⟩
theorem pl_at (f:Nat→Nat) {n j:Nat} (hj:j < n):(pl f n)[j]? = some (.pointer (some ⟨f j,0,none⟩)):=by
 simp [pl,hj]
section
variable {w W:World} {g:Nat} {nv vr va vd:Value} {rs ds:Nat→Nat} {as_:List Value} {Fs:Nat→List Nat}
theorem wreps_any (h:NwSt w W g nv 2 3 1 vr va vd rs ds as_ Fs):Calls Tryz.prog 64 #[.pointer (some ⟨g,0,none⟩)] W fun e w'=>e=.returned (.int .i64 2)∧W=w':=by
 obtain ⟨gr,cap,rfl,-,-⟩:=row_n2 h.ro (by omega)
 have c0:=h.blk.cell 0
 simp only [List.getElem?_toArray,List.getElem?_cons_zero] at c0
 clear h
 go_enter Tryz.func64,Tryz.ntmps64
 go_wp2
 go_ret
 exact ⟨rfl,rfl⟩
theorem wrep_any (h:NwSt w W g nv 2 3 1 vr va vd rs ds as_ Fs) (j:Nat) (hj:j < 2):Calls Tryz.prog 134 #[.pointer (some ⟨g,0,none⟩),.int .i64 j] W fun e w'=>e=.returned (.pointer (some ⟨rs j,0,none⟩))∧W=w':=by
 obtain ⟨gr,cap,rfl,hc,hx⟩:=row_n2 h.ro (by omega)
 have p:=hx j _ (pl_at rs hj)
 have c0:=h.blk.cell 0
 simp only [List.getElem?_toArray,List.getElem?_cons_zero] at c0
 have e1:decide ((j:Int) < 0)=false:=decide_eq_false (by omega)
 have e2:decide ((2:Int)≤(j:Int))=false:=decide_eq_false (by omega)
 have e3:(j:Int) < 2:=by omega
 clear h hx
 go_enter Tryz.func134,Tryz.ntmps134
 go_wp2
 go_ret
 exact ⟨rfl,rfl⟩
theorem wdisk_any (h:NwSt w W g nv 2 3 1 vr va vd rs ds as_ Fs) (j:Nat) (hj:j < 3):Calls Tryz.prog 68 #[.pointer (some ⟨g,0,none⟩),.int .i64 j] W fun e w'=>e=.returned (.pointer (some ⟨ds j,0,none⟩))∧W=w':=by
 obtain ⟨gr,cap,rfl,hc,hx⟩:=row_n2 h.do_ (by omega)
 have p:=hx j _ (pl_at ds hj)
 have c0:=h.blk.cell 2
 simp only [List.getElem?_toArray,List.getElem?_cons_succ,List.getElem?_cons_zero] at c0
 have e1:decide ((j:Int) < 0)=false:=decide_eq_false (by omega)
 have e2:decide ((3:Int)≤(j:Int))=false:=decide_eq_false (by omega)
 have e3:(j:Int) < 3:=by omega
 clear h hx
 go_enter Tryz.func68,Tryz.ntmps68
 go_wp2
 go_ret
 exact ⟨rfl,rfl⟩
theorem frlog_any {r d:Nat} {F:List Nat} (h:FrR W r d F):Calls Tryz.prog 136 #[.pointer (some ⟨r,0,none⟩)] W fun e w'=>EnsPost [] W e w':=by
 obtain ⟨s,p,Y,-,c2,-,hst⟩:=h
 have hc:=Lib.hid (vlog_any W hst)
 clear hst
 go_enter Tryz.func136,Tryz.ntmps136
 go_wp2_with fail
 refine hc.out.mono ?_
 rintro e w1 hp
 obtain ⟨x,rfl⟩:∃ x,e=.returned x:=by obtain ⟨A8,rfl,hE5,hk5⟩:=hp;exact ⟨_,rfl⟩
 have HP:Hid (EnsPost [] W (.returned x) w1):=hp
 clear hp hc c2
 go_wp2_with fail
 go_ret
 exact HP.out
theorem frcommit_any {r d:Nat} {F:List Nat} (h:FrR W r d F):Calls Tryz.prog 137 #[.pointer (some ⟨r,0,none⟩)] W fun e w'=>e=.returned (.int .i64 0)∧W=w':=by
 obtain ⟨s,p,Y,-,-,c4,-⟩:=h
 go_enter Tryz.func137,Tryz.ntmps137
 go_wp2
 go_ret
 exact ⟨rfl,rfl⟩
def EnP (W:World) (e:Ending) (w':World):Prop:=∃ A c,e=.returned (.slice A 0 c)∧Ens w' [] (.slice A 0 c) []∧Keeps [] W w'
theorem committed_any (h:NwSt w W g nv 2 3 1 vr va vd rs ds as_ Fs) (j:Nat) (hj:j < 2):Calls Tryz.prog 65 #[.pointer (some ⟨g,0,none⟩),.int .i64 j] W fun e w'=>EnP W e w':=by
 have HR:=Lib.hid (wrep_any h j hj)
 have HF:=Lib.hid (h.fr j hj).1
 clear h
 go_enter Tryz.func65,Tryz.ntmps65
 go_wp2_with fail
 refine HR.out.mono ?_
 rintro e w' ⟨rfl,rfl⟩
 go_wp2_with fail
 refine (frlog_any HF.out).mono ?_
 rintro e w1 ⟨A,rfl,hE,hk⟩
 have HE:=Lib.hid (hE [] (by simp))
 have Hk:=Lib.hid hk
 have HC:=Lib.hid (frcommit_any (HF.out.keep hk (by simp)))
 clear hE hk
 go_wp2_with fail
 refine HC.out.mono ?_
 rintro e w' ⟨rfl,rfl⟩
 go_wp2_with fail
 refine (clipEntry A 0 0 _ (by omega)).mono ?_
 rintro e w' ⟨rfl,rfl⟩
 have hP:Hid (EnP W (.returned (.slice A 0 0)) w1):=⟨A,0,rfl,HE.out,Hk.out⟩
 go_wp2_with fail
 go_ret
 exact hP.out
theorem longest_any (h:NwSt w W g nv 2 3 1 vr va vd rs ds as_ Fs) (mx:Int) (hm:w.cell? ⟨0,0,none⟩=some (.int .i64 mx)):Calls Tryz.prog 24 #[.pointer (some ⟨g,0,none⟩)] W fun e w'=>EnP W e w':=by
 have hw0:0 < W.heap.size:=by
  have:=World.block_lt_of_cell? W _ (h.kp.c hm)
  simpa using this
 have Hm:Hid (∀ V,Keeps [] W V→V.cell? ⟨0,0,none⟩=some (.int .i64 mx)):=fun V hk=>hk.c (h.kp.c hm)
 have H:Hid (∀ V,Keeps [] W V→NwSt w V g nv 2 3 1 vr va vd rs ds as_ Fs):=fun V hk=>h.keepY hk (by simp)
 have HR:=Lib.hid (wreps_any h)
 clear h hm
 go_enter Tryz.func24,Tryz.ntmps24
 go_wp2_with fail
 refine HR.out.mono ?_
 rintro e w' ⟨rfl,rfl⟩
 go_wp2_with fail
 go_loopw [3,4,11] (fun o hd i wr=>∃ (x:Nat) (A:Option Addr) (c:Nat) (q:Int),i=.int .i64 x∧x≤2∧o=.slice A 0 c∧hd=.int .i64 q∧Hid ((x=0→q = -1)∧(0 < x→q=0))∧Hid (Ens wr [] (.slice A 0 c) [])∧Hid (Keeps [] W wr)) (fun _ _ i _=>2 - (intOf i).toNat)
 case atStart=>exact ⟨0,none,0,-1,rfl,by omega,rfl,rfl,⟨fun _=>rfl,fun h=>by omega⟩,Ens.nil _ _,Keeps.refl _ _⟩
 case round=>
  obtain ⟨x,A,c,q,rfl,hx,rfl,rfl,Hq,HE,Hkr⟩:=hrel
  by_cases hlx:x < 2
  ·have hx1:(x:Int) < 2:=by omega
   have Hd:=Lib.hid (wdisk_any (H.out _ Hkr.out) x (by omega))
   have HF:Hid (∃ s p Y,StAt wr s p Y word0 (ds x) [] 0 0):=by obtain ⟨s,p,Y,-,-,-,h⟩:=((H.out _ Hkr.out).fr x hlx).1;exact ⟨s,p,Y,h⟩
   obtain ⟨Y,HD⟩:∃ Y,Hid (DkAt wr Y (ds x) [] 0):=by obtain ⟨s,p,Y,lv,-,-,hl,-⟩:=HF.out;exact ⟨Y,hl.2.1⟩
   clear HF
   go_wp2_with fail
   refine Hd.out.mono ?_
   rintro e w' ⟨rfl,rfl⟩
   go_wp2_with fail
   refine (dkall_any wr HD.out).mono ?_
   rintro e w2 ⟨v,rfl,hown,hb2⟩
   have HB:Hid (Bs w2 [] v []):=Rd.of_own hown (by simp)
   have Hk2:Hid (Keeps [] W w2):=Hkr.out.trans (Keeps.of_below (M:=[]) hb2) (by simp)
   have HE2:=Lib.hid (HE.out.keep (Keeps.of_below (M:=[]) hb2) (by simp))
   clear hown hb2 Hd HD HE
   go_wp2_with fail
   refine (dkof_any v [] w2 HB.out (by simp)).mono ?_
   rintro e w3 ⟨d3,X3,rfl,hd3,hx3,hb3⟩
   have hk23:Keeps [] w2 w3:=Keeps.of_below hb3
   have Hk3:Hid (Keeps [] W w3):=Hk2.out.trans hk23 (by simp)
   have HE3:=Lib.hid (HE2.out.keep hk23 (by simp))
   have HV:=Lib.hid (vopen_any X3 d3 0 [] w3 hd3 mx (Hm.out _ Hk3.out) (fun h0=>by have:=hx3 0 h0;have:=Hk2.out.size;omega))
   have HX:Hid (∀ g∈X3,W.heap.size≤g):=fun g hg=>Nat.le_trans Hk2.out.size (hx3 g hg)
   have HX':Hid (∀ g∈X3,w2.heap.size≤g):=hx3
   clear hd3 hx3 hb3 hk23 HB HE2
   go_wp2_with fail
   refine HV.out.mono ?_
   rintro e w4 ⟨s,p,rfl,hst,hk4,-,-⟩
   have Hst:Hid (StAt w4 s p X3 word0 d3 [] 0 0):=hst
   have Hk4:Hid (Keeps [] W w4):=Hk3.out.trans hk4 (fun g hg=>.inr (HX.out g hg))
   have HE4:Hid (Ens w4 [] (.slice A 0 c) []):=ens_none HE3.out
   have Had:Hid (∀ V,Keeps [] w4 V→Calls Tryz.prog 70 #[.pointer (some ⟨s,0,none⟩)] V fun e w'=>e=.returned (.int .i64 0)∧V=w'):=fun V hk=>vhad_any V (Hst.out.keep0 hk)
   clear hst hk4 HV HE3
   go_wp2_with fail
   refine (Had.out _ (Keeps.refl _ _)).mono ?_
   rintro e w' ⟨rfl,rfl⟩
   by_cases h0:x=0
   ·have hq:decide (q < 0)=true:=by rw [Hq.out.1 h0];rfl
    have HL:=Lib.hid (vlog_any w4 Hst.out)
    clear h0
    go_wp2_with fail
    refine (Had.out _ (Keeps.refl _ _)).mono ?_
    rintro e w' ⟨rfl,rfl⟩
    go_wp2_with fail
    refine HL.out.mono ?_
    rintro e w5 ⟨A5,rfl,hE5,hk5⟩
    have HE5:Hid (Ens w5 [] (.slice A5 0 0) []):=hE5 [] (by simp)
    have Hk5:Hid (Keeps [] W w5):=Hk4.out.trans hk5 (by simp)
    clear hE5 hk5 HL
    go_wp2_with fail
    go_roundw
    case rel=>exact ⟨x + 1,A5,0,0,by go_num,by omega,rfl,rfl,⟨fun h=>by omega,fun _=>rfl⟩,HE5,Hk5⟩
    case measure=>simp [intOf] <;> omega
   ·have hq0:q=0:=Hq.out.2 (by omega)
    subst hq0
    have HLn:Hid (Calls Tryz.prog 71 #[.pointer (some ⟨s,0,none⟩)] w4 fun e w'=>e=.returned (.int .i64 0)∧w4=w'):=vlen_any w4 Hst.out
    go_wp2_with fail
    refine (Had.out _ (Keeps.refl _ _)).mono ?_
    rintro e w' ⟨rfl,rfl⟩
    go_wp2_with fail
    refine HLn.out.mono ?_
    rintro e w' ⟨rfl,rfl⟩
    go_wp2_with fail
    go_roundw
    case rel=>exact ⟨x + 1,A,c,0,by go_num,by omega,rfl,rfl,⟨fun h=>by omega,fun _=>rfl⟩,HE4,Hk4⟩
    case measure=>simp [intOf] <;> omega
  ·obtain rfl:x=2:=by omega
   have hP:Hid (EnP W (.returned (.slice A 0 c)) wr):=⟨A,c,rfl,HE.out,Hkr.out⟩
   have hx1:decide (((2:Nat):Int) < 2)=false:=rfl
   clear HE
   go_wp2_with fail
   go_ret
   exact hP.out
theorem agree_nil (w:World):Calls Tryz.prog 23 #[.pointer none] w fun e w'=>e=.returned (.bool false)∧w=w':=by
 go_enter Tryz.func23,Tryz.ntmps23
 go_wp2
 go_ret
 exact ⟨rfl,rfl⟩
theorem agree_any (h:NwSt w W g nv 2 3 1 vr va vd rs ds as_ Fs) (mx:Int) (hm:w.cell? ⟨0,0,none⟩=some (.int .i64 mx)):Calls Tryz.prog 23 #[.pointer (some ⟨g,0,none⟩)] W fun e w'=>e=.returned (.bool true)∧Keeps [] W w':=by
 have H:Hid (∀ V,Keeps [] W V→NwSt w V g nv 2 3 1 vr va vd rs ds as_ Fs):=fun V hk=>h.keepY hk (by simp)
 have HL:=Lib.hid (longest_any h mx hm)
 clear h hm
 go_enter Tryz.func23,Tryz.ntmps23
 go_wp2_with fail
 refine HL.out.mono ?_
 rintro e w1 ⟨A,c,rfl,hE,hk⟩
 have HE:=Lib.hid hE;have Hk:=Lib.hid hk
 have HR:=Lib.hid (wreps_any (H.out _ hk))
 clear hE hk HL
 go_wp2_with fail
 refine HR.out.mono ?_
 rintro e w' ⟨rfl,rfl⟩
 go_wp2_with fail
 go_loopw [12] (fun i wr=>∃ x:Nat,i=.int .i64 x∧x≤2∧Hid (Keeps [] w1 wr)) (fun i _=>2 - (intOf i).toNat)
 case atStart=>exact ⟨0,rfl,by omega,Keeps.refl _ _⟩
 case round=>
  obtain ⟨x,rfl,hx,Hkr⟩:=hrel
  by_cases hlx:x < 2
  ·have hx1:(x:Int) < 2:=by omega
   have HC:=Lib.hid (committed_any (H.out _ (Hk.out.trans Hkr.out (by simp))) x hlx)
   go_wp2_with fail
   refine HC.out.mono ?_
   rintro e w2 ⟨B,k,rfl,hE,hk2⟩
   have Hk2:Hid (Keeps [] w1 w2):=Hkr.out.trans hk2 (by simp)
   have HEc:=Lib.hid hE
   have HEl:Hid (Ens w2 [] (.slice A 0 c) []):=ens_none HE.out
   clear hE hk2 HC
   go_wp2_with fail
   refine (rows_any _ _ [] [] w2 HEc.out HEl.out ⟨by simp,by simp⟩ ⟨by simp,by simp⟩).mono ?_
   rintro e w3 ⟨he,hb3⟩
   have he:e=.returned (.bool true):=he
   subst he
   have Hk3:Hid (Keeps [] w1 w3):=Hk2.out.trans (Keeps.of_below (M:=[]) hb3) (by simp)
   clear hb3
   go_wp2_with fail
   go_roundw
   case rel=>exact ⟨x + 1,by go_num,by omega,Hk3⟩
   case measure=>simp [intOf] <;> omega
  ·obtain rfl:x=2:=by omega
   have hP:Hid (Keeps [] W wr):=Hk.out.trans Hkr.out (by simp)
   have hx1:decide (((2:Nat):Int) < 2)=false:=rfl
   go_wp2_with fail
   go_ret
   exact ⟨rfl,hP.out⟩
end
end Go.Proofs.YtambjickanapjaaGreatDoor.Vi
end
section
namespace Go.Proofs.YtambjickanapjaaGreatDoor.Vi
open Go.RowKit Base Mem Tape Sets
theorem k23_ok:EntryOk k23:=by
 refine ⟨by decide,by decide,by decide,by decide,.inr ⟨rfl,rfl,by decide,by decide,by decide,by decide,by decide,by decide,by decide,by decide,by decide,by decide,fun d hd=>?_⟩⟩
 have:d=⟨kA,5⟩:=by simpa [k23,fenceE] using hd
 subst this
 exact ⟨kA_ok,by decide⟩
/-- The known entry's cells. -/
def kc (gD:Nat):List Value:=[.int .i64 1,.int .i64 1,.int .i64 0,.int .i64 1,.int .i64 1,.slice (some ⟨gD,0,none⟩) 1 1,.string ⟨#[]⟩,.int .i64 0,.int .i64 0]
theorem ens_two {W:World} {gD gB:Nat} {t:TypeId} (hd:W.cell? ⟨gD,0,none⟩=some (.string ⟨#[97,61,49]⟩)∧W.cell? ⟨gD,1,none⟩=some (.int .u64 5)) (hb:Blk W gB t (kc gD++kc gD).toArray):Ens W [] (.slice (some ⟨gB,0,none⟩) 2 2) [k23,k23]:=by
 have hl:gD < W.heap.size:=by
  have:=World.block_lt_of_cell? W _ hd.1
  simpa using this
 have hds:Ds W [] (.slice (some ⟨gD,0,none⟩) 1 1) k23.ds:=⟨_,1,rfl,Nat.le_refl _,rfl,fun _=>⟨gD,0,rfl,hl,by simp,fun j u hu=>by
  have hj:j < 2:=(List.getElem?_eq_some_iff.1 hu).1
  rw [Nat.zero_add]
  obtain rfl | rfl:j=0∨j=1:=by omega
  ·rw [hd.1];exact hu
  ·rw [hd.2];exact hu⟩⟩
 refine ⟨[(k23,.slice (some ⟨gD,0,none⟩) 1 1),(k23,.slice (some ⟨gD,0,none⟩) 1 1)],rfl,⟨_,2,rfl,Nat.le_refl _,rfl,fun _=>⟨gB,0,rfl,hb.lt,by simp,fun j u hu=>?_⟩⟩,fun p hp=>?_⟩
 ·rw [Nat.zero_add,hb.cell,List.getElem?_toArray]
  exact hu
 ·simp at hp
  subst hp
  exact hds
theorem known23_any (m:Int) (w:World) (hm:w.cell? ⟨0,0,none⟩=some (.int .i64 m)) :
  Calls Tryz.prog 10 #[] w fun e w'=>e=.returned (.bool true)∧Below w.heap.size w w':=by
 have Hm:Hid (∀ W,Keeps [] w W→W.cell? ⟨0,0,none⟩=some (.int .i64 m)):=fun W hk=>hk.c hm
 clear hm
 go_enter Tryz.func10,Tryz.ntmps10
 go_wp2_with fail
 refine (wnew_any m w (Hm.out w (Keeps.refl _ _))).mono ?_
 rintro e w1 ⟨g,nv,vr,va,vd,rs,ds,as_,Fs,rfl,hS⟩
 have HS:=Lib.hid hS
 have Hk1:Hid (Keeps [] w w1):=hS.kp
 clear hS
 obtain ⟨gD,HgD⟩:∃ gD,Hid (gD=w1.heap.size):=⟨_,rfl⟩
 obtain ⟨gE,HgE⟩:∃ gE,Hid (gE=w1.heap.size + 1):=⟨_,rfl⟩
 obtain ⟨w2,hw2⟩:∃ w2,w2=(w1.alloc (.cells #[.string ⟨#[97,61,49]⟩,.int .u64 5] 63)).alloc (.cells #[.int .i64 1,.int .i64 1,.int .i64 0,.int .i64 1,.int .i64 1,.slice (some ⟨w1.heap.size,0,none⟩) 1 1,.string ⟨#[]⟩,.int .i64 0,.int .i64 0] 36):=⟨_,rfl⟩
 have hk2:Keeps [] w1 w2:=by rw [hw2];exact ((Keeps.refl _ _).alloc _).alloc _
 have HBd:Hid (Blk w2 gD 63 #[.string ⟨#[97,61,49]⟩,.int .u64 5]):=by
  show Blk _ _ _ _
  rw [hw2,HgD.out]
  exact ((Keeps.refl [] _).alloc _).blk (Blk.new w1 _ _) (by simp)
 have HBe:Hid (Blk w2 gE 36 #[.int .i64 1,.int .i64 1,.int .i64 0,.int .i64 1,.int .i64 1,.slice (some ⟨gD,0,none⟩) 1 1,.string ⟨#[]⟩,.int .i64 0,.int .i64 0]):=by
  have hE:=Blk.new (w1.alloc (.cells #[.string ⟨#[97,61,49]⟩,.int .u64 5] 63)) 36 #[.int .i64 1,.int .i64 1,.int .i64 0,.int .i64 1,.int .i64 1,.slice (some ⟨w1.heap.size,0,none⟩) 1 1,.string ⟨#[]⟩,.int .i64 0,.int .i64 0]
  rw [World.size_alloc] at hE
  show Blk _ _ _ _
  rw [hw2,HgE.out,HgD.out]
  exact hE
 have HS2:=Lib.hid (HS.out.keepY hk2 (by simp))
 have Hk2:Hid (Keeps [] w w2):=Hk1.out.trans hk2 (by simp)
 go_upto_region 3 with (fail)
 rw [← hw2,← HgE.out,← HgD.out]
 clear hw2 hk2 HgD HgE HS Hk1
 have q0:=HBe.out.cell 0;have q1:=HBe.out.cell 1;have q2:=HBe.out.cell 2;have q3:=HBe.out.cell 3;have q4:=HBe.out.cell 4;have q5:=HBe.out.cell 5;have q6:=HBe.out.cell 6;have q7:=HBe.out.cell 7;have q8:=HBe.out.cell 8
 simp only [List.getElem?_toArray,List.getElem?_cons_succ,List.getElem?_cons_zero] at q0 q1 q2 q3 q4 q5 q6 q7 q8
 have HD2:Hid (w2.cell? ⟨gD,0,none⟩=some (.string ⟨#[97,61,49]⟩)∧w2.cell? ⟨gD,1,none⟩=some (.int .u64 5)):=⟨HBd.out.cell 0,HBd.out.cell 1⟩
 have HEn:Hid (∀ W,Keeps [] w2 W→Ens (W.alloc (.cells (kc gD++kc gD).toArray 36)) [] (.slice (some ⟨W.heap.size,0,none⟩) 2 2) [k23,k23]∧Keeps [] w2 (W.alloc (.cells (kc gD++kc gD).toArray 36))):=fun W hk=>⟨ens_two ⟨(hk.alloc _).c HD2.out.1,(hk.alloc _).c HD2.out.2⟩ (Blk.new _ _ _),hk.alloc _⟩
 have Hok:Hid (∀ e∈[k23,k23],EntryOk e):=fun e he=>by simp at he;subst he;exact k23_ok
 have HCn:Hid (∀ W,Keeps [] w2 W→Calls Tryz.prog 8 #[.slice (some ⟨W.heap.size,0,none⟩) 2 2] (W.alloc (.cells #[.int .i64 1,.int .i64 1,.int .i64 0,.int .i64 1,.int .i64 1,.slice (some ⟨gD,0,none⟩) 1 1,.string ⟨#[]⟩,.int .i64 0,.int .i64 0,.int .i64 1,.int .i64 1,.int .i64 0,.int .i64 1,.int .i64 1,.slice (some ⟨gD,0,none⟩) 1 1,.string ⟨#[]⟩,.int .i64 0,.int .i64 0] 36)) fun e V=>∃ gl ol c,e=.returned (.slice (some ⟨gl,ol,none⟩) 1 c)∧V.cell? ⟨gl,ol,none⟩=some (.int .i64 1)∧V.cell? ⟨gl,ol + 1,none⟩=some (.int .i64 0)∧V.cell? ⟨gl,ol + 2,none⟩=some (.int .i64 1)∧Keeps [] w2 V):=fun W hk=>by
  obtain ⟨h1,h2⟩:=HEn.out W hk
  refine (counted_any _ [k23,k23] m _ h1 Hok.out (by simp) (Hm.out _ (Hk2.out.trans h2 (by simp)))).mono ?_
  rintro e V ⟨v,rfl,hI,hkV⟩
  have hI:=hI [] (by simp)
  rw [n23_cnt] at hI
  obtain ⟨gl,ol,c,rfl,-,-,-,hB⟩:=Rd.at_ iEnc 3 (fun _=>rfl) hI (k:=0) (by simp)
  have a0:=hB 0 _ rfl;have a1:=hB 1 _ rfl;have a2:=hB 2 _ rfl
  simp only [Nat.zero_mul,Nat.add_zero] at a0 a1 a2
  exact ⟨gl,ol,c,rfl,a0,a1,a2,h2.trans hkV (by simp)⟩
 go_wp2_with fail
 refine (HCn.out w2 (Keeps.refl _ _)).mono ?_
 rintro e w4 ⟨gl,ol,c,rfl,l0,l1,l2,hk4⟩
 have HQ:=Lib.hid fun W (hk:Keeps [] w4 W)=>a2 (a6 (hk.c (hk4.c q0)) (hk.c (hk4.c q1)) (hk.c (hk4.c q2)) (hk.c (hk4.c q3)) (hk.c (hk4.c q4)) (hk.c (hk4.c q5))) (a6 (hk.c (hk4.c q6)) (hk.c (hk4.c q7)) (hk.c (hk4.c q8)) (hk.c l0) (hk.c l1) (hk.c l2))
 have HK:Hid (∀ V,Keeps [] w4 V→Keeps [] w2 V):=fun V hk=>hk4.trans hk (by simp)
 clear q0 q1 q2 q3 q4 q5 q6 q7 q8 l0 l1 l2 hk4 HBd HBe HD2
 go_upto_region 4 with (fail)
 refine wR HQ (Keeps.refl _ _) (fun hHeld=>?_)
 refine tk [0,1,2,3] ?_
 refine rd 4 (fun K hK=>?_)
 go_simp
 refine (agree_any (HS2.out.keepY (HK.out _ (Keeps.refl _ _).drew) (by simp)) m (Hm.out w (Keeps.refl _ _))).mono ?_
 rintro e w5 ⟨rfl,hk⟩
 have Hk5:Hid (Keeps [] w4 w5):=(Keeps.refl [] _).drew.trans hk (by simp)
 clear hk
 refine hK.out _ _ (HQ.out _ Hk5.out) (fun _=>?_)
 clear hK K hHeld;rename_i hHeld
 refine tk [5,6,7] ?_
 refine rd 8 (fun K hK=>?_)
 go_simp
 refine (longest_any (HS2.out.keepY (HK.out _ Hk5.out) (by simp)) m (Hm.out w (Keeps.refl _ _))).mono ?_
 rintro e w6 ⟨A6,c6,rfl,-,hk⟩
 have Hk6:Hid (Keeps [] w4 w6):=Hk5.out.trans hk (by simp)
 clear hk Hk5
 refine hK.out _ _ (HQ.out _ Hk6.out) (fun _=>?_)
 clear hK K hHeld;rename_i hHeld
 refine tk [9,10,11,12,13,14,15,16,17,18,19,20,21,22] ?_
 refine tk [23,24,25,26,27] ?_
 refine rd 28 (fun K hK=>?_)
 go_simp
 have Hk7:Hid (Keeps [] w4 (w6.alloc (.cells (kc gD++kc gD).toArray 36))):=Hk6.out.alloc _
 have HE7:=Lib.hid (HEn.out w6 (HK.out _ Hk6.out)).1
 refine hK.out _ _ (HQ.out _ Hk7.out) (fun _=>?_)
 clear hK K hHeld;rename_i hHeld
 have HSm:=Lib.hid (sum_any _ [k23,k23] ⟨#[97,61,49]⟩ 5 m _ HE7.out Hok.out (by simp) (Hm.out _ (Hk2.out.trans (HK.out _ Hk7.out) (by simp))) (fun ls h=>by rw [n23_mach] at h;rw [w23_all h];exact if_pos rfl))
 have Hk7':Hid (Keeps [] w4 (w6.alloc (.cells #[.int .i64 1,.int .i64 1,.int .i64 0,.int .i64 1,.int .i64 1,.slice (some ⟨gD,0,none⟩) 1 1,.string ⟨#[]⟩,.int .i64 0,.int .i64 0,.int .i64 1,.int .i64 1,.int .i64 0,.int .i64 1,.int .i64 1,.slice (some ⟨gD,0,none⟩) 1 1,.string ⟨#[]⟩,.int .i64 0,.int .i64 0] 36))):=Hk7.out
 have HSm':Hid (Calls Tryz.prog 25 #[.slice (some ⟨w6.heap.size,0,none⟩) 2 2,.string ⟨#[97,61,49]⟩] (w6.alloc (.cells #[.int .i64 1,.int .i64 1,.int .i64 0,.int .i64 1,.int .i64 1,.slice (some ⟨gD,0,none⟩) 1 1,.string ⟨#[]⟩,.int .i64 0,.int .i64 0,.int .i64 1,.int .i64 1,.int .i64 0,.int .i64 1,.int .i64 1,.slice (some ⟨gD,0,none⟩) 1 1,.string ⟨#[]⟩,.int .i64 0,.int .i64 0] 36)) fun e w'=>e=.returned (.int .u64 5)∧Keeps [] (w6.alloc (.cells #[.int .i64 1,.int .i64 1,.int .i64 0,.int .i64 1,.int .i64 1,.slice (some ⟨gD,0,none⟩) 1 1,.string ⟨#[]⟩,.int .i64 0,.int .i64 0,.int .i64 1,.int .i64 1,.int .i64 0,.int .i64 1,.int .i64 1,.slice (some ⟨gD,0,none⟩) 1 1,.string ⟨#[]⟩,.int .i64 0,.int .i64 0] 36)) w'):=HSm.out
 clear HSm Hk7 HE7
 try simp only [sgl,Act.put]
 refine rd 29 (fun K hK=>?_)
 go_simp
 refine HSm'.out.mono ?_
 rintro e w8 ⟨rfl,hk⟩
 have Hk8:Hid (Keeps [] w4 w8):=Hk7'.out.trans hk (by simp)
 clear hk HSm' Hk7'
 refine hK.out _ _ (HQ.out _ Hk8.out) (fun _=>?_)
 clear hK K hHeld;rename_i hHeld
 refine tk [30,31,32] ?_
 refine rd 33 (fun K hK=>?_)
 go_simp
 refine (sum_any _ [] ⟨#[97,61,49]⟩ 0 m _ (Ens.nil _ _) (by simp) (by simp) (Hm.out _ (Hk2.out.trans (HK.out _ Hk8.out) (by simp))) (fun ls h=>by rw [mc0_all h];rfl)).mono ?_
 rintro e w9 ⟨rfl,hk⟩
 have Hk9:Hid (Keeps [] w4 w9):=Hk8.out.trans hk (by simp)
 clear hk Hk8
 refine hK.out _ _ (HQ.out _ Hk9.out) (fun _=>?_)
 clear hK K hHeld;rename_i hHeld
 refine tk [34,35,36] ?_
 refine rd 37 (fun K hK=>?_)
 go_simp
 refine (counted_any _ [] m _ (Ens.nil _ _) (by simp) (by simp) (Hm.out _ (Hk2.out.trans (HK.out _ Hk9.out) (by simp)))).mono ?_
 rintro e wA ⟨v,rfl,hI,hk⟩
 have hI:=hI [] (by simp)
 rw [n23_none] at hI
 obtain ⟨Ai,ci,rfl,-⟩:=hI.len
 have HkA:Hid (Keeps [] w4 wA):=Hk9.out.trans hk (by simp)
 clear hk hI Hk9
 refine hK.out _ _ (HQ.out _ HkA.out) (fun _=>?_)
 clear hK K hHeld;rename_i hHeld
 refine tk [38,39,40,41] ?_
 refine rd 42 (fun K hK=>?_)
 go_simp
 refine (dknew_any wA).mono ?_
 rintro e wB ⟨rfl,hd,hb⟩
 have HD:=Lib.hid hd
 have HkB:Hid (Keeps [] w4 wB):=HkA.out.trans (Keeps.of_below (M:=[]) hb) (by simp)
 clear hd hb
 refine hK.out _ _ (HQ.out _ HkB.out) (fun _=>?_)
 clear hK K hHeld;rename_i hHeld
 try simp only [sgl,Act.put]
 refine rd 43 (fun K hK=>?_)
 go_simp
 refine (cuts_new _ _ _ HD.out).mono ?_
 rintro e wC ⟨rfl,hk⟩
 have HkC:Hid (Keeps [] w4 wC):=HkB.out.trans hk (by simp)
 clear hk HkB HD HkA
 refine hK.out _ _ (HQ.out _ HkC.out) (fun _=>?_)
 clear hK K hHeld;rename_i hHeld
 refine tk [44,45,46,47] ?_
 refine rd 48 (fun K hK=>?_)
 go_simp
 refine (lasting_nil wC).mono ?_
 rintro e wD ⟨rfl,hk⟩
 have HkD:Hid (Keeps [] w4 wD):=HkC.out.trans hk (by simp)
 clear hk HkC
 refine hK.out _ _ (HQ.out _ HkD.out) (fun _=>?_)
 clear hK K hHeld;rename_i hHeld
 refine tk [49,50,51] ?_
 refine rd 52 (fun K hK=>?_)
 go_simp
 refine (agree_nil wD).mono ?_
 rintro e w' ⟨rfl,rfl⟩
 refine hK.out _ _ (HQ.out _ HkD.out) (fun _=>?_)
 clear hK K hHeld;rename_i hHeld
 refine tk [53,54,55] ?_
 refine dn ?_
 have hP:Hid (Below w.heap.size w wD):=(Hk2.out.trans (HK.out _ HkD.out) (by simp)).below
 clear hHeld
 go_wp2_with fail
 go_ret
 exact ⟨rfl,hP.out⟩
theorem ens_take' {W:World} {M:List Nat} {A:Option Addr} {l:List EntryD} {c n:Nat} (h:Ens W M (.slice A l.length c) l) (hn:n≤l.length):Ens W M (.slice A n c) (l.take n):=by
 obtain ⟨ps,h1,h2,h3⟩:=h
 obtain ⟨A',c',e,hc,hl,hr⟩:=h2
 have hpl:ps.length=l.length:=by rw [← h1,List.length_map]
 rw [hpl] at e
 injection e with e1 _ e3
 subst e1 e3
 refine ⟨ps.take n,by rw [← h1,List.map_take],?_,fun p hp=>h3 p (List.mem_of_mem_take hp)⟩
 have hn':(ps.take n).length=n:=by rw [List.length_take];omega
 rw [hn']
 refine ⟨A,c,rfl,by omega,?_,fun h0=>?_⟩
 ·rw [flat_len eCell 9 (fun _=>rfl),hn']
 ·obtain ⟨g,off,e2,hg,hm,hx⟩:=hr (by omega)
  refine ⟨g,off,e2,hg,hm,fun j u hu=>hx j u ?_⟩
  have hs:ps.flatMap eCell=(ps.take n).flatMap eCell++(ps.drop n).flatMap eCell:=by rw [← List.flatMap_append,List.take_append_drop]
  rw [hs,List.getElem?_append_left (List.getElem?_eq_some_iff.1 hu).1]
  exact hu
def CoL (lb:List IdentD) (w:World) (e:Ending) (w':World):Prop:=∃ v,e=.returned v∧(∀ M,(∀ g∈M,g < w.heap.size)→Ids w' M v lb)∧Keeps [] w w'
theorem mrows_walk (A:Option Addr) (c:Nat) (t:List Int) (n:Int) (mx:Int) (w:World) (hN:Nums w A c t) (hm:w.cell? ⟨0,0,none⟩=some (.int .i64 mx)) :
  Calls Tryz.prog 3 #[.slice A t.length c,.int .i64 n] w fun e w'=>SamePost true w e w':=by
 have Hm:Hid (∀ W,Keeps [] w W→W.cell? ⟨0,0,none⟩=some (.int .i64 mx)):=fun W hk=>hk.c hm
 have HT0:=Lib.hid (tape_new hN (Below.refl w.heap.size w))
 have HK0:Hid (Keeps [] w (w.alloc (.cells #[.slice A t.length c,.int .i64 0] 26))):=(Keeps.refl _ _).alloc _
 have HL:=Lib.hid (log_any w.heap.size ⟨t,w.heap.size⟩ 0 60 _ HT0.out (by omega) (by omega))
 clear hN hm HT0
 go_enter Tryz.func3,Tryz.ntmps3
 go_wp2_with fail
 refine HL.out.mono ?_
 rintro e w2 ⟨v,l,k',rfl,hok,hl60,hE,-,hk⟩
 have hk2:Keeps [] w w2:=HK0.out.trans hk (by intro g hg;simp at hg;right;omega)
 have HE:=Lib.hid (hE [] (by simp))
 have Hk2:=Lib.hid hk2
 have Hok:=Lib.hid hok
 obtain ⟨Al,cl,rfl,hlc⟩:=HE.out.len
 clear hok hE hk hk2 HL HK0
 go_wp2_with fail
 refine (within_any n 0 (l.length:Int) w2 (by omega) (by omega) (by omega)).mono ?_
 rintro e w' ⟨rfl,rfl⟩
 obtain ⟨hb0,hb1⟩:=within_bd n 0 (l.length:Int) (by omega)
 obtain ⟨k,hk⟩:∃ k:Nat,withinS n 0 (l.length:Int)=(k:Int):=⟨(withinS n 0 (l.length:Int)).toNat,by omega⟩
 rw [hk] at hb0 hb1 ⊢
 have hkl:k≤l.length:=by omega
 clear hk hb0 hb1
 have HCn:Hid (∀ W j,j≤l.length→Keeps [] w2 W→Calls Tryz.prog 8 #[.slice Al j cl] W fun e w'=>CoL (cntM (l.take j)) W e w'):=fun W j hj hk=>by
  exact counted_any _ _ mx W (ens_take' (HE.out.keep hk (by simp)) hj) (fun e he=>Hok.out e (List.mem_of_mem_take he)) (by rw [List.length_take];omega) (Hm.out _ (Hk2.out.trans hk (by simp)))
 have HC1:=Lib.hid (fun W=>HCn.out W k hkl)
 have HC2:=Lib.hid (fun W=>HCn.out W l.length (Nat.le_refl _))
 rw [List.take_length] at HC2
 have h1:=cnt_length l
 have h2:=cnt_length (l.take k)
 have h3:(l.take k).length≤60:=by rw [List.length_take];omega
 have hal:(cntM (l.take k)).length≤60:=by omega
 have hbl:(cntM l).length≤60:=by omega
 have HSc:=Lib.hid (cnt_step l k)
 have HWh:=Lib.hid (cnt_whole l k)
 have HWr:=Lib.hid (cnt_wrote l)
 have HLs:Hid (∀ i a b,(cntM l)[i]? = some a→(cntM l)[i + 1]? = some b→iLt a b=true):=fun i a b h1 h2=>by
  obtain ⟨j1,rfl⟩:=List.getElem?_eq_some_iff.1 h1
  obtain ⟨j2,rfl⟩:=List.getElem?_eq_some_iff.1 h2
  exact cnt_less l i j2
 have HLe:=Lib.hid (fun x=>Mrw.scanA_le (cntM (l.take k)) ((cntM l).take x) 0 (Nat.zero_le _))
 generalize cntM (l.take k)=la at *
 generalize cntM l=lb at *
 clear HCn h1 h2 h3
 go_wp2_with fail
 refine (HC1.out w2 (Keeps.refl _ _)).mono ?_
 rintro e w3 ⟨va,rfl,hIa,hk3⟩
 have HIa:=Lib.hid (hIa [] (by simp))
 have HE3:=Lib.hid (HE.out.keep hk3 (by simp))
 have Hk3:=Lib.hid hk3
 clear hIa hk3 HC1 HE
 go_wp2_with fail
 refine (HC2.out w3 Hk3.out).mono ?_
 rintro e w4 ⟨vb,rfl,hIb,hk4⟩
 have HIb:=Lib.hid (hIb [] (by simp))
 have HIa4:=Lib.hid (HIa.out.keep hk4 (by simp))
 have HE4:=Lib.hid (HE3.out.keep hk4 (by simp))
 have Hk4:Hid (Keeps [] w w4):=(Hk2.out.trans Hk3.out (by simp)).trans hk4 (by simp)
 obtain ⟨Aa,ca,rfl,hca⟩:=HIa4.out.len
 obtain ⟨Ab,cb,rfl,hcb⟩:=HIb.out.len
 clear hIb hk4 HC2 HE3 HIa Hk3 Hk2
 go_wp2_with fail
 go_loopw [9,30] (fun at_ i wr=>∃ x:Nat,i=.int .i64 x∧x≤lb.length∧at_=.int .i64 (Mrw.scanA la (lb.take x) 0:Nat)∧Hid (Keeps [] w4 wr)) (fun _ i _=>lb.length - (intOf i).toNat)
 case atStart=>exact ⟨0,rfl,by omega,rfl,Keeps.refl _ _⟩
 case round=>
  obtain ⟨x,rfl,hx,rfl,Hkr⟩:=hrel
  have HIr:=Lib.hid (HIb.out.keep Hkr.out (by simp))
  by_cases hlx:x < lb.length
  ·have hx1:(x:Int) < (lb.length:Int):=by omega
   obtain ⟨gb,ob,_,e2,_,hgb,_,hB⟩:=Rd.at_ iEnc 3 (fun _=>rfl) HIr.out hlx
   obtain rfl:Ab=some ⟨gb,ob,none⟩:=by injection e2
   clear e2
   obtain ⟨d,Hd⟩:∃ d,Hid (lb[x]? = some d):=⟨_,List.getElem?_eq_getElem hlx⟩
   have hd:lb[x]=d:=Option.some.inj ((List.getElem?_eq_getElem hlx).symm.trans Hd.out)
   rw [hd] at hB
   clear hd
   obtain ⟨d1,d2,d3⟩:=d
   have b0:=hB 0 _ rfl;have b1:=hB 1 _ rfl;have b2:=hB 2 _ rfl
   rw [Nat.add_zero] at b0
   simp only [] at b0 b1 b2
   clear hB
   go_upto_region 8 with (fail)
   go_cut [47] (fun b wx=>b=.bool false∧Hid (Keeps [] wr wx))
   case first=>
    by_cases h0:0 < x
    ·have hg:decide ((0:Int) < (x:Int))=true:=decide_eq_true (by omega)
     obtain ⟨y,rfl⟩:∃ y,x=y + 1:=⟨x - 1,by omega⟩
     have hly:y < lb.length:=by omega
     obtain ⟨gb',ob',_,e2,_,_,_,hB⟩:=Rd.at_ iEnc 3 (fun _=>rfl) HIr.out hly
     injection e2 with e2 _ e3
     injection e2 with e2
     injection e2 with e4 e5 _
     subst e3 e4 e5
     have HLt:Hid (iLt lb[y] ⟨d1,d2,d3⟩=true):=HLs.out y _ _ (List.getElem?_eq_getElem hly) Hd.out
     generalize lb[y]=f at *
     obtain ⟨f1,f2,f3⟩:=f
     have a0:=hB 0 _ rfl;have a1:=hB 1 _ rfl;have a2:=hB 2 _ rfl
     rw [Nat.add_zero] at a0
     simp only [] at a0 a1 a2
     clear hB h0
     have HS:=Lib.hid fun W (hk:Keeps [] wr W)=>a6 (hk.c a0) (hk.c a1) (hk.c a2) (hk.c b0) (hk.c b1) (hk.c b2)
     refine wR HS (Keeps.refl _ _) (fun hHeld=>?_)
     have hy0:(0:Int)≤(y:Int) + 1:=by omega
     have hy1:(y:Int) + 1 < (lb.length:Int):=by omega
     have hy2:((y:Int) + 1).toNat=y + 1:=by omega
     have hwy:IntKind.i64.wrap (y:Int)=(y:Int):=IntWalk.i64_in _ (by omega)
     refine tk [0,1,2,3,4,5,6,7,8,9,10,11] ?_
     clear hwy hy0 hy1 hy2
     refine rd 12 (fun K hK=>?_)
     go_simp
     have hless:=less_any ⟨f1,f2,f3⟩ ⟨d1,d2,d3⟩ wr.drew
     simp only [iVal] at hless
     with_reducible refine hless.mono ?_
     rintro e w5 ⟨rfl,hb⟩
     rw [HLt.out]
     have Hk5:Hid (Keeps [] wr w5):=(Keeps.refl _ _).drew.trans (Keeps.of_below (M:=[]) hb) (by simp)
     clear hb
     refine hK.out _ _ (HS.out _ Hk5.out) (fun _=>?_)
     clear hK K hHeld;rename_i hHeld
     refine tk [13,14] ?_
     refine dn ?_
     clear hHeld
     go_wp2_with fail
     go_meet
     exact ⟨rfl,Hk5.out⟩
    ·have hg:decide ((0:Int) < (x:Int))=false:=decide_eq_false (by omega)
     go_quiet (fail)
     go_wp2_with fail
     go_meet
     exact ⟨rfl,(Keeps.refl _ _).drewN _⟩
   case rest=>
    obtain ⟨rfl,Hk⟩:=hcut
    obtain ⟨wA,rfl⟩:∃ wA:World,wA=wc:=⟨_,rfl⟩
    have HIc:=Lib.hid (HIr.out.keep Hk.out (by simp))
    have b0:=Hk.out.c b0;have b1:=Hk.out.c b1;have b2:=Hk.out.c b2
    have Hkc:Hid (Keeps [] w4 wA):=Hkr.out.trans Hk.out (by simp)
    have HIa:=Lib.hid (HIa4.out.keep Hkc.out (by simp))
    clear Hk HIr Hkr
    obtain ⟨at_,Hat⟩:∃ a,Hid (Mrw.scanA la (lb.take x) 0=a):=⟨_,rfl⟩
    have hat:at_≤la.length:=by rw [← Hat.out];exact HLe.out x
    rw [Hat.out]
    go_upto_region 10 with (fail)
    have HScx:Hid (Mrw.scanA la (lb.take (x + 1)) 0=if la[at_]? = some ⟨d1,d2,d3⟩ then at_ + 1 else at_):=by
     have h:=HSc.out x hlx
     rw [Hat.out] at h
     have hd:lb[x]=⟨d1,d2,d3⟩:=Option.some.inj ((List.getElem?_eq_getElem hlx).symm.trans Hd.out)
     rw [hd] at h
     exact h
    obtain ⟨bb,Hbb⟩:∃ bb:Bool,Hid (bb=decide (la[at_]? = some ⟨d1,d2,d3⟩)):=⟨_,rfl⟩
    go_cut [62] (fun b wx=>b=.bool bb∧Hid (Keeps [] wA wx))
    case first=>
     by_cases hal':at_ < la.length
     ·have hg:decide ((at_:Int) < (la.length:Int))=true:=decide_eq_true (by omega)
      obtain ⟨ga,oa,_,e2,_,_,_,hB⟩:=Rd.at_ iEnc 3 (fun _=>rfl) HIa.out hal'
      obtain rfl:Aa=some ⟨ga,oa,none⟩:=by injection e2
      clear e2
      have Hs:Hid (la[at_]? = some la[at_]):=List.getElem?_eq_getElem hal'
      generalize la[at_]=f at *
      obtain ⟨f1,f2,f3⟩:=f
      have a0:=hB 0 _ rfl;have a1:=hB 1 _ rfl;have a2:=hB 2 _ rfl
      rw [Nat.add_zero] at a0
      simp only [] at a0 a1 a2
      clear hB
      have heq : ∀ w, (binOp .eql 33 (.agg #[.int .i64 f1, .int .i64 f2, .int .i64 f3]) (.agg #[.int .i64 d1, .int .i64 d2, .int .i64 d3])).run Tryz.prog w = .ok (.bool bb) w := fun w => (eq_at.1 ⟨f1, f2, f3⟩ ⟨d1, d2, d3⟩ w).trans (by
       have h:Sets.eqI (⟨f1,f2,f3⟩:IdentD) ⟨d1,d2,d3⟩=bb:=by rw [eqI_iff,Hbb.out,Hs.out];simp
       rw [h])
      go_quiet (fail)
      go_wp2_with fail
      go_meet
      exact ⟨rfl,(Keeps.refl _ _).drewN _⟩
     ·have hg:decide ((at_:Int) < (la.length:Int))=false:=decide_eq_false (by omega)
      have Hb0:Hid (bb=false):=by show _=_;rw [Hbb.out,List.getElem?_eq_none (by omega)];simp
      go_quiet (fail)
      go_wp2_with fail
      go_meet
      exact ⟨by rw [Hb0.out],(Keeps.refl _ _).drewN _⟩
    case rest=>
     obtain ⟨rfl,Hkd⟩:=hcut
     obtain ⟨wB,rfl⟩:∃ wB:World,wB=wc:=⟨_,rfl⟩
     go_step
     go_cut [9] (fun a wx=>a=.int .i64 (Mrw.scanA la (lb.take (x + 1)) 0:Nat)∧wx=wB)
     case first=>
      cases bb with
      | true=>
       have Hsy:Hid (Mrw.scanA la (lb.take (x + 1)) 0=at_ + 1):=by show _=_;rw [HScx.out,if_pos (of_decide_eq_true Hbb.out.symm)]
       have ha1:(at_:Int)≤60:=by omega
       go_wp2_with fail
       go_meet
       exact ⟨by rw [Hsy.out];go_num,rfl⟩
      | false=>
       have Hsy:Hid (Mrw.scanA la (lb.take (x + 1)) 0=at_):=by show _=_;rw [HScx.out,if_neg (of_decide_eq_false Hbb.out.symm)]
       go_wp2_with fail
       go_meet
       exact ⟨by rw [Hsy.out],rfl⟩
     case rest=>
      obtain ⟨rfl,rfl⟩:=hcut
      go_wp2_with fail
      obtain ⟨wC,rfl⟩:∃ wC:World,wC=wc:=⟨_,rfl⟩
      have HkC:Hid (Keeps [] w4 wC):=Hkc.out.trans Hkd.out (by simp)
      have b0:=Hkd.out.c b0;have b1:=Hkd.out.c b1;have b2:=Hkd.out.c b2
      have HEc:=Lib.hid (HE4.out.keep HkC.out (by simp))
      have Hin:Hid (wrote l ⟨d1,d2,d3⟩=true):=HWr.out _ (List.mem_of_getElem? Hd.out)
      clear Hkd Hkc HIc HIa Hat hat HScx Hbb
      go_loopw [11,67] (fun in_ j wr=>∃ y:Nat,j=.int .i64 y∧y≤l.length∧in_=.bool (wrote (l.take y) ⟨d1,d2,d3⟩)∧Hid (Keeps [] wC wr)) (fun _ j _=>l.length - (intOf j).toNat)
      case atStart=>exact ⟨0,rfl,by omega,rfl,Keeps.refl _ _⟩
      case round=>
       obtain ⟨y,rfl,hy,rfl,HkD⟩:=hrel
       by_cases hly:y < l.length
       ·have hy1:(y:Int) < (l.length:Int):=by omega
        obtain ⟨ge,off,cap,dv,e1,hge,hgX,hds,hcell⟩:=ens_at (HEc.out.keep HkD.out (by simp)) hly
        obtain rfl:Al=some ⟨ge,off,none⟩:=by injection e1
        clear e1
        have Hwy:=Lib.hid (wrote_snoc l y hly ⟨d1,d2,d3⟩)
        obtain ⟨Ad,cd,rfl,_⟩:=hds.len
        generalize hee:l[y]=e at *
        have p0:=hcell 0 _ rfl;have p1:=hcell 1 _ rfl;have p2:=hcell 2 _ rfl;have p3:=hcell 3 _ rfl;have p4:=hcell 4 _ rfl;have p5:=hcell 5 _ rfl;have p6:=hcell 6 _ rfl;have p7:=hcell 7 _ rfl;have p8:=hcell 8 _ rfl
        rw [Nat.add_zero] at p0
        clear hcell hds hee
        generalize wrote (l.take y) ⟨d1,d2,d3⟩=tb at *
        obtain ⟨gE,HgE⟩:∃ gE,Hid (gE=wr.heap.size):=⟨_,rfl⟩
        have HBE:=Lib.hid (Blk.new wr 36 #[.int .i64 e.kind,.int .i64 e.ag,.int .i64 e.sh,.int .i64 e.seq,.int .i64 e.ep,.slice Ad e.ds.length cd,.string e.ser,.int .i64 e.fr,.int .i64 e.tag])
        have HkE:Hid (Keeps [] wC (wr.alloc (.cells #[.int .i64 e.kind,.int .i64 e.ag,.int .i64 e.sh,.int .i64 e.seq,.int .i64 e.ep,.slice Ad e.ds.length cd,.string e.ser,.int .i64 e.fr,.int .i64 e.tag] 36))):=HkD.out.alloc _
        go_upto_region 16 with (fail)
        clear p0 p1 p2 p3 p4 p5 p6 p7 p8
        generalize wr.alloc (.cells #[.int .i64 e.kind,.int .i64 e.ag,.int .i64 e.sh,.int .i64 e.seq,.int .i64 e.ep,.slice Ad e.ds.length cd,.string e.ser,.int .i64 e.fr,.int .i64 e.tag] 36)=wa at *
        rw [← HgE.out] at HBE ⊢
        have c0:=HBE.out.cell 0;have c1:=HBE.out.cell 1;have c2:=HBE.out.cell 2;have c3:=HBE.out.cell 3
        simp only [List.getElem?_toArray,List.getElem?_cons_succ,List.getElem?_cons_zero] at c0 c1 c2 c3
        have b0:=HkE.out.c b0;have b1:=HkE.out.c b1;have b2:=HkE.out.c b2
        clear HgE HBE
        have HFin:Hid (∀ W q,W=wa.drewN q→Keeps [] wC W):=fun W q h=>by rw [h];exact HkE.out.drewN q
        clear HkE HkD
        cases tb with
        | true=>
         have Hw:Hid (wrote (l.take (y + 1)) ⟨d1,d2,d3⟩=true):=by show _=_;rw [Hwy.out];rfl
         clear Hwy
         go_quiet (fail)
         go_wp2_with fail
         go_roundw
         case rel=>exact ⟨y + 1,by go_num,by omega,by rw [Hw.out],HFin.out _ _ rfl⟩
         case measure=>simp [intOf] <;> omega
        | false=>
         by_cases hk1:e.kind=1
         ·have hb1:(e.kind == 1)=true:=by simp [hk1]
          obtain ⟨tb,Htb⟩:∃ tb,Hid (wrote (l.take (y + 1)) ⟨d1,d2,d3⟩=tb):=⟨_,rfl⟩
          have heq:∀ w,(binOp .eql 33 (.agg #[.int .i64 e.ag,.int .i64 e.sh,.int .i64 e.seq]) (.agg #[.int .i64 d1,.int .i64 d2,.int .i64 d3])).run Tryz.prog w=.ok (.bool tb) w:=fun w=>(eq_at.1 (idE e) ⟨d1,d2,d3⟩ w).trans (by rw [eqI_iff,← Htb.out,Hwy.out,hk1];simp)
          clear Hwy hk1
          go_quiet (fail)
          go_wp2_with fail
          go_roundw
          case rel=>exact ⟨y + 1,by go_num,by omega,by rw [Htb.out],HFin.out _ _ rfl⟩
          case measure=>simp [intOf] <;> omega
         ·have hb1:(e.kind == 1)=false:=by simp [hk1]
          have Hw:Hid (wrote (l.take (y + 1)) ⟨d1,d2,d3⟩=false):=by show _=_;rw [Hwy.out];simp [hk1]
          clear Hwy hk1
          go_quiet (fail)
          go_wp2_with fail
          go_roundw
          case rel=>exact ⟨y + 1,by go_num,by omega,by rw [Hw.out],HFin.out _ _ rfl⟩
          case measure=>simp [intOf] <;> omega
       ·obtain rfl:y=l.length:=by omega
        rw [List.take_length,Hin.out]
        have HkF:Hid (Keeps [] w4 wr):=HkC.out.trans HkD.out (by simp)
        clear HkD HkC b0 b1 b2 HEc
        go_wp2_with fail
        go_roundw
        case rel=>exact ⟨x + 1,by go_num,by omega,rfl,HkF⟩
        case measure=>simp [intOf] <;> omega
  ·obtain rfl:x=lb.length:=by omega
   rw [HWh.out]
   have Hk:=Lib.hid (Hk4.out.trans Hkr.out (by simp))
   clear HIr
   go_wp2_with fail
   refine (known23_any mx wr (Hm.out _ Hk.out)).mono ?_
   rintro r w5 ⟨rfl,hb5⟩
   have hP:Hid (SamePost true w (.returned (.bool true)) w5):=⟨rfl,(Hk.out.trans (Keeps.of_below (M:=[]) hb5) (by simp)).below⟩
   clear hb5
   go_wp2
   go_ret
   exact hP.out
end Go.Proofs.YtambjickanapjaaGreatDoor.Vi
end
