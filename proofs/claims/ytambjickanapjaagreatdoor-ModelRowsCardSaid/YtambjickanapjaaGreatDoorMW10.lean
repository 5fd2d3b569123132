/- Texts put together: Msg4, Msg5, StB, Msg6, MGet, Msg7, Msg8, Msg9, MsgA, PlV, Scan, Wal1, BkB, BkC, DkO, MrwD, Snt, RpA, Vote1, Vote2, Vote3, Vote4, Vote5, LeadA, LeadB, LeadC, LeadD, LeadE, RpP, Vz, RpM, RpB, RpC. -/
import Derived.Deep.RegionHeld3
import Derived.Laws.IdiomStrings
import Derived.Deep.RegionWith
import Derived.StillTailTactics
import Derived.Sort.OwnSortedInts
import Derived.Deep.DeepCutAuto
import Derived.Test.YtambjickanapjaaGreatDoorMW1
import Derived.Test.YtambjickanapjaaGreatDoorMW4
import Derived.Test.YtambjickanapjaaGreatDoorMW5
import Derived.Test.YtambjickanapjaaGreatDoorMW6
import Derived.Test.YtambjickanapjaaGreatDoorMW7
import Derived.Test.YtambjickanapjaaGreatDoorMW8
import Derived.Test.YtambjickanapjaaGreatDoorMW9
set_option linter.unusedVariables false
set_option linter.unusedSimpArgs false
set_option maxRecDepth 100000
set_option maxHeartbeats 8000000
section
namespace Go.Proofs.YtambjickanapjaaGreatDoor.Vi
open Go.RowKit Base Mem Go.Shelf
structure MOk (m:MsgD):Prop where
 k1:1≤m.kd
 k6:m.kd≤6
 zero:zeroS m=true
 tag0:0≤m.tag
 term0:0≤m.term
 had0:0≤m.had
 com0:0≤m.commit
 len0:0≤m.len
 code0:0≤m.code
 code1:m.code≤255
 com1:m.commit≤128
 len1:m.len≤128
 logl:m.log.length≤128
 ask:m.kd=1→rightE m.en=0
 logs:m.kd≠1→∀ e∈m.log,rightE e=0

end Go.Proofs.YtambjickanapjaaGreatDoor.Vi
end
section
namespace Go.Proofs.YtambjickanapjaaGreatDoor.Vi
open Go.RowKit Base Mem
def setAll:Array Value→Nat→List Value→Array Value
 | cs,_,[]=>cs
 | cs,o,v :: r=>setAll (cs.setIfInBounds o v) (o + 1) r
theorem blk_setCells {g:Nat} {t:TypeId}:∀ (vs:List Value) (o:Nat) (w:World) (cs:Array Value),Blk w g t cs→Blk (w.setCells g o vs) g t (setAll cs o vs)
 | [],_,_,_,h=>h
 | v :: r,o,_,_,h=>blk_setCells r (o + 1) _ _ (h.set_ o v)
theorem keeps_setCells {M:List Nat} {a:World} {g:Nat} (hg:g∈M∨a.heap.size≤g):∀ (vs:List Value) (o:Nat) (w:World),Keeps M a w→Keeps M a (w.setCells g o vs)
 | [],_,_,h=>h
 | v :: r,o,_,h=>keeps_setCells hg r (o + 1) _ (h.setCell hg v)
theorem results_cell2 {P:Program} {fn:Func} {t u:Tmp} {ty:TypeId} (h:fn.results=#[.cell t ty,.tmp u]) (tmps:Array Value) (w:World) (g:Nat) (T:TypeId) (cs:Array Value) (d:TypeDesc)
  (ht:tmps.getD t undef=.pointer (some ⟨g,0,none⟩)) (hB:Blk w g T cs) (hu:P.underlying ty=some d) (hd:d.isRow=true) (hi:(P.info? ty).map (·.size)=some cs.size) :
  (results fn tmps).run P w=.ok (.tuple #[.agg cs,tmps.getD u undef]) w:=by
 have hl:=run_loadVar_mid (P:=P) w g 0 ty cs.toList d (blk_range hB) hu hd (by simpa using hi)
 have ht':tmps[t]?.getD undef=.pointer (some ⟨g,0,none⟩):=by simpa using ht
 simp [results,h,ht',asAddr,hl]
end Go.Proofs.YtambjickanapjaaGreatDoor.Vi
end
section
namespace Go.Proofs.YtambjickanapjaaGreatDoor.Vi
open Go.RowKit Base Mem Tape Go.Shelf
def zero18:Array Value:=#[.int .i64 0,.int .i64 0,.int .i64 0,.int .i64 0,.int .i64 0,.int .i64 0,.slice none 0 0,.string ⟨#[]⟩,.int .i64 0,.int .i64 0,.int .i64 0,.int .i64 0,.int .u64 0,.int .i64 0,.int .i64 0,.slice none 0 0,.int .i64 0,.int .i64 0]
structure StM (w0 w:World) (b:Nat) (L:TapeL) (k g0 g1:Nat) (c1:Array Value):Prop where
 tape:TapeAt w b L k
 keeps:Keeps [b] w0 w
 b0:Blk w g0 47 zero18
 b1:Blk w g1 47 c1
 lt0:b < g0
 lt1:g0 < g1
 old:w0.heap.size≤g0
theorem StM.keep {w0 w w':World} {b:Nat} {L:TapeL} {k k' g0 g1:Nat} {c1:Array Value} (h:StM w0 w b L k g0 g1 c1) (hT:TapeAt w' b L k') (hk:Keeps [b] w w'):StM w0 w' b L k' g0 g1 c1:=by
 have:=h.lt0;have:=h.lt1;have:=h.old
 exact ⟨hT,h.keeps.trans hk (by simp),hk.blk h.b0 (by simp;omega),hk.blk h.b1 (by simp;omega),h.lt0,h.lt1,h.old⟩
theorem StM.in1 {w0 w w':World} {b:Nat} {L:TapeL} {k g0 g1:Nat} {c1 c2:Array Value} (h:StM w0 w b L k g0 g1 c1) (hk:Keeps [g1] w w') (hB:Blk w' g1 47 c2):StM w0 w' b L k g0 g1 c2:=by
 have:=h.lt0;have:=h.lt1;have:=h.old
 exact ⟨h.tape.keep hk (by intro g hg;simp at hg;omega),h.keeps.trans hk (by intro g hg;simp at hg;right;omega),hk.blk h.b0 (by simp;omega),hB,h.lt0,h.lt1,h.old⟩
theorem StM.set {w0 w:World} {b:Nat} {L:TapeL} {k g0 g1:Nat} {c1:Array Value} (h:StM w0 w b L k g0 g1 c1) (i:Nat) (v:Value):StM w0 (w.setCell ⟨g1,i,none⟩ v) b L k g0 g1 (c1.setIfInBounds i v):=
 h.in1 ((Keeps.refl _ _).setCell (by simp) v) (h.b1.set_ i v)
/-- Behind stores into the message's own block. -/
theorem MsgAt.in1 {w w':World} {g1:Nat} {m:MsgD} {dv lv:Value} (h:∀ M,(∀ g∈M,g≤g1)→MsgAt w M m dv lv) (hk:Keeps [g1] w w'):∀ M,(∀ g∈M,g≤g1)→MsgAt w' M m dv lv:=fun M hM=>
 ((h (g1 :: M) (by intro g hg;rcases List.mem_cons.1 hg with rfl | hg;omega;exact hM g hg)).keep hk (by simp)).avoid (fun g hg=>.inl (List.mem_cons_of_mem _ hg))
end Go.Proofs.YtambjickanapjaaGreatDoor.Vi
end
section
namespace Go.Proofs.YtambjickanapjaaGreatDoor.Vi
open Go.RowKit Base Mem Go.Shelf
def preE (acc:List EntryD):Option (List EntryD)×List UInt8×Bool→Option (List EntryD)×List UInt8×Bool
 | (none,s)=>(none,s)
 | (some es,s)=>(some (acc++es),s)
/-- So many entries from the front; none: one of them is none. -/
def getEs:Nat→List UInt8→Bool→Option (List EntryD)×List UInt8×Bool
 | 0,l,b=>(some [],l,b)
 | k + 1,l,b=>if (textS l b).2.2=true∨(readE (textS l b).1).2≠0 then (none,(textS l b).2) else preE [(readE (textS l b).1).1] (getEs k (textS l b).2.1 (textS l b).2.2)
def mgetS (l:List UInt8) (b:Bool):Option (List EntryD)×List UInt8×Bool:=getEs (countS l b 128).1 (countS l b 128).2.1 (countS l b 128).2.2
def MGetPost (M:List Nat) (p:Nat) (R:Option (List EntryD)×List UInt8×Bool) (w:World) (e:Ending) (w':World):Prop:=match R with
 | (none,_)=>e=.returned (.tuple #[.slice none 0 0,.bool false])∧Keeps [p] w w'
 | (some es,l',b')=>∃ v,e=.returned (.tuple #[v,.bool (!b')])∧(∀ M',(∀ g∈M',g < w.heap.size)→Ens w' M' v es)∧RdAt w' M p l' b'∧Keeps [p] w w'
theorem preE_nil (R:Option (List EntryD)×List UInt8×Bool):preE [] R=R:=by
 obtain ⟨_ | es,s⟩:=R <;> rfl
theorem preE_pre (a b:List EntryD) (R:Option (List EntryD)×List UInt8×Bool):preE a (preE b R)=preE (a++b) R:=by
 obtain ⟨_ | es,s⟩:=R
 ·rfl
 ·simp [preE]
theorem infoEntry2:(Tryz.prog.info? 36).map (fun i=>(i.zero,i.size,i.bytes))=some (some (.agg #[.int .i64 0,.int .i64 0,.int .i64 0,.int .i64 0,.int .i64 0,.slice none 0 0,.string ByteArray.empty,.int .i64 0,.int .i64 0]),9,96):=by kernel_rfl
/-- A text turned to bytes. -/
theorem bytes_of (w:World) (s:List UInt8):∃ c W,(convert 9 50 (.string ⟨s.toArray⟩)).run Tryz.prog w=.ok (.slice (some ⟨w.heap.size,0,none⟩) s.length c) W∧Keeps [] w W∧w.heap.size < W.heap.size∧∀ M,(∀ g∈M,g < w.heap.size)→Bs W M (.slice (some ⟨w.heap.size,0,none⟩) s.length c) s:=by
 have hge:=grownCap_ge w s.length 0 5
 have hw2:Keeps [] w (w.drew.alloc (.cells (bytesRow ⟨s.toArray⟩ (grownCap w s.length 0 5)) 5 ((bytesRow ⟨s.toArray⟩ (grownCap w s.length 0 5)).size,(bytesRow ⟨s.toArray⟩ (grownCap w s.length 0 5)).size + 1))):=(Keeps.refl [] w).drew.alloc _
 refine ⟨_,_,run_bytes_of_string w _ _ 5 ⟨s.toArray⟩ Tryz.underlying9 Tryz.underlying50 Tryz.underlying5,hw2,by show w.heap.size < (w.drew.alloc _).heap.size;simp,fun M hM=>⟨_,_,rfl,hge,by simp,fun h0=>⟨w.heap.size,0,rfl,by show w.heap.size < (w.drew.alloc _).heap.size;simp,fun hm=>by have:=hM _ hm;omega,fun j u hu=>?_⟩⟩⟩
 rw [cell_of_row _ w.heap.size (0 + j) _ _ _ (heap_alloc_new w.drew _),Nat.zero_add]
 unfold bytesRow
 have hj:j < s.length:=by have:=(List.getElem?_eq_some_iff.1 hu).1;simpa using this
 rw [List.getElem?_map] at hu
 rw [Array.getElem?_append_left (by simpa using hj),Array.getElem?_map,List.getElem?_toArray]
 exact hu
theorem mget_any (M:List Nat) (p:Nat) (l:List UInt8) (b:Bool) (m:Int) (w:World) (h:RdAt w M p l b) (hl:l.length < 4294967281) (hm:w.cell? ⟨0,0,none⟩=some (.int .i64 m)) (hp0:p≠0) :
  Calls Tryz.prog 210 #[.pointer (some ⟨p,0,none⟩)] w fun e w'=>MGetPost M p (mgetS l b) w e w':=by
 have hw0:0 < w.heap.size:=by
  have:=World.block_lt_of_cell? w _ hm
  simpa using this
 have hkeepm:Hid (∀ W,Keeps [p] w W→W.cell? ⟨0,0,none⟩=some (.int .i64 m)):=fun W hb=>(hb.cell (p:=⟨0,0,none⟩) hw0 (by simp;omega)).trans hm
 have hpw:=h.lt
 have hct:=Lib.hid (count_any M p l b 128 (by omega) w h)
 have HS:Hid (mgetS l b=getEs (countS l b 128).1 (countS l b 128).2.1 (countS l b 128).2.2):=rfl
 have hcl:=countS_len l b 128
 have hcm:=countS_most l b 128
 obtain ⟨i0,hi0,hz0,hz1,hz2⟩:=info_parts infoEntry2
 have Hi0:=Lib.hid hi0;have Hz0:=Lib.hid hz0;have Hz1:=Lib.hid hz1;have Hz2:=Lib.hid hz2
 clear h hm hi0 hz0 hz1 hz2
 generalize mgetS l b=R at *
 generalize countS l b 128=c at *
 obtain ⟨n,c2,c3⟩:=c
 simp only [] at hct HS hcl hcm
 go_enter Tryz.func210,Tryz.ntmps210
 go_wp2_with fail
 refine hct.out.mono ?_
 rintro e w1 ⟨rfl,hA1,hk1⟩
 have HA1:=Lib.hid hA1;have Hk1:=Lib.hid hk1
 clear hA1 hk1 hct
 go_wp2_with fail
 go_loopw [4,9] (fun out i wr=>∃ (x:Nat) (qs:List (EntryD×Value)) (lx:List UInt8) (bx:Bool),i=.int .i64 x∧x≤n∧qs.length=x∧lx.length≤l.length∧Hid (R=preE (qs.map (·.1)) (getEs (n - x) lx bx))∧Hid (wr.ownsRow w.heap.size 36 9 out qs.length (qs.flatMap eCell))∧Hid (DsOwn w wr out qs)∧Hid (RdAt wr (out.ownBlock.toList++M) p lx bx)∧Hid (Keeps [p] w wr)) (fun _ i _=>n - (intOf i).toNat)
 case atStart=>exact ⟨0,[],c2,c3,rfl,by omega,rfl,hcl,(show R=preE [] _ by rw [preE_nil];exact HS.out),World.ownsRow_nil _ _ _ _,(show DsOwn _ _ _ _ from by intro q hq;cases hq),HA1.out,Hk1.out⟩
 case round=>
  obtain ⟨x,qs,lx,bx,rfl,hx,hql,hlx,HR,Hown,Hds,HA,Hk⟩:=hrel
  by_cases hlt:x < n
  ·have hx1:(x:Int) < (n:Int):=by omega
   have HST:Hid (R=preE (qs.map (·.1)) (if (textS lx bx).2.2=true∨(readE (textS lx bx).1).2≠0 then (none,(textS lx bx).2) else preE [(readE (textS lx bx).1).1] (getEs (n - (x + 1)) (textS lx bx).2.1 (textS lx bx).2.2))):=by
    show _=_
    rw [HR.out,show n - x=(n - (x + 1)) + 1 by omega];rfl
   have htl:=textS_len lx bx
   have htx:=Lib.hid (rtext_any (u4.ownBlock.toList++M) p lx bx wr HA.out)
   generalize textS lx bx=t at *
   obtain ⟨t1,t2,t3⟩:=t
   simp only [] at HST htl htx
   go_wp2_with fail
   refine htx.out.mono ?_
   rintro e w3 ⟨rfl,hA3,hk3⟩
   obtain ⟨cc,w4,cv,hk4,hsz4,hB4⟩:=bytes_of w3 t1
   have hK4:Keeps [p] w w4:=(Hk.out.trans hk3 (by simp)).trans hk4 (by simp)
   have HA4:=Lib.hid (hA3.keep hk4 (by simp) (by simp))
   have Hk34:=Lib.hid (hk3.trans hk4 (by simp))
   have hrd:=Lib.hid (eread_any _ t1 m w4 (hB4 [] (by simp)) (by omega) (hkeepm.out _ hK4))
   have HK4:=Lib.hid hK4
   have hsh:=readH_short t1 (by omega)
   clear hA3 hk3 hk4 hB4 htx hK4 hsz4
   generalize readE t1=r at *
   obtain ⟨re,rn⟩:=r
   simp only [] at HST hrd
   go_wp2_with fail
   refine hrd.out.mono ?_
   rintro e w5 ⟨dv,rfl,hD5,hb5⟩
   obtain ⟨Ad,cd,rfl,_⟩:=(hD5 [] (by simp)).len
   have HA5:=Lib.hid (HA4.out.keep (Keeps.of_below (M:=[]) hb5) (by simp) (by simp))
   have HK5:=Lib.hid (HK4.out.trans (Keeps.of_below (M:=[]) hb5) (by simp))
   have Hk35:=Lib.hid (Hk34.out.trans (Keeps.of_below (M:=[]) hb5) (by simp))
   have HD5:=Lib.hid (fun M hM=>hD5 M (fun g hg=>Nat.lt_of_lt_of_le (hM g hg) Hk34.out.size):∀ M,(∀ g∈M,g < wr.heap.size)→Ds w5 M (.slice Ad re.ds.length cd) re.ds)
   clear hD5 hb5 hrd cv hsh
   have Hsh:=Lib.hid (⟨hql,hlx⟩:_∧_)
   obtain ⟨w6,hw6⟩:∃ w6,w6=w5.alloc (.cells (eCell (re,.slice Ad re.ds.length cd)).toArray 36):=⟨_,rfl⟩
   have hk6:Keeps [] w5 w6:=by rw [hw6];exact (Keeps.refl _ _).alloc _
   have hB6:Blk w6 w5.heap.size 36 (eCell (re,.slice Ad re.ds.length cd)).toArray:=by rw [hw6];exact Blk.new w5 _ _
   have HA6:=Lib.hid (HA5.out.keep hk6 (by simp) (by simp));have HK6:=Lib.hid (HK5.out.trans hk6 (by simp));have Hk36:=Lib.hid (Hk35.out.trans hk6 (by simp))
   have HD6:Hid (∀ M,(∀ g∈M,g < wr.heap.size)→Ds w6 M (.slice Ad re.ds.length cd) re.ds):=fun M hM=>(HD5.out M hM).keep hk6 (by simp)
   have hbad:=Lib.hid (bad_any (u4.ownBlock.toList++M) p t2 t3 w6 HA6.out)
   have Hw6:=Lib.hid hw6;have HB6:=Lib.hid hB6
   clear hk6 hw6 hB6 HA5 HK5 Hk35 HD5 HA4 HK4 Hk34
   obtain ⟨kind,ag,sh,seq,ep,ds,ser,fr,tag⟩:=re
   simp only [eCell] at Hw6 HB6 HD6 ⊢
   go_wp2_with fail
   rw [← Hw6.out]
   obtain ⟨q0,q1,q2,q3,q4,q5,q6,q7,q8,qf⟩:=blk9 HB6.out
   refine hbad.out.mono ?_
   rintro e w' ⟨rfl,rfl⟩
   clear hbad Hw6
   cases t3 with
   | true=>
    have hp:Hid (MGetPost M p R w (.returned (.tuple #[.slice none 0 0,.bool false])) w6):=by
     show MGetPost _ _ _ _ _ _
     rw [HST.out,if_pos (.inl rfl)]
     exact ⟨rfl,HK6.out⟩
    go_wp2
    go_ret2
    exact hp.out
   | false=>
    by_cases hrn:rn=0
    ·have HST2:Hid (R=preE (qs.map (·.1)++[⟨kind,ag,sh,seq,ep,ds,ser,fr,tag⟩]) (getEs (n - (x + 1)) t2 false)):=by
      show _=_
      rw [HST.out,if_neg (by simp [hrn]),preE_pre]
     have hnn:((rn:Int) != 0)=false:=by simp [hrn]
     have hlt0:=Lib.hid Hown.out.lt
     have Hown6:=Lib.hid ((own_keep (Hown.out) Hk36.out (by simp;exact hpw)).alloc (.cells #[.int .i64 kind,.int .i64 ag,.int .i64 sh,.int .i64 seq,.int .i64 ep,.slice Ad ds.length cd,.string ser,.int .i64 fr,.int .i64 tag] 36))
     have hz6:w.heap.size≤w6.heap.size:=HK6.out.size
     have hm1:qs.length + 1≤maxLen:=by unfold maxLen;omega
     have hm2:(qs.length + 1) * 96≤140737488355328:=by omega
     have hb0:w.heap.size≤(w6.alloc (.cells #[.int .i64 kind,.int .i64 ag,.int .i64 sh,.int .i64 seq,.int .i64 ep,.slice Ad ds.length cd,.string ser,.int .i64 fr,.int .i64 tag] 36)).heap.size:=by simp;omega
     have Hm1:=Lib.hid hm1;have Hm2:=Lib.hid hm2;have Hb0:=Lib.hid hb0
     clear hm1 hm2 hb0 HST hrn
     go_wp2_with (at_builtin;go_must (refine wpList_append_any _ rfl (.tmp 24) (.tmp 26) _ rfl w.heap.size 36 i0 _ 9 96 Tryz.underlying23 Hi0.out Hz0.out Hz1.out Hz2.out rfl (by omega) u4 qs.length (qs.flatMap eCell) rfl Hown6.out (w6.heap.size + 1) (some ⟨w6.heap.size,0,none⟩) 1 1 [.int .i64 kind,.int .i64 ag,.int .i64 sh,.int .i64 seq,.int .i64 ep,.slice Ad ds.length cd,.string ser,.int .i64 fr,.int .i64 tag] rfl (reads_new _ _ _ _ _ rfl) (by intro u hu;simp at hu;rcases hu with rfl | rfl | rfl | rfl | rfl | rfl | rfl | rfl | rfl <;> rfl) Hm1.out Hm2.out Hb0.out ?_))
     intro v8 w8 hown8 hg8 hat8
     have hpo:p∉u4.ownBlock.toList:=fun hm=>by have:=(hlt0.out p (by simpa using hm)).1;omega
     have kg:Keeps u4.ownBlock.toList (w6.alloc (.cells #[.int .i64 kind,.int .i64 ag,.int .i64 sh,.int .i64 seq,.int .i64 ep,.slice Ad ds.length cd,.string ser,.int .i64 fr,.int .i64 tag] 36)) w8:=(Keeps.refl _ _).grown hg8 (fun g hg=>.inl (by simpa using hg))
     have h1:=HA6.out.keep (M':=[]) ((Keeps.refl _ _).alloc (.cells #[.int .i64 kind,.int .i64 ag,.int .i64 sh,.int .i64 seq,.int .i64 ep,.slice Ad ds.length cd,.string ser,.int .i64 fr,.int .i64 tag] 36)) (by simp) (by simp)
     have h2 := h1.avoid (M' := v8.ownBlock.toList ++ (u4.ownBlock.toList ++ M)) (fun g hg => by
      rcases List.mem_append.1 hg with h | h
      ·rcases hat8 with h5 | h5
       ·exact .inl (List.mem_append_left _ (by rw [h5] at h;exact h))
       ·rw [h5] at h;simp at h;exact .inr (by simp;omega)
      ·exact .inl h)
     have H8 := Lib.hid ((h2.keep kg (fun g hg => .inl (List.mem_append_right _ (List.mem_append_left _ hg))) hpo).avoid (M' := v8.ownBlock.toList ++ M) (fun g hg => by
      rcases List.mem_append.1 hg with h | h
      ·exact .inl (List.mem_append_left _ h)
      ·exact .inl (List.mem_append_right _ (List.mem_append_right _ h))))
     have Hk8:Hid (Keeps [p] w w8):=(HK6.out.alloc _).grown hg8 (fun g hg=>.inr (hlt0.out g hg).1)
     have Hds8:Hid (DsOwn w w8 v8 (qs++[(⟨kind,ag,sh,seq,ep,ds,ser,fr,tag⟩,.slice Ad ds.length cd)])):=
      dsOwn_stepK Hds.out Hk36.out (by simp;exact hpw) (fun g hg=>(hlt0.out g hg).2) Hk.out.size HD6.out hg8 (by simpa using hat8)
     have Hown8:Hid (w8.ownsRow w.heap.size 36 9 v8 (qs++[((⟨kind,ag,sh,seq,ep,ds,ser,fr,tag⟩:EntryD),Value.slice Ad ds.length cd)]).length ((qs++[((⟨kind,ag,sh,seq,ep,ds,ser,fr,tag⟩:EntryD),Value.slice Ad ds.length cd)]).flatMap eCell)):=by
      show World.ownsRow _ _ _ _ _ _ _
      rw [List.length_append,List.flatMap_append]
      simpa [eCell,hql] using hown8
     have HR8:Hid (R=preE ((qs++[((⟨kind,ag,sh,seq,ep,ds,ser,fr,tag⟩:EntryD),Value.slice Ad ds.length cd)]).map (·.1)) (getEs (n - (x + 1)) t2 false)):=by
      show _=_
      rw [List.map_append]
      exact HST2.out
     clear hown8 hg8 hat8 kg h1 h2 hpo
     go_wp2
     go_roundw
     case rel=>exact ⟨x + 1,_,t2,false,by go_num,by omega,by simp;omega,by omega,HR8,Hown8,Hds8,H8,Hk8⟩
     case measure=>simp [intOf] <;> omega
    ·have hp:Hid (MGetPost M p R w (.returned (.tuple #[.slice none 0 0,.bool false])) w6):=by
      show MGetPost _ _ _ _ _ _
      rw [HST.out,if_pos (.inr hrn)]
      exact ⟨rfl,HK6.out⟩
     have hnn:((rn:Int) != 0)=true:=by simpa using hrn
     clear HST hrn
     go_wp2
     go_ret2
     exact hp.out
  ·obtain rfl:x=n:=by omega
   have HRx:Hid (R=(some (qs.map (·.1)),lx,bx)):=by
    show _=_
    rw [HR.out,Nat.sub_self]
    simp [getEs,preE]
   have hbad:=Lib.hid (bad_any (u4.ownBlock.toList++M) p lx bx wr HA.out)
   have hp:Hid (MGetPost M p R w (.returned (.tuple #[u4,.bool (!bx)])) wr):=by
    show MGetPost _ _ _ _ _ _
    rw [HRx.out]
    exact ⟨u4,rfl,fun M' hM=>⟨qs,rfl,Rd.of_own Hown.out hM,fun q hq=>Hds.out q hq M' (fun g hg=>.inl (hM g hg))⟩,HA.out.avoid (fun g hg=>.inl (List.mem_append_right _ hg)),Hk.out⟩
   go_wp2_with fail
   refine hbad.out.mono ?_
   rintro e w' ⟨rfl,rfl⟩
   go_wp2
   go_ret2
   exact hp.out
def zeroR:Array Value:=#[.int .i64 0,.int .i64 0,.int .i64 0,.int .i64 0,.int .i64 0,.int .i64 0,.slice none 0 0,.string ⟨#[]⟩,.int .i64 0,.int .i64 0,.int .i64 0,.int .i64 0,.int .u64 0,.int .i64 0,.int .i64 0,.slice none 0 0,.int .i64 0,.int .i64 0]
structure RmAt (w0 w:World) (p g0 g6:Nat) (c:Array Value):Prop where
 keeps:Keeps [p] w0 w
 b0:Blk w g0 47 zeroR
 b6:Blk w g6 47 c
 o0:w0.heap.size≤g0
 o1:g0 < g6
 op:p < g0
theorem RmAt.step {w0 w w':World} {p g0 g6:Nat} {c:Array Value} (h:RmAt w0 w p g0 g6 c) (hk:Keeps [p] w w'):RmAt w0 w' p g0 g6 c:=by
 have:=h.o0;have:=h.o1;have:=h.op
 exact ⟨h.keeps.trans hk (by simp),hk.blk h.b0 (by simp;omega),hk.blk h.b6 (by simp;omega),h.o0,h.o1,h.op⟩
theorem RmAt.in6 {w0 w w':World} {p g0 g6:Nat} {c c':Array Value} (h:RmAt w0 w p g0 g6 c) (hk:Keeps [g6] w w') (hB:Blk w' g6 47 c'):RmAt w0 w' p g0 g6 c':=by
 have:=h.o0;have:=h.o1;have:=h.op
 exact ⟨h.keeps.trans hk (by intro g hg;simp at hg;right;omega),hk.blk h.b0 (by simp;omega),hB,h.o0,h.o1,h.op⟩
theorem RmAt.set {w0 w:World} {p g0 g6:Nat} {c:Array Value} (h:RmAt w0 w p g0 g6 c) (i:Nat) (v:Value):RmAt w0 (w.setCell ⟨g6,i,none⟩ v) p g0 g6 (c.setIfInBounds i v):=
 h.in6 ((Keeps.refl _ _).setCell (by simp) v) (h.b6.set_ i v)

end Go.Proofs.YtambjickanapjaaGreatDoor.Vi
end
section
namespace Go.Proofs.YtambjickanapjaaGreatDoor.Vi
open Go.RowKit Base Mem Tape Go.Shelf


theorem readF_bd {l x:List UInt8} {n:Nat} (h:readF l=some (x,n)):5≤n∧n≤l.length∧x.length≤65536∧x.length≤n:=by
 unfold readF at h
 have h0:=(getL_le l).1
 split at h
 ·cases h
 ·rename_i hc
  split at h
  ·injection h with h
   injection h with h1 h2
   subst h1 h2
   rw [List.length_take,List.length_drop]
   omega
  ·cases h
theorem scanF_step {f:Nat} {l:List UInt8} (h:l.length≤f):scanF f l=match readF l with
  | none=>([],0)
  | some (x,n)=>(x :: (scanF (f - 1) (l.drop n)).1,n + (scanF (f - 1) (l.drop n)).2):=by
 cases f with
 | zero=>
  cases hr:readF l with
  | none=>rfl
  | some p=>
   obtain ⟨x,n⟩:=p
   have:=readF_bd hr
   omega
 | succ f=>rfl
/-- All frames from the front on, and their bytes. -/
def scanS (l:List UInt8):List (List UInt8)×Nat:=scanF l.length l
theorem scanF_bd:∀ (f:Nat) (l:List UInt8),(scanF f l).2≤l.length∧(∀ x∈(scanF f l).1,x.length≤65536)∧(scanF f l).1.length * 5≤l.length
 | 0,l=>by simp [scanF]
 | f + 1,l=>by
  rw [scanF]
  cases hr:readF l with
  | none=>simp
  | some p=>
   obtain ⟨x,n⟩:=p
   obtain ⟨h1,h2,h3,h4⟩:=readF_bd hr
   obtain ⟨a,b,c⟩:=scanF_bd f (l.drop n)
   rw [List.length_drop] at a c
   refine ⟨by simp only [];omega,fun y hy=>?_,by simp only [List.length_cons];omega⟩
   rcases List.mem_cons.1 hy with rfl | hy
   ·exact h3
   ·exact b y hy
theorem scanS_bd (l:List UInt8):(scanS l).2≤l.length∧(∀ x∈(scanS l).1,x.length≤65536)∧(scanS l).1.length * 5≤l.length:=scanF_bd _ _
/-- A replica's word. -/
structure WordD where
 t:Nat
 h:Nat
 log:List EntryD
/-- It may be written. -/
def WOk (x:WordD):Prop:=x.t≤9223372036854775807∧x.h≤9223372036854775807∧x.log.length≤128∧∀ e∈x.log,EOk e
def recL (x:WordD):List UInt8:=([]++Lib.uvarint x.t)++Lib.uvarint x.h++putLog x.log
/-- The word that a record is, if it is one. -/
def readV (b:List UInt8):Option WordD:=
 match mgetS (intS (intS b false).2.1 (intS b false).2.2).2.1 (intS (intS b false).2.1 (intS b false).2.2).2.2 with
 | (none,_)=>none
 | (some es,l,bad)=>if bad=false∧l.isEmpty=true then some ⟨(intS b false).1,(intS (intS b false).2.1 (intS b false).2.2).1,es⟩ else none
theorem getEs_ok:∀ (n:Nat) (l:List UInt8) (b:Bool) (es:List EntryD) (r:List UInt8×Bool),l.length < 4294967281→getEs n l b=(some es,r)→es.length=n∧∀ e∈es,EOk e
 | 0,l,b,es,r,_,h=>by
  simp only [getEs] at h
  injection h with h _
  injection h with h
  subst h
  simp
 | n + 1,l,b,es,r,hl,h=>by
  rw [getEs] at h
  split at h
  ·injection h with h _;cases h
  ·rename_i hc
   have ht:=textS_len l b
   have ih:=getEs_ok n (textS l b).2.1 (textS l b).2.2
   have hs:=readH_short (textS l b).1 (by omega)
   generalize textS l b=t at *
   obtain ⟨t1,t2,t3⟩:=t
   simp only [] at *
   rcases hg:getEs n t2 t3 with ⟨_ | es',r'⟩
   ·rw [hg] at h;simp [preE] at h
   ·rw [hg] at h
    simp only [preE] at h
    injection h with h1 h2
    injection h1 with h1
    obtain ⟨i1,i2⟩:=ih es' r' (by omega) hg
    subst h1
    refine ⟨by simp;omega,fun e he=>?_⟩
    rcases List.mem_append.1 he with he | he
    ·simp at he
     subst he
     have h0:(readE t1).2=0:=by
      rcases Nat.eq_zero_or_pos (readE t1).2 with h | h
      ·exact h
      ·exact absurd (.inr (by omega)) hc
     unfold readE at h0 ⊢
     split at h0
     ·rename_i hcc
      rw [if_pos hcc]
      exact ⟨hcc.2,hs.1,hs.2.2⟩
     ·cases h0
    ·exact i2 e he
theorem readV_ok {b:List UInt8} {x:WordD} (hl:b.length < 4294967281) (h:readV b=some x):WOk x:=by
 unfold readV at h
 have h1:=intS_lt b false
 have l1:=intS_len b false
 generalize intS b false=p at *
 obtain ⟨p1,p2,p3⟩:=p
 simp only [] at *
 have h2:=intS_lt p2 p3
 have l2:=intS_len p2 p3
 generalize intS p2 p3=q at *
 obtain ⟨q1,q2,q3⟩:=q
 simp only [] at *
 rcases hg:mgetS q2 q3 with ⟨_ | es,l,bad⟩
 ·rw [hg] at h;cases h
 ·rw [hg] at h
  simp only [] at h
  split at h
  ·injection h with h
   subst h
   unfold mgetS at hg
   have hm:=countS_most q2 q3 128
   have lc:=countS_len q2 q3 128
   obtain ⟨a,b⟩:=getEs_ok _ _ _ _ _ (by omega) hg
   exact ⟨h1,h2,by simp only [];omega,b⟩
  ·cases h
/-- The last word of some records. -/
def lastV (x:WordD) (rs:List (List UInt8)):WordD:=rs.foldl (fun x b=>(readV b).getD x) x
def word0:WordD:=⟨0,0,[]⟩
theorem word0_ok:WOk word0:=⟨by simp [word0],by simp [word0],by simp [word0],by simp [word0]⟩
end Go.Proofs.YtambjickanapjaaGreatDoor.Vi
end
section
namespace Go.Proofs.YtambjickanapjaaGreatDoor.Vi
open Go.RowKit Base Mem
theorem rdOwn_one {w w1 w2:World} {out v' dv:Value} {o:Obj} {size n:Nat} {xs:List Value}
  (h:∀ M',(∀ g∈M',g < w.heap.size∨out.ownBlock=some g)→Rd w1 M' size dv n xs)
  (hg:(w1.alloc o).grownBy w2 out.ownBlock) (hat:v'.ownBlock=out.ownBlock∨v'.ownBlock=some (w1.heap.size + 1)) (M':List Nat) (hM:∀ g∈M',g < w.heap.size∨v'.ownBlock=some g):Rd w2 M' size dv n xs:=by
 have h1 := h (out.ownBlock.toList ++ M'.filter (fun g => decide (g < w.heap.size))) (by
  intro g hg
  rcases List.mem_append.1 hg with h1 | h1
  ·right;simpa using h1
  ·left; simpa using (List.mem_filter.1 h1).2)
 have h2:Rd (w1.alloc o) (out.ownBlock.toList++M'.filter (fun g=>decide (g < w.heap.size))) size dv n xs:=h1.keep (M':=[]) ((Keeps.refl _ _).alloc o) (by simp)
 have h3 : Rd (w1.alloc o) (out.ownBlock.toList ++ M') size dv n xs := h2.avoid (by
  intro g hg
  rcases List.mem_append.1 hg with h1 | h1
  ·exact .inl (List.mem_append_left _ h1)
  ·rcases hM g h1 with h4 | h4
   ·exact .inl (List.mem_append_right _ (List.mem_filter.2 ⟨h1,by simpa using h4⟩))
   ·rcases hat with h5 | h5
    ·exact .inl (List.mem_append_left _ (by rw [h5] at h4;simpa using h4))
    ·rw [h5] at h4; injection h4 with h4; right; simp; omega)
 have h4:Keeps out.ownBlock.toList (w1.alloc o) w2:=(Keeps.refl _ _).grown hg (fun g hg=>.inl (by simpa using hg))
 exact (h3.keep h4 (fun g hg=>.inl (List.mem_append_left _ hg))).avoid (fun g hg=>.inl (List.mem_append_right _ hg))
/-- The rows that a row of the call's own holds lie in blocks that are neither old nor the row's. -/
def BsOwn (w wr:World) (out:Value) (qs:List (List UInt8×Value)):Prop:=∀ q∈qs,∀ M',(∀ g∈M',g < w.heap.size∨out.ownBlock=some g)→Bs wr M' q.2 q.1
theorem bsOwn_step {w wr w1 w2:World} {out v' dv':Value} {o:Obj} {qs:List (List UInt8×Value)} {e:List UInt8} (hds:BsOwn w wr out qs) (hb1:Below wr.heap.size wr w1) (hlt:∀ g,out.ownBlock=some g→g < wr.heap.size) (hw:w.heap.size≤wr.heap.size)
  (hnew:∀ M',(∀ g∈M',g < wr.heap.size)→Bs w1 M' dv' e)
  (hg:(w1.alloc o).grownBy w2 out.ownBlock) (hat:v'.ownBlock=out.ownBlock∨v'.ownBlock=some (w1.heap.size + 1)):BsOwn w w2 v' (qs++[(e,dv')]):=by
 intro q hq M' hM
 rcases List.mem_append.1 hq with h1 | h1
 ·exact rdOwn_one (fun M'' hM''=>Rd.keep (M':=[]) (hds q h1 M'' hM'') (Keeps.of_below hb1) (by simp)) hg hat M' hM
 ·simp at h1
  subst h1
  exact rdOwn_one (fun M'' hM''=>hnew M'' (fun g hg=>by rcases hM'' g hg with h | h;omega;exact hlt g h)) hg hat M' hM
/-- v reads as these rows of bytes. -/
def Bss (w:World) (M:List Nat) (v:Value) (rs:List (List UInt8)):Prop:=
 ∃ qs:List (List UInt8×Value),qs.map (·.1)=rs∧Rd w M 1 v qs.length (qs.map (·.2))∧∀ q∈qs,Bs w M q.2 q.1
theorem Bss.keep {w w':World} {M M':List Nat} {v:Value} {rs:List (List UInt8)} (h:Bss w M v rs) (k:Keeps M' w w') (hM:∀ g∈M',g∈M∨w.heap.size≤g):Bss w' M v rs:=by
 obtain ⟨ps,hl,hr,hd⟩:=h
 exact ⟨ps,hl,hr.keep k hM,fun p hp=>(hd p hp).keep k hM⟩
theorem Bss.len {w:World} {M:List Nat} {v:Value} {rs:List (List UInt8)} (h:Bss w M v rs):∃ A c,v=.slice A rs.length c∧rs.length≤c:=by
 obtain ⟨ps,rfl,⟨A,c,rfl,hc,_⟩,_⟩:=h
 exact ⟨A,c,by simp,by simpa using hc⟩
theorem Bss.at_ {w:World} {M:List Nat} {v:Value} {rs:List (List UInt8)} (h:Bss w M v rs) {k:Nat} (hk:k < rs.length) :
  ∃ g off cap bv,v=.slice (some ⟨g,off,none⟩) rs.length cap∧g < w.heap.size∧g∉M∧w.cell? ⟨g,off + k,none⟩=some bv∧Bs w M bv rs[k]:=by
 obtain ⟨ps,rfl,⟨A,c,rfl,hc,_,hr⟩,hd⟩:=h
 have hk':k < ps.length:=by simpa using hk
 obtain ⟨g,off,rfl,hg,hm,hx⟩:=hr (by omega)
 exact ⟨g,off,c,ps[k].2,by simp,hg,hm,hx k _ (by rw [List.getElem?_map,List.getElem?_eq_getElem hk'];rfl),by simpa using hd ps[k] (List.getElem_mem _)⟩
theorem Bs.tail {w:World} {M:List Nat} {A:Option Addr} {c:Nat} {l:List UInt8} (h:Bs w M (.slice A l.length c) l) (a:Nat) (ha:a≤l.length):Bs w M (.slice (if c=a then A else A.map (·.add a)) (l.length - a) (c - a)) (l.drop a):=by
 obtain ⟨A',c',e,hcc,hl,hr⟩:=h
 injection e with e1 _ e3
 subst e1 e3
 show Rd _ _ _ _ (l.drop a).length _
 rw [List.length_drop]
 refine ⟨_,c - a,rfl,by omega,by simp,fun hn=>?_⟩
 obtain ⟨g,off,rfl,hg,hm,hx⟩:=hr (by omega)
 rw [if_neg (by omega)]
 refine ⟨g,off + a,by simp [addr_add],hg,hm,fun j u hu=>?_⟩
 rw [Nat.add_assoc]
 refine hx (a + j) u ?_
 rw [List.getElem?_map] at hu ⊢
 rw [List.getElem?_drop] at hu
 exact hu
def ScPost (R:List (List UInt8)×Nat) (w:World) (e:Ending) (w':World):Prop:=
 ∃ v,e=.returned (.tuple #[v,.int .i64 R.2])∧(∀ M,(∀ g∈M,g < w.heap.size)→Bss w' M v R.1)∧Below w.heap.size w w'
theorem infoB:(Tryz.prog.info? 50).map (fun i=>(i.zero,i.size,i.bytes))=some (some (.slice none 0 0),1,24):=by kernel_rfl
theorem scan_any (v:Value) (l:List UInt8) (w:World) (h:Bs w [] v l) (hl:l.length≤100000000) :
  Calls Tryz.prog 143 #[v] w fun e w'=>ScPost (scanS l) w e w':=by
 obtain ⟨i0,hi0,hz0,hz1,hz2⟩:=info_parts infoB
 have Hi0:=Lib.hid hi0;have Hz0:=Lib.hid hz0;have Hz1:=Lib.hid hz1;have Hz2:=Lib.hid hz2
 have H:=Lib.hid h
 obtain ⟨A,c,rfl,hc⟩:=h.len
 have HS:Hid (scanS l=scanF l.length l):=rfl
 clear h hi0 hz0 hz1 hz2
 generalize scanS l=R at *
 obtain ⟨rs,rn⟩:=R
 go_enter Tryz.func143,Tryz.ntmps143
 go_wp2_with fail
 go_loopw [4,5] (fun out ai wr=>∃ (a f:Nat) (qs:List (List UInt8×Value)),ai=.int .i64 a∧a≤l.length∧l.length - a≤f∧qs.length * 5≤a∧Hid ((rs,rn)=(qs.map (·.1)++(scanF f (l.drop a)).1,a + (scanF f (l.drop a)).2))∧Hid (wr.ownsRow w.heap.size 50 1 out qs.length (qs.map (·.2)))∧Hid (BsOwn w wr out qs)∧Hid (Below w.heap.size w wr)) (fun _ ai _=>l.length - (intOf ai).toNat)
 case atStart=>exact ⟨0,l.length,[],rfl,by omega,by omega,by simp,(by show _=_;rw [HS.out];simp),World.ownsRow_nil _ _ _ _,(show BsOwn _ _ _ _ from by intro q hq;cases hq),Below.refl _ _⟩
 case round=>
  obtain ⟨a,f,qs,rfl,ha,hf,hq5,HR,Hown,Hds,Hb⟩:=hrel
  have hai:(a:Int)≤(l.length:Int):=by omega
  have hstep:=scanF_step (f:=f) (l:=l.drop a) (by rw [List.length_drop];exact hf)
  have HBr:=Lib.hid (H.out.keep (Keeps.of_below (M:=[]) Hb.out) (by simp))
  have hdl:(l.drop a).length=l.length - a:=List.length_drop
  have HBn:Hid (¬ c=a→Bs wr [] (.slice (A.map (·.add a)) (l.length - a) (c - a)) (l.drop a)):=fun hn=>by
   have:=HBr.out.tail a ha
   rwa [if_neg hn] at this
  have HBe:Hid (c=a→Bs wr [] (.slice A (l.length - a) 0) (l.drop a)):=fun he=>by
   have:=HBr.out.tail a ha
   rwa [if_pos he,he,Nat.sub_self] at this
  have hf2:Hid (∀ v,Bs wr [] v (l.drop a)→Calls Tryz.prog 215 #[v] wr fun e w'=>FrRead (l.drop a) wr e w'):=fun v hv=>framer_any v (l.drop a) wr hv (by omega)
  have hac:(a:Int)≤(c:Int):=by omega
  have hbd:=Lib.hid (fun x n (h:readF (l.drop a)=some (x,n))=>readF_bd h)
  rw [hdl] at hbd
  have HSt:=Lib.hid hstep
  clear hstep HBr hdl
  have HF:Hid (∀ e W,FrRead (l.drop a) wr e W→(readF (l.drop a)=none∧e=.returned (.tuple #[.slice none 0 0,.int .i64 0,.bool false])∧Below wr.heap.size wr W)∨(∃ x n,readF (l.drop a)=some (x,n)∧∃ A c,e=.returned (.tuple #[.slice A x.length c,.int .i64 n,.bool true])∧(∀ M,(∀ g∈M,g < wr.heap.size)→Bs W M (.slice A x.length c) x)∧Below wr.heap.size wr W)):=fun e W h=>by
   unfold FrRead at h
   cases hr:readF (l.drop a) with
   | none=>rw [hr] at h;exact .inl ⟨rfl,h⟩
   | some p=>obtain ⟨x,n⟩:=p;rw [hr] at h;exact .inr ⟨x,n,rfl,h⟩
  go_wp2_with fail
  ·refine Calls.mono (by first | exact hf2.out _ (HBn.out (by assumption)) | exact hf2.out _ (HBe.out (by assumption)) | exact hf2.out _ (HBe.out rfl)) ?_
   intro e w3 hpost
   rcases HF.out _ _ hpost with ⟨hr,rfl,hb3⟩ | ⟨x,n,hr,A3,c3,rfl,hB3,hb3⟩
   ·have hp:Hid (ScPost (rs,rn) w (.returned (.tuple #[u4,.int .i64 a])) w3):=by
     have h1:=HSt.out
     rw [hr] at h1
     simp only [] at h1
     have h2:=HR.out
     rw [h1] at h2
     simp only [List.append_nil,Nat.add_zero] at h2
     rw [h2]
     refine ⟨u4,rfl,fun M hM=>⟨qs,rfl,?_,fun q hq=>(Hds.out q hq M (fun g hg=>.inl (hM g hg))).keep (Keeps.of_below (M:=[]) hb3) (by simp)⟩,below_then Hb.out hb3⟩
     exact (Rd.of_own Hown.out hM).keep (Keeps.of_below (M:=[]) hb3) (by simp)
    clear hb3 hpost
    obtain ⟨Ao,co,e0⟩:∃ Ao co,u4=.slice Ao qs.length co:=by
     rcases Hown.out.2 with ⟨h,h'⟩ | ⟨g,cap,cur,h,_⟩
     ·exact ⟨none,0,by rw [h,h']⟩
     ·exact ⟨_,_,h⟩
    subst e0
    go_wp2
    go_ret2
    exact hp.out
   ·obtain ⟨h5,hnl,hx6,hxn⟩:=hbd.out x n hr
    exfalso;omega
  ·refine Calls.mono (by first | exact hf2.out _ (HBn.out (by assumption)) | exact hf2.out _ (HBe.out (by assumption)) | exact hf2.out _ (HBe.out rfl)) ?_
   intro e w3 hpost
   rcases HF.out _ _ hpost with ⟨hr,rfl,hb3⟩ | ⟨x,n,hr,A3,c3,rfl,hB3,hb3⟩
   ·have hp:Hid (ScPost (rs,rn) w (.returned (.tuple #[u4,.int .i64 a])) w3):=by
     have h1:=HSt.out
     rw [hr] at h1
     simp only [] at h1
     have h2:=HR.out
     rw [h1] at h2
     simp only [List.append_nil,Nat.add_zero] at h2
     rw [h2]
     refine ⟨u4,rfl,fun M hM=>⟨qs,rfl,?_,fun q hq=>(Hds.out q hq M (fun g hg=>.inl (hM g hg))).keep (Keeps.of_below (M:=[]) hb3) (by simp)⟩,below_then Hb.out hb3⟩
     exact (Rd.of_own Hown.out hM).keep (Keeps.of_below (M:=[]) hb3) (by simp)
    clear hb3 hpost
    obtain ⟨Ao,co,e0⟩:∃ Ao co,u4=.slice Ao qs.length co:=by
     rcases Hown.out.2 with ⟨h,h'⟩ | ⟨g,cap,cur,h,_⟩
     ·exact ⟨none,0,by rw [h,h']⟩
     ·exact ⟨_,_,h⟩
    subst e0
    go_wp2
    go_ret2
    exact hp.out
   ·obtain ⟨h5,hnl,hx6,hxn⟩:=hbd.out x n hr
    have hown1:=Lib.hid ((own_below Hown.out hb3).alloc (.cells #[.slice A3 x.length c3] 50))
    have HB3:=Lib.hid hB3;have Hb3:=Lib.hid hb3
    clear hb3 hB3 hpost
    have hq6:qs.length≤20000000:=by omega
    simp only []
    go_wp2_with (at_builtin;refine wpList_append_any _ rfl (.tmp 21) (.tmp 23) _ rfl w.heap.size 50 i0 _ 1 24 Tryz.underlying149 Hi0.out Hz0.out Hz1.out Hz2.out rfl (by omega) u4 qs.length (qs.map (·.2)) rfl hown1.out (w3.heap.size + 1) (some ⟨w3.heap.size,0,none⟩) 1 1 [.slice A3 x.length c3] rfl (reads_new _ _ _ _ _ rfl) ?_ ?_ ?_ ?_ ?_)
    ·intro u hu;simp at hu;subst hu;rfl
    ·unfold maxLen;omega
    ·omega
    ·have:=Hb.out.size;have:=Hb3.out.size;simp;omega
    ·intro v2 w2 hown2 hg2 hat2
     have hlt0:∀ g,u4.ownBlock=some g→w.heap.size≤g∧g < wr.heap.size:=Hown.out.lt
     have R1:=Lib.hid (bsOwn_step (e:=x) Hds.out Hb3.out (fun g hg=>(hlt0 g hg).2) Hb.out.size HB3.out hg2 hat2)
     have R2:=Lib.hid (below_step Hb.out Hb3.out hg2 (fun g hg=>(hlt0 g hg).1))
     have R3:Hid (w2.ownsRow w.heap.size 50 1 v2 (qs++[(x,Value.slice A3 x.length c3)]).length ((qs++[(x,Value.slice A3 x.length c3)]).map (·.2))):=by
      show World.ownsRow _ _ _ _ _ _ _
      rw [List.map_append,List.length_append]
      simpa using hown2
     have R4:Hid ((rs,rn)=((qs++[(x,Value.slice A3 x.length c3)]).map (·.1)++(scanF (f - 1) (l.drop (a + n))).1,(a + n) + (scanF (f - 1) (l.drop (a + n))).2)):=by
      show _=_
      have h1:=HSt.out
      rw [hr] at h1
      simp only [List.drop_drop] at h1
      rw [HR.out,h1]
      simp [Nat.add_assoc]
     clear hown2 hg2 hat2 hlt0 hown1 HB3
     go_wp2
     go_roundw
     case rel=>exact ⟨a + n,f - 1,qs++[(x,.slice A3 x.length c3)],by go_num,by omega,by omega,by simp;omega,R4,R3,R1,R2.out⟩
     case measure=>simp [intOf] <;> omega
/-- A log lies in block p, its disk in d. -/
def LgAt (w:World) (p:Nat) (Y:List Nat) (d:Nat) (b:List UInt8) (k n:Nat):Prop:=
 Blk w p 246 #[.pointer (some ⟨d,0,none⟩),.int .i64 n]∧DkAt w Y d b k∧p∉Y∧n≤b.length
theorem LgAt.keep {w w':World} {M Y:List Nat} {p d k n:Nat} {b:List UInt8} (h:LgAt w p Y d b k n) (hk:Keeps M w w') (hM:∀ g∈p :: Y,g∉M):LgAt w' p Y d b k n:=
 ⟨hk.blk h.1 (hM p (by simp)),h.2.1.keep hk (fun g hg=>hM g (by simp [hg])),h.2.2⟩
theorem LgAt.keep0 {w w':World} {Y:List Nat} {p d k n:Nat} {b:List UInt8} (h:LgAt w p Y d b k n) (hk:Keeps [] w w'):LgAt w' p Y d b k n:=h.keep hk (by simp)
theorem DkAt.inX {w:World} {X:List Nat} {d k:Nat} {b:List UInt8} (h:DkAt w X d b k):d∈X:=by obtain ⟨_,_,_,h,_⟩:=h;exact h
theorem DkAt.old {w:World} {X:List Nat} {d k:Nat} {b:List UInt8} (h:DkAt w X d b k):∀ g∈X,g < w.heap.size:=by obtain ⟨_,_,_,_,_,_,_,h⟩:=h;exact h
theorem Bss.avoid {w:World} {M M':List Nat} {v:Value} {rs:List (List UInt8)} (h:Bss w M v rs) (hM:∀ g∈M',g∈M∨w.heap.size≤g):Bss w M' v rs:=by
 obtain ⟨ps,hl,hr,hd⟩:=h
 exact ⟨ps,hl,hr.avoid hM,fun p hp=>(hd p hp).avoid hM⟩
def WoPost (Y:List Nat) (d:Nat) (b:List UInt8) (w:World) (e:Ending) (w':World):Prop:=
 ∃ p v,e=.returned (.tuple #[.pointer (some ⟨p,0,none⟩),v])∧w.heap.size≤p∧LgAt w' p Y d (b.take (scanS b).2) (scanS b).2 (scanS b).1.length∧(∀ M,(∀ g∈M,g < w.heap.size)→Bss w' (p :: M) v (scanS b).1)∧Keeps Y w w'
theorem wopen_any (Y:List Nat) (d k:Nat) (b:List UInt8) (w:World) (h:DkAt w Y d b k) :
  Calls Tryz.prog 77 #[.pointer (some ⟨d,0,none⟩)] w fun e w'=>WoPost Y d b w e w':=by
 have hle:=h.le
 have H:=Lib.hid h
 have hall:=Lib.hid (dkall_any w h)
 obtain ⟨hs1,_,hs3⟩:=scanS_bd b
 have hsc:Hid (∀ W v,Bs W [] v b→Calls Tryz.prog 143 #[v] W fun e w'=>ScPost (scanS b) W e w'):=fun W v hv=>scan_any v b W hv (by omega)
 have HP:Hid (∀ e W,WoPost Y d b w e W = ∃ p v,e=.returned (.tuple #[.pointer (some ⟨p,0,none⟩),v])∧w.heap.size≤p∧LgAt W p Y d (b.take (scanS b).2) (scanS b).2 (scanS b).1.length∧(∀ M,(∀ g∈M,g < w.heap.size)→Bss W (p :: M) v (scanS b).1)∧Keeps Y w W):=fun _ _=>rfl
 have hdY:=h.inX
 have hN:Hid ((scanS b).1.length≤(scanS b).2):=by
  have:∀ (f:Nat) (l:List UInt8),(scanF f l).1.length≤(scanF f l).2:=by
   intro f
   induction f with
   | zero=>intro l;simp [scanF]
   | succ f ih=>
    intro l
    rw [scanF]
    cases hr:readF l with
    | none=>simp
    | some p=>
     obtain ⟨x,n⟩:=p
     have:=readF_bd hr
     have:=ih (l.drop n)
     simp only [List.length_cons];omega
  exact this _ _
 clear h
 generalize scanS b=R at *
 obtain ⟨rs,n⟩:=R
 simp only [] at hs1 hs3 HP hN
 go_enter Tryz.func77,Tryz.ntmps77
 go_wp2_with fail
 refine hall.out.mono ?_
 rintro e w1 ⟨v1,rfl,hown,hb1⟩
 have HB1:Hid (Bs w1 [] v1 b):=by
  have:=Rd.of_own (M:=[]) hown (by simp)
  exact this
 have Hk1:=Lib.hid (Keeps.of_below (M:=[]) hb1)
 clear hown hb1 hall
 go_wp2_with fail
 refine (hsc.out _ _ HB1.out).mono ?_
 rintro e w2 ⟨v2,rfl,hbs,hb2⟩
 have Hk2:=Lib.hid (Hk1.out.trans (Keeps.of_below (M:=[]) hb2) (by simp))
 have Hbs:=Lib.hid (fun (M:List Nat) (hM:∀ g∈M,g < w.heap.size)=>hbs M (fun g hg=>Nat.lt_of_lt_of_le (hM g hg) Hk1.out.size))
 clear hbs hb2 Hk1 HB1 hsc
 simp only []
 go_wp2_with fail
 refine (dkcut_any w2 (H.out.keep0 Hk2.out) n hs1).mono ?_
 rintro e w3 ⟨rfl,hD,hk3⟩
 have Hk3:Hid (Keeps Y w w3):=(Hk2.out.mono (M':=Y) (by simp)).trans hk3 (fun g hg=>by simp at hg;subst hg;exact .inl hdY)
 have hdw:=H.out.lt
 have HB3:=Lib.hid (fun (M:List Nat) (hM:∀ g∈M,g < w.heap.size)=>((Hbs.out (d :: M) (fun g hg=>by rcases List.mem_cons.1 hg with rfl | hg;exact hdw;exact hM g hg)).keep hk3 (fun g hg=>.inl (by simp at hg;simp [hg]))).avoid (M':=M) (fun g hg=>.inl (by simp [hg])))
 have HD:=Lib.hid hD
 have hlen:(b.take n).length=n:=by rw [List.length_take];omega
 have hR:Hid (WoPost Y d b w (.returned (.tuple #[.pointer (some ⟨w3.heap.size,0,none⟩),v2])) (w3.alloc (.cells #[.pointer (some ⟨d,0,none⟩),.int .i64 rs.length] 246))):=by
  show WoPost _ _ _ _ _ _
  have hka:Keeps [] w3 (w3.alloc (.cells #[.pointer (some ⟨d,0,none⟩),.int .i64 rs.length] 246)):=(Keeps.refl _ _).alloc _
  rw [HP.out]
  refine ⟨w3.heap.size,v2,rfl,Hk3.out.size,⟨Blk.new w3 _ _,HD.out.keep0 hka,fun hm=>by have:=HD.out.old _ hm;omega,by rw [hlen];exact hN.out⟩,fun M hM=>?_,Hk3.out.trans hka (by simp)⟩
  exact ((HB3.out M hM).avoid (M':=w3.heap.size :: M) (fun g hg=>by rcases List.mem_cons.1 hg with rfl | hg;exact .inr (Nat.le_refl _);exact .inl hg)).keep hka (by simp)
 obtain ⟨A2,c2,rfl,_⟩:=(HB3.out [] (by simp)).len
 clear hD hk3
 go_wp2
 go_ret2
 exact hR.out
theorem wsync_any (p:Nat) (Y:List Nat) (d k n:Nat) (b:List UInt8) (w:World) (h:LgAt w p Y d b k n) :
  Calls Tryz.prog 146 #[.pointer (some ⟨p,0,none⟩)] w fun e w'=>e=.returned (.tuple #[])∧LgAt w' p Y d b b.length n∧Keeps Y w w':=by
 have H:=Lib.hid h
 have q0:=h.1.cell 0
 simp only [List.getElem?_toArray,List.getElem?_cons_zero] at q0
 have hs:=Lib.hid (dksync_any w h.2.1)
 have hp:=h.1.lt
 clear h
 go_enter Tryz.func146,Tryz.ntmps146
 go_wp2_with fail
 refine hs.out.mono ?_
 rintro e w1 ⟨rfl,hD,hk⟩
 have hR:Hid (LgAt w1 p Y d b b.length n∧Keeps Y w w1):=⟨⟨hk.blk H.out.1 (by simp;rintro rfl;exact H.out.2.2.1 H.out.2.1.inX),hD,H.out.2.2⟩,hk.mono (fun g hg=>by simp at hg;subst hg;exact .inl H.out.2.1.inX)⟩
 clear hD hk
 go_wp2
 go_end0
 exact ⟨rfl,hR.out⟩
end Go.Proofs.YtambjickanapjaaGreatDoor.Vi
end
section
namespace Go.Proofs.YtambjickanapjaaGreatDoor.Vi
open Go.RowKit Base Mem Go.Shelf
theorem addB_cuts (S:BkD) (k:Nat) (b:BatD):(addB S k b).cuts.length≤S.cuts.length + 1:=by
 unfold addB
 split
 ·simp
 ·omega
theorem batchB_cuts (S:BkD) (l:List UInt8) (bad over:Bool):(batchB S l bad over).cuts.length≤S.cuts.length + 1:=by
 unfold batchB
 simp only []
 split
 ·split <;> simp
 ·split
  ·exact addB_cuts _ _ _
  ·omega
theorem takeR_cuts (S:BkD) (k:Nat) (l:List UInt8) (bad:Bool):(takeR S k l bad).cuts.length≤S.cuts.length + 1:=by
 unfold takeR
 split
 ·split <;> simp
 ·split
  ·split <;> simp
  ·split
   ·split <;> simp
   ·split
    ·exact batchB_cuts _ _ _ _
    ·split
     ·exact batchB_cuts _ _ _ _
     ·omega
theorem takesB_cuts (l:List (List UInt8)):∀ S:BkD,(takesB S l).cuts.length≤S.cuts.length + l.length:=by
 induction l with
 | nil=>intro S;simp [takesB]
 | cons b l ih=>
  intro S
  have h1:=ih (takeB S b)
  have h2:=takeR_cuts S (numS b false).1 (numS b false).2.1 (numS b false).2.2
  rw [← takeB_eq] at h2
  show (takesB (takeB S b) l).cuts.length≤_
  simp only [List.length_cons]
  omega
theorem takesB_snoc (S:BkD) (l:List (List UInt8)) (b:List UInt8):takesB S (l++[b])=takeB (takesB S l) b:=by simp [takesB]
section
variable {w w' w0 W:World} {M M':List Nat} {tg tg':Nat→Nat} {s:Nat} {S S':BkD} {vs vc:Value} {qb:Nat→Nat}
theorem btake_any (v:Value) (b:List UInt8) (m:Int) (hb:Bs w [] v b) (h:BkAt w M tg s S) (hM:∀ g∈M,g < w.heap.size) (hl:b.length≤65536) (hm:w.cell? ⟨0,0,none⟩=some (.int .i64 m)) (hc:S.cuts.length≤100000000) :
  Calls Tryz.prog 145 #[.pointer (some ⟨s,0,none⟩),v] w fun e w'=>BaPost M tg s (takeB S b) w e w':=by
 by_cases h1:1≤(numS b false).1∧(numS b false).1≤5
 ·rcases (show (numS b false).1=1∨(numS b false).1=2∨(numS b false).1=3∨(numS b false).1=4∨(numS b false).1=5 by omega) with h2 | h2 | h2 | h2 | h2
  ·exact btake_num 1 (.inl rfl) v b m hb h hM hl hm h2
  ·exact btake_sam v b m hb h hM hl hm h2
  ·exact btake_bat 3 (.inl rfl) v b m hb h hM hl hm h2 hc
  ·exact btake_num 4 (.inr rfl) v b m hb h hM hl hm h2
  ·exact btake_bat 5 (.inr rfl) v b m hb h hM hl hm h2 hc
 ·exact btake_none v b m hb h hM hl hm h1
theorem btakes_any (v:Value) (rs:List (List UInt8)) (m:Int) (hb:Bss w M v rs) (h:BkAt w M tg s S) (hM:∀ g∈M,g < w.heap.size) (h0:0∉M) (hl:∀ r∈rs,r.length≤65536) (hm:w.cell? ⟨0,0,none⟩=some (.int .i64 m)) (hc:S.cuts.length + rs.length≤100000000) :
  Calls Tryz.prog 79 #[.pointer (some ⟨s,0,none⟩),v] w fun e w'=>BaPost M tg s (takesB S rs) w e w':=by
 have hw0:0 < w.heap.size:=by
  have:=World.block_lt_of_cell? w _ hm
  simpa using this
 obtain ⟨A,c,rfl,hcc⟩:=hb.len
 have HB:=Lib.hid hb;have HS:=Lib.hid h;have HM:=Lib.hid hM;have Hl:=Lib.hid hl
 have Hm:Hid (∀ W,Keeps (sel M tg (List.range 20)) w W→W.cell? ⟨0,0,none⟩=some (.int .i64 m)):=fun W hk=>(hk.cell (p:=⟨0,0,none⟩) hw0 (fun hm=>h0 (mem_sel.1 hm).1)).trans hm
 have Hv:Hid (∀ e M' tg' W W' SR,BaPost M' tg' s SR W e W'→e=.returned (.tuple #[])∧BaPost M' tg' s SR W e W'):=fun _ _ _ _ _ _ h=>⟨h.1,h⟩
 clear hb h hM hl hm
 go_enter Tryz.func79,Tryz.ntmps79
 go_wp2_with fail
 go_loopw [8] (fun i wr=>∃ (k:Nat) (Mk:List Nat) (tgk:Nat→Nat),i=.int .i64 k∧k≤rs.length∧Hid (BkAt wr Mk tgk s (takesB S (rs.take k)))∧Hid (Ext w M tg wr Mk tgk)∧Hid (Keeps (sel M tg (List.range 20)) w wr)) (fun i _=>rs.length - (intOf i).toNat)
 case atStart=>exact ⟨0,M,tg,rfl,by omega,HS.out,Ext.refl HM.out (Nat.le_refl _),Keeps.refl _ _⟩
 case round=>
  obtain ⟨k,Mk,tgk,rfl,hk,HSk,HXk,HKk⟩:=hrel
  by_cases hlt:k < rs.length
  ·have hx1:(k:Int) < (rs.length:Int):=by omega
   have hbw:Bss wr Mk (.slice A rs.length c) rs:=(HB.out.avoid HXk.out.new).keep HKk.out (fun g hg=>.inl (HXk.out.sub g (mem_sel.1 hg).1))
   obtain ⟨g,off,cap,bv,e1,hg,_,hcell,hqk⟩:=hbw.at_ hlt
   obtain ⟨rfl,-⟩:A=some ⟨g,off,none⟩∧True:=by injection e1 with e1;exact ⟨e1,trivial⟩
   have hrl:=Hl.out _ (List.getElem_mem hlt)
   obtain ⟨Ar,cr,rfl,_⟩:=hqk.len
   have hcu:=takesB_cuts (rs.take k) S
   rw [List.length_take] at hcu
   have htk:=Lib.hid (btake_any (.slice Ar rs[k].length cr) rs[k] m (hqk.avoid (by simp)) HSk.out HXk.out.lt hrl (Hm.out _ HKk.out) (by omega))
   have hsn:Hid (takesB S (rs.take (k + 1))=takeB (takesB S (rs.take k)) rs[k]):=by show _=_;rw [List.take_succ_eq_append_getElem hlt,takesB_snoc]
   clear hqk hcu hrl hbw e1
   generalize rs[k]=rk at *
   go_wp2_with fail
   refine htk.out.mono ?_
   intro e w2 hp
   obtain ⟨rfl,hp⟩:=Hv.out _ _ _ _ _ _ hp
   obtain ⟨_,M2,tg2,hb2,hx2,hk2⟩:=hp
   have HS2:Hid (BkAt w2 M2 tg2 s (takesB S (rs.take (k + 1)))):=by show BkAt _ _ _ _ _;rw [hsn.out];exact hb2
   have HX2:=Lib.hid (HXk.out.trans hx2 HKk.out.size)
   have HK2:=Lib.hid (Ext.keeps HXk.out HKk.out hk2)
   clear hb2 hx2 hk2 htk hcell
   go_wp2
   go_roundw
   case rel=>exact ⟨k + 1,M2,tg2,by go_num,by omega,HS2,HX2,HK2⟩
   case measure=>simp [intOf];omega
  ·have hke:k=rs.length:=by omega
   have hx1:decide ((k:Int) < (rs.length:Int))=false:=decide_eq_false (by omega)
   have hP:Hid (BaPost M tg s (takesB S rs) w (.returned (.tuple #[])) wr):=by
    have h1:=HSk.out
    rw [hke,List.take_length] at h1
    exact ⟨rfl,Mk,tgk,h1,HXk.out,HKk.out⟩
   clear hke
   go_wp2
   go_end0
   exact hP.out
end
def pq (k:Nat) (qb:Nat→Nat) (j:Nat):Value:=if j < k then .pointer (some ⟨qb j,0,none⟩) else .pointer none
def bkCells (k:Nat) (qb:Nat→Nat):Array Value:=#[.int .i64 0,.slice none 0 0,.int .i64 1,pq k qb 0,pq k qb 1,pq k qb 2,pq k qb 3,.slice none 0 0]
theorem bkCells_step (k:Nat) (qb:Nat→Nat) (g:Nat) (hk:k < 4):(bkCells k qb).setIfInBounds (3 + k) (.pointer (some ⟨g,0,none⟩))=bkCells (k + 1) (fun j=>if j=k then g else qb j):=by
 rcases (show k=0∨k=1∨k=2∨k=3 by omega) with rfl | rfl | rfl | rfl <;> simp [bkCells,pq]
def BnPost (w:World) (e:Ending) (w':World):Prop:=∃ s qb,e=.returned (.pointer (some ⟨s,0,none⟩))∧Blk w' s 143 (bkCells 4 qb)∧(∀ j,j < 4→Blk w' (qb j) 271 #[.slice none 0 0,.int .i64 0]∧s < qb j)∧(∀ i j,i < j→j < 4→qb i < qb j)∧w.heap.size≤s∧Below w.heap.size w w'
theorem bknew_any (w:World) :
    Calls Tryz.prog 78 #[] w fun e w'=>BnPost w e w':=by
  obtain ⟨w0,hw0⟩:∃ w0,w0=w.alloc (.cells #[.int .i64 0,.slice none 0 0,.int .i64 1,.pointer none,.pointer none,.pointer none,.pointer none,.slice none 0 0] 143):=⟨_,rfl⟩
  have hb0:Below w.heap.size w w0:=by rw [hw0];exact (Below.refl _ _).alloc (Nat.le_refl _) _
  have hB0:Blk w0 w.heap.size 143 (bkCells 0 (fun _=>0)):=by rw [hw0];exact Blk.new w _ _
  have Hb0:=Lib.hid hb0;have HB0:=Lib.hid hB0
  clear hb0 hB0
  go_enter Tryz.func78,Tryz.ntmps78
  go_wp2_with fail
  rw [← hw0]
  clear hw0
  obtain ⟨s,Hs⟩:∃ s,Hid (w.heap.size=s):=⟨_,rfl⟩
  rw [Hs.out] at Hb0 HB0
  rw [Hs.out]
  go_loopw [5] (fun i wr=>∃ (k:Nat) (qb:Nat→Nat),i=.int .i64 k∧k≤4∧Hid (Blk wr s 143 (bkCells k qb))∧Hid (∀ j,j < k→Blk wr (qb j) 271 #[.slice none 0 0,.int .i64 0]∧s < qb j)∧Hid (∀ i j,i < j→j < k→qb i < qb j)∧Hid (Below s w wr)) (fun i _=>4 - (intOf i).toNat)
  case atStart=>exact ⟨0,fun _=>0,rfl,by omega,HB0.out,(show ∀ _,_ from by intro j hj;omega),(show ∀ _,_ from by intro i j _ hj;omega),Hb0.out⟩
  case round=>
    obtain ⟨k,qb,rfl,hk,HB,HQ,HI,Hb⟩:=hrel
    by_cases hlt:k < 4
    · have hx1:(k:Int) < 4:=by omega
      have hsl:=HB.out.lt
      go_upto_region 5 with (fail)
      have HC:Hid (∀ W,Keeps [] wr W→(∃ u,W.cell? ⟨s,3 + k,none⟩=some u)∧W.frozen? ⟨s,3 + k,none⟩=false):=fun W hk'=>by
        have hb:=hk'.blk HB.out (by simp)
        refine ⟨?_,hb.frozen _⟩
        rw [hb.cell,Array.getElem?_eq_getElem (by show 3 + k < 8;omega)]
        exact ⟨_,rfl⟩
      have HN:Hid (∀ W,Keeps [] wr W→Calls Tryz.prog 144 #[] W fun e w'=>e=.returned (.pointer (some ⟨W.heap.size,0,none⟩))∧Blk w' W.heap.size 271 #[.slice none 0 0,.int .i64 0]∧Below W.heap.size W w'):=fun W _=>qnew_any W
      go_region_held3 (fun W=>True) (trivial)
        (first
          | (go_at_call 144
             with_reducible refine (HN.out _ ((Keeps.refl _ _).drew)).mono ?_
             rintro e w1 ⟨rfl,hq1,hb1⟩
             have HK1:Hid (Keeps [] wr w1):=Keeps.trans ((Keeps.refl [] wr).drew) (Keeps.of_below (M:=[]) hb1) (by simp)
             have HQ1:Hid (Blk w1 wr.heap.size 271 #[.slice none 0 0,.int .i64 0]):=hq1
             obtain ⟨⟨u,c1⟩,f1⟩:=HC.out _ HK1.out
             clear hq1 hb1))
      have hk2:Keeps [s] w1 (w1.setCell ⟨s,3 + k,none⟩ (.pointer (some ⟨wr.heap.size,0,none⟩))):=(Keeps.refl _ _).setCell (by simp) _
      have HB2:Hid (Blk (w1.setCell ⟨s,3 + k,none⟩ (.pointer (some ⟨wr.heap.size,0,none⟩))) s 143 (bkCells (k + 1) (fun j=>if j=k then wr.heap.size else qb j))):=by
        have h1:=(HK1.out.blk HB.out (by simp)).set_ (3 + k) (.pointer (some ⟨wr.heap.size,0,none⟩))
        rw [bkCells_step k qb _ hlt] at h1
        exact h1
      have HQ2:Hid (∀ j,j < k + 1→Blk (w1.setCell ⟨s,3 + k,none⟩ (.pointer (some ⟨wr.heap.size,0,none⟩))) (if j=k then wr.heap.size else qb j) 271 #[.slice none 0 0,.int .i64 0]∧s < (if j=k then wr.heap.size else qb j)):=fun j hj=>by
        by_cases hjk:j=k
        · rw [if_pos hjk]
          exact ⟨hk2.blk HQ1.out (by simp;omega),hsl⟩
        · rw [if_neg hjk]
          obtain ⟨a1,a2⟩:=HQ.out j (by omega)
          exact ⟨hk2.blk (HK1.out.blk a1 (by simp)) (by simp;omega),a2⟩
      have HI2:Hid (∀ i j,i < j→j < k + 1→(if i=k then wr.heap.size else qb i) < (if j=k then wr.heap.size else qb j)):=fun i j hij hj=>by
        rw [if_neg (by omega)]
        by_cases hjk:j=k
        · rw [if_pos hjk]
          exact (HQ.out i (by omega)).1.lt
        · rw [if_neg hjk];exact HI.out i j hij (by omega)
      have Hb2:Hid (Below s w (w1.setCell ⟨s,3 + k,none⟩ (.pointer (some ⟨wr.heap.size,0,none⟩)))):=(Hb.out.trans (HK1.out.below.mono (by omega))).setCell (Nat.le_refl _) _
      clear hk2
      go_wp2
      go_roundw
      case rel=>exact ⟨k + 1,fun j=>if j=k then wr.heap.size else qb j,by go_num,by omega,HB2,HQ2,HI2,Hb2⟩
      case measure=>simp [intOf];omega
    · have hk4:k=4:=by omega
      have hx1:decide ((k:Int) < 4)=false:=decide_eq_false (by omega)
      have hP:Hid (BnPost w (.returned (.pointer (some ⟨s,0,none⟩))) wr):=by
        subst hk4
        exact ⟨s,qb,rfl,HB.out,HQ.out,HI.out,Nat.le_of_eq Hs.out,by rw [Hs.out];exact Hb.out⟩
      clear hk4
      go_wp2
      go_ret
      exact hP.out
/-- The new state, in whatever parts are given to its blocks. -/
theorem bk_new_at {w:World} {M:List Nat} {tg:Nat→Nat} {s:Nat} {qb:Nat→Nat} (hb:Blk w s 143 (bkCells 4 qb)) (hq:∀ j,j < 4→Blk w (qb j) 271 #[.slice none 0 0,.int .i64 0]∧s < qb j) (hs:s∈M) (ts:tg s=1) (hM:∀ j,j < 4→qb j∈M∧tg (qb j)=10 + 2 * j):BkAt w M tg s bk0:=by
 refine ⟨⟨by decide,by decide,by decide,by simp [bk0],by decide,by decide,by simp [bk0],fun _=>quOk0⟩,.slice none 0 0,.slice none 0 0,qb,?_,hs,ts,World.ownsRow_nil _ _ _ _,by simp [Value.ownBlock],World.ownsRow_nil _ _ _ _,by simp [Value.ownBlock],fun k hk=>?_⟩
 ·exact hb
 ·exact qu_new (hq k hk).1 (hM k hk).1 (hM k hk).2
def DoPost (b:List UInt8) (w:World) (e:Ending) (w':World):Prop:=∃ d X,e=.returned (.pointer (some ⟨d,0,none⟩))∧DkAt w' X d b b.length∧(∀ g∈X,w.heap.size≤g)∧Below w.heap.size w w'
theorem dkof_any (v:Value) (b:List UInt8) (w:World) (h:Bs w [] v b) (hl:b.length≤1048576) :
  Calls Tryz.prog 29 #[v] w fun e w'=>DoPost b w e w':=by
 have hcl:=Lib.hid (cloneU8 [] v b.length (b.map bV) w h (bV_one b) (by omega))
 obtain ⟨A,c,rfl,hc⟩:=h.len
 have hni:¬ ((1048576:Int) < (b.length:Int)):=by omega
 have hnd:decide ((1048576:Int) < (b.length:Int))=false:=decide_eq_false hni
 clear h
 go_enter Tryz.func29,Tryz.ntmps29
 go_wp2_with fail
 refine hcl.out.mono ?_
 rintro e w1 ⟨v1,rfl,hown,hb1⟩
 have hr:=Row1.of_own hown
 have hF:Hid (DoPost b w (.returned (.pointer (some ⟨w1.heap.size,0,none⟩))) (w1.alloc (.cells #[v1,.int .i64 b.length] 147))):=by
  have hk:Keeps [] w1 (w1.alloc (.cells #[v1,.int .i64 b.length] 147)):=(Keeps.refl _ _).alloc _
  refine ⟨w1.heap.size,w1.heap.size :: v1.ownBlock.toList,rfl,⟨v1,Blk.new w1 _ _,hr.keep hk (by simp),by simp,fun g hg=>⟨by simp [hg],fun e=>by have:=hr.lt hg;omega⟩,Nat.le_refl _,hl,fun g hg=>?_⟩,fun g hg=>?_,hb1.alloc hb1.size _⟩
  ·rcases List.mem_cons.1 hg with rfl | hg
   ·simp
   ·have:=hr.lt (Option.mem_toList.1 hg);simp;omega
  ·rcases List.mem_cons.1 hg with rfl | hg
   ·exact hb1.size
   ·exact (hown.lt g (Option.mem_toList.1 hg)).1
 obtain ⟨A1,c1,rfl,_⟩:=hr.len
 clear hown hb1 hr hcl
 go_wp2
 go_ret
 exact hF.out
end Go.Proofs.YtambjickanapjaaGreatDoor.Vi
end
section
namespace Go.Proofs.YtambjickanapjaaGreatDoor.Vi
open Go.RowKit Base Mem Go.Shelf Tape
theorem btake_nil (s:Nat) (A:Option Addr) (c:Nat) (w:World) :
  Calls Tryz.prog 79 #[.pointer (some ⟨s,0,none⟩),.slice A 0 c] w fun e w'=>e=.returned (.tuple #[])∧w=w':=by
 go_enter Tryz.func79,Tryz.ntmps79
 go_wp2_with fail
 go_loopw [8] (fun i wr=>i=.int .i64 0∧wr=w) (fun i _=>0)
 case atStart=>exact ⟨rfl,rfl⟩
 case round=>
  obtain ⟨rfl,rfl⟩:=hrel
  go_wp2
  go_end0
  exact ⟨rfl,rfl⟩
def OfPost (w:World) (e:Ending) (w':World):Prop:=∃ s,e=.returned (.pointer (some ⟨s,0,none⟩))∧w'.cell? ⟨s,1,none⟩=some (.slice none 0 0)∧w'.cell? ⟨s,7,none⟩=some (.slice none 0 0)∧Keeps [] w w'
theorem bof_nil (w:World):Calls Tryz.prog 75 #[.pointer none] w fun e w'=>OfPost w e w':=by
 go_enter Tryz.func75,Tryz.ntmps75
 go_wp2_with fail
 refine (bknew_any w).mono ?_
 rintro e w1 ⟨s,qb,rfl,hb,-,-,-,hb1⟩
 have hP:Hid (OfPost w (.returned (.pointer (some ⟨s,0,none⟩))) w1):=⟨s,rfl,hb.cell 1,hb.cell 7,Keeps.of_below hb1⟩
 clear hb hb1
 go_wp2_with fail
 go_ret
 exact hP.out
theorem bof_new (X:List Nat) (d:Nat) (w:World) (h:DkAt w X d [] 0) :
  Calls Tryz.prog 75 #[.pointer (some ⟨d,0,none⟩)] w fun e w'=>OfPost w e w':=by
 have H:=Lib.hid h
 clear h
 go_enter Tryz.func75,Tryz.ntmps75
 go_wp2_with fail
 refine (bknew_any w).mono ?_
 rintro e w1 ⟨s,qb,rfl,hb,-,-,-,hb1⟩
 have Hs:Hid (w1.cell? ⟨s,1,none⟩=some (.slice none 0 0)∧w1.cell? ⟨s,7,none⟩=some (.slice none 0 0)):=⟨hb.cell 1,hb.cell 7⟩
 have Hk1:Hid (Keeps [] w w1):=Keeps.of_below hb1
 clear hb hb1
 go_wp2_with fail
 refine (dkall_any w1 (H.out.keep0 Hk1.out)).mono ?_
 rintro e w2 ⟨v,rfl,hown,hb2⟩
 have HB:Hid (Bs w2 [] v []):=Rd.of_own hown (by simp)
 have Hk2:Hid (Keeps [] w1 w2):=Keeps.of_below hb2
 clear hown hb2
 go_wp2_with fail
 refine (dkof_any v [] w2 HB.out (by simp)).mono ?_
 rintro e w3 ⟨d3,X3,rfl,hd3,hx3,hb3⟩
 have Hd3:=Lib.hid hd3;have Hx3:=Lib.hid hx3
 have Hk3:Hid (Keeps [] w1 w3):=Hk2.out.trans (Keeps.of_below (M:=[]) hb3) (by simp)
 have Hk23:Hid (Keeps [] w1 w2):=Hk2.out
 clear hd3 hx3 hb3 Hk2 HB
 go_wp2_with fail
 refine (wopen_any X3 d3 0 [] w3 Hd3.out).mono ?_
 rintro e w4 ⟨p,v4,rfl,-,-,hr,hk4⟩
 obtain ⟨qs,h1,⟨A,c,rfl,-⟩,-⟩:=hr [] (by simp)
 have hq:qs=[]:=by
  have h2:(scanS []).1=[]:=rfl
  rw [h2] at h1
  simpa using h1
 subst hq
 have hk:Keeps [] w1 w4:=Hk3.out.trans hk4 (fun x hx=>.inr (Nat.le_trans Hk23.out.size (Hx3.out x hx)))
 have hP:Hid (OfPost w (.returned (.pointer (some ⟨s,0,none⟩))) w4):=⟨s,rfl,hk.c Hs.out.1,hk.c Hs.out.2,Hk1.out.trans hk (by simp)⟩
 clear h1 hr hk4 hk
 go_wp2_with fail
 refine (btake_nil s A c w4).mono ?_
 rintro e w' ⟨rfl,rfl⟩
 go_wp2_with fail
 go_ret
 exact hP.out
theorem cuts_new (X:List Nat) (d:Nat) (w:World) (h:DkAt w X d [] 0) :
  Calls Tryz.prog 26 #[.pointer (some ⟨d,0,none⟩)] w fun e w'=>e=.returned (.slice none 0 0)∧Keeps [] w w':=by
 have H:=Lib.hid (bof_new X d w h)
 clear h
 go_enter Tryz.func26,Tryz.ntmps26
 go_wp2_with fail
 refine H.out.mono ?_
 rintro e w1 ⟨s,rfl,c1,c7,hk⟩
 have Hk:=Lib.hid hk
 clear hk
 go_wp2_with fail
 go_ret
 exact ⟨rfl,Hk.out⟩
theorem lasting_nil (w:World) :
  Calls Tryz.prog 28 #[.pointer none] w fun e w'=>e=.returned (.int .i64 0)∧Keeps [] w w':=by
 go_enter Tryz.func28,Tryz.ntmps28
 go_wp2_with fail
 refine (bof_nil w).mono ?_
 rintro e w1 ⟨s,rfl,c1,c7,hk⟩
 have Hk:=Lib.hid hk
 clear hk
 go_wp2_with fail
 go_ret
 exact ⟨rfl,Hk.out⟩
end Go.Proofs.YtambjickanapjaaGreatDoor.Vi
end
section
namespace Go.Proofs.YtambjickanapjaaGreatDoor.Vi
open Go.RowKit Base Mem Go.Shelf
structure SentD where
 dst:Int
 m:MsgD
def sCell (dst:Int) (m:MsgD) (dv lv:Value):List Value:=.int .i64 dst :: mCell m dv lv

end Go.Proofs.YtambjickanapjaaGreatDoor.Vi
end
section
namespace Go.Proofs.YtambjickanapjaaGreatDoor.Vi
open Go.RowKit Base Mem Tape Go.Shelf
def VrPost (R:Option WordD) (w:World) (e:Ending) (w':World):Prop:=match R with
 | some x=>∃ lv,e=.returned (.tuple #[.agg #[.int .i64 x.t,.int .i64 x.h,lv],.bool true])∧(∀ M,(∀ g∈M,g < w.heap.size)→Ens w' M lv x.log)∧Keeps [] w w'
 | none=>∃ (a b:Int) (A:Option Addr) (n c:Nat),e=.returned (.tuple #[.agg #[.int .i64 a,.int .i64 b,.slice A n c],.bool false])∧Keeps [] w w'
theorem vread_any (v:Value) (l:List UInt8) (m:Int) (w:World) (h:Bs w [] v l) (hl:l.length≤65536) (hm:w.cell? ⟨0,0,none⟩=some (.int .i64 m)) :
  Calls Tryz.prog 140 #[v] w fun e w'=>VrPost (readV l) w e w':=by
 have hw0:0 < w.heap.size:=by
  have:=World.block_lt_of_cell? w _ hm
  simpa using this
 have hkeepm:Hid (∀ W,Keeps [] w W→W.cell? ⟨0,0,none⟩=some (.int .i64 m)):=fun W hb=>hb.c hm
 have HR : Hid (readV l = match mgetS (intS (intS l false).2.1 (intS l false).2.2).2.1 (intS (intS l false).2.1 (intS l false).2.2).2.2 with
 | (none,_)=>none
 | (some es, l', bad) => if bad = false ∧ l'.isEmpty = true then some ⟨(intS l false).1, (intS (intS l false).2.1 (intS l false).2.2).1, es⟩ else none) := rfl
 have h1:=intS_lt l false
 have l1:=intS_len l false
 have hnew:=Lib.hid (fun W (hk:Keeps [] w W)=>new_any [] v l W (h.keep hk (by simp)) (by omega))
 have hi1:=Lib.hid (fun W p (hr:RdAt W [] p l false)=>rint_any [] p l false W hr)
 obtain ⟨A,c,rfl,hc⟩:=h.len
 clear h hm
 generalize intS l false=r1 at *
 obtain ⟨t,l1',b1⟩:=r1
 simp only [] at h1 l1 HR hi1
 have h2:=intS_lt l1' b1
 have l2:=intS_len l1' b1
 have hi2:=Lib.hid (fun W p (hr:RdAt W [] p l1' b1)=>rint_any [] p l1' b1 W hr)
 generalize intS l1' b1=r2 at *
 obtain ⟨hd,l2',b2⟩:=r2
 simp only [] at h2 l2 HR hi2
 have hg:=Lib.hid (fun W M p (hr:RdAt W M p l2' b2) (hp:p≠0) (hmW:W.cell? ⟨0,0,none⟩=some (.int .i64 m))=>mget_any M p l2' b2 m W hr (by omega) hmW hp)
 generalize mgetS l2' b2=r3 at *
 go_enter Tryz.func140,Tryz.ntmps140
 go_wp2_with fail
 obtain ⟨w0,hw0e⟩:∃ w0,w0=w.alloc (.cells #[.int .i64 0,.int .i64 0,.slice none 0 0] 238):=⟨_,rfl⟩
 have hk0:Keeps [] w w0:=by rw [hw0e];exact (Keeps.refl _ _).alloc _
 have hZ0:Blk w0 w.heap.size 238 #[.int .i64 0,.int .i64 0,.slice none 0 0]:=by rw [hw0e];exact Blk.new w _ _
 have hlt0:=hZ0.lt
 rw [← hw0e]
 clear hw0e
 refine (hnew.out w0 hk0).mono ?_
 rintro e w1 ⟨rfl,hA1,hb1⟩
 have hk1:Keeps [] w w1:=hk0.trans (Keeps.of_below (M:=[]) hb1) (by simp)
 have hZ1:=hZ0.below hb1 hlt0
 have hpl:=hA1.lt
 obtain ⟨g0,Hg0⟩:∃ g0,Hid (w.heap.size=g0):=⟨_,rfl⟩
 rw [Hg0.out] at hZ1 hlt0 ⊢
 generalize w0.heap.size=p at *
 have HA1:=Lib.hid hA1;have Hk1:=Lib.hid hk1;have HZ1:=Lib.hid hZ1
 clear hk0 hZ0 hA1 hk1 hZ1 hb1 hnew
 go_wp2_with fail
 refine (hi1.out w1 p HA1.out).mono ?_
 rintro e w2 ⟨rfl,hA2,hk2⟩
 have HA2:=Lib.hid hA2;have Hk2:Hid (Keeps [p] w w2):=(Hk1.out.mono (M':=[p]) (by simp)).trans hk2 (fun g hg=>.inl hg)
 have HZ2:=Lib.hid (hk2.blk HZ1.out (by simp;omega))
 clear hA2 hk2 Hk1 HA1 HZ1
 go_wp2_with fail
 refine (hi2.out w2 p HA2.out).mono ?_
 rintro e w3 ⟨rfl,hA3,hk3⟩
 have hZ3:=hk3.blk HZ2.out (by simp;omega)
 have hpl3:=hA3.lt;have hgl3:=hZ3.lt
 obtain ⟨w4,hw4⟩:∃ w4,w4=w3.alloc (.cells #[.int .i64 t,.int .i64 hd,.slice none 0 0] 238):=⟨_,rfl⟩
 have hk34:Keeps [] w3 w4:=by rw [hw4];exact (Keeps.refl _ _).alloc _
 have HB4:Hid (Blk w4 w3.heap.size 238 #[.int .i64 t,.int .i64 hd,.slice none 0 0]):=by show Blk _ _ _ _;rw [hw4];exact Blk.new w3 _ _
 have HZ4:=Lib.hid (hk34.blk hZ3 (by simp))
 have HA4:=Lib.hid ((hA3.avoid (M':=[w3.heap.size]) (fun g hg=>.inr (by simp at hg;omega))).keep hk34 (by simp) (by simp))
 have Hk4:Hid (Keeps [p] w w4):=(Hk2.out.trans hk3 (fun g hg=>.inl hg)).trans hk34 (by simp)
 have hs34:g0≤w3.heap.size:=by
  rw [← Hg0.out];exact (Hk2.out.trans hk3 (fun g hg=>.inl hg)).size
 clear hA3 hk3 HA2 Hk2 HZ2 hZ3 hk34
 go_wp2_with fail
 rw [← hw4]
 clear hw4
 obtain ⟨g5,Hg5⟩:∃ g5,Hid (w3.heap.size=g5):=⟨_,rfl⟩
 rw [Hg5.out] at HA4 HB4 hpl3 hgl3 hs34 ⊢
 refine (hg.out w4 [g5] p HA4.out (by omega) ((Hk4.out.cell (p:=⟨0,0,none⟩) hw0 (by simp;omega)).trans (hkeepm.out w (Keeps.refl _ _)))).mono ?_
 intro e w5 hpost
 obtain ⟨r31,r32⟩:=r3
 cases r31 with
 | none=>
  simp only [MGetPost] at hpost
  obtain ⟨rfl,hk5⟩:=hpost
  have hB5:=hk5.blk HB4.out (by simp;omega)
  have hZ5:=hk5.blk HZ4.out (by simp;omega)
  obtain ⟨w6,hw6⟩:∃ w6,w6=w5.setCell ⟨g5,2,none⟩ (.slice none 0 0):=⟨_,rfl⟩
  have hB6:Blk w6 g5 238 #[.int .i64 t,.int .i64 hd,.slice none 0 0]:=by rw [hw6];simpa using hB5.set_ 2 (.slice none 0 0)
  have hk6:Keeps [g5] w5 w6:=by rw [hw6];exact (Keeps.refl _ _).setCell (by simp) _
  have hZ6:Blk w6 g0 238 #[.int .i64 0,.int .i64 0,.slice none 0 0]:=hk6.blk hZ5 (by simp;omega)
  have HB6:=Lib.hid hB6;have HZ6:=Lib.hid hZ6
  have hK6:Hid (Keeps [p,g5] w4 w6):=(hk5.mono (M':=[p,g5]) (fun g hg=>.inl (by simp at hg;simp [hg]))).trans hk6 (fun g hg=>.inl (by simp at hg;simp [hg]))
  have HC:Hid (∀ W,Keeps [g0] w6 W→(fun W=>W.cell? ⟨g5,0,none⟩=some (.int .i64 t)∧W.cell? ⟨g5,1,none⟩=some (.int .i64 hd)∧W.cell? ⟨g5,2,none⟩=some (.slice none 0 0)) W):=fun W hk=>by
   have hb:=hk.blk HB6.out (by simp;omega)
   exact ⟨hb.cell 0,hb.cell 1,hb.cell 2⟩
  have z0:=hZ6.cell 0;have z1:=hZ6.cell 1;have z2:=hZ6.cell 2;have f0:=hZ6.frozen 0;have f1:=hZ6.frozen 1;have f2:=hZ6.frozen 2
  simp only [List.getElem?_toArray,List.getElem?_cons_succ,List.getElem?_cons_zero] at z0 z1 z2
  have hgl:g0 < w6.heap.size:=hZ6.lt
  have c52:w5.cell? ⟨g5,2,none⟩=some (.slice none 0 0):=hB5.cell 2
  have f52:=hB5.frozen 2
  clear hB6 hk6 hZ6
  go_wp2_with fail
  rw [← hw6]
  clear hw6 c52 f52
  obtain ⟨b0,b1,b2⟩:=HC.out w6 (Keeps.refl _ _)
  have hk9:Hid (Keeps [] w ((((w6.setCell ⟨g0,0,none⟩ (.int .i64 t)).setCell ⟨g0,1,none⟩ (.int .i64 hd)).setCell ⟨g0,2,none⟩ (.slice none 0 0)).drew)):=by
   have hk9:Keeps [p,g5,g0] w w6:=(Hk4.out.mono (M':=[p,g5,g0]) (fun g hg=>.inl (by simp at hg;simp [hg]))).trans hK6.out (fun g hg=>.inl (by simp at hg ⊢;omega))
   exact (((hk9.setCell (by simp) _).setCell (by simp) _).setCell (by simp) _).drew.mono (M':=[]) (fun g hg=>.inr (by rw [Hg0.out];simp at hg;omega))
  have HR2:Hid (readV l=none):=HR.out
  have hP:Hid (VrPost (readV l) w (.returned (.tuple #[.agg #[.int .i64 t,.int .i64 hd,.slice none 0 0],.bool false])) (((w6.setCell ⟨g0,0,none⟩ (.int .i64 t)).setCell ⟨g0,1,none⟩ (.int .i64 hd)).setCell ⟨g0,2,none⟩ (.slice none 0 0)).drew):=by
   show VrPost _ _ _ _
   rw [HR2.out]
   exact ⟨t,hd,none,0,0,rfl,hk9.out⟩
  refine wR HC (Keeps.refl _ _) (fun hHeld=>?_)
  refine pq1 [0,1] ?_
  repeat ((refine wPq (v:=_) (by kernel_rfl) rfl (by rfl) (by intro w hSw;(try dsimp only at hSw);go_simp <;> with_reducible rfl) (fun _ _ _ h=>h) (by assumption) ?_);try simp only [sgl,Act.put])
  refine pq0 ?_
  refine wT 2 (v:=?v2u3) (by kernel_rfl) rfl (by rfl) ?y2u3 (fun _ _ _ h=>h) (by assumption) ?r2u3
  case y2u3=>(intro w hSw;(try dsimp only at hSw);go_simp <;> with_reducible rfl)
  refine tk [3,4] ?_
  refine wT 5 (v:=?v5u4) (by kernel_rfl) rfl (by rfl) ?y5u4 (fun _ _ _ h=>h) (by assumption) ?r5u4
  case y5u4=>(intro w hSw;(try dsimp only at hSw);go_simp <;> with_reducible rfl)
  try simp only [sgl,Act.put]
  refine rd 6 (fun K hK=>?_)
  go_simp
  refine hK.out _ _ (HC.out _ ((((Keeps.refl _ _).drew.setCell (by simp) _).setCell (by simp) _).setCell (by simp) _)) (fun _=>?_)
  clear hK K hHeld;rename_i hHeld
  try simp only [sgl,Act.put]
  refine wT 7 (v:=?v7u5) (by kernel_rfl) rfl (by rfl) ?y7u5 (fun _ _ _ h=>h) (by assumption) ?r7u5
  case y7u5=>(intro w hSw;(try dsimp only at hSw);go_simp <;> with_reducible rfl)
  try simp only [sgl,Act.put]
  refine dn ?_
  have hZ9:Blk (((w6.setCell ⟨g0,0,none⟩ (.int .i64 t)).setCell ⟨g0,1,none⟩ (.int .i64 hd)).setCell ⟨g0,2,none⟩ (.slice none 0 0)).drew g0 238 #[.int .i64 t,.int .i64 hd,.slice none 0 0]:=by
   have:=((HZ6.out.set_ 0 (.int .i64 t)).set_ 1 (.int .i64 hd)).set_ 2 (.slice none 0 0)
   simp at this
   exact this
  go_wp2_with fail
  refine bodyPost_ret (results_cell2 rfl _ _ g0 238 #[.int .i64 t,.int .i64 hd,.slice none 0 0] _ rfl hZ9 Tryz.underlying238 rfl (by kernel_rfl)) rfl ?_
  exact hP.out
 | some es=>
  obtain ⟨l3,b3⟩:=r32
  simp only [MGetPost] at hpost
  obtain ⟨lv,rfl,hE,hA5,hk5⟩:=hpost
  obtain ⟨Al,cl,rfl,_⟩:=(hE [] (by simp)).len
  have hB5:=hk5.blk HB4.out (by simp;omega)
  have hZ5:=hk5.blk HZ4.out (by simp;omega)
  have hsz45:g0 < w4.heap.size:=by have:=HZ4.out.lt;omega
  have HE:=Lib.hid hE
  have h54:g5 < w4.heap.size:=HB4.out.lt
  obtain ⟨w6,hw6⟩:∃ w6,w6=w5.setCell ⟨g5,2,none⟩ (.slice Al es.length cl):=⟨_,rfl⟩
  have hB6:Blk w6 g5 238 #[.int .i64 t,.int .i64 hd,.slice Al es.length cl]:=by rw [hw6];simpa using hB5.set_ 2 (.slice Al es.length cl)
  have hk6:Keeps [g5] w5 w6:=by rw [hw6];exact (Keeps.refl _ _).setCell (by simp) _
  have hZ6:Blk w6 g0 238 #[.int .i64 0,.int .i64 0,.slice none 0 0]:=hk6.blk hZ5 (by simp;omega)
  have HB6:=Lib.hid hB6;have HZ6:=Lib.hid hZ6
  have hK6:Hid (Keeps [p,g5] w4 w6):=(hk5.mono (M':=[p,g5]) (fun g hg=>.inl (by simp at hg;simp [hg]))).trans hk6 (fun g hg=>.inl (by simp at hg;simp [hg]))
  have HC:Hid (∀ W,Keeps [g0] w6 W→(fun W=>W.cell? ⟨g5,0,none⟩=some (.int .i64 t)∧W.cell? ⟨g5,1,none⟩=some (.int .i64 hd)∧W.cell? ⟨g5,2,none⟩=some (.slice Al es.length cl)) W):=fun W hk=>by
   have hb:=hk.blk HB6.out (by simp;omega)
   exact ⟨hb.cell 0,hb.cell 1,hb.cell 2⟩
  have z0:=hZ6.cell 0;have z1:=hZ6.cell 1;have z2:=hZ6.cell 2;have f0:=hZ6.frozen 0;have f1:=hZ6.frozen 1;have f2:=hZ6.frozen 2
  simp only [List.getElem?_toArray,List.getElem?_cons_succ,List.getElem?_cons_zero] at z0 z1 z2
  have hgl:g0 < w6.heap.size:=hZ6.lt
  have c52:w5.cell? ⟨g5,2,none⟩=some (.slice none 0 0):=hB5.cell 2
  have f52:=hB5.frozen 2
  have HK56e:=Lib.hid hk6
  have HA6:=Lib.hid (hA5.keep hk6 (fun g hg=>.inl hg) (by simp;omega))
  clear hB6 hk6 hZ6
  go_wp2_with fail
  rw [← hw6]
  clear hw6 c52 f52
  obtain ⟨b0,b1,b2⟩:=HC.out w6 (Keeps.refl _ _)
  have hk9:Hid (Keeps [] w ((((w6.setCell ⟨g0,0,none⟩ (.int .i64 t)).setCell ⟨g0,1,none⟩ (.int .i64 hd)).setCell ⟨g0,2,none⟩ (.slice Al es.length cl)).drew)):=by
   have hk9:Keeps [p,g5,g0] w w6:=(Hk4.out.mono (M':=[p,g5,g0]) (fun g hg=>.inl (by simp at hg;simp [hg]))).trans hK6.out (fun g hg=>.inl (by simp at hg ⊢;omega))
   exact (((hk9.setCell (by simp) _).setCell (by simp) _).setCell (by simp) _).drew.mono (M':=[]) (fun g hg=>.inr (by rw [Hg0.out];simp at hg;omega))
  have HK56:Hid (Keeps [g5,g0] w5 w6):=HK56e.out.mono (fun g hg=>.inl (by simp at hg;simp [hg]))
  have hEns:Hid (∀ M,(∀ g∈M,g < w.heap.size)→Ens (((w6.setCell ⟨g0,0,none⟩ (.int .i64 t)).setCell ⟨g0,1,none⟩ (.int .i64 hd)).setCell ⟨g0,2,none⟩ (.slice Al es.length cl)).drew M (.slice Al es.length cl) es):=fun M hM=>by
   rw [Hg0.out] at hM
   have h1 := HE.out (p :: g5 :: g0 :: M) (fun g hg => by
    simp only [List.mem_cons] at hg
    rcases hg with h | h | h | h
    ·omega
    ·omega
    ·omega
    ·have := hM g h; omega)
   have hk59:Keeps [g5,g0] w5 ((((w6.setCell ⟨g0,0,none⟩ (.int .i64 t)).setCell ⟨g0,1,none⟩ (.int .i64 hd)).setCell ⟨g0,2,none⟩ (.slice Al es.length cl)).drew):=(((HK56.out.setCell (by simp) _).setCell (by simp) _).setCell (by simp) _).drew
   exact (h1.keep hk59 (fun g hg=>.inl (by simp at hg ⊢;omega))).avoid (fun g hg=>.inl (by simp [hg]))
  cases b3 with
  | true=>
   have HR2:Hid (readV l=none):=by show _=_;rw [HR.out];simp
   have hP:Hid (VrPost (readV l) w (.returned (.tuple #[.agg #[.int .i64 t,.int .i64 hd,.slice Al es.length cl],.bool false])) (((w6.setCell ⟨g0,0,none⟩ (.int .i64 t)).setCell ⟨g0,1,none⟩ (.int .i64 hd)).setCell ⟨g0,2,none⟩ (.slice Al es.length cl)).drew):=by
    show VrPost _ _ _ _
    rw [HR2.out]
    exact ⟨t,hd,_,_,_,rfl,hk9.out⟩
   refine wR HC (Keeps.refl _ _) (fun hHeld=>?_)
   refine pq1 [0,1] ?_
   repeat ((refine wPq (v:=_) (by kernel_rfl) rfl (by rfl) (by intro w hSw;(try dsimp only at hSw);go_simp <;> with_reducible rfl) (fun _ _ _ h=>h) (by assumption) ?_);try simp only [sgl,Act.put])
   refine pq0 ?_
   refine wT 2 (v:=?v2u8) (by kernel_rfl) rfl (by rfl) ?y2u8 (fun _ _ _ h=>h) (by assumption) ?r2u8
   case y2u8=>(intro w hSw;(try dsimp only at hSw);go_simp <;> with_reducible rfl)
   refine tk [3,4] ?_
   refine wT 5 (v:=?v5u9) (by kernel_rfl) rfl (by rfl) ?y5u9 (fun _ _ _ h=>h) (by assumption) ?r5u9
   case y5u9=>(intro w hSw;(try dsimp only at hSw);go_simp <;> with_reducible rfl)
   try simp only [sgl,Act.put]
   refine rd 6 (fun K hK=>?_)
   go_simp
   refine hK.out _ _ (HC.out _ ((((Keeps.refl _ _).drew.setCell (by simp) _).setCell (by simp) _).setCell (by simp) _)) (fun _=>?_)
   clear hK K hHeld;rename_i hHeld
   try simp only [sgl,Act.put]
   refine wT 7 (v:=?v7u10) (by kernel_rfl) rfl (by rfl) ?y7u10 (fun _ _ _ h=>h) (by assumption) ?r7u10
   case y7u10=>(intro w hSw;(try dsimp only at hSw);go_simp <;> with_reducible rfl)
   try simp only [sgl,Act.put]
   refine dn ?_
   have hZ9:Blk (((w6.setCell ⟨g0,0,none⟩ (.int .i64 t)).setCell ⟨g0,1,none⟩ (.int .i64 hd)).setCell ⟨g0,2,none⟩ (.slice Al es.length cl)).drew g0 238 #[.int .i64 t,.int .i64 hd,.slice Al es.length cl]:=by
    have:=((HZ6.out.set_ 0 (.int .i64 t)).set_ 1 (.int .i64 hd)).set_ 2 (.slice Al es.length cl)
    simp at this
    exact this
   go_wp2_with fail
   refine bodyPost_ret (results_cell2 rfl _ _ g0 238 #[.int .i64 t,.int .i64 hd,.slice Al es.length cl] _ rfl hZ9 Tryz.underlying238 rfl (by kernel_rfl)) rfl ?_
   exact hP.out
  | false=>
   have HDn:Hid (∀ W,Keeps [] w6 W→Calls Tryz.prog 211 #[.pointer (some ⟨p,0,none⟩)] W fun e w'=>e=.returned (.bool (l3.isEmpty))∧W=w'):=fun W hk=>by
    have:=done_any [] p l3 false W ((HA6.out.avoid (M':=[]) (by simp)).keep hk (by simp) (by simp))
    simpa using this
   cases hem:l3.isEmpty with
   | false=>
    rw [hem] at HDn
    have HR2:Hid (readV l=none):=by show _=_;rw [HR.out];simp [hem]
    have hP:Hid (VrPost (readV l) w (.returned (.tuple #[.agg #[.int .i64 t,.int .i64 hd,.slice Al es.length cl],.bool false])) (((w6.setCell ⟨g0,0,none⟩ (.int .i64 t)).setCell ⟨g0,1,none⟩ (.int .i64 hd)).setCell ⟨g0,2,none⟩ (.slice Al es.length cl)).drew):=by
     show VrPost _ _ _ _
     rw [HR2.out]
     exact ⟨t,hd,_,_,_,rfl,hk9.out⟩
    refine wR HC (Keeps.refl _ _) (fun hHeld=>?_)
    refine pq1 [0,1,2,3] ?_
    repeat ((refine wPq (v:=_) (by kernel_rfl) rfl (by rfl) (by intro w hSw;(try dsimp only at hSw);go_simp <;> with_reducible rfl) (fun _ _ _ h=>h) (by assumption) ?_);try simp only [sgl,Act.put])
    refine pq0 ?_
    refine rd 4 (fun K hK=>?_)
    go_simp
    refine (HDn.out _ (Keeps.refl _ _).drew).mono ?_
    rintro e w7 ⟨rfl,rfl⟩
    refine hK.out _ _ (HC.out _ (Keeps.refl _ _).drew) (fun _=>?_)
    clear hK K hHeld;rename_i hHeld
    try simp only [sgl,Act.put]
    refine wT 5 (v:=?v5u15) (by kernel_rfl) rfl (by rfl) ?y5u15 (fun _ _ _ h=>h) (by assumption) ?r5u15
    case y5u15=>(intro w hSw;(try dsimp only at hSw);go_simp <;> with_reducible rfl)
    try simp only [sgl,Act.put]
    refine rd 6 (fun K hK=>?_)
    go_simp
    refine hK.out _ _ (HC.out _ ((((Keeps.refl _ _).drew.setCell (by simp) _).setCell (by simp) _).setCell (by simp) _)) (fun _=>?_)
    clear hK K hHeld;rename_i hHeld
    try simp only [sgl,Act.put]
    refine wT 7 (v:=?v7u16) (by kernel_rfl) rfl (by rfl) ?y7u16 (fun _ _ _ h=>h) (by assumption) ?r7u16
    case y7u16=>(intro w hSw;(try dsimp only at hSw);go_simp <;> with_reducible rfl)
    try simp only [sgl,Act.put]
    refine dn ?_
    have hZ9:Blk (((w6.setCell ⟨g0,0,none⟩ (.int .i64 t)).setCell ⟨g0,1,none⟩ (.int .i64 hd)).setCell ⟨g0,2,none⟩ (.slice Al es.length cl)).drew g0 238 #[.int .i64 t,.int .i64 hd,.slice Al es.length cl]:=by
     have:=((HZ6.out.set_ 0 (.int .i64 t)).set_ 1 (.int .i64 hd)).set_ 2 (.slice Al es.length cl)
     simp at this
     exact this
    go_wp2_with fail
    refine bodyPost_ret (results_cell2 rfl _ _ g0 238 #[.int .i64 t,.int .i64 hd,.slice Al es.length cl] _ rfl hZ9 Tryz.underlying238 rfl (by kernel_rfl)) rfl ?_
    exact hP.out
   | true=>
    rw [hem] at HDn
    have HR2:Hid (readV l=some ⟨t,hd,es⟩):=by show _=_;rw [HR.out];simp [hem]
    have hP:Hid (VrPost (readV l) w (.returned (.tuple #[.agg #[.int .i64 t,.int .i64 hd,.slice Al es.length cl],.bool true])) (((w6.setCell ⟨g0,0,none⟩ (.int .i64 t)).setCell ⟨g0,1,none⟩ (.int .i64 hd)).setCell ⟨g0,2,none⟩ (.slice Al es.length cl)).drew):=by
     show VrPost _ _ _ _
     rw [HR2.out]
     exact ⟨_,rfl,hEns.out,hk9.out⟩
    refine wR HC (Keeps.refl _ _) (fun hHeld=>?_)
    refine pq1 [0,1,2,3] ?_
    repeat ((refine wPq (v:=_) (by kernel_rfl) rfl (by rfl) (by intro w hSw;(try dsimp only at hSw);go_simp <;> with_reducible rfl) (fun _ _ _ h=>h) (by assumption) ?_);try simp only [sgl,Act.put])
    refine pq0 ?_
    refine rd 4 (fun K hK=>?_)
    go_simp
    refine (HDn.out _ (Keeps.refl _ _).drew).mono ?_
    rintro e w7 ⟨rfl,rfl⟩
    refine hK.out _ _ (HC.out _ (Keeps.refl _ _).drew) (fun _=>?_)
    clear hK K hHeld;rename_i hHeld
    try simp only [sgl,Act.put]
    refine wT 5 (v:=?v5u21) (by kernel_rfl) rfl (by rfl) ?y5u21 (fun _ _ _ h=>h) (by assumption) ?r5u21
    case y5u21=>(intro w hSw;(try dsimp only at hSw);go_simp <;> with_reducible rfl)
    try simp only [sgl,Act.put]
    refine rd 6 (fun K hK=>?_)
    go_simp
    refine hK.out _ _ (HC.out _ ((((Keeps.refl _ _).drew.setCell (by simp) _).setCell (by simp) _).setCell (by simp) _)) (fun _=>?_)
    clear hK K hHeld;rename_i hHeld
    try simp only [sgl,Act.put]
    refine wT 7 (v:=?v7u22) (by kernel_rfl) rfl (by rfl) ?y7u22 (fun _ _ _ h=>h) (by assumption) ?r7u22
    case y7u22=>(intro w hSw;(try dsimp only at hSw);go_simp <;> with_reducible rfl)
    try simp only [sgl,Act.put]
    refine dn ?_
    have hZ9:Blk (((w6.setCell ⟨g0,0,none⟩ (.int .i64 t)).setCell ⟨g0,1,none⟩ (.int .i64 hd)).setCell ⟨g0,2,none⟩ (.slice Al es.length cl)).drew g0 238 #[.int .i64 t,.int .i64 hd,.slice Al es.length cl]:=by
     have:=((HZ6.out.set_ 0 (.int .i64 t)).set_ 1 (.int .i64 hd)).set_ 2 (.slice Al es.length cl)
     simp at this
     exact this
    go_wp2_with fail
    refine bodyPost_ret (results_cell2 rfl _ _ g0 238 #[.int .i64 t,.int .i64 hd,.slice Al es.length cl] _ rfl hZ9 Tryz.underlying238 rfl (by kernel_rfl)) rfl ?_
    exact hP.out
/-- A replica's word lies in block s, its log in p, its disk in d. -/
def StAt (w:World) (s p:Nat) (Y:List Nat) (x:WordD) (d:Nat) (b:List UInt8) (k n:Nat):Prop:=
 ∃ lv,Blk w s 240 #[.int .i64 x.t,.int .i64 x.h,lv,.pointer (some ⟨p,0,none⟩)]∧Ens w (s :: p :: Y) lv x.log∧LgAt w p Y d b k n∧s∉p :: Y∧WOk x
theorem LgAt.old {w:World} {p:Nat} {Y:List Nat} {d k n:Nat} {b:List UInt8} (h:LgAt w p Y d b k n):∀ g∈p :: Y,g < w.heap.size:=fun g hg=>by
 rcases List.mem_cons.1 hg with rfl | hg
 ·exact h.1.lt
 ·exact h.2.1.old g hg
section
variable {w w':World} {s p:Nat} {Y:List Nat} {x:WordD} {d k n:Nat} {b:List UInt8}
theorem StAt.old (h:StAt w s p Y x d b k n):∀ g∈s :: p :: Y,g < w.heap.size:=fun g hg=>by
 obtain ⟨lv,hb,_,hl,_⟩:=h
 rcases List.mem_cons.1 hg with rfl | hg
 ·exact hb.lt
 ·exact hl.old g hg
theorem StAt.ok (h:StAt w s p Y x d b k n):WOk x:=by obtain ⟨_,_,_,_,_,h⟩:=h;exact h
theorem StAt.keep {M:List Nat} (h:StAt w s p Y x d b k n) (hk:Keeps M w w') (hM:∀ g∈M,w.heap.size≤g):StAt w' s p Y x d b k n:=by
 have ho:=h.old
 obtain ⟨lv,hb,he,hl,hs,ho'⟩:=h
 exact ⟨lv,hk.blk hb (fun hm=>by have:=hM s hm;have:=ho s (by simp);omega),he.keep hk (fun g hg=>.inr (hM g hg)),hl.keep hk (fun g hg hm=>by have:=hM g hm;have:=ho g (by simp at hg ⊢;exact .inr hg);omega),hs,ho'⟩
theorem StAt.keep0 (h:StAt w s p Y x d b k n) (hk:Keeps [] w w'):StAt w' s p Y x d b k n:=h.keep hk (by simp)
theorem StAt.lv (h:StAt w s p Y x d b k n):∃ A c,Blk w s 240 #[.int .i64 x.t,.int .i64 x.h,.slice A x.log.length c,.pointer (some ⟨p,0,none⟩)]∧Ens w (s :: p :: Y) (.slice A x.log.length c) x.log:=by
 obtain ⟨lv,hb,he,_⟩:=h
 obtain ⟨A,c,rfl,_⟩:=he.len
 exact ⟨A,c,hb,he⟩
end
theorem blk4 {w:World} {g:Nat} {t:TypeId} {c0 c1 c2 c3:Value} (h:Blk w g t #[c0,c1,c2,c3]) :
  w.cell? ⟨g,0,none⟩=some c0∧w.cell? ⟨g,1,none⟩=some c1∧w.cell? ⟨g,2,none⟩=some c2∧w.cell? ⟨g,3,none⟩=some c3∧g < w.heap.size:=⟨h.cell 0,h.cell 1,h.cell 2,h.cell 3,h.lt⟩
section
variable {s p:Nat} {Y:List Nat} {x:WordD} {d k n:Nat} {b:List UInt8}
theorem vhad_any (w:World) (h:StAt w s p Y x d b k n) :
  Calls Tryz.prog 70 #[.pointer (some ⟨s,0,none⟩)] w fun e w'=>e=.returned (.int .i64 x.h)∧w=w':=by
 obtain ⟨A,c,hb,_⟩:=h.lv
 obtain ⟨c0,c1,c2,c3,hlt⟩:=blk4 hb
 clear h hb
 go_enter Tryz.func70,Tryz.ntmps70
 go_wp2
 go_ret
 exact ⟨rfl,rfl⟩
/-- What a call answers that makes a row of entries. -/
def EnsPost (l:List EntryD) (w:World) (e:Ending) (w':World):Prop:=∃ A,e=.returned (.slice A l.length l.length)∧(∀ M,(∀ g∈M,g < w.heap.size)→Ens w' M (.slice A l.length l.length) l)∧Keeps [] w w'
theorem eok_ds8 {e:EntryD} (h:EOk e):e.ds.length≤8:=by
 obtain ⟨hr,_⟩:=h
 have hk:=right_kind hr
 rcases (right_facts hr).2 with h | h
 ·have:e.ds=[]:=by
   unfold kindS at hk
   simp [h] at hk
   first | exact hk.2 | exact hk.2.2 | exact hk
  rw [this];simp
 ·exact h.2.2.2.2.2.2.2
theorem vlog_any (w:World) (h:StAt w s p Y x d b k n) :
  Calls Tryz.prog 72 #[.pointer (some ⟨s,0,none⟩)] w fun e w'=>EnsPost x.log w e w':=by
 have hok:=h.ok
 obtain ⟨A,c,hb,he⟩:=h.lv
 obtain ⟨c0,c1,c2,c3,hlt⟩:=blk4 hb
 have hc:=Lib.hid (copies_any _ _ x.log w he (by have:=hok.2.2.1;omega) (fun e hm=>by have:=eok_ds8 (hok.2.2.2 e hm);omega))
 clear h hb he
 go_enter Tryz.func72,Tryz.ntmps72
 go_wp2_with fail
 refine hc.out.mono ?_
 rintro e w1 ⟨A1,rfl,hE,hb1⟩
 have hP:Hid (EnsPost x.log w (.returned (.slice A1 x.log.length x.log.length)) w1):=⟨A1,rfl,hE,Keeps.of_below hb1⟩
 clear hE hb1
 go_wp2
 go_ret
 exact hP.out
end
def KpOk (y:WordD) (b:List UInt8):Prop:=(recL y).length≤65536∧b.length + (frameL (recL y)).length≤1048576
instance (y:WordD) (b:List UInt8):Decidable (KpOk y b):=inferInstanceAs (Decidable (_∧_))
def KpPost (s p:Nat) (Y:List Nat) (y:WordD) (d:Nat) (b:List UInt8) (n:Nat) (w:World) (e:Ending) (w':World):Prop:=
 if KpOk y b then e=.returned (.bool true)∧∃ Y',StAt w' s p Y' y d (b++frameL (recL y)) (b.length + (frameL (recL y)).length) (n + 1)∧Grows Y w Y'∧Keeps (s :: p :: Y) w w'
 else e=.returned (.bool false)∧Keeps [] w w'
def VoPost (Y:List Nat) (d:Nat) (b:List UInt8) (w:World) (e:Ending) (w':World):Prop:=
 ∃ s p,e=.returned (.pointer (some ⟨s,0,none⟩))∧StAt w' s p Y (lastV word0 (scanS b).1) d (b.take (scanS b).2) (scanS b).2 (scanS b).1.length∧Keeps Y w w'∧w.heap.size≤s∧w.heap.size≤p
/-- The word of a state is set anew. -/
theorem StAt.turn {w w':World} {s p:Nat} {Y:List Nat} {x y:WordD} {d k n:Nat} {b:List UInt8} {lv:Value} (h:StAt w s p Y x d b k n) (hk:Keeps [] w w') (he:Ens w' (s :: p :: Y) lv y.log) (hy:WOk y) :
  StAt (((w'.setCell ⟨s,0,none⟩ (.int .i64 y.t)).setCell ⟨s,1,none⟩ (.int .i64 y.h)).setCell ⟨s,2,none⟩ lv) s p Y y d b k n:=by
 have h':=h.keep0 hk
 obtain ⟨l0,hb,_,hl,hs,_⟩:=h'
 have hks:Keeps [s] w' (((w'.setCell ⟨s,0,none⟩ (.int .i64 y.t)).setCell ⟨s,1,none⟩ (.int .i64 y.h)).setCell ⟨s,2,none⟩ lv):=(((Keeps.refl _ _).setCell (by simp) _).setCell (by simp) _).setCell (by simp) _
 exact ⟨lv,by simpa using ((hb.set_ 0 (.int .i64 y.t)).set_ 1 (.int .i64 y.h)).set_ 2 lv,he.keep hks (fun g hg=>by simp at hg;subst hg;exact .inl (by simp)),hl.keep hks (fun g hg hm=>by simp at hm;subst hm;exact hs hg),hs,hy⟩
theorem lastV_succ (x:WordD) (rs:List (List UInt8)) (j:Nat) (hj:j < rs.length):lastV x (rs.take (j + 1))=(readV rs[j]).getD (lastV x (rs.take j)):=by
 unfold lastV
 rw [List.take_succ_eq_append_getElem hj,List.foldl_append]
 rfl
theorem vopen_any (Y:List Nat) (d k:Nat) (b:List UInt8) (w:World) (h:DkAt w Y d b k) (m:Int) (hm:w.cell? ⟨0,0,none⟩=some (.int .i64 m)) (h0:0∉Y) :
  Calls Tryz.prog 67 #[.pointer (some ⟨d,0,none⟩)] w fun e w'=>VoPost Y d b w e w':=by
 have hw0:0 < w.heap.size:=by
  have:=World.block_lt_of_cell? w _ hm
  simpa using this
 have ho:=wopen_any Y d k b w h
 have hle:=h.le
 have hYo:=h.old
 obtain ⟨hs1,hs2,hs3⟩:=scanS_bd b
 have hkeepm:Hid (∀ W,Keeps Y w W→W.cell? ⟨0,0,none⟩=some (.int .i64 m)):=fun W hb=>(hb.cell (p:=⟨0,0,none⟩) hw0 h0).trans hm
 have Ho:=Lib.hid ho;have HYo:=Lib.hid hYo
 have HP:Hid (∀ s p W,StAt W s p Y (lastV word0 (scanS b).1) d (b.take (scanS b).2) (scanS b).2 (scanS b).1.length→Keeps Y w W→w.heap.size≤s→w.heap.size≤p→VoPost Y d b w (.returned (.pointer (some ⟨s,0,none⟩))) W):=fun s p W h1 h2 h3 h4=>⟨s,p,rfl,h1,h2,h3,h4⟩
 have HO:Hid (∀ e W,WoPost Y d b w e W→∃ p v,e=.returned (.tuple #[.pointer (some ⟨p,0,none⟩),v])∧w.heap.size≤p∧LgAt W p Y d (b.take (scanS b).2) (scanS b).2 (scanS b).1.length∧(∀ M,(∀ g∈M,g < w.heap.size)→Bss W (p :: M) v (scanS b).1)∧Keeps Y w W):=fun _ _ h=>h
 clear h ho hYo hm
 generalize scanS b=R at *
 obtain ⟨rs,n⟩:=R
 simp only [] at hs1 hs2 hs3 HP HO
 go_enter Tryz.func67,Tryz.ntmps67
 go_wp2_with fail
 refine Ho.out.mono ?_
 intro e w1 hpost
 obtain ⟨p,v,rfl,hp,hL,hB,hK⟩:=HO.out _ _ hpost
 have HL:=Lib.hid hL;have HK:=Lib.hid hK
 have hpw:=hL.1.lt
 obtain ⟨w2,hw2⟩:∃ w2,w2=w1.alloc (.cells #[.int .i64 0,.int .i64 0,.slice none 0 0,.pointer (some ⟨p,0,none⟩)] 240):=⟨_,rfl⟩
 have hk2:Keeps [] w1 w2:=by rw [hw2];exact (Keeps.refl _ _).alloc _
 have hS2:StAt w2 w1.heap.size p Y word0 d (b.take n) n rs.length:=by
  refine ⟨.slice none 0 0,by rw [hw2];exact Blk.new w1 _ _,Ens.nil _ _,hL.keep0 hk2,fun hm=>by have:=hL.old _ hm;omega,word0_ok⟩
 have HB2:Hid (Bss w2 [w1.heap.size] v rs):=((hB [] (by simp)).avoid (M':=[w1.heap.size]) (fun g hg=>by simp at hg;subst hg;exact .inr (Nat.le_refl _))).keep hk2 (by simp)
 have HS2:=Lib.hid hS2
 have HK2:Hid (Keeps Y w w2):=hK.trans hk2 (by simp)
 have hs0:w.heap.size≤w1.heap.size:=hK.size
 obtain ⟨A,c,rfl,hc⟩:=HB2.out.len
 clear hpost hL hB hK hk2 hS2
 go_wp2_with fail
 rw [← hw2]
 clear hw2
 generalize w1.heap.size=s at *
 go_loopw [22] (fun i wr=>∃ j:Nat,i=.int .i64 j∧j≤rs.length∧Hid (StAt wr s p Y (lastV word0 (rs.take j)) d (b.take n) n rs.length)∧Hid (Keeps [s] w2 wr)) (fun i _=>rs.length - (intOf i).toNat)
 case atStart=>exact ⟨0,rfl,by omega,(by show StAt _ _ _ _ _ _ _ _ _;exact HS2.out),Keeps.refl _ _⟩
 case round=>
  obtain ⟨j,rfl,hj,HS,HKr⟩:=hrel
  by_cases hlt:j < rs.length
  ·have hji:(j:Int) < (rs.length:Int):=by omega
   have HBr:=Lib.hid (HB2.out.keep HKr.out (fun g hg=>.inl hg))
   obtain ⟨g,off,cap,bv,e1,hg,hgs,hcell,hbv⟩:=HBr.out.at_ hlt
   injection e1 with e1 _ e3
   subst e1 e3
   obtain ⟨Ab,cb,rfl,_⟩:=hbv.len
   have hKw:Keeps Y w wr:=HK2.out.trans HKr.out (fun g hg=>by simp at hg;subst hg;exact .inr hs0)
   have hrd:=Lib.hid (vread_any _ rs[j] m wr (hbv.avoid (by simp)) (hs2 _ (List.getElem_mem hlt)) (hkeepm.out wr hKw))
   have HX:=Lib.hid (lastV_succ word0 rs j hlt)
   have hxk:=Lib.hid (fun (y:WordD) (h:readV rs[j]=some y)=>readV_ok (by have:=hs2 _ (List.getElem_mem hlt);omega) h)
   clear hbv hKw
   generalize readV rs[j]=rv at *
   generalize rs[j]=rj at *
   have hcc:=hcell
   go_wp2_with fail
   refine hrd.out.mono ?_
   intro e w3 hpost
   cases rv with
   | none=>
    simp only [VrPost] at hpost
    obtain ⟨a0,b0,A0,n0,c0,rfl,hk3⟩:=hpost
    have HS3:Hid (StAt (w3.alloc (.cells #[.int .i64 a0,.int .i64 b0,.slice A0 n0 c0] 238)) s p Y (lastV word0 (rs.take (j + 1))) d (b.take n) n rs.length):=by
     show StAt _ _ _ _ _ _ _ _ _
     rw [HX.out]
     exact HS.out.keep0 (hk3.alloc _)
    have HK3:Hid (Keeps [s] w2 (w3.alloc (.cells #[.int .i64 a0,.int .i64 b0,.slice A0 n0 c0] 238))):=HKr.out.trans (hk3.alloc _) (by simp)
    clear hk3 hrd
    go_wp2_with fail
    go_roundw
    case rel=>exact ⟨j + 1,by go_num,by omega,HS3,HK3⟩
    case measure=>simp [intOf] <;> omega
   | some y=>
    simp only [VrPost] at hpost
    obtain ⟨lv,rfl,hE,hk3⟩:=hpost
    obtain ⟨Al,cl,rfl,_⟩:=(hE [] (by simp)).len
    have hyk:=hxk.out y rfl
    have hE3:Ens w3 (s :: p :: Y) (.slice Al y.log.length cl) y.log:=hE (s :: p :: Y) (fun g hg=>HS.out.old g hg)
    have HT:=HS.out.turn hk3 hE3 hyk
    have hS3:=HS.out.keep0 hk3
    obtain ⟨As,cs,hbs,_⟩:=hS3.lv
    obtain ⟨s0,s1,s2,s3,hsl⟩:=blk4 hbs
    have f0:=hbs.frozen 0;have f1:=hbs.frozen 1;have f2:=hbs.frozen 2
    have HK5:Keeps [s] w2 (((w3.setCell ⟨s,0,none⟩ (.int .i64 y.t)).setCell ⟨s,1,none⟩ (.int .i64 y.h)).setCell ⟨s,2,none⟩ (.slice Al y.log.length cl)):=
     (((HKr.out.trans hk3 (by simp)).setCell (by simp) _).setCell (by simp) _).setCell (by simp) _
    have HX2:Hid (lastV word0 (rs.take (j + 1))=y):=HX.out
    have HS5:Hid (StAt ((((w3.setCell ⟨s,0,none⟩ (.int .i64 y.t)).setCell ⟨s,1,none⟩ (.int .i64 y.h)).setCell ⟨s,2,none⟩ (.slice Al y.log.length cl)).alloc (.cells #[.int .i64 y.t,.int .i64 y.h,.slice Al y.log.length cl] 238)) s p Y (lastV word0 (rs.take (j + 1))) d (b.take n) n rs.length):=by
     show StAt _ _ _ _ _ _ _ _ _
     rw [HX2.out]
     exact HT.keep0 ((Keeps.refl _ _).alloc _)
    have HK6:=Lib.hid (HK5.alloc (.cells #[.int .i64 y.t,.int .i64 y.h,.slice Al y.log.length cl] 238))
    clear hE hk3 hrd hE3 hS3 hbs HX HK5 HT HX2
    go_wp2_with fail
    go_roundw
    case rel=>exact ⟨j + 1,by go_num,by omega,HS5,HK6⟩
    case measure=>simp [intOf] <;> omega
  ·obtain rfl:j=rs.length:=by omega
   have hji:¬ (rs.length:Int) < (rs.length:Int):=by omega
   have hfin:Hid (VoPost Y d b w (.returned (.pointer (some ⟨s,0,none⟩))) wr):=HP.out s p wr (by have:=HS.out;rwa [List.take_length] at this) (HK2.out.trans HKr.out (fun g hg=>by simp at hg;subst hg;exact .inr hs0)) hs0 hp
   go_wp2
   go_ret
   exact hfin.out
theorem KpPost.drew {s p:Nat} {Y:List Nat} {y:WordD} {d:Nat} {b:List UInt8} {n:Nat} {w w0 w':World} {e:Ending} (h:KpPost s p Y y d b n w0 e w') (hk:Keeps [] w w0):KpPost s p Y y d b n w e w':=by
 unfold KpPost at h ⊢
 split at h
 ·rename_i hc
  rw [if_pos hc]
  obtain ⟨he,Y',h1,h2,h3⟩:=h
  refine ⟨he,Y',h1,fun g hg=>(h2 g hg).imp id (Nat.le_trans hk.size),(hk.mono (M':=s :: p :: Y) (by simp)).trans h3 (fun g hg=>.inl hg)⟩
 ·rename_i hc
  rw [if_neg hc]
  exact ⟨h.1,hk.trans h.2 (by simp)⟩
theorem KpPost.val {s p:Nat} {Y:List Nat} {y:WordD} {d:Nat} {b:List UInt8} {n:Nat} {w w':World} {e:Ending} (h:KpPost s p Y y d b n w e w'):e=.returned (.bool (decide (KpOk y b))):=by
 unfold KpPost at h
 split at h
 ·rename_i hc;rw [decide_eq_true hc];exact h.1
 ·rename_i hc;rw [decide_eq_false hc];exact h.1
def accLong (x:WordD) (t:Nat) (l:List EntryD):Prop:=x.h < t∨x.log.length < l.length
instance (x:WordD) (t:Nat) (l:List EntryD):Decidable (accLong x t l):=inferInstanceAs (Decidable (_∨_))
def AcOk (x:WordD) (term:Int) (l:List EntryD):Prop:=(x.t:Int)≤term∧1≤term∧l.length≤128∧∀ e∈l,rightE e=0
instance (x:WordD) (term:Int) (l:List EntryD):Decidable (AcOk x term l):=inferInstanceAs (Decidable (_∧_∧_∧_))
end Go.Proofs.YtambjickanapjaaGreatDoor.Vi
end
section
namespace Go.Proofs.YtambjickanapjaaGreatDoor.Lead
open Go.RowKit Base Mem
structure VoteD where
 term:Int
 nodes:Int
 prom:List Bool
 acc:List Int
 had:Int
 best:List EntryD
 n:Int
def voteCells (s:VoteD) (bv:Value):List Value:=[.int .i64 s.term,.int .i64 s.nodes]++(s.prom.map Value.bool++(s.acc.map (Value.int .i64)++[.int .i64 s.had,bv,.int .i64 s.n]))
structure VoteAt (w:World) (M:List Nat) (b:Nat) (s:VoteD):Prop where
 l1:s.prom.length=8
 l2:s.acc.length=8
 mem:∃ bv,Blk w b 410 (voteCells s bv).toArray∧Ens w (b :: M) bv s.best
section
variable {w:World} {M:List Nat} {b:Nat} {s:VoteD}
theorem VoteAt.cells (h:VoteAt w M b s):∃ bv,Ens w (b :: M) bv s.best∧b < w.heap.size∧(∀ i,w.frozen? ⟨b,i,none⟩=false)∧w.cell? ⟨b,0,none⟩=some (.int .i64 s.term)∧w.cell? ⟨b,1,none⟩=some (.int .i64 s.nodes)∧
  (∀ i,i < 8→w.cell? ⟨b,2 + i,none⟩=some (.bool (s.prom.getD i false)))∧(∀ i,i < 8→w.cell? ⟨b,10 + i,none⟩=some (.int .i64 (s.acc.getD i 0)))∧
  w.cell? ⟨b,18,none⟩=some (.int .i64 s.had)∧w.cell? ⟨b,19,none⟩=some bv∧w.cell? ⟨b,20,none⟩=some (.int .i64 s.n):=by
 obtain ⟨h1,h2,bv,hb,he⟩:=h
 obtain ⟨term,nodes,prom,acc,had,best,n⟩:=s
 match prom,h1,acc,h2 with
 | [p0,p1,p2,p3,p4,p5,p6,p7],_,[a0,a1,a2,a3,a4,a5,a6,a7],_=>
  refine ⟨bv,he,hb.lt,hb.frozen,hb.cell 0,hb.cell 1,?_,?_,hb.cell 18,hb.cell 19,hb.cell 20⟩
  ·intro i hi
   rw [hb.cell]
   rcases (show i=0∨i=1∨i=2∨i=3∨i=4∨i=5∨i=6∨i=7 by omega) with rfl | rfl | rfl | rfl | rfl | rfl | rfl | rfl <;> rfl
  ·intro i hi
   rw [hb.cell]
   rcases (show i=0∨i=1∨i=2∨i=3∨i=4∨i=5∨i=6∨i=7 by omega) with rfl | rfl | rfl | rfl | rfl | rfl | rfl | rfl <;> rfl
end
section
variable {w:World} {M:List Nat} {b:Nat} {s:VoteD}
theorem VoteAt.drewN (h:VoteAt w M b s) (n:Nat):VoteAt (w.drewN n) M b s:=by
 obtain ⟨h1,h2,bv,hb,he⟩:=h
 exact ⟨h1,h2,bv,hb,he.keep (M':=[]) ((Keeps.refl _ _).drewN n) (by simp)⟩
theorem VoteAt.keep {M':List Nat} {w':World} (h:VoteAt w M b s) (k:Keeps M' w w') (hb:b∉M') (hM:∀ g∈M',g∈M∨w.heap.size≤g):VoteAt w' M b s:=by
 obtain ⟨h1,h2,bv,hb',he⟩:=h
 exact ⟨h1,h2,bv,k.blk hb' hb,he.keep k (fun g hg=>(hM g hg).imp (List.mem_cons_of_mem _) id)⟩
end
def wonS (s:VoteD):Bool:=decide (s.nodes < 2 * s.n)
def taken (s:VoteD) (i:Nat):VoteD:={ s with prom:=s.prom.set i true,n:=s.n + 1 }
def better (s:VoteD) (had:Int) (l:List EntryD):Bool:=decide (s.n=0∨s.had < had∨had=s.had∧s.best.length < l.length)
def promiseS (s:VoteD) (fr had:Int) (l:List EntryD):Bool×VoteD:=
 if 0≤fr∧fr < s.nodes∧s.prom.getD fr.toNat false=false then
  if wonS s then (false,taken s fr.toNat)
  else if better s had l then (wonS (taken s fr.toNat),{ taken s fr.toNat with had:=had,best:=l })
  else (wonS (taken s fr.toNat),taken s fr.toNat)
 else (false,s)

def okTerm (above node nodes:Int):Prop:=(1≤nodes∧nodes≤8)∧0≤node∧node < nodes∧0≤above∧above≤1099511627776
instance (above node nodes:Int):Decidable (okTerm above node nodes):=by unfold okTerm;infer_instance
def termS (above node nodes:Int):Int:=if okTerm above node nodes then above + 1 + (node - (above + 1)) % nodes else 0
def newVote (term nodes:Int):VoteD:=⟨term,nodes,List.replicate 8 false,List.replicate 8 0,0,[],0⟩
def accS (s:VoteD) (fr n:Int):List Int:=if 0≤fr∧fr < s.nodes then s.acc.set fr.toNat (max (s.acc.getD fr.toNat 0) n) else s.acc
def medS (l:List Int) (k:Nat):Int:=((l.take k).mergeSort fun x y=>decide (x≤y)).getD ((k - 1) / 2) 0
end Go.Proofs.YtambjickanapjaaGreatDoor.Lead
end
section
namespace Go.Proofs.YtambjickanapjaaGreatDoor.Vi
open Go.RowKit Base Mem Go.Shelf Tape
open Lead (VoteD promiseS wonS accS medS termS newVote)
/-- A replica: its word and where that is written, its machine, its vote. -/
structure RpD where
 node:Int
 nodes:Int
 x:WordD
 b:List UInt8
 k:Nat
 n:Nat
 st:McD
 com:Nat
 ap:Nat
 v:Option VoteD
 leads:Bool
 own:Nat
def rpKeep (R:RpD) (y:WordD):Bool×RpD:=if KpOk y R.b then (true,{ R with x:=y,b:=R.b++frameL (recL y),k:=R.b.length + (frameL (recL y)).length,n:=R.n + 1 }) else (false,R)
/-- A replica on a disk. -/
def mc00:McD:=⟨.map [],.map [],fun _=>none⟩
def rpNew (node nodes:Int) (b:List UInt8):RpD:=⟨node,nodes,lastV word0 (scanS b).1,b.take (scanS b).2,(scanS b).2,(scanS b).1.length,mc00,0,0,none,false,0⟩
end Go.Proofs.YtambjickanapjaaGreatDoor.Vi
end
section
namespace Go.Proofs.YtambjickanapjaaGreatDoor.Vi
open Go.RowKit Base Mem Tape Go.Shelf
/-- A replica's word; its row avoids blocks Z too. -/
def StZ (w:World) (s p:Nat) (Y Z:List Nat) (x:WordD) (d:Nat) (b:List UInt8) (k n:Nat):Prop:=
 ∃ lv,Blk w s 240 #[.int .i64 x.t,.int .i64 x.h,lv,.pointer (some ⟨p,0,none⟩)]∧Ens w ((s :: p :: Y)++Z) lv x.log∧LgAt w p Y d b k n∧s∉p :: Y∧WOk x
section
variable {w w':World} {s p:Nat} {Y Z:List Nat} {x:WordD} {d k n:Nat} {b:List UInt8}
theorem StZ.st (h:StZ w s p Y Z x d b k n):StAt w s p Y x d b k n:=by
 obtain ⟨lv,hb,he,hr⟩:=h
 exact ⟨lv,hb,he.avoid (fun g hg=>.inl (List.mem_append_left _ hg)),hr⟩
theorem StZ.old (h:StZ w s p Y Z x d b k n):∀ g∈s :: p :: Y,g < w.heap.size:=h.st.old
theorem StZ.ok (h:StZ w s p Y Z x d b k n):WOk x:=h.st.ok
theorem StZ.keepZ {M:List Nat} (h:StZ w s p Y Z x d b k n) (hk:Keeps M w w') (hM:∀ g∈M,g∈Z∨w.heap.size≤g) (hn:∀ g∈s :: p :: Y,g∉M):StZ w' s p Y Z x d b k n:=by
 obtain ⟨lv,hb,he,hl,hs,ho'⟩:=h
 exact ⟨lv,hk.blk hb (hn s (by simp)),he.keep hk (fun g hg=>(hM g hg).imp (fun h=>List.mem_append_right _ h) id),hl.keep hk (fun g hg=>hn g (List.mem_cons_of_mem _ hg)),hs,ho'⟩
theorem StZ.keep0 (h:StZ w s p Y Z x d b k n) (hk:Keeps [] w w'):StZ w' s p Y Z x d b k n:=h.keepZ hk (by simp) (by simp)
theorem StZ.more {Z':List Nat} (h:StZ w s p Y Z x d b k n) (hZ:∀ g∈Z',g∈Z∨w.heap.size≤g):StZ w s p Y Z' x d b k n:=by
 obtain ⟨lv,hb,he,hr⟩:=h
 exact ⟨lv, hb, he.avoid (fun g hg => by
  rcases List.mem_append.1 hg with h | h
  ·exact .inl (List.mem_append_left _ h)
  ·exact (hZ g h).imp (fun h => List.mem_append_right _ h) id), hr⟩
theorem StZ.lv (h:StZ w s p Y Z x d b k n):∃ A c,Blk w s 240 #[.int .i64 x.t,.int .i64 x.h,.slice A x.log.length c,.pointer (some ⟨p,0,none⟩)]∧Ens w ((s :: p :: Y)++Z) (.slice A x.log.length c) x.log:=by
 obtain ⟨lv,hb,he,_⟩:=h
 obtain ⟨A,c,rfl,_⟩:=he.len
 exact ⟨A,c,hb,he⟩
end
def KpPostZ (s p:Nat) (Y Z:List Nat) (y:WordD) (d:Nat) (b:List UInt8) (n:Nat) (w:World) (e:Ending) (w':World):Prop:=
 if KpOk y b then e=.returned (.bool true)∧∃ Y',StZ w' s p Y' Z y d (b++frameL (recL y)) (b.length + (frameL (recL y)).length) (n + 1)∧Grows Y w Y'∧Keeps (s :: p :: Y) w w'
 else e=.returned (.bool false)∧Keeps [] w w'
theorem KpPostZ.drew {s p:Nat} {Y Z:List Nat} {y:WordD} {d:Nat} {b:List UInt8} {n:Nat} {w w0 w':World} {e:Ending} (h:KpPostZ s p Y Z y d b n w0 e w') (hk:Keeps [] w w0):KpPostZ s p Y Z y d b n w e w':=by
 unfold KpPostZ at h ⊢
 split at h
 ·rename_i hc
  rw [if_pos hc]
  obtain ⟨he,Y',h1,h2,h3⟩:=h
  refine ⟨he,Y',h1,fun g hg=>(h2 g hg).imp id (Nat.le_trans hk.size),(hk.mono (M':=s :: p :: Y) (by simp)).trans h3 (fun g hg=>.inl hg)⟩
 ·rename_i hc
  rw [if_neg hc]
  exact ⟨h.1,hk.trans h.2 (by simp)⟩
theorem KpPostZ.val {s p:Nat} {Y Z:List Nat} {y:WordD} {d:Nat} {b:List UInt8} {n:Nat} {w w':World} {e:Ending} (h:KpPostZ s p Y Z y d b n w e w'):e=.returned (.bool (decide (KpOk y b))):=by
 unfold KpPostZ at h
 split at h
 ·rename_i hc;rw [decide_eq_true hc];exact h.1
 ·rename_i hc;rw [decide_eq_false hc];exact h.1
end Go.Proofs.YtambjickanapjaaGreatDoor.Vi
end
section
namespace Go.Proofs.YtambjickanapjaaGreatDoor.Vi
open Go.RowKit Base Mem Go.Shelf Tape
open Lead (VoteD VoteAt)
structure RpC where
 s:Nat
 p:Nat
 g:Nat
 d:Nat
 Y:List Nat
 X:List Nat
 vb:Nat
 N:Nat
def rpCells (R:RpD) (C:RpC):Array Value:=#[.int .i64 R.node,.int .i64 R.nodes,.pointer (some ⟨C.s,0,none⟩),.pointer (some ⟨C.g,0,none⟩),.int .i64 R.com,.pointer (R.v.map fun _=>⟨C.vb,0,none⟩),.bool R.leads,.int .i64 R.own]
def VtOk (nodes:Int) (v:VoteD):Prop:=v.nodes=nodes∧0≤v.term∧v.term≤9223372036854775807∧v.best.length≤128∧(∀ e∈v.best,EOk e)∧v.n=(v.prom.count true:Nat)
def RpOk (R:RpD):Prop:=(1≤R.nodes∧R.nodes≤8)∧(0≤R.node∧R.node < R.nodes)∧(R.com≤128∧R.ap≤129)∧R.own≤128∧(∀ kl,(R.st.get kl).f≤64 * R.ap)∧(∀ v,R.v=some v→VtOk R.nodes v)∧(R.leads=true→R.v.isSome=true)
structure RpV (w:World) (M:List Nat) (tg:Nat→Nat) (r:Nat) (R:RpD) (C:RpC):Prop where
 blk:Blk w r 232 (rpCells R C)
 st:StZ w C.s C.p C.Y M R.x C.d R.b R.k R.n
 mc:McAt w C.g C.X R.st C.N
 vt:∀ v,R.v=some v→VoteAt w M C.vb v∧C.vb∈M∧tg C.vb=6
 rM:r∈M
 tr:tg r=1
 sM:C.s∈M
 ts:tg C.s=2
 pM:C.p∈M
 tp:tg C.p=3
 yM:∀ g∈C.Y,g∈M∧tg g=4
 xM:∀ g∈C.X,g∈M∧tg g=5
 nN:C.N≤12 * R.ap
def RpAt (w:World) (M:List Nat) (tg:Nat→Nat) (r d:Nat) (R:RpD):Prop:=RpOk R∧∃ C,C.d=d∧RpV w M tg r R C
theorem _root_.Go.Proofs.YtambjickanapjaaGreatDoor.Lead.VoteAt.more {w:World} {M M':List Nat} {b:Nat} {s:VoteD} (h:VoteAt w M b s) (hM:∀ g∈M',g∈M∨w.heap.size≤g):VoteAt w M' b s:=by
 obtain ⟨h1,h2,bv,hb,he⟩:=h
 exact ⟨h1, h2, bv, hb, he.avoid (fun g hg => by
  rcases List.mem_cons.1 hg with h | h
  ·exact .inl (by simp [h])
  ·exact (hM g h).imp (List.mem_cons_of_mem _) id)⟩
section
variable {w w' W V:World} {M M':List Nat} {tg tg':Nat→Nat} {r d:Nat} {R:RpD} {C:RpC} {T:List Nat}
theorem RpV.keepT (h:RpV w M tg r R C) (hx:Ext w M tg w' M' tg') (hk:Keeps (sel M tg T) w w') (hT:∀ t∈T,6 < t):RpV w' M' tg' r R C:=by
 have hn:∀ g t,tg g=t→t≤6→g∉sel M tg T:=fun g t h1 h2 hm=>by
  have h3:=hT _ (mem_sel.1 hm).2
  omega
 have hmt:∀ g t,g∈M∧tg g=t→g∈M'∧tg' g=t:=fun g t h1=>⟨hx.sub g h1.1,(hx.tag g (hx.old g h1.1)).trans h1.2⟩
 refine ⟨hk.blk h.blk (hn _ _ h.tr (by omega)),?_,h.mc.keep hk (fun x hx'=>hn x _ (h.xM x hx').2 (by omega)),fun v hv=>?_,(hmt _ _ ⟨h.rM,h.tr⟩).1,(hmt _ _ ⟨h.rM,h.tr⟩).2,(hmt _ _ ⟨h.sM,h.ts⟩).1,(hmt _ _ ⟨h.sM,h.ts⟩).2,(hmt _ _ ⟨h.pM,h.tp⟩).1,(hmt _ _ ⟨h.pM,h.tp⟩).2,fun g hg=>hmt _ _ (h.yM g hg),fun g hg=>hmt _ _ (h.xM g hg),h.nN⟩
 ·refine (h.st.more (Z':=M') hx.new).keepZ hk (fun g hg=>.inl (hx.sub g (mem_sel.1 hg).1)) (fun g hg=>?_)
  rcases List.mem_cons.1 hg with rfl | hg
  ·exact hn _ _ h.ts (by omega)
  ·rcases List.mem_cons.1 hg with rfl | hg
   ·exact hn _ _ h.tp (by omega)
   ·exact hn _ _ (h.yM g hg).2 (by omega)
 ·obtain ⟨h1,h2,h3⟩:=h.vt v hv
  exact ⟨(h1.more hx.new).keep hk (hn _ _ h3 (by omega)) (fun g hg=>.inl (hx.sub g (mem_sel.1 hg).1)),hmt _ _ ⟨h2,h3⟩⟩
theorem RpV.keep0 (h:RpV w M tg r R C) (hM:∀ g∈M,g < w.heap.size) (hk:Keeps [] w w'):RpV w' M tg r R C:=
 h.keepT (T:=[]) (Ext.refl hM hk.size) (hk.to_sel (by simp)) (by simp)
theorem RpAt.keep0 (h:RpAt w M tg r d R) (hM:∀ g∈M,g < w.heap.size) (hk:Keeps [] w w'):RpAt w' M tg r d R:=by
 obtain ⟨ho,C,hC,hv⟩:=h
 exact ⟨ho,C,hC,hv.keep0 hM hk⟩
/-- Blocks beside. -/
theorem RpAt.more (h:RpAt w M tg r d R) (hM:∀ g∈M,g < w.heap.size) (hk:Keeps [] w w') (L:List Nat) (hL:∀ g∈L,w.heap.size≤g∧g < w'.heap.size):RpAt w' (L++M) (fun x=>if x∈L then 99 else tg x) r d R∧Ext w M tg w' (L++M) (fun x=>if x∈L then 99 else tg x):=by
 have hx:Ext w M tg w' (L++M) (fun x=>if x∈L then 99 else tg x):=⟨fun g hg=>List.mem_append_right _ hg,fun g hg=>by
  rcases List.mem_append.1 hg with h | h
  ·exact .inr (hL g h).1
  ·exact .inl h,fun g hg=>by
  show (if g∈L then 99 else tg g)=tg g
  rw [if_neg (fun hm=>by have:=(hL g hm).1;omega)],hM,fun g hg=>by
  rcases List.mem_append.1 hg with h | h
  ·exact (hL g h).2
  ·exact Nat.lt_of_lt_of_le (hM g h) hk.size⟩
 obtain ⟨ho,C,hC,hv⟩:=h
 exact ⟨⟨ho,C,hC,hv.keepT (T:=[]) hx (hk.to_sel (by simp)) (by simp)⟩,hx⟩
theorem rpcells (h:RpV w M tg r R C):w.cell? ⟨r,0,none⟩=some (.int .i64 R.node)∧w.cell? ⟨r,1,none⟩=some (.int .i64 R.nodes)∧w.cell? ⟨r,2,none⟩=some (.pointer (some ⟨C.s,0,none⟩))∧w.cell? ⟨r,3,none⟩=some (.pointer (some ⟨C.g,0,none⟩))∧w.cell? ⟨r,4,none⟩=some (.int .i64 R.com)∧w.cell? ⟨r,5,none⟩=some (.pointer (R.v.map fun _=>⟨C.vb,0,none⟩))∧w.cell? ⟨r,6,none⟩=some (.bool R.leads)∧w.cell? ⟨r,7,none⟩=some (.int .i64 R.own)∧r < w.heap.size:=
 ⟨h.blk.cell 0,h.blk.cell 1,h.blk.cell 2,h.blk.cell 3,h.blk.cell 4,h.blk.cell 5,h.blk.cell 6,h.blk.cell 7,h.blk.lt⟩
end
end Go.Proofs.YtambjickanapjaaGreatDoor.Vi
end
section
namespace Go.Proofs.YtambjickanapjaaGreatDoor.Vi
open Go.RowKit Base Mem Go.Shelf Tape
def srCell (q:SentD×Value×Value):List Value:=sCell q.1.dst q.1.m q.2.1 q.2.2
/-- A row of messages of the call's own; what they hold avoids older blocks, those of M, and the row's. -/
structure SrAt (W:World) (base:Nat) (M:List Nat) (ov:Value) (qs:List (SentD×Value×Value)):Prop where
 row:W.ownsRow base 98 19 ov qs.length (qs.flatMap srCell)
 far:∀ g,ov.ownBlock=some g→g∉M
 val:∀ q∈qs,∀ L,(∀ g∈L,g < base∨g∈M∨ov.ownBlock=some g)→MsgAt W L q.1.m q.2.1 q.2.2
section
variable {W V:World} {base:Nat} {M M':List Nat} {ov:Value} {qs:List (SentD×Value×Value)}
theorem SrAt.nil (W:World) (base:Nat) (M:List Nat):SrAt W base M (.slice none 0 0) []:=⟨World.ownsRow_nil _ _ _ _,fun g hg=>(nomatch hg),fun q hq=>(nomatch hq)⟩
/-- It stays where only blocks of M, older ones, or new ones turn. -/
theorem SrAt.keep (h:SrAt W base M ov qs) {T:List Nat} (hk:Keeps T W V) (hT:∀ g∈T,g < base∨g∈M):SrAt V base M ov qs:=by
 refine ⟨own_other2 h.row hk (fun g hg hm=>?_),h.far,fun q hq L hL=>?_⟩
 ·rcases hT g hm with h1 | h1
  ·have:=(h.row.lt g hg).1;omega
  ·exact h.far g hg h1
 ·have h1 := h.val q hq (L ++ T) (fun g hg => by
   rcases List.mem_append.1 hg with h2 | h2
   ·exact hL g h2
   ·rcases hT g h2 with h3 | h3
    ·exact .inl h3
    ·exact .inr (.inl h3))
  exact (h1.keep hk (fun g hg=>.inl (List.mem_append_right _ hg))).avoid (fun g hg=>.inl (List.mem_append_left _ hg))
theorem SrAt.more (h:SrAt W base M ov qs) (hM:∀ g∈M',g∈M∨W.heap.size≤g):SrAt W base M' ov qs:=by
 refine ⟨h.row,fun g hg hm=>?_,fun q hq L hL=>?_⟩
 ·rcases hM g hm with h1 | h1
  ·exact h.far g hg h1
  ·have:=(h.row.lt g hg).2;omega
 ·refine (h.val q hq (L.filter fun g=>decide (g < W.heap.size)) (fun g hg=>?_)).avoid (fun g hg=>?_)
  ·obtain ⟨h1,h2⟩:=List.mem_filter.1 hg
   have h2:=of_decide_eq_true h2
   rcases hL g h1 with h3 | h3 | h3
   ·exact .inl h3
   ·rcases hM g h3 with h4 | h4
    ·exact .inr (.inl h4)
    ·omega
   ·exact .inr (.inr h3)
  ·by_cases h1:g < W.heap.size
   ·exact .inl (List.mem_filter.2 ⟨hg,decide_eq_true h1⟩)
   ·exact .inr (by omega)
end
/-- A message more. -/
theorem SrAt.put {w1 w2:World} {base:Nat} {M:List Nat} {ov ov':Value} {qs:List (SentD×Value×Value)} {q:SentD×Value×Value} {o:Obj} (h:SrAt w1 base M ov qs) (hb:base≤w1.heap.size) (hMl:∀ g∈M,g < w1.heap.size)
  (hq:∀ L,(∀ g∈L,g < base∨g∈M∨ov.ownBlock=some g)→MsgAt w1 L q.1.m q.2.1 q.2.2) (hg:(w1.alloc o).grownBy w2 ov.ownBlock) (hat:ov'.ownBlock=ov.ownBlock∨ov'.ownBlock=some (w1.heap.size + 1))
  (hrw:w2.ownsRow base 98 19 ov' (qs.length + 1) (qs.flatMap srCell++srCell q)):SrAt w2 base M ov' (qs++[q]):=by
 have k12:Keeps ov.ownBlock.toList w1 w2:=(((Keeps.refl [] w1).alloc o).mono (by simp)).grown hg (fun g hg=>.inl (by simpa using hg))
 refine ⟨by rw [List.length_append,List.flatMap_append];simpa using hrw,fun g hg=>?_,fun p hp L hL=>?_⟩
 ·rcases hat with h1 | h1
  ·exact h.far g (by rw [← h1];exact hg)
  ·intro hm
   have:=hMl g hm
   rw [h1] at hg;injection hg with hg;omega
 ·have hv:∀ L,(∀ g∈L,g < base∨g∈M∨ov.ownBlock=some g)→MsgAt w1 L p.1.m p.2.1 p.2.2:=by
   rcases List.mem_append.1 hp with h1 | h1
   ·exact h.val p h1
   ·simp at h1;subst h1;exact hq
  have h1 := hv (ov.ownBlock.toList ++ L.filter fun g => decide (g < w1.heap.size)) (fun g hg => by
   rcases List.mem_append.1 hg with h2 | h2
   ·exact .inr (.inr (by simpa using h2))
   ·obtain ⟨h3,h4⟩:=List.mem_filter.1 h2
    have h4:=of_decide_eq_true h4
    rcases hL g h3 with h5 | h5 | h5
    ·exact .inl h5
    ·exact .inr (.inl h5)
    ·rcases hat with h6 | h6
     ·exact .inr (.inr (by rw [← h6];exact h5))
     ·rw [h6] at h5; injection h5 with h5; omega)
  refine (((h1.avoid (M':=ov.ownBlock.toList++L) (fun g hg=>?_)).keep k12 (fun g hg=>.inl (List.mem_append_left _ hg)))).avoid (fun g hg=>.inl (List.mem_append_right _ hg))
  rcases List.mem_append.1 hg with h2 | h2
  ·exact .inl (List.mem_append_left _ h2)
  ·by_cases h3:g < w1.heap.size
   ·exact .inl (List.mem_append_right _ (List.mem_filter.2 ⟨h2,decide_eq_true h3⟩))
   ·exact .inr (by omega)
theorem own_low3 {w:World} {base base':Nat} {e:TypeId} {size n:Nat} {v:Value} {xs:List Value} (h:w.ownsRow base e size v n xs) (hb:base'≤base):w.ownsRow base' e size v n xs:=by
 obtain ⟨hl,h⟩:=h
 refine ⟨hl,?_⟩
 rcases h with h | ⟨g,cap,cur,hv,hg,rest⟩
 ·exact .inl h
 ·exact .inr ⟨g,cap,cur,hv,Nat.le_trans hb hg,rest⟩
theorem SrAt.low {W:World} {base base':Nat} {M M':List Nat} {ov:Value} {qs:List (SentD×Value×Value)} (h:SrAt W base M ov qs) (hb:base'≤base) (hM:∀ g∈M',g < base):SrAt W base' M' ov qs:=
 ⟨own_low3 h.row hb, fun g hg hm => by have h1 := (h.row.lt g hg).1; have h2 := hM g hm; omega, fun q hq L hL => h.val q hq L (fun g hg => by
  rcases hL g hg with h1 | h1 | h1
  ·exact .inl (Nat.lt_of_lt_of_le h1 hb)
  ·exact .inl (hM g h1)
  ·exact .inr (.inr h1))⟩
def AllPost (out:List SentD) (w:World) (e:Ending) (w':World):Prop:=∃ ov qs,e=.returned ov∧qs.map (·.1)=out∧(∀ M,(∀ g∈M,g < w.heap.size)→SrAt w' w.heap.size M ov qs)∧Below w.heap.size w w'
end Go.Proofs.YtambjickanapjaaGreatDoor.Vi
end
section
namespace Go.Proofs.YtambjickanapjaaGreatDoor.Vi
open Go.RowKit Base Mem Go.Shelf Tape
open Lead (VoteD VoteAt)
section
variable {w:World} {M:List Nat} {tg:Nat→Nat} {r d:Nat} {R:RpD} {C:RpC}
end
end Go.Proofs.YtambjickanapjaaGreatDoor.Vi
end
