/- Texts put together: Del, Del2, Bk5, Bk6, Bk7, Bk8, Bk9, BkA, Dk2, EqF, Msg1, Msg2, Msg3. -/
import Derived.Deep.MidRow
import Derived.Test.YtambjickanapjaaGreatDoorMW4
import Derived.Test.YtambjickanapjaaGreatDoorMW5
import Derived.Test.YtambjickanapjaaGreatDoorMW7
import Derived.Test.YtambjickanapjaaGreatDoorMW8
set_option linter.unusedVariables false
set_option linter.unusedSimpArgs false
set_option maxRecDepth 100000
set_option maxHeartbeats 8000000
section
namespace Go.Proofs.YtambjickanapjaaGreatDoor.Vi
open Go.RowKit Base Mem Go.Shelf
theorem run_clear_n {P:Program} (w:World) (t e ty:TypeId) (z:Value) (ht:P.underlying t=some (.slice e)) (hv:∀ w,(zeroValue e).run P w=.ok z w) (b o n c:Nat) (hn:0 < n)
  (hc:∀ j,j < (Builtin.zeroCells z.cells n).toList.length→(w.cell? ⟨b,o + j,none⟩).isSome=true) (hf:∀ j,j < (Builtin.zeroCells z.cells n).toList.length→w.frozen? ⟨b,o + j,none⟩=false) (h1:∀ v∈(Builtin.zeroCells z.cells n).toList,v.oneCell'=true) :
  (Builtin.clear_ #[t] ty #[.slice (some ⟨b,o,none⟩) n c]).run P w=.ok (.tuple #[]) (w.setCells b o (Builtin.zeroCells z.cells n).toList):=by
 have hst:=run_storeCells_cells (P:=P) b o (Builtin.zeroCells z.cells n).toList 0 w hc hf h1
 simp only [Nat.add_zero] at hst
 have h2:Sem.run P (storeCells { block:=b,off:=o } (Builtin.zeroCells z.cells n).toList) w=.ok () (w.setCells b o (Builtin.zeroCells z.cells n).toList):=by simpa using hst
 obtain ⟨m,rfl⟩:∃ m,n=m + 1:=⟨n - 1,by omega⟩
 simp [Builtin.clear_,run_underlying ht,hv]
 rw [h2]
 rfl
def zD:Value:=.agg #[.string ByteArray.empty,.int .u64 0]
theorem zD_len (n:Nat):(Builtin.zeroCells zD.cells n).toList.length=n * 2:=by rw [Array.length_toList,size_zeroCells];rfl
theorem zD_one (n:Nat):∀ v∈(Builtin.zeroCells zD.cells n).toList,v.oneCell'=true:=by
 intro v hv
 simp only [Builtin.zeroCells,Array.toList_map,List.mem_map] at hv
 obtain ⟨i,_,rfl⟩:=hv
 show (#[Value.string ByteArray.empty,.int .u64 0][i % 2]!).oneCell'=true
 rcases (show i % 2=0∨i % 2=1 by omega) with h | h <;> rw [h] <;> rfl
theorem set_flat2 (l:List DeltaD) (k:Nat) (d:DeltaD) (rest:List Value) (hk:k < l.length) :
  ((l.flatMap dCell++rest).set (k * 2) (.string d.ser)).set (k * 2 + 1) (.int .u64 d.n)=(l.set k d).flatMap dCell++rest:=by
 induction l generalizing k with
 | nil=>simp at hk
 | cons a l ih=>
  cases k with
  | zero=>simp [dCell]
  | succ k=>
   have:=ih k (by simpa using hk)
   have e0:(k + 1) * 2=k * 2 + 2:=by omega
   rw [e0]
   simp only [List.flatMap_cons,dCell,List.cons_append,List.nil_append,List.set_cons_succ,Nat.add_right_comm _ 2]
   simpa [dCell] using this
theorem blk_delta {w:World} {g:Nat} {l:List DeltaD} {rest:List Value} (h:Blk w g 63 (l.flatMap dCell++rest).toArray) {k:Nat} (hk:k < l.length) :
  w.cell? ⟨g,k * 2,none⟩=some (.string l[k].ser)∧w.cell? ⟨g,k * 2 + 1,none⟩=some (.int .u64 l[k].n):=by
 have hf:∀ j,j < 2→w.cell? ⟨g,k * 2 + j,none⟩=(dCell l[k])[j]?:=fun j hj=>by
  rw [h.cell,List.getElem?_toArray,List.getElem?_append_left (by rw [show l.flatMap dCell=dCells l from rfl,dCells_len];omega),flat_at dCell 2 (fun _=>rfl) l k j hk hj]
 exact ⟨hf 0 (by omega),hf 1 (by omega)⟩
/-- A row of the caller's own, written out. -/
theorem row_open {w:World} {l:List DeltaD} {A:Option Addr} {n c:Nat} (h:w.ownsRow 0 63 2 (.slice A n c) n (dCells l)) (h0:0 < n) :
  ∃ g rest,A=some ⟨g,0,none⟩∧Blk w g 63 (l.flatMap dCell++rest).toArray∧n≤c∧c≤maxLen∧(l.flatMap dCell++rest).length=c * 2:=by
 rcases h.2 with ⟨h,h1⟩ | ⟨g,cap,cur,he,_,hg,h1,h2,h3,h4⟩
 ·omega
 ·injection he with e1 e2 e3
  subst e3
  refine ⟨g,cur.toList.drop (n * 2),e1,?_,h1,h2,?_⟩
  ·have:l.flatMap dCell++cur.toList.drop (n * 2)=cur.toList:=by rw [show l.flatMap dCell=dCells l from rfl,← h4,List.take_append_drop]
   rw [this]
   exact hg
  ·have:l.flatMap dCell++cur.toList.drop (n * 2)=cur.toList:=by rw [show l.flatMap dCell=dCells l from rfl,← h4,List.take_append_drop]
   rw [this,Array.length_toList,h3]
theorem row_shut {w:World} {g:Nat} {l:List DeltaD} {rest:List Value} {c:Nat} (h:Blk w g 63 (l.flatMap dCell++rest).toArray) (h1:l.length≤c) (h2:c≤maxLen) (h3:(l.flatMap dCell++rest).length=c * 2) :
  w.ownsRow 0 63 2 (.slice (some ⟨g,0,none⟩) l.length c) l.length (dCells l):=by
 refine ⟨dCells_len l,.inr ⟨g,c,_,rfl,Nat.zero_le _,h,h1,h2,by simpa using h3,?_⟩⟩
 show (l.flatMap dCell++rest).take (l.length * 2)=dCells l
 rw [← dCells_len l]
 exact List.take_left
/-- The place of the first that is so, or -1. -/
def ixQ (p:DeltaD→Bool) (l:List DeltaD):Int:=Lib.idxBy (fun _ (y:DeltaD)=>p y) l default
theorem ixQ_cases (p:DeltaD→Bool) (l:List DeltaD):(ixQ p l = -1∧l.filter (fun d=>!p d)=l)∨∃ k,k < l.length∧ixQ p l=(k:Int)∧(l.take (k + 1)).filter (fun d=>!p d)=l.take k:=by
 have h:∀ (l:List DeltaD) (i:Nat),(Lib.idxByFrom (fun _ (y:DeltaD)=>p y) default l i = -1∧l.filter (fun d=>!p d)=l)∨∃ k,k < l.length∧Lib.idxByFrom (fun _ (y:DeltaD)=>p y) default l i=((i + k:Nat):Int)∧(l.take (k + 1)).filter (fun d=>!p d)=l.take k:=by
  intro l
  induction l with
  | nil=>intro i;exact .inl ⟨rfl,rfl⟩
  | cons a r ih=>
   intro i
   rcases hp:p a with _ | _
   ·rcases ih (i + 1) with ⟨h1,h2⟩ | ⟨k,hk,h1,h2⟩
    ·refine .inl ⟨?_,?_⟩
     ·simp only [Lib.idxByFrom];rw [if_neg (by simp [hp])];exact h1
     ·rw [List.filter_cons,hp];simp [h2]
    ·refine .inr ⟨k + 1,by simp;omega,?_,?_⟩
     ·simp only [Lib.idxByFrom];rw [if_neg (by simp [hp]),h1];congr 1;omega
     ·rw [List.take_succ_cons,List.filter_cons,hp];simp [h2]
   ·refine .inr ⟨0,by simp,?_,?_⟩
    ·simp only [Lib.idxByFrom];rw [if_pos hp];rfl
    ·simp [hp]
 rcases h l 0 with h | ⟨k,h1,h2,h3⟩
 ·exact .inl h
 ·exact .inr ⟨k,h1,by unfold ixQ Lib.idxBy;rw [h2,Nat.zero_add],h3⟩
def DfPost (v:Value) (l:List DeltaD) (w:World) (e:Ending) (w':World):Prop:=∃ A n c,e=.returned (.slice A n c)∧n=l.length∧w'.ownsRow 0 63 2 (.slice A n c) n (dCells l)∧(Value.slice A n c).ownBlock=v.ownBlock∧Keeps v.ownBlock.toList w w'
theorem deletef_any (B:Nat) (p:DeltaD→Bool) (v:Value) (sa:List DeltaD) (w:World) (h:w.ownsRow 0 63 2 v sa.length (dCells sa)) (hl:sa.length≤1000000)
  (hp:∀ W x,Keeps v.ownBlock.toList w W→Calls Tryz.prog 242 #[.agg #[.string x.ser,.int .u64 x.n],.pointer (some ⟨B,0,none⟩)] W fun e w'=>e=.returned (.bool (p x))∧Below W.heap.size W w') :
  Calls Tryz.prog 241 #[v,.func (.func 242) #[] #[.pointer (some ⟨B,0,none⟩)]] w fun e w'=>DfPost v (sa.filter fun d=>!p d) w e w':=by
 have hds:Ds w [] v sa:=Rd.of_own h (by simp)
 obtain ⟨A,c,rfl,hc⟩:=hds.len
 have heg:∀ args w,(callFunc 242 args).run Tryz.prog w=.ok (.enter 242 args) w:=enters_of Tryz.func242 (by kernel_rfl) rfl
 have hpb:PredBelow Tryz.prog 242 #[.pointer (some ⟨B,0,none⟩)] (fun x=>.agg (dCell x).toArray) p w:=fun W x hb=>by
  refine Calls.mono (hp W x ((Keeps.of_below (M:=[]) hb).mono (by simp))) ?_
  rintro r w' ⟨rfl,hb2⟩
  exact ⟨rfl,hb.trans (hb2.mono hb.size)⟩
 have hix:Calls Tryz.prog 174 #[.slice A sa.length c,.func (.func 242) #[] #[.pointer (some ⟨B,0,none⟩)]] w fun r w'=>r=.returned (.int .i64 (ixQ p sa))∧Below w.heap.size w w':=by
  by_cases h0:0 < sa.length
  ·obtain ⟨g,off,c2,e,hg,hx⟩:=ds_cells hds h0
   injection e with e1 _ e3
   subst e1 e3
   have:=AnyQ.slices_IndexFunc Tryz.indexFuncDelta 2 Tryz.isAgg63 Tryz.sizeOf63 dCell (fun _=>rfl) p 242 #[.pointer (some ⟨B,0,none⟩)] heg g off sa.length c sa w hpb (Nat.le_refl _) (by omega) hg hx
   rw [List.take_length] at this
   exact this
  ·obtain rfl:sa=[]:=List.length_eq_zero_iff.1 (by omega)
   exact indexf_nil A c _ _ w
 have Hix:=Lib.hid hix;have Hh:=Lib.hid h;have Hp:=Lib.hid hp
 rcases ixQ_cases p sa with ⟨h1,h2⟩ | ⟨k,hk,h1,h2⟩
 ·have hP:Hid (∀ W,Below w.heap.size w W→DfPost (.slice A sa.length c) (sa.filter fun d=>!p d) w (.returned (.slice A sa.length c)) W):=fun W hb=>by
   rw [h2]
   exact ⟨A,_,c,rfl,rfl,own_below Hh.out hb,rfl,(Keeps.of_below (M:=[]) hb).mono (by simp)⟩
  rw [h1] at Hix
  clear hpb hix h hp heg hds h1 h2
  go_enter Tryz.func241,Tryz.ntmps241
  go_wp2_with fail
  refine Hix.out.mono ?_
  rintro e w1 ⟨rfl,hb1⟩
  have Hb1:=Lib.hid hb1
  clear hb1 Hix
  go_wp2_with fail
  go_ret
  exact hP.out _ Hb1.out
 ·obtain ⟨g,rest,rfl,hB,hcc,hcm,hrl⟩:=row_open h (by omega)
  have Hrl2:∀ ms:List DeltaD,ms.length=sa.length→(ms.flatMap dCell++rest).length=c * 2:=fun ms hm=>by
   have h8:(ms.flatMap dCell).length=sa.length * 2:=by rw [show ms.flatMap dCell=dCells ms from rfl,dCells_len,hm]
   have h7:(sa.flatMap dCell).length=sa.length * 2:=by rw [show sa.flatMap dCell=dCells sa from rfl,dCells_len]
   rw [List.length_append] at hrl ⊢
   omega
  have Hrl3:=Lib.hid Hrl2
  have HB:=Lib.hid hB
  have Hrl:=Lib.hid hrl
  have H2:=Lib.hid h2
  have hgw:=hB.lt
  rw [h1] at Hix
  have Hcm:=Lib.hid hcm
  unfold maxLen at hcm
  have hkm:((k:Int) == -1)=false:=beq_eq_false_iff_ne.2 (by omega)
  clear hpb hix h hp heg hds h1 hB hrl h2 Hrl2
  go_enter Tryz.func241,Tryz.ntmps241
  go_wp2_with fail
  refine Hix.out.mono ?_
  rintro e w1 ⟨rfl,hb1⟩
  have Hb1:=Lib.hid hb1
  clear hb1 Hix
  go_wp2_with fail
  go_loopw [5,6] (fun ii jj wr=>∃ (ms:List DeltaD) (i j:Nat),ii=.int .i64 i∧jj=.int .i64 j∧i < j∧j≤sa.length∧Hid (ms.length=sa.length)∧Hid (ms.take i=(sa.take j).filter fun d=>!p d)∧Hid (∀ t,j≤t→ms[t]? = sa[t]?)∧Hid (Blk wr g 63 (ms.flatMap dCell++rest).toArray)∧Hid (Keeps [g] w wr)) (fun _ jj _=>sa.length - (intOf jj).toNat)
  case atStart=>exact ⟨sa,k,k + 1,rfl,by go_num,by omega,by omega,rfl,H2.out.symm,fun _ _=>rfl,(Keeps.of_below (M:=[]) Hb1.out).blk HB.out (by simp),(Keeps.of_below (M:=[]) Hb1.out).mono (by simp)⟩
  case round=>
   obtain ⟨ms,i,j,rfl,rfl,hij,hjs,Hml,Htk,Hdr,HBr,HKr⟩:=hrel
   have hml:=Hml.out
   by_cases hlt:j < sa.length
   ·have hjl:(j:Int) < (sa.length:Int):=by omega
    obtain ⟨p0,p1⟩:=blk_delta HBr.out (k:=j) (by omega)
    have he:ms[j]'(by omega)=sa[j]:=by
     have:=Hdr.out j (Nat.le_refl _)
     rw [List.getElem?_eq_getElem (by omega),List.getElem?_eq_getElem hlt] at this
     injection this
    rw [he] at p0 p1
    have Htk2:Hid ((sa.take (j + 1)).filter (fun d=>!p d)=(sa.take j).filter (fun d=>!p d)++(if p sa[j]=true then [] else [sa[j]])):=by
     show _=_
     rw [List.take_succ_eq_append_getElem hlt,List.filter_append,List.filter_cons]
     rcases p sa[j] with _ | _ <;> simp
    clear he
    generalize sa[j]=y at *
    have hcall:=Lib.hid (fun W hk=>Hp.out W y hk)
    obtain ⟨ys,yn⟩:=y
    simp only [] at p0 p1 hcall
    have HKA:Hid (Keeps [g] w (wr.alloc (.cells #[.string ys,.int .u64 yn] 63))):=HKr.out.alloc _
    have HBA:Hid (Blk (wr.alloc (.cells #[.string ys,.int .u64 yn] 63)) g 63 (ms.flatMap dCell++rest).toArray):=((Keeps.refl [] wr).alloc _).blk HBr.out (by simp)
    have hA:=Blk.new wr 63 #[.string ys,.int .u64 yn]
    have HA:=Lib.hid hA
    have hwl:=hA.lt
    clear hA
    go_wp2_with fail
    have hcall2:=hcall.out _ HKA.out
    rcases hpy:p ⟨ys,yn⟩ with _ | _
    ·rw [hpy] at hcall2
     rw [hpy,if_neg (by simp)] at Htk2
     refine hcall2.mono ?_
     rintro e w2 ⟨rfl,hb2⟩
     have HB2:Hid (Blk w2 g 63 (ms.flatMap dCell++rest).toArray):=(Keeps.of_below (M:=[]) hb2).blk HBA.out (by simp)
     have HK2:Hid (Keeps [g] w w2):=HKA.out.trans (Keeps.of_below (M:=[]) hb2) (by simp)
     have hA2:=(Keeps.of_below (M:=[]) hb2).blk HA.out (by simp)
     have a0:=hA2.cell 0;have a1:=hA2.cell 1
     simp only [List.getElem?_toArray,List.getElem?_cons_succ,List.getElem?_cons_zero] at a0 a1
     have f0:=HB2.out.frozen (i * 2);have f1:=HB2.out.frozen (i * 2 + 1)
     obtain ⟨s0,s1⟩:=blk_delta HB2.out (k:=i) (by omega)
     have hil:(i:Int) < (sa.length:Int):=by omega
     have HB3:Hid (Blk ((w2.setCell ⟨g,i * 2,none⟩ (.string ys)).setCell ⟨g,i * 2 + 1,none⟩ (.int .u64 yn)) g 63 ((ms.set i ⟨ys,yn⟩).flatMap dCell++rest).toArray):=by
      have h:=(HB2.out.set_ (i * 2) (.string ys)).set_ (i * 2 + 1) (.int .u64 yn)
      show Blk _ _ _ _
      rw [← set_flat2 ms i ⟨ys,yn⟩ rest (by omega)]
      simpa only [List.setIfInBounds_toArray] using h
     have HK3:Hid (Keeps [g] w ((w2.setCell ⟨g,i * 2,none⟩ (.string ys)).setCell ⟨g,i * 2 + 1,none⟩ (.int .u64 yn))):=(HK2.out.setCell (by simp) _).setCell (by simp) _
     have Hml3:Hid ((ms.set i ⟨ys,yn⟩).length=sa.length):=by show _=_;rw [List.length_set];exact Hml.out
     have Htk3:Hid ((ms.set i ⟨ys,yn⟩).take (i + 1)=(sa.take (j + 1)).filter fun d=>!p d):=by
      show _=_
      rw [Htk2.out,← Htk.out,List.take_succ_eq_append_getElem (by rw [List.length_set];omega),List.getElem_set_self,List.take_set_of_le (Nat.le_refl _)]
     have Hdr3:Hid (∀ t,j + 1≤t→(ms.set i ⟨ys,yn⟩)[t]? = sa[t]?):=fun t ht=>by
      rw [List.getElem?_set_ne (by omega)]
      exact Hdr.out t (by omega)
     clear hb2 hA2 hcall2 hpy
     go_wp2_with fail
     go_roundw
     case rel=>exact ⟨ms.set i ⟨ys,yn⟩,i + 1,j + 1,by go_num,by go_num,by omega,by omega,Hml3,Htk3,Hdr3,HB3,HK3⟩
     case measure=>simp [intOf];omega
    ·rw [hpy] at hcall2
     rw [hpy,if_pos rfl,List.append_nil] at Htk2
     refine hcall2.mono ?_
     rintro e w2 ⟨rfl,hb2⟩
     have HB2:Hid (Blk w2 g 63 (ms.flatMap dCell++rest).toArray):=(Keeps.of_below (M:=[]) hb2).blk HBA.out (by simp)
     have HK2:Hid (Keeps [g] w w2):=HKA.out.trans (Keeps.of_below (M:=[]) hb2) (by simp)
     have Htk3:Hid (ms.take i=(sa.take (j + 1)).filter fun d=>!p d):=by show _=_;rw [Htk2.out,← Htk.out]
     have Hdr3:Hid (∀ t,j + 1≤t→ms[t]? = sa[t]?):=fun t ht=>Hdr.out t (by omega)
     clear hb2 hcall2 hpy
     go_wp2_with fail
     go_roundw
     case rel=>exact ⟨ms,i,j + 1,rfl,by go_num,by omega,by omega,Hml,Htk3,Hdr3,HB2,HK2⟩
     case measure=>simp [intOf];omega
   ·have hjl:decide ((j:Int) < (sa.length:Int))=false:=decide_eq_false (by omega)
    have hje:j=sa.length:=by omega
    have hfin:Hid (ms.take i=sa.filter fun d=>!p d):=by show _=_;rw [Htk.out,hje,List.take_length]
    have hin:i < sa.length:=by omega
    have hil:(i:Int)≤(sa.length:Int):=by omega
    have hic:(i:Int)≤(c:Int):=by omega
    obtain ⟨Z,HZ⟩:∃ Z,Hid (Z=(Builtin.zeroCells zD.cells (sa.length - i)).toList):=⟨_,rfl⟩
    have hcl:∀ ty,(Builtin.clear_ #[34] ty #[.slice (some ⟨g,i * 2,none⟩) (sa.length - i) (c - i)]).run Tryz.prog wr=.ok (.tuple #[]) (wr.setCells g (i * 2) Z):=fun ty=>by
     rw [HZ.out]
     refine run_clear_n wr _ 63 ty zD Tryz.underlying34 Tryz.zeroValue63 g (i * 2) _ (c - i) (by omega) (fun t ht=>?_) (fun t _=>HBr.out.frozen _) (zD_one _)
     rw [zD_len] at ht
     rw [HBr.out.cell,List.getElem?_toArray,List.getElem?_eq_getElem (by rw [Hrl3.out ms Hml.out];omega)]
     rfl
    have hP:Hid (DfPost (.slice (some ⟨g,0,none⟩) sa.length c) (sa.filter fun d=>!p d) w (.returned (.slice (some ⟨g,0,none⟩) i c)) (wr.setCells g (i * 2) Z)):=by
     have hlen:(sa.filter fun d=>!p d).length=i:=by rw [← hfin.out,List.length_take];omega
     refine ⟨some ⟨g,0,none⟩,i,c,rfl,hlen.symm,?_,rfl,keeps_lay g (by simp [Value.ownBlock]) _ _ _ HKr.out⟩
     have hzl:Z.length=(sa.length - i) * 2:=by rw [HZ.out,zD_len]
     have hb:=blk_lay g 63 Z ((ms.take i).flatMap dCell) ((ms.drop i).flatMap dCell) rest (i * 2) wr (by rw [← List.flatMap_append,List.take_append_drop];exact HBr.out) (by rw [show (ms.take i).flatMap dCell=dCells (ms.take i) from rfl,dCells_len,List.length_take];omega) (by rw [show (ms.drop i).flatMap dCell=dCells (ms.drop i) from rfl,dCells_len,List.length_drop,hzl];omega)
     rw [hfin.out,List.append_assoc] at hb
     have hs := row_shut hb (c := c) (by omega) Hcm.out (by
      have h9:=Hrl3.out ms Hml.out
      have h8:(ms.flatMap dCell).length=sa.length * 2:=by rw [show ms.flatMap dCell=dCells ms from rfl,dCells_len,Hml.out]
      have h7:((sa.filter fun d=>!p d).flatMap dCell).length=i * 2:=by rw [show (sa.filter fun d=>!p d).flatMap dCell=dCells (sa.filter fun d=>!p d) from rfl,dCells_len,hlen]
      rw [List.length_append] at h9
      rw [List.length_append, List.length_append, h7, hzl]; omega)
     rw [hlen] at hs
     exact hs
    clear hml
    go_wp2_with fail
    go_ret
    exact hP.out
section
variable {w w' w1 w2:World} {M M1 M':List Nat} {tg tg1 tg':Nat→Nat} {s:Nat} {S:BkD} {T:List Nat} {vs vc vs' vc':Value} {qb:Nat→Nat}
theorem BkV.setQ' {k:Nat} {Q':QuD} (h:BkV w M tg s S vs vc qb) (hk:k < 4) (x:Ext w M tg w1 M1 tg1) (kp:Keeps (sel M tg [10 + 2 * k,10 + 2 * k + 1]) w w1) (hq:QuAt w1 M1 tg1 (10 + 2 * k) (qb k) Q'):BkV w1 M1 tg1 s { S with q:=setQ S.q k Q' } vs vc qb:=by
 have hs:=h.blk.lt
 refine ⟨blk_other kp h.blk (by rw [h.ts];simp;omega),x.sub _ h.inM,by rw [x.tag s hs];exact h.ts,row_other kp h.sa (fun g hg=>by rw [(h.tsa g hg).2];simp;omega),fun g hg=>?_,row_other kp h.cu (fun g hg=>by rw [(h.tcu g hg).2];simp;omega),fun g hg=>?_,fun j hj=>?_⟩
 ·obtain ⟨a1,a2⟩:=h.tsa g hg
  exact ⟨x.sub _ a1,by rw [x.tag g (x.old g a1)];exact a2⟩
 ·obtain ⟨a1,a2⟩:=h.tcu g hg
  exact ⟨x.sub _ a1,by rw [x.tag g (x.old g a1)];exact a2⟩
 ·show QuAt w1 M1 tg1 (10 + 2 * j) (qb j) (if j=k then Q' else S.q j)
  by_cases hjk:j=k
  ·subst hjk;rw [if_pos rfl];exact hq
  ·rw [if_neg hjk];exact (h.q j hj).keep x kp (by simp;omega) (by simp;omega)
theorem BkV.setSa {sa':List DeltaD} (h:BkV w M tg s S vs vc qb) (hM:∀ g∈M,g < w.heap.size) (k:Keeps vs.ownBlock.toList w w2) (hrow:w2.ownsRow 0 63 2 vs' sa'.length (dCells sa')) (hat:vs'.ownBlock=vs.ownBlock∨∃ g,vs'.ownBlock=some g∧w.heap.size≤g) :
  ∃ M2 tg2,BkV (w2.setCell ⟨s,1,none⟩ vs') M2 tg2 s { S with sa:=sa' } vs' vc qb∧Ext w M tg (w2.setCell ⟨s,1,none⟩ vs') M2 tg2∧Keeps (sel M tg [1,2]) w (w2.setCell ⟨s,1,none⟩ vs'):=by
 have hs:=h.blk.lt
 have hvs:vs.ownBlock≠some s:=fun e=>by have:=(h.tsa s e).2;rw [h.ts] at this;omega
 have hvs':vs'.ownBlock≠some s:=fun e=>by
  rcases hat with h1 | ⟨g,h1,h2⟩
  ·exact hvs (by rw [← h1,e])
  ·rw [h1] at e;injection e with e;omega
 have hks:Keeps (sel M tg [2]) w w2:=k.to_sel (fun g hg=>.inl (by have:=h.tsa g (by simpa using hg);simp [this.1,this.2]))
 have k2:Keeps [s] w2 (w2.setCell ⟨s,1,none⟩ vs'):=(Keeps.refl _ _).setCell (by simp) _
 have kf:Keeps (sel M tg [1,2]) w (w2.setCell ⟨s,1,none⟩ vs'):=(hks.sel_mono (by simp)).trans k2 (fun g hg=>.inl (by simp at hg;subst hg;exact mem_sel.2 ⟨h.inM,by rw [h.ts];simp⟩))
 have hx : Ext w M tg (w2.setCell ⟨s, 1, none⟩ vs') (vs'.ownBlock.toList ++ M) (fun x => if vs'.ownBlock = some x then 2 else tg x) := Ext.add hM kf.size _ _ (fun g hg => by
  refine ⟨?_,Nat.lt_of_lt_of_le (hrow.lt g hg).2 k2.size⟩
  rcases hat with h1 | ⟨g',h1,h2⟩
  ·exact .inl (h.tsa g (by rw [← h1,hg]))
  ·rw [h1] at hg; injection hg with hg; subst hg; exact .inr h2)
 refine ⟨_,_,⟨?_,hx.sub _ h.inM,?_,?_,fun g hg=>⟨List.mem_append_left _ (by simpa using hg),by simp [hg]⟩,?_,fun g hg=>?_,fun j hj=>(h.q j hj).keep hx kf (by simp;omega) (by simp;omega)⟩,hx,kf⟩
 ·have hB:=k.blk h.blk (by simpa using hvs)
  have h9:=hB.set_ 1 vs'
  show Blk _ s _ #[.int .i64 S.ep,vs',.int .i64 S.sh,.pointer (some ⟨qb 0,0,none⟩),.pointer (some ⟨qb 1,0,none⟩),.pointer (some ⟨qb 2,0,none⟩),.pointer (some ⟨qb 3,0,none⟩),vc]
  simpa using h9
 ·exact (hx.tag s hs).trans h.ts
 ·exact own_other2 hrow k2 (fun g hg hm=>by simp at hm;subst hm;exact hvs' hg)
 ·exact row_other kf h.cu (fun g hg=>by rw [(h.tcu g hg).2];simp)
 ·obtain ⟨a1,a2⟩:=h.tcu g hg
  exact ⟨hx.sub _ a1,(hx.tag g (hM g a1)).trans a2⟩
theorem BkV.setCu {cu':List (Int×Int)} (h:BkV w M tg s S vs vc qb) (hM:∀ g∈M,g < w.heap.size) (k:Keeps vc.ownBlock.toList w w2) (hrow:w2.ownsRow 0 33 3 vc' cu'.length (cu'.flatMap cCell)) (hat:vc'.ownBlock=vc.ownBlock∨∃ g,vc'.ownBlock=some g∧w.heap.size≤g) :
  ∃ M2 tg2,BkV (w2.setCell ⟨s,7,none⟩ vc') M2 tg2 s { S with cuts:=cu' } vs vc' qb∧Ext w M tg (w2.setCell ⟨s,7,none⟩ vc') M2 tg2∧Keeps (sel M tg [1,3]) w (w2.setCell ⟨s,7,none⟩ vc'):=by
 have hs:=h.blk.lt
 have hvs:vc.ownBlock≠some s:=fun e=>by have:=(h.tcu s e).2;rw [h.ts] at this;omega
 have hvs':vc'.ownBlock≠some s:=fun e=>by
  rcases hat with h1 | ⟨g,h1,h2⟩
  ·exact hvs (by rw [← h1,e])
  ·rw [h1] at e;injection e with e;omega
 have hks:Keeps (sel M tg [3]) w w2:=k.to_sel (fun g hg=>.inl (by have:=h.tcu g (by simpa using hg);simp [this.1,this.2]))
 have k2:Keeps [s] w2 (w2.setCell ⟨s,7,none⟩ vc'):=(Keeps.refl _ _).setCell (by simp) _
 have kf:Keeps (sel M tg [1,3]) w (w2.setCell ⟨s,7,none⟩ vc'):=(hks.sel_mono (by simp)).trans k2 (fun g hg=>.inl (by simp at hg;subst hg;exact mem_sel.2 ⟨h.inM,by rw [h.ts];simp⟩))
 have hx : Ext w M tg (w2.setCell ⟨s, 7, none⟩ vc') (vc'.ownBlock.toList ++ M) (fun x => if vc'.ownBlock = some x then 3 else tg x) := Ext.add hM kf.size _ _ (fun g hg => by
  refine ⟨?_,Nat.lt_of_lt_of_le (hrow.lt g hg).2 k2.size⟩
  rcases hat with h1 | ⟨g',h1,h2⟩
  ·exact .inl (h.tcu g (by rw [← h1,hg]))
  ·rw [h1] at hg; injection hg with hg; subst hg; exact .inr h2)
 refine ⟨_,_,⟨?_,hx.sub _ h.inM,?_,?_,fun g hg=>?_,?_,fun g hg=>⟨List.mem_append_left _ (by simpa using hg),by simp [hg]⟩,fun j hj=>(h.q j hj).keep hx kf (by simp;omega) (by simp;omega)⟩,hx,kf⟩
 ·have hB:=k.blk h.blk (by simpa using hvs)
  have h9:=hB.set_ 7 vc'
  show Blk _ s _ #[.int .i64 S.ep,vs,.int .i64 S.sh,.pointer (some ⟨qb 0,0,none⟩),.pointer (some ⟨qb 1,0,none⟩),.pointer (some ⟨qb 2,0,none⟩),.pointer (some ⟨qb 3,0,none⟩),vc']
  simpa using h9
 ·exact (hx.tag s hs).trans h.ts
 ·exact row_other kf h.sa (fun g hg=>by rw [(h.tsa g hg).2];simp)
 ·obtain ⟨a1,a2⟩:=h.tsa g hg
  exact ⟨hx.sub _ a1,(hx.tag g (hM g a1)).trans a2⟩
 ·exact own_other2 hrow k2 (fun g hg hm=>by simp at hm;subst hm;exact hvs' hg)
end
theorem containsf_any (F:FuncId) (caps:Array Value) (p:DeltaD→Bool) (v:Value) (l:List DeltaD) (w:World) (h:Ds w [] v l) (hl:l.length≤1000000) (heg:∀ args w,(callFunc F args).run Tryz.prog w=.ok (.enter F args) w) (hp:PredBelow Tryz.prog F caps (fun x=>.agg (dCell x).toArray) p w) :
  Calls Tryz.prog 187 #[v,.func (.func F) #[] caps] w fun r w'=>r=.returned (.bool (l.any p))∧Below w.heap.size w w':=by
 by_cases h0:0 < l.length
 ·obtain ⟨g,off,c,rfl,hg,hc⟩:=ds_cells h h0
  have:=AnyQ.slices_ContainsFunc Tryz.containsFuncDelta 2 Tryz.isAgg63 Tryz.sizeOf63 dCell (fun _=>rfl) p F caps heg g off l.length c l w hp (Nat.le_refl _) (by omega) hg hc
  rw [List.take_length] at this
  exact this
 ·obtain rfl:l=[]:=List.length_eq_zero_iff.1 (by omega)
  obtain ⟨A,c,rfl,_⟩:=h.len
  clear hp heg h
  go_enter Tryz.func187,Tryz.ntmps187
  go_wp2_with fail
  refine (indexf_nil A c F caps w).mono ?_
  rintro e w1 ⟨rfl,hb1⟩
  have Hb1:=Lib.hid hb1
  clear hb1
  go_wp2
  go_ret
  exact ⟨rfl,Hb1.out⟩
theorem sameSer2_any (x:DeltaD) (D:Nat) (s:ByteArray) (w:World) (hB:D < w.heap.size) (hc:w.cell? ⟨D,0,none⟩=some (.string s)) :
  Calls Tryz.prog 243 #[.agg #[.string x.ser,.int .u64 x.n],.pointer (some ⟨D,0,none⟩)] w fun e w'=>e=.returned (.bool (x.ser.toList == s.toList))∧Below w.heap.size w w':=by
 have hb:Hid (∀ o,Below w.heap.size w (w.alloc o)):=fun o=>(Below.refl _ _).alloc (Nat.le_refl _) o
 have hca:∀ o,(w.alloc o).cell? ⟨D,0,none⟩=some (.string s):=fun o=>((hb.out o).cell (p:=⟨D,0,none⟩) hB).trans hc
 go_enter Tryz.func243,Tryz.ntmps243
 go_wp2
 go_ret
 exact ⟨rfl,hb.out _⟩
theorem inds_any (d:DeltaD) (B:Nat) (b:BatD) (dv:Value) (w:World) (hB:B < w.heap.size) (hc:w.cell? ⟨B,1,none⟩=some dv) (hd:Ds w [] dv b.ds) (hl:b.ds.length≤1000000) :
  Calls Tryz.prog 242 #[.agg #[.string d.ser,.int .u64 d.n],.pointer (some ⟨B,0,none⟩)] w fun e w'=>e=.returned (.bool (inDs b.ds d))∧Below w.heap.size w w':=by
 obtain ⟨w0,hw0⟩:∃ w0,w0=w.alloc (.cells #[.string d.ser,.int .u64 d.n] 63):=⟨_,rfl⟩
 have hb0:Below w.heap.size w w0:=by rw [hw0];exact (Below.refl _ _).alloc (Nat.le_refl _) _
 have hB0:Blk w0 w.heap.size 63 #[.string d.ser,.int .u64 d.n]:=by rw [hw0];exact Blk.new w _ _
 have heg:∀ args w,(callFunc 243 args).run Tryz.prog w=.ok (.enter 243 args) w:=enters_of Tryz.func243 (by kernel_rfl) rfl
 have hp:PredBelow Tryz.prog 243 #[.pointer (some ⟨w.heap.size,0,none⟩)] (fun x=>.agg (dCell x).toArray) (fun x=>x.ser.toList == d.ser.toList) w0:=fun W x hb=>by
  refine Calls.mono (sameSer2_any x w.heap.size d.ser W (Nat.lt_of_lt_of_le hB0.lt hb.size) ((hb.cell (p:=⟨w.heap.size,0,none⟩) hB0.lt).trans (hB0.cell 0))) ?_
  rintro r w' ⟨rfl,hb2⟩
  exact ⟨rfl,hb.trans (hb2.mono hb.size)⟩
 have hcf:=Lib.hid (containsf_any 243 #[.pointer (some ⟨w.heap.size,0,none⟩)] _ dv b.ds w0 (hd.keep (Keeps.of_below (M:=[]) hb0) (by simp)) hl heg hp)
 have c1:w0.cell? ⟨B,1,none⟩=some dv:=(hb0.cell (p:=⟨B,1,none⟩) hB).trans hc
 have Hb0:=Lib.hid hb0
 obtain ⟨Ad,cd,rfl,_⟩:=hd.len
 clear hp heg hB0 hb0 hd hc
 go_enter Tryz.func242,Tryz.ntmps242
 go_upto_region 1 with (fail)
 rw [← hw0]
 clear hw0
 go_wp2_with fail
 refine hcf.out.mono ?_
 rintro e w1 ⟨rfl,hb1⟩
 have Hb1:Hid (Below w.heap.size w w1):=Hb0.out.trans (hb1.mono Hb0.out.size)
 clear hb1 hcf
 go_wp2
 go_ret
 exact ⟨rfl,Hb1.out⟩
def BaPost (M:List Nat) (tg:Nat→Nat) (s:Nat) (S:BkD) (w:World) (e:Ending) (w':World):Prop:=
 e=.returned (.tuple #[])∧∃ M' tg',BkAt w' M' tg' s S∧Ext w M tg w' M' tg'∧Keeps (sel M tg (List.range 20)) w w'
theorem quAdd_ne {Q:QuD} {b:BatD} (h:(quAdd Q b).1≠0):(quAdd Q b).2=Q:=by
 unfold quAdd at h ⊢
 by_cases ha:quArg Q b=true
 ·rw [if_pos ha]
 ·rw [if_neg ha] at h ⊢
  by_cases h16:16≤Q.l.length
  ·rw [if_pos h16]
  ·rw [if_neg h16] at h;exact absurd rfl h
theorem quAdd_l {Q:QuD} {b:BatD}:∀ x∈(quAdd Q b).2.l,x∈Q.l∨x=b:=by
 intro x hx
 unfold quAdd at hx
 by_cases ha:quArg Q b=true
 ·rw [if_pos ha] at hx;exact .inl hx
 ·rw [if_neg ha] at hx
  by_cases h16:16≤Q.l.length
  ·rw [if_pos h16] at hx;exact .inl hx
  ·rw [if_neg h16] at hx;simpa using hx
theorem setQ_self (q:Nat→QuD) (k:Nat):setQ q k (q k)=q:=by
 funext j
 unfold setQ
 split
 ·rename_i h;rw [h]
 ·rfl
theorem addB_ok {S:BkD} {k:Nat} {b:BatD} (h:BkOk S) (hs:b.seq≤9223372036854775807) (hn:∀ d∈b.ds,SaOk d):BkOk (addB S k b):=by
 unfold addB
 split
 ·obtain ⟨h1,h2,h3,h4,h5,h6,h7,h8⟩:=h
  refine ⟨h1,h2,Nat.le_trans (List.length_filter_le _ _) h3,fun d hd=>h4 d (List.mem_filter.1 hd).1,h5,h6,fun j x hx=>?_,fun j=>?_⟩
  ·simp only [setQ] at hx
   split at hx
   ·rcases quAdd_l x hx with h | h
    ·exact h7 k x h
    ·rw [h];exact hn
   ·exact h7 j x hx
  ·simp only [setQ]
   split
   ·exact quAdd_ok (h8 k) hs (fun d hd=>(hn d hd).1)
   ·exact h8 j
 ·exact h
theorem infoId2:(Tryz.prog.info? 33).map (fun i=>(i.zero,i.size,i.bytes))=some (some (.agg #[.int .i64 0,.int .i64 0,.int .i64 0]),3,24):=by kernel_rfl
section
variable {w w':World} {M M':List Nat} {tg tg':Nat→Nat} {s:Nat} {S:BkD} {T:List Nat} {vs vc:Value} {qb:Nat→Nat}
theorem BkV.cuLen (h:BkV w M tg s S vs vc qb):∃ A c,vc=.slice A S.cuts.length c:=by
 obtain ⟨A,c,e,_⟩:=Rd.of_own (M:=[]) h.cu (by simp)
 exact ⟨A,c,e⟩
theorem BkV.qCell (h:BkV w M tg s S vs vc qb) {k:Nat} (hk:k < 4):w.cell? ⟨s,3 + k,none⟩=some (.pointer (some ⟨qb k,0,none⟩)):=by
 obtain ⟨-,-,-,c3,c4,c5,c6,-,-⟩:=blk8 h.blk
 rcases (show k=0∨k=1∨k=2∨k=3 by omega) with rfl | rfl | rfl | rfl
 ·exact c3
 ·exact c4
 ·exact c5
 ·exact c6
theorem badd_any (h:BkAt w M tg s S) (hM:∀ g∈M,g < w.heap.size) (k:Nat) (hk:k < 4) (b:BatD) (dv:Value) (hd:Ds w M dv b.ds) (hs:b.seq≤9223372036854775807) (hn:∀ d∈b.ds,SaOk d) (hl:b.ds.length≤1000000) (hc:S.cuts.length≤100000000) :
    Calls Tryz.prog 180 #[.pointer (some ⟨s,0,none⟩),.int .i64 k,.agg (bCell (b,dv)).toArray] w fun e w'=>BaPost M tg s (addB S k b) w e w':=by
  have hok:=addB_ok (k:=k) h.1 hs hn
  obtain ⟨ho,vs,vc,qb,hv⟩:=h
  obtain ⟨Ad,cd,rfl,hcd⟩:=hd.len
  obtain ⟨Ac,cc,rfl⟩:=hv.cuLen
  obtain ⟨As,cs,rfl,-⟩:=hv.ds.len
  have hlt:=hv.blk.lt
  obtain ⟨w0,hw0⟩:∃ w0,w0=w.alloc (.cells #[.int .i64 b.seq,.slice Ad b.ds.length cd] 193):=⟨_,rfl⟩
  have hb0:Below w.heap.size w w0:=by rw [hw0];exact (Below.refl _ _).alloc (Nat.le_refl _) _
  have hz0:w0.heap.size=w.heap.size + 1:=by rw [hw0];simp
  have hB0:Blk w0 w.heap.size 193 #[.int .i64 b.seq,.slice Ad b.ds.length cd]:=by rw [hw0];exact Blk.new w _ _
  have hM0:∀ g∈M,g < w0.heap.size:=fun g hg=>by have:=hM g hg;omega
  have hv0:=hv.keep0 hM (Keeps.of_below (M:=[]) hb0)
  have hd0:Ds w0 M (.slice Ad b.ds.length cd) b.ds:=hd.keep (Keeps.of_below (M:=[]) hb0) (by simp)
  have hqa:=Lib.hid (qadd_any (w:=w0.drew) (((hv0.q k hk).keep0 hM0 ((Keeps.refl _ _).drew))) hM0 b (.slice Ad b.ds.length cd) ((hd0.avoid (M':=[]) (by simp)).keep ((Keeps.refl [] _).drew) (by simp)) hs (fun d hd=>(hn d hd).1) hl)
  have Hv0:=Lib.hid hv0;have HM:=Lib.hid hM;have HM0:=Lib.hid hM0;have Hok:=Lib.hid hok;have Hd0:=Lib.hid hd0;have Hb0:=Lib.hid hb0;have HB0:=Lib.hid hB0
  have hBM:Hid (∀ M1 tg1 W,Ext w0 M tg W M1 tg1→w.heap.size∉M1):=fun M1 tg1 W hx hm=>by
    rcases hx.new _ hm with h | h
    · have:=HM.out _ h;omega
    · omega
  have hS0:Hid (∀ W,Keeps (sel M tg [10 + 2 * k,10 + 2 * k + 1]) w0 W→W.cell? ⟨s,3 + k,none⟩=some (.pointer (some ⟨qb k,0,none⟩))∧W.cell? ⟨w.heap.size,0,none⟩=some (.int .i64 b.seq)∧W.cell? ⟨w.heap.size,1,none⟩=some (.slice Ad b.ds.length cd)):=fun W hk'=>by
    have h1:=hk'.blk HB0.out (fun hm=>by have:=HM.out _ (mem_sel.1 hm).1;omega)
    have h2:=blk_other hk' Hv0.out.blk (by rw [Hv0.out.ts];simp;omega)
    refine ⟨?_,h1.cell 0,h1.cell 1⟩
    obtain ⟨-,-,-,c3,c4,c5,c6,-,-⟩:=blk8 h2
    rcases (show k=0∨k=1∨k=2∨k=3 by omega) with rfl | rfl | rfl | rfl
    · exact c3
    · exact c4
    · exact c5
    · exact c6
  have Hx0:Hid (∀ W M1 tg1,Ext w0.drew M tg W M1 tg1→Ext w M tg W M1 tg1):=fun W M1 tg1 hx=>(Ext.refl (w':=w0) HM.out Hb0.out.size).trans (w1:=w0) ⟨hx.sub,hx.new,hx.tag,hx.old,hx.lt⟩ Hb0.out.size
  have Hx00:Hid (∀ W M1 tg1,Ext w0.drew M tg W M1 tg1→Ext w0 M tg W M1 tg1):=fun W M1 tg1 hx=>⟨hx.sub,hx.new,hx.tag,hx.old,hx.lt⟩
  have hki:(k:Int) < 4:=by omega
  have hk0:(0:Int)≤(k:Int):=by omega
  by_cases hz:(quAdd (S.q k) b).1=0
  · have hab:Hid (addB S k b={ S with q:=setQ S.q k (quAdd (S.q k) b).2,sa:=S.sa.filter fun d=>!inDs b.ds d,cuts:=S.cuts++[((k:Int),b.seq)] }):=by show _=_;unfold addB;rw [if_pos hz]
    have hzb:((quAdd (S.q k) b).1 != 0)=false:=by simpa using hz
    have hl32:=ho.2.2.1
    obtain ⟨i0,hi0,hz0',hz1,hz2⟩:=info_parts infoId2
    have Hi0:=Lib.hid hi0;have Hz0:=Lib.hid hz0';have Hz1:=Lib.hid hz1;have Hz2:=Lib.hid hz2
    clear hok hv hv0 hd hd0 hM hM0 hb0 hB0 hi0 hz0' hz1 hz2 ho
    generalize quAdd (S.q k) b=R at *
    obtain ⟨c,Q'⟩:=R
    simp only [] at hzb hqa hz hab
    subst hz
    unfold bCell at hqa ⊢
    simp only [] at hqa ⊢
    go_enter Tryz.func180,Tryz.ntmps180
    go_upto_region 1 with (fail)
    rw [← hw0]
    clear hw0
    have Hk0:=Lib.hid (Keeps.refl (sel M tg [10 + 2 * k,10 + 2 * k + 1]) w0)
    go_region_held3 (fun W=>W.cell? ⟨s,3 + k,none⟩=some (.pointer (some ⟨qb k,0,none⟩))∧W.cell? ⟨w.heap.size,0,none⟩=some (.int .i64 b.seq)∧W.cell? ⟨w.heap.size,1,none⟩=some (.slice Ad b.ds.length cd))
      ((refine hS0.out _ ?_;first | (with_reducible exact Hk1.out) | (with_reducible exact Hk0.out.drew)))
      (first
        | (go_at_call 240
           with_reducible refine hqa.out.mono ?_
           rintro e w1 ⟨rfl,M1,tg1,hq1,hx1,hk1⟩
           have Hk1:Hid (Keeps (sel M tg [10 + 2 * k,10 + 2 * k + 1]) w0 w1):=Keeps.trans ((Keeps.refl _ _).drew) hk1 (fun g hg=>.inl hg)
           have Hx1:=Lib.hid hx1;have Hq1:=Lib.hid hq1
           clear hq1 hx1 hk1))
    have Hv1:=Lib.hid (Hv0.out.setQ' hk (Hx00.out _ _ _ Hx1.out) Hk1.out Hq1.out)
    have HB1:Hid (Blk w1 w.heap.size 193 #[.int .i64 b.seq,.slice Ad b.ds.length cd]):=Hk1.out.blk HB0.out (fun hm=>by have:=HM.out _ (mem_sel.1 hm).1;omega)
    have Hd1:Hid (Ds w1 M1 (.slice Ad b.ds.length cd) b.ds):=(Hx00.out _ _ _ Hx1.out).ds Hk1.out Hd0.out
    have HB1M:Hid (w.heap.size∉M1):=hBM.out _ _ _ (Hx00.out _ _ _ Hx1.out)
    have hdf := Lib.hid (deletef_any w.heap.size (inDs b.ds) (.slice As S.sa.length cs) S.sa w1 Hv1.out.sa (by omega) (fun W x hk' => by
      have hBW:=hk'.blk HB1.out (fun hm=>HB1M.out (Hv1.out.tsa _ (by simpa using hm)).1)
      exact inds_any x w.heap.size b (.slice Ad b.ds.length cd) W hBW.lt (hBW.cell 1) ((Hd1.out.keep hk' (fun g hg => .inl (Hv1.out.tsa _ (by simpa using hg)).1)).avoid (by simp)) hl))
    obtain ⟨-,g1,-,-,-,-,-,g7,hlt1⟩:=blk8 Hv1.out.blk
    go_wp2_with fail
    refine hdf.out.mono ?_
    rintro e w2 ⟨A2,n2,c2,rfl,hn2,hrow2,hown2,hk2⟩
    have hB2:=hk2.blk Hv1.out.blk (fun hm=>by have:=(Hv1.out.tsa s (by simpa using hm)).2;rw [Hv1.out.ts] at this;omega)
    have hB2f:=hB2.frozen 1
    obtain ⟨-,y1,-,-,-,-,-,y7,hlt2⟩:=blk8 hB2
    subst hn2
    obtain ⟨M3,tg3,hv3,hx3,hk3⟩:=Hv1.out.setSa (sa':=S.sa.filter fun d=>!inDs b.ds d) Hx1.out.lt hk2 hrow2 (.inl hown2)
    have Hv3:=Lib.hid hv3;have Hx3:=Lib.hid hx3;have Hk3:=Lib.hid hk3
    have HB3:Hid (Blk (w2.setCell ⟨s,1,none⟩ (.slice A2 (S.sa.filter fun d=>!inDs b.ds d).length c2)) w.heap.size 193 #[.int .i64 b.seq,.slice Ad b.ds.length cd]):=hk3.blk HB1.out (fun hm=>HB1M.out (mem_sel.1 hm).1)
    clear hdf hrow2 hown2 hB2 hv3 hx3 hk3 hk2 g1 g7
    go_upto_region 3 with (fail)
    generalize w2.setCell ⟨s,1,none⟩ (.slice A2 (S.sa.filter fun d=>!inDs b.ds d).length c2)=w3 at *
    clear y1 y7 hB2f
    obtain ⟨-,-,-,-,-,-,-,g7,hlt3⟩:=blk8 Hv3.out.blk
    obtain ⟨b0,-⟩:=And.intro (HB3.out.cell 0) (HB3.out.cell 1)
    simp only [List.getElem?_toArray,List.getElem?_cons_zero] at b0
    have hB3l:=HB3.out.lt
    have g7a:∀ o,(w3.alloc o).cell? ⟨s,7,none⟩=some (.slice Ac S.cuts.length cc):=fun o=>(World.cell?_alloc_lt _ _ _ hlt3).trans g7
    have hsB:¬ s=w.heap.size:=by omega
    refine wp_region_held_drew (S:=(fun W=>W.cell? ⟨w.heap.size,0,none⟩=some (.int .i64 b.seq))) (by kernel_rfl) b0 (fun hHeld=>?_)
    refine tk [0,1,2,3,5,6,7,8] ?_
    refine wpAnyH_ready (rs:=[4,9]) (by kernel_rfl) (by simp) ?_
    refine AllReadyH.cons (o:=_) rfl (fun K hK=>?u30) (AllReadyH.cons (o:=_) rfl (fun K hK=>?u31) AllReadyH.nil)
    case' u30=>
      go_simp
      refine hK.out _ _ b0 (fun _=>?_)
      clear hK K hHeld;rename_i hHeld
      try simp only [sgl,Act.put]
      refine rd 9 (fun K hK=>?_)
      go_simp
      refine hK.out _ _ ((World.cell?_alloc_lt _ _ _ hB3l).trans b0) (fun _=>?_)
      clear hK K hHeld;rename_i hHeld
      try simp only [sgl,Act.put]
      refine rd 10 (fun K hK=>?_)
      refine step_append_any _ rfl (.tmp 28) (.tmp 33) 29 rfl 0 33 i0 _ 3 24 Tryz.underlying29 Hi0.out Hz0.out Hz1.out Hz2.out rfl (by omega) (.slice Ac S.cuts.length cc) S.cuts.length (S.cuts.flatMap cCell) (by simp [Act.eval,Act.put]) (own_below Hv3.out.cu (Keeps.below (((Keeps.refl [] w3).alloc _).drew))) (w3.heap.size + 1) (some ⟨w3.heap.size,0,none⟩) 1 1 [.int .i64 0,.int .i64 k,.int .i64 b.seq] (by simp [Act.eval,Act.put]) (show Reads (w3.alloc _).drew _ _ _ _ _ from reads_new w3 _ 3 1 _ rfl) (by intro u hu;simp at hu;rcases hu with rfl | rfl | rfl <;> rfl) (by unfold maxLen;omega) (by omega) (Nat.zero_le _) ?_
      intro v4 w4 hown4 hg4 hat4
      obtain ⟨A4,c4,rfl⟩:∃ A4 c4,v4=.slice A4 (S.cuts.length + 1) c4:=by
        obtain ⟨A4,c4,h1,_⟩:=Rd.of_own (M:=[]) hown4 (by simp)
        exact ⟨A4,c4,h1⟩
      have hk4:Keeps (Value.ownBlock (.slice Ac S.cuts.length cc)).toList w3 w4:=Keeps.grown (w:=(w3.alloc (.cells #[.int .i64 0,.int .i64 k,.int .i64 b.seq] 33)).drew) ((((Keeps.refl [] w3).alloc _).drew).mono (by simp)) hg4 (fun g hg=>.inl (by simpa using hg))
      have hat5:(Value.slice A4 (S.cuts.length + 1) c4).ownBlock=(Value.slice Ac S.cuts.length cc).ownBlock∨∃ g,(Value.slice A4 (S.cuts.length + 1) c4).ownBlock=some g∧w3.heap.size≤g:=by
        rcases hat4 with h | h
        · exact .inl h
        · refine .inr ⟨_,h,?_⟩
          show w3.heap.size≤(w3.alloc _).heap.size
          rw [World.size_alloc];omega
      have hB4:=hk4.blk Hv3.out.blk (fun hm=>by have:=(Hv3.out.tcu s (by simpa using hm)).2;rw [Hv3.out.ts] at this;omega)
      have g7d:=(blk8 hB4).2.2.2.2.2.2.2.1
      have f7:=hB4.frozen 7
      have HS4:Hid (w4.cell? ⟨w.heap.size,0,none⟩=some (.int .i64 b.seq)):=by
        have hne:w.heap.size∉(Value.ownBlock (.slice Ac S.cuts.length cc)).toList:=fun hm=>by
          rcases Hx3.out.new _ (Hv3.out.tcu _ (by simpa using hm)).1 with h | h
          · exact HB1M.out h
          · have:=HB1.out.lt;omega
        exact (hk4.blk HB3.out hne).cell 0
      have HS5:Hid ((w4.setCell ⟨s,7,none⟩ (.slice A4 (S.cuts.length + 1) c4)).cell? ⟨w.heap.size,0,none⟩=some (.int .i64 b.seq)):=(World.cell?_setCell_far _ _ _ _ hsB).trans HS4.out
      have Hk4:=Lib.hid hk4;have Hat5:=Lib.hid hat5;have Hown4:=Lib.hid hown4
      clear hown4 hg4 hat4 hk4 hat5 hB4
      refine hK.out _ _ HS4.out (fun _=>?_)
      clear hK K hHeld;rename_i hHeld
      refine tk [11,12] ?_
      refine rd 13 (fun K hK=>?_)
      go_simp
      refine hK.out _ _ HS5.out (fun _=>?_)
      clear hK K hHeld;rename_i hHeld
      try simp only [sgl,Act.put]
      refine dn ?_
      clear hHeld
    case' u31=>
      go_simp
      refine hK.out _ _ ((World.cell?_alloc_lt _ _ _ hB3l).trans b0) (fun _=>?_)
      clear hK K hHeld;rename_i hHeld
      try simp only [sgl,Act.put]
      refine rd 4 (fun K hK=>?_)
      go_simp
      refine hK.out _ _ ((World.cell?_alloc_lt _ _ _ hB3l).trans b0) (fun _=>?_)
      clear hK K hHeld;rename_i hHeld
      try simp only [sgl,Act.put]
      refine rd 10 (fun K hK=>?_)
      refine step_append_any _ rfl (.tmp 28) (.tmp 33) 29 rfl 0 33 i0 _ 3 24 Tryz.underlying29 Hi0.out Hz0.out Hz1.out Hz2.out rfl (by omega) (.slice Ac S.cuts.length cc) S.cuts.length (S.cuts.flatMap cCell) (by simp [Act.eval,Act.put]) (own_below Hv3.out.cu (Keeps.below (((Keeps.refl [] w3).alloc _).drew))) (w3.heap.size + 1) (some ⟨w3.heap.size,0,none⟩) 1 1 [.int .i64 0,.int .i64 k,.int .i64 b.seq] (by simp [Act.eval,Act.put]) (show Reads (w3.alloc _).drew _ _ _ _ _ from reads_new w3 _ 3 1 _ rfl) (by intro u hu;simp at hu;rcases hu with rfl | rfl | rfl <;> rfl) (by unfold maxLen;omega) (by omega) (Nat.zero_le _) ?_
      intro v4 w4 hown4 hg4 hat4
      obtain ⟨A4,c4,rfl⟩:∃ A4 c4,v4=.slice A4 (S.cuts.length + 1) c4:=by
        obtain ⟨A4,c4,h1,_⟩:=Rd.of_own (M:=[]) hown4 (by simp)
        exact ⟨A4,c4,h1⟩
      have hk4:Keeps (Value.ownBlock (.slice Ac S.cuts.length cc)).toList w3 w4:=Keeps.grown (w:=(w3.alloc (.cells #[.int .i64 0,.int .i64 k,.int .i64 b.seq] 33)).drew) ((((Keeps.refl [] w3).alloc _).drew).mono (by simp)) hg4 (fun g hg=>.inl (by simpa using hg))
      have hat5:(Value.slice A4 (S.cuts.length + 1) c4).ownBlock=(Value.slice Ac S.cuts.length cc).ownBlock∨∃ g,(Value.slice A4 (S.cuts.length + 1) c4).ownBlock=some g∧w3.heap.size≤g:=by
        rcases hat4 with h | h
        · exact .inl h
        · refine .inr ⟨_,h,?_⟩
          show w3.heap.size≤(w3.alloc _).heap.size
          rw [World.size_alloc];omega
      have hB4:=hk4.blk Hv3.out.blk (fun hm=>by have:=(Hv3.out.tcu s (by simpa using hm)).2;rw [Hv3.out.ts] at this;omega)
      have g7d:=(blk8 hB4).2.2.2.2.2.2.2.1
      have f7:=hB4.frozen 7
      have HS4:Hid (w4.cell? ⟨w.heap.size,0,none⟩=some (.int .i64 b.seq)):=by
        have hne:w.heap.size∉(Value.ownBlock (.slice Ac S.cuts.length cc)).toList:=fun hm=>by
          rcases Hx3.out.new _ (Hv3.out.tcu _ (by simpa using hm)).1 with h | h
          · exact HB1M.out h
          · have:=HB1.out.lt;omega
        exact (hk4.blk HB3.out hne).cell 0
      have HS5:Hid ((w4.setCell ⟨s,7,none⟩ (.slice A4 (S.cuts.length + 1) c4)).cell? ⟨w.heap.size,0,none⟩=some (.int .i64 b.seq)):=(World.cell?_setCell_far _ _ _ _ hsB).trans HS4.out
      have Hk4:=Lib.hid hk4;have Hat5:=Lib.hid hat5;have Hown4:=Lib.hid hown4
      clear hown4 hg4 hat4 hk4 hat5 hB4
      refine hK.out _ _ HS4.out (fun _=>?_)
      clear hK K hHeld;rename_i hHeld
      refine tk [11,12] ?_
      refine rd 13 (fun K hK=>?_)
      go_simp
      refine hK.out _ _ HS5.out (fun _=>?_)
      clear hK K hHeld;rename_i hHeld
      try simp only [sgl,Act.put]
      refine dn ?_
      clear hHeld
    all_goals
      have hP:Hid (BaPost M tg s (addB S k b) w (.returned (.tuple #[])) (w4.setCell ⟨s,7,none⟩ (.slice A4 (S.cuts.length + 1) c4))):=by
        obtain ⟨M5,tg5,hv5,hx5,hk5⟩:=Hv3.out.setCu (cu':=S.cuts++[((k:Int),b.seq)]) Hx3.out.lt Hk4.out (by rw [List.length_append,List.flatMap_append];exact Hown4.out) Hat5.out
        have hx:=((Hx0.out _ _ _ Hx1.out).trans Hx3.out (Nat.le_trans Hb0.out.size Hk1.out.size)).trans hx5 (Nat.le_trans (Nat.le_trans Hb0.out.size Hk1.out.size) Hk3.out.size)
        have hk01:Keeps (sel M tg (List.range 20)) w w1:=((Keeps.of_below (M:=sel M tg (List.range 20)) Hb0.out)).trans Hk1.out (fun g hg=>.inl (sel_more (by simp;omega) hg))
        have hk03:=Ext.keeps (Hx0.out _ _ _ Hx1.out) hk01 (Hk3.out.sel_mono (by simp))
        have hk05:=Ext.keeps ((Hx0.out _ _ _ Hx1.out).trans Hx3.out (Nat.le_trans Hb0.out.size Hk1.out.size)) hk03 (hk5.sel_mono (by simp))
        have hv6:BkV (w4.setCell ⟨s,7,none⟩ (.slice A4 (S.cuts.length + 1) c4)) M5 tg5 s (addB S k b) (.slice A2 (S.sa.filter fun d=>!inDs b.ds d).length c2) (.slice A4 (S.cuts.length + 1) c4) qb:=by rw [hab.out];exact hv5
        exact ⟨rfl,M5,tg5,⟨Hok.out,_,_,qb,hv6⟩,hx,hk05⟩
      go_wp2
      go_end0
      exact hP.out
  · have hP:Hid (∀ W M1 tg1,QuAt W M1 tg1 (10 + 2 * k) (qb k) (quAdd (S.q k) b).2→Ext w0.drew M tg W M1 tg1→Keeps (sel M tg [10 + 2 * k,10 + 2 * k + 1]) w0.drew W→BaPost M tg s (addB S k b) w (.returned (.tuple #[])) W):=fun W M1 tg1 h1 h2 h3=>by
      have ha:addB S k b=S:=by unfold addB;rw [if_neg hz]
      rw [ha]
      rw [quAdd_ne hz] at h1
      have h4:=Hv0.out.setQ' hk (Hx00.out _ _ _ h2) (Keeps.trans ((Keeps.refl _ _).drew) h3 (fun g hg=>.inl hg)) h1
      rw [setQ_self] at h4
      refine ⟨rfl,M1,tg1,⟨ho,_,_,_,h4⟩,Hx0.out _ _ _ h2,?_⟩
      exact (((Keeps.of_below (M:=sel M tg (List.range 20)) Hb0.out).drew).trans h3 (fun g hg=>.inl (sel_more (by simp;omega) hg)))
    have hzb:((quAdd (S.q k) b).1 != 0)=true:=by simpa using hz
    clear hok hv hv0 hd hd0 hM hM0 hb0 hB0
    generalize quAdd (S.q k) b=R at *
    obtain ⟨c,Q'⟩:=R
    simp only [] at hzb hP hqa hz
    unfold bCell at hqa ⊢
    simp only [] at hqa ⊢
    go_enter Tryz.func180,Tryz.ntmps180
    go_upto_region 1 with (fail)
    rw [← hw0]
    clear hw0
    have Hk0:=Lib.hid (Keeps.refl (sel M tg [10 + 2 * k,10 + 2 * k + 1]) w0)
    go_region_held3 (fun W=>W.cell? ⟨s,3 + k,none⟩=some (.pointer (some ⟨qb k,0,none⟩))∧W.cell? ⟨w.heap.size,0,none⟩=some (.int .i64 b.seq)∧W.cell? ⟨w.heap.size,1,none⟩=some (.slice Ad b.ds.length cd))
      ((refine hS0.out _ ?_;first | (with_reducible exact Hk1.out) | (with_reducible exact Hk0.out.drew)))
      (first
        | (go_at_call 240
           with_reducible refine hqa.out.mono ?_
           rintro e w1 ⟨rfl,M1,tg1,hq1,hx1,hk1⟩
           have HP1:=Lib.hid (hP.out _ _ _ hq1 hx1 hk1)
           have Hk1:Hid (Keeps (sel M tg [10 + 2 * k,10 + 2 * k + 1]) w0 w1):=Keeps.trans ((Keeps.refl _ _).drew) hk1 (fun g hg=>.inl hg)
           clear hq1 hx1 hk1))
    go_wp2
    go_end0
    exact HP1.out
end
theorem notgood_any (d:DeltaD) (m:Int) (w:World) (hs:d.ser.size < 4294967281) (hm:w.cell? ⟨0,0,none⟩=some (.int .i64 m)) :
  Calls Tryz.prog 279 #[.agg #[.string d.ser,.int .u64 d.n]] w fun e w'=>e=.returned (.bool (!goodD d))∧Below w.heap.size w w':=by
 have hw0:0 < w.heap.size:=by
  have:=World.block_lt_of_cell? w _ hm
  simpa using this
 obtain ⟨w0,hw0'⟩:∃ w0,w0=w.alloc (.cells #[.string d.ser,.int .u64 d.n] 63):=⟨_,rfl⟩
 have hb0:Below w.heap.size w w0:=by rw [hw0'];exact (Below.refl _ _).alloc (Nat.le_refl _) _
 have hB0:Blk w0 w.heap.size 63 #[.string d.ser,.int .u64 d.n]:=by rw [hw0'];exact Blk.new w _ _
 have b0:=hB0.cell 0;have b1:=hB0.cell 1
 simp only [List.getElem?_toArray,List.getElem?_cons_succ,List.getElem?_cons_zero] at b0 b1
 have hr:=Lib.hid (bright_any d m w0 hs ((hb0.cell (p:=⟨0,0,none⟩) hw0).trans hm))
 have Hb0:=Lib.hid hb0
 clear hB0 hb0 hm
 generalize goodD d=r at *
 go_enter Tryz.func279,Tryz.ntmps279
 go_upto_region 1 with (fail)
 rw [← hw0']
 clear hw0'
 go_wp2_with fail
 refine hr.out.mono ?_
 rintro e w1 ⟨rfl,hb1⟩
 have Hb1:Hid (Below w.heap.size w w1):=Hb0.out.trans (hb1.mono Hb0.out.size)
 clear hb1 hr
 go_wp2
 go_ret
 exact ⟨rfl,Hb1.out⟩
/-- Deltas whose series are not too long. -/
abbrev SD:={d:DeltaD // d.ser.size < 4294967281}
instance:Inhabited SD:=⟨⟨⟨⟨#[]⟩,0⟩,by decide⟩⟩
theorem sd_list:∀ (l:List DeltaD),(∀ d∈l,d.ser.size < 4294967281)→∃ l':List SD,l'.map (·.1)=l
 | [],_=>⟨[],rfl⟩
 | d :: l,h=>by
  obtain ⟨l',hl⟩:=sd_list l (fun x hx=>h x (List.mem_cons_of_mem _ hx))
  exact ⟨⟨d,h d (by simp)⟩ :: l',by simp [hl]⟩
theorem anybad_any (v:Value) (l:List DeltaD) (m:Int) (w:World) (h:Ds w [] v l) (hl:l.length≤1000000) (hs:∀ d∈l,d.ser.size < 4294967281) (hm:w.cell? ⟨0,0,none⟩=some (.int .i64 m)) :
  Calls Tryz.prog 187 #[v,.func (.func 279) #[] #[]] w fun r w'=>r=.returned (.bool (l.any fun d=>!goodD d))∧Below w.heap.size w w':=by
 have hw0:0 < w.heap.size:=by
  have:=World.block_lt_of_cell? w _ hm
  simpa using this
 by_cases h0:0 < l.length
 ·obtain ⟨g,off,c,rfl,hg,hc⟩:=ds_cells h h0
  obtain ⟨l',rfl⟩:=sd_list l hs
  have heg:∀ args w,(callFunc 279 args).run Tryz.prog w=.ok (.enter 279 args) w:=enters_of Tryz.func279 (by kernel_rfl) rfl
  have hp:PredBelow Tryz.prog 279 #[] (fun x:SD=>.agg (dCell x.1).toArray) (fun d=>!goodD d.1) w:=fun W x hb=>by
   refine Calls.mono (notgood_any x.1 m W x.2 ((hb.cell (p:=⟨0,0,none⟩) hw0).trans hm)) ?_
   rintro r w' ⟨rfl,hb2⟩
   exact ⟨rfl,hb.trans (hb2.mono hb.size)⟩
  rw [List.length_map] at hl h0 hc ⊢
  have := AnyQ.slices_ContainsFunc Tryz.containsFuncDelta 2 Tryz.isAgg63 Tryz.sizeOf63 (fun x : SD => dCell x.1) (fun _ => rfl) (fun d => !goodD d.1) 279 #[] heg g off l'.length c l' w hp (Nat.le_refl _) (by omega) hg (fun j hj i u hu => hc j hj i u (by
   rw [getElem!_pos (l'.map (·.1)) j (by simpa using hj),List.getElem_map]
   rw [getElem!_pos l' j hj] at hu
   exact hu))
  rw [List.take_length] at this
  rw [List.any_map]
  exact this
 ·obtain rfl:l=[]:=List.length_eq_zero_iff.1 (by omega)
  obtain ⟨A,c,rfl,_⟩:=h.len
  clear h hs hm
  go_enter Tryz.func187,Tryz.ntmps187
  go_wp2_with fail
  refine (indexf_nil A c _ #[] w).mono ?_
  rintro e w1 ⟨rfl,hb1⟩
  have Hb1:=Lib.hid hb1
  clear hb1
  go_wp2
  go_ret
  exact ⟨rfl,Hb1.out⟩
section
variable {w w' w0 W:World} {M M':List Nat} {tg tg':Nat→Nat} {s:Nat} {S S':BkD}
theorem ba_same (h:BkAt w0 M tg s S) (hM:∀ g∈M,g < w0.heap.size) (hk:Keeps [] w0 W):BaPost M tg s S w0 (.returned (.tuple #[])) W:=
 ⟨rfl,M,tg,h.keep0 hM hk,Ext.refl hM hk.size,hk.to_sel (by simp)⟩
theorem BaPost.from_ {e:Ending} (h:BaPost M tg s S W e w') (hM:∀ g∈M,g < w0.heap.size) (hk:Keeps [] w0 W):BaPost M tg s S w0 e w':=by
 obtain ⟨h1,M',tg',h2,h3,h4⟩:=h
 refine ⟨h1,M',tg',h2,⟨h3.sub,fun g hg=>?_,fun g hg=>h3.tag g (Nat.lt_of_lt_of_le hg hk.size),hM,h3.lt⟩,(hk.to_sel (by simp)).trans h4 (fun g hg=>.inl hg)⟩
 rcases h3.new g hg with h5 | h5
 ·exact .inl h5
 ·exact .inr (Nat.le_trans hk.size h5)
theorem ba_done (h:BkAt W M tg s S) (hM:∀ g∈M,g < w0.heap.size) (hk:Keeps [] w0 W) {k:Nat} (hk4:k < 4) {n:Int} {vs vc:Value} {qb:Nat→Nat} (hv:BkV W M tg s S vs vc qb) (h1:QuAt w' M tg (10 + 2 * k) (qb k) (quDone (S.q k) n)) (h2:Keeps (sel M tg [10 + 2 * k,10 + 2 * k + 1]) W w') :
  BaPost M tg s { S with q:=setQ S.q k (quDone (S.q k) n) } w0 (.returned (.tuple #[])) w':=by
 have hMW:∀ g∈M,g < W.heap.size:=fun g hg=>Nat.lt_of_lt_of_le (hM g hg) hk.size
 have hx:Ext W M tg w' M tg:=Ext.refl hMW h2.size
 have hv2:=hv.setQ' hk4 hx h2 h1
 obtain ⟨o1,o2,o3,o4,o5,o6,o7,o8⟩:=h.1
 refine ⟨rfl,M,tg,⟨⟨o1,o2,o3,o4,o5,o6,fun j x hx=>?_,fun j=>?_⟩,_,_,_,hv2⟩,Ext.refl hM (Nat.le_trans hk.size h2.size),(hk.to_sel (by simp)).trans h2 (fun g hg=>.inl (sel_more (by simp;omega) hg))⟩
 ·simp only [setQ] at hx
  split at hx
  ·exact o7 k x ((outB_sub n _).subset hx)
  ·exact o7 j x hx
 ·simp only [setQ]
  split
  ·exact quDone_ok n (o8 k)
  ·exact o8 j
theorem bbatch_any (h:BkAt w0 M tg s S) (hM:∀ g∈M,g < w0.heap.size) (hk:Keeps [] w0 w) (p:Nat) (hp:w0.heap.size≤p) (l:List UInt8) (bad over:Bool) (hr:RdAt w [] p l bad) (hl:l.length≤65536) (m:Int) (hm:w0.cell? ⟨0,0,none⟩=some (.int .i64 m)) (hc:S.cuts.length≤100000000) :
  Calls Tryz.prog 218 #[.pointer (some ⟨s,0,none⟩),.pointer (some ⟨p,0,none⟩),.bool over] w fun e w'=>BaPost M tg s (batchB S l bad over) w0 e w':=by
 have hw0:0 < w0.heap.size:=by
  have:=World.block_lt_of_cell? w0 _ hm
  simpa using this
 have Hm:Hid (∀ W,Keeps [] w0 W→W.cell? ⟨0,0,none⟩=some (.int .i64 m)):=fun W hk=>hk.c hm
 have Hp:Hid (∀ W W',Keeps [] w0 W→Keeps [p] W W'→Keeps [] w0 W'):=fun W W' h1 h2=>h1.trans h2 (fun g hg=>by simp at hg;subst hg;exact .inr hp)
 have HS:=Lib.hid h;have HM:=Lib.hid hM;have Hk:=Lib.hid hk
 have HD : Hid (batchB S l bad over = if over = true then (if doneR (intS (countS l bad 3).2.1 (countS l bad 3).2.2).2.1 (intS (countS l bad 3).2.1 (countS l bad 3).2.2).2.2 = true then { S with q := setQ S.q (countS l bad 3).1 (quDone (S.q (countS l bad 3).1) (intS (countS l bad 3).2.1 (countS l bad 3).2.2).1) } else S)
  else if (doneR (getDs (countS (intS (countS l bad 3).2.1 (countS l bad 3).2.2).2.1 (intS (countS l bad 3).2.1 (countS l bad 3).2.2).2.2 8).1 (countS (intS (countS l bad 3).2.1 (countS l bad 3).2.2).2.1 (intS (countS l bad 3).2.1 (countS l bad 3).2.2).2.2 8).2.1 (countS (intS (countS l bad 3).2.1 (countS l bad 3).2.2).2.1 (intS (countS l bad 3).2.1 (countS l bad 3).2.2).2.2 8).2.2).2.1 (getDs (countS (intS (countS l bad 3).2.1 (countS l bad 3).2.2).2.1 (intS (countS l bad 3).2.1 (countS l bad 3).2.2).2.2 8).1 (countS (intS (countS l bad 3).2.1 (countS l bad 3).2.2).2.1 (intS (countS l bad 3).2.1 (countS l bad 3).2.2).2.2 8).2.1 (countS (intS (countS l bad 3).2.1 (countS l bad 3).2.2).2.1 (intS (countS l bad 3).2.1 (countS l bad 3).2.2).2.2 8).2.2).2.2 && (getDs (countS (intS (countS l bad 3).2.1 (countS l bad 3).2.2).2.1 (intS (countS l bad 3).2.1 (countS l bad 3).2.2).2.2 8).1 (countS (intS (countS l bad 3).2.1 (countS l bad 3).2.2).2.1 (intS (countS l bad 3).2.1 (countS l bad 3).2.2).2.2 8).2.1 (countS (intS (countS l bad 3).2.1 (countS l bad 3).2.2).2.1 (intS (countS l bad 3).2.1 (countS l bad 3).2.2).2.2 8).2.2).1.all goodD) = true then addB S (countS l bad 3).1 ⟨(intS (countS l bad 3).2.1 (countS l bad 3).2.2).1, (getDs (countS (intS (countS l bad 3).2.1 (countS l bad 3).2.2).2.1 (intS (countS l bad 3).2.1 (countS l bad 3).2.2).2.2 8).1 (countS (intS (countS l bad 3).2.1 (countS l bad 3).2.2).2.1 (intS (countS l bad 3).2.1 (countS l bad 3).2.2).2.2 8).2.1 (countS (intS (countS l bad 3).2.1 (countS l bad 3).2.2).2.1 (intS (countS l bad 3).2.1 (countS l bad 3).2.2).2.2 8).2.2).1⟩ else S) := rfl
 have h1:=countS_most l bad 3
 have l1:=countS_len l bad 3
 have hi1:=Lib.hid (count_any [] p l bad 3 (by omega) w hr)
 clear h hM hk hm hr
 generalize batchB S l bad over=SR at *
 generalize countS l bad 3=r1 at *
 obtain ⟨k,l1',b1⟩:=r1
 simp only [] at h1 l1 HD hi1
 have h2:=intS_lt l1' b1
 have l2:=intS_len l1' b1
 have hi2:=Lib.hid (fun W (hr:RdAt W [] p l1' b1)=>rint_any [] p l1' b1 W hr)
 generalize intS l1' b1=r2 at *
 obtain ⟨n,l2',b2⟩:=r2
 simp only [] at h2 l2 HD hi2
 have hk3:(k:Int) < 4:=by omega
 have hk0:(0:Int)≤(k:Int):=by omega
 rcases over with _ | _
 ·rw [if_neg (by simp)] at HD
  have h3:=countS_most l2' b2 8
  have l3:=countS_len l2' b2 8
  have hi3:=Lib.hid (fun W (hr:RdAt W [] p l2' b2)=>count_any [] p l2' b2 8 (by omega) W hr)
  generalize countS l2' b2 8=r3 at *
  obtain ⟨c,l3',b3⟩:=r3
  simp only [] at h3 l3 HD hi3
  obtain ⟨g1,g2⟩:=getDs_short c l3' b3
  have hi4:=Lib.hid (fun W (hr:RdAt W [] p l3' b3)=>get_ds [] p c l3' b3 W hr h3)
  have HG:Hid (∀ e W W',GetPost [] p c l3' b3 W e W'→∃ v,e=.returned v∧W'.ownsRow W.heap.size 63 2 v c (dCells (getDs c l3' b3).1)∧RdAt W' [] p (getDs c l3' b3).2.1 (getDs c l3' b3).2.2∧Keeps [p] W W'):=fun _ _ _ h=>h
  generalize getDs c l3' b3=r4 at *
  obtain ⟨ds,l4',b4⟩:=r4
  simp only [] at g1 g2 HD HG
  have Hsz:Hid (∀ d∈ds,SaOk d):=fun d hd=>⟨(g1 d hd).2,by have:=(g1 d hd).1;omega⟩
  have hal:Hid ((ds.any fun d=>!goodD d) = !ds.all goodD):=by show _=_;rw [List.not_all_eq_any_not]
  clear g1
  subst g2
  go_enter Tryz.func218,Tryz.ntmps218
  go_wp2_with fail
  refine hi1.out.mono ?_
  rintro e w1 ⟨rfl,hA1,hk1⟩
  have HA1:=Lib.hid hA1;have Hk1:=Lib.hid (Hp.out _ _ Hk.out hk1)
  clear hA1 hk1 hi1
  go_wp2_with fail
  refine (hi2.out _ HA1.out).mono ?_
  rintro e w2 ⟨rfl,hA2,hk2⟩
  have HA2:=Lib.hid hA2;have Hk2:=Lib.hid (Hp.out _ _ Hk1.out hk2)
  clear hA2 hk2 hi2
  go_wp2_with fail
  refine (hi3.out _ HA2.out).mono ?_
  rintro e w3 ⟨rfl,hA3,hk3'⟩
  have HA3:=Lib.hid hA3;have Hk3:=Lib.hid (Hp.out _ _ Hk2.out hk3')
  clear hA3 hk3' hi3
  go_wp2_with fail
  refine (hi4.out _ HA3.out).mono ?_
  intro e w4 hgp
  obtain ⟨v,rfl,hown,hA4,hk4⟩:=HG.out _ _ _ hgp
  have hds4:∀ L,(∀ g∈L,g < w3.heap.size)→Ds w4 L v ds:=fun L hL=>Rd.of_own hown hL
  obtain ⟨Ad,cd,rfl,hcd⟩:=(hds4 [] (by simp)).len
  have Hds4:=Lib.hid hds4;have HA4:=Lib.hid hA4;have Hk4:=Lib.hid (Hp.out _ _ Hk3.out hk4)
  have hpl:=hA4.lt
  clear hgp hown hA4 hk4 hi4 hds4 HG
  go_upto_region 5 with (fail)
  obtain ⟨w5,hw5⟩:∃ w5,w5=w4.alloc (.cells #[.int .i64 n,.slice Ad ds.length cd] 193):=⟨_,rfl⟩
  have hka:Keeps [] w4 w5:=by rw [hw5];exact (Keeps.refl _ _).alloc _
  have hB5:Blk w5 w4.heap.size 193 #[.int .i64 n,.slice Ad ds.length cd]:=by rw [hw5];exact Blk.new w4 _ _
  have Hk5:Hid (Keeps [] w0 w5):=Hk4.out.trans hka (by simp)
  have HA5:Hid (RdAt w5 [] p l4' b4):=HA4.out.keep hka (by simp) (by simp)
  have Hds5:Hid (Ds w5 M (.slice Ad ds.length cd) ds):=(Hds4.out M (fun g hg=>Nat.lt_of_lt_of_le (HM.out g hg) Hk3.out.size)).keep hka (by simp)
  have HB5:=Lib.hid hB5
  rw [← hw5]
  generalize w4.heap.size=gb at *
  clear hw5 hka Hds4 HA4
  have hdn:=Lib.hid (done_any [] p l4' b4 w5 HA5.out)
  have hdd:Hid ((!b4 && l4'.isEmpty)=doneR l4' b4):=rfl
  rw [hdd.out] at hdn
  have b5:=hB5.cell 0;have b6:=hB5.cell 1
  simp only [List.getElem?_toArray,List.getElem?_cons_succ,List.getElem?_cons_zero] at b5 b6
  have hl5:=hB5.lt
  clear hB5
  rcases hdo:doneR l4' b4 with _ | _
  ·rw [hdo] at hdn
   rw [hdo,Bool.false_and,if_neg (by simp)] at HD
   have hP:Hid (BaPost M tg s SR w0 (.returned (.tuple #[])) w5):=by rw [HD.out];exact ba_same HS.out HM.out Hk5.out
   clear hdo hdd
   go_wp2_with fail
   refine hdn.out.mono ?_
   rintro e w6 ⟨rfl,rfl⟩
   go_wp2
   go_end0
   exact hP.out
  ·rw [hdo] at hdn
   rw [hdo,Bool.true_and] at HD
   have hcf:=Lib.hid (anybad_any (.slice Ad ds.length cd) ds m w5 (Hds5.out.avoid (by simp)) (by omega) (fun d hd=>by have:=(Hsz.out d hd).2;omega) (Hm.out _ Hk5.out))
   rw [hal.out] at hcf
   rcases hga:ds.all goodD with _ | _
   ·rw [hga] at hcf
    rw [hga,if_neg (by simp)] at HD
    have hP:Hid (∀ W,Below w5.heap.size w5 W→BaPost M tg s SR w0 (.returned (.tuple #[])) W):=fun W hb=>by rw [HD.out];exact ba_same HS.out HM.out (Hk5.out.trans (Keeps.of_below (M:=[]) hb) (by simp))
    clear hdo hdd hga hal
    go_wp2_with fail
    refine hdn.out.mono ?_
    rintro e w6 ⟨rfl,rfl⟩
    go_wp2_with fail
    refine hcf.out.mono ?_
    rintro e w7 ⟨rfl,hb7⟩
    have HR:=Lib.hid (hP.out _ hb7)
    clear hb7 hcf
    go_wp2
    go_end0
    exact HR.out
   ·rw [hga] at hcf
    rw [hga,if_pos rfl] at HD
    have hP:Hid (∀ W,Below w5.heap.size w5 W→Calls Tryz.prog 180 #[.pointer (some ⟨s,0,none⟩),.int .i64 k,.agg #[.int .i64 n,.slice Ad ds.length cd]] W fun e w'=>e=.returned (.tuple #[])∧BaPost M tg s SR w0 e w'):=fun W hb=>by
     have hkW:Keeps [] w0 W:=Hk5.out.trans (Keeps.of_below (M:=[]) hb) (by simp)
     refine (badd_any (HS.out.keep0 HM.out hkW) (fun g hg=>Nat.lt_of_lt_of_le (HM.out g hg) hkW.size) k (by omega) ⟨n,ds⟩ (.slice Ad ds.length cd) (Hds5.out.keep (Keeps.of_below (M:=[]) hb) (by simp)) (by show (n:Int)≤_;omega) Hsz.out (by show ds.length≤_;omega) hc).mono ?_
     intro e W' hp
     rw [HD.out]
     exact ⟨hp.1,hp.from_ HM.out hkW⟩
    clear hdo hdd hga hal
    go_wp2_with fail
    refine hdn.out.mono ?_
    rintro e w6 ⟨rfl,rfl⟩
    go_wp2_with fail
    refine hcf.out.mono ?_
    rintro e w7 ⟨rfl,hb7⟩
    have b7:w7.cell? ⟨gb,0,none⟩=some (.int .i64 n):=(hb7.cell (p:=⟨gb,0,none⟩) hl5).trans b5
    have b8:w7.cell? ⟨gb,1,none⟩=some (.slice Ad ds.length cd):=(hb7.cell (p:=⟨gb,1,none⟩) hl5).trans b6
    have Hb7:=Lib.hid hb7
    clear hb7 hcf
    go_wp2_with fail
    refine (hP.out _ Hb7.out).mono ?_
    rintro e w8 ⟨rfl,hp8⟩
    have HR:=Lib.hid hp8
    clear hp8 hP
    go_wp2
    go_end0
    exact HR.out
 ·rw [if_pos rfl] at HD
  go_enter Tryz.func218,Tryz.ntmps218
  go_wp2_with fail
  refine hi1.out.mono ?_
  rintro e w1 ⟨rfl,hA1,hk1⟩
  have HA1:=Lib.hid hA1;have Hk1:=Lib.hid (Hp.out _ _ Hk.out hk1)
  clear hA1 hk1 hi1
  go_wp2_with fail
  refine (hi2.out _ HA1.out).mono ?_
  rintro e w2 ⟨rfl,hA2,hk2⟩
  have HA2:=Lib.hid hA2;have Hk2:=Lib.hid (Hp.out _ _ Hk1.out hk2)
  clear hA2 hk2 hi2
  have hdn:=Lib.hid (done_any [] p l2' b2 w2 HA2.out)
  have hdd:Hid ((!b2 && l2'.isEmpty)=doneR l2' b2):=rfl
  rw [hdd.out] at hdn
  rcases hdo:doneR l2' b2 with _ | _
  ·rw [hdo] at hdn
   rw [hdo,if_neg (by simp)] at HD
   have hP:Hid (BaPost M tg s SR w0 (.returned (.tuple #[])) w2):=by rw [HD.out];exact ba_same HS.out HM.out Hk2.out
   clear hdo hdd
   go_wp2_with fail
   refine hdn.out.mono ?_
   rintro e w3 ⟨rfl,rfl⟩
   go_wp2
   go_end0
   exact hP.out
  ·rw [hdo] at hdn
   rw [hdo,if_pos rfl] at HD
   obtain ⟨ho,vs,vc,qb,hv⟩:=HS.out.keep0 HM.out Hk2.out
   have hq:=hv.q k (by omega)
   have hcell:=hv.qCell (k:=k) (by omega)
   have hMW:∀ g∈M,g < w2.heap.size:=fun g hg=>Nat.lt_of_lt_of_le (HM.out g hg) Hk2.out.size
   have hqd:=Lib.hid (qdone_any hq hMW n)
   have hP:Hid (∀ W,QuAt W M tg (10 + 2 * k) (qb k) (quDone (S.q k) n)→Keeps (sel M tg [10 + 2 * k,10 + 2 * k + 1]) w2 W→BaPost M tg s SR w0 (.returned (.tuple #[])) W):=fun W h1 h2=>by
    rw [HD.out]
    exact ba_done ⟨ho,vs,vc,qb,hv⟩ HM.out Hk2.out (by omega) hv h1 h2
   clear hdo hdd ho hv hq hMW
   go_wp2_with fail
   refine hdn.out.mono ?_
   rintro e w3 ⟨rfl,rfl⟩
   go_wp2_with fail
   refine hqd.out.mono ?_
   rintro e w4 ⟨rfl,hq4,hk4⟩
   have HR:=Lib.hid (hP.out _ hq4 hk4)
   clear hq4 hk4 hqd
   go_wp2
   go_end0
   exact HR.out
end
section
variable {w w' w0 W:World} {M M':List Nat} {tg tg':Nat→Nat} {s:Nat} {S S':BkD} {vs vc:Value} {qb:Nat→Nat}
theorem BkV.setEp (h:BkV w M tg s S vs vc qb) (hM:∀ g∈M,g < w.heap.size) (n:Int):BkV (w.setCell ⟨s,0,none⟩ (.int .i64 n)) M tg s { S with ep:=n } vs vc qb∧Keeps (sel M tg [1]) w (w.setCell ⟨s,0,none⟩ (.int .i64 n)):=by
 have kf:Keeps (sel M tg [1]) w (w.setCell ⟨s,0,none⟩ (.int .i64 n)):=(Keeps.refl _ _).setCell (.inl (mem_sel.2 ⟨h.inM,by rw [h.ts];simp⟩)) _
 have hx:Ext w M tg (w.setCell ⟨s,0,none⟩ (.int .i64 n)) M tg:=Ext.refl hM kf.size
 refine ⟨⟨?_,h.inM,h.ts,row_other kf h.sa (fun g hg=>by rw [(h.tsa g hg).2];simp),h.tsa,row_other kf h.cu (fun g hg=>by rw [(h.tcu g hg).2];simp),h.tcu,fun j hj=>(h.q j hj).keep hx kf (by simp;omega) (by simp)⟩,kf⟩
 have h9:=h.blk.set_ 0 (.int .i64 n)
 show Blk _ s _ #[.int .i64 n,vs,.int .i64 S.sh,.pointer (some ⟨qb 0,0,none⟩),.pointer (some ⟨qb 1,0,none⟩),.pointer (some ⟨qb 2,0,none⟩),.pointer (some ⟨qb 3,0,none⟩),vc]
 simpa using h9
theorem BkV.setSh (h:BkV w M tg s S vs vc qb) (hM:∀ g∈M,g < w.heap.size) (n:Int):BkV (w.setCell ⟨s,2,none⟩ (.int .i64 n)) M tg s { S with sh:=n } vs vc qb∧Keeps (sel M tg [1]) w (w.setCell ⟨s,2,none⟩ (.int .i64 n)):=by
 have kf:Keeps (sel M tg [1]) w (w.setCell ⟨s,2,none⟩ (.int .i64 n)):=(Keeps.refl _ _).setCell (.inl (mem_sel.2 ⟨h.inM,by rw [h.ts];simp⟩)) _
 have hx:Ext w M tg (w.setCell ⟨s,2,none⟩ (.int .i64 n)) M tg:=Ext.refl hM kf.size
 refine ⟨⟨?_,h.inM,h.ts,row_other kf h.sa (fun g hg=>by rw [(h.tsa g hg).2];simp),h.tsa,row_other kf h.cu (fun g hg=>by rw [(h.tcu g hg).2];simp),h.tcu,fun j hj=>(h.q j hj).keep hx kf (by simp;omega) (by simp)⟩,kf⟩
 have h9:=h.blk.set_ 2 (.int .i64 n)
 show Blk _ s _ #[.int .i64 S.ep,vs,.int .i64 n,.pointer (some ⟨qb 0,0,none⟩),.pointer (some ⟨qb 1,0,none⟩),.pointer (some ⟨qb 2,0,none⟩),.pointer (some ⟨qb 3,0,none⟩),vc]
 simpa using h9
theorem ba_ep (h:BkAt W M tg s S) (hM:∀ g∈M,g < w0.heap.size) (hk:Keeps [] w0 W) (n:Int) (h1:1≤n) (h2:n≤1073741824):BaPost M tg s { S with ep:=n } w0 (.returned (.tuple #[])) (W.setCell ⟨s,0,none⟩ (.int .i64 n)):=by
 obtain ⟨ho,vs,vc,qb,hv⟩:=h
 obtain ⟨h3,h4⟩:=hv.setEp (fun g hg=>Nat.lt_of_lt_of_le (hM g hg) hk.size) n
 obtain ⟨o1,o2,o3⟩:=ho
 exact ⟨rfl,M,tg,⟨⟨by show 0≤n;omega,h2,o3⟩,_,_,_,h3⟩,Ext.refl hM (Nat.le_trans hk.size h4.size),(hk.to_sel (by simp)).trans h4 (fun g hg=>.inl (sel_more (by simp) hg))⟩
theorem ba_sh (h:BkAt W M tg s S) (hM:∀ g∈M,g < w0.heap.size) (hk:Keeps [] w0 W) (n:Int) (h1:1≤n) (h2:n≤4):BaPost M tg s { S with sh:=n } w0 (.returned (.tuple #[])) (W.setCell ⟨s,2,none⟩ (.int .i64 n)):=by
 obtain ⟨ho,vs,vc,qb,hv⟩:=h
 obtain ⟨h3,h4⟩:=hv.setSh (fun g hg=>Nat.lt_of_lt_of_le (hM g hg) hk.size) n
 obtain ⟨o1,o2,o3,o4,o5,o6,o7⟩:=ho
 exact ⟨rfl,M,tg,⟨⟨o1,o2,o3,o4,h1,h2,o7⟩,_,_,_,h3⟩,Ext.refl hM (Nat.le_trans hk.size h4.size),(hk.to_sel (by simp)).trans h4 (fun g hg=>.inl (sel_more (by simp) hg))⟩
/-- What take is known by behind the kind. -/
def takeR (S:BkD) (k:Nat) (l:List UInt8) (bad:Bool):BkD:=
 if k=1 then (if (doneR (intS l bad).2.1 (intS l bad).2.2 && decide (1≤(intS l bad).1) && decide ((intS l bad).1≤1073741824))=true then { S with ep:=(intS l bad).1 } else S)
 else if k=2 then (if (doneR (getDs 1 l bad).2.1 (getDs 1 l bad).2.2 && decide (mayB S (getDs 1 l bad).1.head! = 0))=true then { S with sa:=S.sa++[(getDs 1 l bad).1.head!] } else S)
 else if k=4 then (if (doneR (intS l bad).2.1 (intS l bad).2.2 && decide (1≤(intS l bad).1) && decide ((intS l bad).1≤4))=true then { S with sh:=(intS l bad).1 } else S)
 else if k=3 then batchB S l bad false
 else if k=5 then batchB S l bad true
 else S
theorem takeB_eq (S:BkD) (b:List UInt8):takeB S b=takeR S (numS b false).1 (numS b false).2.1 (numS b false).2.2:=rfl
/-- The first two calls of take. -/
structure TkAt (w0 w:World) (M:List Nat) (tg:Nat→Nat) (s:Nat) (S:BkD) (p:Nat) (l:List UInt8) (bad:Bool) (m:Int):Prop where
 st:BkAt w0 M tg s S
 lt:∀ g∈M,g < w0.heap.size
 k:Keeps [] w0 w
 hp:w0.heap.size≤p
 r:RdAt w [] p l bad
 len:l.length≤65536
 mx:w0.cell? ⟨0,0,none⟩=some (.int .i64 m)
theorem TkAt.next {w0 w w':World} {p:Nat} {l l':List UInt8} {bad bad':Bool} {m:Int} (h:TkAt w0 w M tg s S p l bad m) (hk:Keeps [p] w w') (hr:RdAt w' [] p l' bad') (hl:l'.length≤l.length):TkAt w0 w' M tg s S p l' bad' m:=
 ⟨h.st,h.lt,h.k.trans hk (fun g hg=>by simp at hg;subst hg;exact .inr h.hp),h.hp,hr,Nat.le_trans hl h.len,h.mx⟩
theorem btake_num (k:Nat) (hk:k=1∨k=4) (v:Value) (b:List UInt8) (m:Int) (hb:Bs w [] v b) (h:BkAt w M tg s S) (hM:∀ g∈M,g < w.heap.size) (hl:b.length≤65536) (hm:w.cell? ⟨0,0,none⟩=some (.int .i64 m)) (hkb:(numS b false).1=k) :
  Calls Tryz.prog 145 #[.pointer (some ⟨s,0,none⟩),v] w fun e w'=>BaPost M tg s (takeB S b) w e w':=by
 have hnew:=Lib.hid (new_any [] v b w hb (by omega))
 have hnl:=numS_len b false
 have HR:Hid (takeB S b=takeR S (numS b false).1 (numS b false).2.1 (numS b false).2.2):=takeB_eq S b
 have hnum:=Lib.hid (fun (W:World) (p:Nat) (hr:RdAt W [] p b false)=>number_any [] p b false W hr)
 obtain ⟨A,c,rfl,hcc⟩:=hb.len
 generalize takeB S b=SR at *
 generalize numS b false=r1 at *
 obtain ⟨k',l1,b1⟩:=r1
 simp only [] at hkb hnl HR hnum
 subst hkb
 have h2:=intS_lt l1 b1
 have hil:=intS_len l1 b1
 have hint:=Lib.hid (fun (W:World) (p:Nat) (hr:RdAt W [] p l1 b1)=>rint_any [] p l1 b1 W hr)
 have HR2:Hid (SR=if (k':Nat)=1 then (if (doneR (intS l1 b1).2.1 (intS l1 b1).2.2 && decide (1≤(intS l1 b1).1) && decide ((intS l1 b1).1≤1073741824))=true then { S with ep:=(intS l1 b1).1 } else S) else (if (doneR (intS l1 b1).2.1 (intS l1 b1).2.2 && decide (1≤(intS l1 b1).1) && decide ((intS l1 b1).1≤4))=true then { S with sh:=(intS l1 b1).1 } else S)):=by
  show _=_
  rw [HR.out]
  rcases hk with rfl | rfl <;> rfl
 generalize intS l1 b1=r2 at *
 obtain ⟨n,l2,b2⟩:=r2
 simp only [] at h2 hil HR2 hint
 have HS:=Lib.hid h;have HM:=Lib.hid hM;have Hm:=Lib.hid hm
 clear h hM hm hb HR
 go_enter Tryz.func145,Tryz.ntmps145
 go_wp2_with fail
 refine hnew.out.mono ?_
 rintro e w1 ⟨rfl,hA1,hb1⟩
 have HT1:Hid (TkAt w w1 M tg s S w.heap.size b false m):=⟨HS.out,HM.out,Keeps.of_below hb1,Nat.le_refl _,hA1,hl,Hm.out⟩
 clear hA1 hb1 hnew
 obtain ⟨p,Hp⟩:∃ p,Hid (w.heap.size=p):=⟨_,rfl⟩
 rw [Hp.out] at HT1 ⊢
 go_wp2_with fail
 refine (hnum.out _ _ HT1.out.r).mono ?_
 rintro e w2 ⟨rfl,hA2,hk2⟩
 have HT2:=Lib.hid (HT1.out.next hk2 hA2 hnl)
 clear hA2 hk2 hnum HT1
 rcases hk with rfl | rfl
 ·rw [if_pos rfl] at HR2
  go_wp2_with fail
  refine (hint.out _ _ HT2.out.r).mono ?_
  rintro e w3 ⟨rfl,hA3,hk3⟩
  have HT3:=Lib.hid (HT2.out.next hk3 hA3 hil)
  clear hA3 hk3 hint HT2
  have hdn:=Lib.hid (done_any [] p l2 b2 w3 HT3.out.r)
  have hdd:Hid ((!b2 && l2.isEmpty)=doneR l2 b2):=rfl
  rw [hdd.out] at hdn
  clear hdd
  generalize doneR l2 b2=dn at *
  rcases dn with _ | _
  ·rw [Bool.false_and,Bool.false_and,if_neg (by simp)] at HR2
   have hP:Hid (BaPost M tg s SR w (.returned (.tuple #[])) w3):=by rw [HR2.out];exact ba_same HS.out HM.out HT3.out.k
   go_wp2_with fail
   refine hdn.out.mono ?_
   rintro e w4 ⟨rfl,rfl⟩
   go_wp2
   go_end0
   exact hP.out
  ·rw [Bool.true_and] at HR2
   by_cases h1:1≤n
   ·have d1:decide ((1:Int)≤(n:Int))=true:=decide_eq_true (by omega)
    have d2:decide (1≤n)=true:=decide_eq_true h1
    rw [d2,Bool.true_and] at HR2
    by_cases h9:n≤1073741824
    ·have d3:decide ((n:Int)≤1073741824)=true:=decide_eq_true (by omega)
     have d4:decide (n≤1073741824)=true:=decide_eq_true h9
     rw [d4,if_pos rfl] at HR2
     have hP:Hid (BaPost M tg s SR w (.returned (.tuple #[])) (w3.setCell ⟨s,0,none⟩ (.int .i64 n))):=by rw [HR2.out];exact ba_ep (HS.out.keep0 HM.out HT3.out.k) HM.out HT3.out.k n (by omega) (by omega)
     obtain ⟨_,vs,vc,qb,hv⟩:=HS.out.keep0 HM.out HT3.out.k
     obtain ⟨c0,c1,c2,-,-,-,-,-,hlt⟩:=blk8 hv.blk
     have f0:=hv.blk.frozen 0
     clear hv
     go_wp2_with fail
     refine hdn.out.mono ?_
     rintro e w4 ⟨rfl,rfl⟩
     go_wp2
     go_end0
     exact hP.out
    ·have d3:decide ((n:Int)≤1073741824)=false:=decide_eq_false (by omega)
     have d4:decide (n≤1073741824)=false:=decide_eq_false h9
     rw [d4,if_neg (by simp)] at HR2
     have hP:Hid (BaPost M tg s SR w (.returned (.tuple #[])) w3):=by rw [HR2.out];exact ba_same HS.out HM.out HT3.out.k
     go_wp2_with fail
     refine hdn.out.mono ?_
     rintro e w4 ⟨rfl,rfl⟩
     go_wp2
     go_end0
     exact hP.out
   ·have d1:decide ((1:Int)≤(n:Int))=false:=decide_eq_false (by omega)
    have d2:decide (1≤n)=false:=decide_eq_false h1
    rw [d2,Bool.false_and,if_neg (by simp)] at HR2
    have hP:Hid (BaPost M tg s SR w (.returned (.tuple #[])) w3):=by rw [HR2.out];exact ba_same HS.out HM.out HT3.out.k
    go_wp2_with fail
    refine hdn.out.mono ?_
    rintro e w4 ⟨rfl,rfl⟩
    go_wp2
    go_end0
    exact hP.out
 ·rw [if_neg (by omega)] at HR2
  go_wp2_with fail
  refine (hint.out _ _ HT2.out.r).mono ?_
  rintro e w3 ⟨rfl,hA3,hk3⟩
  have HT3:=Lib.hid (HT2.out.next hk3 hA3 hil)
  clear hA3 hk3 hint HT2
  have hdn:=Lib.hid (done_any [] p l2 b2 w3 HT3.out.r)
  have hdd:Hid ((!b2 && l2.isEmpty)=doneR l2 b2):=rfl
  rw [hdd.out] at hdn
  clear hdd
  generalize doneR l2 b2=dn at *
  rcases dn with _ | _
  ·rw [Bool.false_and,Bool.false_and,if_neg (by simp)] at HR2
   have hP:Hid (BaPost M tg s SR w (.returned (.tuple #[])) w3):=by rw [HR2.out];exact ba_same HS.out HM.out HT3.out.k
   go_wp2_with fail
   refine hdn.out.mono ?_
   rintro e w4 ⟨rfl,rfl⟩
   go_wp2
   go_end0
   exact hP.out
  ·rw [Bool.true_and] at HR2
   by_cases h1:1≤n
   ·have d1:decide ((1:Int)≤(n:Int))=true:=decide_eq_true (by omega)
    have d2:decide (1≤n)=true:=decide_eq_true h1
    rw [d2,Bool.true_and] at HR2
    by_cases h9:n≤4
    ·have d3:decide ((n:Int)≤4)=true:=decide_eq_true (by omega)
     have d4:decide (n≤4)=true:=decide_eq_true h9
     rw [d4,if_pos rfl] at HR2
     have hP:Hid (BaPost M tg s SR w (.returned (.tuple #[])) (w3.setCell ⟨s,2,none⟩ (.int .i64 n))):=by rw [HR2.out];exact ba_sh (HS.out.keep0 HM.out HT3.out.k) HM.out HT3.out.k n (by omega) (by omega)
     obtain ⟨_,vs,vc,qb,hv⟩:=HS.out.keep0 HM.out HT3.out.k
     obtain ⟨c0,c1,c2,-,-,-,-,-,hlt⟩:=blk8 hv.blk
     have f0:=hv.blk.frozen 2
     clear hv
     go_wp2_with fail
     refine hdn.out.mono ?_
     rintro e w4 ⟨rfl,rfl⟩
     go_wp2
     go_end0
     exact hP.out
    ·have d3:decide ((n:Int)≤4)=false:=decide_eq_false (by omega)
     have d4:decide (n≤4)=false:=decide_eq_false h9
     rw [d4,if_neg (by simp)] at HR2
     have hP:Hid (BaPost M tg s SR w (.returned (.tuple #[])) w3):=by rw [HR2.out];exact ba_same HS.out HM.out HT3.out.k
     go_wp2_with fail
     refine hdn.out.mono ?_
     rintro e w4 ⟨rfl,rfl⟩
     go_wp2
     go_end0
     exact hP.out
   ·have d1:decide ((1:Int)≤(n:Int))=false:=decide_eq_false (by omega)
    have d2:decide (1≤n)=false:=decide_eq_false h1
    rw [d2,Bool.false_and,if_neg (by simp)] at HR2
    have hP:Hid (BaPost M tg s SR w (.returned (.tuple #[])) w3):=by rw [HR2.out];exact ba_same HS.out HM.out HT3.out.k
    go_wp2_with fail
    refine hdn.out.mono ?_
    rintro e w4 ⟨rfl,rfl⟩
    go_wp2
    go_end0
    exact hP.out
end
section
variable {w w' w0 W:World} {M M':List Nat} {tg tg':Nat→Nat} {s:Nat} {S S':BkD} {vs vc:Value} {qb:Nat→Nat}
theorem btake_bat (k:Nat) (hk:k=3∨k=5) (v:Value) (b:List UInt8) (m:Int) (hb:Bs w [] v b) (h:BkAt w M tg s S) (hM:∀ g∈M,g < w.heap.size) (hl:b.length≤65536) (hm:w.cell? ⟨0,0,none⟩=some (.int .i64 m)) (hkb:(numS b false).1=k) (hc:S.cuts.length≤100000000) :
  Calls Tryz.prog 145 #[.pointer (some ⟨s,0,none⟩),v] w fun e w'=>BaPost M tg s (takeB S b) w e w':=by
 have hnew:=Lib.hid (new_any [] v b w hb (by omega))
 have hnl:=numS_len b false
 have HR:Hid (takeB S b=takeR S (numS b false).1 (numS b false).2.1 (numS b false).2.2):=takeB_eq S b
 have hnum:=Lib.hid (fun (W:World) (p:Nat) (hr:RdAt W [] p b false)=>number_any [] p b false W hr)
 obtain ⟨A,c,rfl,hcc⟩:=hb.len
 generalize takeB S b=SR at *
 generalize numS b false=r1 at *
 obtain ⟨k',l1,b1⟩:=r1
 simp only [] at hkb hnl HR hnum
 subst hkb
 have HR2:Hid (SR=batchB S l1 b1 (decide (k'=5))):=by
  show _=_
  rw [HR.out]
  rcases hk with rfl | rfl <;> rfl
 have hbt:=Lib.hid (fun (W:World) (p:Nat) (over:Bool) (ht:TkAt w W M tg s S p l1 b1 m)=>bbatch_any ht.st ht.lt ht.k p ht.hp l1 b1 over ht.r ht.len m ht.mx hc)
 have HS:=Lib.hid h;have HM:=Lib.hid hM;have Hm:=Lib.hid hm
 clear h hM hm hb HR
 have hv:Hid (∀ e W SR,BaPost M tg s SR w e W→e=.returned (.tuple #[])∧BaPost M tg s SR w e W):=fun e W SR h=>⟨h.1,h⟩
 have k1:((k':Int) == 1)=false:=by rcases hk with rfl | rfl <;> rfl
 have k2:((k':Int) == 2)=false:=by rcases hk with rfl | rfl <;> rfl
 have k4:((k':Int) == 4)=false:=by rcases hk with rfl | rfl <;> rfl
 rcases hk with rfl | rfl
 ·have hbt2:=hbt.out
  go_enter Tryz.func145,Tryz.ntmps145
  go_wp2_with fail
  refine hnew.out.mono ?_
  rintro e w1 ⟨rfl,hA1,hb1⟩
  have HT1:Hid (TkAt w w1 M tg s S w.heap.size b false m):=⟨HS.out,HM.out,Keeps.of_below hb1,Nat.le_refl _,hA1,hl,Hm.out⟩
  clear hA1 hb1 hnew hbt2
  obtain ⟨p,Hp⟩:∃ p,Hid (w.heap.size=p):=⟨_,rfl⟩
  rw [Hp.out] at HT1 ⊢
  go_wp2_with fail
  refine (hnum.out _ _ HT1.out.r).mono ?_
  rintro e w2 ⟨rfl,hA2,hk2⟩
  have HT2:=Lib.hid (HT1.out.next hk2 hA2 hnl)
  clear hA2 hk2 hnum HT1
  go_wp2_with fail
  refine (hbt.out _ _ false HT2.out).mono ?_
  intro e w3 hp
  obtain ⟨rfl,hp⟩:=hv.out _ _ _ hp
  have HP:Hid (BaPost M tg s SR w (.returned (.tuple #[])) w3):=by rw [HR2.out];exact hp
  clear hp hbt
  go_wp2
  go_end0
  exact HP.out
 ·go_enter Tryz.func145,Tryz.ntmps145
  go_wp2_with fail
  refine hnew.out.mono ?_
  rintro e w1 ⟨rfl,hA1,hb1⟩
  have HT1:Hid (TkAt w w1 M tg s S w.heap.size b false m):=⟨HS.out,HM.out,Keeps.of_below hb1,Nat.le_refl _,hA1,hl,Hm.out⟩
  clear hA1 hb1 hnew
  obtain ⟨p,Hp⟩:∃ p,Hid (w.heap.size=p):=⟨_,rfl⟩
  rw [Hp.out] at HT1 ⊢
  go_wp2_with fail
  refine (hnum.out _ _ HT1.out.r).mono ?_
  rintro e w2 ⟨rfl,hA2,hk2⟩
  have HT2:=Lib.hid (HT1.out.next hk2 hA2 hnl)
  clear hA2 hk2 hnum HT1
  go_wp2_with fail
  refine (hbt.out _ _ true HT2.out).mono ?_
  intro e w3 hp
  obtain ⟨rfl,hp⟩:=hv.out _ _ _ hp
  have HP:Hid (BaPost M tg s SR w (.returned (.tuple #[])) w3):=by rw [HR2.out];exact hp
  clear hp hbt
  go_wp2
  go_end0
  exact HP.out
theorem btake_none (v:Value) (b:List UInt8) (m:Int) (hb:Bs w [] v b) (h:BkAt w M tg s S) (hM:∀ g∈M,g < w.heap.size) (hl:b.length≤65536) (hm:w.cell? ⟨0,0,none⟩=some (.int .i64 m)) (hkb:¬ (1≤(numS b false).1∧(numS b false).1≤5)) :
  Calls Tryz.prog 145 #[.pointer (some ⟨s,0,none⟩),v] w fun e w'=>BaPost M tg s (takeB S b) w e w':=by
 have hnew:=Lib.hid (new_any [] v b w hb (by omega))
 have hnl:=numS_len b false
 have HR:Hid (takeB S b=takeR S (numS b false).1 (numS b false).2.1 (numS b false).2.2):=takeB_eq S b
 have hnum:=Lib.hid (fun (W:World) (p:Nat) (hr:RdAt W [] p b false)=>number_any [] p b false W hr)
 obtain ⟨A,c,rfl,hcc⟩:=hb.len
 generalize takeB S b=SR at *
 generalize numS b false=r1 at *
 obtain ⟨k',l1,b1⟩:=r1
 simp only [] at hkb hnl HR hnum
 have HR2:Hid (SR=S):=by
  show _=_
  rw [HR.out]
  unfold takeR
  rw [if_neg (by omega),if_neg (by omega),if_neg (by omega),if_neg (by omega),if_neg (by omega)]
 have HS:=Lib.hid h;have HM:=Lib.hid hM;have Hm:=Lib.hid hm
 clear h hM hm hb HR
 have k1:((k':Int) == 1)=false:=beq_eq_false_iff_ne.2 (by omega)
 have k2:((k':Int) == 2)=false:=beq_eq_false_iff_ne.2 (by omega)
 have k4:((k':Int) == 4)=false:=beq_eq_false_iff_ne.2 (by omega)
 have k3:((k':Int) == 3)=false:=beq_eq_false_iff_ne.2 (by omega)
 have k5:((k':Int) == 5)=false:=beq_eq_false_iff_ne.2 (by omega)
 clear hkb
 go_enter Tryz.func145,Tryz.ntmps145
 go_wp2_with fail
 refine hnew.out.mono ?_
 rintro e w1 ⟨rfl,hA1,hb1⟩
 have HT1:Hid (TkAt w w1 M tg s S w.heap.size b false m):=⟨HS.out,HM.out,Keeps.of_below hb1,Nat.le_refl _,hA1,hl,Hm.out⟩
 clear hA1 hb1 hnew
 obtain ⟨p,Hp⟩:∃ p,Hid (w.heap.size=p):=⟨_,rfl⟩
 rw [Hp.out] at HT1 ⊢
 go_wp2_with fail
 refine (hnum.out _ _ HT1.out.r).mono ?_
 rintro e w2 ⟨rfl,hA2,hk2⟩
 have HT2:=Lib.hid (HT1.out.next hk2 hA2 hnl)
 clear hA2 hk2 hnum HT1
 have hP:Hid (BaPost M tg s SR w (.returned (.tuple #[])) w2):=by rw [HR2.out];exact ba_same HS.out HM.out HT2.out.k
 go_wp2
 go_end0
 exact hP.out
theorem btake_sam (v:Value) (b:List UInt8) (m:Int) (hb:Bs w [] v b) (h:BkAt w M tg s S) (hM:∀ g∈M,g < w.heap.size) (hl:b.length≤65536) (hm:w.cell? ⟨0,0,none⟩=some (.int .i64 m)) (hkb:(numS b false).1=2) :
  Calls Tryz.prog 145 #[.pointer (some ⟨s,0,none⟩),v] w fun e w'=>BaPost M tg s (takeB S b) w e w':=by
 have hw0:0 < w.heap.size:=by
  have:=World.block_lt_of_cell? w _ hm
  simpa using this
 have hnew:=Lib.hid (new_any [] v b w hb (by omega))
 have hnl:=numS_len b false
 have HR:Hid (takeB S b=takeR S (numS b false).1 (numS b false).2.1 (numS b false).2.2):=takeB_eq S b
 have hnum:=Lib.hid (fun (W:World) (p:Nat) (hr:RdAt W [] p b false)=>number_any [] p b false W hr)
 obtain ⟨A,c,rfl,hcc⟩:=hb.len
 generalize takeB S b=SR at *
 generalize numS b false=r1 at *
 obtain ⟨k',l1,b1⟩:=r1
 simp only [] at hkb hnl HR hnum
 subst hkb
 obtain ⟨g1,g2⟩:=getDs_short 1 l1 b1
 have hget:=Lib.hid (fun (W:World) (p:Nat) (hr:RdAt W [] p l1 b1)=>get_ds [] p 1 l1 b1 W hr (by omega))
 have HG:Hid (∀ e p W W',GetPost [] p 1 l1 b1 W e W'→∃ v,e=.returned v∧W'.ownsRow W.heap.size 63 2 v 1 (dCells (getDs 1 l1 b1).1)∧RdAt W' [] p (getDs 1 l1 b1).2.1 (getDs 1 l1 b1).2.2∧Keeps [p] W W'):=fun _ _ _ _ h=>h
 have HR2:Hid (SR=if (doneR (getDs 1 l1 b1).2.1 (getDs 1 l1 b1).2.2 && decide (mayB S (getDs 1 l1 b1).1.head! = 0))=true then { S with sa:=S.sa++[(getDs 1 l1 b1).1.head!] } else S):=HR.out
 have hgl:(getDs 1 l1 b1).2.1.length≤l1.length:=by
  have h1:=textS_len l1 b1
  have h2:=numS_len (textS l1 b1).2.1 (textS l1 b1).2.2
  show (numS (textS l1 b1).2.1 (textS l1 b1).2.2).2.1.length≤_
  omega
 generalize getDs 1 l1 b1=r4 at *
 obtain ⟨ds,l4,b4⟩:=r4
 simp only [] at g1 g2 HR2 HG hgl
 obtain ⟨d,rfl⟩:∃ d,ds=[d]:=List.length_eq_one_iff.1 g2
 have hds:SaOk d:=⟨(g1 d (by simp)).2,by have:=(g1 d (by simp)).1;omega⟩
 have hhd:([d]:List DeltaD).head! = d:=rfl
 rw [hhd] at HR2
 clear hhd
 have hmay:=Lib.hid (fun (W:World) (hk:Keeps [] w W)=>bmay_any (h.keep0 hM hk) d hds.1 m (by have:=hds.2;omega) (hk.c hm))
 obtain ⟨ser,n⟩:=d
 have Hds:=Lib.hid hds
 have HS:=Lib.hid h;have HM:=Lib.hid hM;have Hm:=Lib.hid hm
 clear h hM hm hb HR g1 g2 hds
 go_enter Tryz.func145,Tryz.ntmps145
 go_wp2_with fail
 refine hnew.out.mono ?_
 rintro e w1 ⟨rfl,hA1,hb1⟩
 have HT1:Hid (TkAt w w1 M tg s S w.heap.size b false m):=⟨HS.out,HM.out,Keeps.of_below hb1,Nat.le_refl _,hA1,hl,Hm.out⟩
 clear hA1 hb1 hnew
 obtain ⟨p,Hp⟩:∃ p,Hid (w.heap.size=p):=⟨_,rfl⟩
 rw [Hp.out] at HT1 ⊢
 go_wp2_with fail
 refine (hnum.out _ _ HT1.out.r).mono ?_
 rintro e w2 ⟨rfl,hA2,hk2⟩
 have HT2:=Lib.hid (HT1.out.next hk2 hA2 hnl)
 clear hA2 hk2 hnum HT1
 go_wp2_with fail
 refine (hget.out _ _ HT2.out.r).mono ?_
 intro e w3 hgp
 obtain ⟨v3,rfl,hown,hA3,hk3⟩:=HG.out _ _ _ _ hgp
 have HT3:=Lib.hid (HT2.out.next hk3 hA3 hgl)
 obtain ⟨g3,cap,rfl,_⟩:=hown.form (by omega)
 have e0:=hown.cellAt 0 (by omega)
 have e1:=hown.cellAt 1 (by omega)
 simp only [dCells,dCell,List.flatMap_cons,List.flatMap_nil,List.append_nil,List.getElem?_cons_zero,List.getElem?_cons_succ] at e0 e1
 have hcap:1≤cap:=by
  rcases hown.2 with ⟨h,_⟩ | ⟨_,_,_,he,_,_,h1,_⟩
  ·cases h
  ·injection he with _ _ he;omega
 clear hgp hown hA3 hk3 hget HT2 HG
 go_upto_region 9 with (fail)
 obtain ⟨w5,hw5⟩:∃ w5,w5=w3.alloc (.cells #[.string ser,.int .u64 n] 63):=⟨_,rfl⟩
 have hka:Keeps [] w3 w5:=by rw [hw5];exact (Keeps.refl _ _).alloc _
 have hB5:Blk w5 w3.heap.size 63 #[.string ser,.int .u64 n]:=by rw [hw5];exact Blk.new w3 _ _
 have HT5:Hid (TkAt w w5 M tg s S p l4 b4 m):=HT3.out.next (hka.mono (by simp)) (HT3.out.r.keep hka (by simp) (by simp)) (Nat.le_refl _)
 have HB5:=Lib.hid hB5
 rw [← hw5]
 have hgbw:Hid (w.heap.size≤w3.heap.size):=HT3.out.k.size
 generalize w3.heap.size=gb at *
 clear hw5 hka e0 e1 HT3
 have hdn:=Lib.hid (done_any [] p l4 b4 w5 HT5.out.r)
 have hdd:Hid ((!b4 && l4.isEmpty)=doneR l4 b4):=rfl
 rw [hdd.out] at hdn
 clear hdd
 generalize doneR l4 b4=dn at *
 have b5:=hB5.cell 0;have b6:=hB5.cell 1
 simp only [List.getElem?_toArray,List.getElem?_cons_succ,List.getElem?_cons_zero] at b5 b6
 have hl5:=hB5.lt
 clear hB5
 rcases dn with _ | _
 ·rw [Bool.false_and,if_neg (by simp)] at HR2
  have hP:Hid (BaPost M tg s SR w (.returned (.tuple #[])) w5):=by rw [HR2.out];exact ba_same HS.out HM.out HT5.out.k
  go_wp2_with fail
  refine hdn.out.mono ?_
  rintro e w6 ⟨rfl,rfl⟩
  go_wp2
  go_end0
  exact hP.out
 ·rw [Bool.true_and] at HR2
  have hmy:=Lib.hid (hmay.out w5 HT5.out.k)
  clear hmay
  generalize hmb:mayB S ⟨ser,n⟩=mb at *
  have Hmb:=Lib.hid hmb
  clear hmb
  by_cases hz:mb=0
  ·subst hz
   rw [decide_eq_true rfl,if_pos rfl] at HR2
   obtain ⟨ho,vs,vc,qb,hv5⟩:=HS.out.keep0 HM.out HT5.out.k
   obtain ⟨As,cs,rfl,-⟩:=hv5.ds.len
   have hl32:S.sa.length < 32:=by
    have h1:=Hmb.out
    unfold mayB at h1
    split at h1
    ·omega
    ·split at h1
     ·omega
     ·omega
   obtain ⟨i0,hi0,hz0,hz1,hz2⟩:=info_parts infoDelta2
   have Hi0:=Lib.hid hi0;have Hz0:=Lib.hid hz0;have Hz1:=Lib.hid hz1;have Hz2:=Lib.hid hz2
   have Hv5:=Lib.hid hv5;have Ho:=Lib.hid ho
   clear hi0 hz0 hz1 hz2 hv5 ho
   go_wp2_with fail
   refine hdn.out.mono ?_
   rintro e w6 ⟨rfl,rfl⟩
   go_wp2_with fail
   refine hmy.out.mono ?_
   rintro e w7 ⟨rfl,hb7⟩
   have Hk7:Hid (Keeps [] w w7):=HT5.out.k.trans (Keeps.of_below (M:=[]) hb7) (by simp)
   have hM5:∀ g∈M,g < w5.heap.size:=fun g hg=>Nat.lt_of_lt_of_le (HM.out g hg) HT5.out.k.size
   have Hv7:=Lib.hid (Hv5.out.keep0 hM5 (Keeps.of_below (M:=[]) hb7))
   have HB7:=Lib.hid ((Keeps.of_below (M:=[]) hb7).blk HB5.out (by simp))
   have b0:=HB7.out.cell 0;have b1':=HB7.out.cell 1
   simp only [List.getElem?_toArray,List.getElem?_cons_succ,List.getElem?_cons_zero] at b0 b1'
   have hl7:=HB7.out.lt
   obtain ⟨-,q1,-,-,-,-,-,-,hlt7⟩:=blk8 Hv7.out.blk
   have q1a:∀ o,(w7.alloc o).cell? ⟨s,1,none⟩=some (.slice As S.sa.length cs):=fun o=>(World.cell?_alloc_lt _ _ _ hlt7).trans q1
   have hsM:=Hv7.out.inM
   have hsB:¬ s=gb:=by have:=HM.out s hsM;have:=hgbw.out;omega
   clear hb7 hmy b5 b6 hM5
   go_upto_region 10 with (fail)
   refine wp_region_held_drew (S:=(fun W=>W.cell? ⟨gb,0,none⟩=some (.string ser)∧W.cell? ⟨gb,1,none⟩=some (.int .u64 n))) (by kernel_rfl) ⟨b0,b1'⟩ (fun hHeld=>?_)
   refine tk [0,1,2,3,5] ?_
   refine wpAnyH_ready (rs:=[4,6]) (by kernel_rfl) (by simp) ?_
   refine AllReadyH.cons (o:=_) rfl (fun K hK=>?u41) (AllReadyH.cons (o:=_) rfl (fun K hK=>?u42) AllReadyH.nil)
   case' u41=>
    go_simp
    refine hK.out _ _ ⟨b0,b1'⟩ (fun _=>?_)
    clear hK K hHeld;rename_i hHeld
    try simp only [sgl,Act.put]
    refine rd 6 (fun K hK=>?_)
    go_simp
    refine hK.out _ _ ⟨(World.cell?_alloc_lt _ _ _ hl7).trans b0,(World.cell?_alloc_lt _ _ _ hl7).trans b1'⟩ (fun _=>?_)
    clear hK K hHeld;rename_i hHeld
    try simp only [sgl,Act.put]
    refine rd 7 (fun K hK=>?_)
    refine step_append_any _ rfl (.tmp 50) (.tmp 52) 34 rfl 0 63 i0 _ 2 24 Tryz.underlying34 Hi0.out Hz0.out Hz1.out Hz2.out rfl (by omega) (.slice As S.sa.length cs) S.sa.length (dCells S.sa) (by simp [Act.eval,Act.put]) (own_below Hv7.out.sa (Keeps.below (((Keeps.refl [] w7).alloc _).drew))) (w7.heap.size + 1) (some ⟨w7.heap.size,0,none⟩) 1 1 [.string ser,.int .u64 n] (by simp [Act.eval,Act.put]) (show Reads (w7.alloc _).drew _ _ _ _ _ from reads_new w7 _ 2 1 _ rfl) (by intro u hu;simp at hu;rcases hu with rfl | rfl <;> rfl) (by unfold maxLen;omega) (by omega) (Nat.zero_le _) ?_
    intro v4 w4 hown4 hg4 hat4
    obtain ⟨A4,c4,rfl⟩:∃ A4 c4,v4=.slice A4 (S.sa.length + 1) c4:=by
     obtain ⟨A4,c4,h1,_⟩:=Rd.of_own (M:=[]) hown4 (by simp)
     exact ⟨A4,c4,h1⟩
    have hk4:Keeps (Value.ownBlock (.slice As S.sa.length cs)).toList w7 w4:=Keeps.grown (w:=(w7.alloc (.cells #[.string ser,.int .u64 n] 63)).drew) ((((Keeps.refl [] w7).alloc _).drew).mono (by simp)) hg4 (fun g hg=>.inl (by simpa using hg))
    have hat5:(Value.slice A4 (S.sa.length + 1) c4).ownBlock=(Value.slice As S.sa.length cs).ownBlock∨∃ g,(Value.slice A4 (S.sa.length + 1) c4).ownBlock=some g∧w7.heap.size≤g:=by
     rcases hat4 with h | h
     ·exact .inl h
     ·refine .inr ⟨_,h,?_⟩
      show w7.heap.size≤(w7.alloc _).heap.size
      rw [World.size_alloc];omega
    have hB4:=hk4.blk Hv7.out.blk (fun hm=>by have:=(Hv7.out.tsa s (by simpa using hm)).2;rw [Hv7.out.ts] at this;omega)
    have g1d:=(blk8 hB4).2.1
    have f1:=hB4.frozen 1
    have HS4:Hid (w4.cell? ⟨gb,0,none⟩=some (.string ser)∧w4.cell? ⟨gb,1,none⟩=some (.int .u64 n)):=by
     have hne:gb∉(Value.ownBlock (.slice As S.sa.length cs)).toList:=fun hm=>by
      have h1:=HM.out _ (Hv7.out.tsa _ (by simpa using hm)).1
      have h2:=hgbw.out
      omega
     have:=hk4.blk HB7.out hne
     exact ⟨this.cell 0,this.cell 1⟩
    have HS5:Hid ((w4.setCell ⟨s,1,none⟩ (.slice A4 (S.sa.length + 1) c4)).cell? ⟨gb,0,none⟩=some (.string ser)∧(w4.setCell ⟨s,1,none⟩ (.slice A4 (S.sa.length + 1) c4)).cell? ⟨gb,1,none⟩=some (.int .u64 n)):=⟨(World.cell?_setCell_far _ _ _ _ hsB).trans HS4.out.1,(World.cell?_setCell_far _ _ _ _ hsB).trans HS4.out.2⟩
    have Hk4:=Lib.hid hk4;have Hat5:=Lib.hid hat5;have Hown4:=Lib.hid hown4
    clear hown4 hg4 hat4 hk4 hat5 hB4
    refine hK.out _ _ HS4.out (fun _=>?_)
    clear hK K hHeld;rename_i hHeld
    refine tk [8,9] ?_
    refine rd 10 (fun K hK=>?_)
    go_simp
    refine hK.out _ _ HS5.out (fun _=>?_)
    clear hK K hHeld;rename_i hHeld
    try simp only [sgl,Act.put]
    refine dn ?_
    clear hHeld
   case' u42=>
    go_simp
    refine hK.out _ _ ⟨(World.cell?_alloc_lt _ _ _ hl7).trans b0,(World.cell?_alloc_lt _ _ _ hl7).trans b1'⟩ (fun _=>?_)
    clear hK K hHeld;rename_i hHeld
    try simp only [sgl,Act.put]
    refine rd 4 (fun K hK=>?_)
    go_simp
    refine hK.out _ _ ⟨(World.cell?_alloc_lt _ _ _ hl7).trans b0,(World.cell?_alloc_lt _ _ _ hl7).trans b1'⟩ (fun _=>?_)
    clear hK K hHeld;rename_i hHeld
    try simp only [sgl,Act.put]
    refine rd 7 (fun K hK=>?_)
    refine step_append_any _ rfl (.tmp 50) (.tmp 52) 34 rfl 0 63 i0 _ 2 24 Tryz.underlying34 Hi0.out Hz0.out Hz1.out Hz2.out rfl (by omega) (.slice As S.sa.length cs) S.sa.length (dCells S.sa) (by simp [Act.eval,Act.put]) (own_below Hv7.out.sa (Keeps.below (((Keeps.refl [] w7).alloc _).drew))) (w7.heap.size + 1) (some ⟨w7.heap.size,0,none⟩) 1 1 [.string ser,.int .u64 n] (by simp [Act.eval,Act.put]) (show Reads (w7.alloc _).drew _ _ _ _ _ from reads_new w7 _ 2 1 _ rfl) (by intro u hu;simp at hu;rcases hu with rfl | rfl <;> rfl) (by unfold maxLen;omega) (by omega) (Nat.zero_le _) ?_
    intro v4 w4 hown4 hg4 hat4
    obtain ⟨A4,c4,rfl⟩:∃ A4 c4,v4=.slice A4 (S.sa.length + 1) c4:=by
     obtain ⟨A4,c4,h1,_⟩:=Rd.of_own (M:=[]) hown4 (by simp)
     exact ⟨A4,c4,h1⟩
    have hk4:Keeps (Value.ownBlock (.slice As S.sa.length cs)).toList w7 w4:=Keeps.grown (w:=(w7.alloc (.cells #[.string ser,.int .u64 n] 63)).drew) ((((Keeps.refl [] w7).alloc _).drew).mono (by simp)) hg4 (fun g hg=>.inl (by simpa using hg))
    have hat5:(Value.slice A4 (S.sa.length + 1) c4).ownBlock=(Value.slice As S.sa.length cs).ownBlock∨∃ g,(Value.slice A4 (S.sa.length + 1) c4).ownBlock=some g∧w7.heap.size≤g:=by
     rcases hat4 with h | h
     ·exact .inl h
     ·refine .inr ⟨_,h,?_⟩
      show w7.heap.size≤(w7.alloc _).heap.size
      rw [World.size_alloc];omega
    have hB4:=hk4.blk Hv7.out.blk (fun hm=>by have:=(Hv7.out.tsa s (by simpa using hm)).2;rw [Hv7.out.ts] at this;omega)
    have g1d:=(blk8 hB4).2.1
    have f1:=hB4.frozen 1
    have HS4:Hid (w4.cell? ⟨gb,0,none⟩=some (.string ser)∧w4.cell? ⟨gb,1,none⟩=some (.int .u64 n)):=by
     have hne:gb∉(Value.ownBlock (.slice As S.sa.length cs)).toList:=fun hm=>by
      have h1:=HM.out _ (Hv7.out.tsa _ (by simpa using hm)).1
      have h2:=hgbw.out
      omega
     have:=hk4.blk HB7.out hne
     exact ⟨this.cell 0,this.cell 1⟩
    have HS5:Hid ((w4.setCell ⟨s,1,none⟩ (.slice A4 (S.sa.length + 1) c4)).cell? ⟨gb,0,none⟩=some (.string ser)∧(w4.setCell ⟨s,1,none⟩ (.slice A4 (S.sa.length + 1) c4)).cell? ⟨gb,1,none⟩=some (.int .u64 n)):=⟨(World.cell?_setCell_far _ _ _ _ hsB).trans HS4.out.1,(World.cell?_setCell_far _ _ _ _ hsB).trans HS4.out.2⟩
    have Hk4:=Lib.hid hk4;have Hat5:=Lib.hid hat5;have Hown4:=Lib.hid hown4
    clear hown4 hg4 hat4 hk4 hat5 hB4
    refine hK.out _ _ HS4.out (fun _=>?_)
    clear hK K hHeld;rename_i hHeld
    refine tk [8,9] ?_
    refine rd 10 (fun K hK=>?_)
    go_simp
    refine hK.out _ _ HS5.out (fun _=>?_)
    clear hK K hHeld;rename_i hHeld
    try simp only [sgl,Act.put]
    refine dn ?_
    clear hHeld
   all_goals
    have hP:Hid (BaPost M tg s SR w (.returned (.tuple #[])) (w4.setCell ⟨s,1,none⟩ (.slice A4 (S.sa.length + 1) c4))):=by
     have hM7:∀ g∈M,g < w7.heap.size:=fun g hg=>Nat.lt_of_lt_of_le (HM.out g hg) Hk7.out.size
     obtain ⟨M5,tg5,hv9,hx9,hk9⟩:=Hv7.out.setSa (sa':=S.sa++[⟨ser,n⟩]) hM7 Hk4.out (by rw [List.length_append];unfold dCells;rw [List.flatMap_append];exact Hown4.out) Hat5.out
     rw [HR2.out]
     obtain ⟨o1,o2,o3,o4,o5⟩:=Ho.out
     refine BaPost.from_ (W:=w7) ⟨rfl,M5,tg5,⟨⟨o1,o2,by show (S.sa++[_]).length≤32;simp;omega,fun d hd=>?_,o5⟩,_,_,_,hv9⟩,hx9,hk9.sel_mono (by simp)⟩ HM.out Hk7.out
     rcases List.mem_append.1 hd with h | h
     ·exact o4 d h
     ·simp at h;subst h;exact Hds.out
    go_wp2
    go_end0
    exact hP.out
  ·have hd:decide (mb=0)=false:=decide_eq_false hz
   have hzb:(mb == 0)=false:=beq_eq_false_iff_ne.2 hz
   rw [hd,if_neg (by simp)] at HR2
   have hP:Hid (∀ W,Below w5.heap.size w5 W→BaPost M tg s SR w (.returned (.tuple #[])) W):=fun W hb=>by rw [HR2.out];exact ba_same HS.out HM.out (HT5.out.k.trans (Keeps.of_below (M:=[]) hb) (by simp))
   go_wp2_with fail
   refine hdn.out.mono ?_
   rintro e w6 ⟨rfl,rfl⟩
   go_wp2_with fail
   refine hmy.out.mono ?_
   rintro e w7 ⟨rfl,hb7⟩
   have HR:=Lib.hid (hP.out _ hb7)
   clear hb7 hmy hd
   go_wp2
   go_end0
   exact HR.out
end
end Go.Proofs.YtambjickanapjaaGreatDoor.Vi
end
section
namespace Go.Proofs.YtambjickanapjaaGreatDoor.Vi
open Go.RowKit Base Mem
theorem dknew_any (w:World) :
  Calls Tryz.prog 27 #[] w fun e w'=>e=.returned (.pointer (some ⟨w.heap.size,0,none⟩))∧DkAt w' [w.heap.size] w.heap.size [] 0∧Below w.heap.size w w':=by
 have hR:Hid (DkAt (w.alloc (.cells #[.slice none 0 0,.int .i64 0] 147)) [w.heap.size] w.heap.size [] 0):=
  ⟨_,Blk.new w _ _,.nil _,by simp,by simp [Value.ownBlock],by simp,by simp,by simp⟩
 go_enter Tryz.func27,Tryz.ntmps27
 go_wp2
 go_ret
 exact ⟨rfl,hR.out,(Below.refl _ _).alloc (Nat.le_refl _) _⟩
section
variable {w:World} {X:List Nat} {d k:Nat} {b:List UInt8}
theorem dkall_any (w:World) (h:DkAt w X d b k) :
  Calls Tryz.prog 69 #[.pointer (some ⟨d,0,none⟩)] w fun e w'=>∃ v,e=.returned v∧w'.ownsRow w.heap.size 5 1 v b.length (b.map bV)∧Below w.heap.size w w':=by
 have hle:=h.le
 obtain ⟨v,hb,hr,_⟩:=h
 have hcl:=Lib.hid (cloneU8 [] v b.length (b.map bV) w (hr.bs (by simp)) (bV_one b) (by omega))
 obtain ⟨A,c,rfl,hc⟩:=hr.len
 have c0:=hb.cell 0;have c1:=hb.cell 1
 simp only [List.getElem?_toArray,List.getElem?_cons_succ,List.getElem?_cons_zero] at c0 c1
 clear hb hr
 go_enter Tryz.func69,Tryz.ntmps69
 go_wp2_with fail
 refine hcl.out.mono ?_
 rintro e w1 ⟨v1,rfl,hown,hb1⟩
 have Hown:=Lib.hid hown;have Hb1:=Lib.hid hb1
 clear hown hb1 hcl
 go_wp2
 go_ret
 exact ⟨v1,rfl,Hown.out,Hb1.out⟩
theorem dksync_any (w:World) (h:DkAt w X d b k) :
  Calls Tryz.prog 219 #[.pointer (some ⟨d,0,none⟩)] w fun e w'=>e=.returned (.tuple #[])∧DkAt w' X d b b.length∧Keeps [d] w w':=by
 have hR:Hid (DkAt (w.setCell ⟨d,1,none⟩ (.int .i64 b.length)) X d b b.length∧Keeps [d] w (w.setCell ⟨d,1,none⟩ (.int .i64 b.length))):=by
  obtain ⟨v,h1,h2,h3,h4,h5,h6,h7⟩:=h
  have hk:Keeps [d] w (w.setCell ⟨d,1,none⟩ (.int .i64 b.length)):=(Keeps.refl _ _).setCell (by simp) _
  exact ⟨⟨v,by simpa using h1.set_ 1 (.int .i64 b.length),h2.keep hk (fun g hg=>by have:=(h4 g hg).2;simpa using this),h3,h4,Nat.le_refl _,h6,fun g hg=>Nat.lt_of_lt_of_le (h7 g hg) hk.size⟩,hk⟩
 have hle:=h.le
 obtain ⟨v,hb,hr,_⟩:=h
 obtain ⟨A,c,rfl,hc⟩:=hr.len
 have c0:=hb.cell 0;have c1:=hb.cell 1;have f1:=hb.frozen 1
 simp only [List.getElem?_toArray,List.getElem?_cons_succ,List.getElem?_cons_zero] at c0 c1
 clear hb hr
 go_enter Tryz.func219,Tryz.ntmps219
 go_wp2
 go_end0
 exact ⟨rfl,hR.out.1,hR.out.2⟩
theorem dkcut_any (w:World) (h:DkAt w X d b k) (n:Nat) (hn:n≤b.length) :
  Calls Tryz.prog 88 #[.pointer (some ⟨d,0,none⟩),.int .i64 n] w fun e w'=>e=.returned (.bool true)∧DkAt w' X d (b.take n) n∧Keeps [d] w w':=by
 have hle:=h.le
 obtain ⟨v,hb,hr,h3,h4,h5,h6,h7⟩:=h
 obtain ⟨A,c,rfl,hc,hcm⟩:=hr.len
 have hcut:=hr.cut n hn
 have hown:∀ g,Value.ownBlock (.slice A n n)=some g→Value.ownBlock (.slice A b.length c)=some g:=fun g hg=>by cases A <;> simp [Value.ownBlock] at hg ⊢ <;> exact hg
 have hR:Hid (DkAt ((w.setCell ⟨d,0,none⟩ (.slice A n n)).setCell ⟨d,1,none⟩ (.int .i64 n)) X d (b.take n) n∧Keeps [d] w ((w.setCell ⟨d,0,none⟩ (.slice A n n)).setCell ⟨d,1,none⟩ (.int .i64 n))):=by
  have hk:Keeps [d] w ((w.setCell ⟨d,0,none⟩ (.slice A n n)).setCell ⟨d,1,none⟩ (.int .i64 n)):=((Keeps.refl _ _).setCell (by simp) _).setCell (by simp) _
  refine ⟨⟨.slice A n n,by simpa using (hb.set_ 0 (.slice A n n)).set_ 1 (.int .i64 n),hcut.keep hk (fun g hg=>by have:=(h4 g (hown g hg)).2;simpa using this),h3,fun g hg=>h4 g (hown g hg),?_,?_,fun g hg=>Nat.lt_of_lt_of_le (h7 g hg) hk.size⟩,hk⟩
  ·rw [List.length_take];omega
  ·rw [List.length_take];omega
 have hcl:=Lib.hid (fun W=>clipU8 A n c W (by omega))
 have c0:=hb.cell 0;have c1:=hb.cell 1;have f0:=hb.frozen 0;have f1:=hb.frozen 1
 simp only [List.getElem?_toArray,List.getElem?_cons_succ,List.getElem?_cons_zero] at c0 c1
 clear hb hr hcut hown h3 h4 h5 h6 h7
 have hni:(0:Int)≤(n:Int):=by omega
 have hn2:(n:Int)≤(b.length:Int):=by omega
 have hn3:(n:Int)≤(c:Int):=by omega
 go_enter Tryz.func88,Tryz.ntmps88
 go_wp2_with fail
 refine (hcl.out _).mono ?_
 rintro e w1 ⟨rfl,rfl⟩
 go_wp2
 go_ret
 exact ⟨rfl,hR.out.1,hR.out.2⟩
def DaPost (X:List Nat) (d:Nat) (b l:List UInt8) (k:Nat) (w:World) (e:Ending) (w':World):Prop:=
 if b.length + l.length≤1048576 then e=.returned (.int .i64 0)∧∃ X',DkAt w' X' d (b++l) k∧Grows X w X'∧Keeps X w w'
 else e=.returned (.int .i64 24)∧w=w'
theorem dkappend_any (w:World) (h:DkAt w X d b k) (v:Value) (l:List UInt8) (M:List Nat) (hv:Bs w M v l) (h0:0 < l.length) (hl:l.length≤10000000) :
  Calls Tryz.prog 171 #[.pointer (some ⟨d,0,none⟩),v] w fun e w'=>DaPost X d b l k w e w':=by
 have hle:=h.le
 obtain ⟨v0,hb,hr,h3,h4,h5,h6,h7⟩:=h
 obtain ⟨A,c,rfl,hc,hcm⟩:=hr.len
 obtain ⟨A2,c2,rfl,hc2⟩:=hv.len
 have c0:=hb.cell 0;have c1:=hb.cell 1;have f0:=hb.frozen 0
 simp only [List.getElem?_toArray,List.getElem?_cons_succ,List.getElem?_cons_zero] at c0 c1
 by_cases hroom:b.length + l.length≤1048576
 ·have HP:Hid (∀ e w',DaPost X d b l k w e w'=(e=.returned (.int .i64 0)∧∃ X',DkAt w' X' d (b++l) k∧Grows X w X'∧Keeps X w w')):=fun e w'=>by unfold DaPost;rw [if_pos hroom]
  have hd0:decide ((1048576 - (b.length:Int)) < (l.length:Int))=false:=decide_eq_false (by omega)
  have Hb:=Lib.hid hb;have Hr:=Lib.hid hr;have H3:=Lib.hid h3;have H4:=Lib.hid h4;have H7:=Lib.hid h7;have Hv:=Lib.hid hv
  have hlt:=hb.lt
  clear hb hr h3 h4 h7 hv
  go_enter Tryz.func171,Tryz.ntmps171
  go_wp2_with (at_builtin;refine wpList_append_row1 rfl (.tmp 18) (.tmp 19) rfl _ b l A2 c2 M rfl Hr.out rfl Hv.out h0 (by omega) ?_)
  intro v1 w1 hr1 hk1 ho1
  obtain ⟨A1,c1,rfl,_⟩:=hr1.len
  have Hr1:=Lib.hid hr1;have Hk1:=Lib.hid hk1;have Ho1:=Lib.hid ho1
  have hdn:∀ g∈(Value.ownBlock (.slice A b.length c)).toList,g≠d:=fun g hg=>(H4.out g (by simpa using hg)).2
  have Hb1:=Lib.hid (hk1.blk Hb.out (fun hm=>hdn d hm rfl))
  have f1:=Hb1.out.frozen 0
  have hd1:w1.cell? ⟨d,0,none⟩=some (.slice A b.length c):=Hb1.out.cell 0
  have hR:Hid (∃ X',DkAt (w1.setCell ⟨d,0,none⟩ (.slice A1 (b++l).length c1)) X' d (b++l) k∧Grows X w X'∧Keeps X w (w1.setCell ⟨d,0,none⟩ (.slice A1 (b++l).length c1))):=by
   have hk2:Keeps [d] w1 (w1.setCell ⟨d,0,none⟩ (.slice A1 (b++l).length c1)):=(Keeps.refl _ _).setCell (by simp) _
   have hkX:Keeps X w (w1.setCell ⟨d,0,none⟩ (.slice A1 (b++l).length c1)):=(Hk1.out.mono (M':=X) (fun g hg=>.inl (H4.out g (by simpa using hg)).1)).trans hk2 (fun g hg=>by simp at hg;subst hg;exact .inl H3.out)
   have hne:∀ g,(Value.ownBlock (.slice A1 (b++l).length c1))=some g→g≠d:=fun g hg=>by
    rcases Ho1.out g hg with h | h
    ·exact (H4.out g h).2
    ·omega
   have hXs:∀ g∈X++(Value.ownBlock (.slice A1 (b++l).length c1)).toList,g < (w1.setCell ⟨d,0,none⟩ (.slice A1 (b++l).length c1)).heap.size:=fun g hg=>by
    rcases List.mem_append.1 hg with h | h
    ·exact Nat.lt_of_lt_of_le (H7.out g h) hkX.size
    ·exact Nat.lt_of_lt_of_le (Hr1.out.lt (by simpa using h)) hk2.size
   refine ⟨X++(Value.ownBlock (.slice A1 (b++l).length c1)).toList,⟨.slice A1 (b++l).length c1,by simpa using Hb1.out.set_ 0 (.slice A1 (b++l).length c1),Hr1.out.keep hk2 (fun g hg=>by have:=hne g hg;simpa using this),by simp [H3.out],fun g hg=>⟨List.mem_append_right _ (Option.mem_toList.2 hg),hne g hg⟩,by rw [List.length_append];omega,by rw [List.length_append];omega,hXs⟩,?_,hkX⟩
   intro g hg
   rcases List.mem_append.1 hg with h | h
   ·exact .inl h
   ·rcases Ho1.out g (by simpa using h) with h | h
    ·exact .inl (H4.out g h).1
    ·exact .inr h
  have hP:Hid (DaPost X d b l k w (.returned (.int .i64 0)) (w1.setCell ⟨d,0,none⟩ (.slice A1 (b++l).length c1))):=(HP.out _ _).symm ▸ ⟨rfl,hR.out⟩
  rw [List.length_append] at hP
  clear hr1 hk1 ho1 hdn HP hR
  go_wp2
  go_ret
  exact hP.out
 ·have HP:Hid (DaPost X d b l k w (.returned (.int .i64 24)) w):=by unfold DaPost;rw [if_neg hroom];exact ⟨rfl,rfl⟩
  have hd0:decide ((1048576 - (b.length:Int)) < (l.length:Int))=true:=decide_eq_true (by omega)
  clear hb hr h3 h4 h7 hv
  go_enter Tryz.func171,Tryz.ntmps171
  go_wp2
  go_ret
  exact HP.out
end
end Go.Proofs.YtambjickanapjaaGreatDoor.Vi
end
section
namespace Go.Proofs.YtambjickanapjaaGreatDoor.Vi
open Go.RowKit Base Mem Go.Shelf
def rowsEq (a b:List EntryD):Bool:=Lib.allEq sameE a b
/-- No row of an entry is too long to be counted. -/
def Cnt (l:List EntryD):Prop:=l.length≤4611686018427387904∧∀ e∈l,e.ds.length≤4611686018427387904
instance:Inhabited EntryD:=⟨⟨0,0,0,0,0,[],⟨#[]⟩,0,0⟩⟩
theorem allEq_drop (a b:List EntryD) (x:Nat) (hx:x < a.length) (hy:x < b.length):Lib.allEq sameE (a.drop x) (b.drop x)=(sameE a[x] b[x] && Lib.allEq sameE (a.drop (x + 1)) (b.drop (x + 1))):=by
 rw [List.drop_eq_getElem_cons hx,List.drop_eq_getElem_cons hy]
 rfl
theorem eqfunc_any (va vb:Value) (a b:List EntryD) (w:World) (ha:Ens w [] va a) (hb:Ens w [] vb b) (ca:Cnt a) (cb:Cnt b) :
  Calls Tryz.prog 138 #[va,vb,.func (.func 139) #[] #[]] w fun e w'=>SamePost (rowsEq a b) w e w':=by
 have Ha:=Lib.hid ha;have Hb:=Lib.hid hb
 obtain ⟨Aa,ka,rfl,hka⟩:=ha.len
 obtain ⟨Ab,kb,rfl,hkb⟩:=hb.len
 have ha2:=ca.1;have hb2:=cb.1
 have Hca:=Lib.hid ca.2;have Hcb:=Lib.hid cb.2
 clear ha hb ca cb
 by_cases hne:a.length=b.length
 ·have hbn:((a.length:Int) != (b.length:Int))=false:=by simp [hne]
  have Hne:=Lib.hid hne
  have hHr:Hid (rowsEq a b=Lib.allEq sameE (a.drop 0) (b.drop 0)):=rfl
  clear hne
  go_enter Tryz.func138,Tryz.ntmps138
  go_wp2_with fail
  go_loopw [17] (fun i wr=>∃ x:Nat,i=.int .i64 x∧x≤a.length∧Hid (rowsEq a b=Lib.allEq sameE (a.drop x) (b.drop x))∧Hid (Below w.heap.size w wr)) (fun i _=>a.length - (intOf i).toNat)
  case atStart=>exact ⟨0,rfl,by omega,hHr,Below.refl _ _⟩
  case round=>
   obtain ⟨x,rfl,hx,Hq,Hbr⟩:=hrel
   by_cases hlt:x < a.length
   ·have hx1:(x:Int) < (a.length:Int):=by omega
    have hx0:(0:Int)≤(x:Int):=by omega
    have hxb:x < b.length:=by have:=Hne.out;omega
    have hx2:(x:Int) < (b.length:Int):=by omega
    have HQ2:Hid (rowsEq a b=(sameE a[x] b[x] && Lib.allEq sameE (a.drop (x + 1)) (b.drop (x + 1)))):=by show _=_;rw [Hq.out,allEq_drop a b x hlt hxb]
    obtain ⟨ga,oa,_,da,e1,_,_,hDa,hca⟩:=ens_at (Ha.out.keep (Keeps.of_below (M:=[]) Hbr.out) (by simp)) hlt
    obtain ⟨gb,ob,_,db,e2,_,_,hDb,hcb⟩:=ens_at (Hb.out.keep (Keeps.of_below (M:=[]) Hbr.out) (by simp)) hxb
    injection e1 with e1 _ e9
    injection e2 with e2 _ e8
    subst e1 e2
    clear e9 e8
    have hsm:=Lib.hid (fun W (hk:Keeps [] wr W)=>same_any a[x] b[x] da db W (hDa.keep hk (by simp)) (hDb.keep hk (by simp)) (Hca.out _ (List.getElem_mem _)) (Hcb.out _ (List.getElem_mem _)))
    obtain ⟨Da,na,rfl,_⟩:=hDa.len
    obtain ⟨Db,nb,rfl,_⟩:=hDb.len
    have a0:=hca 0 _ rfl;have a1:=hca 1 _ rfl;have a2:=hca 2 _ rfl;have a3:=hca 3 _ rfl;have a4:=hca 4 _ rfl;have a5:=hca 5 _ rfl;have a6:=hca 6 _ rfl;have a7:=hca 7 _ rfl;have a8:=hca 8 _ rfl
    have b0:=hcb 0 _ rfl;have b1:=hcb 1 _ rfl;have b2:=hcb 2 _ rfl;have b3:=hcb 3 _ rfl;have b4:=hcb 4 _ rfl;have b5:=hcb 5 _ rfl;have b6:=hcb 6 _ rfl;have b7:=hcb 7 _ rfl;have b8:=hcb 8 _ rfl
    rw [Nat.add_zero] at a0 b0
    clear hca hcb hDa hDb
    generalize a[x]=ea at *
    generalize b[x]=eb at *
    generalize sameE ea eb=sm at *
    obtain ⟨kind,ag,sh,seq,ep,ds,ser,fr,tag⟩:=ea
    obtain ⟨kind',ag',sh',seq',ep',ds',ser',fr',tag'⟩:=eb
    simp only [eCell] at hsm
    simp only [] at a0 a1 a2 a3 a4 a5 a6 a7 a8 b0 b1 b2 b3 b4 b5 b6 b7 b8
    obtain ⟨w1,hw1⟩:∃ w1,w1=wr.alloc (.cells #[.int .i64 kind,.int .i64 ag,.int .i64 sh,.int .i64 seq,.int .i64 ep,.slice Da ds.length na,.string ser,.int .i64 fr,.int .i64 tag] 36):=⟨_,rfl⟩
    have hk1:Keeps [] wr w1:=by rw [hw1];exact (Keeps.refl _ _).alloc _
    have HB1:=Lib.hid (show Blk w1 wr.heap.size 36 #[.int .i64 kind,.int .i64 ag,.int .i64 sh,.int .i64 seq,.int .i64 ep,.slice Da ds.length na,.string ser,.int .i64 fr,.int .i64 tag] by rw [hw1];exact Blk.new wr _ _)
    have hgb:gb < wr.heap.size:=World.block_lt_of_cell? wr _ b0
    have c0:=hk1.c b0
    have c1:=hk1.c b1
    have c2:=hk1.c b2
    have c3:=hk1.c b3
    have c4:=hk1.c b4
    have c5:=hk1.c b5
    have c6:=hk1.c b6
    have c7:=hk1.c b7
    have c8:=hk1.c b8
    have Hw1:=Lib.hid hw1;have Hk1:=Lib.hid hk1
    have Hs1:=Lib.hid (hsm.out (w1.alloc (.cells #[.int .i64 kind',.int .i64 ag',.int .i64 sh',.int .i64 seq',.int .i64 ep',.slice Db ds'.length nb,.string ser',.int .i64 fr',.int .i64 tag'] 36)) (hk1.alloc _))
    clear hw1 hk1 hsm b0 b1 b2 b3 b4 b5 b6 b7 b8 hgb
    go_upto_region 6 with (fail)
    rw [← Hw1.out]
    clear a0 a1 a2 a3 a4 a5 a6 a7 a8
    generalize wr.heap.size=g1 at *
    have hg1:g1 < w1.heap.size:=HB1.out.lt
    obtain ⟨w2,hw2⟩:∃ w2,w2=w1.alloc (.cells #[.int .i64 kind',.int .i64 ag',.int .i64 sh',.int .i64 seq',.int .i64 ep',.slice Db ds'.length nb,.string ser',.int .i64 fr',.int .i64 tag'] 36):=⟨_,rfl⟩
    have hB2:Blk w2 w1.heap.size 36 #[.int .i64 kind',.int .i64 ag',.int .i64 sh',.int .i64 seq',.int .i64 ep',.slice Db ds'.length nb,.string ser',.int .i64 fr',.int .i64 tag']:=by rw [hw2];exact Blk.new w1 _ _
    have hB1:Blk w2 g1 36 #[.int .i64 kind,.int .i64 ag,.int .i64 sh,.int .i64 seq,.int .i64 ep,.slice Da ds.length na,.string ser,.int .i64 fr,.int .i64 tag]:=by rw [hw2];exact HB1.out.below (below_new' _ _) hg1
    have Hb2:Hid (Below w.heap.size w w2):=by rw [hw2];exact ((Keeps.of_below (M:=[]) Hbr.out).trans (Hk1.out.alloc _) (by simp)).below
    rw [← hw2] at Hs1
    have HB2:=Lib.hid hB2;have HB1:=Lib.hid hB1;have Hw2:=Lib.hid hw2
    clear hB2 hB1 hw2
    go_upto_region 7 with (fail)
    rw [← Hw2.out]
    clear c0 c1 c2 c3 c4 c5 c6 c7 c8
    generalize w1.heap.size=g2 at *
    obtain ⟨q0,q1,q2,q3,q4,q5,q6,q7,q8,qf⟩:=blk9 HB1.out
    obtain ⟨r0,r1,r2,r3,r4,r5,r6,r7,r8,rf⟩:=blk9 HB2.out
    go_wp2_with fail
    refine Hs1.out.mono ?_
    rintro e w3 ⟨rfl,hb3⟩
    have Hb3:=Lib.hid (below_then Hb2.out hb3)
    clear hb3 Hs1 q0 q1 q2 q3 q4 q5 q6 q7 q8 qf r0 r1 r2 r3 r4 r5 r6 r7 r8 rf
    cases sm with
    | true=>
     have HQ3:Hid (rowsEq a b=Lib.allEq sameE (a.drop (x + 1)) (b.drop (x + 1))):=by show _=_;rw [HQ2.out];rfl
     clear HQ2
     go_wp2
     go_roundw
     case rel=>exact ⟨x + 1,by go_num,by omega,HQ3,Hb3⟩
     case measure=>simp [intOf] <;> omega
    | false=>
     have hR:Hid (rowsEq a b=false):=by show _=_;rw [HQ2.out];rfl
     clear HQ2
     go_wp2
     go_ret
     exact ⟨ret_bool hR.out.symm,Hb3.out⟩
   ·obtain rfl:x=a.length:=by omega
    have hR:Hid (rowsEq a b=true):=by
     show _=_
     rw [Hq.out,List.drop_length,List.drop_eq_nil_of_le (by have:=Hne.out;omega)]
     rfl
    go_wp2
    go_ret
    exact ⟨ret_bool hR.out.symm,Hbr.out⟩
 ·have hR:Hid (rowsEq a b=false):=Lib.allEq_len sameE a b hne
  have hbn:((a.length:Int) != (b.length:Int))=true:=by simp;omega
  rw [hR.out]
  clear hne
  go_enter Tryz.func138,Tryz.ntmps138
  go_wp2
  go_ret
  exact ⟨rfl,Below.refl _ _⟩
theorem rows_any (va vb:Value) (a b:List EntryD) (w:World) (ha:Ens w [] va a) (hb:Ens w [] vb b) (ca:Cnt a) (cb:Cnt b) :
  Calls Tryz.prog 66 #[va,vb] w fun e w'=>SamePost (rowsEq a b) w e w':=by
 have h:=Lib.hid (eqfunc_any va vb a b w ha hb ca cb)
 obtain ⟨Aa,ka,rfl,hka⟩:=ha.len
 obtain ⟨Ab,kb,rfl,hkb⟩:=hb.len
 clear ha hb ca cb
 generalize rowsEq a b=R at *
 go_enter Tryz.func66,Tryz.ntmps66
 go_wp2_with fail
 refine h.out.mono ?_
 rintro e w' ⟨rfl,hb⟩
 have Hb:=Lib.hid hb
 clear hb
 go_wp2
 go_ret
 exact ⟨rfl,Hb.out⟩
structure MsgD where
 kd:Int
 en:EntryD
 tag:Int
 code:Int
 nn:Int
 term:Int
 had:Int
 log:List EntryD
 commit:Int
 len:Int
def mCell (m:MsgD) (dv lv:Value):List Value:=.int .i64 m.kd :: (eCell (m.en,dv)++[.int .i64 m.tag,.int .i64 m.code,.int .u64 m.nn,.int .i64 m.term,.int .i64 m.had,lv,.int .i64 m.commit,.int .i64 m.len])
/-- A message's slices read as its deltas and its row. -/
def MsgAt (w:World) (M:List Nat) (m:MsgD) (dv lv:Value):Prop:=Ds w M dv m.en.ds∧Ens w M lv m.log
theorem MsgAt.keep {w w':World} {M M':List Nat} {m:MsgD} {dv lv:Value} (h:MsgAt w M m dv lv) (k:Keeps M' w w') (hM:∀ g∈M',g∈M∨w.heap.size≤g):MsgAt w' M m dv lv:=⟨h.1.keep k hM,h.2.keep k hM⟩
theorem MsgAt.avoid {w:World} {M M':List Nat} {m:MsgD} {dv lv:Value} (h:MsgAt w M m dv lv) (hM:∀ g∈M',g∈M∨w.heap.size≤g):MsgAt w M' m dv lv:=⟨h.1.avoid hM,h.2.avoid hM⟩
def MCnt (m:MsgD):Prop:=m.en.ds.length≤4611686018427387904∧Cnt m.log
/-- Are messages the same? -/
def sameM (a b:MsgD):Bool:=sameE a.en b.en && rowsEq a.log b.log && (a.kd == b.kd && a.tag == b.tag && a.code == b.code && a.nn == b.nn && a.term == b.term && a.had == b.had && a.commit == b.commit && a.len == b.len)
def zeroM:MsgD:=⟨0,zeroD,0,0,0,0,0,[],0,0⟩
/-- A message without what its kind has. -/
def clearM (m:MsgD):MsgD:=
 if m.kd=1 then { m with kd:=0,en:=zeroD }
 else if m.kd=2 then { m with kd:=0,tag:=0,code:=0,nn:=0 }
 else if m.kd=3 then { m with kd:=0,term:=0 }
 else if m.kd=4 then { m with kd:=0,term:=0,had:=0,log:=[] }
 else if m.kd=5 then { m with kd:=0,term:=0,log:=[],commit:=0 }
 else if m.kd=6 then { m with kd:=0,term:=0,len:=0 }
 else { m with kd:=0 }
def zeroS (m:MsgD):Bool:=sameM (clearM m) zeroM
theorem blk_range {w:World} {g:Nat} {T:TypeId} {cs:Array Value} (h:Blk w g T cs):w.rangeAt g 0 cs.toList:=fun j v hj=>by
 rw [Nat.zero_add,h.cell j];simpa using hj
/-- Its texts are short. -/
def MShort (m:MsgD):Prop:=Short m.en∧m.log.length≤4611686018427387904∧∀ e∈m.log,Short e
theorem MShort.cnt {m:MsgD} (h:MShort m):MCnt m:=⟨h.1.2.2,h.2.1,fun e he=>(h.2.2 e he).2.2⟩
end Go.Proofs.YtambjickanapjaaGreatDoor.Vi
end
