/- Texts put together: DoorLay, Lab2, RowK, Lab3, Lab4. -/
import Derived.Shelf.SlGeneric
import Derived.Shelf.SlLaysF0
import Derived.Shelf.SlLaysQ
import Derived.Shelf.SlLaysH0
import Derived.Ground.SlsfProg
import Derived.Ground.SlgqProg
import Derived.Ground.SlgfProg
import Derived.Test.YtambjickanapjaaGreatDoorProg
import Derived.Deep.RegionHeld3
import Derived.Laws.Cover1
import Derived.Shelf.SlSortCmp.InsertionK
import Derived.Shelf.GgSortFunc.InsertionK
import Derived.Test.YtambjickanapjaaGreatDoorMW1
import Derived.Test.YtambjickanapjaaGreatDoorMW2
set_option linter.unusedVariables false
set_option linter.unusedSimpArgs false
set_option maxRecDepth 100000
set_option maxHeartbeats 8000000
section
namespace Go.Proofs
open Go.Shelf
def Tryz.insLabel_ren:Go.Shelf.Ren:=⟨fun | 20=>336 | n=>n,fun | 24=>282 | 22=>205 | 3=>3 | 25=>353 | 4=>4 | 0=>0 | n=>n,fun | n=>n⟩
theorem Tryz.insLabel:Go.Proofs.SlLaysF0.n20 Tryz.prog Tryz.insLabel_ren:={
 mixed:=by kernel_rfl
 f20:=⟨Tryz.f336.name,by decide,Tryz.func336.trans (congrArg some (by kernel_rfl))⟩
 t0:=Tryz.underlying0
 a0:=Tryz.isAgg0
 z0:=Tryz.sizeOf0
 v0:=Tryz.zeroValue0
 t3:=Tryz.underlying3
 a3:=Tryz.isAgg3
 z3:=Tryz.sizeOf3
 v3:=Tryz.zeroValue3
 t4:=Tryz.underlying4
 a4:=Tryz.isAgg4
 z4:=Tryz.sizeOf4
 v4:=Tryz.zeroValue4
 t22:=Tryz.underlying205
 a22:=Tryz.isAgg205
 z22:=Tryz.sizeOf205
 v22:=Tryz.zeroValue205
 t25:=Tryz.underlying353
 a25:=Tryz.isAgg353
 z25:=Tryz.sizeOf353
 v25:=Tryz.zeroValue353 }
def Tryz.containsFuncDelta_ren:Go.Shelf.Ren:=⟨fun | 8=>187 | 6=>174 | n=>n,fun | 22=>34 | 23=>63 | 25=>263 | 4=>4 | 3=>3 | 0=>0 | n=>n,fun | n=>n⟩
theorem Tryz.containsFuncDelta:Go.Proofs.SlLaysH0.n8 Tryz.prog Tryz.containsFuncDelta_ren:={
 mixed:=by kernel_rfl
 f6:=⟨Tryz.f174.name,by decide,Tryz.func174.trans (congrArg some (by kernel_rfl))⟩
 f8:=⟨Tryz.f187.name,by decide,Tryz.func187.trans (congrArg some (by kernel_rfl))⟩
 t0:=Tryz.underlying0
 a0:=Tryz.isAgg0
 z0:=Tryz.sizeOf0
 v0:=Tryz.zeroValue0
 t3:=Tryz.underlying3
 a3:=Tryz.isAgg3
 z3:=Tryz.sizeOf3
 v3:=Tryz.zeroValue3
 t4:=Tryz.underlying4
 a4:=Tryz.isAgg4
 z4:=Tryz.sizeOf4
 v4:=Tryz.zeroValue4
 t22:=Tryz.underlying34
 a22:=Tryz.isAgg34
 z22:=Tryz.sizeOf34
 v22:=Tryz.zeroValue34
 t25:=Tryz.underlying263
 a25:=Tryz.isAgg263
 z25:=Tryz.sizeOf263
 v25:=Tryz.zeroValue263 }
def Tryz.indexFuncDelta_ren:Go.Shelf.Ren:=⟨fun | 6=>174 | n=>n,fun | 22=>34 | 23=>63 | 25=>263 | 3=>3 | 0=>0 | 4=>4 | n=>n,fun | n=>n⟩
theorem Tryz.indexFuncDelta:Go.Proofs.SlLaysH0.n6 Tryz.prog Tryz.indexFuncDelta_ren:={
 mixed:=by kernel_rfl
 f6:=⟨Tryz.f174.name,by decide,Tryz.func174.trans (congrArg some (by kernel_rfl))⟩
 t0:=Tryz.underlying0
 a0:=Tryz.isAgg0
 z0:=Tryz.sizeOf0
 v0:=Tryz.zeroValue0
 t3:=Tryz.underlying3
 a3:=Tryz.isAgg3
 z3:=Tryz.sizeOf3
 v3:=Tryz.zeroValue3
 t4:=Tryz.underlying4
 a4:=Tryz.isAgg4
 z4:=Tryz.sizeOf4
 v4:=Tryz.zeroValue4
 t22:=Tryz.underlying34
 a22:=Tryz.isAgg34
 z22:=Tryz.sizeOf34
 v22:=Tryz.zeroValue34
 t25:=Tryz.underlying263
 a25:=Tryz.isAgg263
 z25:=Tryz.sizeOf263
 v25:=Tryz.zeroValue263 }
def Tryz.equalDelta_ren:Go.Shelf.Ren:=⟨fun | 8=>207 | n=>n,fun | 22=>34 | 24=>63 | 4=>4 | 3=>3 | 0=>0 | n=>n,fun | n=>n⟩
theorem Tryz.equalDelta:Go.Proofs.SlLaysQ.n8 Tryz.prog Tryz.equalDelta_ren:={
 mixed:=by kernel_rfl
 f8:=⟨Tryz.f207.name,by decide,Tryz.func207.trans (congrArg some (by kernel_rfl))⟩
 t0:=Tryz.underlying0
 a0:=Tryz.isAgg0
 z0:=Tryz.sizeOf0
 v0:=Tryz.zeroValue0
 t3:=Tryz.underlying3
 a3:=Tryz.isAgg3
 z3:=Tryz.sizeOf3
 v3:=Tryz.zeroValue3
 t4:=Tryz.underlying4
 a4:=Tryz.isAgg4
 z4:=Tryz.sizeOf4
 v4:=Tryz.zeroValue4
 t22:=Tryz.underlying34
 a22:=Tryz.isAgg34
 z22:=Tryz.sizeOf34
 v22:=Tryz.zeroValue34 }
end Go.Proofs
end
section
namespace Go.Proofs.YtambjickanapjaaGreatDoor.Vi
open Go.RowKit Base Mem Go.Sort Go.Shelf
structure LabD where
 name:ByteArray
 value:ByteArray
instance:Inhabited LabD:=⟨⟨⟨#[]⟩,⟨#[]⟩⟩⟩
def labEnc (d:LabD):List Value:=[.string d.name,.string d.value]
def sLt (x y:ByteArray):Bool:=Op.bytesLess x.toList y.toList
def cmpS (x y:ByteArray):Int:=if sLt x y=true then -1 else if (!(sLt x y || x.toList == y.toList))=true then 1 else 0
def cmpL (a b:LabD):Int:=cmpS a.name b.name
theorem nanStr (x:ByteArray) (w:World):Calls Tryz.prog 277 #[.string x] w fun e w'=>e=.returned (.bool false)∧w'=w:=by
 go_enter Tryz.func277,Tryz.ntmps277
 go_wp2
 go_ret
 exact ⟨ret_bool (by simp),rfl⟩
theorem compStr (x y:ByteArray) (w:World):Calls Tryz.prog 214 #[.string x,.string y] w fun e w'=>e=.returned (.int .i64 (cmpS x y))∧w'=w:=by
 have hc:=Lib.hid (fun x W=>nanStr x W)
 have Hs:Hid (cmpS x y=if Op.bytesLess x.toList y.toList=true then -1 else if (!(Op.bytesLess x.toList y.toList || x.toList == y.toList))=true then 1 else 0):=rfl
 by_cases h1:Op.bytesLess x.toList y.toList=true
 ·have hr:Hid (cmpS x y = -1):=by show _=_;rw [Hs.out,if_pos h1]
  rw [hr.out]
  go_enter Tryz.func214,Tryz.ntmps214
  go_wp2_with (go_at_call 277;refine (hc.out _ _).mono ?_;rintro e w' ⟨rfl,rfl⟩)
  go_ret
  exact ⟨rfl,rfl⟩
 ·have h1':Op.bytesLess x.toList y.toList=false:=by simpa using h1
  by_cases h2:(x.toList == y.toList)=true
  ·have hr:Hid (cmpS x y=0):=by show _=_;rw [Hs.out,if_neg h1,h1',h2];rfl
   rw [hr.out]
   clear h1
   go_enter Tryz.func214,Tryz.ntmps214
   go_wp2_with (go_at_call 277;refine (hc.out _ _).mono ?_;rintro e w' ⟨rfl,rfl⟩)
   go_ret
   exact ⟨rfl,rfl⟩
  ·have h2':(x.toList == y.toList)=false:=by simpa using h2
   have h2'':¬ x.toList=y.toList:=by simpa using h2
   have hr:Hid (cmpS x y=1):=by show _=_;rw [Hs.out,if_neg h1,h1',h2'];rfl
   rw [hr.out]
   go_enter Tryz.func214,Tryz.ntmps214
   go_wp2_with (go_at_call 277;refine (hc.out _ _).mono ?_;rintro e w' ⟨rfl,rfl⟩)
   go_ret
   exact ⟨rfl,rfl⟩
theorem byName_any (a b:LabD) (w:World):Calls Tryz.prog 298 #[.agg #[.string a.name,.string a.value],.agg #[.string b.name,.string b.value]] w fun e w'=>e=.returned (.int .i64 (cmpL a b))∧∃ q os',w'=Sort.grow (w.drewN q) os':=by
 have hc:=Lib.hid (fun x y W=>compStr x y W)
 have hr:Hid (cmpL a b=cmpS a.name b.name):=rfl
 go_enter Tryz.func298,Tryz.ntmps298
 go_wp2_with fail
 refine (hc.out _ _ _).mono ?_
 rintro e w' ⟨rfl,rfl⟩
 go_wp2
 go_ret
 refine ⟨by rw [hr.out];rfl,0,#[.cells #[.string a.name,.string a.value] 282,.cells #[.string b.name,.string b.value] 282],?_⟩
 simp only [Sort.alloc_eq_grow,Sort.grow_grow]
 rfl
theorem byName_lays (blk off size:Nat) (w:World):CmpLays Tryz.prog 298 #[] labEnc 2 cmpL blk off size w:=fun _ _ _ _ x y=>byName_any x y _
/-- Labels by name, in the order of the sort. -/
def sortL (l:List LabD):List LabD:=(insertionSort (ltOf cmpL) l.toArray 0 l.length).toList
theorem ins_any (blk off cap:Nat) (l:List LabD) (w:World) (hH:HoldsK labEnc 2 w blk off l.toArray) (hblk:blk < w.heap.size) (hsz:l.length < 4611686018427387904) :
  Calls Tryz.prog 336 #[.slice (some ⟨blk,off,none⟩) l.length cap,.int .i64 0,.int .i64 l.length,.func (.func 298) #[] #[]] w fun e w'=>
   e=.returned (.tuple #[])∧∃ n os,w'=sortWorldK labEnc 2 w blk off n (sortL l).toArray os:=by
 have eg:∀ args w,(callFunc 298 args).run Tryz.prog w=.ok (.enter 298 args) w:=enters_of Tryz.func298 (by kernel_rfl) rfl
 have h:=AnyQ.insertionSortCmpFunc Tryz.insLabel 2 Tryz.isAgg282 Tryz.sizeOf282 labEnc (fun _=>rfl) (fun x v hv=>by simp [labEnc] at hv;rcases hv with rfl | rfl <;> rfl) cmpL 298 #[] blk off cap 0 l.length l.toArray w eg (byName_lays blk off _ w) hH hblk (Nat.zero_le _) (by simp) (by simpa using hsz)
 simp only [List.size_toArray] at h
 exact h
end Go.Proofs.YtambjickanapjaaGreatDoor.Vi
end
section
namespace Go.Proofs.YtambjickanapjaaGreatDoor.RowsK
open Go.RowKit Base Mem Go.Sort
variable {α:Type} [Inhabited α] (enc:α→List Value) (k:Nat) (hk:∀ x,(enc x).length=k)
include hk
theorem flatK_list (h0:0 < k) (l:List α):flatK enc k l.toArray=(l.flatMap enc).toArray:=by
 refine ext_get! (by rw [size_flatK,List.size_toArray,List.size_toArray,flat_len enc k hk]) fun t ht=>?_
 have ht':t < l.length * k:=by simpa using ht
 have hdiv:t / k < l.length:=Nat.div_lt_of_lt_mul (by rw [Nat.mul_comm];exact ht')
 have hmod:t % k < k:=Nat.mod_lt _ h0
 have hf:=flat_at enc k hk l (t / k) (t % k) hdiv hmod
 rw [Nat.div_add_mod' t k] at hf
 have ht2:t < (l.flatMap enc).length:=by rw [flat_len enc k hk];exact ht'
 have hm:t % k < (enc l[t / k]).length:=by rw [hk];exact hmod
 rw [List.getElem?_eq_getElem ht2,List.getElem?_eq_getElem hm] at hf
 injection hf with hf
 rw [get_flatK _ _ _ _ (by simpa using ht'),List.getElem!_toArray,List.getElem!_toArray,getElem!_pos (l.flatMap enc) t ht2,hf,getElem!_pos l (t / k) hdiv,getElem!_pos (enc l[t / k]) (t % k) hm]
theorem blk_holds (h0:0 < k) {w:World} {g:Nat} {t:TypeId} {l:List α} {rest:List Value} (h:Blk w g t (l.flatMap enc++rest).toArray):HoldsK enc k w g 0 l.toArray:=by
 intro j hj
 rw [flatK_list enc k hk h0] at hj ⊢
 have hj':j < (l.flatMap enc).length:=by simpa using hj
 rw [Nat.zero_add,h.cell,h.frozen]
 refine ⟨?_,rfl⟩
 rw [List.getElem?_toArray,List.getElem?_append_left hj',List.getElem!_toArray,getElem!_pos (l.flatMap enc) j hj',List.getElem?_eq_getElem hj']
 rfl
theorem blk_sorted (h0:0 < k) {w:World} {g:Nat} {t:TypeId} {l l':List α} {rest:List Value} (h:Blk w g t (l.flatMap enc++rest).toArray) (hl:l'.length=l.length) (n:Nat) (os:Array Obj) :
  Blk (sortWorldK enc k w g 0 n l'.toArray os) g t (l'.flatMap enc++rest).toArray:=by
 have hlt:=h.lt
 unfold Blk at h ⊢
 have hp:(putRowK enc k (Sort.ahead w n) g 0 l'.toArray).heap[g]? = some (.cells (putCells id 0 (flatK enc k l'.toArray) (l.flatMap enc++rest).toArray) t (0,0)):=by
  simp only [putRowK,putRow,mapBlock,Sort.ahead,Array.getElem?_modify,if_true,h,Option.map_some,onCells]
 have hs:g < (putRowK enc k (Sort.ahead w n) g 0 l'.toArray).heap.size:=by simpa [putRowK,Sort.ahead] using hlt
 show ((putRowK enc k (Sort.ahead w n) g 0 l'.toArray).heap++os)[g]? = _
 rw [Array.getElem?_append_left hs,hp]
 congr 2
 rw [flatK_list enc k hk h0]
 have hz:l'.length * k=l.length * k:=by rw [hl]
 have e1:=flat_len enc k hk l
 have e2:=flat_len enc k hk l'
 refine Array.ext_getElem? fun j=>?_
 simp only [putCells,Array.getElem?_mapIdx,List.getElem?_toArray,List.size_toArray,e2,Nat.zero_le,Nat.zero_add,Nat.sub_zero,true_and]
 by_cases hj:j < l'.length * k
 ·have h1:j < (l.flatMap enc).length:=by rw [e1];omega
  have h2:j < (l'.flatMap enc).length:=by rw [e2];omega
  rw [List.getElem?_append_left h1,List.getElem?_append_left h2,List.getElem?_eq_getElem h1,List.getElem?_eq_getElem h2,Option.map_some,if_pos hj,List.getElem!_toArray,getElem!_pos (l'.flatMap enc) j h2]
  rfl
 ·have h1:(l.flatMap enc).length≤j:=by rw [e1];omega
  have h2:(l'.flatMap enc).length≤j:=by rw [e2];omega
  rw [List.getElem?_append_right h1,List.getElem?_append_right h2,e1,e2,hz]
  simp only [if_neg (show ¬ j < l.length * k by omega)]
  exact Option.map_id'
omit hk in
theorem keeps_sorted (w:World) (g n:Nat) (d:Array α) (os:Array Obj):Keeps [g] w (sortWorldK enc k w g 0 n d os):=by
 have hs:(putRowK enc k (Sort.ahead w n) g 0 d).heap.size=w.heap.size:=by simp [putRowK,Sort.ahead]
 refine ⟨rfl,rfl,rfl,?_,fun j hj hn=>?_⟩
 ·show _≤((putRowK enc k (Sort.ahead w n) g 0 d).heap++os).size
  rw [Array.size_append,hs];omega
 ·show ((putRowK enc k (Sort.ahead w n) g 0 d).heap++os)[j]? = _
  rw [Array.getElem?_append_left (by omega)]
  have hne:g≠j:=fun e=>hn (by simp [e])
  simp [putRowK,putRow,mapBlock,Sort.ahead,Array.getElem?_modify,hne]
theorem own_blk {w:World} {base:Nat} {t:TypeId} {v:Value} {l:List α} (h:w.ownsRow base t k v l.length (l.flatMap enc)) (h0:0 < l.length) :
  ∃ g cap rest,v=.slice (some ⟨g,0,none⟩) l.length cap∧base≤g∧l.length≤cap∧cap≤maxLen∧Blk w g t (l.flatMap enc++rest).toArray:=by
 have _:=hk
 have _:Inhabited α:=inferInstance
 obtain ⟨_,h⟩:=h
 rcases h with ⟨_,hn⟩ | ⟨g,cap,cur,rfl,hb,hg,hnc,hcm,_,htk⟩
 ·omega
 ·refine ⟨g,cap,cur.toList.drop (l.length * k),rfl,hb,hnc,hcm,?_⟩
  rw [← htk,List.take_append_drop]
  exact hg
omit [Inhabited α] in
theorem rd_of_blk {w:World} {t:TypeId} {g:Nat} {l:List α} {rest:List Value} {M:List Nat} (h:Blk w g t (l.flatMap enc++rest).toArray) (hg:g∉M):Rd w M k (.slice (some ⟨g,0,none⟩) l.length l.length) l.length (l.flatMap enc):=
 ⟨_,_,rfl,Nat.le_refl _,flat_len enc k hk l,fun _=>⟨g,0,rfl,h.lt,hg,fun j u hu=>by
  rw [Nat.zero_add,h.cell,List.getElem?_toArray,List.getElem?_append_left (List.getElem?_eq_some_iff.1 hu).1];exact hu⟩⟩
end Go.Proofs.YtambjickanapjaaGreatDoor.RowsK
end
section
namespace Go.Proofs.YtambjickanapjaaGreatDoor.Vi
open Go.RowKit Base Mem Go.Sort Go.Shelf
/-- v reads as these labels. -/
def Labs (w:World) (M:List Nat) (v:Value) (l:List LabD):Prop:=Rd w M 2 v l.length (l.flatMap labEnc)
theorem Labs.keep {w w':World} {M M':List Nat} {v:Value} {l:List LabD} (h:Labs w M v l) (k:Keeps M' w w') (hM:∀ g∈M',g∈M∨w.heap.size≤g):Labs w' M v l:=Rd.keep h k hM
theorem Labs.len {w:World} {M:List Nat} {v:Value} {l:List LabD} (h:Labs w M v l):∃ A c,v=.slice A l.length c∧l.length≤c:=by
 obtain ⟨A,c,rfl,hc,_⟩:=h
 exact ⟨A,c,rfl,hc⟩
theorem size_insInner (lt:LabD→LabD→Bool) (a:Nat):∀ (j:Nat) (d:Array LabD),(insInner lt a j d).size=d.size
 | 0,_=>rfl
 | j + 1,d=>by
  unfold insInner
  split
  ·rw [size_insInner lt a j];simp [swp]
  ·rfl
theorem size_insOuter (lt:LabD→LabD→Bool) (a b:Nat):∀ (n i:Nat) (d:Array LabD),b - i=n→(insOuter lt a b i d).size=d.size
 | 0,i,d,h=>by unfold insOuter;rw [if_neg (by omega)]
 | n + 1,i,d,h=>by
  unfold insOuter
  rw [if_pos (by omega),size_insOuter lt a b n (i + 1) _ (by omega),size_insInner]
theorem sortL_len (l:List LabD):(sortL l).length=l.length:=by
 unfold sortL insertionSort
 rw [Array.length_toList,size_insOuter _ _ _ _ _ _ rfl]
 simp
/-- What a sort of a row leaves. -/
def SoPost (g:Nat) (l:List LabD) (rest:List Value) (w:World) (e:Ending) (w':World):Prop:=
 e=.returned (.tuple #[])∧Blk w' g 282 ((sortL l).flatMap labEnc++rest).toArray∧Keeps [g] w w'
theorem ins_blk (g cap:Nat) (l:List LabD) (rest:List Value) (w:World) (h:Blk w g 282 (l.flatMap labEnc++rest).toArray) (hsz:l.length < 4611686018427387904) :
  Calls Tryz.prog 336 #[.slice (some ⟨g,0,none⟩) l.length cap,.int .i64 0,.int .i64 l.length,.func (.func 298) #[] #[]] w fun e w'=>SoPost g l rest w e w':=by
 refine (ins_any g 0 cap l w (RowsK.blk_holds labEnc 2 (fun _=>rfl) (by omega) h) h.lt hsz).mono ?_
 rintro e w' ⟨rfl,n,os,rfl⟩
 exact ⟨rfl,RowsK.blk_sorted labEnc 2 (fun _=>rfl) (by omega) h (sortL_len l) n os,RowsK.keeps_sorted labEnc 2 w g n _ os⟩
theorem stable_any (g cap:Nat) (l:List LabD) (rest:List Value) (w:World) (h:Blk w g 282 (l.flatMap labEnc++rest).toArray) (hsz:l.length < 20) :
  Calls Tryz.prog 297 #[.slice (some ⟨g,0,none⟩) l.length cap,.func (.func 298) #[] #[]] w fun e w'=>SoPost g l rest w e w':=by
 have hi:=Lib.hid (ins_blk g cap l rest w h (by omega))
 have hst:Hid (Calls Tryz.prog 326 #[.slice (some ⟨g,0,none⟩) l.length cap,.int .i64 l.length,.func (.func 298) #[] #[]] w fun e w'=>SoPost g l rest w e w'):=by
  show Calls _ _ _ _ _
  have h1:decide ((20:Int)≤(l.length:Int))=false:=decide_eq_false (by omega)
  have h2:decide ((20:Int) < (l.length:Int))=false:=decide_eq_false (by omega)
  have h1':¬ (20:Int)≤(l.length:Int):=by omega
  have h2':¬ (20:Int) < (l.length:Int):=by omega
  clear h
  go_enter Tryz.func326,Tryz.ntmps326
  go_wp2_with fail
  go_loopw [7,8] (fun a i wr=>a=.int .i64 0∧i=.int .i64 20∧Hid (wr=w)) (fun _ i _=>0)
  case atStart=>exact ⟨rfl,rfl,rfl⟩
  case round=>
   obtain ⟨rfl,rfl,hww⟩:=hrel
   obtain rfl:=hww.out
   go_wp2_with fail
   refine hi.out.mono ?_
   rintro e w' hp
   obtain ⟨rfl,hb,hk⟩:=id hp
   have Hp:=Lib.hid hp
   clear hp hb hk
   go_wp2_with fail
   go_loopw [6] (fun i wr=>i=.int .i64 20∧Hid (wr=w')) (fun i _=>0)
   case atStart=>exact ⟨rfl,rfl⟩
   case round=>
    obtain ⟨rfl,hww⟩:=hrel
    obtain rfl:=hww.out
    go_wp2
    go_end0
    exact Hp.out
 clear hi h
 go_enter Tryz.func297,Tryz.ntmps297
 go_wp2_with fail
 refine hst.out.mono ?_
 rintro e w' hp
 obtain ⟨rfl,hb,hk⟩:=id hp
 have Hp:=Lib.hid hp
 clear hp hb hk
 go_wp2
 go_end0
 exact Hp.out
theorem ins_none (A:Option Addr) (cap:Nat) (w:World) :
  Calls Tryz.prog 297 #[.slice A 0 cap,.func (.func 298) #[] #[]] w fun e w'=>e=.returned (.tuple #[])∧w=w':=by
 have hi:Hid (∀ W,Calls Tryz.prog 336 #[.slice A 0 cap,.int .i64 0,.int .i64 0,.func (.func 298) #[] #[]] W fun e w'=>e=.returned (.tuple #[])∧W=w'):=by
  show ∀ _,_
  intro W
  go_enter Tryz.func336,Tryz.ntmps336
  go_wp2_with fail
  go_loopw [8] (fun i wr=>i=.int .i64 1∧Hid (W=wr)) (fun i _=>0)
  case atStart=>exact ⟨rfl,rfl⟩
  case round=>
   obtain ⟨rfl,hww⟩:=hrel
   have Hw:=hww
   go_wp2
   go_end0
   exact ⟨rfl,Hw.out⟩
 have hst:Hid (Calls Tryz.prog 326 #[.slice A 0 cap,.int .i64 0,.func (.func 298) #[] #[]] w fun e w'=>e=.returned (.tuple #[])∧w=w'):=by
  show Calls _ _ _ _ _
  go_enter Tryz.func326,Tryz.ntmps326
  go_wp2_with fail
  go_loopw [7,8] (fun a i wr=>a=.int .i64 0∧i=.int .i64 20∧Hid (w=wr)) (fun _ i _=>0)
  case atStart=>exact ⟨rfl,rfl,rfl⟩
  case round=>
   obtain ⟨rfl,rfl,hww⟩:=hrel
   go_wp2_with fail
   refine (hi.out _).mono ?_
   rintro e w' ⟨rfl,rfl⟩
   go_wp2_with fail
   go_loopw [6] (fun i w2=>i=.int .i64 20∧Hid (w=w2)) (fun i _=>0)
   case atStart=>exact ⟨rfl,hww.out⟩
   case round=>
    obtain ⟨rfl,hw2⟩:=hrel
    go_wp2
    go_end0
    exact ⟨rfl,hw2.out⟩
 clear hi
 go_enter Tryz.func297,Tryz.ntmps297
 go_wp2_with fail
 refine hst.out.mono ?_
 rintro e w' ⟨rfl,rfl⟩
 go_wp2
 go_end0
 exact ⟨rfl,rfl⟩
/-- What a call answers that makes labels. -/
def LabPost (l:List LabD) (w:World) (e:Ending) (w':World):Prop:=∃ A,e=.returned (.slice A l.length l.length)∧(∀ M,(∀ g∈M,g < w.heap.size)→Labs w' M (.slice A l.length l.length) l)∧Below w.heap.size w w'
theorem labEnc_one (l:List LabD):∀ u∈l.flatMap labEnc,u.oneCell'=true:=by
 intro u hu
 obtain ⟨d,_,hd⟩:=List.mem_flatMap.1 hu
 simp [labEnc] at hd
 rcases hd with rfl | rfl <;> rfl
theorem sorted_any (v:Value) (l:List LabD) (w:World) (h:Labs w [] v l) (hl:l.length < 20) :
  Calls Tryz.prog 256 #[v] w fun e w'=>LabPost (sortL l) w e w':=by
 have hc:=Lib.hid (cloneLabel [] v l.length (l.flatMap labEnc) w h (labEnc_one l) (by omega))
 obtain ⟨A,c,rfl,hc2⟩:=h.len
 have Hnone:=Lib.hid (fun A cap W=>ins_none A cap W)
 clear h
 go_enter Tryz.func256,Tryz.ntmps256
 go_wp2_with fail
 refine hc.out.mono ?_
 rintro e w1 ⟨v1,rfl,hown,hb⟩
 have Hown:=Lib.hid hown;have Hb:=Lib.hid hb
 clear hown hb hc
 rcases Nat.eq_zero_or_pos l.length with h0 | h0
 ·obtain rfl:l=[]:=List.length_eq_zero_iff.1 h0
  obtain ⟨A1,c1,rfl⟩:∃ A c,v1=.slice A 0 c:=by
   obtain ⟨_,h⟩:=Hown.out
   rcases h with ⟨rfl,_⟩ | ⟨g,cap,cur,rfl,_⟩
   ·exact ⟨_,_,rfl⟩
   ·exact ⟨_,_,rfl⟩
  go_wp2_with fail
  refine (Hnone.out A1 c1 _).mono ?_
  rintro e w' ⟨rfl,rfl⟩
  go_wp2_with fail
  refine (clipLabel A1 0 c1 _ (by omega)).mono ?_
  rintro e w' ⟨rfl,rfl⟩
  have hs0:sortL []=[]:=List.length_eq_zero_iff.1 (sortL_len [])
  have hp:Hid (LabPost (sortL []) w (.returned (.slice A1 0 0)) w1):=by
   show LabPost _ _ _ _
   rw [hs0]
   exact ⟨A1,rfl,fun M _=>⟨A1,0,rfl,Nat.le_refl _,rfl,fun h=>absurd h (by simp)⟩,Hb.out⟩
  clear hs0
  go_wp2
  go_ret
  exact hp.out
 ·obtain ⟨g,cap,rest,rfl,hg,hcap,hcm,hB⟩:=RowsK.own_blk labEnc 2 (fun _=>rfl) Hown.out h0
  have Hg:=Lib.hid hg
  have hso:=Lib.hid (stable_any g cap l rest w1 hB hl)
  clear hB hg
  go_wp2_with fail
  refine hso.out.mono ?_
  rintro e w2 ⟨rfl,hB2,hk2⟩
  have hp:Hid (LabPost (sortL l) w (.returned (.slice (some ⟨g,0,none⟩) l.length l.length)) w2):=by
   refine ⟨some ⟨g,0,none⟩,by rw [sortL_len],fun M hM=>?_,Hb.out.trans (hk2.belowB Hb.out.size (by intro x hx;simp at hx;subst hx;exact Hg.out))⟩
   exact RowsK.rd_of_blk labEnc 2 (fun _=>rfl) hB2 (fun hm=>by have:=hM _ hm;have:=Hg.out;omega)
  clear hB2 hk2 hso
  go_wp2_with fail
  refine (clipLabel _ l.length cap _ hcap).mono ?_
  rintro e w' ⟨rfl,rfl⟩
  go_wp2
  go_ret
  exact hp.out
def itemOk (s:List LabD) (i:Nat):Bool:=nameOk s[i]!.name && nameOk s[i]!.value && (i == 0 || !(s[i - 1]!.name.toList == s[i]!.name.toList))
def okRow (s:List LabD):Bool:=(List.range s.length).all (itemOk s)
/-- Why labels may not be: 0, or a number. -/
def rightS (l:List LabD):Nat:=if 8 < l.length then 3 else if okRow (sortL l)=false then 1 else if l.length=0 then 1 else 0
theorem Labs.at_ {w:World} {M:List Nat} {v:Value} {l:List LabD} (h:Labs w M v l) {k:Nat} (hk:k < l.length) :
  ∃ g off cap,v=.slice (some ⟨g,off,none⟩) l.length cap∧g < w.heap.size∧w.cell? ⟨g,off + k * 2,none⟩=some (.string l[k].name)∧w.cell? ⟨g,off + k * 2 + 1,none⟩=some (.string l[k].value):=by
 obtain ⟨g,off,c,e,_,hg,_,hx⟩:=Rd.at_ labEnc 2 (fun _=>rfl) h hk
 exact ⟨g,off,c,e,hg,by have:=hx 0 _ rfl;rwa [Nat.add_zero] at this,hx 1 _ rfl⟩
def NumPost (n:Nat) (w:World) (e:Ending) (w':World):Prop:=e=.returned (.int .i64 n)∧Below w.heap.size w w'
theorem lright_any (v:Value) (l:List LabD) (w:World) (h:Labs w [] v l) (hl:l.length≤4611686018427387904) :
  Calls Tryz.prog 255 #[v] w fun e w'=>NumPost (rightS l) w e w':=by
 have HR:Hid (rightS l=if 8 < l.length then 3 else if okRow (sortL l)=false then 1 else if l.length=0 then 1 else 0):=rfl
 by_cases h8:8 < l.length
 ·have hR:Hid (rightS l=3):=by show _=_;rw [HR.out,if_pos h8]
  obtain ⟨A,c,rfl,hc⟩:=h.len
  have h8i:(8:Int) < (l.length:Int):=by omega
  clear h HR
  rw [hR.out]
  go_enter Tryz.func255,Tryz.ntmps255
  go_wp2
  go_ret
  exact ⟨rfl,Below.refl _ _⟩
 ·have hso:=Lib.hid (sorted_any v l w h (by omega))
  obtain ⟨A,c,rfl,hc⟩:=h.len
  have h8i:decide ((8:Int) < (l.length:Int))=false:=decide_eq_false (by omega)
  have hn:=Lib.hid (fun x W=>name_any x W)
  have HR2:Hid (rightS l=if okRow (sortL l)=false then 1 else if (sortL l).length=0 then 1 else 0):=by show _=_;rw [HR.out,if_neg h8,sortL_len]
  have hs8:(sortL l).length≤8:=by rw [sortL_len];omega
  clear h HR
  generalize hs:sortL l=s at *
  go_enter Tryz.func255,Tryz.ntmps255
  go_wp2_with fail
  refine hso.out.mono ?_
  rintro e w1 ⟨A1,rfl,hA,hb⟩
  have HA:=Lib.hid (hA [] (by simp));have Hb:=Lib.hid hb
  clear hA hb hso hs
  go_wp2_with fail
  go_loopw [13] (fun i wr=>∃ x:Nat,i=.int .i64 x∧x≤s.length∧Hid ((List.range x).all (itemOk s)=true)∧Hid (Below w1.heap.size w1 wr)) (fun i _=>s.length - (intOf i).toNat)
  case atStart=>exact ⟨0,rfl,by omega,rfl,Below.refl _ _⟩
  case round=>
   obtain ⟨x,rfl,hx,Hok,Hbr⟩:=hrel
   by_cases hlt:x < s.length
   ·have hx1:(x:Int) < (s.length:Int):=by omega
    obtain ⟨g,off,_,e1,hg,c0,c1⟩:=(HA.out.keep (Keeps.of_below (M:=[]) Hbr.out) (by simp)).at_ hlt
    obtain rfl:A1=some ⟨g,off,none⟩:=by injection e1
    clear e1
    have Hitem:Hid (itemOk s x=(nameOk s[x].name && nameOk s[x].value && (x == 0 || !(s[x - 1]!.name.toList == s[x].name.toList)))):=by
     show _=_;unfold itemOk;rw [getElem!_pos s x hlt]
    have Hbad:Hid (itemOk s x=false→rightS l=1):=fun h=>by
     rw [HR2.out,if_pos]
     unfold okRow
     rw [List.all_eq_false]
     exact ⟨x,List.mem_range.2 hlt,by simp [h]⟩
    have Hgood:Hid (itemOk s x=true→(List.range (x + 1)).all (itemOk s)=true):=fun h=>by
     rw [List.range_succ,List.all_append,Hok.out];simp [h]
    have hbl:=Blk.new wr 282 #[.string s[x].name,.string s[x].value]
    have ka:=(Keeps.refl [] wr).alloc (.cells #[.string s[x].name,.string s[x].value] 282)
    have Hb2:Hid (Below w1.heap.size w1 (wr.alloc (.cells #[.string s[x].name,.string s[x].value] 282))):=Hbr.out.alloc Hbr.out.size _
    have d0:=hbl.cell 0;have d1:=hbl.cell 1
    simp only [List.getElem?_toArray,List.getElem?_cons_succ,List.getElem?_cons_zero] at d0 d1
    generalize hna:s[x].name=na at *
    generalize hva:s[x].value=va at *
    clear hbl
    have HNa:Hid (∀ W,Calls Tryz.prog 295 #[.string na] W fun e w'=>e=.returned (.bool (nameOk na))∧W=w'):=fun W=>hn.out na W
    have HVa:Hid (∀ W,Calls Tryz.prog 295 #[.string va] W fun e w'=>e=.returned (.bool (nameOk va))∧W=w'):=fun W=>hn.out va W
    have Hb3:Hid (∀ q,Below w1.heap.size w1 ((wr.alloc (.cells #[.string na,.string va] 282)).drewN q)):=fun q=>((Keeps.of_below (M:=[]) Hb2.out).drewN q).below
    clear hn
    by_cases h1:nameOk na=true
    ·rw [h1] at HNa
     by_cases h2:nameOk va=true
     ·rw [h2] at HVa
      by_cases h0:x=0
      ·have ho:=Lib.hid (Hgood.out (by rw [Hitem.out,h1,h2,h0];simp))
       have hxd:decide ((0:Int) < (x:Int))=false:=decide_eq_false (by omega)
       have hxn:¬ 0 < x:=by omega
       clear Hbad Hgood Hitem h0 h1 h2
       go_wp2_with fail
       go_quiet (first | (go_at_call_of 295 (Value.string na);exact quiet_left (HNa.out _)) | (go_at_call_of 295 (Value.string va);exact quiet_left (HVa.out _)))
       go_wp2
       go_roundw
       case rel=>exact ⟨x + 1,by go_num,by omega,ho.out,Hb3.out _⟩
       case measure=>simp [intOf] <;> omega
      ·obtain ⟨y,rfl⟩:∃ y,x=y + 1:=⟨x - 1,by omega⟩
       obtain ⟨g2,off2,_,e2,hg2,p0,_⟩:=(HA.out.keep (Keeps.of_below (M:=[]) Hb2.out) (by simp)).at_ (k:=y) (by omega)
       obtain ⟨rfl,rfl⟩:g=g2∧off=off2:=by injection e2 with e2 _ _;injection e2 with e2;injection e2 with h1 h2;exact ⟨h1,h2⟩
       have hpy:s[y + 1 - 1]! = s[y]:=getElem!_pos s y (by omega)
       rw [hpy] at Hitem
       clear e2 hpy
       generalize s[y].name=pn at *
       have hw1:IntKind.i64.wrap (y:Int)=(y:Int):=by rw [IntKind.wrap_i64];omega
       have hw2:IntKind.i64.wrap ((y:Int) + 1 - 1)=(y:Int):=by rw [IntKind.wrap_i64];omega
       have hy1:(y:Int) + 1 - 1=(y:Int):=by omega
       have hy2:(0:Int)≤(y:Int):=by omega
       have hy3:((y:Int)).toNat=y:=by omega
       have hyl:(y:Int) < (s.length:Int):=by omega
       have hyl2:(y:Int) + 1 < (s.length:Int):=by omega
       have hyz:(0:Int) < (y:Int) + 1:=by omega
       by_cases h3:(pn.toList == na.toList)=true
       ·have hf:=Lib.hid (Hbad.out (by rw [Hitem.out,h1,h2,h3];simp))
        clear Hbad Hgood Hitem h1 h2
        go_wp2_with fail
        go_quiet (first | (go_at_call_of 295 (Value.string na);exact quiet_left (HNa.out _)) | (go_at_call_of 295 (Value.string va);exact quiet_left (HVa.out _)))
        go_wp2
        go_ret
        rw [hf.out]
        exact ⟨rfl,below_then Hb.out (Hb3.out _)⟩
       ·have h3':(pn.toList == na.toList)=false:=by simpa using h3
        have ho:=Lib.hid (Hgood.out (by rw [Hitem.out,h1,h2,h3'];simp))
        clear Hbad Hgood Hitem h3 h1 h2
        go_wp2_with fail
        go_quiet (first | (go_at_call_of 295 (Value.string na);exact quiet_left (HNa.out _)) | (go_at_call_of 295 (Value.string va);exact quiet_left (HVa.out _)))
        go_wp2
        go_roundw
        case rel=>exact ⟨y + 1 + 1,by go_num,by omega,ho.out,Hb3.out _⟩
        case measure=>simp [intOf] <;> omega
     ·have h2':nameOk va=false:=by simpa using h2
      rw [h2'] at HVa
      have hf:=Lib.hid (Hbad.out (by rw [Hitem.out,h1,h2'];simp))
      clear Hbad Hgood Hitem h2 h1 h2'
      go_wp2_with fail
      go_quiet (first | (go_at_call_of 295 (Value.string na);exact quiet_left (HNa.out _)) | (go_at_call_of 295 (Value.string va);exact quiet_left (HVa.out _)))
      go_wp2
      go_ret
      rw [hf.out]
      exact ⟨rfl,below_then Hb.out (Hb3.out _)⟩
    ·have h1':nameOk na=false:=by simpa using h1
     rw [h1'] at HNa
     have hf:=Lib.hid (Hbad.out (by rw [Hitem.out,h1'];simp))
     clear Hbad Hgood Hitem h1 h1'
     go_wp2_with fail
     go_quiet (first | (go_at_call_of 295 (Value.string na);exact quiet_left (HNa.out _)) | (go_at_call_of 295 (Value.string va);exact quiet_left (HVa.out _)))
     go_wp2
     go_ret
     rw [hf.out]
     exact ⟨rfl,below_then Hb.out (Hb3.out _)⟩
   ·obtain rfl:x=s.length:=by omega
    have hok:Hid (okRow s=true):=Hok.out
    by_cases hz:s.length=0
    ·have hR:Hid (rightS l=1):=by show _=_;rw [HR2.out,if_neg (by rw [hok.out];simp),if_pos hz]
     have hzi:((s.length:Int) == 0)=true:=by rw [beq_iff_eq];omega
     have hzi2:(s.length:Int)=0:=by omega
     go_wp2
     go_ret
     rw [hR.out]
     exact ⟨rfl,below_then Hb.out Hbr.out⟩
    ·have hR:Hid (rightS l=0):=by show _=_;rw [HR2.out,if_neg (by rw [hok.out];simp),if_neg hz]
     have hzi:((s.length:Int) == 0)=false:=by rw [beq_eq_false_iff_ne];omega
     go_wp2
     go_ret
     rw [hR.out]
     exact ⟨rfl,below_then Hb.out Hbr.out⟩
end Go.Proofs.YtambjickanapjaaGreatDoor.Vi
end
