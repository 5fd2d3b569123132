/- Texts put together: Sets6, SetsP, Sets7, MrwP, MrwQ, MrwK, PlF, MPut, RSame, MrO, SetsM, Sets8, Sets9, MrwA, MrwC, AgP, Qu1, Bk1, Bk2, Bk3, Tag, Qu2. -/
import Derived.Deep.DeepCutAuto
import Derived.Deep.RegionHeld3
import Derived.Deep.RegionWith
import Derived.Test.YtambjickanapjaaGreatDoorMW1
import Derived.Test.YtambjickanapjaaGreatDoorMW4
import Derived.Test.YtambjickanapjaaGreatDoorMW5
import Derived.Test.YtambjickanapjaaGreatDoorMW6
set_option linter.unusedVariables false
set_option linter.unusedSimpArgs false
set_option maxRecDepth 100000
set_option maxHeartbeats 8000000
section
namespace Go.Proofs.YtambjickanapjaaGreatDoor.Sets
open Go.RowKit Base Mem Go.Shelf Go.Lib
theorem infoIdent:(Tryz.prog.info? 33).map (fun i=>(i.zero,i.size,i.bytes))=some (some (.agg #[.int .i64 0,.int .i64 0,.int .i64 0]),3,24):=by kernel_rfl
theorem iCells_len (l:List IdentD):(l.flatMap iEnc).length=l.length * 3:=flat_len iEnc 3 (fun _=>rfl) l
theorem iCells_one (l:List IdentD):∀ u∈l.flatMap iEnc,u.oneCell'=true:=by
 intro u hu
 obtain ⟨d,_,hd⟩:=List.mem_flatMap.1 hu
 simp [iEnc] at hd
 rcases hd with rfl | rfl | rfl <;> rfl
def GrowPost (w:World) (e:Ending) (w':World):Prop:=∃ v,e=.returned v∧w'.ownsRow w.heap.size 33 3 v 0 []∧Below w.heap.size w w'
theorem grow_any (n:Nat) (w:World) (hn:n≤2097152) :
  Calls Tryz.prog 128 #[.slice none 0 0,.int .i64 n] w fun e w'=>GrowPost w e w':=by
 obtain ⟨i0,hi0,hz0,hz1,hz2⟩:=info_parts infoIdent
 by_cases h0:n=0
 ·subst h0
  have h:=Any8.slices_Grow_room Tryz.growIdent none 0 0 0 w (by omega) (by omega) (by omega) (by omega)
  refine Calls.mono h ?_
  rintro e w' ⟨rfl,rfl⟩
  exact ⟨_,rfl,World.ownsRow_nil _ _ _ _,Below.refl _ _⟩
 ·have h:=Any8.slices_Grow_grow Tryz.growIdent i0 _ hi0 hz0 (by omega) none 0 0 n [] w (by omega) (by omega) (by rw [hz2];omega) (by omega) (by simp) (fun _=>rfl) (fun _ h=>by cases h)
  refine Calls.mono h ?_
  rintro e w' ⟨rfl,rfl⟩
  have hge:=grownCap_ge w (0 + n) 0 33
  have hle:=grownCap_le_maxLen w (0 + n) 0 33 (by unfold maxLen;omega)
  refine ⟨_,rfl,⟨by simp,.inr ⟨w.heap.size,_,_,rfl,Nat.le_refl _,heap_alloc_new _ _,Nat.zero_le _,hle,?_,by simp⟩⟩,below_new (((Keeps.refl [] w).drew).below) _⟩
  simp only [Array.size_append,size_zeroCells,List.size_toArray,List.length_nil]
  have ht:Tryz.growIdent_ren.t 25=33:=rfl
  rw [ht]
  show 0 + (0 + n - 0) * 3 + (_ - (0 + n)) * 3=_
  omega
def CatPost (la lb:List IdentD) (w:World) (e:Ending) (w':World):Prop:=∃ v,e=.returned v∧w'.ownsRow w.heap.size 33 3 v (la.length + lb.length) ((la++lb).flatMap iEnc)∧Below w.heap.size w w'
theorem concat_any (gs:Nat) (va vb:Value) (la lb:List IdentD) (w:World) (ha:Ids w [] va la) (hb:Ids w [] vb lb) (hla:la.length≤1048576) (hlb:lb.length≤1048576)
  (hgs:gs < w.heap.size) (h0:w.cell? ⟨gs,0,none⟩=some va) (h1:w.cell? ⟨gs,1,none⟩=some vb) :
  Calls Tryz.prog 57 #[.slice (some ⟨gs,0,none⟩) 2 2] w fun e w'=>CatPost la lb w e w':=by
 have Ha:=Lib.hid ha;have Hb:=Lib.hid hb
 obtain ⟨Aa,ca,rfl,hca⟩:=ha.len
 obtain ⟨Ab,cb,rfl,hcb⟩:=hb.len
 obtain ⟨i0,hi0,hz0,hz1,hz2⟩:=info_parts infoIdent
 have Hi0:=Lib.hid hi0;have Hz0:=Lib.hid hz0;have Hz1:=Lib.hid hz1;have Hz2:=Lib.hid hz2
 clear ha hb hi0 hz0 hz1 hz2
 go_enter Tryz.func57,Tryz.ntmps57
 go_wp2_with fail
 go_slots
 go_loopw [3,11] (fun n j wr=>∃ x y q:Nat,n=.int .i64 y∧j=.int .i64 x∧x≤2∧Hid ((x=0→y=0)∧(x=1→y=la.length)∧(x=2→y=la.length + lb.length))∧wr=w.drewN q) (fun _ j _=>2 - (intOf j).toNat)
 case atStart=>exact ⟨0,0,0,rfl,rfl,by omega,⟨by omega,by omega,by omega⟩,rfl⟩
 case round=>
  obtain ⟨x,y,q,rfl,rfl,hx,Hy,rfl⟩:=hrel
  rcases (show x=0∨x=1∨x=2 by omega) with rfl | rfl | rfl
  ·obtain rfl:y=0:=Hy.out.1 rfl
   go_wp2
   go_roundw
   case rel=>exact ⟨1,la.length,q,by go_num,by go_num,by omega,⟨by omega,by omega,by omega⟩,rfl⟩
   case measure=>simp [intOf]
  ·obtain rfl:y=la.length:=Hy.out.2.1 rfl
   go_wp2
   go_roundw
   case rel=>exact ⟨2,la.length + lb.length,q,by go_num,by go_num,by omega,⟨by omega,by omega,by omega⟩,rfl⟩
   case measure=>simp [intOf]
  ·obtain rfl:y=la.length + lb.length:=Hy.out.2.2 rfl
   have hgr := Lib.hid (show Calls Tryz.prog 128 #[.slice none 0 0, .int .i64 ((la.length : Int) + lb.length)] (w.drewN q) (GrowPost (w.drewN q)) by
    have:=grow_any (la.length + lb.length) (w.drewN q) (by omega)
    rwa [Int.natCast_add] at this)
   go_wp2_with fail
   refine hgr.out.mono ?_
   rintro e w1 ⟨v0,rfl,hown0,hb0⟩
   have Hown0:=Lib.hid (show w1.ownsRow w.heap.size 33 3 v0 0 [] from hown0)
   have Hb0:=Lib.hid (show Below w.heap.size w w1 from ⟨hb0.os,hb0.tape,hb0.output,hb0.size,hb0.block⟩)
   have k0:w1.cell? ⟨gs,0,none⟩=some (.slice Aa la.length ca):=(Hb0.out.cell (p:=⟨gs,0,none⟩) hgs).trans h0
   have k1:w1.cell? ⟨gs,1,none⟩=some (.slice Ab lb.length cb):=(Hb0.out.cell (p:=⟨gs,1,none⟩) hgs).trans h1
   clear hown0 hb0 Hy hgr
   go_wp2_with fail
   go_slots
   go_loopw [6,27] (fun out j wr=>∃ x:Nat,j=.int .i64 x∧x≤2∧Hid (Below w.heap.size w wr)∧Hid ((x=0→wr.ownsRow w.heap.size 33 3 out 0 [])∧(x=1→wr.ownsRow w.heap.size 33 3 out la.length (la.flatMap iEnc))∧(x=2→wr.ownsRow w.heap.size 33 3 out (la.length + lb.length) ((la++lb).flatMap iEnc)))) (fun _ j _=>2 - (intOf j).toNat)
   case atStart=>exact ⟨0,rfl,by omega,Hb0.out,⟨fun _=>Hown0.out,by omega,by omega⟩⟩
   case round=>
    obtain ⟨x,rfl,hx,Hbr,Hor⟩:=hrel
    have k0:wr.cell? ⟨gs,0,none⟩=some (.slice Aa la.length ca):=(Hbr.out.cell (p:=⟨gs,0,none⟩) hgs).trans h0
    have k1:wr.cell? ⟨gs,1,none⟩=some (.slice Ab lb.length cb):=(Hbr.out.cell (p:=⟨gs,1,none⟩) hgs).trans h1
    rcases (show x=0∨x=1∨x=2 by omega) with rfl | rfl | rfl
    ·have Hown:=Lib.hid (Hor.out.1 rfl)
     have Hrd:=Lib.hid ((Ha.out.keep (Keeps.of_below (M:=[]) Hbr.out) (by simp)).reads)
     obtain ⟨A1,c1,e1,_,hrd⟩:=Hrd.out
     injection e1 with e1 _ e2
     subst e1 e2
     have Hrd2:=Lib.hid hrd
     clear hrd Hrd
     go_wp2_with (at_builtin;refine wpList_append_any _ rfl (.tmp 31) (.tmp 32) _ rfl w.heap.size 33 i0 _ 3 24 Tryz.underlying29 Hi0.out Hz0.out Hz1.out Hz2.out rfl (by omega) u6 0 [] rfl Hown.out wr.heap.size Aa la.length ca (la.flatMap iEnc) rfl Hrd2.out (iCells_one la) (by unfold maxLen;omega) (by omega) Hbr.out.size ?_)
     intro v' w4 hown4 hg4 hat4
     have Hown4:Hid (w4.ownsRow w.heap.size 33 3 v' la.length (la.flatMap iEnc)):=by show World.ownsRow _ _ _ _ _ _ _;simpa using hown4
     have Hb4:=Lib.hid (Hbr.out.grown hg4 Hbr.out.size (fun g hg=>(Hown.out.lt g hg).1))
     clear hown4 hg4 hat4
     go_wp2
     go_roundw
     case rel=>exact ⟨1,by go_num,by omega,Hb4,⟨by omega,fun _=>Hown4.out,by omega⟩⟩
     case measure=>simp [intOf]
    ·have Hown:=Lib.hid (Hor.out.2.1 rfl)
     have Hrd:=Lib.hid ((Hb.out.keep (Keeps.of_below (M:=[]) Hbr.out) (by simp)).reads)
     obtain ⟨A1,c1,e1,_,hrd⟩:=Hrd.out
     injection e1 with e1 _ e2
     subst e1 e2
     have Hrd2:=Lib.hid hrd
     clear hrd Hrd
     go_wp2_with (at_builtin;refine wpList_append_any _ rfl (.tmp 31) (.tmp 32) _ rfl w.heap.size 33 i0 _ 3 24 Tryz.underlying29 Hi0.out Hz0.out Hz1.out Hz2.out rfl (by omega) u6 la.length (la.flatMap iEnc) rfl Hown.out wr.heap.size Ab lb.length cb (lb.flatMap iEnc) rfl Hrd2.out (iCells_one lb) (by unfold maxLen;omega) (by omega) Hbr.out.size ?_)
     intro v' w4 hown4 hg4 hat4
     have Hown4:Hid (w4.ownsRow w.heap.size 33 3 v' (la.length + lb.length) ((la++lb).flatMap iEnc)):=by show World.ownsRow _ _ _ _ _ _ _;rw [List.flatMap_append];exact hown4
     have Hb4:=Lib.hid (Hbr.out.grown hg4 Hbr.out.size (fun g hg=>(Hown.out.lt g hg).1))
     clear hown4 hg4 hat4
     go_wp2
     go_roundw
     case rel=>exact ⟨2,by go_num,by omega,Hb4,⟨by omega,by omega,fun _=>Hown4.out⟩⟩
     case measure=>simp [intOf]
    ·have hp:CatPost la lb w (.returned u6) wr:=⟨u6,rfl,Hor.out.2.2 rfl,Hbr.out⟩
     go_wp2
     go_ret
     exact hp
end Go.Proofs.YtambjickanapjaaGreatDoor.Sets
end
section
namespace Go.Proofs.YtambjickanapjaaGreatDoor.Sets
def le (x y:IdentD):Bool:=!(iLt y x)
theorem le_iff (a b:IdentD):le a b=true↔¬ (b.ag < a.ag∨b.ag=a.ag∧(b.sh < a.sh∨b.sh=a.sh∧b.seq < a.seq)):=by
 unfold le;rw [Bool.not_eq_true',iLt_no]
theorem lt_of_le {a b:IdentD} (h:le a b=true) (hn:b≠a):iLt a b=true:=by
 rw [le_iff] at h;rw [iLt_iff]
 obtain ⟨a1,a2,a3⟩:=a
 obtain ⟨b1,b2,b3⟩:=b
 simp at *
 omega
theorem lt_trans {a b c:IdentD} (h:iLt a b=true) (h2:iLt b c=true):iLt a c=true:=by rw [iLt_iff] at *;omega
theorem lt_irrefl (a:IdentD):iLt a a=false:=by rw [iLt_no];omega
def ded1 (p:IdentD):List IdentD→List IdentD
 | []=>[]
 | y :: ys=>if y=p then ded1 p ys else y :: ded1 y ys
def ded:List IdentD→List IdentD
 | []=>[]
 | x :: xs=>x :: ded1 x xs
theorem ded1_sorted (p:IdentD) (l:List IdentD) (h:(p :: l).Pairwise fun a b=>le a b=true):(p :: ded1 p l).Pairwise fun a b=>iLt a b=true:=by
 induction l generalizing p with
 | nil=>simp [ded1]
 | cons y ys ih=>
  rw [List.pairwise_cons] at h
  obtain ⟨h1,h2⟩:=h
  by_cases hy:y=p
  ·subst hy
   rw [ded1,if_pos rfl]
   exact ih y h2
  ·rw [ded1,if_neg hy]
   have h3:=ih y h2
   refine List.pairwise_cons.2 ⟨fun z hz=>?_,h3⟩
   have hpy:=lt_of_le (h1 y (by simp)) hy
   rcases List.mem_cons.1 hz with rfl | hz
   ·exact hpy
   ·exact lt_trans hpy ((List.pairwise_cons.1 h3).1 z hz)
theorem ded_sorted (l:List IdentD) (h:l.Pairwise fun a b=>le a b=true):(ded l).Pairwise fun a b=>iLt a b=true:=by
 cases l with
 | nil=>simp [ded]
 | cons x xs=>exact ded1_sorted x xs h
theorem ded1_mem (p x:IdentD) (l:List IdentD):x∈p :: ded1 p l↔x∈p :: l:=by
 induction l generalizing p with
 | nil=>simp [ded1]
 | cons y ys ih=>
  by_cases hy:y=p
  ·subst hy
   rw [ded1,if_pos rfl,ih]
   simp
  ·rw [ded1,if_neg hy,List.mem_cons,ih];simp
theorem ded_mem (x:IdentD) (l:List IdentD):x∈ded l↔x∈l:=by
 cases l with
 | nil=>simp [ded]
 | cons y ys=>exact ded1_mem y x ys
/-- Two rows that rise and have the same idents are one. -/
theorem sorted_ext (l l':List IdentD) (h:l.Pairwise fun a b=>iLt a b=true) (h':l'.Pairwise fun a b=>iLt a b=true) (hm:∀ x,x∈l↔x∈l'):l=l':=by
 induction l generalizing l' with
 | nil=>cases l' with
  | nil=>rfl
  | cons y ys=>exact absurd ((hm y).2 (by simp)) (by simp)
 | cons x xs ih=>
  cases l' with
  | nil=>exact absurd ((hm x).1 (by simp)) (by simp)
  | cons y ys=>
   rw [List.pairwise_cons] at h h'
   have hxy:x=y:=by
    rcases List.mem_cons.1 ((hm x).1 (by simp)) with h1 | h1
    ·exact h1
    ·rcases List.mem_cons.1 ((hm y).2 (by simp)) with h2 | h2
     ·exact h2.symm
     ·have:=lt_trans (h'.1 x h1) (h.1 y h2)
      rw [lt_irrefl] at this;cases this
   subst hxy
   congr 1
   refine ih ys h.2 h'.2 fun z=>⟨fun hz=>?_,fun hz=>?_⟩
   ·rcases List.mem_cons.1 ((hm z).1 (List.mem_cons_of_mem _ hz)) with h1 | h1
    ·subst h1;have:=h.1 _ hz;rw [lt_irrefl] at this;cases this
    ·exact h1
   ·rcases List.mem_cons.1 ((hm z).2 (List.mem_cons_of_mem _ hz)) with h1 | h1
    ·subst h1;have:=h'.1 _ hz;rw [lt_irrefl] at this;cases this
    ·exact h1
def uni (l:List IdentD):List IdentD:=ded (l.mergeSort le)
theorem uni_sorted (l:List IdentD):(uni l).Pairwise fun a b=>iLt a b=true:=
 ded_sorted _ (List.pairwise_mergeSort (fun a b c h1 h2=>by rw [le_iff] at *;omega) (fun a b=>by rw [Bool.or_eq_true,le_iff,le_iff];omega) l)
theorem uni_mem (x:IdentD) (l:List IdentD):x∈uni l↔x∈l:=by unfold uni;rw [ded_mem,List.mem_mergeSort]
end Go.Proofs.YtambjickanapjaaGreatDoor.Sets
end
section
namespace Go.Proofs.YtambjickanapjaaGreatDoor.Sets
open Go.RowKit Base Mem Go.Shelf Go.Lib
theorem ded1_append (p:IdentD) (l:List IdentD) (y:IdentD):ded1 p (l++[y])=ded1 p l++(if y=(p :: l).getLast (by simp) then [] else [y]):=by
 induction l generalizing p with
 | nil=>by_cases h:y=p <;> simp [ded1,h]
 | cons a l ih=>
  by_cases h:a=p
  ·subst h
   rw [List.cons_append,ded1,if_pos rfl,ih,ded1,if_pos rfl,List.getLast_cons (List.cons_ne_nil a l)]
  ·rw [List.cons_append,ded1,if_neg h,ih,ded1,if_neg h,List.getLast_cons (List.cons_ne_nil a l)]
   rfl
theorem ded_append (l:List IdentD) (y:IdentD) (hl:l≠[]):ded (l++[y])=ded l++(if y=l.getLast hl then [] else [y]):=by
 cases l with
 | nil=>exact absurd rfl hl
 | cons a l=>simp only [List.cons_append,ded,ded1_append]
theorem ded_step (d:List IdentD) (j:Nat) (h0:0 < j) (hj:j < d.length):ded (d.take (j + 1))=if d[j]=d[j - 1] then ded (d.take j) else ded (d.take j)++[d[j]]:=by
 have hne:d.take j≠[]:=by intro h;have:=congrArg List.length h;rw [List.length_take,List.length_nil] at this;omega
 rw [List.take_succ_eq_append_getElem hj,ded_append _ _ hne]
 have hl:(d.take j).getLast hne=d[j - 1]:=by
  rw [List.getLast_eq_getElem,List.getElem_take]
  congr 1
  rw [List.length_take];omega
 rw [hl]
 split <;> simp
theorem ded_le (l:List IdentD):(ded l).length≤l.length:=by
 have h1:∀ (p:IdentD) (l:List IdentD),(ded1 p l).length≤l.length:=by
  intro p l
  induction l generalizing p with
  | nil=>simp [ded1]
  | cons y ys ih=>
   by_cases h:y=p
   ·rw [ded1,if_pos h];have:=ih p;simp;omega
   ·rw [ded1,if_neg h];have:=ih y;simp;omega
 cases l with
 | nil=>simp [ded]
 | cons x xs=>simp [ded];exact h1 x xs
theorem set_flat (l:List IdentD) (k:Nat) (d:IdentD) (rest:List Value) (hk:k < l.length) :
  (((l.flatMap iEnc++rest).set (k * 3) (.int .i64 d.ag)).set (k * 3 + 1) (.int .i64 d.sh)).set (k * 3 + 2) (.int .i64 d.seq)=(l.set k d).flatMap iEnc++rest:=by
 induction l generalizing k with
 | nil=>simp at hk
 | cons a l ih=>
  cases k with
  | zero=>simp [iEnc]
  | succ k=>
   have:=ih k (by simpa using hk)
   have e0:(k + 1) * 3=k * 3 + 3:=by omega
   rw [e0]
   simp only [List.flatMap_cons,iEnc,List.cons_append,List.nil_append,List.set_cons_succ,Nat.add_right_comm _ 3]
   simpa [iEnc] using this
end Go.Proofs.YtambjickanapjaaGreatDoor.Sets
end
section
namespace Go.Proofs.YtambjickanapjaaGreatDoor.Mrw
def scanA {α:Type} [DecidableEq α] (a:List α):List α→Nat→Nat
 | [],k=>k
 | x :: b,k=>scanA a b (if a[k]? = some x then k + 1 else k)
theorem scanA_append {α:Type} [DecidableEq α] (a b c:List α) (k:Nat):scanA a (b++c) k=scanA a c (scanA a b k):=by
 induction b generalizing k with
 | nil=>rfl
 | cons x b ih=>simp only [List.cons_append,scanA];exact ih _
theorem scanA_snoc {α:Type} [DecidableEq α] (a b:List α) (x:α):scanA a (b++[x]) 0=if a[scanA a b 0]? = some x then scanA a b 0 + 1 else scanA a b 0:=by
 rw [scanA_append];rfl
theorem scanA_le {α:Type} [DecidableEq α] (a b:List α) (k:Nat) (hk:k≤a.length):scanA a b k≤a.length:=by
 induction b generalizing k with
 | nil=>exact hk
 | cons x b ih=>
  simp only [scanA]
  split
  ·rename_i h
   have:=(List.getElem?_eq_some_iff.mp h).1
   exact ih _ (by omega)
  ·exact ih _ hk
theorem scanA_full {α:Type} [DecidableEq α] (lt:α→α→Bool) (hi:∀ x,lt x x=false) (a b:List α) (k:Nat)
  (ha:a.Pairwise fun x y=>lt x y=true) (ht:∀ x y z,lt x y=true→lt y z=true→lt x z=true)
  (hb:b.Pairwise fun x y=>lt x y=true) (hk:k≤a.length) (hm:∀ x∈a.drop k,x∈b):scanA a b k=a.length:=by
 induction b generalizing k with
 | nil=>
  simp only [scanA]
  by_cases h:k < a.length
  ·exact absurd (hm a[k] (by rw [List.drop_eq_getElem_cons h];exact List.mem_cons_self)) (by simp)
  ·omega
 | cons x b ih=>
  rw [List.pairwise_cons] at hb
  simp only [scanA]
  by_cases h:k < a.length
  ·have hd:=List.drop_eq_getElem_cons h
   have hpd:(a[k] :: a.drop (k + 1)).Pairwise fun x y=>lt x y=true:=hd ▸ ha.sublist (List.drop_sublist k a)
   rw [List.pairwise_cons] at hpd
   by_cases hx:a[k]=x
   ·rw [if_pos (by rw [List.getElem?_eq_getElem h,hx])]
    refine ih (k + 1) hb.2 (by omega) ?_
    intro y hy
    have h1:y∈x :: b:=hm y (by rw [hd];exact List.mem_cons_of_mem _ hy)
    rcases List.mem_cons.mp h1 with h2 | h2
    ·have h3:=hpd.1 y hy
     rw [hx,h2,hi] at h3
     cases h3
    ·exact h2
   ·rw [if_neg (by rw [List.getElem?_eq_getElem h];intro hh;exact hx (Option.some.inj hh))]
    refine ih k hb.2 hk ?_
    have h0:a[k]∈b:=by
     rcases List.mem_cons.mp (hm a[k] (by rw [hd];exact List.mem_cons_self)) with h2 | h2
     ·exact absurd h2 hx
     ·exact h2
    have hl:=hb.1 _ h0
    intro y hy
    rcases List.mem_cons.mp (hm y hy) with h2 | h2
    ·rw [hd] at hy
     rcases List.mem_cons.mp hy with h3 | h3
     ·exact h3 ▸ h0
     ·have h4:=ht _ _ _ hl (hpd.1 y h3)
      rw [h2,hi] at h4
      cases h4
    ·exact h2
  ·have h1:a[k]? = none:=List.getElem?_eq_none (by omega)
   rw [h1,if_neg (by simp)]
   exact ih k hb.2 hk (by rw [List.drop_eq_nil_of_le (by omega)];simp)
end Go.Proofs.YtambjickanapjaaGreatDoor.Mrw
end
section
namespace Go.Proofs.YtambjickanapjaaGreatDoor.Vi
open Go.RowKit Base Mem Tape Sets
def idE (e:EntryD):IdentD:=⟨e.ag,e.sh,e.seq⟩
noncomputable def machM (st:McD):List EntryD→McD
 | []=>st
 | e :: l=>machM (applyM st (pk e.ag e.sh) e).2.2 l
noncomputable def ackM (st:McD):List EntryD→List IdentD
 | []=>[]
 | e :: l=>(if (applyM st (pk e.ag e.sh) e).1=1 then [idE e] else [])++ackM (applyM st (pk e.ag e.sh) e).2.2 l
theorem machM_append (st:McD) (l l':List EntryD):machM st (l++l')=machM (machM st l) l':=by
 induction l generalizing st with
 | nil=>rfl
 | cons e l ih=>exact ih _
theorem ackM_append (st:McD) (l l':List EntryD):ackM st (l++l')=ackM st l++ackM (machM st l) l':=by
 induction l generalizing st with
 | nil=>rfl
 | cons e l ih=>simp only [List.cons_append,ackM,machM];rw [ih,List.append_assoc]
theorem ackM_snoc (st:McD) (l:List EntryD) (e:EntryD):ackM st (l++[e])=ackM st l++(if (applyM (machM st l) (pk e.ag e.sh) e).1=1 then [idE e] else []):=by
 rw [ackM_append];simp [ackM]
theorem machM_snoc (st:McD) (l:List EntryD) (e:EntryD):machM st (l++[e])=(applyM (machM st l) (pk e.ag e.sh) e).2.2:=by
 rw [machM_append];rfl
theorem ackM_length (st:McD) (l:List EntryD):(ackM st l).length≤l.length:=by
 induction l generalizing st with
 | nil=>simp [ackM]
 | cons e l ih=>
  simp only [ackM,List.length_append,List.length_cons]
  have:=ih (applyM st (pk e.ag e.sh) e).2.2
  split <;> simp <;> omega
theorem ack_written (st:McD) (kl:Lit) (e:EntryD) (h:(applyM st kl e).1=1):e.kind=1:=by
 unfold applyM at h
 split at h
 ·rename_i hr
  split at h
  ·simp at h
  ·rename_i h2
   by_cases h1:e.kind=1
   ·exact h1
   ·exfalso
    unfold rightE at hr
    split at hr
    ·cases hr
    ·rename_i hk
     unfold kindS at hk
     rw [if_neg h1,if_neg h2] at hk
     exact hk rfl
 ·simp at h
theorem ackM_mem (st:McD) (l:List EntryD) (x:IdentD) (h:x∈ackM st l):∃ e∈l,e.kind=1∧idE e=x:=by
 induction l generalizing st with
 | nil=>simp [ackM] at h
 | cons e l ih=>
  simp only [ackM,List.mem_append] at h
  rcases h with h | h
  ·split at h
   ·rename_i h1
    exact ⟨e,by simp,ack_written st _ e h1,(by rcases List.mem_singleton.1 h with rfl;rfl)⟩
   ·simp at h
  ·obtain ⟨e',h1,h2⟩:=ih _ h
   exact ⟨e',List.mem_cons_of_mem _ h1,h2⟩
theorem uni_le (l:List IdentD):(uni l).length≤l.length:=by
 have:=ded_le (l.mergeSort le)
 rwa [List.length_mergeSort] at this
/-- What a row counts. -/
noncomputable def cntM (l:List EntryD):List IdentD:=uni (ackM mc0 l)
theorem cnt_sorted (l:List EntryD):(cntM l).Pairwise fun a b=>iLt a b=true:=uni_sorted _
theorem cnt_written (l:List EntryD) (x:IdentD) (h:x∈cntM l):∃ e∈l,e.kind=1∧idE e=x:=ackM_mem mc0 l x ((uni_mem x _).1 h)
theorem cnt_grow (l l':List EntryD) (x:IdentD) (h:x∈cntM l):x∈cntM (l++l'):=by
 unfold cntM at *
 rw [uni_mem] at *
 rw [ackM_append]
 exact List.mem_append_left _ h
theorem cnt_scan (l:List EntryD) (k:Nat):Mrw.scanA (cntM (l.take k)) (cntM l) 0=(cntM (l.take k)).length:=
 Mrw.scanA_full iLt lt_irrefl _ _ 0 (cnt_sorted _) (fun _ _ _ => lt_trans) (cnt_sorted _) (by omega) (fun x hx => by
  rw [List.drop_zero] at hx
  have:=cnt_grow (l.take k) (l.drop k) x hx
  rwa [List.take_append_drop] at this)
/-- Whether a row has a write of that name. -/
def wrote (l:List EntryD) (x:IdentD):Bool:=l.any fun e=>decide (e.kind=1) && decide (idE e=x)
theorem wrote_snoc (l:List EntryD) (k:Nat) (hk:k < l.length) (x:IdentD):wrote (l.take (k + 1)) x=(wrote (l.take k) x || (decide (l[k].kind=1) && decide (idE l[k]=x))):=by
 unfold wrote
 rw [List.take_add_one,List.getElem?_eq_getElem hk,List.any_append]
 simp only [Option.toList,List.any_cons,List.any_nil,Bool.or_false]
theorem cnt_wrote (l:List EntryD) (x:IdentD) (h:x∈cntM l):wrote l x=true:=by
 obtain ⟨e,h1,h2,h3⟩:=cnt_written l x h
 exact List.any_eq_true.2 ⟨e,h1,by simp [h2,h3]⟩
theorem cnt_less (l:List EntryD) (i:Nat) (h:i + 1 < (cntM l).length):iLt (cntM l)[i] (cntM l)[i + 1]=true:=
 List.pairwise_iff_getElem.1 (cnt_sorted l) i (i + 1) (by omega) h (by omega)
theorem cnt_step (l:List EntryD) (k i:Nat) (hi:i < (cntM l).length):Mrw.scanA (cntM (l.take k)) ((cntM l).take (i + 1)) 0 =
  if (cntM (l.take k))[Mrw.scanA (cntM (l.take k)) ((cntM l).take i) 0]? = some (cntM l)[i] then Mrw.scanA (cntM (l.take k)) ((cntM l).take i) 0 + 1 else Mrw.scanA (cntM (l.take k)) ((cntM l).take i) 0:=by
 rw [List.take_add_one,List.getElem?_eq_getElem hi]
 exact Mrw.scanA_snoc _ _ _
theorem cnt_whole (l:List EntryD) (k:Nat):Mrw.scanA (cntM (l.take k)) ((cntM l).take (cntM l).length) 0=(cntM (l.take k)).length:=by rw [List.take_length,cnt_scan]
theorem cnt_length (l:List EntryD):(cntM l).length≤l.length:=Nat.le_trans (uni_le _) (ackM_length mc0 l)
def k23:EntryD:=fenceE 1 0 kA 1 5
noncomputable def w23:McD:=fenceS 1 0 kA 1 5 (pk 1 0) mc0
theorem w23_one:applyM mc0 (pk k23.ag k23.sh) k23=(1,0,w23):=fence_yes (by omega) (fence_start 1 (pk 1 0)) (by omega) kA_ok (by omega) (by omega) (by omega)
theorem w23_ok:FenceOk 1 1 1 (pk 1 0) w23:=(fence_next (fence_start 1 (pk 1 0)) (by omega) kA_ok ⟨by omega,by omega⟩).1
theorem w23_seen:(w23.get (pk 1 0)).seen 1=true:=(fence_next (fence_start 1 (pk 1 0)) (by omega) kA_ok (n:=5) (p:=1) ⟨by omega,by omega⟩).2
theorem w23_two:applyM w23 (pk k23.ag k23.sh) k23=(2,0,w23):=apply_dup (fence_right (ag:=1) (by omega) 0 kA_ok (p:=1) (n:=5) (by omega) (by omega)) (by show ¬ ((1:Int)=2);decide) w23_seen w23_ok.bad
theorem w23_sum:numAt .u64 w23.DS (skey kA)=5:=by
 show numAt .u64 ((DataW.map []:DataW Unit).put (skey kA) (.lit (.int .u64 (addZ (numAt .u64 (DataW.map []:DataW Unit) (skey kA)) 5)))) (skey kA)=5
 rw [numAt_same Maps.isMap_empty (skey_key _)]
 rfl
theorem n23_mach:machM mc0 [k23,k23]=w23:=by
 show (applyM (applyM mc0 (pk k23.ag k23.sh) k23).2.2 (pk k23.ag k23.sh) k23).2.2=w23
 rw [w23_one,w23_two]
theorem n23_ack:ackM mc0 [k23,k23]=[⟨1,0,1⟩]:=by
 simp only [ackM,w23_one,w23_two]
 rfl
theorem uni_one (x:IdentD):uni [x]=[x]:=sorted_ext _ _ (uni_sorted _) (by simp) (fun y=>uni_mem y [x])
theorem n23_cnt:cntM [k23,k23]=[⟨1,0,1⟩]:=by unfold cntM;rw [n23_ack,uni_one]
theorem n23_none:cntM []=[]:=sorted_ext _ _ (uni_sorted _) (by simp) (fun y=>by unfold cntM;rw [uni_mem];rfl)
theorem w23_has (k:Lit):Maps.has w23.DS k=true↔k=skey kA:=by
 show Maps.has ((DataW.map []:DataW Unit).put (skey kA) _) k=true↔_
 by_cases h:k=skey kA
 ·rw [h,Maps.has_put_same Maps.isMap_empty (skey_key kA)];simp
 ·rw [Maps.has_put_other h]
  simp [h,Maps.has]
theorem w23_all {l:List DeltaD} (h:IsAll w23.DS l):l=[⟨kA,5⟩]:=isAll_one h ⟨by simp,fun d=>by
 rw [w23_has,List.mem_singleton]
 constructor
 ·rintro rfl
  exact ⟨rfl,w23_sum.symm⟩
 ·rintro ⟨h1,h2⟩
  have h3:=skey_inj h1
  obtain ⟨s,n⟩:=d
  subst h3
  exact congrArg _ ((show n=numAt .u64 w23.DS (skey kA) from h2).trans w23_sum)⟩
theorem mc0_all {l:List DeltaD} (h:IsAll mc0.DS l):l=[]:=List.eq_nil_iff_forall_not_mem.2 fun d hd=>by
 have:=((h.2 d).1 hd).1
 simp [Maps.has,mc0] at this
end Go.Proofs.YtambjickanapjaaGreatDoor.Vi
end
section
namespace Go.Proofs.YtambjickanapjaaGreatDoor.Vi
open Go.RowKit Base Mem
def crcStep (c:Nat):Nat:=(c / 2) ^^^ (3988292384 * (c % 2))
def crcN:Nat→Nat→Nat
 | 0,c=>c
 | k + 1,c=>crcN k (crcStep c)
def crcNext (c:Nat) (b:UInt8):Nat:=crcN 8 (c ^^^ b.toNat)
def crcOn (c:Nat) (l:List UInt8):Nat:=l.foldl crcNext c
/-- The sum of bytes. -/
def crcOf (l:List UInt8):Nat:=4294967295 - crcOn 4294967295 l
theorem crcStep_lt {c:Nat} (h:c < 4294967296):crcStep c < 4294967296:=by
 unfold crcStep
 exact Nat.xor_lt_two_pow (n:=32) (by omega) (by omega)
theorem crcN_lt:∀ (k:Nat) {c:Nat},c < 4294967296→crcN k c < 4294967296
 | 0,_,h=>h
 | k + 1,_,h=>crcN_lt k (crcStep_lt h)
theorem xor_byte_lt {c:Nat} (h:c < 4294967296) (b:UInt8):c ^^^ b.toNat < 4294967296:=
 Nat.xor_lt_two_pow (n:=32) h (Nat.lt_trans b.toNat_lt (by decide))
theorem crcNext_lt {c:Nat} (h:c < 4294967296) (b:UInt8):crcNext c b < 4294967296:=crcN_lt 8 (xor_byte_lt h b)
theorem crcOn_lt:∀ (l:List UInt8) {c:Nat},c < 4294967296→crcOn c l < 4294967296
 | [],_,h=>h
 | x :: l,_,h=>crcOn_lt l (crcNext_lt h x)
theorem crcOf_lt (l:List UInt8):crcOf l < 4294967296:=by unfold crcOf;omega
/-- A sum's four bytes. -/
def leL (s:Nat):List UInt8:=[UInt8.ofNat s,UInt8.ofNat (s / 256),UInt8.ofNat (s / 65536),UInt8.ofNat (s / 16777216)]
def unL (b:List UInt8):Nat:=(b.getD 0 0).toNat + 256 * (b.getD 1 0).toNat + 65536 * (b.getD 2 0).toNat + 16777216 * (b.getD 3 0).toNat
def frameL (l:List UInt8):List UInt8:=Lib.uvarint l.length++(leL (crcOf l)++l)
/-- The frame at the front, and its bytes. -/
def readF (b:List UInt8):Option (List UInt8×Nat):=
 if (getL b).2=0∨65536 < (getL b).1∨b.length < (getL b).2 + 4 + (getL b).1 then none
 else if crcOf ((b.drop ((getL b).2 + 4)).take (getL b).1)=unL (b.drop (getL b).2) then some ((b.drop ((getL b).2 + 4)).take (getL b).1,(getL b).2 + 4 + (getL b).1) else none
theorem leL_len (s:Nat):(leL s).length=4:=rfl
theorem frameL_len (l:List UInt8):(frameL l).length=(Lib.uvarint l.length).length + 4 + l.length:=by
 unfold frameL
 rw [List.length_append,List.length_append,leL_len];omega
/-- The frames from the front on, and their bytes. -/
def scanF:Nat→List UInt8→List (List UInt8)×Nat
 | 0,_=>([],0)
 | k + 1,b=>match readF b with
  | none=>([],0)
  | some (x,n)=>(x :: (scanF k (b.drop n)).1,n + (scanF k (b.drop n)).2)
end Go.Proofs.YtambjickanapjaaGreatDoor.Vi
end
section
namespace Go.Proofs.YtambjickanapjaaGreatDoor.Vi
open Go.RowKit Base Mem Go.Shelf
def eBlob (e:EntryD):List UInt8:=Lib.uvarint (bytesE e).length++bytesE e
def putLog (es:List EntryD):List UInt8:=Lib.uvarint es.length++es.flatMap eBlob
/-- An entry that may be, of texts that are short. -/
def EOk (e:EntryD):Prop:=rightE e=0∧Short e∧Wf e
theorem ens_at {w:World} {M:List Nat} {v:Value} {l:List EntryD} (h:Ens w M v l) {k:Nat} (hk:k < l.length) :
  ∃ g off cap dv,v=.slice (some ⟨g,off,none⟩) l.length cap∧g < w.heap.size∧g∉M∧Ds w M dv l[k].ds∧∀ j u,(eCell (l[k],dv))[j]? = some u→w.cell? ⟨g,off + k * 9 + j,none⟩=some u:=by
 obtain ⟨ps,rfl,hr,hd⟩:=h
 have hk':k < ps.length:=by simpa using hk
 obtain ⟨g,off,cap,e,_,hg,hm,hx⟩:=Rd.at_ eCell 9 (fun _=>rfl) hr hk'
 refine ⟨g,off,cap,ps[k].2,by simpa using e,hg,hm,?_,?_⟩
 ·simpa using hd ps[k] (List.getElem_mem _)
 ·simpa using hx
end Go.Proofs.YtambjickanapjaaGreatDoor.Vi
end
section
namespace Go.Proofs.YtambjickanapjaaGreatDoor.Vi
open Go.RowKit Base Mem

end Go.Proofs.YtambjickanapjaaGreatDoor.Vi
end
section
namespace Go.Proofs.YtambjickanapjaaGreatDoor.Vi
open Go.RowKit Base Mem Tape

end Go.Proofs.YtambjickanapjaaGreatDoor.Vi
end
section
namespace Go.Proofs.YtambjickanapjaaGreatDoor.Sets
open Go.RowKit Base Mem Go.Shelf Go.Lib Go.Sort
theorem blk_setCells (g:Nat) (t:TypeId):∀ (vs pre mid suf:List Value) (o:Nat) (w:World),Blk w g t (pre++mid++suf).toArray→pre.length=o→mid.length=vs.length→Blk (w.setCells g o vs) g t (pre++vs++suf).toArray
 | [],pre,mid,suf,o,w,h,hp,hm=>by
  obtain rfl:mid=[]:=List.length_eq_zero_iff.1 (by simpa using hm)
  exact h
 | v :: r,pre,mid,suf,o,w,h,hp,hm=>by
  obtain ⟨m,ms,rfl⟩:∃ m ms,mid=m :: ms:=by
   cases mid with
   | nil=>simp at hm
   | cons m ms=>exact ⟨m,ms,rfl⟩
  have h1:=h.set_ o v
  have e:(pre++m :: ms++suf).toArray.setIfInBounds o v=((pre++[v])++ms++suf).toArray:=by
   subst hp
   rw [List.setIfInBounds_toArray,List.append_assoc,List.set_append_right _ _ (Nat.le_refl _),Nat.sub_self]
   simp
  rw [e] at h1
  have:=blk_setCells g t r (pre++[v]) ms suf (o + 1) _ h1 (by simp [hp]) (by simpa using hm)
  simpa [World.setCells] using this
theorem keeps_setCells {M:List Nat} {a:World} (g:Nat) (hg:g∈M∨a.heap.size≤g):∀ (vs:List Value) (o:Nat) (w:World),Keeps M a w→Keeps M a (w.setCells g o vs)
 | [],_,_,h=>h
 | v :: r,o,w,h=>keeps_setCells g hg r (o + 1) _ (h.setCell (p:=⟨g,o,none⟩) hg v)
def zI:Value:=.agg #[.int .i64 0,.int .i64 0,.int .i64 0]
def zIs (n:Nat):List Value:=(Builtin.zeroCells zI.cells n).toList
theorem zIs_len (n:Nat):(zIs n).length=n * 3:=by
 unfold zIs;rw [Array.length_toList,size_zeroCells];rfl
theorem zIs_one (n:Nat):∀ v∈zIs n,v.oneCell'=true:=by
 intro v hv
 simp only [zIs,Builtin.zeroCells,Array.toList_map,List.mem_map] at hv
 obtain ⟨i,_,rfl⟩:=hv
 show (#[Value.int .i64 0,.int .i64 0,.int .i64 0][i % 3]!).oneCell'=true
 rcases (show i % 3=0∨i % 3=1∨i % 3=2 by omega) with h | h | h <;> rw [h] <;> rfl
theorem run_clear_row {P:Program} (w:World) (t e ty:TypeId) (ht:P.underlying t=some (.slice e)) (hv:∀ w,(zeroValue e).run P w=.ok zI w) (b o n c:Nat) (hn:0 < n)
  (hc:∀ j,j < n * 3→(w.cell? ⟨b,o + j,none⟩).isSome=true) (hf:∀ j,j < n * 3→w.frozen? ⟨b,o + j,none⟩=false) :
  (Builtin.clear_ #[t] ty #[.slice (some ⟨b,o,none⟩) n c]).run P w=.ok (.tuple #[]) (w.setCells b o (zIs n)):=by
 have hst:=run_storeCells_cells (P:=P) b o (zIs n) 0 w (by simpa [zIs_len] using hc) (by simpa [zIs_len] using hf) (zIs_one n)
 simp only [Nat.add_zero] at hst
 unfold zIs at hst
 obtain ⟨m,rfl⟩:∃ m,n=m + 1:=⟨n - 1,by omega⟩
 simp [Builtin.clear_,run_underlying ht,hv,hst,zIs]
theorem flatK_list (l:List IdentD):flatK iEnc 3 l.toArray=(l.flatMap iEnc).toArray:=by
 refine ext_get! (by rw [size_flatK,List.size_toArray,List.size_toArray,iCells_len]) fun t ht=>?_
 have ht':t < l.length * 3:=by simpa using ht
 have hk:t / 3 < l.length:=by omega
 have hf:=flat_at iEnc 3 (fun _=>rfl) l (t / 3) (t % 3) hk (by omega)
 rw [show t / 3 * 3 + t % 3=t by omega] at hf
 have ht2:t < (l.flatMap iEnc).length:=by rw [iCells_len];exact ht'
 have hm:t % 3 < (iEnc l[t / 3]).length:=by show _ < 3;omega
 rw [List.getElem?_eq_getElem ht2,List.getElem?_eq_getElem hm] at hf
 injection hf with hf
 rw [get_flatK _ _ _ _ (by simpa using ht'),List.getElem!_toArray,List.getElem!_toArray,getElem!_pos (l.flatMap iEnc) t ht2,hf,getElem!_pos l (t / 3) hk,getElem!_pos (iEnc l[t / 3]) (t % 3) hm]
theorem blk_holds {w:World} {g:Nat} {t:TypeId} {l:List IdentD} {rest:List Value} (h:Blk w g t (l.flatMap iEnc++rest).toArray):HoldsK iEnc 3 w g 0 l.toArray:=by
 intro j hj
 rw [flatK_list] at hj ⊢
 have hj':j < (l.flatMap iEnc).length:=by simpa using hj
 rw [Nat.zero_add,h.cell,h.frozen]
 refine ⟨?_,rfl⟩
 rw [List.getElem?_toArray,List.getElem?_append_left hj',List.getElem!_toArray,getElem!_pos (l.flatMap iEnc) j hj',List.getElem?_eq_getElem hj']
 rfl
theorem blk_sorted {w:World} {g:Nat} {t:TypeId} {l l':List IdentD} {rest:List Value} (h:Blk w g t (l.flatMap iEnc++rest).toArray) (hl:l'.length=l.length) (n:Nat) (os:Array Obj) :
  Blk (sortWorldK iEnc 3 w g 0 n l'.toArray os) g t (l'.flatMap iEnc++rest).toArray:=by
 have hlt:=h.lt
 unfold Blk at h ⊢
 have hp:(putRowK iEnc 3 (Sort.ahead w n) g 0 l'.toArray).heap[g]? = some (.cells (putCells id 0 (flatK iEnc 3 l'.toArray) (l.flatMap iEnc++rest).toArray) t (0,0)):=by
  simp only [putRowK,putRow,mapBlock,Sort.ahead,Array.getElem?_modify,if_true,h,Option.map_some,onCells]
 have hs:g < (putRowK iEnc 3 (Sort.ahead w n) g 0 l'.toArray).heap.size:=by simpa [putRowK,Sort.ahead] using hlt
 show ((putRowK iEnc 3 (Sort.ahead w n) g 0 l'.toArray).heap++os)[g]? = _
 rw [Array.getElem?_append_left hs,hp]
 congr 2
 rw [flatK_list]
 have hz:l'.length * 3=l.length * 3:=by rw [hl]
 refine Array.ext_getElem? fun k=>?_
 simp only [putCells,Array.getElem?_mapIdx,List.getElem?_toArray,List.size_toArray,iCells_len,Nat.zero_le,Nat.zero_add,Nat.sub_zero,true_and]
 by_cases hk:k < l'.length * 3
 ·have h1:k < (l.flatMap iEnc).length:=by rw [iCells_len];omega
  have h2:k < (l'.flatMap iEnc).length:=by rw [iCells_len];omega
  rw [List.getElem?_append_left h1,List.getElem?_append_left h2,List.getElem?_eq_getElem h1,List.getElem?_eq_getElem h2,Option.map_some,if_pos hk,List.getElem!_toArray,getElem!_pos (l'.flatMap iEnc) k h2]
  rfl
 ·have h1:(l.flatMap iEnc).length≤k:=by rw [iCells_len];omega
  have h2:(l'.flatMap iEnc).length≤k:=by rw [iCells_len];omega
  rw [List.getElem?_append_right h1,List.getElem?_append_right h2,iCells_len,iCells_len,hz]
  simp only [if_neg (show ¬ k < l.length * 3 by omega)]
  exact Option.map_id'
theorem keeps_sorted (w:World) (g n:Nat) (d:Array IdentD) (os:Array Obj):Keeps [g] w (sortWorldK iEnc 3 w g 0 n d os):=by
 have hs:(putRowK iEnc 3 (Sort.ahead w n) g 0 d).heap.size=w.heap.size:=by simp [putRowK,Sort.ahead]
 refine ⟨rfl,rfl,rfl,?_,fun k hk hn=>?_⟩
 ·show _≤((putRowK iEnc 3 (Sort.ahead w n) g 0 d).heap++os).size
  rw [Array.size_append,hs];omega
 ·show ((putRowK iEnc 3 (Sort.ahead w n) g 0 d).heap++os)[k]? = _
  rw [Array.getElem?_append_left (by omega)]
  have hne:g≠k:=fun e=>hn (by simp [e])
  simp [putRowK,putRow,mapBlock,Sort.ahead,Array.getElem?_modify,hne]
end Go.Proofs.YtambjickanapjaaGreatDoor.Sets
end
section
namespace Go.Proofs.YtambjickanapjaaGreatDoor.Sets
open Go.RowKit Base Mem Go.Shelf Go.Lib
def CompPost (blk cap:Nat) (d:List IdentD) (w:World) (e:Ending) (w':World):Prop:=e=.returned (.slice (some ⟨blk,0,none⟩) (ded d).length cap)∧(∃ rest,Blk w' blk 33 ((ded d).flatMap iEnc++rest).toArray)∧Keeps [blk] w w'
theorem blk_ident {w:World} {g:Nat} {l:List IdentD} {rest:List Value} (h:Blk w g 33 (l.flatMap iEnc++rest).toArray) {k:Nat} (hk:k < l.length) :
  w.cell? ⟨g,k * 3,none⟩=some (.int .i64 l[k].ag)∧w.cell? ⟨g,k * 3 + 1,none⟩=some (.int .i64 l[k].sh)∧w.cell? ⟨g,k * 3 + 2,none⟩=some (.int .i64 l[k].seq):=by
 have hf:∀ j,j < 3→w.cell? ⟨g,k * 3 + j,none⟩=(iEnc l[k])[j]?:=fun j hj=>by
  rw [h.cell,List.getElem?_toArray,List.getElem?_append_left (by rw [iCells_len];omega),flat_at iEnc 3 (fun _=>rfl) l k j hk hj]
 exact ⟨hf 0 (by omega),hf 1 (by omega),hf 2 (by omega)⟩
theorem eql_run (a b:IdentD) (r:Bool) (h:eqI a b=r) (W:World):(binOp .eql 33 (.agg #[.int .i64 a.ag,.int .i64 a.sh,.int .i64 a.seq]) (.agg #[.int .i64 b.ag,.int .i64 b.sh,.int .i64 b.seq])).run Tryz.prog W=.ok (.bool r) W:=by
 rw [← h];exact eq_at.1 a b W
theorem neq_run (a b:IdentD) (r:Bool) (h:eqI a b=r) (W:World):(binOp .neq 33 (.agg #[.int .i64 a.ag,.int .i64 a.sh,.int .i64 a.seq]) (.agg #[.int .i64 b.ag,.int .i64 b.sh,.int .i64 b.seq])).run Tryz.prog W=.ok (.bool (!r)) W:=by
 subst h
 have u3:=Tryz.underlying3
 have a3:=Tryz.isAgg3
 have z3:=Tryz.sizeOf3
 have hS:Tryz.prog.underlying 33=some (.struct (Tryz.prog.fieldsOf 33)):=by kernel_rfl
 have hp:Tryz.prog.stoodInHeld 33=false:=by kernel_rfl
 simp only [eqI]
 rw [run_neq_struct,show (10000:Nat)=9999 + 1 from rfl,run_equalIn_agg W 9999 33 _ _ hS hp]
 simp only [Program.fieldsOf,Tryz.underlying33]
 go_simp
 by_cases h1:a.ag=b.ag <;> by_cases h2:a.sh=b.sh <;> by_cases h3:a.seq=b.seq <;> simp [h1,h2,h3]
theorem compact_any (blk cap:Nat) (d:List IdentD) (rest:List Value) (w:World) (hB:Blk w blk 33 (d.flatMap iEnc++rest).toArray) (hl:d.length≤2097152) (hc:d.length≤cap) (hcm:cap≤9223372036854775807) :
  Calls Tryz.prog 61 #[.slice (some ⟨blk,0,none⟩) d.length cap] w fun e w'=>CompPost blk cap d w e w':=by
 have HB:=Lib.hid hB
 clear hB
 go_enter Tryz.func61,Tryz.ntmps61
 by_cases h2:d.length < 2
 ·have hd:ded d=d:=by
   match d,h2 with
   | [],_=>rfl
   | [_],_=>rfl
  have hp:CompPost blk cap d w (.returned (.slice (some ⟨blk,0,none⟩) d.length cap)) w:=⟨by rw [hd],⟨rest,by rw [hd];exact HB.out⟩,Keeps.refl _ _⟩
  clear hd
  go_wp2
  go_ret
  exact hp
 ·go_wp2_with fail
  go_slots
  go_loopw [3] (fun i wr=>∃ x q:Nat,i=.int .i64 x∧1≤x∧x≤d.length∧Hid (ded (d.take x)=d.take x)∧wr=w.drewN q) (fun i _=>d.length - (intOf i).toNat)
  case atStart=>exact ⟨1,0,rfl,by omega,by omega,(by match d,h2 with | [],h=>exact absurd (by simp) h | a :: l,_=>rfl),rfl⟩
  case round=>
   obtain ⟨x,q,rfl,hx1,hx,Hd,rfl⟩:=hrel
   obtain ⟨y,rfl⟩:∃ y,x=y + 1:=⟨x - 1,by omega⟩
   by_cases hlt:y + 1 < d.length
   ·obtain ⟨a0,a1,a2⟩:=blk_ident HB.out (k:=y) (by omega)
    obtain ⟨b0,b1,b2⟩:=blk_ident HB.out (k:=y + 1) hlt
    have hst:=Lib.hid (ded_step d (y + 1) (by omega) hlt)
    simp only [Nat.add_sub_cancel] at hst
    generalize d[y]=p at *
    have hxy:((y + 1:Nat):Int) - 1=(y:Int):=by omega
    have hxl:((y + 1:Nat):Int) < (d.length:Int):=by omega
    by_cases heq:d[y + 1]=p
    ·have ht:=eql_run d[y + 1] p true (by rw [eqI_iff];simpa using heq)
     have Hd2:Hid (d.take (y + 1)=ded (d.take (y + 1 + 1))):=by show _=_;rw [hst.out,if_pos heq,Hd.out]
     generalize d[y + 1]=u at *
     subst heq
     go_wp2_with fail
     go_quiet (fail)
     go_wp2_with fail
     go_slots
     go_loopw [3,5] (fun kk tt wr=>∃ (m:List IdentD) (k t:Nat),kk=.int .i64 k∧tt=.int .i64 t∧1≤t∧y + 1 + t≤d.length∧k + 1≤y + 1 + t∧1≤k∧Hid (m.length=d.length)∧Hid (m.take k=ded (d.take (y + 1 + t)))∧Hid (∀ j,y + t≤j→m[j]? = d[j]?)∧Hid (Blk wr blk 33 (m.flatMap iEnc++rest).toArray)∧Hid (Keeps [blk] w wr)) (fun _ tt _=>d.length - (intOf tt).toNat)
     case atStart=>exact ⟨d,y + 1,1,by go_num,rfl,by omega,by omega,by omega,by omega,rfl,Hd2.out,fun _ _=>rfl,((Keeps.refl [] w).drewN _).blk HB.out (by simp),(Keeps.refl _ _).drewN _⟩
     case round=>
      obtain ⟨m,k,t,rfl,rfl,ht1,htd,hkt,hk1,Hml,Htk,Hag,HBr,HKr⟩:=hrel
      have hml:=Hml.out
      by_cases hlt2:y + 1 + t < d.length
      ·obtain ⟨t',rfl⟩:∃ t',t=t' + 1:=⟨t - 1,by omega⟩
       obtain ⟨a0,a1,a2⟩:=blk_ident HBr.out (k:=y + 1 + t') (by omega)
       obtain ⟨b0,b1,b2⟩:=blk_ident HBr.out (k:=y + 1 + (t' + 1)) (by omega)
       have e1:m[y + 1 + t']'(by omega)=d[y + 1 + t']'(by omega):=by
        have:=Hag.out (y + 1 + t') (by omega)
        rw [List.getElem?_eq_getElem (by omega),List.getElem?_eq_getElem (by omega)] at this
        injection this
       have e2:m[y + 1 + (t' + 1)]'(by omega)=d[y + 1 + (t' + 1)]'(by omega):=by
        have:=Hag.out (y + 1 + (t' + 1)) (by omega)
        rw [List.getElem?_eq_getElem (by omega),List.getElem?_eq_getElem (by omega)] at this
        injection this
       rw [e1,show (y + 1 + t') * 3=(y + 1) * 3 + t' * 3 by omega] at a0 a1 a2
       rw [e2,show (y + 1 + (t' + 1)) * 3=(y + 1) * 3 + (t' + 1) * 3 by omega] at b0 b1 b2
       have hst2:=ded_step d (y + 1 + (t' + 1)) (by omega) hlt2
       simp only [show y + 1 + (t' + 1) - 1=y + 1 + t' by omega] at hst2
       have Hst2:=Lib.hid hst2
       clear e1 e2 hst2
       by_cases hqe:d[y + 1 + (t' + 1)]=d[y + 1 + t']
       ·have Htk2:Hid (m.take k=ded (d.take (y + 1 + (t' + 1 + 1)))):=by show _=_;rw [← Nat.add_assoc (y + 1) (t' + 1) 1,Hst2.out,if_pos hqe];exact Htk.out
        have Hag2:Hid (∀ j,y + (t' + 1 + 1)≤j→m[j]? = d[j]?):=fun j hj=>Hag.out j (by omega)
        rw [hqe] at b0 b1 b2
        generalize d[y + 1 + t']=p' at *
        go_wp2_with fail
        go_quiet (fail)
        go_wp2
        go_roundw
        case rel=>exact ⟨m,k,t' + 1 + 1,rfl,by go_num,by omega,by omega,by omega,hk1,Hml,Htk2,Hag2,((Keeps.refl [] wr).drewN _).blk HBr.out (by simp),HKr.out.drewN _⟩
        case measure=>simp [intOf] <;> omega
       ·have hn:=neq_run d[y + 1 + (t' + 1)] d[y + 1 + t'] false (by rw [eqI_iff];simpa using hqe)
        simp only [Bool.not_false] at hn
        have Htk1:Hid (ded (d.take (y + 1 + (t' + 1 + 1)))=ded (d.take (y + 1 + (t' + 1)))++[d[y + 1 + (t' + 1)]]):=by show _=_;rw [← Nat.add_assoc (y + 1) (t' + 1) 1,Hst2.out,if_neg hqe]
        generalize d[y + 1 + t']=p' at *
        generalize d[y + 1 + (t' + 1)]=u' at *
        have hkl:(k:Int) < (d.length:Int):=by omega
        have f0:=HBr.out.frozen (k * 3);have f1:=HBr.out.frozen (k * 3 + 1);have f2:=HBr.out.frozen (k * 3 + 2)
        obtain ⟨s0,s1,s2⟩:=blk_ident HBr.out (k:=k) (by omega)
        go_wp2_with fail
        go_quiet (fail)
        have hkm:k < m.length:=by omega
        have hB6:Hid (Blk ((((wr.drewN nq).setCell ⟨blk,k * 3,none⟩ (.int .i64 u'.ag)).setCell ⟨blk,k * 3 + 1,none⟩ (.int .i64 u'.sh)).setCell ⟨blk,k * 3 + 2,none⟩ (.int .i64 u'.seq)) blk 33 ((m.set k u').flatMap iEnc++rest).toArray):=by
         have h:=(((((Keeps.refl [] wr).drewN nq).blk HBr.out (by simp)).set_ (k * 3) (.int .i64 u'.ag)).set_ (k * 3 + 1) (.int .i64 u'.sh)).set_ (k * 3 + 2) (.int .i64 u'.seq)
         show Blk _ _ _ _
         rw [← set_flat m k u' rest hkm]
         simpa only [List.setIfInBounds_toArray] using h
        have hK6:Hid (Keeps [blk] w ((((wr.drewN nq).setCell ⟨blk,k * 3,none⟩ (.int .i64 u'.ag)).setCell ⟨blk,k * 3 + 1,none⟩ (.int .i64 u'.sh)).setCell ⟨blk,k * 3 + 2,none⟩ (.int .i64 u'.seq))):=
         (((HKr.out.drewN nq).setCell (by simp) _).setCell (by simp) _).setCell (by simp) _
        have Htk2:Hid ((m.set k u').take (k + 1)=ded (d.take (y + 1 + (t' + 1 + 1)))):=by
         show _=_
         rw [Htk1.out,← Htk.out,List.take_succ_eq_append_getElem (by simpa using hkm),List.getElem_set_self,List.take_set_of_le (Nat.le_refl _)]
        have Hag2:Hid (∀ j,y + (t' + 1 + 1)≤j→(m.set k u')[j]? = d[j]?):=fun j hj=>by
         rw [List.getElem?_set_ne (by omega)]
         exact Hag.out j (by omega)
        have Hml2:Hid ((m.set k u').length=d.length):=by show _=_;rw [List.length_set];exact Hml.out
        go_wp2
        go_roundw
        case rel=>exact ⟨m.set k u',k + 1,t' + 1 + 1,by go_num,by go_num,by omega,by omega,by omega,by omega,Hml2,Htk2,Hag2,hB6,hK6⟩
        case measure=>simp [intOf] <;> omega
      ·have hxe:y + 1 + t=d.length:=by omega
       have hfin:Hid (m.take k=ded d):=by show _=_;rw [Htk.out,hxe,List.take_length]
       have hkn:k < d.length:=by omega
       have hkl:(k:Int) < (d.length:Int):=by omega
       have hlen:Hid ((ded d).length=k):=by show _=_;rw [← hfin.out,List.length_take];omega
       have hp:Hid (CompPost blk cap d w (.returned (.slice (some ⟨blk,0,none⟩) k cap)) (wr.setCells blk (k * 3) (zIs (d.length - k)))):=by
        refine ⟨by rw [hlen.out],⟨zIs (d.length - k)++rest,?_⟩,keeps_setCells blk (by simp) _ _ _ HKr.out⟩
        rw [← hfin.out,← List.append_assoc]
        refine blk_setCells blk _ (zIs (d.length - k)) ((m.take k).flatMap iEnc) ((m.drop k).flatMap iEnc) rest (k * 3) wr ?_ (by rw [iCells_len,List.length_take];omega) (by rw [iCells_len,List.length_drop,zIs_len];omega)
        rw [← List.flatMap_append,List.take_append_drop]
        exact HBr.out
       have hcl:=fun ty=>run_clear_row (P:=Tryz.prog) wr 29 33 ty Tryz.underlying29 Tryz.zeroValue33 blk (k * 3) (d.length - k) (cap - k) (by omega)
        (fun j hj=>by rw [HBr.out.cell,List.getElem?_toArray,List.getElem?_eq_getElem (by rw [List.length_append,iCells_len];omega)];rfl) (fun j _=>HBr.out.frozen _)
       clear hml
       go_wp2
       go_ret
       exact hp.out
    ·have hf:=eql_run d[y + 1] p false (by rw [eqI_iff];simpa using heq)
     have Hd2:Hid (ded (d.take (y + 1 + 1))=d.take (y + 1 + 1)):=by show _=_;rw [hst.out,if_neg heq,Hd.out,List.take_succ_eq_append_getElem hlt]
     generalize d[y + 1]=u at *
     go_wp2_with fail
     go_quiet (fail)
     go_wp2
     go_roundw
     case rel=>exact ⟨y + 1 + 1,_,by go_num,by omega,by omega,Hd2,rfl⟩
     case measure=>simp [intOf] <;> omega
   ·have hxe:y + 1=d.length:=by omega
    have hd:ded d=d:=by have:=Hd.out;rwa [hxe,List.take_length] at this
    have hp:CompPost blk cap d w (.returned (.slice (some ⟨blk,0,none⟩) d.length cap)) (w.drewN q):=⟨by rw [hd],⟨rest,by rw [hd];exact ((Keeps.refl [] w).drewN q).blk HB.out (by simp)⟩,(Keeps.refl _ _).drewN q⟩
    have d1:decide (((y + 1:Nat):Int) < (d.length:Int))=false:=decide_eq_false (by omega)
    clear hd
    go_wp2
    go_ret
    exact hp
end Go.Proofs.YtambjickanapjaaGreatDoor.Sets
end
section
namespace Go.Proofs.YtambjickanapjaaGreatDoor.Sets
open Go.RowKit Base Mem Go.Shelf Go.Lib Go.Sort
/-- What a union answers: a row of its own, of each once, in order. -/
def UniPost (l:List IdentD) (w:World) (e:Ending) (w':World):Prop:=∃ v,e=.returned v∧(∀ M,(∀ g∈M,g < w.heap.size)→Ids w' M v (uni l))∧Below w.heap.size w w'
theorem ids_of_blk {w:World} {g:Nat} {l:List IdentD} {rest:List Value} {M:List Nat} (h:Blk w g 33 (l.flatMap iEnc++rest).toArray) (hg:g∉M):Ids w M (.slice (some ⟨g,0,none⟩) l.length l.length) l:=
 ⟨_,_,rfl,Nat.le_refl _,iCells_len l,fun _=>⟨g,0,rfl,h.lt,hg,fun j u hu=>by
  rw [Nat.zero_add,h.cell,List.getElem?_toArray,List.getElem?_append_left (List.getElem?_eq_some_iff.1 hu).1];exact hu⟩⟩
theorem compact_short (A:Option Addr) (n cap:Nat) (w:World) (h:n < 2) :
  Calls Tryz.prog 61 #[.slice A n cap] w fun e w'=>e=.returned (.slice A n cap)∧w=w':=by
 go_enter Tryz.func61,Tryz.ntmps61
 go_wp2
 go_ret
 exact ⟨rfl,rfl⟩
/-- A row of the call's own that has something: a block. -/
theorem own_blk {w:World} {base:Nat} {v:Value} {l:List IdentD} (h:w.ownsRow base 33 3 v l.length (l.flatMap iEnc)) (h0:0 < l.length) :
  ∃ g cap rest,v=.slice (some ⟨g,0,none⟩) l.length cap∧base≤g∧l.length≤cap∧cap≤maxLen∧Blk w g 33 (l.flatMap iEnc++rest).toArray:=by
 obtain ⟨_,h⟩:=h
 rcases h with ⟨_,hn⟩ | ⟨g,cap,cur,rfl,hb,hg,hnc,hcm,_,htk⟩
 ·omega
 ·refine ⟨g,cap,cur.toList.drop (l.length * 3),rfl,hb,hnc,hcm,?_⟩
  rw [← htk,List.take_append_drop]
  exact hg
theorem own_none {w:World} {base:Nat} {v:Value} {xs:List Value} (h:w.ownsRow base 33 3 v 0 xs):∃ A cap,v=.slice A 0 cap:=by
 obtain ⟨_,h⟩:=h
 rcases h with ⟨rfl,_⟩ | ⟨g,cap,cur,rfl,_⟩
 ·exact ⟨_,_,rfl⟩
 ·exact ⟨_,_,rfl⟩
def SortPost (g cap:Nat) (d:List IdentD) (rest:List Value) (w:World) (e:Ending) (w':World):Prop:=
 e=.returned (.tuple #[])∧Blk w' g 33 ((d.mergeSort le).flatMap iEnc++rest).toArray∧Keeps [g] w w'
theorem sort_blk (g cap:Nat) (d:List IdentD) (rest:List Value) (w:World) (h:Blk w g 33 (d.flatMap iEnc++rest).toArray) (hd:d.length < 4611686018427387904) :
  Calls Tryz.prog 58 #[.slice (some ⟨g,0,none⟩) d.length cap,.func (.func 59) #[] #[]] w (SortPost g cap d rest w):=by
 have hs:=sort_any g 0 cap d.toArray w (blk_holds h) h.lt (by simpa using hd)
 rw [List.size_toArray] at hs
 refine hs.mono ?_
 rintro e w' ⟨rfl,n,os,rfl⟩
 refine ⟨rfl,blk_sorted h (List.length_mergeSort _) n os,keeps_sorted w g n _ os⟩
theorem union_any (va vb:Value) (la lb:List IdentD) (w:World) (ha:Ids w [] va la) (hb:Ids w [] vb lb) (hla:la.length≤1048576) (hlb:lb.length≤1048576) :
  Calls Tryz.prog 21 #[va,vb] w fun e w'=>UniPost (la++lb) w e w':=by
 have hk:Keeps [] w (w.alloc (.cells #[va,vb] 29)):=(Keeps.refl _ _).alloc _
 have hcon:=concat_any w.heap.size va vb la lb (w.alloc (.cells #[va,vb] 29)) (ha.keep hk (by simp)) (hb.keep hk (by simp)) hla hlb (by simp) ((Blk.new w _ _).cell 0) ((Blk.new w _ _).cell 1)
 have Hcon:=Lib.hid hcon
 obtain ⟨Aa,ca,rfl,hca⟩:=ha.len
 obtain ⟨Ab,cb,rfl,hcb⟩:=hb.len
 clear ha hb hk hcon
 have hnone:=fun A cap W=>AnyF.slices_SortFunc_none Tryz.sortIdent A cap (.func (.func 59) #[] #[]) W
 have Hnone:=Lib.hid hnone
 clear hnone
 go_enter Tryz.func21,Tryz.ntmps21
 go_wp2_with fail
 refine Hcon.out.mono ?_
 rintro e w1 ⟨v,rfl,hown,hb1⟩
 have hd:la.length + lb.length=(la++lb).length:=by simp
 rw [hd] at hown
 generalize hl:la++lb=l at *
 have hlen:l.length≤2097152:=by omega
 have Hb1:=Lib.hid (below_then ((Below.refl _ _).alloc (Nat.le_refl _) _) hb1)
 have Hown:=Lib.hid hown
 have Hl:=Lib.hid hl
 clear hown hb1 hl hd Hcon
 rcases Nat.eq_zero_or_pos l.length with h0 | h0
 ·obtain rfl:l=[]:=List.length_eq_zero_iff.1 h0
  obtain ⟨A,cap,rfl⟩:=own_none Hown.out
  go_wp2_with fail
  refine (Hnone.out A cap _).mono ?_
  rintro e w' ⟨rfl,rfl⟩
  go_wp2_with fail
  refine (compact_short A 0 cap _ (by omega)).mono ?_
  rintro e w' ⟨rfl,rfl⟩
  go_wp2_with fail
  refine (clipIdent A 0 cap _ (by omega)).mono ?_
  rintro e w' ⟨rfl,rfl⟩
  have hp:Hid (UniPost (la++lb) w (.returned (.slice A 0 0)) w'):=by
   show UniPost _ _ _ _
   rw [Hl.out]
   have hu:uni []=[]:=by simp [uni,ded]
   refine ⟨_,rfl,fun M _=>?_,Hb1.out⟩
   rw [hu]
   exact ⟨A,0,rfl,Nat.le_refl _,rfl,fun h=>absurd h (by simp)⟩
  go_wp2
  go_ret
  exact hp.out
 ·obtain ⟨g,cap,rest,rfl,hg,hcap,hcm,hB⟩:=own_blk Hown.out h0
  have HB:=Lib.hid hB
  have Hg:=Lib.hid (show w.heap.size < g by simp at hg;omega)
  clear hB hg
  have hcm':cap≤9223372036854775807:=by unfold maxLen at hcm;omega
  go_wp2_with fail
  refine (sort_blk g cap l rest _ HB.out (by omega)).mono ?_
  rintro e w2 ⟨rfl,hB2,hk2⟩
  have HB2:=Lib.hid hB2;have Hk2:=Lib.hid hk2
  clear hB2 hk2
  generalize hs:l.mergeSort le=s at HB2
  have Hsl:=Lib.hid (show s.length=l.length by rw [← hs];exact List.length_mergeSort _)
  have Hs:=Lib.hid hs
  clear hs
  have hc:Calls Tryz.prog 61 #[.slice (some ⟨g,0,none⟩) l.length cap] w2 fun e w'=>CompPost g cap s w2 e w':=by
   have:=compact_any g cap s rest w2 HB2.out (by rw [Hsl.out];exact hlen) (by rw [Hsl.out];exact hcap) hcm'
   rwa [Hsl.out] at this
  have Hc:=Lib.hid hc
  clear hc
  go_wp2_with fail
  refine Hc.out.mono ?_
  rintro e w3 ⟨rfl,⟨rest3,hB3⟩,hk3⟩
  have HB3:=Lib.hid hB3;have Hk3:=Lib.hid hk3
  clear hB3 hk3
  have hle:(ded s).length≤cap:=by have:=ded_le s;rw [Hsl.out] at this;omega
  generalize hds:ded s=ds at *
  have Hds:=Lib.hid hds
  clear hds
  go_wp2_with fail
  refine (clipIdent _ _ cap _ hle).mono ?_
  rintro e w' ⟨rfl,rfl⟩
  have hp:Hid (UniPost (la++lb) w (.returned (.slice (some ⟨g,0,none⟩) ds.length ds.length)) w3):=by
   show UniPost _ _ _ _
   have hu:uni (la++lb)=ds:=by rw [Hl.out,← Hds.out,← Hs.out];rfl
   refine ⟨_,rfl,fun M hM=>?_,?_⟩
   ·rw [hu]
    exact ids_of_blk HB3.out (fun hm=>by have:=hM _ hm;have:=Hg.out;omega)
   ·have hk13:Keeps [g] w1 w3:=Hk2.out.trans Hk3.out (by simp)
    exact Hb1.out.trans (hk13.belowB Hb1.out.size (by intro g' hg';simp at hg';subst hg';have:=Hg.out;omega))
  go_wp2
  go_ret
  exact hp.out
end Go.Proofs.YtambjickanapjaaGreatDoor.Sets
end
section
namespace Go.Proofs.YtambjickanapjaaGreatDoor.Vi
open Go.RowKit Base Mem Tape Sets
theorem eltIdent:Elt Tryz.prog 29 33 3 24:=⟨by kernel_rfl,⟨_,infoIdent,rfl⟩,by omega⟩
theorem RnSt.keepM {w W W':World} {g:Nat} {X M:List Nat} {st:McD} {i:Nat} {mx:Int} (h:RnSt w W g X st i mx) (hk:Keeps M W W') (hM:∀ x∈M,x∉X∧w.heap.size≤x):RnSt w W' g X st i mx:=
 ⟨h.mc.keep hk (fun x hx hm=>(hM x hm).1 hx),fun x hx=>Nat.lt_of_lt_of_le (h.lt x hx) hk.size,h.old,h.kp.trans hk (fun x hx=>.inr (hM x hx).2),h.rd,h.cm⟩
/-- What Counted is, a row on the way. -/
structure CoSt (w W:World) (g:Nat) (X:List Nat) (l:List EntryD) (x:Nat) (mx:Int) (out:Value):Prop where
 rn:RnSt w W g X (machM mc0 (l.take x)) x mx
 own:W.ownsRow w.heap.size 33 3 out (ackM mc0 (l.take x)).length ((ackM mc0 (l.take x)).flatMap iEnc)
 far:∀ g',out.ownBlock=some g'→g'∉X
theorem CoSt.no {w W:World} {g:Nat} {X:List Nat} {l:List EntryD} {x:Nat} {mx code n:Int} {st1:McD} {out:Value} {e:EntryD} (ht:l.take (x + 1)=l.take x++[e]) (hr:applyM (machM mc0 (l.take x)) (pk e.ag e.sh) e=(code,n,st1)) (hc:code≠1) (hrn:RnSt w W g X st1 (x + 1) mx)
  (own:W.ownsRow w.heap.size 33 3 out (ackM mc0 (l.take x)).length ((ackM mc0 (l.take x)).flatMap iEnc)) (far:∀ g',out.ownBlock=some g'→g'∉X):CoSt w W g X l (x + 1) mx out:=by
 have h1:machM mc0 (l.take (x + 1))=st1:=by rw [ht,machM_snoc,hr]
 have h2:ackM mc0 (l.take (x + 1))=ackM mc0 (l.take x):=by rw [ht,ackM_snoc,hr,if_neg hc,List.append_nil]
 exact ⟨by rw [h1];exact hrn,by rw [h2];exact own,far⟩
theorem CoSt.yes {w W:World} {g:Nat} {X:List Nat} {l:List EntryD} {x:Nat} {mx n:Int} {st1:McD} {out:Value} {e:EntryD} (ht:l.take (x + 1)=l.take x++[e]) (hr:applyM (machM mc0 (l.take x)) (pk e.ag e.sh) e=(1,n,st1)) (hrn:RnSt w W g X st1 (x + 1) mx)
  (own:W.ownsRow w.heap.size 33 3 out ((ackM mc0 (l.take x)).length + 1) ((ackM mc0 (l.take x)).flatMap iEnc++iEnc (idE e))) (far:∀ g',out.ownBlock=some g'→g'∉X):CoSt w W g X l (x + 1) mx out:=by
 have h1:machM mc0 (l.take (x + 1))=st1:=by rw [ht,machM_snoc,hr]
 have h2:ackM mc0 (l.take (x + 1))=ackM mc0 (l.take x)++[idE e]:=by rw [ht,ackM_snoc,hr,if_pos rfl]
 exact ⟨by rw [h1];exact hrn,by rw [h2,List.flatMap_append,List.length_append];simpa using own,far⟩
def CoPost (l:List EntryD) (w:World) (e:Ending) (w':World):Prop:=∃ v,e=.returned v∧(∀ M,(∀ g∈M,g < w.heap.size)→Ids w' M v (cntM l))∧Keeps [] w w'
theorem counted_any (v:Value) (l:List EntryD) (mx:Int) (w:World) (hE:Ens w [] v l) (hok:∀ e∈l,EntryOk e) (hl:l.length≤100) (hm:w.cell? ⟨0,0,none⟩=some (.int .i64 mx)) :
  Calls Tryz.prog 8 #[v] w fun e w'=>CoPost l w e w':=by
 have hw0:0 < w.heap.size:=by
  have:=World.block_lt_of_cell? w _ hm
  simpa using this
 have Hm:Hid (∀ W,Keeps [] w W→W.cell? ⟨0,0,none⟩=some (.int .i64 mx)):=fun W hk=>hk.c hm
 have HE0:=Lib.hid hE
 have Hok:=Lib.hid hok
 obtain ⟨A,c,rfl,hcc⟩:=hE.len
 clear hE hm hok
 go_enter Tryz.func8,Tryz.ntmps8
 go_wp2_with fail
 refine (mcnew_any w).mono ?_
 rintro e w1 ⟨g,X0,rfl,hmc0,hx0,hb1⟩
 obtain ⟨X,hmc,hxx,hlt⟩:=mc0_core hmc0
 have HS0:Hid (CoSt w w1 g X l 0 mx (.slice none 0 0)):=⟨⟨hmc,hlt,fun x hx=>hx0 _ (hxx _ hx),Keeps.of_below (M:=[]) hb1,rd_start,Hm.out⟩,World.ownsRow_nil _ _ _ _,by simp [Value.ownBlock]⟩
 have HEb:Hid (∀ W X,Keeps [] w W→(∀ x∈X,w.heap.size≤x)→Ens W X (.slice A l.length c) l):=fun W X hk hX=>(HE0.out.avoid (fun x hx=>.inr (hX x hx))).keep hk (by simp)
 clear hmc0 hmc hxx hlt hb1 hx0 HE0
 go_wp2_with fail
 go_loopw [4,12] (fun out i wr=>∃ (x:Nat) (X:List Nat),i=.int .i64 x∧x≤l.length∧Hid (CoSt w wr g X l x mx out)) (fun _ i _=>l.length - (intOf i).toNat)
 case atStart=>exact ⟨0,X,rfl,by omega,HS0⟩
 case round=>
  obtain ⟨x,X,rfl,hx,HS⟩:=hrel
  clear HS0
  have Hal:=Lib.hid (ackM_length mc0 (l.take x))
  by_cases hlx:x < l.length
  ·have hx1:(x:Int) < (l.length:Int):=by omega
   obtain ⟨ge,off,cap,dv,e1,hge,hgX,hds,hcell⟩:=ens_at (HEb.out wr X HS.out.rn.kp HS.out.rn.old) hlx
   obtain rfl:A=some ⟨ge,off,none⟩:=by injection e1
   clear e1
   have hoke:=Hok.out l[x] (List.getElem_mem _)
   obtain ⟨j1,j2,j3,j4,j5,j6,j7⟩:=entry_i64 hoke
   have hsh:=(entry_right hoke).2.1
   obtain ⟨Ad,cd,rfl,_⟩:=hds.len
   have HT1:Hid (l.take (x + 1)=l.take x++[l[x]]):=by show _=_;rw [List.take_add_one,List.getElem?_eq_getElem hlx];rfl
   generalize hee:l[x]=e at *
   have HAp:Hid (∀ W X' st' i,RnSt w W g X' st' i mx→i≤1000→Ds W X' (.slice Ad e.ds.length cd) e.ds→Calls Tryz.prog 20 #[.pointer (some ⟨g,0,none⟩),.agg (eCell (e,.slice Ad e.ds.length cd)).toArray] W fun r W'=>RnA w W g X' (applyM st' (pk e.ag e.sh) e) (i + 1) mx r W'):=fun W X' st' i h1 h2 h3=>h1.apply h2 e _ j1 j2 j3 j4 h3 j5 j6 j7 hsh
   have HDs:=Lib.hid hds
   clear hds hoke j1 j2 j3 j4 j5 j6 j7 hsh hee
   have p0:=hcell 0 _ rfl;have p1:=hcell 1 _ rfl;have p2:=hcell 2 _ rfl;have p3:=hcell 3 _ rfl;have p4:=hcell 4 _ rfl;have p5:=hcell 5 _ rfl;have p6:=hcell 6 _ rfl;have p7:=hcell 7 _ rfl;have p8:=hcell 8 _ rfl
   rw [Nat.add_zero] at p0
   clear hcell
   obtain ⟨gE,HgE⟩:∃ gE,Hid (gE=wr.heap.size):=⟨_,rfl⟩
   have HBE:=Lib.hid (Blk.new wr 36 #[.int .i64 e.kind,.int .i64 e.ag,.int .i64 e.sh,.int .i64 e.seq,.int .i64 e.ep,.slice Ad e.ds.length cd,.string e.ser,.int .i64 e.fr,.int .i64 e.tag])
   have hka:Keeps [] wr (wr.alloc (.cells #[.int .i64 e.kind,.int .i64 e.ag,.int .i64 e.sh,.int .i64 e.seq,.int .i64 e.ep,.slice Ad e.ds.length cd,.string e.ser,.int .i64 e.fr,.int .i64 e.tag] 36)):=(Keeps.refl _ _).alloc _
   have HRa:=Lib.hid (HS.out.rn.keep hka)
   have HOa:=Lib.hid (own_other2 HS.out.own hka (by simp))
   have HFa:=Lib.hid HS.out.far
   have HLa:Hid (∀ g',u4.ownBlock=some g'→g' < wr.heap.size):=fun g' hg'=>(HS.out.own.lt g' hg').2
   have HDa:=Lib.hid (HDs.out.keep hka (by simp))
   have HnE:Hid (gE∉X):=fun hm=>absurd (HS.out.rn.lt gE hm) (by rw [HgE.out];exact Nat.lt_irrefl _)
   clear hka HS HDs
   go_upto_region 6 with (fail)
   clear p0 p1 p2 p3 p4 p5 p6 p7 p8
   have HLb:Hid (∀ g',u4.ownBlock=some g'→g' < (wr.alloc (.cells #[.int .i64 e.kind,.int .i64 e.ag,.int .i64 e.sh,.int .i64 e.seq,.int .i64 e.ep,.slice Ad e.ds.length cd,.string e.ser,.int .i64 e.fr,.int .i64 e.tag] 36)).heap.size∧g'≠gE):=fun g' hg'=>by
    have:=HLa.out g' hg'
    have:=HgE.out
    rw [World.size_alloc]
    omega
   clear HLa
   generalize wr.alloc (.cells #[.int .i64 e.kind,.int .i64 e.ag,.int .i64 e.sh,.int .i64 e.seq,.int .i64 e.ep,.slice Ad e.ds.length cd,.string e.ser,.int .i64 e.fr,.int .i64 e.tag] 36)=wa at *
   rw [← HgE.out] at HBE ⊢
   clear HgE
   have hb3:=HBE.out
   have c0:=hb3.cell 0;have c1:=hb3.cell 1;have c2:=hb3.cell 2;have c3':=hb3.cell 3;have c4:=hb3.cell 4;have c5:=hb3.cell 5;have c6:=hb3.cell 6;have c7:=hb3.cell 7;have c8:=hb3.cell 8
   simp only [List.getElem?_toArray,List.getElem?_cons_succ,List.getElem?_cons_zero] at c0 c1 c2 c3' c4 c5 c6 c7 c8
   clear hb3
   have HAp3:=Lib.hid (HAp.out wa X _ x HRa.out (by omega) HDa.out)
   simp only [eCell] at HAp3
   go_wp2_with fail
   refine HAp3.out.mono ?_
   rintro r w4 ⟨rfl,X4,hS4,hx4,hk4⟩
   have HR4:=Lib.hid hS4
   have HB4:=Lib.hid (hk4.blk HBE.out HnE.out)
   have HO4:=Lib.hid (own_other2 HOa.out hk4 HFa.out)
   have HF4:Hid (∀ g',u4.ownBlock=some g'→g'∉X4∧w.heap.size≤g'∧g'≠gE):=fun g' hg'=>⟨fun hm=>by
    rcases hx4 g' hm with h | h
    ·exact HFa.out g' hg' h
    ·have:=(HLb.out g' hg').1;omega,(HOa.out.lt g' hg').1,(HLb.out g' hg').2⟩
   have HnE4:Hid (gE∉X4):=fun hm=>by
    rcases hx4 gE hm with h | h
    ·exact HnE.out h
    ·exact absurd HBE.out.lt (Nat.not_lt.2 h)
   clear hS4 hx4 hk4 HRa HDa HBE HnE HAp HAp3 c0 c1 c2 c3' c4 c5 c6 c7 c8 HOa HFa HLb
   obtain ⟨rr,Hrr⟩:∃ rr,Hid (applyM (machM mc0 (l.take x)) (pk e.ag e.sh) e=rr):=⟨_,rfl⟩
   rw [Hrr.out] at HR4 ⊢
   obtain ⟨code,n,st1⟩:=rr
   simp only [] at HR4
   by_cases hc1:code=1
   ·subst hc1
    have hb4:=HB4.out
    have c1:=hb4.cell 1;have c2:=hb4.cell 2;have c3':=hb4.cell 3
    simp only [List.getElem?_toArray,List.getElem?_cons_succ,List.getElem?_cons_zero] at c1 c2 c3'
    have hw4:=hb4.lt
    have hwl:w.heap.size≤w4.heap.size:=HR4.out.kp.size
    clear hb4
    go_upto_region 8 with (fail)
    have hal:(ackM mc0 (l.take x)).length≤100:=by have h1:=Hal.out;have h2:=List.length_take_le x l;omega
    go_wp2_with (at_builtin;refine ap1 eltIdent (.tmp 24) (.tmp 27) HO4.out hwl (fun v' w5 hown5 hg5 hat5=>?_))
    have hk5:Keeps u4.ownBlock.toList w4 w5:=(Keeps.refl _ _).grown hg5 (fun g hg=>.inl (by simp [hg]))
    have hS5 : CoSt w w5 g X4 l (x + 1) mx v' := CoSt.yes HT1.out Hrr.out (HR4.out.keepM hk5 (fun g' hg' => by have := HF4.out g' (by simpa using hg'); exact ⟨this.1, this.2.1⟩)) hown5 (fun g' hg' hm => by
     have hlt4:=HR4.out.lt g' hm
     rcases hat5 with h | h | h
     ·exact (HF4.out g' (h ▸ hg')).1 hm
     ·rw [h] at hg';injection hg' with hg';omega
     ·rw [h] at hg'; injection hg' with hg'; omega)
    have HS5:=Lib.hid hS5
    clear hS5 hk5 hown5 hg5 hat5 hal hw4 hwl HO4 HR4 HF4 HnE4 HB4 c1 c2 c3' HT1
    go_wp2_with fail
    go_roundw
    case rel=>exact ⟨x + 1,X4,by go_num,by omega,HS5⟩
    case measure=>simp [intOf] <;> omega
   ·have hci:(code == 1)=false:=by simpa using hc1
    have HS5:Hid (CoSt w w4 g X4 l (x + 1) mx u4):=CoSt.no HT1.out Hrr.out hc1 HR4.out HO4.out (fun g' hg'=>(HF4.out g' hg').1)
    clear HO4 HR4 HF4 HnE4 HB4 HT1 hc1
    go_wp2_with fail
    go_roundw
    case rel=>exact ⟨x + 1,X4,by go_num,by omega,HS5⟩
    case measure=>simp [intOf] <;> omega
  ·obtain rfl:x=l.length:=by omega
   have hu:=union_any u4 (.slice none 0 0) (ackM mc0 (l.take l.length)) [] wr (Rd.of_own HS.out.own (by simp)) ⟨none,0,rfl,Nat.le_refl _,rfl,fun h=>absurd h (by simp)⟩ (by have:=Hal.out;have:=List.length_take_le l.length l;omega) (by simp)
   have Hu:=Lib.hid hu
   have Hk:=Lib.hid HS.out.rn.kp
   clear HS hu
   go_wp2_with fail
   refine Hu.out.mono ?_
   rintro r w3 ⟨v,rfl,hI,hb3⟩
   have hP:Hid (CoPost l w (.returned v) w3):=⟨v,rfl,fun M hM=>by
    have h1:=hI M (fun g hg=>Nat.lt_of_lt_of_le (hM g hg) Hk.out.size)
    rw [List.append_nil,List.take_length] at h1
    exact h1,Hk.out.trans (Keeps.of_below (M:=[]) hb3) (by simp)⟩
   clear hI hb3
   go_wp2
   go_ret
   exact hP.out
def FoPost (l:List EntryD) (mx:Int) (w:World) (e:Ending) (w':World):Prop:=∃ g X,e=.returned (.pointer (some ⟨g,0,none⟩))∧RnSt w w' g X (machM mc0 l) l.length mx
theorem fold_any (v:Value) (l:List EntryD) (mx:Int) (w:World) (hE:Ens w [] v l) (hok:∀ e∈l,EntryOk e) (hl:l.length≤100) (hm:w.cell? ⟨0,0,none⟩=some (.int .i64 mx)) :
  Calls Tryz.prog 73 #[v] w fun e w'=>FoPost l mx w e w':=by
 have Hm:Hid (∀ W,Keeps [] w W→W.cell? ⟨0,0,none⟩=some (.int .i64 mx)):=fun W hk=>hk.c hm
 have HE0:=Lib.hid hE
 have Hok:=Lib.hid hok
 obtain ⟨A,c,rfl,hcc⟩:=hE.len
 clear hE hm hok
 go_enter Tryz.func73,Tryz.ntmps73
 go_wp2_with fail
 refine (mcnew_any w).mono ?_
 rintro e w1 ⟨g,X0,rfl,hmc0,hx0,hb1⟩
 obtain ⟨X,hmc,hxx,hlt⟩:=mc0_core hmc0
 have HS0:Hid (RnSt w w1 g X mc0 0 mx):=⟨hmc,hlt,fun x hx=>hx0 _ (hxx _ hx),Keeps.of_below (M:=[]) hb1,rd_start,Hm.out⟩
 have HEb:Hid (∀ W X,Keeps [] w W→(∀ x∈X,w.heap.size≤x)→Ens W X (.slice A l.length c) l):=fun W X hk hX=>(HE0.out.avoid (fun x hx=>.inr (hX x hx))).keep hk (by simp)
 clear hmc0 hmc hxx hlt hb1 hx0 HE0
 go_wp2_with fail
 go_loopw [9] (fun i wr=>∃ (x:Nat) (X:List Nat),i=.int .i64 x∧x≤l.length∧Hid (RnSt w wr g X (machM mc0 (l.take x)) x mx)) (fun i _=>l.length - (intOf i).toNat)
 case atStart=>exact ⟨0,X,rfl,by omega,HS0⟩
 case round=>
  obtain ⟨x,X,rfl,hx,HS⟩:=hrel
  clear HS0
  by_cases hlx:x < l.length
  ·have hx1:(x:Int) < (l.length:Int):=by omega
   obtain ⟨ge,off,cap,dv,e1,hge,hgX,hds,hcell⟩:=ens_at (HEb.out wr X HS.out.kp HS.out.old) hlx
   obtain rfl:A=some ⟨ge,off,none⟩:=by injection e1
   clear e1
   have hoke:=Hok.out l[x] (List.getElem_mem _)
   obtain ⟨j1,j2,j3,j4,j5,j6,j7⟩:=entry_i64 hoke
   have hsh:=(entry_right hoke).2.1
   obtain ⟨Ad,cd,rfl,_⟩:=hds.len
   have HT1:Hid (l.take (x + 1)=l.take x++[l[x]]):=by show _=_;rw [List.take_add_one,List.getElem?_eq_getElem hlx];rfl
   generalize hee:l[x]=e at *
   have p0:=hcell 0 _ rfl;have p1:=hcell 1 _ rfl;have p2:=hcell 2 _ rfl;have p3:=hcell 3 _ rfl;have p4:=hcell 4 _ rfl;have p5:=hcell 5 _ rfl;have p6:=hcell 6 _ rfl;have p7:=hcell 7 _ rfl;have p8:=hcell 8 _ rfl
   rw [Nat.add_zero] at p0
   clear hcell
   have hka:Keeps [] wr (wr.alloc (.cells #[.int .i64 e.kind,.int .i64 e.ag,.int .i64 e.sh,.int .i64 e.seq,.int .i64 e.ep,.slice Ad e.ds.length cd,.string e.ser,.int .i64 e.fr,.int .i64 e.tag] 36)):=(Keeps.refl _ _).alloc _
   have HAp:=Lib.hid ((HS.out.keep hka).apply (by omega) e _ j1 j2 j3 j4 (hds.keep hka (by simp)) j5 j6 j7 hsh)
   simp only [eCell] at HAp
   clear hka HS hds hoke j1 j2 j3 j4 j5 j6 j7 hsh hee
   go_upto_region 5 with (fail)
   clear p0 p1 p2 p3 p4 p5 p6 p7 p8
   go_wp2_with fail
   refine HAp.out.mono ?_
   rintro r w4 ⟨rfl,X4,hS4,-,-⟩
   have hT:=HT1.out
   have HS4:Hid (RnSt w w4 g X4 (machM mc0 (l.take (x + 1))) (x + 1) mx):=by show RnSt _ _ _ _ _ _ _;rw [hT,machM_snoc];exact hS4
   clear hS4 HAp HT1 hT
   go_wp2_with fail
   go_roundw
   case rel=>exact ⟨x + 1,X4,by go_num,by omega,HS4⟩
   case measure=>simp [intOf] <;> omega
  ·obtain rfl:x=l.length:=by omega
   have hP:Hid (FoPost l mx w (.returned (.pointer (some ⟨g,0,none⟩))) wr):=⟨g,X,rfl,by have h:=HS.out;rw [List.take_length] at h;exact h⟩
   clear HS
   go_wp2_with fail
   go_ret
   exact hP.out
def findS (s:ByteArray):List DeltaD→Int
 | []=>0
 | d :: l=>if d.ser=s then d.n else findS s l
theorem sum_any (v:Value) (l:List EntryD) (s:ByteArray) (r:Int) (mx:Int) (w:World) (hE:Ens w [] v l) (hok:∀ e∈l,EntryOk e) (hl:l.length≤100) (hm:w.cell? ⟨0,0,none⟩=some (.int .i64 mx)) (hr:∀ ls,IsAll (machM mc0 l).DS ls→findS s ls=r) :
  Calls Tryz.prog 25 #[v,.string s] w fun e w'=>e=.returned (.int .u64 r)∧Keeps [] w w':=by
 have HF:=Lib.hid (fold_any v l mx w hE hok hl hm)
 have Hr:=Lib.hid hr
 clear hE hok hm hr
 go_enter Tryz.func25,Tryz.ntmps25
 go_wp2_with fail
 refine HF.out.mono ?_
 rintro e w1 ⟨g,X,rfl,hS⟩
 have HS:=Lib.hid hS
 clear hS HF
 go_wp2_with fail
 refine HS.out.sums.mono ?_
 rintro e w2 ⟨vs,ls,rfl,ha,hl12,hd,hk2⟩
 have HD:=Lib.hid (hd [] (by simp))
 have hk:=HS.out.kp.trans hk2 (by simp)
 have HR:=Lib.hid (Hr.out ls ha)
 have Hk:=Lib.hid hk
 obtain ⟨A,c,rfl,hcc⟩:=HD.out.len
 clear ha hd hk2 hk HS Hr
 go_wp2_with fail
 go_loopw [11] (fun i wr=>∃ x:Nat,i=.int .i64 x∧x≤ls.length∧Hid (findS s (ls.drop x)=r)∧Hid (Keeps [] w2 wr)) (fun i _=>ls.length - (intOf i).toNat)
 case atStart=>exact ⟨0,rfl,by omega,HR,Keeps.refl _ _⟩
 case round=>
  obtain ⟨x,rfl,hx,HRx,Hkr⟩:=hrel
  by_cases hlx:x < ls.length
  ·have hx1:(x:Int) < (ls.length:Int):=by omega
   obtain ⟨gb,ob,_,e2,_,_,_,hB⟩:=Rd.at_ dCell 2 (fun _=>rfl) (HD.out.keep Hkr.out (by simp)) hlx
   obtain rfl:A=some ⟨gb,ob,none⟩:=by injection e2
   clear e2
   have hdr:ls.drop x=ls[x] :: ls.drop (x + 1):=List.drop_eq_getElem_cons hlx
   have HRy:=HRx.out
   rw [hdr] at HRy
   generalize ls[x]=d at *
   obtain ⟨ds,dn⟩:=d
   have b0:=hB 0 _ rfl;have b1:=hB 1 _ rfl
   rw [Nat.add_zero] at b0
   simp only [] at b0 b1
   have HRz:=Lib.hid HRy
   clear hB hdr HRy HRx
   have Hka:Hid (Keeps [] w2 (wr.alloc (.cells #[.string ds,.int .u64 dn] 63))):=Hkr.out.alloc _
   by_cases hs:ds=s
   ·subst hs
    have hrn:r=dn:=by rw [← HRz.out];exact (if_pos rfl)
    have hP:Hid (Keeps [] w (wr.alloc (.cells #[.string ds,.int .u64 dn] 63))):=Hk.out.trans Hka.out (by simp)
    subst hrn
    clear HRz Hka
    go_wp2_with fail
    go_ret
    exact ⟨rfl,hP.out⟩
   ·have hsb:(ds.toList == s.toList)=false:=beq_eq_false_iff_ne.2 (fun h=>hs (toList_inj h))
    have HRw:Hid (findS s (ls.drop (x + 1))=r):=HRz.out ▸ (show _=_ from (if_neg hs).symm)
    clear HRz hs
    go_wp2_with fail
    go_roundw
    case rel=>exact ⟨x + 1,by go_num,by omega,HRw,Hka⟩
    case measure=>simp [intOf] <;> omega
  ·obtain rfl:x=ls.length:=by omega
   have hr0:=HRx.out
   rw [List.drop_length] at hr0
   have hr1:r=0:=hr0.symm
   subst hr1
   have hP:Hid (Keeps [] w wr):=Hk.out.trans Hkr.out (by simp)
   clear hr0 HRx
   go_wp2_with fail
   go_ret
   exact ⟨rfl,hP.out⟩
end Go.Proofs.YtambjickanapjaaGreatDoor.Vi
end
section
namespace Go.Proofs.YtambjickanapjaaGreatDoor.Vi
open Go.RowKit Base Mem
/-- A batch. -/
structure BatD where
 seq:Int
 ds:List DeltaD
/-- A queue: its batches, the last number. -/
structure QuD where
 l:List BatD
 last:Int
def quArg (q:QuD) (b:BatD):Bool:=decide (b.seq < 1) || decide (b.seq≤q.last) || decide (b.ds.length=0) || decide (8 < b.ds.length)
def quAdd (q:QuD) (b:BatD):Int×QuD:=if quArg q b=true then (1,q) else if 16≤q.l.length then (24,q) else (0,⟨q.l++[b],b.seq⟩)
/-- The first of that number taken out. -/
def outB (seq:Int):List BatD→List BatD
 | []=>[]
 | b :: r=>if b.seq=seq then r else b :: outB seq r
def hasB (seq:Int) (l:List BatD):Bool:=l.any fun b=>decide (b.seq=seq)
def quDone (q:QuD) (seq:Int):QuD:=⟨outB seq q.l,q.last⟩
/-- What an agent's records come to. -/
structure BkD where
 ep:Int
 sa:List DeltaD
 sh:Int
 q:Nat→QuD
 cuts:List (Int×Int)
def bk0:BkD:=⟨0,[],1,fun _=>⟨[],0⟩,[]⟩
def goodD (d:DeltaD):Bool:=serOk d.ser && decide (0 < d.n)
/-- Does a sum run over? -/
def overL (ser:ByteArray):Int→List DeltaD→Bool
 | _,[]=>false
 | sum,x :: r=>if x.ser=ser then (if 18446744073709551615 - x.n < sum then true else overL ser (sum + x.n) r) else overL ser sum r
def mayB (s:BkD) (d:DeltaD):Int:=if goodD d=false then 1 else if 32≤s.sa.length then 24 else if overL d.ser d.n s.sa=true then 25 else 0
def setQ (q:Nat→QuD) (k:Nat) (x:QuD):Nat→QuD:=fun j=>if j=k then x else q j
def inDs (ds:List DeltaD) (d:DeltaD):Bool:=ds.any fun x=>x.ser.toList == d.ser.toList
/-- A batch queued; samples of its series wait no more. -/
def addB (s:BkD) (k:Nat) (b:BatD):BkD:=if (quAdd (s.q k) b).1=0 then { s with q:=setQ s.q k (quAdd (s.q k) b).2,sa:=s.sa.filter fun d=>!inDs b.ds d,cuts:=s.cuts++[((k:Int),b.seq)] } else s
def doneR (l:List UInt8) (bad:Bool):Bool:=!bad && l.isEmpty
def batchB (s:BkD) (l:List UInt8) (bad over:Bool):BkD:=
 let k:=countS l bad 3
 let n:=intS k.2.1 k.2.2
 if over=true then (if doneR n.2.1 n.2.2=true then { s with q:=setQ s.q k.1 (quDone (s.q k.1) n.1) } else s)
 else
  let c:=countS n.2.1 n.2.2 8
  let g:=getDs c.1 c.2.1 c.2.2
  if (doneR g.2.1 g.2.2 && g.1.all goodD)=true then addB s k.1 ⟨n.1,g.1⟩ else s
/-- One record. -/
def takeB (s:BkD) (b:List UInt8):BkD:=
 let k:=numS b false
 if k.1=1 then
  let n:=intS k.2.1 k.2.2
  if (doneR n.2.1 n.2.2 && decide (1≤n.1) && decide (n.1≤1073741824))=true then { s with ep:=n.1 } else s
 else if k.1=2 then
  let g:=getDs 1 k.2.1 k.2.2
  if (doneR g.2.1 g.2.2 && decide (mayB s g.1.head! = 0))=true then { s with sa:=s.sa++[g.1.head!] } else s
 else if k.1=4 then
  let n:=intS k.2.1 k.2.2
  if (doneR n.2.1 n.2.2 && decide (1≤n.1) && decide (n.1≤4))=true then { s with sh:=n.1 } else s
 else if k.1=3 then batchB s k.2.1 k.2.2 false
 else if k.1=5 then batchB s k.2.1 k.2.2 true
 else s
def takesB (s:BkD) (l:List (List UInt8)):BkD:=l.foldl takeB s
def bCell (p:BatD×Value):List Value:=[.int .i64 p.1.seq,p.2]
/-- v reads as these batches. -/
def Bats (w:World) (M:List Nat) (v:Value) (l:List BatD):Prop:=
 ∃ ps:List (BatD×Value),ps.map (·.1)=l∧Rd w M 2 v ps.length (ps.flatMap bCell)∧∀ p∈ps,Ds w M p.2 p.1.ds
section
variable {w w':World} {M M':List Nat} {v:Value} {l:List BatD}
theorem Bats.keep (h:Bats w M v l) (k:Keeps M' w w') (hM:∀ g∈M',g∈M∨w.heap.size≤g):Bats w' M v l:=by
 obtain ⟨ps,hl,hr,hd⟩:=h
 exact ⟨ps,hl,hr.keep k hM,fun p hp=>(hd p hp).keep k hM⟩
theorem Bats.avoid (h:Bats w M v l) (hM:∀ g∈M',g∈M∨w.heap.size≤g):Bats w M' v l:=by
 obtain ⟨ps,hl,hr,hd⟩:=h
 exact ⟨ps,hl,hr.avoid hM,fun p hp=>(hd p hp).avoid hM⟩
theorem Bats.len (h:Bats w M v l):∃ A c,v=.slice A l.length c∧l.length≤c:=by
 obtain ⟨ps,rfl,⟨A,c,rfl,hc,_⟩,_⟩:=h
 exact ⟨A,c,by simp,by simpa using hc⟩
end
theorem bCells_len (ps:List (BatD×Value)):(ps.flatMap bCell).length=ps.length * 2:=flat_len bCell 2 (fun _=>rfl) ps
theorem own_any (M:List Nat) (b:BatD) (dv:Value) (w:World) (h:Ds w M dv b.ds) (hb:b.ds.length * 24≤140737488355328) :
  Calls Tryz.prog 244 #[.agg (bCell (b,dv)).toArray] w fun r w'=>∃ dv',r=.returned (.agg (bCell (b,dv')).toArray)∧(∀ M',(∀ g∈M',g < w.heap.size)→Ds w' M' dv' b.ds)∧Below w.heap.size w w':=by
 unfold bCell
 go_enter Tryz.func244,Tryz.ntmps244
 go_wp2_with fail
 refine (cloneDelta M dv _ _ _ ((h.keep (Keeps.refl [] _) (by simp)).keep (((Keeps.refl [] w).alloc _).alloc _) (by simp)) (dCells_one _) hb).mono ?_
 rintro r w1 ⟨v',rfl,hown,hbel⟩
 obtain ⟨hc,hf⟩:=bcell hbel
 have hc5:w1.cell? ⟨w.heap.size,1,none⟩=some dv:=by rw [hc _ _ (by simp;omega)];go_simp
 have hz:w.heap.size + 1 < w1.heap.size:=by have:=hbel.size;simp at this;omega
 have hrd:∀ M',(∀ g∈M',g < w.heap.size + 2)→Rd w1 M' 2 v' b.ds.length (dCells b.ds):=fun M' hM=>Rd.of_own hown (by intro g hg;have:=hM g hg;simp;omega)
 have hb2:Below w.heap.size w w1:=((Below.refl _ _).alloc (Nat.le_refl _) _).alloc (by simp) _ |>.trans (hbel.mono (by simp;omega))
 clear hown hbel
 obtain ⟨A,c,rfl,hc2,_⟩:=hrd [] (by simp)
 have Hrd:=Lib.hid hrd;have Hb2:=Lib.hid hb2;have Hh:=Lib.hid h;have Hb:=Lib.hid hb
 clear hrd hb2 h hb
 go_wp2_with (go_at_call 177;refine (clipDelta A _ c _ hc2).mono ?_;rintro e w' ⟨rfl,rfl⟩)
 have hd:∀ o,o < 2→∃ u,w1.cell? ⟨w.heap.size + 1,o,none⟩=some u:=by
  intro o ho
  rw [hc _ _ (by simp)]
  rcases (show o=0∨o=1 by omega) with rfl | rfl <;> exact ⟨_,by go_simp;rfl⟩
 obtain ⟨u0,d0⟩:=hd 0 (by omega);obtain ⟨u1,d1⟩:=hd 1 (by omega)
 refine bodyPost_ret (v:=.agg #[.int .i64 b.seq,.slice A b.ds.length b.ds.length]) (by simp [results,Tryz.results244,go_sem,d0,d1]) rfl ⟨_,rfl,?_,?_⟩
 ·intro M' hM
  have h0:=(Hrd.out (w.heap.size :: (w.heap.size + 1) :: M') (by intro g hg;simp at hg;rcases hg with rfl | rfl | hg;omega;omega;have:=hM g hg;omega)).clip
  refine (h0.keep (M':=[w.heap.size,w.heap.size + 1]) ?_ ?_).more.more
  ·repeat (first | (with_reducible refine Keeps.setCell ?_ (by simp) _) | (with_reducible exact Keeps.refl _ _))
  ·intro g hg;simp at hg;rcases hg with rfl | rfl <;> simp
 ·repeat (first | (with_reducible refine Below.setCell ?_ (by simp) _) | (with_reducible exact Hb2.out))
theorem infoBatch2:(Tryz.prog.info? 193).map (fun i=>(i.zero,i.size,i.bytes))=some (some (.agg #[.int .i64 0,.slice none 0 0]),2,32):=by kernel_rfl
def nV (n:Nat):Value:=.int .i64 n
def Ns (w:World) (M:List Nat) (v:Value) (l:List Nat):Prop:=Rd w M 1 v l.length (l.map nV)
theorem uv_len (n:Nat) (h:n≤18446744073709551615):(Lib.uvarint n).length≤10:=Lib.uvarint_length64 (by omega)
theorem record_any (kind:Nat) (v:Value) (l:List Nat) (w:World) (h:Ns w [] v l) (hk:kind≤100) (hl:∀ n∈l,n≤9223372036854775807) (hlen:l.length≤10) :
  Calls Tryz.prog 147 #[.int .u64 kind,v] w fun e w'=>BsPost (Lib.uvarint kind++l.flatMap Lib.uvarint) w e w':=by
 obtain ⟨A,c,rfl,hc,_,hr⟩:=id h
 have H:=Lib.hid h
 have HR:=Lib.hid hr
 have hp0:=Lib.hid (put_any (.slice none 0 0) [] kind w (Bs.nil _ _) (by omega) (by simp))
 have hpn:Hid (∀ W A' (L:List UInt8) (n:Nat),Bs W [] (.slice A' L.length L.length) L→n≤9223372036854775807→L.length≤1000→Calls Tryz.prog 220 #[.slice A' L.length L.length,.int .u64 n] W fun e w'=>BsPost (L++Lib.uvarint n) W e w'):=fun W A' L n hb hn hL=>put_any _ L n W hb (by omega) (by omega)
 have hk10:=uv_len kind (by omega)
 have HP:Hid (∀ e W,BsPost (Lib.uvarint kind++l.flatMap Lib.uvarint) w e W = ∃ A,e=.returned (.slice A (Lib.uvarint kind++l.flatMap Lib.uvarint).length (Lib.uvarint kind++l.flatMap Lib.uvarint).length)∧(∀ M,(∀ g∈M,g < w.heap.size)→Bs W M (.slice A (Lib.uvarint kind++l.flatMap Lib.uvarint).length (Lib.uvarint kind++l.flatMap Lib.uvarint).length) (Lib.uvarint kind++l.flatMap Lib.uvarint))∧Below w.heap.size w W):=fun e W=>rfl
 have Hl:=Lib.hid hl
 clear h hr hl
 go_enter Tryz.func147,Tryz.ntmps147
 go_wp2_with fail
 refine hp0.out.mono ?_
 rintro e w1 ⟨A1,rfl,hB1,hb1⟩
 have HB1:=Lib.hid hB1;have Hb1:=Lib.hid hb1
 clear hB1 hb1 hp0
 simp only [List.nil_append] at HB1 ⊢
 go_wp2_with fail
 go_loopw [5,12] (fun b i wr=>∃ (k:Nat) (A':Option Addr) (L:List UInt8),k≤l.length∧i=.int .i64 k∧b=.slice A' L.length L.length∧L.length≤10 + k * 10∧Hid (L=Lib.uvarint kind++(l.take k).flatMap Lib.uvarint)∧Hid (∀ M,(∀ g∈M,g < w.heap.size)→Bs wr M (.slice A' L.length L.length) L)∧Hid (Below w.heap.size w wr))
  (fun _ i _=>l.length - (intOf i).toNat)
 case atStart=>exact ⟨0,A1,Lib.uvarint kind,by omega,rfl,rfl,by omega,(by show _=_;simp),HB1.out,Hb1.out⟩
 case round=>
  obtain ⟨k,A',L,hkl,rfl,rfl,hLl,HL,HB,Hb⟩:=hrel
  by_cases hlt:k < l.length
  ·obtain ⟨g,off,rfl,hg,_,hx⟩:=HR.out (by omega)
   have hck:w.cell? ⟨g,off + k,none⟩=some (.int .i64 l[k]):=hx k (nV l[k]) (by rw [List.getElem?_map,List.getElem?_eq_getElem hlt];rfl)
   have hcw:wr.cell? ⟨g,off + k,none⟩=some (.int .i64 l[k]):=(Hb.out.cell (p:=⟨g,off + k,none⟩) hg).trans hck
   have hn:=Hl.out _ (List.getElem_mem hlt)
   have Htk:Hid (L++Lib.uvarint l[k]=Lib.uvarint kind++(l.take (k + 1)).flatMap Lib.uvarint):=by
    show _=_
    rw [HL.out,List.take_succ_eq_append_getElem hlt,List.flatMap_append];simp
   have h10:=uv_len l[k] (by omega)
   have hlk:k≤10:=by omega
   clear hx hck
   generalize l[k]=n at *
   have hwn:IntKind.u64.wrap (n:Int)=(n:Int):=by rw [IntKind.wrap_u64];omega
   go_wp2_with fail
   refine (hpn.out wr A' L n (HB.out [] (by simp)) hn (by omega)).mono ?_
   rintro e w2 ⟨A2,rfl,hB2,hb2⟩
   have HB2:Hid (∀ M,(∀ g∈M,g < w.heap.size)→Bs w2 M (.slice A2 (L++Lib.uvarint n).length (L++Lib.uvarint n).length) (L++Lib.uvarint n)):=fun M hM=>hB2 M (fun g hg=>Nat.lt_of_lt_of_le (hM g hg) Hb.out.size)
   have Hb2:Hid (Below w.heap.size w w2):=Hb.out.trans (hb2.mono Hb.out.size)
   have hL2:(L++Lib.uvarint n).length≤10 + (k + 1) * 10:=by rw [List.length_append];omega
   clear hB2 hb2 hcw
   generalize L++Lib.uvarint n=L2 at *
   go_wp2
   go_roundw
   case rel=>exact ⟨k + 1,A2,L2,by omega,by go_num,rfl,by omega,Htk,HB2,Hb2⟩
   case measure=>simp [intOf];omega
  ·have hkk:k=l.length:=by omega
   have hR:Hid (BsPost (Lib.uvarint kind++l.flatMap Lib.uvarint) w (.returned (.slice A' L.length L.length)) wr):=by
    have e:L=Lib.uvarint kind++l.flatMap Lib.uvarint:=by rw [HL.out,hkk,List.take_length]
    rw [← e]
    exact ⟨A',rfl,HB.out,Hb.out⟩
   clear HP
   go_wp2
   go_ret
   exact hR.out
def RecPost (l:List UInt8) (w:World) (e:Ending) (w':World):Prop:=∃ A,e=.returned (.slice A l.length l.length)∧Bs w' [] (.slice A l.length l.length) l∧Below w.heap.size w w'
def recE (n:Nat):List UInt8:=Lib.uvarint 1++[n].flatMap Lib.uvarint
theorem ns_new (w:World) (l:List Nat) (cs:Array Value) (h:cs=(l.map nV).toArray):Ns (w.alloc (.cells cs 2)) [] (.slice (some ⟨w.heap.size,0,none⟩) l.length l.length) l:=by
 subst h
 refine ⟨_,_,rfl,Nat.le_refl _,by simp,fun _=>⟨w.heap.size,0,rfl,by simp,by simp,fun j u hu=>?_⟩⟩
 rw [(Base.Blk.new w 2 _).cell,Nat.zero_add]
 simpa using hu
theorem rec_call (kind:Nat) (l:List Nat) (W:World) (cs:Array Value) (hcs:cs=(l.map nV).toArray) (hk:kind≤100) (hl:∀ n∈l,n≤9223372036854775807) (hlen:l.length≤10) (n:Nat) (hn:n=l.length) :
  Calls Tryz.prog 147 #[.int .u64 kind,.slice (some ⟨W.heap.size,0,none⟩) n n] (W.alloc (.cells cs 2)) fun e w'=>RecPost (Lib.uvarint kind++l.flatMap Lib.uvarint) W e w':=by
 subst hn
 refine (record_any kind _ l _ (ns_new W l cs hcs) hk hl hlen).mono ?_
 rintro e w' ⟨A,h1,h2,h3⟩
 exact ⟨A,h1,h2 [] (by simp),(below_new' W _).trans (h3.mono (by simp))⟩
theorem RecPost.val {l:List UInt8} {w w':World} {e:Ending} (h:RecPost l w e w'):∃ A n,e=.returned (.slice A n n):=by
 obtain ⟨A,h,_⟩:=h
 exact ⟨A,_,h⟩
theorem bkepoch_any (n:Nat) (w:World) (hn:n≤9223372036854775807) :
  Calls Tryz.prog 81 #[.int .i64 n] w fun e w'=>RecPost (recE n) w e w':=by
 have hr:=Lib.hid (rec_call 1 [n] w #[.int .i64 n] rfl (by omega) (by simpa using hn) (by simp) 1 rfl)
 have hv:Hid (∀ e W,RecPost (Lib.uvarint 1++[n].flatMap Lib.uvarint) w e W→(∃ A m,e=.returned (.slice A m m))∧RecPost (recE n) w e W):=fun e W h=>⟨h.val,h⟩
 go_enter Tryz.func81,Tryz.ntmps81
 go_wp2_with fail
 refine hr.out.mono ?_
 intro e w1 hp
 obtain ⟨⟨A,m,rfl⟩,hp⟩:=hv.out _ _ hp
 have Hp:=Lib.hid hp
 clear hp hr hv
 go_wp2
 go_ret
 exact Hp.out
theorem bright_any (d:DeltaD) (m:Int) (w:World) (hs:d.ser.size < 4294967281) (hm:w.cell? ⟨0,0,none⟩=some (.int .i64 m)) :
  Calls Tryz.prog 169 #[.agg #[.string d.ser,.int .u64 d.n]] w fun e w'=>e=.returned (.bool (goodD d))∧Below w.heap.size w w':=by
 have hw0:0 < w.heap.size:=by
  have:=World.block_lt_of_cell? w _ hm
  simpa using this
 obtain ⟨w0,hw0'⟩:∃ w0,w0=w.alloc (.cells #[.string d.ser,.int .u64 d.n] 63):=⟨_,rfl⟩
 have hb0:Below w.heap.size w w0:=by rw [hw0'];exact (Below.refl _ _).alloc (Nat.le_refl _) _
 have hB0:Blk w0 w.heap.size 63 #[.string d.ser,.int .u64 d.n]:=by rw [hw0'];exact Blk.new w _ _
 have b0:=hB0.cell 0
 simp only [List.getElem?_toArray,List.getElem?_cons_zero] at b0
 have hz:=hB0.lt
 have hp:=Lib.hid (parse_any d.ser m w0 hs ((hb0.cell (p:=⟨0,0,none⟩) hw0).trans hm))
 have HB0:=Lib.hid hB0;have Hb0:=Lib.hid hb0
 have hg:Hid (goodD d=(serOk d.ser && decide (0 < d.n))):=rfl
 clear hB0 hb0 hm
 rcases hok:serOk d.ser with _ | _
 ·rw [hok] at hg
  have hv:Hid (∀ e W,ParsePost d.ser w0 e W→∃ v,e=.returned (.tuple #[v,.int .i64 12])∧Below w0.heap.size w0 W):=fun e W h=>by
   obtain ⟨v,h1,h2⟩:=h
   rw [hok] at h1
   exact ⟨v,h1,h2⟩
  have hgf:Hid (goodD d=false):=hg.out
  clear hok hg
  go_enter Tryz.func169,Tryz.ntmps169
  go_upto_region 1 with (fail)
  rw [← hw0']
  clear hw0'
  go_wp2_with fail
  refine hp.out.mono ?_
  intro e w1 hpp
  obtain ⟨v,rfl,hb1⟩:=hv.out _ _ hpp
  have Hb1:Hid (Below w.heap.size w w1):=Hb0.out.trans (hb1.mono Hb0.out.size)
  clear hpp hb1 hp hv
  go_wp2
  go_ret
  exact ⟨ret_bool (by rw [hgf.out]),Hb1.out⟩
 ·rw [hok,Bool.true_and] at hg
  have hv:Hid (∀ e W,ParsePost d.ser w0 e W→∃ v,e=.returned (.tuple #[v,.int .i64 0])∧Below w0.heap.size w0 W):=fun e W h=>by
   obtain ⟨v,h1,h2⟩:=h
   rw [hok] at h1
   exact ⟨v,h1,h2⟩
  clear hok
  go_enter Tryz.func169,Tryz.ntmps169
  go_upto_region 1 with (fail)
  rw [← hw0']
  clear hw0'
  go_wp2_with fail
  refine hp.out.mono ?_
  intro e w1 hpp
  obtain ⟨v,rfl,hb1⟩:=hv.out _ _ hpp
  have Hb1:Hid (Below w.heap.size w w1):=Hb0.out.trans (hb1.mono Hb0.out.size)
  have b1:w1.cell? ⟨w.heap.size,1,none⟩=some (.int .u64 d.n):=(hb1.cell (p:=⟨w.heap.size,1,none⟩) hz).trans (HB0.out.cell 1)
  clear hpp hb1 hp hv
  go_wp2
  go_ret
  exact ⟨ret_bool (by rw [hg.out]),Hb1.out⟩
/-- The blocks of M that belong to these parts. -/
def sel (M:List Nat) (tg:Nat→Nat) (T:List Nat):List Nat:=M.filter fun g=>T.contains (tg g)
theorem mem_sel {M:List Nat} {tg:Nat→Nat} {T:List Nat} {g:Nat}:g∈sel M tg T↔g∈M∧tg g∈T:=by simp [sel]
/-- The blocks M' are those of M, and new ones; old ones are of the same parts. -/
structure Ext (w:World) (M:List Nat) (tg:Nat→Nat) (w':World) (M':List Nat) (tg':Nat→Nat):Prop where
 sub:∀ g∈M,g∈M'
 new:∀ g∈M',g∈M∨w.heap.size≤g
 tag:∀ g,g < w.heap.size→tg' g=tg g
 old:∀ g∈M,g < w.heap.size
 lt:∀ g∈M',g < w'.heap.size
section
variable {w w1 w2 w':World} {M M1 M2 M':List Nat} {tg tg1 tg2 tg':Nat→Nat} {T T':List Nat}
theorem Ext.refl (hM:∀ g∈M,g < w.heap.size) (hw:w.heap.size≤w'.heap.size):Ext w M tg w' M tg:=
 ⟨fun _ h=>h,fun _ h=>.inl h,fun _ _=>rfl,hM,fun g h=>Nat.lt_of_lt_of_le (hM g h) hw⟩
theorem Ext.trans (h:Ext w M tg w1 M1 tg1) (k:Ext w1 M1 tg1 w2 M2 tg2) (hw:w.heap.size≤w1.heap.size):Ext w M tg w2 M2 tg2:=
 ⟨fun g hg=>k.sub g (h.sub g hg),fun g hg=>by
  rcases k.new g hg with h1 | h1
  ·exact h.new g h1
  ·right;omega,fun g hg=>(k.tag g (by omega)).trans (h.tag g hg),h.old,k.lt⟩
theorem Ext.later (h:Ext w M tg w1 M1 tg1) (hw:w1.heap.size≤w2.heap.size):Ext w M tg w2 M1 tg1:=⟨h.sub,h.new,h.tag,h.old,fun g hg=>Nat.lt_of_lt_of_le (h.lt g hg) hw⟩
/-- One block more (or none, if it is there). -/
theorem Ext.add (hM:∀ g∈M,g < w.heap.size) (hw:w.heap.size≤w'.heap.size) (r:Option Nat) (t:Nat) (hr:∀ g,r=some g→(g∈M∧tg g=t∨w.heap.size≤g)∧g < w'.heap.size):Ext w M tg w' (r.toList++M) (fun x=>if r=some x then t else tg x):=
 ⟨fun g hg=>List.mem_append_right _ hg,fun g hg=>by
  rcases List.mem_append.1 hg with h | h
  ·rcases (hr g (by simpa using h)).1 with h1 | h1
   ·exact .inl h1.1
   ·exact .inr h1
  ·exact .inl h,fun g hg=>by
  show (if r=some g then t else tg g)=tg g
  split
  ·rename_i h
   rcases (hr g h).1 with h1 | h1
   ·exact h1.2.symm
   ·omega
  ·rfl,hM,fun g hg=>by
  rcases List.mem_append.1 hg with h | h
  ·exact (hr g (by simpa using h)).2
  ·exact Nat.lt_of_lt_of_le (hM g h) hw⟩
/-- What turned later, in the words of what was there at first. -/
theorem Ext.keeps (h:Ext w M tg w1 M1 tg1) (k1:Keeps (sel M tg T) w w1) (k2:Keeps (sel M1 tg1 T) w1 w2):Keeps (sel M tg T) w w2:=
 k1.trans k2 (fun g hg => by
  obtain ⟨h1,h2⟩:=mem_sel.1 hg
  rcases h.new g h1 with h3 | h3
  ·exact .inl (mem_sel.2 ⟨h3,by rw [← h.tag g (h.old g h3)];exact h2⟩)
  ·exact .inr h3)
theorem sel_more (hT:∀ t∈T,t∈T') {g:Nat} (h:g∈sel M tg T):g∈sel M tg T':=by
 obtain ⟨h1,h2⟩:=mem_sel.1 h
 exact mem_sel.2 ⟨h1,hT _ h2⟩
theorem _root_.Go.Proofs.YtambjickanapjaaGreatDoor.Mem.Keeps.sel_mono (k:Keeps (sel M tg T) w w') (hT:∀ t∈T,t∈T'):Keeps (sel M tg T') w w':=k.mono fun _ hg=>.inl (sel_more hT hg)
theorem _root_.Go.Proofs.YtambjickanapjaaGreatDoor.Mem.Keeps.to_sel {L:List Nat} (k:Keeps L w w') (hL:∀ g∈L,g∈M∧tg g∈T∨w.heap.size≤g):Keeps (sel M tg T) w w':=k.mono fun g hg=>by
 rcases hL g hg with h | h
 ·exact .inl (mem_sel.2 h)
 ·exact .inr h
theorem Ext.ds {v:Value} {ds:List DeltaD} (h:Ext w M tg w' M' tg') (k:Keeps (sel M tg T) w w') (hd:Ds w M v ds):Ds w' M' v ds:=
 (hd.avoid h.new).keep k (fun g hg=>.inl (h.sub g (mem_sel.1 hg).1))
theorem blk_other {g:Nat} {t:TypeId} {cs:Array Value} (k:Keeps (sel M tg T) w w') (hb:Blk w g t cs) (ht:tg g∉T):Blk w' g t cs:=k.blk hb (fun hm=>ht (mem_sel.1 hm).2)
theorem row_other {base:Nat} {e:TypeId} {size n:Nat} {v:Value} {xs:List Value} (k:Keeps (sel M tg T) w w') (h:w.ownsRow base e size v n xs) (ht:∀ g,v.ownBlock=some g→tg g∉T):w'.ownsRow base e size v n xs:=
 own_other2 h k (fun g hg hm=>ht g hg (mem_sel.1 hm).2)
end
/-- What holds of every queue that there is. -/
def QuOk (Q:QuD):Prop:=Q.l.length≤16∧0≤Q.last∧Q.last≤9223372036854775807∧(∀ b∈Q.l,1≤b.seq∧b.seq≤Q.last∧0 < b.ds.length∧b.ds.length≤8∧∀ d∈b.ds,NOk d)∧(Q.l.map (·.seq)).Pairwise (· < ·)
theorem quOk0:QuOk ⟨[],0⟩:=⟨by simp,by simp,by simp,by simp,by simp⟩
theorem quAdd_ok {Q:QuD} {b:BatD} (h:QuOk Q) (hb:b.seq≤9223372036854775807) (hn:∀ d∈b.ds,NOk d):QuOk (quAdd Q b).2:=by
 unfold quAdd
 by_cases ha:quArg Q b=true
 ·rw [if_pos ha];exact h
 ·rw [if_neg ha]
  by_cases h16:16≤Q.l.length
  ·rw [if_pos h16];exact h
  ·rw [if_neg h16]
   simp only [quArg,Bool.or_eq_true,decide_eq_true_eq,not_or] at ha
   obtain ⟨h1,h2,h3,h4,h5⟩:=h
   refine ⟨by simp;omega,by simp;omega,by simpa using hb,?_,?_⟩
   ·intro x hx
    rcases List.mem_append.1 hx with hx | hx
    ·obtain ⟨a1,a2,a3⟩:=h4 x hx
     exact ⟨a1,by simp;omega,a3⟩
    ·simp at hx;subst hx
     exact ⟨by omega,by simp,by omega,by omega,hn⟩
   ·rw [List.map_append,List.pairwise_append]
    refine ⟨h5,by simp,?_⟩
    intro x hx y hy
    obtain ⟨c,hc,rfl⟩:=List.mem_map.1 hx
    simp at hy;subst hy
    have:=(h4 c hc).2.1
    omega
theorem outB_sub (n:Int):∀ l:List BatD,List.Sublist (outB n l) l
 | []=>List.Sublist.slnil
 | b :: r=>by
  rw [outB]
  split
  ·exact List.sublist_cons_self _ _
  ·exact (outB_sub n r).cons_cons b
theorem quDone_ok {Q:QuD} (n:Int) (h:QuOk Q):QuOk (quDone Q n):=by
 obtain ⟨h1,h2,h3,h4,h5⟩:=h
 have hs:=outB_sub n Q.l
 refine ⟨Nat.le_trans hs.length_le h1,h2,h3,fun b hb=>h4 b (hs.subset hb),?_⟩
 exact List.Pairwise.sublist (hs.map _) h5
/-- A queue lies in block q (part t), its batches in v's block (part t + 1); their deltas lie in no block of M. -/
structure QuV (w:World) (M:List Nat) (tg:Nat→Nat) (t q:Nat) (Q:QuD) (v:Value) (ps:List (BatD×Value)):Prop where
 blk:Blk w q 271 #[v,.int .i64 Q.last]
 map:ps.map (·.1)=Q.l
 row:w.ownsRow 0 193 2 v ps.length (ps.flatMap bCell)
 ds:∀ p∈ps,Ds w M p.2 p.1.ds
 inM:q∈M
 tq:tg q=t
 tr:∀ g,v.ownBlock=some g→g∈M∧tg g=t + 1
def QuAt (w:World) (M:List Nat) (tg:Nat→Nat) (t q:Nat) (Q:QuD):Prop:=QuOk Q∧∃ v ps,QuV w M tg t q Q v ps
section
variable {w w':World} {M M':List Nat} {tg tg':Nat→Nat} {t q:Nat} {Q:QuD} {T:List Nat} {v:Value} {ps:List (BatD×Value)}
theorem QuV.keep (h:QuV w M tg t q Q v ps) (x:Ext w M tg w' M' tg') (k:Keeps (sel M tg T) w w') (h1:t∉T) (h2:t + 1∉T):QuV w' M' tg' t q Q v ps:=by
 have hq:=h.blk.lt
 refine ⟨blk_other k h.blk (by rw [h.tq];exact h1),h.map,row_other k h.row (fun g hg=>by rw [(h.tr g hg).2];exact h2),fun p hp=>x.ds k (h.ds p hp),x.sub _ h.inM,by rw [x.tag q hq];exact h.tq,fun g hg=>?_⟩
 obtain ⟨a1,a2⟩:=h.tr g hg
 exact ⟨x.sub _ a1,by rw [x.tag g (x.old g a1)];exact a2⟩
theorem QuAt.keep (h:QuAt w M tg t q Q) (x:Ext w M tg w' M' tg') (k:Keeps (sel M tg T) w w') (h1:t∉T) (h2:t + 1∉T):QuAt w' M' tg' t q Q:=by
 obtain ⟨ho,v,ps,hv⟩:=h
 exact ⟨ho,v,ps,hv.keep x k h1 h2⟩
theorem QuV.keep0 (h:QuV w M tg t q Q v ps) (hM:∀ g∈M,g < w.heap.size) (k:Keeps [] w w'):QuV w' M tg t q Q v ps:=h.keep (T:=[]) (Ext.refl hM k.size) (k.to_sel (by simp)) (by simp) (by simp)
theorem QuAt.keep0 (h:QuAt w M tg t q Q) (hM:∀ g∈M,g < w.heap.size) (k:Keeps [] w w'):QuAt w' M tg t q Q:=h.keep (T:=[]) (Ext.refl hM k.size) (k.to_sel (by simp)) (by simp) (by simp)
theorem QuV.len (h:QuV w M tg t q Q v ps):∃ A c,v=.slice A Q.l.length c∧Q.l.length≤c:=by
 obtain ⟨A,c,e,hc,_⟩:=Rd.of_own (M:=[]) h.row (by simp)
 have hl:ps.length=Q.l.length:=by rw [← h.map,List.length_map]
 exact ⟨A,c,by rw [← hl];exact e,by rw [← hl];exact hc⟩
theorem qnew_any (w:World) :
  Calls Tryz.prog 144 #[] w fun e w'=>e=.returned (.pointer (some ⟨w.heap.size,0,none⟩))∧Blk w' w.heap.size 271 #[.slice none 0 0,.int .i64 0]∧Below w.heap.size w w':=by
 have hR:Hid (Blk (w.alloc (.cells #[.slice none 0 0,.int .i64 0] 271)) w.heap.size 271 #[.slice none 0 0,.int .i64 0]):=Blk.new w _ _
 go_enter Tryz.func144,Tryz.ntmps144
 go_wp2
 go_ret
 exact ⟨rfl,hR.out,(Below.refl _ _).alloc (Nat.le_refl _) _⟩
theorem qu_new {g:Nat} (hb:Blk w g 271 #[.slice none 0 0,.int .i64 0]) (hM:g∈M) (ht:tg g=t):QuAt w M tg t g ⟨[],0⟩:=
 ⟨quOk0,_,[],hb,rfl,World.ownsRow_nil _ _ _ _,by simp,hM,ht,by simp [Value.ownBlock]⟩
end
end Go.Proofs.YtambjickanapjaaGreatDoor.Vi
end
