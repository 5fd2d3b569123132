/- Texts put together: Var4, Read1, Read2, Lab1. -/
import Derived.Laws.BytesArg
import Derived.BigQuiet
import Derived.Test.YtambjickanapjaaGreatDoorMW1
set_option linter.unusedVariables false
set_option linter.unusedSimpArgs false
set_option maxRecDepth 100000
set_option maxHeartbeats 8000000
section
namespace Go.Proofs.YtambjickanapjaaGreatDoor.Vi
open Go.RowKit Base Mem
theorem pow_room (p k:Nat) (hk:k≤63) (h:p * 2 ^ k < 18446744073709551616):(p + 1) * 2 ^ k≤18446744073709551616:=by
 have h1:(18446744073709551616:Nat)=2 ^ (64 - k) * 2 ^ k:=by rw [← Nat.pow_add,Nat.sub_add_cancel (by omega)]
 rw [h1] at h ⊢
 exact Nat.mul_le_mul_right _ (Nat.lt_of_mul_lt_mul_right h)
theorem getF_le:∀ (l:List UInt8) (i n:Nat),n < 2 ^ (7 * i)→n < 18446744073709551616→((getF i n l).2=0∧(getF i n l).1=0∨(i < (getF i n l).2∧(getF i n l).2≤i + l.length))∧(getF i n l).1 < 18446744073709551616
 | [],i,n,_,_=>by simp [getF]
 | c :: r,i,n,h1,h2=>by
  rw [getF]
  by_cases h10:10≤i
  ·rw [if_pos h10];simp
  rw [if_neg h10]
  by_cases hb:18446744073709551616≤c.toNat % 128 * 2 ^ (7 * i)
  ·rw [if_pos hb];simp
  rw [if_neg hb]
  have hp:=pow_room (c.toNat % 128) (7 * i) (by omega) (by omega)
  rw [Nat.add_mul,Nat.one_mul] at hp
  have hn:n + c.toNat % 128 * 2 ^ (7 * i) < 18446744073709551616:=by omega
  have hn2:n + c.toNat % 128 * 2 ^ (7 * i) < 2 ^ (7 * (i + 1)):=by
   rw [show 7 * (i + 1)=7 * i + 7 by omega,Nat.pow_add]
   have h3:(c.toNat % 128 + 1) * 2 ^ (7 * i)≤128 * 2 ^ (7 * i):=Nat.mul_le_mul_right _ (by omega)
   rw [Nat.add_mul] at h3
   have h4:(2:Nat) ^ 7=128:=rfl
   rw [h4,Nat.mul_comm _ 128]
   omega
  by_cases hc:128≤c.toNat
  ·rw [if_pos hc]
   obtain ⟨h5,h6⟩:=getF_le r (i + 1) _ hn2 hn
   refine ⟨?_,h6⟩
   rw [List.length_cons]
   omega
  rw [if_neg hc]
  by_cases hz:c.toNat=0∧0 < i
  ·rw [if_pos hz];simp
  ·rw [if_neg hz]
   refine ⟨.inr ⟨by simp,by simp⟩,hn⟩
theorem getL_le (l:List UInt8):(getL l).2≤l.length∧(getL l).1 < 18446744073709551616:=by
 have:=getF_le l 0 0 (by decide) (by decide)
 unfold getL
 omega
/-- The text at the front, and its bytes. -/
def cutL (l:List UInt8):List UInt8×Nat:=
 if (getL l).2=0∨l.length - (getL l).2 < (getL l).1 then ([],0) else ((l.drop (getL l).2).take (getL l).1,(getL l).2 + (getL l).1)
theorem conv_bytes {w:World} {M:List Nat} {A:Option Addr} {l:List UInt8} {c:Nat} (h:Bs w M (.slice A l.length c) l) :
  (convert 50 9 (.slice A l.length c)).run Tryz.prog w=.ok (.string ⟨l.toArray⟩) w:=by
 obtain ⟨A',c',he,_,_,hr⟩:=h
 injection he with h1 h2 h3
 subst h1
 by_cases h0:0 < l.length
 ·obtain ⟨g,off,rfl,_,_,hx⟩:=hr h0
  have := run_convert_bytes_arg (P := Tryz.prog) w 50 5 Tryz.underlying50 Tryz.underlying5 g off l.length c (l.map fun b => (b.toNat : Int)) (by simp) (fun i hi => by
   rw [hx i (bV l[i]) (by simp [hi])]
   simp [bV, List.getD, hi]) 9 Tryz.underlying9
  rw [this]
  congr 3
  simp only [strOfNums,List.map_map]
  congr 1
  rw [show (fun n:Int=>UInt8.ofNat n.toNat) ∘ (fun b:UInt8=>(b.toNat:Int))=id from by funext b;simp]
  simp
 ·obtain rfl:l=[]:=List.length_eq_zero_iff.1 (by omega)
  rw [run_convert_bytes_string w _ _ 5 _ _ c Tryz.underlying50 Tryz.underlying5 Tryz.underlying9]
  cases A <;> simp [Conv.bytesToString,loadCells]
  all_goals rfl
/-- A part of bytes. -/
theorem Bs.part {w:World} {M:List Nat} {g off c:Nat} {l:List UInt8} (h:Bs w M (.slice (some ⟨g,off,none⟩) l.length c) l) (k n:Nat) (hk:k + n≤l.length) (c':Nat) (hc:n≤c') (a:Option Addr) (ha:0 < n→a=some ⟨g,off + k,none⟩) :
  Bs w M (.slice a ((l.drop k).take n).length c') ((l.drop k).take n):=by
 obtain ⟨A',c'',he,_,_,hr⟩:=h
 injection he with h1 h2 h3
 subst h1
 have hlen:((l.drop k).take n).length=n:=by rw [List.length_take,List.length_drop];omega
 refine ⟨a,c',rfl,by omega,by simp,fun hn=>?_⟩
 obtain ⟨g',off',e,hg,hm,hx⟩:=hr (by omega)
 injection e with e
 injection e with e1 e2 _
 subst e1 e2
 refine ⟨g,off + k,ha (by omega),hg,hm,fun j u hu=>?_⟩
 have hj:j < n:=by have:=(List.getElem?_eq_some_iff.1 hu).1;rw [List.length_map,hlen] at this;exact this
 rw [Nat.add_assoc]
 refine hx (k + j) u ?_
 rw [List.getElem?_map] at hu ⊢
 rw [List.getElem?_take_of_lt hj,List.getElem?_drop] at hu
 exact hu
theorem cut_any (v:Value) (l:List UInt8) (w:World) (h:Bs w [] v l) (hl:l.length≤4611686018427387904) :
  Calls Tryz.prog 307 #[v] w fun e w'=>e=.returned (.tuple #[.string ⟨(cutL l).1.toArray⟩,.int .i64 (cutL l).2])∧∃ q,w'=w.drewN q:=by
 have hg:=Lib.hid (get_any v l w h hl)
 obtain ⟨A,c,rfl,hc⟩:=h.len
 have H:=Lib.hid h
 obtain ⟨hk,hn⟩:=getL_le l
 have HC:=Lib.hid (show cutL l=(if (getL l).2=0∨l.length - (getL l).2 < (getL l).1 then ([],0) else ((l.drop (getL l).2).take (getL l).1,(getL l).2 + (getL l).1)) from rfl)
 clear h
 generalize (getL l).1=n at *
 generalize (getL l).2=k at *
 go_enter Tryz.func307,Tryz.ntmps307
 go_wp2_with fail
 refine hg.out.mono ?_
 rintro e w1 ⟨rfl,q,rfl⟩
 by_cases hk0:k=0
 ·have hR:Hid (cutL l=([],0)):=by show _=_;rw [HC.out,if_pos (.inl hk0)]
  subst hk0
  clear hg HC
  go_wp2
  go_ret2
  rw [hR.out]
  exact ⟨rfl,q,rfl⟩
 ·have hkz:((k:Int) == 0)=false:=by simpa using hk0
  by_cases hgt:l.length - k < n
  ·have hR:Hid (cutL l=([],0)):=by show _=_;rw [HC.out,if_pos (.inr hgt)]
   have hgi:(l.length:Int) - (k:Int) < (n:Int):=by omega
   have hgj:(0:Int)≤(l.length:Int) - (k:Int):=by omega
   clear hg HC
   go_wp2
   go_ret2
   rw [hR.out]
   exact ⟨rfl,q,rfl⟩
  ·have hR:Hid (cutL l=((l.drop k).take n,k + n)):=by show _=_;rw [HC.out,if_neg (by omega)]
   have hgi:decide ((l.length:Int) - (k:Int) < (n:Int))=false:=decide_eq_false (by omega)
   have hgj:(0:Int)≤(l.length:Int) - (k:Int):=by omega
   have hkn:(k:Int) + (n:Int)≤(l.length:Int):=by omega
   clear hg HC
   have hl0:0 < l.length:=by omega
   obtain ⟨g,off,rfl⟩:∃ g off,A=some ⟨g,off,none⟩:=by
    obtain ⟨A',c',he,_,_,hr⟩:=H.out
    injection he with h1 h2 h3
    subst h1
    obtain ⟨g,off,e,_⟩:=hr hl0
    exact ⟨g,off,e⟩
   by_cases hck:c=k
   ·obtain rfl:n=0:=by omega
    have hp:Bs (w.drewN q) [] (.slice (some ⟨g,off,none⟩) ([]:List UInt8).length 0) []:=⟨_,0,rfl,Nat.le_refl _,rfl,fun h=>absurd h (by simp)⟩
    have hcv:=conv_bytes hp
    rw [List.length_nil] at hcv
    rw [List.take_zero] at hR
    clear hp
    go_wp2
    go_ret2
    rw [hR.out]
    exact ⟨by simp,q,rfl⟩
   ·have hp:=(H.out.keep (M':=[]) ((Keeps.refl [] w).drewN q) (by simp)).part k n (by omega) (c - k) (by omega) (some ⟨g,off + k,none⟩) (fun _=>rfl)
    have hlen:((l.drop k).take n).length=n:=by rw [List.length_take,List.length_drop];omega
    have hcv:=conv_bytes hp
    rw [hlen] at hcv
    clear hp hlen
    go_wp2
    go_ret2
    rw [hR.out]
    exact ⟨by simp,q,rfl⟩
/-- A reader lies in block p: what is left, and whether something was not there. -/
def RdAt (w:World) (M:List Nat) (p:Nat) (l:List UInt8) (bad:Bool):Prop:=l.length≤4611686018427387904∧∃ v,Blk w p 338 #[v,.bool bad]∧Bs w (p :: M) v l
theorem RdAt.lt {w:World} {M:List Nat} {p:Nat} {l:List UInt8} {bad:Bool} (h:RdAt w M p l bad):p < w.heap.size:=by obtain ⟨_,_,h,_⟩:=h;exact h.lt
theorem RdAt.keep {w w':World} {M M':List Nat} {p:Nat} {l:List UInt8} {bad:Bool} (h:RdAt w M p l bad) (k:Keeps M' w w') (hM:∀ g∈M',g∈M∨w.heap.size≤g) (hp:p∉M'):RdAt w' M p l bad:=by
 obtain ⟨hl,v,hb,hs⟩:=h
 exact ⟨hl,v,k.blk hb hp,hs.keep k (fun g hg=>(hM g hg).imp (fun h=>List.mem_cons_of_mem _ h) id)⟩
theorem RdAt.avoid {w:World} {M M':List Nat} {p:Nat} {l:List UInt8} {bad:Bool} (h:RdAt w M p l bad) (hM:∀ g∈M',g∈M∨w.heap.size≤g):RdAt w M' p l bad:=by
 obtain ⟨hl,v,hb,hs⟩:=h
 exact ⟨hl, v, hb, hs.avoid (fun g hg => by
  rcases List.mem_cons.1 hg with rfl | hg
  ·exact .inl (by simp)
  ·exact (hM g hg).imp (fun h => List.mem_cons_of_mem _ h) id)⟩
theorem RdAt.setBad {w:World} {M:List Nat} {p:Nat} {l:List UInt8} {bad:Bool} (h:RdAt w M p l bad):RdAt (w.setCell ⟨p,1,none⟩ (.bool true)) M p l true:=by
 obtain ⟨hl,v,hb,hs⟩:=h
 exact ⟨hl,v,by simpa using hb.set_ 1 (.bool true),hs.keep (M':=[p]) ((Keeps.refl _ _).setCell (by simp) _) (fun g hg=>.inl (by simp at hg;simp [hg]))⟩
theorem RdAt.setB {w:World} {M:List Nat} {p:Nat} {l l':List UInt8} {bad:Bool} {v':Value} (h:RdAt w M p l bad) (hl:l'.length≤l.length) (hv:Bs w (p :: M) v' l'):RdAt (w.setCell ⟨p,0,none⟩ v') M p l' bad:=by
 obtain ⟨hl0,v,hb,hs⟩:=h
 exact ⟨by omega,v',by simpa using hb.set_ 0 v',hv.keep (M':=[p]) ((Keeps.refl _ _).setCell (by simp) _) (fun g hg=>.inl (by simp at hg;simp [hg]))⟩
/-- What is left behind k bytes. -/
theorem Bs.behind {w:World} {M:List Nat} {g off c:Nat} {l:List UInt8} (h:Bs w M (.slice (some ⟨g,off,none⟩) l.length c) l) (k:Nat) (hk:k≤l.length) (hc:l.length≤c) :
  Bs w M (.slice (some ⟨g,off + k,none⟩) (l.length - k) (c - k)) (l.drop k):=by
 have h1:=h.part k (l.length - k) (by omega) (c - k) (by omega) (some ⟨g,off + k,none⟩) (fun _=>rfl)
 have h2:(l.drop k).take (l.length - k)=l.drop k:=List.take_of_length_le (by rw [List.length_drop];exact Nat.le_refl _)
 rw [h2,List.length_drop] at h1
 exact h1
theorem Bs.some_ {w:World} {M:List Nat} {A:Option Addr} {l:List UInt8} {c:Nat} (h:Bs w M (.slice A l.length c) l) (h0:0 < l.length):∃ g off,A=some ⟨g,off,none⟩:=by
 obtain ⟨A',c',he,_,_,hr⟩:=h
 injection he with h1 h2 h3
 subst h1
 obtain ⟨g,off,e,_⟩:=hr h0
 exact ⟨g,off,e⟩
theorem new_any (M:List Nat) (v:Value) (l:List UInt8) (w:World) (h:Bs w M v l) (hl:l.length≤4611686018427387904) :
  Calls Tryz.prog 208 #[v] w fun e w'=>e=.returned (.pointer (some ⟨w.heap.size,0,none⟩))∧RdAt w' M w.heap.size l false∧Below w.heap.size w w':=by
 have hR:Hid (RdAt (w.alloc (.cells #[v,.bool false] 338)) M w.heap.size l false):=
  ⟨hl,v,Blk.new w _ _,(h.avoid (M':=w.heap.size :: M) (fun g hg=>by rcases List.mem_cons.1 hg with rfl | hg;exact .inr (Nat.le_refl _);exact .inl hg)).keep (M':=[]) ((Keeps.refl _ _).alloc _) (by simp)⟩
 obtain ⟨A,c,rfl,hc⟩:=h.len
 clear h
 go_enter Tryz.func208,Tryz.ntmps208
 go_wp2
 go_ret
 exact ⟨rfl,hR.out,(Below.refl _ _).alloc (Nat.le_refl _) _⟩
theorem done_any (M:List Nat) (p:Nat) (l:List UInt8) (bad:Bool) (w:World) (h:RdAt w M p l bad) :
  Calls Tryz.prog 211 #[.pointer (some ⟨p,0,none⟩)] w fun e w'=>e=.returned (.bool (!bad && l.isEmpty))∧w=w':=by
 obtain ⟨hl,v,hb,hs⟩:=h
 obtain ⟨A,c,rfl,hc⟩:=hs.len
 have c0:w.cell? ⟨p,0,none⟩=some (.slice A l.length c):=hb.cell 0
 have c1:w.cell? ⟨p,1,none⟩=some (.bool bad):=hb.cell 1
 clear hb hs
 cases bad with
 | true=>
  go_enter Tryz.func211,Tryz.ntmps211
  go_wp2
  go_ret
  exact ⟨rfl,rfl⟩
 | false=>
  have hR:Hid (l.isEmpty=((l.length:Int) == 0)):=by show _=_;cases l <;> simp <;> omega
  go_enter Tryz.func211,Tryz.ntmps211
  go_wp2
  go_ret
  rw [hR.out]
  exact ⟨rfl,rfl⟩
/-- What a call of a reader answers: a value, and how the reader stands. -/
def RdPost (M:List Nat) (p:Nat) (v:Value) (l:List UInt8) (bad:Bool) (w:World) (e:Ending) (w':World):Prop:=e=.returned v∧RdAt w' M p l bad∧Keeps [p] w w'
def numS (l:List UInt8) (bad:Bool):Nat×List UInt8×Bool:=if bad=true∨(getL l).2=0 then (0,l,true) else ((getL l).1,l.drop (getL l).2,false)
theorem number_any (M:List Nat) (p:Nat) (l:List UInt8) (bad:Bool) (w:World) (h:RdAt w M p l bad) :
  Calls Tryz.prog 216 #[.pointer (some ⟨p,0,none⟩)] w fun e w'=>RdPost M p (.int .u64 (numS l bad).1) (numS l bad).2.1 (numS l bad).2.2 w e w':=by
 obtain ⟨hl,v,hb,hs⟩:=id h
 obtain ⟨A,c,rfl,hc⟩:=hs.len
 have hg:=Lib.hid (get_any _ l w (hs.avoid (M':=[]) (by simp)) hl)
 have hr:Hid (∀ q,RdPost M p (.int .u64 0) l true w (.returned (.int .u64 0)) ((w.drewN q).setCell ⟨p,1,none⟩ (.bool true))):=fun q=>
  ⟨rfl,(h.keep (M':=[]) ((Keeps.refl _ _).drewN q) (by simp) (by simp)).setBad,((Keeps.refl _ _).drewN q).setCell (by simp) _⟩
 have hr2:Hid (∀ q v' l',bad=false→l'.length≤l.length→Bs w (p :: M) v' l'→∀ n,RdPost M p (.int .u64 n) l' false w (.returned (.int .u64 n)) ((w.drewN q).setCell ⟨p,0,none⟩ v')):=fun q v' l' hb0 hll hv n=>by
  subst hb0
  exact ⟨rfl,(h.keep (M':=[]) ((Keeps.refl _ _).drewN q) (by simp) (by simp)).setB hll (hv.keep (M':=[]) ((Keeps.refl _ _).drewN q) (by simp)),((Keeps.refl _ _).drewN q).setCell (by simp) _⟩
 have HN:Hid (numS l bad=if bad=true∨(getL l).2=0 then (0,l,true) else ((getL l).1,l.drop (getL l).2,false)):=rfl
 have hk:=(getL_le l).1
 have Hs:=Lib.hid hs
 have c0:w.cell? ⟨p,0,none⟩=some (.slice A l.length c):=hb.cell 0
 have c1:w.cell? ⟨p,1,none⟩=some (.bool bad):=hb.cell 1
 have f0:w.frozen? ⟨p,0,none⟩=false:=hb.frozen 0
 have f1:w.frozen? ⟨p,1,none⟩=false:=hb.frozen 1
 clear h hb hs
 generalize (getL l).1=n at *
 generalize (getL l).2=k at *
 cases bad with
 | true=>
  have hR:Hid (numS l true=(0,l,true)):=by show _=_;rw [HN.out];simp
  rw [hR.out]
  clear HN hr2
  go_enter Tryz.func216,Tryz.ntmps216
  go_wp2_with fail
  refine hg.out.mono ?_
  rintro e w1 ⟨rfl,q,rfl⟩
  go_wp2
  go_ret
  exact hr.out q
 | false=>
  by_cases hk0:k=0
  ·have hR:Hid (numS l false=(0,l,true)):=by show _=_;rw [HN.out,if_pos (.inr hk0)]
   rw [hR.out]
   subst hk0
   clear HN hr2
   go_enter Tryz.func216,Tryz.ntmps216
   go_wp2_with fail
   refine hg.out.mono ?_
   rintro e w1 ⟨rfl,q,rfl⟩
   go_wp2
   go_ret
   exact hr.out q
  ·have hR:Hid (numS l false=(n,l.drop k,false)):=by show _=_;rw [HN.out,if_neg (by simp [hk0])]
   rw [hR.out]
   have hkz:((k:Int) == 0)=false:=by simpa using hk0
   have hki:(k:Int)≤(l.length:Int):=by omega
   obtain ⟨g,off,rfl⟩:=Hs.out.some_ (by omega)
   clear HN hr
   by_cases hck:c=k
   ·have hd:Hid (l.drop k=[]):=List.drop_eq_nil_of_le (by omega)
    have hp:Hid (∀ q,RdPost M p (.int .u64 n) (l.drop k) false w (.returned (.int .u64 n)) ((w.drewN q).setCell ⟨p,0,none⟩ (.slice (some ⟨g,off,none⟩) 0 0))):=fun q=>by
     rw [hd.out]
     exact hr2.out q _ [] rfl (by simp) ⟨_,0,rfl,Nat.le_refl _,rfl,fun h=>absurd h (by simp)⟩ n
    have hkl:l.length=k:=by omega
    subst hck
    rw [hkl] at c0
    have hg2:=Lib.hid (show Calls Tryz.prog 278 #[.slice (some ⟨g,off,none⟩) c c] w fun e w'=>e=.returned (.tuple #[.int .u64 n,.int .i64 c])∧∃ q,w'=w.drewN q by have:=hg.out;rwa [hkl] at this)
    clear hg hr2 hki hk hc hd hkl Hs
    go_enter Tryz.func216,Tryz.ntmps216
    go_wp2_with fail
    refine hg2.out.mono ?_
    rintro e w1 ⟨rfl,q,rfl⟩
    go_wp2
    go_ret
    exact hp.out q
   ·have hp:Hid (∀ q,RdPost M p (.int .u64 n) (l.drop k) false w (.returned (.int .u64 n)) ((w.drewN q).setCell ⟨p,0,none⟩ (.slice (some ⟨g,off + k,none⟩) (l.length - k) (c - k)))):=fun q=>
     hr2.out q _ (l.drop k) rfl (by rw [List.length_drop];omega) (by have:=Hs.out.behind k hk hc;rwa [← List.length_drop] at this ⊢) n
    go_enter Tryz.func216,Tryz.ntmps216
    go_wp2_with fail
    refine hg.out.mono ?_
    rintro e w1 ⟨rfl,q,rfl⟩
    go_wp2
    go_ret
    exact hp.out q
theorem cutL_le (l:List UInt8):(cutL l).2≤l.length:=by
 have:=(getL_le l).1
 unfold cutL
 split
 ·simp
 ·simp only;omega
def textS (l:List UInt8) (bad:Bool):List UInt8×List UInt8×Bool:=if bad=true∨(cutL l).2=0 then ([],l,true) else ((cutL l).1,l.drop (cutL l).2,false)
theorem rtext_any (M:List Nat) (p:Nat) (l:List UInt8) (bad:Bool) (w:World) (h:RdAt w M p l bad) :
  Calls Tryz.prog 274 #[.pointer (some ⟨p,0,none⟩)] w fun e w'=>RdPost M p (.string ⟨(textS l bad).1.toArray⟩) (textS l bad).2.1 (textS l bad).2.2 w e w':=by
 obtain ⟨hl,v,hb,hs⟩:=id h
 obtain ⟨A,c,rfl,hc⟩:=hs.len
 have hg:=Lib.hid (cut_any _ l w (hs.avoid (M':=[]) (by simp)) hl)
 have hr:Hid (∀ q,RdPost M p (.string ⟨#[]⟩) l true w (.returned (.string ⟨#[]⟩)) ((w.drewN q).setCell ⟨p,1,none⟩ (.bool true))):=fun q=>
  ⟨rfl,(h.keep (M':=[]) ((Keeps.refl _ _).drewN q) (by simp) (by simp)).setBad,((Keeps.refl _ _).drewN q).setCell (by simp) _⟩
 have hr2:Hid (∀ q v' l',bad=false→l'.length≤l.length→Bs w (p :: M) v' l'→∀ n:List UInt8,RdPost M p (.string ⟨n.toArray⟩) l' false w (.returned (.string ⟨n.toArray⟩)) ((w.drewN q).setCell ⟨p,0,none⟩ v')):=fun q v' l' hb0 hll hv n=>by
  subst hb0
  exact ⟨rfl,(h.keep (M':=[]) ((Keeps.refl _ _).drewN q) (by simp) (by simp)).setB hll (hv.keep (M':=[]) ((Keeps.refl _ _).drewN q) (by simp)),((Keeps.refl _ _).drewN q).setCell (by simp) _⟩
 have HN:Hid (textS l bad=if bad=true∨(cutL l).2=0 then ([],l,true) else ((cutL l).1,l.drop (cutL l).2,false)):=rfl
 have hk:=cutL_le l
 have Hs:=Lib.hid hs
 have c0:w.cell? ⟨p,0,none⟩=some (.slice A l.length c):=hb.cell 0
 have c1:w.cell? ⟨p,1,none⟩=some (.bool bad):=hb.cell 1
 have f0:w.frozen? ⟨p,0,none⟩=false:=hb.frozen 0
 have f1:w.frozen? ⟨p,1,none⟩=false:=hb.frozen 1
 clear h hb hs
 generalize (cutL l).1=n at *
 generalize (cutL l).2=k at *
 cases bad with
 | true=>
  have hR:Hid (textS l true=([],l,true)):=by show _=_;rw [HN.out];simp
  rw [hR.out]
  clear HN hr2
  go_enter Tryz.func274,Tryz.ntmps274
  go_wp2_with fail
  refine hg.out.mono ?_
  rintro e w1 ⟨rfl,q,rfl⟩
  go_wp2
  go_ret
  exact hr.out q
 | false=>
  by_cases hk0:k=0
  ·have hR:Hid (textS l false=([],l,true)):=by show _=_;rw [HN.out,if_pos (.inr hk0)]
   rw [hR.out]
   subst hk0
   clear HN hr2
   go_enter Tryz.func274,Tryz.ntmps274
   go_wp2_with fail
   refine hg.out.mono ?_
   rintro e w1 ⟨rfl,q,rfl⟩
   go_wp2
   go_ret
   exact hr.out q
  ·have hR:Hid (textS l false=(n,l.drop k,false)):=by show _=_;rw [HN.out,if_neg (by simp [hk0])]
   rw [hR.out]
   have hkz:((k:Int) == 0)=false:=by simpa using hk0
   have hki:(k:Int)≤(l.length:Int):=by omega
   obtain ⟨g,off,rfl⟩:=Hs.out.some_ (by omega)
   clear HN hr
   by_cases hck:c=k
   ·have hd:Hid (l.drop k=[]):=List.drop_eq_nil_of_le (by omega)
    have hp:Hid (∀ q,RdPost M p (.string ⟨n.toArray⟩) (l.drop k) false w (.returned (.string ⟨n.toArray⟩)) ((w.drewN q).setCell ⟨p,0,none⟩ (.slice (some ⟨g,off,none⟩) 0 0))):=fun q=>by
     rw [hd.out]
     exact hr2.out q _ [] rfl (by simp) ⟨_,0,rfl,Nat.le_refl _,rfl,fun h=>absurd h (by simp)⟩ n
    have hkl:l.length=k:=by omega
    subst hck
    rw [hkl] at c0
    have hg2:=Lib.hid (show Calls Tryz.prog 307 #[.slice (some ⟨g,off,none⟩) c c] w fun e w'=>e=.returned (.tuple #[.string ⟨n.toArray⟩,.int .i64 c])∧∃ q,w'=w.drewN q by have:=hg.out;rwa [hkl] at this)
    clear hg hr2 hki hk hc hd hkl Hs
    go_enter Tryz.func274,Tryz.ntmps274
    go_wp2_with fail
    refine hg2.out.mono ?_
    rintro e w1 ⟨rfl,q,rfl⟩
    go_wp2
    go_ret
    exact hp.out q
   ·have hp:Hid (∀ q,RdPost M p (.string ⟨n.toArray⟩) (l.drop k) false w (.returned (.string ⟨n.toArray⟩)) ((w.drewN q).setCell ⟨p,0,none⟩ (.slice (some ⟨g,off + k,none⟩) (l.length - k) (c - k)))):=fun q=>
     hr2.out q _ (l.drop k) rfl (by rw [List.length_drop];omega) (by have:=Hs.out.behind k hk hc;rwa [← List.length_drop] at this ⊢) n
    go_enter Tryz.func274,Tryz.ntmps274
    go_wp2_with fail
    refine hg.out.mono ?_
    rintro e w1 ⟨rfl,q,rfl⟩
    go_wp2
    go_ret
    exact hp.out q
def byteS (l:List UInt8) (bad:Bool):UInt8×List UInt8×Bool:=if bad=true then (0,l,true) else match l with | []=>(0,[],true) | c :: r=>(c,r,false)
theorem byte_any (M:List Nat) (p:Nat) (l:List UInt8) (bad:Bool) (w:World) (h:RdAt w M p l bad) :
  Calls Tryz.prog 306 #[.pointer (some ⟨p,0,none⟩)] w fun e w'=>RdPost M p (bV (byteS l bad).1) (byteS l bad).2.1 (byteS l bad).2.2 w e w':=by
 obtain ⟨hl,v,hb,hs⟩:=id h
 obtain ⟨A,c,rfl,hc⟩:=hs.len
 have hr:Hid (RdPost M p (bV 0) l true w (.returned (.int .u8 0)) (w.setCell ⟨p,1,none⟩ (.bool true))):=
  ⟨rfl,h.setBad,(Keeps.refl _ _).setCell (by simp) _⟩
 have hr2:Hid (∀ v' l',bad=false→l'.length≤l.length→Bs w (p :: M) v' l'→∀ x,RdPost M p (bV x) l' false w (.returned (bV x)) (w.setCell ⟨p,0,none⟩ v')):=fun v' l' hb0 hll hv x=>by
  subst hb0
  exact ⟨rfl,h.setB hll hv,(Keeps.refl _ _).setCell (by simp) _⟩
 have Hs:=Lib.hid hs
 have c0:w.cell? ⟨p,0,none⟩=some (.slice A l.length c):=hb.cell 0
 have c1:w.cell? ⟨p,1,none⟩=some (.bool bad):=hb.cell 1
 have f0:w.frozen? ⟨p,0,none⟩=false:=hb.frozen 0
 have f1:w.frozen? ⟨p,1,none⟩=false:=hb.frozen 1
 clear h hb hs
 cases bad with
 | true=>
  clear hr2
  show Calls _ _ _ _ fun e w'=>RdPost M p (bV 0) l true w e w'
  go_enter Tryz.func306,Tryz.ntmps306
  go_wp2
  go_ret
  exact hr.out
 | false=>
  cases l with
  | nil=>
   clear hr2
   show Calls _ _ _ _ fun e w'=>RdPost M p (bV 0) [] true w e w'
   rw [List.length_nil] at c0
   go_enter Tryz.func306,Tryz.ntmps306
   go_wp2
   go_ret
   exact hr.out
  | cons x r=>
   show Calls _ _ _ _ fun e w'=>RdPost M p (bV x) r false w e w'
   obtain ⟨g,off,rfl⟩:=Hs.out.some_ (by simp)
   have hx:w.cell? ⟨g,off,none⟩=some (.int .u8 x.toNat):=by
    obtain ⟨A',c',he,_,_,hr⟩:=Hs.out
    injection he with h1 h2 h3
    subst h1
    obtain ⟨g',off',e,_,_,hx⟩:=hr (by simp)
    injection e with e
    injection e with e1 e2 _
    subst e1 e2
    exact hx 0 _ rfl
   obtain ⟨n,hn⟩:∃ n,n=r.length:=⟨_,rfl⟩
   have hln:(x :: r).length=n + 1:=by rw [hn];rfl
   rw [hln] at c0 hc
   have hbe:=Lib.hid (Hs.out.behind 1 (by simp) (by rw [hln];exact hc))
   have hnz:(((n + 1:Nat):Int) == 0)=false:=by simp;omega
   clear hr
   by_cases hck:c=1
   ·subst hck
    obtain rfl:n=0:=by omega
    obtain rfl:r=[]:=List.length_eq_zero_iff.1 hn.symm
    have hp:=Lib.hid (hr2.out (.slice (some ⟨g,off,none⟩) 0 0) [] rfl (by simp) ⟨_,0,rfl,Nat.le_refl _,rfl,fun h=>absurd h (by simp)⟩ x)
    unfold bV at hp
    clear hr2 hbe Hs hln hn
    go_enter Tryz.func306,Tryz.ntmps306
    go_wp2
    go_ret
    exact hp.out
   ·have hp:Hid (RdPost M p (bV x) r false w (.returned (.int .u8 x.toNat)) (w.setCell ⟨p,0,none⟩ (.slice (some ⟨g,off + 1,none⟩) n (c - 1)))):=
     hr2.out _ r rfl (by simp) (by have:=hbe.out;rw [hln,Nat.add_sub_cancel,hn] at this;rw [hn];exact this) x
    have h1c:(1:Int)≤((n + 1:Nat):Int):=by omega
    have h2c:((n + 1:Nat):Int)≤(c:Int):=by omega
    clear hr2 hbe Hs hln hn
    go_enter Tryz.func306,Tryz.ntmps306
    go_wp2
    go_ret
    exact hp.out
def intS (l:List UInt8) (bad:Bool):Nat×List UInt8×Bool:=if 9223372036854775807 < (numS l bad).1 then (0,(numS l bad).2.1,true) else numS l bad
theorem numS_lt (l:List UInt8) (bad:Bool):(numS l bad).1 < 18446744073709551616:=by
 have:=(getL_le l).2
 unfold numS
 split
 ·simp
 ·simpa using this
theorem rint_any (M:List Nat) (p:Nat) (l:List UInt8) (bad:Bool) (w:World) (h:RdAt w M p l bad) :
  Calls Tryz.prog 209 #[.pointer (some ⟨p,0,none⟩)] w fun e w'=>RdPost M p (.int .i64 (intS l bad).1) (intS l bad).2.1 (intS l bad).2.2 w e w':=by
 have hN:=Lib.hid (number_any M p l bad w h)
 have hlt:=numS_lt l bad
 have HI:Hid (intS l bad=if 9223372036854775807 < (numS l bad).1 then (0,(numS l bad).2.1,true) else numS l bad):=rfl
 generalize numS l bad=r at *
 obtain ⟨n,l',b'⟩:=r
 simp only at hN hlt HI
 clear h
 by_cases hbig:9223372036854775807 < n
 ·have hR:Hid (intS l bad=(0,l',true)):=by show _=_;rw [HI.out,if_pos hbig]
  rw [hR.out]
  have hbi:(9223372036854775807:Int) < (n:Int):=by omega
  go_enter Tryz.func209,Tryz.ntmps209
  go_wp2_with fail
  refine hN.out.mono ?_
  rintro e w1 ⟨rfl,hA,hk⟩
  have hp:Hid (RdPost M p (.int .i64 0) l' true w (.returned (.int .i64 0)) (w1.setCell ⟨p,1,none⟩ (.bool true))):=⟨rfl,hA.setBad,hk.setCell (by simp) _⟩
  obtain ⟨_,v,hb,_⟩:=hA
  have c1:=hb.cell 1
  have f1:w1.frozen? ⟨p,1,none⟩=false:=hb.frozen 1
  simp only [List.getElem?_toArray,List.getElem?_cons_succ,List.getElem?_cons_zero] at c1
  clear hb hk
  go_wp2
  go_ret
  exact hp.out
 ·have hR:Hid (intS l bad=(n,l',b')):=by show _=_;rw [HI.out,if_neg hbig]
  rw [hR.out]
  have hbi:decide ((9223372036854775807:Int) < (n:Int))=false:=decide_eq_false (by omega)
  go_enter Tryz.func209,Tryz.ntmps209
  go_wp2_with fail
  refine hN.out.mono ?_
  rintro e w1 ⟨rfl,hA,hk⟩
  have hp:Hid (RdPost M p (.int .i64 n) l' b' w (.returned (.int .i64 n)) w1):=⟨rfl,hA,hk⟩
  clear hA hk
  go_wp2
  go_ret
  exact hp.out
def countS (l:List UInt8) (bad:Bool) (most:Nat):Nat×List UInt8×Bool:=if most < (intS l bad).1 then (0,(intS l bad).2.1,true) else intS l bad
theorem intS_lt (l:List UInt8) (bad:Bool):(intS l bad).1≤9223372036854775807:=by
 unfold intS
 split
 ·simp
 ·omega
theorem count_any (M:List Nat) (p:Nat) (l:List UInt8) (bad:Bool) (most:Nat) (hm:most≤1000000) (w:World) (h:RdAt w M p l bad) :
  Calls Tryz.prog 272 #[.pointer (some ⟨p,0,none⟩),.int .i64 most] w fun e w'=>RdPost M p (.int .i64 (countS l bad most).1) (countS l bad most).2.1 (countS l bad most).2.2 w e w':=by
 have hN:=Lib.hid (rint_any M p l bad w h)
 have hlt:=intS_lt l bad
 have HI:Hid (countS l bad most=if most < (intS l bad).1 then (0,(intS l bad).2.1,true) else intS l bad):=rfl
 generalize intS l bad=r at *
 obtain ⟨n,l',b'⟩:=r
 simp only at hN hlt HI
 clear h
 by_cases hbig:most < n
 ·have hR:Hid (countS l bad most=(0,l',true)):=by show _=_;rw [HI.out,if_pos hbig]
  rw [hR.out]
  have hbi:(most:Int) < (n:Int):=by omega
  go_enter Tryz.func272,Tryz.ntmps272
  go_wp2_with fail
  refine hN.out.mono ?_
  rintro e w1 ⟨rfl,hA,hk⟩
  have hp:Hid (RdPost M p (.int .i64 0) l' true w (.returned (.int .i64 0)) (w1.setCell ⟨p,1,none⟩ (.bool true))):=⟨rfl,hA.setBad,hk.setCell (by simp) _⟩
  obtain ⟨_,v,hb,_⟩:=hA
  have c1:=hb.cell 1
  have f1:w1.frozen? ⟨p,1,none⟩=false:=hb.frozen 1
  simp only [List.getElem?_toArray,List.getElem?_cons_succ,List.getElem?_cons_zero] at c1
  clear hb hk
  go_wp2
  go_ret
  exact hp.out
 ·have hR:Hid (countS l bad most=(n,l',b')):=by show _=_;rw [HI.out,if_neg hbig]
  rw [hR.out]
  have hbi:decide ((most:Int) < (n:Int))=false:=decide_eq_false (by omega)
  go_enter Tryz.func272,Tryz.ntmps272
  go_wp2_with fail
  refine hN.out.mono ?_
  rintro e w1 ⟨rfl,hA,hk⟩
  have hp:Hid (RdPost M p (.int .i64 n) l' b' w (.returned (.int .i64 n)) w1):=⟨rfl,hA,hk⟩
  clear hA hk
  go_wp2
  go_ret
  exact hp.out
def charOk (c:UInt8):Bool:=(97≤c.toNat && c.toNat≤122) || (48≤c.toNat && c.toNat≤57) || c.toNat == 95
def nameOk (s:ByteArray):Bool:=decide (1≤s.size) && decide (s.size≤32) && (sB s).all charOk
theorem sB_len (s:ByteArray):(sB s).length=s.size:=rfl
theorem name_any (s:ByteArray) (w:World):Calls Tryz.prog 295 #[.string s] w fun e w'=>e=.returned (.bool (nameOk s))∧w=w':=by
  have Hn:Hid (nameOk s=(decide (1≤s.size) && decide (s.size≤32) && (sB s).all charOk)):=rfl
  have hs0:s.toList.length=s.size:=by rw [ByteArray.toList_eq];rfl
  by_cases h0:s.size=0
  · have hz:s.toList=[]:=List.length_eq_zero_iff.1 (by rw [hs0,h0])
    have hz2:s.toList.isEmpty=true:=by rw [hz];rfl
    have hR:Hid (nameOk s=false):=by show _=_;rw [Hn.out];simp [h0]
    rw [hR.out]
    go_enter Tryz.func295,Tryz.ntmps295
    go_wp2
    go_ret
    exact ⟨rfl,rfl⟩
  · have hz:s.toList≠[]:=fun h=>h0 (by rw [← hs0,h];rfl)
    have hz2:s.toList.isEmpty=false:=by simpa using hz
    by_cases h32:32 < s.size
    · have hi:(32:Int) < (s.size:Int):=by omega
      have hR:Hid (nameOk s=false):=by show _=_;rw [Hn.out];simp;omega
      rw [hR.out]
      go_enter Tryz.func295,Tryz.ntmps295
      go_wp2
      go_ret
      exact ⟨rfl,rfl⟩
    · have hi:decide ((32:Int) < (s.size:Int))=false:=decide_eq_false (by omega)
      go_enter Tryz.func295,Tryz.ntmps295
      go_wp2_with fail
      go_loopw [14] (fun i wr=>∃ x:Nat,i=.int .i64 x∧x≤s.size∧Hid (((sB s).take x).all charOk=true)∧w=wr) (fun i _=>s.size - (intOf i).toNat)
      case atStart=>exact ⟨0,rfl,by omega,rfl,rfl⟩
      case round=>
        obtain ⟨x,rfl,hx,Ht,rfl⟩:=hrel
        by_cases hlt:x < s.size
        · have hx1:(x:Int) < (s.size:Int):=by omega
          have hxb:x < (sB s).length:=hlt
          have hget:(sB s)[x]=s[x]:=rfl
          have Hnx:Hid (((sB s).take (x + 1)).all charOk=charOk s[x]):=by
            show _=_
            rw [List.take_succ_eq_append_getElem hxb,List.all_append,Ht.out,hget];simp
          have Hall:Hid (charOk s[x]=false→nameOk s=false):=fun h=>by
            rw [Hn.out]
            have:(sB s).all charOk=false:=by
              rw [List.all_eq_false]
              exact ⟨(sB s)[x],List.getElem_mem _,by rw [hget,h];simp⟩
            rw [this];simp
          have Hch:Hid (charOk s[x]=((decide (97≤s[x].toNat) && decide (s[x].toNat≤122)) || (decide (48≤s[x].toNat) && decide (s[x].toNat≤57)) || s[x].toNat == 95)):=rfl
          clear hget
          have Hny:Hid (charOk s[x]=true→((sB s).take (x + 1)).all charOk=true):=fun h=>Hnx.out.trans h
          clear Hnx
          go_wp2
          all_goals first
            | (go_roundw
               case rel=>
                 refine ⟨x + 1,by go_num,by omega,Hny.out ?_,trivial⟩
                 rw [Hch.out]
                 simp only [bne_eq_false_iff_eq,bne_iff_ne,ne_eq] at *
                 simp
                 omega
               case measure => simp [intOf] <;> omega)
            | (go_ret
               rw [Hall.out (by
                 rw [Hch.out]
                 simp only [bne_eq_false_iff_eq,bne_iff_ne,ne_eq] at *
                 simp
                 omega)]
               exact ⟨rfl, rfl⟩)
        · obtain rfl:x=s.size:=by omega
          have hR:Hid (nameOk s=true):=by
            show _=_
            rw [Hn.out]
            have:=Ht.out
            rw [List.take_of_length_le (by rw [sB_len];exact Nat.le_refl _)] at this
            rw [this];simp;omega
          go_wp2
          go_ret
          rw [hR.out]
          exact ⟨rfl,rfl⟩
end Go.Proofs.YtambjickanapjaaGreatDoor.Vi
end
