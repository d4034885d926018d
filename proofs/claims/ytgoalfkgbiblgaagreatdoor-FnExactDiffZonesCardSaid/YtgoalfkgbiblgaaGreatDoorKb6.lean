import Derived.Test.YtgoalfkgbiblgaaGreatDoorKb4
import Derived.Test.YtgoalfkgbiblgaaGreatDoorKb5
import Derived.Lib.Bytealg
import Derived.Test.YtgoalfkgbiblgaaGreatDoorKb3
import Derived.Test.YtgoalfkgbiblgaaGreatDoorProg
import Derived.KernelRfl
/- Data of records: the program's reader of forms, its check, where names stand. -/
set_option linter.unusedVariables false
set_option linter.unusedSimpArgs false
set_option maxRecDepth 100000
open Nat renaming reduceEqDiff→Jc,reduceAdd→Ja,reduceLT→Jb,reduceLeDiff→Jg
namespace Go.Vm
theorem Jif {t:Int} {p:List UInt8} (h:YI t=some p):(∀ f,f∈p→f∈([49,50,52,103,113,110,116,99,84,109,42]:List UInt8))∧p.length≤7:=by
 unfold YI at h;repeat' split at h
 all_goals first | (cases h;done) | (injection h with h;subst h;exact ⟨by decide,by decide⟩)
def JoO (r:Option (List (Nat×Nat))) (H:AH) (v:AV) (H':AH):Prop:=Ext H H'∧match r with
 | none=> ∃ o,v= .tp [o,.b false]∧o.outs=true
 | some sp=> ∃ o,v= .tp [o,.b true]∧Mx H' eSp o sp∧ ∀ i,i∈idA o→H.n≤i
def JdH (C:Tab) (f:Nat):Prop:= ∀ (t:Int) (d:List UInt8) (H:AH),JR H→d.length≤1099511627776→ ∃ v H',C f [.i .i64 t,.s d] H=some (v,H')∧JoO (Jjm t d) H v H'
def Jjz (C:Tab) (f:Nat):Prop:= ∀ (t:Int) (d:List UInt8) (H:AH),JR H→d.length≤1099511627776→ ∃ v H',C f [.i .i64 t,.s d] H=some (v,H')∧v= .i .i64 (chk t d)∧Ext H H'
def JbQ (C:Tab) (f:Nat):Prop:= ∀ (t:Int) (d:List UInt8) (H:AH),JR H→d.length≤1099511627776→ ∃ v H',C f [.i .i64 t,.s d] H=some (v,H')∧Ext H H'∧Mx H' eSp v (if chk t d=0 then (Jjm t d).getD [] else [])∧ ∀ i,i∈idA v→H.n≤i
section
variable {C:Tab}
set_option maxHeartbeats 1000000 in
theorem JnH {t:Int} {d:List UInt8} {H:AH} (hR:Jjb C Qq) (hN:JnM C YL) (hM:Jbw C XJ) (hF:JR H) (hd:d.length≤1099511627776):Jt C Jz [.i .i64 t,.s d] H (JoO (Jjm t d) H):=by
 unfold Jt;obtain ⟨B,hB,hs⟩:=Jof Jz [1,1,1,1,1,1,0,1,2,2,1,1,2,1,1,0,1];rw [hs];simp only [Jz,JaX];have hB':B=swP:=hB;obtain ⟨rw',mid,es,h1,h2,h3,h4,h5,h6⟩:=hF.ext (Ext.new H (.arr true 0 1 [.s d]));obtain ⟨f1,f2⟩:=JaT h1 rfl;have f3:JfI (H.new (.arr true 0 1 [.s d])) (.mp mid):=by simp only [JfI,h2]
 have f4:Yq (H.new (.arr true 0 1 [.s d])) (.mp mid)=es:=by simp only [Yq,h2]
 have f5:Jby [.i .i64] es (.i .i64 t):= .inl ⟨_,rfl,by simp [AV.isCk],h5⟩
 have f6:=(h6 t).trans (JjF t);simp only [JiY] at f1 f2;cases hi:YI t with
 | none=>
  rw [hi] at f6;have f6':Qf es (.i .i64 t)=none:=f6;rw [Jl7 hi];simp -implicitDefEqProofs only [bU,Jc,reduceCtorEq,Ja,Jb,bT,f1,f2,f3,f4,f5,f6',lkV,Jr,rsC,rsV,Js];exact ⟨.new _ _,.ns,rfl,.nil,by simp [idA]⟩
 | some p=>
  rw [hi] at f6;have f6':Qf es (.i .i64 t)=some (.s p):=f6;rw [JlQ hi];obtain ⟨hlet,hpl⟩:=Jif hi;have z9:((H.new (.arr true 0 1 [.s d])).new (.arr true 0 1 [.i .i64 0])).at' (H.n+1)= .arr true 0 1 [.i .i64 0]:=QD;obtain ⟨s1,s2⟩:=JkG z9 rfl (w:= .i .i64 0) rfl (fun cs h=>by cases h)
  have hset:(((H.new (.arr true 0 1 [.s d])).new (.arr true 0 1 [.i .i64 0])).set (H.n+1) (.arr true 0 1 [.i .i64 0]))=((H.new (.arr true 0 1 [.s d])).new (.arr true 0 1 [.i .i64 0])):=Jo8;rw [hset] at s2;have y1:JqT [AV.pv H.n 0,.pv (H.n+1) 0]=true:=rfl;have hnn:(H.new (.arr true 0 1 [.s d])).n=H.n+1:=rfl;simp -implicitDefEqProofs only [bU,Jc,reduceCtorEq,Ja,Jb,bT,f1,f2,f3,f4,f5,f6',lkV,hnn,s1,s2,y1];have hS0:PS H ((H.new (.arr true 0 1 [.s d])).new (.arr true 0 1 [.i .i64 0])) d 0 .ns []:=⟨(Jgu (by simp)).trans QD,QD,.nil,(Ext.new _ _).trans (Ext.new _ _),by simp [idA],by simp⟩
  refine Jl (fun n e M=> ∃ (i at':Nat) (sp:List (Nat×Nat)) (o:AV) (H':AH) (L:List Lv) (g g':Nat),i≤p.length∧n=p.length-i∧look e 3= .pv H.n 0∧look e 8=o∧look e 9= .pv (H.n+1) 0∧look e 10= .fn Qq [.pv H.n 0,.pv (H.n+1) 0]∧look e 29= .li 29 g'∧M=⟨L,g,H'⟩∧JJ [3,8,9,10,29] L=[⟨29,g',1,[.s p,.i .i64 i]⟩]∧PS H H' d at' o sp∧sp.length≤i∧at'≤d.length∧Je6 p d 0=(Je6 (p.drop i) (d.drop at') at').map fun q=>sp++q) ?_ (n:=p.length)
   ⟨0,0,[],.ns,_,_,_,_,by omega,by omega,rfl,rfl,rfl,rfl,rfl,rfl,rfl,hS0,by simp,by omega,by simp⟩
  rintro n e M ⟨i,at',sp,o,H',L,g,g',hil,rfl,q3,q8,q9,q10,q29,rfl,hL,hS,hsp,hat,hg⟩;have n1: ∀ g H,itC ⟨[⟨29,g',1,[.s p,.i .i64 i]⟩],g,H⟩ (.li 29 g'):=fun g H=>by simp [itC,Mem.hasL,Qx]
  have n2: ∀ g H,itS ⟨[⟨29,g',1,[.s p,.i .i64 i]⟩],g,H⟩ (.li 29 g')=p:=fun g H=>by simp [itS,Mem.getL,Qx]
  have n3: ∀ g H,itP ⟨[⟨29,g',1,[.s p,.i .i64 i]⟩],g,H⟩ (.li 29 g')=i:=fun g H=>by simp [itP,Mem.getL,Qx]
  by_cases hlt:i < p.length
  ·obtain ⟨f,hff⟩: ∃ f,p.getD i 0=f:=⟨_,rfl⟩
   have hmem:f∈p:=by
    rw [←hff,List.getD,List.getElem?_eq_getElem hlt];exact List.getElem_mem hlt
   have hfl:=hlet f hmem
   have hf128:f.toNat < 128:=by
    simp only [List.mem_cons,List.not_mem_nil,or_false] at hfl;rcases hfl with h | h | h | h | h | h | h | h | h | h | h<;>rw [h]<;>decide
   have hdec:Utf8.decode ⟨p.toArray⟩ i=(f.toNat,1):=by
    rw [←hff];exact JwP hlt (by rw [hff];exact hf128)
   have hdr:p.drop i=f::p.drop (i+1):=by rw [List.drop_eq_getElem_cons hlt,←hff];simp [List.getD,hlt]
   rw [hdr,Je6] at hg;simp -implicitDefEqProofs only [bU,Jc,Ja,Jb,bT,q3,q8,q9,q10,q29,hL,n1,n2,n3,hlt,hdec];rw [hB'];have hset2:Jhp [⟨29,g',1,[.s p,.i .i64 i]⟩] 29 [.s p,.i .i64 ((i+1:Nat):Int)]=[⟨29,g',1,[.s p,.i .i64 ((i+1:Nat):Int)]⟩]:=by simp [Jhp]
   simp only [hset2];refine JpY (f:=f) (d:=d) (at':=at') (sp:=sp) (H0:=H) hR hN hM hfl rfl rfl rfl rfl rfl rfl rfl hd hat (by omega) hS (fun e' L' g2 H2 o' n hk k8 k13 hkL hn hS2=> ?_) (fun e' L' g2 H2 k4 k5 he hn=> ?_)
   ·obtain ⟨k3,k9,k10,k29⟩:=hk
    simp only [bU,reduceIte,Jc] at k3 k9 k10 k29;rw [hn] at hg;simp only at hg;obtain ⟨a1,a2⟩:=JaT hS2.a9 rfl;obtain ⟨b1,b2⟩:=JaT hS2.d3 rfl;have hdl:(d.drop at').length=d.length-at':=List.length_drop;rw [hdl] at hg
    have hn':n≤329853488332800:=by
     have hT: ∀ (k:Nat) (s:List UInt8),s.length≤k→tGo s≤s.length*256:=fun k=>by
      induction k with
      | zero=>
       intro s hs;have e0:s=[]:=List.eq_nil_of_length_eq_zero (by omega)
       rw [e0,tGo];exact Nat.zero_le _
      | succ k ih=>
       intro s hs;cases s with
       | nil=>rw [tGo];exact Nat.zero_le _
       | cons c r=>
        rw [tGo];have:=c.toNat_lt;have:=ih (r.drop c.toNat) (by simp at hs ⊢;omega)
        simp only [List.length_cons,List.length_drop] at this ⊢;omega
     have h1:=Jc2 (d.drop at');have h2:=hT _ (d.drop at') (Nat.le_refl _);have h3:=((d.drop at').getD 0 0).toNat_lt;unfold Jgf at hn;repeat' split at hn
     all_goals first | (cases hn;done) | (injection hn with hn;omega)
    have w1:IntKind.i64.wrap ((at':Int)+(n:Int))=((at'+n:Nat):Int):=by rw [w64 (by omega) (by omega)];rfl
    by_cases hbig:(d.length:Int) < ((at'+n:Nat):Int)
    ·rw [if_pos (by omega),Option.map_none] at hg
     rw [hg];simp -implicitDefEqProofs only [bU,Jc,bT,k3,k9,k13,a1,a2,b1,b2,w1,hbig,Jr,rsC,rsV,Js];exact ⟨hS2.e,.ns,rfl,rfl⟩
    ·rw [if_neg (by omega),Option.map_map,List.drop_drop] at hg
     obtain ⟨t1,t2⟩:=JkG hS2.a9 rfl (w:= .i .i64 ((at'+n:Nat):Int)) rfl (fun cs h=>by cases h)
     simp -implicitDefEqProofs only [bU,Jc,bT,k3,k8,k9,k10,k13,k29,a1,a2,b1,b2,w1,hbig,t1,t2];refine ⟨p.length- (i+1),by omega,i+1,at'+n,if f=110 then sp++[(at',at'+n)] else sp,o',_,_,_,g',by omega,rfl,rfl,rfl,rfl,hkL,?_,?_,by omega,?_⟩
     ·refine ⟨(XQ (by omega)).trans hS2.d3,Z9,?_,hS2.e.set (by omega),hS2.i,hS2.n⟩
      exact Mn.fr hS2.m (Nat.le_refl _) fun j hj=>XQ (by have:=hS2.i j hj;omega)
     ·by_cases h110:f=110
      ·rw [if_pos h110,List.length_append,List.length_singleton];omega
      ·rw [if_neg h110];omega
     ·rw [hg]
      congr 1
      funext q
      by_cases h110:f=110
      ·simp [h110]
      ·simp [h110]
   ·have hnone:Je6 p d 0=none:=by
     rw [hg];rcases hn with hn | ⟨n,hn,hlt2⟩
     ·rw [hn];rfl
     ·rw [hn]
      simp only;rw [if_pos (by rw [List.length_drop];exact hlt2)]
      rfl
    rw [hnone];simp -implicitDefEqProofs only [bU,k4,k5,Jr,rsC,rsV,Js];exact ⟨he,.ns,rfl,rfl⟩
  ·have hip:i=p.length:=by omega
   rw [hip,List.drop_length,Je6] at hg;obtain ⟨a1,a2⟩:=JaT hS.a9 rfl;obtain ⟨b1,b2⟩:=JaT hS.d3 rfl;have ho:=(Mn.sl hS.m).out;simp -implicitDefEqProofs only [bU,Jc,Ja,Jb,bT,q3,q8,q9,q10,q29,hL,n1,n2,n3,hlt,a1,a2,b1,b2,ho,Jr,rsC,rsV,Js];by_cases hend:at'=d.length
   ·rw [if_pos (List.drop_of_length_le (by omega)),Option.map_some,List.append_nil] at hg
    rw [hg];exact ⟨hS.e,o,by rw [decide_eq_true (by omega)],hS.m,fun j hj=>by have:=hS.i j hj;omega⟩
   ·rw [if_neg (fun hh=>by have:=congrArg List.length hh;simp at this;omega),Option.map_none] at hg
    rw [hg];exact ⟨hS.e,o,by rw [decide_eq_false (by omega)],ho⟩
theorem JnP {t:Int} {d:List UInt8} {H:AH} (hP:JdH C Za) (hF:JR H) (hd:d.length≤1099511627776):Jt C WK [.i .i64 t,.s d] H fun v H'=>v= .i .i64 (chk t d)∧Ext H H':=by
 unfold Jt WK;rw [JkD];by_cases h1:t < 0
 ·rw [if_pos (.inl h1)]
  simp -implicitDefEqProofs only [bU,Jc,reduceCtorEq,Ja,bT,h1,Jr,rsC,rsV,Js];exact .refl _
 by_cases h2:65535 < t
 ·rw [if_pos (.inr h2)]
  simp -implicitDefEqProofs only [bU,Jc,reduceCtorEq,Ja,bT,h1,h2,Jr,rsC,rsV,Js];exact .refl _
 rw [if_neg (by omega)]
 by_cases h3:(65535:Int) < d.length
 ·rw [if_pos (.inl (by omega))]
  simp -implicitDefEqProofs only [bU,Jc,reduceCtorEq,Ja,bT,h1,h2,h3,Jr,rsC,rsV,Js];exact .refl _
 obtain ⟨v,H',k2,k3,k4⟩:=hP t d H hF hd;cases hp:Jjm t d with
 | none=>
  rw [if_pos (.inr rfl)];rw [hp] at k4;obtain ⟨o,rfl,ho⟩:=k4;simp -implicitDefEqProofs only [bU,Jc,reduceCtorEq,Ja,Jb,bT,h1,h2,h3,k2,Jr,rsC,rsV,Js];exact k3
 | some ps=>
  rw [if_neg (by simp;omega)]
  rw [hp] at k4;obtain ⟨o,rfl,hm,-⟩:=k4;have ho:=(Mn.sl hm).out;simp -implicitDefEqProofs only [bU,Jc,reduceCtorEq,Ja,Jb,bT,h1,h2,h3,k2,Jr,rsC,rsV,Js];exact k3
theorem JhV {t:Int} {d:List UInt8} {H:AH} (hC:Jjz C Qg) (hP:JdH C Za) (hF:JR H) (hd:d.length≤1099511627776):Jt C WG [.i .i64 t,.s d] H fun v H'=>Ext H H'∧Mx H' eSp v (if chk t d=0 then (Jjm t d).getD [] else [])∧ ∀ i,i∈idA v→H.n≤i:=by
 unfold Jt WG;obtain ⟨v,H1,k1,rfl,e1⟩:=hC t d H hF hd;by_cases h0:chk t d=0
 ·obtain ⟨v2,H2,k2,e2,k3⟩:=hP t d H1 (hF.ext e1) hd
  have hs: ∃ sp,Jjm t d=some sp:=by
   rw [JkD] at h0;split at h0
   ·cases h0
   ·split at h0
    ·cases h0
    ·rename_i h
     cases hn:Jjm t d with
     | none=>rw [hn] at h;simp at h
     | some sp=>exact ⟨sp,rfl⟩
  obtain ⟨sp,hsp⟩:=hs;rw [hsp] at k3;obtain ⟨o,rfl,hm,hi⟩:=k3;have ho:=(Mn.sl hm).out;simp -implicitDefEqProofs only [bU,Jc,reduceCtorEq,Ja,Jb,bT,k1,h0,k2,ho,Jr,rsC,rsV,Js];rw [hsp];exact ⟨e1.trans e2,hm,fun i hi'=>by have:=hi i hi';have:=e1.n;omega⟩
 ·simp -implicitDefEqProofs only [bU,Jc,reduceCtorEq,Ja,bT,k1,h0,Jr,rsC,rsV,Js]
  exact ⟨e1,.nil,by simp [idA]⟩
end
def low (b:UInt8):UInt8:=if 65≤b.toNat∧b.toNat≤90 then b+32 else b
def joinP:List (List UInt8)→List UInt8
 | []=>[]
 | s::r=>UInt8.ofNat s.length::(s++joinP r)
def joinL (ls:List (List UInt8)):List UInt8:=joinP ls++[0]
theorem JhE: ∀ (a b:List (List UInt8)),joinP (a++b)=joinP a++joinP b
 | [],b=>rfl
 | s::r,b=>by simp [joinP,JhE r b]
theorem JkA {b:UInt8} (h:b.toNat≤63):low b=b:=by
 unfold low;rw [if_neg (by omega)]
theorem JfB: ∀ (n:Nat) (s:List UInt8) (ls:List (List UInt8)),s.length≤n→Wz s=some ls→joinL ls=s∧joinL (ls.map fun l=>l.map low)=s.map low∧ls.length≤s.length∧ ∀ l,l∈ls→l.length≤63
 | n,[],ls,_,h=>by rw [Wz] at h;cases h
 | 0,_::_,_,h,_=>by simp at h
 | n+1,c::r,ls,hn,h=>by
  rw [Wz] at h;simp only [List.length_cons] at hn;by_cases h0:c.toNat=0
  ·rw [if_pos h0] at h
   by_cases hr:r=[]
   ·rw [if_pos hr] at h
    injection h with h
    subst hr h;have:c=0:=UInt8.toNat_inj.1 h0;subst this;exact ⟨rfl,by decide,by simp,by simp⟩
   ·rw [if_neg hr] at h;cases h
  ·rw [if_neg h0] at h
   by_cases h1:63 < c.toNat∨r.length < c.toNat
   ·rw [dif_pos h1] at h;cases h
   ·rw [dif_neg h1] at h
    cases hq:Wz (r.drop c.toNat) with
    | none=>rw [hq] at h;cases h
    | some q=>
     rw [hq] at h;injection h with h
     subst h;obtain ⟨g1,g2,g3,g4⟩:=JfB n (r.drop c.toNat) q (by simp;omega) hq
     have hc:UInt8.ofNat (r.take c.toNat).length=c:=by
      rw [List.length_take,Nat.min_eq_left (by omega)]
      exact UInt8.ofNat_toNat
     have hc2:UInt8.ofNat ((r.take c.toNat).map low).length=c:=by rw [List.length_map];exact hc
     refine ⟨?_,?_,?_,?_⟩
     ·unfold joinL at g1 ⊢
      simp only [joinP,hc,List.cons_append,List.append_assoc];rw [g1,List.take_append_drop]
     ·unfold joinL at g2 ⊢
      simp only [List.map_cons,joinP,hc2,List.cons_append,List.append_assoc];rw [g2,←List.map_append,List.take_append_drop,JkA (by omega)]
     ·simp only [List.length_cons,List.length_drop] at g3 ⊢;omega
     ·intro l hl
      rcases List.mem_cons.1 hl with rfl | hl
      ·simp;omega
      ·exact g4 l hl
def Jq (s:List UInt8):List UInt8:=match JB s with
 | none=>[]
 | some _=>s.map low
theorem We {s:List UInt8} {ls:List (List UInt8)} (h:JB s=some ls):joinL ls=s∧joinL (ls.map fun l=>l.map low)=s.map low∧ls.length≤s.length∧(∀ l,l∈ls→l.length≤63)∧s.length≤255:=by
 unfold JB at h;by_cases h2:255 < s.length
 ·rw [if_pos h2] at h;cases h
 ·rw [if_neg h2] at h
  obtain ⟨a,b,c,d⟩:=JfB _ s ls (Nat.le_refl _) h;exact ⟨a,b,c,d,by omega⟩
structure Jb0 {α:Type} (lt:α→α→Bool):Prop where
 tr: ∀ x y z,lt y x=false→lt z y=false→lt z x=false
 asy: ∀ x y,lt x y=true→lt y x=false
def Srt {α:Type} (lt:α→α→Bool) (l:List α):Prop:=l.Pairwise fun x y=>lt y x=false
section
variable {α:Type} {lt:α→α→Bool}
theorem Srt.app {a b:List α}:Srt lt (a++b)↔Srt lt a∧Srt lt b∧ ∀ x,x∈a→ ∀ y,y∈b→lt y x=false:=List.pairwise_append
theorem Srt.nil:Srt lt ([]:List α):=List.Pairwise.nil
theorem Srt.one {x:α}:Srt lt [x]:=List.pairwise_singleton _ _
theorem Srt.take {l:List α} (h:Srt lt l) (n:Nat):Srt lt (l.take n):=List.Pairwise.sublist (List.take_sublist n l) h
theorem Srt.drop {l:List α} (h:Srt lt l) (n:Nat):Srt lt (l.drop n):=List.Pairwise.sublist (List.drop_sublist n l) h
theorem Srt.le {l:List α} (h:Srt lt l) {i j:Nat} (hij:i < j) (hj:j < l.length):lt l[j] l[i]=false:=
 List.pairwise_iff_getElem.1 h i j (by omega) hj hij
theorem Srt.split {l:List α} (h:Srt lt l) (k:Nat) {x y:α} (hx:x∈l.take k) (hy:y∈l.drop k):lt y x=false:=by
 have:=h;rw [←List.take_append_drop k l] at this;exact (Srt.app.1 this).2.2 x hx y hy
theorem JrU (hO:Jb0 lt) {L R:List α} (hL:Srt lt L) (hR:Srt lt R) {s e:Nat} (hs:s≤L.length) (he:e≤R.length)
  (h1:s=0∨e=R.length∨ ∃ (a:s-1 < L.length) (b:e < R.length),lt R[e] L[s-1]=false)
  (h2:s=L.length∨e=0∨ ∃ (a:s < L.length) (b:e-1 < R.length),lt R[e-1] L[s]=true):
  ∀ x,x∈L.take s++R.take e→ ∀ y,y∈L.drop s++R.drop e→lt y x=false:=by
 intro x hx y hy;rw [List.mem_append] at hx hy;rcases hx with hx | hx<;>rcases hy with hy | hy
 ·exact hL.split s hx hy
 ·
  rcases h1 with rfl | rfl | ⟨a,b,hab⟩
  ·simp at hx
  ·simp at hy
  ·obtain ⟨i,hi,rfl⟩:=List.mem_iff_getElem.1 hx
   obtain ⟨j,hj,rfl⟩:=List.mem_iff_getElem.1 hy;rw [List.getElem_take,List.getElem_drop];rw [List.length_take] at hi
   have c1:lt L[s-1] (L[i]'(by omega))=false:=by
    by_cases h:i=s-1
    ·subst h
     cases hh:lt L[s-1] L[s-1] with
     | false=>rfl
     | true=>exact (hO.asy _ _ hh).symm.trans hh |>.symm
    ·exact hL.le (by omega) a
   have c2:lt (R[e+j]'(by rw [List.length_drop] at hj;omega)) R[e]=false:=by
    by_cases h:j=0
    ·subst h
     cases hh:lt (R[e+0]'(by omega)) R[e] with
     | false=>rfl
     | true=>exact (hO.asy _ _ hh).symm.trans hh |>.symm
    ·exact hR.le (by omega) (by rw [List.length_drop] at hj;omega)
   exact hO.tr _ _ _ (hO.tr _ _ _ c1 hab) c2
 ·
  rcases h2 with rfl | rfl | ⟨a,b,hab⟩
  ·simp at hy
  ·simp at hx
  ·obtain ⟨i,hi,rfl⟩:=List.mem_iff_getElem.1 hx
   obtain ⟨j,hj,rfl⟩:=List.mem_iff_getElem.1 hy;rw [List.getElem_take,List.getElem_drop];rw [List.length_take] at hi
   have c1:lt R[e-1] (R[i]'(by omega))=false:=by
    by_cases h:i=e-1
    ·subst h
     cases hh:lt R[e-1] R[e-1] with
     | false=>rfl
     | true=>exact (hO.asy _ _ hh).symm.trans hh |>.symm
    ·exact hR.le (by omega) b
   have c2:lt (L[s+j]'(by rw [List.length_drop] at hj;omega)) L[s]=false:=by
    by_cases h:j=0
    ·subst h
     cases hh:lt (L[s+0]'(by omega)) L[s] with
     | false=>rfl
     | true=>exact (hO.asy _ _ hh).symm.trans hh |>.symm
    ·exact hL.le (by omega) (by rw [List.length_drop] at hj;omega)
   exact hO.tr _ _ _ (hO.tr _ _ _ c1 (hO.asy _ _ hab)) c2
 ·exact hR.split e hx hy
theorem JhN (hO:Jb0 lt) {L R M1 M2:List α} {s e:Nat}
  (hc: ∀ x,x∈L.take s++R.take e→ ∀ y,y∈L.drop s++R.drop e→lt y x=false)
  (p1:M1.Perm (L.take s++R.take e)) (p2:M2.Perm (L.drop s++R.drop e)) (s1:Srt lt M1) (s2:Srt lt M2):Srt lt (M1++M2)∧(M1++M2).Perm (L++R):=by
 refine ⟨Srt.app.2 ⟨s1,s2,fun x hx y hy=>hc x (p1.mem_iff.1 hx) y (p2.mem_iff.1 hy)⟩,?_⟩
 have a:(M1++M2).Perm ((L.take s++R.take e)++(L.drop s++R.drop e)):=p1.append p2;refine a.trans ?_
 have b:((L.take s++R.take e)++(L.drop s++R.drop e)).Perm ((L.take s++L.drop s)++(R.take e++R.drop e)):=by
  rw [List.append_assoc,List.append_assoc];refine List.Perm.append_left _ ?_
  rw [←List.append_assoc,←List.append_assoc];exact List.Perm.append_right _ List.perm_append_comm
 rwa [List.take_append_drop,List.take_append_drop] at b
theorem Jkc {a b:List α} (hp:a.Perm b) (ha:a.Pairwise fun x y=>lt x y=true) (hb:Srt lt b):a=b:=by
 induction a generalizing b with
 | nil=>exact (List.nil_perm.1 hp).symm
 | cons x a ih=>
  cases b with
  | nil=>exact absurd hp.length_eq (by simp)
  | cons y b=>
   have hx: ∀ z,z∈a→lt x z=true:=(List.pairwise_cons.1 ha).1;have hy: ∀ z,z∈b→lt z y=false:=(List.pairwise_cons.1 hb).1
   have e:x=y:=by
    by_cases h:x=y
    ·exact h
    ·have h1:y∈a:=by
      have:y∈x::a:=hp.mem_iff.2 (by simp)
      rcases List.mem_cons.1 this with h' | h'
      ·exact absurd h'.symm h
      ·exact h'
     have h2:x∈b:=by
      have:x∈y::b:=hp.mem_iff.1 (by simp)
      rcases List.mem_cons.1 this with h' | h'
      ·exact absurd h' h
      ·exact h'
     have:=hx y h1;rw [hy x h2] at this;cases this
   subst e;rw [ih (List.perm_cons _ |>.1 hp) (List.pairwise_cons.1 ha).2 (List.pairwise_cons.1 hb).2]
end
structure Cmp {α:Type} (c:α→α→Int):Prop where
 eq: ∀ x y,c x y=0↔x=y
 sw: ∀ x y,c x y < 0↔0 < c y x
 tr: ∀ x y z,c x y < 0→c y z < 0→c x z < 0
def JdI {α:Type} (c:α→α→Int):List α→List α→Int
 | [],[]=>0
 | [],_::_=> -1
 | _::_,[]=>1
 | a::x,b::y=>if c a b≠0 then c a b else JdI c x y
def JdB {α:Type} (c:α→α→Int) (x y:α):Bool:=decide (c x y < 0)
section
variable {α:Type} {c:α→α→Int}
theorem Cmp.self (h:Cmp c) (x:α):c x x=0:=(h.eq x x).2 rfl
theorem Cmp.tri (h:Cmp c) (x y:α):c x y < 0∨x=y∨c y x < 0:=by
 rcases Int.lt_trichotomy (c x y) 0 with h1 | h1 | h1
 ·exact .inl h1
 ·exact .inr (.inl ((h.eq x y).1 h1))
 ·exact .inr (.inr ((h.sw y x).2 h1))
theorem Cmp.asy (h:Cmp c) {x y:α} (h1:c x y < 0): ¬ c y x < 0:=fun h2=>by
 have:=(h.sw x y).1 h1;omega
theorem Cmp.ordr (h:Cmp c):Jb0 (JdB c) where
 tr x y z h1 h2:=by
  simp only [JdB,decide_eq_false_iff_not] at*;intro h3;rcases h.tri x y with a | a | a
  ·exact h2 (h.tr _ _ _ h3 a)
  ·subst a;exact h2 h3
  ·exact h1 a
 asy x y h1:=by
  simp only [JdB,decide_eq_false_iff_not,decide_eq_true_eq] at*;exact h.asy h1
theorem Joa (h:Cmp c):Cmp (JdI c) where
 eq x:=by
  induction x with
  | nil=>intro y;cases y<;>simp [JdI]
  | cons a x ih=>
   intro y;cases y with
   | nil=>simp [JdI]
   | cons b y=>
    simp only [JdI];by_cases h1:c a b=0
    ·rw [if_neg (by simpa using h1),ih y,(h.eq a b).1 h1];simp
    ·rw [if_pos h1]
     refine ⟨fun h2=>absurd h2 h1,fun h2=> ?_⟩
     injection h2 with h2 _
     exact absurd ((h.eq a b).2 h2) h1
 sw x:=by
  induction x with
  | nil=>intro y;cases y<;>simp [JdI]
  | cons a x ih=>
   intro y;cases y with
   | nil=>simp [JdI]
   | cons b y=>
    simp only [JdI];by_cases h1:c a b=0
    ·have h2:c b a=0:=(h.eq b a).2 ((h.eq a b).1 h1).symm
     rw [if_neg (by simpa using h1),if_neg (by simpa using h2)];exact ih y
    ·have h2:c b a≠0:=fun h2=>h1 ((h.eq a b).2 ((h.eq b a).1 h2).symm)
     rw [if_pos h1,if_pos h2];exact h.sw a b
 tr x:=by
  induction x with
  | nil=>intro y z;cases y<;>cases z<;>simp [JdI]
  | cons a x ih=>
   intro y z;cases y with
   | nil=>simp [JdI]
   | cons b y=>
    cases z with
    | nil=>simp [JdI]
    | cons d z=>
     simp only [JdI];intro h1 h2;by_cases e1:c a b=0
     ·have:=(h.eq a b).1 e1;subst this
      rw [if_neg (by simpa using e1)] at h1
      by_cases e2:c a d=0
      ·rw [if_neg (by simpa using e2)] at h2 ⊢;exact ih y z h1 h2
      ·rw [if_pos e2] at h2 ⊢;exact h2
     ·rw [if_pos e1] at h1
      by_cases e2:c b d=0
      ·have:=(h.eq b d).1 e2;subst this
       rw [if_pos e1];exact h1
      ·rw [if_pos e2] at h2
       have:=h.tr _ _ _ h1 h2;rw [if_pos (by omega)];exact this
def Jdv {β:Type} (c:α→α→Int) (d:β→β→Int) (x y:α×β):Int:=if c x.1 y.1≠0 then c x.1 y.1 else d x.2 y.2
theorem Jg8 {β:Type} {d:β→β→Int} (h:Cmp c) (h':Cmp d):Cmp (Jdv c d) where
 eq x y:=by
  simp only [Jdv];by_cases h1:c x.1 y.1=0
  ·rw [if_neg (by simpa using h1),h'.eq,Prod.ext_iff,(h.eq _ _).1 h1];simp
  ·rw [if_pos h1]
   exact ⟨fun h2=>absurd h2 h1,fun h2=>absurd ((h.eq _ _).2 (congrArg Prod.fst h2)) h1⟩
 sw x y:=by
  simp only [Jdv];by_cases h1:c x.1 y.1=0
  ·have h2:c y.1 x.1=0:=(h.eq _ _).2 ((h.eq _ _).1 h1).symm
   rw [if_neg (by simpa using h1),if_neg (by simpa using h2)];exact h'.sw _ _
  ·have h2:c y.1 x.1≠0:=fun h2=>h1 ((h.eq _ _).2 ((h.eq _ _).1 h2).symm)
   rw [if_pos h1,if_pos h2];exact h.sw _ _
 tr x y z h1 h2:=by
  simp only [Jdv] at*;by_cases e1:c x.1 y.1=0
  ·rw [if_neg (by simpa using e1)] at h1
   have e1':=(h.eq _ _).1 e1;rw [e1'];by_cases e2:c y.1 z.1=0
   ·rw [if_neg (by simpa using e2)] at h2 ⊢;exact h'.tr _ _ _ h1 h2
   ·rw [if_pos e2] at h2 ⊢;exact h2
  ·rw [if_pos e1] at h1
   by_cases e2:c y.1 z.1=0
   ·have e2':=(h.eq _ _).1 e2
    rw [←e2',if_pos e1];exact h1
   ·rw [if_pos e2] at h2
    have:=h.tr _ _ _ h1 h2;rw [if_pos (by omega)];exact this
end
theorem Zf:Cmp Lib.compareBytes where
 eq x:=by
  induction x with
  | nil=>intro y;cases y<;>simp [Lib.compareBytes]
  | cons a x ih=>
   intro y;cases y with
   | nil=>simp [Lib.compareBytes]
   | cons b y=>
    simp only [Lib.compareBytes];by_cases h1:a < b
    ·rw [if_pos h1];simp only [List.cons.injEq]
     exact ⟨fun h=>by omega,fun h=>by rw [h.1] at h1;exact absurd h1 (UInt8.lt_irrefl _)⟩
    ·rw [if_neg h1]
     by_cases h2:b < a
     ·rw [if_pos h2];simp only [List.cons.injEq]
      exact ⟨fun h=>by omega,fun h=>by rw [h.1] at h2;exact absurd h2 (UInt8.lt_irrefl _)⟩
     ·rw [if_neg h2,ih y,List.cons.injEq]
      have:a=b:=UInt8.le_antisymm (UInt8.not_lt.1 h2) (UInt8.not_lt.1 h1);simp [this]
 sw x:=by
  induction x with
  | nil=>intro y;cases y<;>simp [Lib.compareBytes]
  | cons a x ih=>
   intro y;cases y with
   | nil=>simp [Lib.compareBytes]
   | cons b y=>
    simp only [Lib.compareBytes];by_cases h1:a < b
    ·have h2: ¬ b < a:=fun h=>UInt8.lt_irrefl _ (UInt8.lt_trans h1 h)
     rw [if_pos h1,if_neg h2,if_pos h1];decide
    ·by_cases h2:b < a
     ·rw [if_neg h1,if_pos h2,if_pos h2];decide
     ·rw [if_neg h1,if_neg h2,if_neg h2,if_neg h1];exact ih y
 tr x:=by
  induction x with
  | nil=>intro y z;cases y<;>cases z<;>simp [Lib.compareBytes]
  | cons a x ih=>
   intro y z;cases y with
   | nil=>simp [Lib.compareBytes]
   | cons b y=>
    cases z with
    | nil=>simp [Lib.compareBytes]
    | cons d z=>
     simp only [Lib.compareBytes];intro h1 h2;by_cases e1:a < b
     ·by_cases e2:b < d
      ·rw [if_pos (UInt8.lt_trans e1 e2)];decide
      ·rw [if_neg e2] at h2
       by_cases e3:d < b
       ·rw [if_pos e3] at h2;exact absurd h2 (by decide)
       ·have:b=d:=UInt8.le_antisymm (UInt8.not_lt.1 e3) (UInt8.not_lt.1 e2)
        rw [←this,if_pos e1];decide
     ·rw [if_neg e1] at h1
      by_cases e3:b < a
      ·rw [if_pos e3] at h1;exact absurd h1 (by decide)
      ·rw [if_neg e3] at h1
       have:a=b:=UInt8.le_antisymm (UInt8.not_lt.1 e3) (UInt8.not_lt.1 e1);subst this;by_cases e2:a < d
       ·rw [if_pos e2];decide
       ·rw [if_neg e2] at h2 ⊢
        by_cases e4:d < a
        ·rw [if_pos e4] at h2;exact absurd h2 (by decide)
        ·rw [if_neg e4] at h2 ⊢;exact ih y z h1 h2
theorem Jgj: ∀ a b:List UInt8,Lib.compareBytes a b= -1∨Lib.compareBytes a b=0∨Lib.compareBytes a b=1
 | [],[]=>by simp [Lib.compareBytes]
 | [],_::_=>by simp [Lib.compareBytes]
 | _::_,[]=>by simp [Lib.compareBytes]
 | a::x,b::y=>by
  simp only [Lib.compareBytes];by_cases h1:a < b
  ·simp [h1]
  ·by_cases h2:b < a
   ·simp [h1,h2]
   ·rw [if_neg h1,if_neg h2];exact Jgj x y
theorem JiE (a b:List UInt8):Lib.compareBytes a b=if Op.bytesLess a b=true then-1 else if a=b then 0 else 1:=by
 have key: ∀ a b:List UInt8,(Op.bytesLess a b=true↔Lib.compareBytes a b < 0):=by
  intro a;induction a with
  | nil=>intro b;cases b<;>simp [Op.bytesLess,Lib.compareBytes]
  | cons x a ih=>
   intro b;cases b with
   | nil=>simp [Op.bytesLess,Lib.compareBytes]
   | cons y b=>
    simp only [Op.bytesLess,Lib.compareBytes,Bool.or_eq_true,decide_eq_true_eq,Bool.and_eq_true,beq_iff_eq];by_cases h1:x < y
    ·simp [h1]
    ·by_cases h2:y < x
     ·rw [if_neg h1,if_pos h2]
      simp only [h1,false_or];exact ⟨fun h=>by rw [h.1] at h2;exact absurd h2 (UInt8.lt_irrefl _),fun h=>absurd h (by decide)⟩
     ·have:x=y:=UInt8.le_antisymm (UInt8.not_lt.1 h2) (UInt8.not_lt.1 h1)
      subst this;rw [if_neg h1,if_neg h2,←ih b];simp
 by_cases h1:Op.bytesLess a b=true
 ·rw [if_pos h1]
  have:=(key a b).1 h1;rcases Jgj a b with h | h | h<;>omega
 ·rw [if_neg h1]
  have h2: ¬ Lib.compareBytes a b < 0:=fun h=>h1 ((key a b).2 h)
  by_cases h3:a=b
  ·rw [if_pos h3];exact (Zf.eq a b).2 h3
  ·rw [if_neg h3]
   have h4:Lib.compareBytes a b≠0:=fun h=>h3 ((Zf.eq a b).1 h)
   rcases Jgj a b with h | h | h<;>omega
def JqY (x y:Int):Int:=x-y
theorem JnZ:Cmp JqY:=⟨fun x y=>by unfold JqY;omega,fun x y=>by unfold JqY;omega,fun x y z=>by unfold JqY;omega⟩
def ins {α:Type} (lt:α→α→Bool) (x:α):List α→List α
 | []=>[x]
 | y::r=>if lt y x=true then y::ins lt x r else x::y::r
def isort {α:Type} (lt:α→α→Bool):List α→List α
 | []=>[]
 | x::r=>ins lt x (isort lt r)
section
variable {α:Type} {lt:α→α→Bool}
theorem JfQ (x:α): ∀ l:List α,(ins lt x l).Perm (x::l)
 | []=> .refl _
 | y::r=>by
  simp only [ins];split
  ·exact (List.Perm.cons y (JfQ x r)).trans (List.Perm.swap x y r)
  ·exact .refl _
theorem Qj: ∀ l:List α,(isort lt l).Perm l
 | []=> .refl _
 | x::r=>(JfQ x _).trans (List.Perm.cons x (Qj r))
theorem JlG (hO:Jb0 lt) (x:α): ∀ {l:List α},Srt lt l→Srt lt (ins lt x l)
 | [],_=>Srt.one
 | y::r,h=>by
  obtain ⟨h1,h2⟩:=List.pairwise_cons.1 h;simp only [ins];split
  ·rename_i hy
   refine List.pairwise_cons.2 ⟨fun z hz=> ?_,JlG hO x h2⟩
   rcases List.mem_cons.1 ((JfQ x r).mem_iff.1 hz) with rfl | hz
   ·exact hO.asy _ _ hy
   ·exact h1 z hz
  ·rename_i hy
   have hy:lt y x=false:=by simpa using hy
   refine List.pairwise_cons.2 ⟨fun z hz=> ?_,h⟩
   rcases List.mem_cons.1 hz with rfl | hz
   ·exact hy
   ·exact hO.tr _ _ _ hy (h1 z hz)
theorem Jcy (hO:Jb0 lt): ∀ l:List α,Srt lt (isort lt l)
 | []=>Srt.nil
 | x::r=>JlG hO x (Jcy hO r)
theorem Srt.strict {l:List α} (h:Srt lt l) (hn:l.Pairwise fun x y=>lt x y=true∨lt y x=true):l.Pairwise fun x y=>lt x y=true:=by
 have:=List.Pairwise.and h hn;exact this.imp fun {a b} h=>h.2.resolve_right (by rw [h.1];decide)
theorem Jih {l m:List α} (hp:l.Perm m) (hn:l.Pairwise fun x y=>lt x y=true∨lt y x=true):m.Pairwise fun x y=>lt x y=true∨lt y x=true:=
 (hp.pairwise_iff (fun {a b} h=>h.symm)).1 hn
theorem Jk6 {l a b:List α} (hn:l.Pairwise fun x y=>lt x y=true∨lt y x=true) (pa:a.Perm l) (pb:b.Perm l) (sa:Srt lt a) (sb:Srt lt b):a=b:=
 Jkc (pa.trans pb.symm) (sa.strict (Jih pa.symm hn)) sb
theorem Jjh (hO:Jb0 lt) {l a:List α} (hn:l.Pairwise fun x y=>lt x y=true∨lt y x=true) (pa:a.Perm l) (sa:Srt lt a):a=isort lt l:=Jk6 hn pa (Qj l) sa (Jcy hO l)
end
def Zz (l:List UInt8):List UInt8:=l.map low
def Jdg (s t:List UInt8):Bool:=decide (Jq s≠ []∧Jq s=Jq t)
def JfH (x y:List UInt8):Bool:=match JB x,JB y with
 | some a,some b=>decide (b.length≤a.length) &&Jdg (joinL (a.drop (a.length-b.length))) y
 | _,_=>false
def cmpL (a b:List (List UInt8)):Int:=JdI Lib.compareBytes (a.map Zz).reverse (b.map Zz).reverse
def Jhn (x y:List UInt8):Int:=match JB x,JB y with
 | some a,some b=>cmpL a b
 | _,_=>0
def Lab (ls:List (List UInt8)):Prop:= ∀ l,l∈ls→0 < l.length∧l.length≤63
theorem JpW (b:UInt8):low (low b)=low b:=by
 unfold low;by_cases h:65≤b.toNat∧b.toNat≤90
 ·have e:(b+32).toNat=b.toNat+32:=by rw [UInt8.toNat_add];show (b.toNat+32) % 256=_;omega
  rw [if_pos h,if_neg (by omega)]
 ·rw [if_neg h,if_neg h]
theorem Jhs (l:List UInt8):Zz (Zz l)=Zz l:=by simp [Zz,JpW,Function.comp_def]
theorem Jg5: ∀ (n:Nat) (s:List UInt8) (ls:List (List UInt8)),s.length≤n→Wz s=some ls→Lab ls
 | n,[],ls,_,h=>by rw [Wz] at h;cases h
 | 0,_::_,_,h,_=>by simp at h
 | n+1,c::r,ls,hn,h=>by
  rw [Wz] at h;simp only [List.length_cons] at hn;by_cases h0:c.toNat=0
  ·rw [if_pos h0] at h
   by_cases hr:r=[]
   ·rw [if_pos hr] at h;injection h with h;subst h;exact fun l hl=>by cases hl
   ·rw [if_neg hr] at h;cases h
  ·rw [if_neg h0] at h
   by_cases h1:63 < c.toNat∨r.length < c.toNat
   ·rw [dif_pos h1] at h;cases h
   ·rw [dif_neg h1] at h
    cases hq:Wz (r.drop c.toNat) with
    | none=>rw [hq] at h;cases h
    | some q=>
     rw [hq] at h;injection h with h
     subst h;intro l hl;rcases List.mem_cons.1 hl with rfl | hl
     ·rw [List.length_take];omega
     ·exact Jg5 n _ q (by simp;omega) hq l hl
theorem Jdy: ∀ {ls:List (List UInt8)},Lab ls→Wz (joinL ls)=some ls
 | [],_=>by show Wz [0]=some [];rw [Wz];simp
 | l::r,h=>by
  obtain ⟨h1,h2⟩:=h l (by simp)
  have ih:=Jdy (ls:=r) fun x hx=>h x (by simp [hx])
  have e:joinL (l::r)=UInt8.ofNat l.length::(l++joinL r):=by simp [joinL,joinP]
  have e2:(UInt8.ofNat l.length).toNat=l.length:=by simp;omega
  rw [e,Wz,e2,if_neg (by omega),dif_neg (by simp;omega),List.drop_left,List.take_left,ih]
  rfl
theorem Q9 {s:List UInt8} {ls:List (List UInt8)} (h:JB s=some ls):Lab ls∧joinL ls=s∧s.length≤255:=by
 obtain ⟨h1,-,-,-,h5⟩:=We h;unfold JB at h;rw [if_neg (by omega)] at h
 exact ⟨Jg5 _ _ _ (Nat.le_refl _) h,h1,h5⟩
theorem Jjp {ls:List (List UInt8)} (h:Lab ls) (hl:(joinL ls).length≤255):JB (joinL ls)=some ls:=by
 unfold JB;rw [if_neg (by omega),Jdy h]
theorem Jc6: ∀ ls:List (List UInt8),(joinP ls).length=(ls.map fun l=>l.length+1).sum
 | []=>rfl
 | l::r=>by simp [joinP,Jc6 r];omega
theorem Jb3 (ls:List (List UInt8)):(joinL ls).length=(ls.map fun l=>l.length+1).sum+1:=by simp [joinL,Jc6]
theorem Jfc (ls:List (List UInt8)) (k:Nat):(joinL (ls.drop k)).length≤(joinL ls).length:=by
 rw [Jb3,Jb3]
 have e:(ls.map fun l=>l.length+1).sum=((ls.take k).map fun l=>l.length+1).sum+((ls.drop k).map fun l=>l.length+1).sum:=by
  rw [←List.sum_append,←List.map_append,List.take_append_drop]
 omega
theorem Lab.drop {ls:List (List UInt8)} (h:Lab ls) (k:Nat):Lab (ls.drop k):=fun l hl=>h l (List.mem_of_mem_drop hl)
theorem Lab.low {ls:List (List UInt8)} (h:Lab ls):Lab (ls.map Zz):=fun l hl=>by
 obtain ⟨x,hx,rfl⟩:=List.mem_map.1 hl;have:=h x hx;simpa [Zz] using this
theorem Jf2 (ls:List (List UInt8)):(joinL (ls.map Zz)).length=(joinL ls).length:=by
 rw [Jb3,Jb3,List.map_map];congr 3
 funext l
 simp [Zz]
theorem JcT {s:List UInt8} {ls:List (List UInt8)} (h:JB s=some ls) (k:Nat):JB (joinL (ls.drop k))=some (ls.drop k):=by
 obtain ⟨h1,h2,h3⟩:=Q9 h;exact Jjp (h1.drop k) (Nat.le_trans (Jfc ls k) (by rw [h2];exact h3))
theorem Zd {s:List UInt8} {ls:List (List UInt8)} (h:JB s=some ls):Jq s=joinL (ls.map Zz):=by
 unfold Jq;rw [h];exact (We h).2.1.symm
theorem ZX {s:List UInt8} {ls:List (List UInt8)} (h:JB s=some ls):JB (Jq s)=some (ls.map Zz):=by
 obtain ⟨h1,h2,h3⟩:=Q9 h;rw [Zd h];exact Jjp h1.low (by rw [Jf2,h2];exact h3)
theorem Jm5 (ls:List (List UInt8)):joinL ls≠ []:=by simp [joinL]
theorem Jcx {s:List UInt8} {ls:List (List UInt8)} (h:JB s=some ls):Jq s≠ []:=by rw [Zd h];exact Jm5 _
theorem JcU {s:List UInt8} (h:JB s=none):Jq s=[]:=by unfold Jq;rw [h]
theorem JkW {a b:List (List UInt8)} (ha:Lab a) (hb:Lab b) (h:joinL a=joinL b):a=b:=by
 have:=Jdy ha;rw [h,Jdy hb] at this;exact (Option.some.inj this).symm
theorem Jjv {x y:List UInt8} {a b:List (List UInt8)} (hx:JB x=some a) (hy:JB y=some b):Jq x=Jq y↔a.map Zz=b.map Zz:=by
 rw [Zd hx,Zd hy];exact ⟨fun h=>JkW (Q9 hx).1.low (Q9 hy).1.low h,fun h=>by rw [h]⟩
theorem JcO {x:List UInt8} {a:List (List UInt8)} (hx:JB x=some a):Jq (Jq x)=Jq x:=by
 rw [Zd (ZX hx),Zd hx,List.map_map];congr 2
 funext l
 exact Jhs l
theorem Jjk {x y:List UInt8} {a b:List (List UInt8)} (hx:JB x=some a) (hy:JB y=some b):JfH x y=true↔b.length≤a.length∧(a.map Zz).drop (a.length-b.length)=b.map Zz:=by
 unfold JfH Jdg;rw [hx,hy];simp only [Bool.and_eq_true,decide_eq_true_eq];have h1:=JcT hx (a.length-b.length);rw [Jjv h1 hy,List.map_drop];exact ⟨fun h=>⟨h.1,h.2.2⟩,fun h=>⟨h.1,Jcx h1,h.2⟩⟩
theorem JgL:Cmp (JdI Lib.compareBytes):=Joa Zf
theorem Jhv {x y:List UInt8} {a b:List (List UInt8)} (hx:JB x=some a) (hy:JB y=some b):Jhn x y=0↔Jq x=Jq y:=by
 unfold Jhn;rw [hx,hy,Jjv hx hy];show cmpL a b=0↔_
 unfold cmpL;rw [JgL.eq];exact ⟨fun h=>List.reverse_inj.1 h,fun h=>by rw [h]⟩
def rkN (x:List UInt8):List (List UInt8):=match JB x with
 | some a=>(a.map Zz).reverse
 | none=>[]
theorem Jiz {x y:List UInt8} {a b:List (List UInt8)} (hx:JB x=some a) (hy:JB y=some b):Jhn x y=JdI Lib.compareBytes (rkN x) (rkN y):=by
 unfold Jhn rkN;rw [hx,hy];rfl
theorem Jld {x y:List UInt8} {a b:List (List UInt8)} (hx:JB x=some a) (hy:JB y=some b):rkN x=rkN y↔Jq x=Jq y:=by
 rw [←Jhv hx hy,Jiz hx hy,JgL.eq]
theorem Jb0.comap {α β:Type} {lt:β→β→Bool} (h:Jb0 lt) (f:α→β):Jb0 fun x y=>lt (f x) (f y):=⟨fun x y z=>h.tr (f x) (f y) (f z),fun x y=>h.asy (f x) (f y)⟩
theorem JeP {α:Type} {c:α→α→Int} (h:Cmp c): ∀ (k:Nat) (A B:List α),k≤A.length→k≤B.length→A.take k=B.take k→JdI c A B=JdI c (A.drop k) (B.drop k)
 | 0,_,_,_,_,_=>rfl
 | k+1,[],_,h1,_,_=>by simp at h1
 | k+1,_::_,[],_,h2,_=>by simp at h2
 | k+1,a::A,b::B,h1,h2,e=>by
  simp only [List.take_succ_cons,List.cons.injEq] at e;obtain ⟨rfl,e⟩:=e;simp only [JdI,List.drop_succ_cons];rw [if_neg (by simpa using h.self a)]
  exact JeP h k A B (by simpa using h1) (by simpa using h2) e
def JbH (a:List (List UInt8)):List (List UInt8):=(a.map Zz).reverse
theorem YO (a:List (List UInt8)):(JbH a).length=a.length:=by simp [JbH]
theorem JdT {a:List (List UInt8)} {k:Nat} (h:k < a.length):(JbH a)[k]'(by rw [YO];exact h)=Zz (a[a.length-1-k]'(by omega)):=by
 simp [JbH]
theorem JlW {a b:List (List UInt8)} {k:Nat} (ha:k < a.length) (hb:k < b.length) (h:(JbH a).take k=(JbH b).take k) (hc:Lib.compareBytes (Zz (a[a.length-1-k]'(by omega))) (Zz (b[b.length-1-k]'(by omega))) ≠0):
  cmpL a b=Lib.compareBytes (Zz (a[a.length-1-k]'(by omega))) (Zz (b[b.length-1-k]'(by omega))):=by
 show JdI Lib.compareBytes (JbH a) (JbH b)=_
 have h1:(JbH a).drop k=Zz (a[a.length-1-k]'(by omega))::(JbH a).drop (k+1):=by rw [List.drop_eq_getElem_cons (by rw [YO];exact ha),JdT ha]
 have h2:(JbH b).drop k=Zz (b[b.length-1-k]'(by omega))::(JbH b).drop (k+1):=by rw [List.drop_eq_getElem_cons (by rw [YO];exact hb),JdT hb]
 rw [JeP Zf k (JbH a) (JbH b) (by rw [YO];omega) (by rw [YO];omega) h,h1,h2]
 simp only [JdI];rw [if_pos hc]
theorem JhM {a b:List (List UInt8)} {k:Nat} (ha:k < a.length) (hb:k < b.length) (h:(JbH a).take k=(JbH b).take k) (hc:Lib.compareBytes (Zz (a[a.length-1-k]'(by omega))) (Zz (b[b.length-1-k]'(by omega)))=0):(JbH a).take (k+1)=(JbH b).take (k+1):=by
 rw [List.take_succ_eq_append_getElem (by rw [YO];exact ha),List.take_succ_eq_append_getElem (by rw [YO];exact hb),h,JdT ha,JdT hb,(Zf.eq _ _).1 hc]
theorem JdM {a b:List (List UInt8)} {k:Nat} (ha:k≤a.length) (hb:k≤b.length) (h:(JbH a).take k=(JbH b).take k) (hk:k=a.length∨k=b.length):cmpL a b=if a.length < b.length then-1 else if b.length < a.length then 1 else 0:=by
 show JdI Lib.compareBytes (JbH a) (JbH b)=_
 rw [JeP Zf k (JbH a) (JbH b) (by rw [YO];omega) (by rw [YO];omega) h]
 have h1:((JbH a).drop k).length=a.length-k:=by rw [List.length_drop,YO]
 have h2:((JbH b).drop k).length=b.length-k:=by rw [List.length_drop,YO]
 generalize (JbH a).drop k=A at h1 ⊢;generalize (JbH b).drop k=B at h2 ⊢;match A,B,h1,h2 with
 | [],[],h1,h2=>simp only [List.length_nil] at h1 h2;rw [if_neg (by omega),if_neg (by omega)];rfl
 | [],_::_,h1,h2=>simp only [List.length_nil,List.length_cons] at h1 h2;rw [if_pos (by omega)];rfl
 | _::_,[],h1,h2=>simp only [List.length_nil,List.length_cons] at h1 h2;rw [if_neg (by omega),if_pos (by omega)];rfl
 | _::_,_::_,h1,h2=>simp only [List.length_cons] at h1 h2;omega
def X7:Fn:=⟨2,[(.t 4)],
  .q (.o [.mv 4 (.c (.b false))])
  (.q (.o [.mv 10 (.t 0),
   .cl (some 11) 184 [(.t 10)],
   .mv 9 (.t 11),
   .ex 12 (.t 9) 0,
   .ex 13 (.t 9) 1,
   .mv 5 (.t 12),
   .mv 6 (.t 13)])
  (.q (.o [.mv 15 (.t 1),
   .cl (some 16) 184 [(.t 15)],
   .mv 14 (.t 16),
   .ex 17 (.t 14) 0,
   .ex 18 (.t 14) 1,
   .mv 7 (.t 17),
   .mv 8 (.t 18)])
  (.q (.q (.o [.mv 19 (.t 6),
   .un 20 .not (.t 19),
   .mv 21 (.t 20),
   .gd 21 false (.mv 22 (.t 8)),
   .gd 21 false (.un 23 .not (.t 22)),
   .pk 24 (.t 21) (.c (.b true)) (.t 23),
   .mv 25 (.t 24),
   .gd 25 false (.mv 26 (.t 5)),
   .gd 25 false (.ln 27 (.t 26)),
   .gd 25 false (.mv 28 (.t 7)),
   .gd 25 false (.ln 29 (.t 28)),
   .gd 25 false (.bn 30 .lss (.t 27) (.t 29)),
   .pk 31 (.t 25) (.c (.b true)) (.t 30)])
  (.i (.t 31) (.q (.o [.mv 4 (.c (.b false))])
  (.r))
  (.k)))
  (.q (.o [.mv 32 (.t 5),
   .mv 33 (.t 5),
   .ln 34 (.t 33),
   .mv 35 (.t 7),
   .ln 36 (.t 35),
   .bn 37 .sub (.t 34) (.t 36),
   .sl 38 (.t 32) (some (.t 37)) none 1,
   .cl (some 39) 183 [(.t 38)],
   .cl (some 40) 104 [(.t 39)],
   .mv 41 (.t 1),
   .cl (some 42) 104 [(.t 41)],
   .bn 43 .eql (.t 40) (.t 42),
   .mv 4 (.t 43)])
  (.r)))))⟩
abbrev WP:Nat:=103
theorem Jfn:Qi Go.Proofs.Tryz.prog X7 103=true:=by kernel_rfl
def Yu:Fn:=⟨1,[(.t 2)],
  .q (.o [.mv 2 (.c (.b false))])
  (.q (.o [.mv 3 (.t 0),
   .bn 4 .eql (.t 3) (.c (.i .i64 0)),
   .mv 5 (.t 4),
   .gd 5 false (.mv 6 (.t 0)),
   .gd 5 false (.bn 7 .eql (.t 6) (.c (.i .i64 41))),
   .pk 8 (.t 5) (.c (.b true)) (.t 7),
   .mv 9 (.t 8),
   .gd 9 false (.mv 10 (.t 0)),
   .gd 9 false (.bn 11 .geq (.t 10) (.c (.i .i64 249))),
   .gd 9 false (.mv 12 (.t 11)),
   .gd 12 true (.mv 13 (.t 0)),
   .gd 12 true (.bn 14 .leq (.t 13) (.c (.i .i64 255))),
   .gd 9 false (.pk 15 (.t 12) (.t 14) (.c (.b false))),
   .pk 16 (.t 9) (.c (.b true)) (.t 15),
   .mv 2 (.t 16)])
  (.r))⟩
abbrev YK:Nat:=105
theorem Jgo:Qi Go.Proofs.Tryz.prog Yu 105=true:=by kernel_rfl
def Xd:Fn:=⟨2,[(.t 4)],
  .q (.o [.mv 4 (.c (.s []))])
  (.q (.q (.o [.mv 8 (.t 0),
   .mv 9 (.t 1),
   .cl (some 10) 106 [(.t 8),(.t 9)],
   .bn 11 .neq (.t 10) (.c (.i .i64 0))])
  (.i (.t 11) (.q (.o [.mv 4 (.c (.s []))])
  (.r))
  (.k)))
  (.q (.o [.mv 12 (.t 1),
   .csb 13 (.t 12),
   .mv 5 (.t 13)])
  (.q (.q (.o [.mv 14 (.t 0),
   .mv 15 (.t 1),
   .cl (some 16) 186 [(.t 14),(.t 15)],
   .ln 17 (.t 16),
   .mv 18 (.c (.i .i64 0))])
  (.b 0 (.l [1,5,16,17,18] (.q (.o [.bn 19 .lss (.t 18) (.t 17)])
  (.q (.i (.t 19) (.k)
  (.x 0))
  (.q (.b 1 (.q (.o [.ia 20 (.t 16) (.t 18) 2,
   .ld 21 (.t 20) (some 2),
   .lal 7 (.ag [(.i .i64 0),(.i .i64 0)]),
   .st (.t 7) (.t 21) 2])
  (.p [⟨.mv 22 (.t 5),[],false⟩,
   ⟨.fa 23 (.t 7) 0,[],false⟩,
   ⟨.ld 24 (.t 23) none,[],true⟩,
   ⟨.fa 25 (.t 7) 1,[],false⟩,
   ⟨.ld 26 (.t 25) none,[],true⟩,
   ⟨.sl 27 (.t 22) (some (.t 24)) (some (.t 26)) 1,[],true⟩,
   ⟨.mv 28 (.t 1),[],false⟩,
   ⟨.fa 29 (.t 7) 0,[],false⟩,
   ⟨.ld 30 (.t 29) none,[],false⟩,
   ⟨.fa 31 (.t 7) 1,[],false⟩,
   ⟨.ld 32 (.t 31) none,[],false⟩,
   ⟨.ss 33 (.t 28) (some (.t 30)) (some (.t 32)),[],false⟩,
   ⟨.cl (some 34) 104 [(.t 33)],[2,4,5],false⟩,
   ⟨.cp 35 (.t 27) (.t 34) 1,[],false⟩])))
  (.o [.bn 36 .add (.t 18) (.c (.i .i64 1)),
   .mv 18 (.t 36)])))))))
  (.q (.o [.mv 37 (.t 5),
   .cbs 38 (.t 37),
   .mv 4 (.t 38)])
  (.r)))))⟩
abbrev Wh:Nat:=107
theorem JeD:Qi Go.Proofs.Tryz.prog Xd 107=true:=by kernel_rfl
def QH:Fn:=⟨2,[(.t 4)],
  .q (.o [.mv 4 (.c (.i .i64 0))])
  (.q (.o [.mv 12 (.t 0),
   .cl (some 13) 193 [(.t 12)],
   .mv 11 (.t 13),
   .ex 14 (.t 11) 0,
   .ex 15 (.t 11) 1,
   .mv 5 (.t 14),
   .mv 6 (.t 15)])
  (.q (.o [.mv 17 (.t 1),
   .cl (some 18) 193 [(.t 17)],
   .mv 16 (.t 18),
   .ex 19 (.t 16) 0,
   .ex 20 (.t 16) 1,
   .mv 7 (.t 19),
   .mv 8 (.t 20)])
  (.q (.q (.o [.mv 21 (.t 6),
   .un 22 .not (.t 21),
   .mv 23 (.t 22),
   .gd 23 false (.mv 24 (.t 8)),
   .gd 23 false (.un 25 .not (.t 24)),
   .pk 26 (.t 23) (.c (.b true)) (.t 25)])
  (.i (.t 26) (.q (.o [.mv 4 (.c (.i .i64 0))])
  (.r))
  (.k)))
  (.q (.q (.o [.mv 9 (.c (.i .i64 1))])
  (.b 0 (.l [5,7,9] (.q (.q (.o [.mv 27 (.t 9),
   .mv 28 (.t 5),
   .ln 29 (.t 28),
   .bn 30 .leq (.t 27) (.t 29),
   .mv 31 (.t 30),
   .gd 31 true (.mv 32 (.t 9)),
   .gd 31 true (.mv 33 (.t 7)),
   .gd 31 true (.ln 34 (.t 33)),
   .gd 31 true (.bn 35 .leq (.t 32) (.t 34)),
   .pk 36 (.t 31) (.t 35) (.c (.b false))])
  (.i (.t 36) (.k)
  (.x 0)))
  (.q (.b 1 (.q (.p [⟨.mv 39 (.t 5),[],false⟩,
   ⟨.mv 40 (.t 5),[],false⟩,
   ⟨.ln 41 (.t 40),[],false⟩,
   ⟨.mv 42 (.t 9),[],false⟩,
   ⟨.bn 43 .sub (.t 41) (.t 42),[],false⟩,
   ⟨.ia 44 (.t 39) (.t 43) 1,[],false⟩,
   ⟨.ld 45 (.t 44) none,[],false⟩,
   ⟨.cl (some 46) 205 [(.t 45)],[],true⟩,
   ⟨.mv 47 (.t 7),[],false⟩,
   ⟨.mv 48 (.t 7),[],false⟩,
   ⟨.ln 49 (.t 48),[],false⟩,
   ⟨.mv 50 (.t 9),[],false⟩,
   ⟨.bn 51 .sub (.t 49) (.t 50),[],false⟩,
   ⟨.ia 52 (.t 47) (.t 51) 1,[7],false⟩,
   ⟨.ld 53 (.t 52) none,[7],false⟩,
   ⟨.cl (some 54) 205 [(.t 53)],[],false⟩,
   ⟨.cl (some 55) 204 [(.t 46),(.t 54)],[],false⟩,
   ⟨.mv 10 (.t 55),[],false⟩])
  (.q (.o [.mv 56 (.t 10),
   .bn 57 .neq (.t 56) (.c (.i .i64 0))])
  (.i (.t 57) (.q (.o [.mv 58 (.t 10),
   .mv 4 (.t 58)])
  (.r))
  (.k)))))
  (.o [.mv 37 (.t 9),
   .bn 38 .add (.t 37) (.c (.i .i64 1)),
   .mv 9 (.t 38)]))))))
  (.q (.q (.o [.mv 59 (.t 5),
   .ln 60 (.t 59),
   .mv 61 (.t 7),
   .ln 62 (.t 61),
   .bn 63 .lss (.t 60) (.t 62)])
  (.i (.t 63) (.q (.o [.mv 4 (.c (.i .i64 (-1)))])
  (.r))
  (.k)))
  (.q (.q (.o [.mv 64 (.t 5),
   .ln 65 (.t 64),
   .mv 66 (.t 7),
   .ln 67 (.t 66),
   .bn 68 .gtr (.t 65) (.t 67)])
  (.i (.t 68) (.q (.o [.mv 4 (.c (.i .i64 1))])
  (.r))
  (.k)))
  (.q (.o [.mv 4 (.c (.i .i64 0))])
  (.r))))))))⟩
abbrev Ws:Nat:=124
theorem JbS:Qi Go.Proofs.Tryz.prog QH 124=true:=by kernel_rfl
def QG:Fn:=⟨2,[(.t 4)],
  .q (.o [.mv 4 (.c (.i .i64 0))])
  (.q (.o [.mv 12 (.t 0),
   .cl (some 13) 184 [(.t 12)],
   .mv 11 (.t 13),
   .ex 14 (.t 11) 0,
   .ex 15 (.t 11) 1,
   .mv 5 (.t 14),
   .mv 6 (.t 15)])
  (.q (.o [.mv 17 (.t 1),
   .cl (some 18) 184 [(.t 17)],
   .mv 16 (.t 18),
   .ex 19 (.t 16) 0,
   .ex 20 (.t 16) 1,
   .mv 7 (.t 19),
   .mv 8 (.t 20)])
  (.q (.q (.o [.mv 21 (.t 6),
   .un 22 .not (.t 21),
   .mv 23 (.t 22),
   .gd 23 false (.mv 24 (.t 8)),
   .gd 23 false (.un 25 .not (.t 24)),
   .pk 26 (.t 23) (.c (.b true)) (.t 25)])
  (.i (.t 26) (.q (.o [.mv 4 (.c (.i .i64 0))])
  (.r))
  (.k)))
  (.q (.q (.o [.mv 9 (.c (.i .i64 1))])
  (.b 0 (.l [5,7,9] (.q (.q (.o [.mv 27 (.t 9),
   .mv 28 (.t 5),
   .ln 29 (.t 28),
   .bn 30 .leq (.t 27) (.t 29),
   .mv 31 (.t 30),
   .gd 31 true (.mv 32 (.t 9)),
   .gd 31 true (.mv 33 (.t 7)),
   .gd 31 true (.ln 34 (.t 33)),
   .gd 31 true (.bn 35 .leq (.t 32) (.t 34)),
   .pk 36 (.t 31) (.t 35) (.c (.b false))])
  (.i (.t 36) (.k)
  (.x 0)))
  (.q (.b 1 (.q (.p [⟨.mv 39 (.t 5),[],false⟩,
   ⟨.mv 40 (.t 5),[],false⟩,
   ⟨.ln 41 (.t 40),[],false⟩,
   ⟨.mv 42 (.t 9),[],false⟩,
   ⟨.bn 43 .sub (.t 41) (.t 42),[],false⟩,
   ⟨.ia 44 (.t 39) (.t 43) 1,[],false⟩,
   ⟨.ld 45 (.t 44) none,[],false⟩,
   ⟨.cl (some 46) 104 [(.t 45)],[],true⟩,
   ⟨.mv 47 (.t 7),[],false⟩,
   ⟨.mv 48 (.t 7),[],false⟩,
   ⟨.ln 49 (.t 48),[],false⟩,
   ⟨.mv 50 (.t 9),[],false⟩,
   ⟨.bn 51 .sub (.t 49) (.t 50),[],false⟩,
   ⟨.ia 52 (.t 47) (.t 51) 1,[7],false⟩,
   ⟨.ld 53 (.t 52) none,[7],false⟩,
   ⟨.cl (some 54) 104 [(.t 53)],[],false⟩,
   ⟨.cl (some 55) 211 [(.t 46),(.t 54)],[],false⟩,
   ⟨.mv 10 (.t 55),[],false⟩])
  (.q (.o [.mv 56 (.t 10),
   .bn 57 .neq (.t 56) (.c (.i .i64 0))])
  (.i (.t 57) (.q (.o [.mv 58 (.t 10),
   .mv 4 (.t 58)])
  (.r))
  (.k)))))
  (.o [.mv 37 (.t 9),
   .bn 38 .add (.t 37) (.c (.i .i64 1)),
   .mv 9 (.t 38)]))))))
  (.q (.b 2 (.q (.o [.mv 60 (.t 5),
   .ln 61 (.t 60),
   .mv 62 (.t 7),
   .ln 63 (.t 62),
   .bn 64 .lss (.t 61) (.t 63),
   .mv 59 (.t 64)])
  (.i (.t 59) (.q (.o [.mv 4 (.c (.i .i64 (-1)))])
  (.r))
  (.q (.o [.mv 66 (.t 5),
   .ln 67 (.t 66),
   .mv 68 (.t 7),
   .ln 69 (.t 68),
   .bn 70 .gtr (.t 67) (.t 69),
   .mv 65 (.t 70)])
  (.i (.t 65) (.q (.o [.mv 4 (.c (.i .i64 1))])
  (.r))
  (.k))))))
  (.q (.o [.mv 4 (.c (.i .i64 0))])
  (.r)))))))⟩
abbrev Ww:Nat:=127
theorem JbN:Qi Go.Proofs.Tryz.prog QG 127=true:=by kernel_rfl
def Yx:Fn:=⟨1,[(.t 2)],
  .q (.o [.mv 2 (.c .ns)])
  (.q (.o [.mv 6 (.t 0),
   .cl (some 7) 184 [(.t 6)],
   .mv 5 (.t 7),
   .ex 8 (.t 5) 0,
   .ex 9 (.t 5) 1,
   .mv 3 (.t 8),
   .mv 4 (.t 9)])
  (.q (.q (.o [.mv 10 (.t 4),
   .un 11 .not (.t 10)])
  (.i (.t 11) (.q (.o [.mv 2 (.c .ns)])
  (.r))
  (.k)))
  (.q (.o [.mv 12 (.t 3),
   .mv 2 (.t 12)])
  (.r))))⟩
abbrev Yy:Nat:=182
theorem Jgs:Qi Go.Proofs.Tryz.prog Yx 182=true:=by kernel_rfl
def Xv:Fn:=⟨2,[(.t 4)],
  .q (.o [.mv 4 (.c (.b false))])
  (.q (.o [.mv 5 (.t 0),
   .mv 6 (.t 1),
   .cl (some 7) 103 [(.t 5),(.t 6)],
   .mv 8 (.t 7),
   .gd 8 true (.mv 9 (.t 0)),
   .gd 8 true (.mv 10 (.t 1)),
   .gd 8 true (.cl (some 11) 258 [(.t 9),(.t 10)]),
   .gd 8 true (.un 12 .not (.t 11)),
   .pk 13 (.t 8) (.t 12) (.c (.b false)),
   .mv 4 (.t 13)])
  (.r))⟩
abbrev XD:Nat:=189
theorem Jeb:Qi Go.Proofs.Tryz.prog Xv 189=true:=by kernel_rfl
def QP:Fn:=⟨3,[(.t 6)],
  .q (.o [.mv 6 (.c (.i .i64 0))])
  (.q (.q (.o [.mv 7 (.t 0),
   .mv 8 (.t 1),
   .cl (some 9) 106 [(.t 7),(.t 8)],
   .bn 10 .neq (.t 9) (.c (.i .i64 0)),
   .mv 11 (.t 10),
   .gd 11 false (.mv 12 (.t 0)),
   .gd 11 false (.mv 13 (.t 2)),
   .gd 11 false (.cl (some 14) 106 [(.t 12),(.t 13)]),
   .gd 11 false (.bn 15 .neq (.t 14) (.c (.i .i64 0))),
   .pk 16 (.t 11) (.c (.b true)) (.t 15)])
  (.i (.t 16) (.q (.o [.mv 6 (.c (.i .i64 0))])
  (.r))
  (.k)))
  (.q (.o [.mv 17 (.t 0),
   .mv 18 (.t 1),
   .cl (some 19) 107 [(.t 17),(.t 18)],
   .mv 20 (.t 0),
   .mv 21 (.t 2),
   .cl (some 22) 107 [(.t 20),(.t 21)],
   .cl (some 23) 211 [(.t 19),(.t 22)],
   .mv 6 (.t 23)])
  (.r)))⟩
abbrev WT:Nat:=191
theorem Jcf:Qi Go.Proofs.Tryz.prog QP 191=true:=by kernel_rfl
def XA:Fn:=⟨2,[(.t 4)],
  .q (.o [.mv 4 (.c (.i .i64 0))])
  (.q (.q (.o [.mv 5 (.t 0),
   .mv 6 (.t 1),
   .bn 7 .lss (.t 5) (.t 6)])
  (.i (.t 7) (.q (.o [.mv 4 (.c (.i .i64 (-1)))])
  (.r))
  (.k)))
  (.q (.q (.o [.mv 8 (.t 0),
   .mv 9 (.t 1),
   .bn 10 .gtr (.t 8) (.t 9)])
  (.i (.t 10) (.q (.o [.mv 4 (.c (.i .i64 1))])
  (.r))
  (.k)))
  (.q (.o [.mv 4 (.c (.i .i64 0))])
  (.r))))⟩
abbrev Yt:Nat:=204
theorem JeA:Qi Go.Proofs.Tryz.prog XA 204=true:=by kernel_rfl
def Xy:Fn:=⟨2,[(.t 4)],
  .q (.o [.mv 4 (.c (.s []))])
  (.q (.q (.o [.mv 10 (.t 0),
   .mv 11 (.t 1),
   .cl (some 12) 248 [(.t 10),(.t 11)],
   .bn 13 .neq (.t 12) (.c (.i .i64 0))])
  (.i (.t 13) (.q (.o [.mv 4 (.c (.s []))])
  (.r))
  (.k)))
  (.q (.o [.mv 14 (.t 0),
   .cl (some 15) 290 [(.t 14)],
   .mv 5 (.t 15)])
  (.q (.o [.mv 17 (.t 5),
   .mv 18 (.t 1),
   .cl (some 19) 291 [(.t 17),(.t 18)],
   .mv 16 (.t 19),
   .ex 20 (.t 16) 0,
   .ex 21 (.t 16) 1,
   .mv 6 (.t 20),
   .mv 7 (.t 21)])
  (.q (.o [.mv 8 (.c (.s []))])
  (.q (.q (.o [.mv 9 (.c (.i .i64 0))])
  (.b 0 (.l [5,6,8,9] (.q (.q (.o [.mv 22 (.t 9),
   .mv 23 (.t 6),
   .ln 24 (.t 23),
   .bn 25 .lss (.t 22) (.t 24)])
  (.i (.t 25) (.k)
  (.x 0)))
  (.q (.b 1 (.q (.o [.mv 28 (.t 5),
   .mv 29 (.t 9),
   .ix 30 (.t 28) (.t 29),
   .bn 31 .eql (.t 30) (.c (.i .u8 110))])
  (.i (.t 31) (.o [.mv 32 (.t 8),
   .mv 33 (.t 6),
   .mv 34 (.t 9),
   .ia 35 (.t 33) (.t 34) 1,
   .ld 36 (.t 35) none,
   .cl (some 37) 222 [(.t 36)],
   .bn 38 .add (.t 32) (.t 37),
   .mv 8 (.t 38)])
  (.o [.mv 39 (.t 8),
   .mv 40 (.t 6),
   .mv 41 (.t 9),
   .ia 42 (.t 40) (.t 41) 1,
   .ld 43 (.t 42) none,
   .bn 44 .add (.t 39) (.t 43),
   .mv 8 (.t 44)]))))
  (.o [.mv 26 (.t 9),
   .bn 27 .add (.t 26) (.c (.i .i64 1)),
   .mv 9 (.t 27)]))))))
  (.q (.o [.mv 45 (.t 8),
   .mv 4 (.t 45)])
  (.r)))))))⟩
abbrev Xi:Nat:=223
theorem JeE:Qi Go.Proofs.Tryz.prog Xy 223=true:=by kernel_rfl
def XU:Fn:=⟨2,[(.t 4)],
  .q (.o [.mv 4 (.c (.b false))])
  (.q (.o [.mv 10 (.t 0),
   .cl (some 11) 193 [(.t 10)],
   .mv 9 (.t 11),
   .ex 12 (.t 9) 0,
   .ex 13 (.t 9) 1,
   .mv 5 (.t 12),
   .mv 6 (.t 13)])
  (.q (.o [.mv 15 (.t 1),
   .cl (some 16) 193 [(.t 15)],
   .mv 14 (.t 16),
   .ex 17 (.t 14) 0,
   .ex 18 (.t 14) 1,
   .mv 7 (.t 17),
   .mv 8 (.t 18)])
  (.q (.q (.o [.mv 19 (.t 6),
   .un 20 .not (.t 19),
   .mv 21 (.t 20),
   .gd 21 false (.mv 22 (.t 8)),
   .gd 21 false (.un 23 .not (.t 22)),
   .pk 24 (.t 21) (.c (.b true)) (.t 23),
   .mv 25 (.t 24),
   .gd 25 false (.mv 26 (.t 5)),
   .gd 25 false (.ln 27 (.t 26)),
   .gd 25 false (.mv 28 (.t 7)),
   .gd 25 false (.ln 29 (.t 28)),
   .gd 25 false (.bn 30 .lss (.t 27) (.t 29)),
   .pk 31 (.t 25) (.c (.b true)) (.t 30)])
  (.i (.t 31) (.q (.o [.mv 4 (.c (.b false))])
  (.r))
  (.k)))
  (.q (.o [.mv 32 (.t 5),
   .mv 33 (.t 5),
   .ln 34 (.t 33),
   .mv 35 (.t 7),
   .ln 36 (.t 35),
   .bn 37 .sub (.t 34) (.t 36),
   .sl 38 (.t 32) (some (.t 37)) none 1,
   .cl (some 39) 203 [(.t 38)],
   .mv 40 (.t 1),
   .cl (some 41) 144 [(.t 39),(.t 40)],
   .mv 4 (.t 41)])
  (.r)))))⟩
abbrev WO:Nat:=228
theorem Jfi:Qi Go.Proofs.Tryz.prog XU 228=true:=by kernel_rfl
def Zg:Fn:=⟨1,[(.t 2)],
  .q (.o [.mv 2 (.c (.b false))])
  (.q (.o [.mv 3 (.t 0),
   .bn 4 .eql (.t 3) (.c (.i .i64 0)),
   .mv 5 (.t 4),
   .gd 5 false (.mv 6 (.t 0)),
   .gd 5 false (.bn 7 .eql (.t 6) (.c (.i .i64 41))),
   .pk 8 (.t 5) (.c (.b true)) (.t 7),
   .mv 9 (.t 8),
   .gd 9 false (.mv 10 (.t 0)),
   .gd 9 false (.bn 11 .geq (.t 10) (.c (.i .i64 249))),
   .gd 9 false (.mv 12 (.t 11)),
   .gd 12 true (.mv 13 (.t 0)),
   .gd 12 true (.bn 14 .leq (.t 13) (.c (.i .i64 255))),
   .gd 9 false (.pk 15 (.t 12) (.t 14) (.c (.b false))),
   .pk 16 (.t 9) (.c (.b true)) (.t 15),
   .mv 2 (.t 16)])
  (.r))⟩
abbrev Zj:Nat:=251
theorem Jfl:Qi Go.Proofs.Tryz.prog Zg 251=true:=by kernel_rfl
def Xm:Fn:=⟨2,[(.t 4)],
  .q (.o [.mv 4 (.c (.b false))])
  (.q (.o [.mv 5 (.t 0),
   .cl (some 6) 114 [(.t 5)],
   .mv 7 (.t 6),
   .gd 7 true (.mv 8 (.t 1)),
   .gd 7 true (.cl (some 9) 114 [(.t 8)]),
   .pk 10 (.t 7) (.t 9) (.c (.b false)),
   .mv 11 (.t 10),
   .gd 11 true (.mv 12 (.t 0)),
   .gd 11 true (.cl (some 13) 104 [(.t 12)]),
   .gd 11 true (.mv 14 (.t 1)),
   .gd 11 true (.cl (some 15) 104 [(.t 14)]),
   .gd 11 true (.bn 16 .eql (.t 13) (.t 15)),
   .pk 17 (.t 11) (.t 16) (.c (.b false)),
   .mv 4 (.t 17)])
  (.r))⟩
abbrev YD:Nat:=258
theorem Je5:Qi Go.Proofs.Tryz.prog Xm 258=true:=by kernel_rfl
abbrev JaV:Nat:=183
abbrev XN:Nat:=211
def Z6:Fn:=⟨1,[(.t 2)],
  .q (.o [.mv 2 (.c (.s []))])
  (.q (.o [.mv 6 (.t 0),
   .csb 7 (.t 6),
   .mv 3 (.t 7)])
  (.q (.q (.o [.mv 8 (.t 3),
   .ln 9 (.t 8),
   .mv 10 (.c (.i .i64 0))])
  (.b 0 (.l [3,8,9,10] (.q (.o [.bn 11 .lss (.t 10) (.t 9)])
  (.q (.i (.t 11) (.k)
  (.x 0))
  (.q (.b 1 (.q (.o [.mv 12 (.t 10),
   .ia 13 (.t 8) (.t 10) 1,
   .ld 14 (.t 13) none,
   .mv 4 (.t 12),
   .mv 5 (.t 14)])
  (.q (.o [.mv 15 (.t 5),
   .bn 16 .geq (.t 15) (.c (.i .u8 65)),
   .mv 17 (.t 16),
   .gd 17 true (.mv 18 (.t 5)),
   .gd 17 true (.bn 19 .leq (.t 18) (.c (.i .u8 90))),
   .pk 20 (.t 17) (.t 19) (.c (.b false))])
  (.i (.t 20) (.o [.mv 21 (.t 3),
   .mv 22 (.t 4),
   .mv 23 (.t 5),
   .bn 24 .add (.t 23) (.c (.i .u8 32)),
   .ia 25 (.t 21) (.t 22) 1,
   .st (.t 25) (.t 24) 1])
  (.k)))))
  (.o [.bn 26 .add (.t 10) (.c (.i .i64 1)),
   .mv 10 (.t 26)])))))))
  (.q (.o [.mv 27 (.t 3),
   .cbs 28 (.t 27),
   .mv 2 (.t 28)])
  (.r))))⟩
abbrev Qc:Nat:=104
theorem Jig:Qi Go.Proofs.Tryz.prog Z6 104=true:=by kernel_rfl
def Xa:Fn:=⟨2,[(.t 4)],
  .q (.o [.mv 4 (.c (.b false))])
  (.q (.o [.mv 6 (.t 0),
   .cl (some 7) 222 [(.t 6)],
   .mv 5 (.t 7)])
  (.q (.o [.mv 8 (.t 5),
   .bn 9 .neq (.t 8) (.c (.s [])),
   .mv 10 (.t 9),
   .gd 10 true (.mv 11 (.t 5)),
   .gd 10 true (.mv 12 (.t 1)),
   .gd 10 true (.cl (some 13) 222 [(.t 12)]),
   .gd 10 true (.bn 14 .eql (.t 11) (.t 13)),
   .pk 15 (.t 10) (.t 14) (.c (.b false)),
   .mv 4 (.t 15)])
  (.r)))⟩
abbrev Xk:Nat:=144
theorem JeM:Qi Go.Proofs.Tryz.prog Xa 144=true:=by kernel_rfl
def XW:Fn:=⟨1,[(.t 2)],
  .q (.o [.mv 2 (.c (.s []))])
  (.q (.o [.mv 3 (.c (.s []))])
  (.q (.q (.o [.mv 4 (.c (.i .i64 0))])
  (.b 0 (.l [0,3,4] (.q (.q (.o [.mv 5 (.t 4),
   .mv 6 (.t 0),
   .ln 7 (.t 6),
   .bn 8 .lss (.t 5) (.t 7)])
  (.i (.t 8) (.k)
  (.x 0)))
  (.q (.b 1 (.p [⟨.mv 11 (.t 3),[],false⟩,
   ⟨.mv 12 (.t 0),[],false⟩,
   ⟨.mv 13 (.t 4),[],false⟩,
   ⟨.ia 14 (.t 12) (.t 13) 1,[],false⟩,
   ⟨.ld 15 (.t 14) none,[],false⟩,
   ⟨.lns 16 (.t 15),[],false⟩,
   ⟨.ci 17 .u8 (.t 16),[],false⟩,
   ⟨.bs 18 (.i .u8 0) 1 1 [(0,(.t 17))],[],true⟩,
   ⟨.cbs 19 (.t 18),[],false⟩,
   ⟨.bn 20 .add (.t 11) (.t 19),[],false⟩,
   ⟨.mv 21 (.t 0),[],false⟩,
   ⟨.mv 22 (.t 4),[],false⟩,
   ⟨.ia 23 (.t 21) (.t 22) 1,[7],false⟩,
   ⟨.ld 24 (.t 23) none,[7],false⟩,
   ⟨.bn 25 .add (.t 20) (.t 24),[],false⟩,
   ⟨.mv 3 (.t 25),[],false⟩]))
  (.o [.mv 9 (.t 4),
   .bn 10 .add (.t 9) (.c (.i .i64 1)),
   .mv 4 (.t 10)]))))))
  (.q (.o [.mv 26 (.t 3),
   .bn 27 .add (.t 26) (.c (.s [0])),
   .mv 2 (.t 27)])
  (.r))))⟩
abbrev XY:Nat:=203
theorem Jfk:Qi Go.Proofs.Tryz.prog XW 203=true:=by kernel_rfl
def Xu:Fn:=⟨1,[(.t 2)],
  .q (.o [.mv 2 (.c (.s []))])
  (.q (.o [.bs 6 (.i .u8 0) 1 0 [],
   .mv 3 (.t 6)])
  (.q (.q (.o [.mv 4 (.c (.i .i64 0))])
  (.b 0 (.l [0,3,4] (.q (.q (.o [.mv 7 (.t 4),
   .mv 8 (.t 0),
   .lns 9 (.t 8),
   .bn 10 .lss (.t 7) (.t 9)])
  (.i (.t 10) (.k)
  (.x 0)))
  (.q (.b 1 (.q (.o [.mv 13 (.t 0),
   .mv 14 (.t 4),
   .ix 15 (.t 13) (.t 14),
   .mv 5 (.t 15)])
  (.q (.q (.o [.mv 16 (.t 5),
   .bn 17 .geq (.t 16) (.c (.i .u8 65)),
   .mv 18 (.t 17),
   .gd 18 true (.mv 19 (.t 5)),
   .gd 18 true (.bn 20 .leq (.t 19) (.c (.i .u8 90))),
   .pk 21 (.t 18) (.t 20) (.c (.b false))])
  (.i (.t 21) (.o [.mv 22 (.t 5),
   .bn 23 .add (.t 22) (.c (.i .u8 32)),
   .mv 5 (.t 23)])
  (.k)))
  (.o [.mv 24 (.t 3),
   .mv 25 (.t 5),
   .lbs 26 (.i .u8 0) 1 1 [(0,(.t 25))],
   .ap 27 (.t 24) (.t 26) 1 1,
   .mv 3 (.t 27)]))))
  (.o [.mv 11 (.t 4),
   .bn 12 .add (.t 11) (.c (.i .i64 1)),
   .mv 4 (.t 12)]))))))
  (.q (.o [.mv 28 (.t 3),
   .cbs 29 (.t 28),
   .mv 2 (.t 29)])
  (.r))))⟩
abbrev Xf:Nat:=205
theorem Jex:Qi Go.Proofs.Tryz.prog Xu 205=true:=by kernel_rfl
def Xt:Fn:=⟨1,[(.t 2)],
  .q (.o [.mv 2 (.c (.s []))])
  (.q (.o [.mv 7 (.t 0),
   .cl (some 8) 193 [(.t 7)],
   .mv 6 (.t 8),
   .ex 9 (.t 6) 0,
   .ex 10 (.t 6) 1,
   .mv 3 (.t 9),
   .mv 4 (.t 10)])
  (.q (.q (.o [.mv 11 (.t 4),
   .un 12 .not (.t 11)])
  (.i (.t 12) (.q (.o [.mv 2 (.c (.s []))])
  (.r))
  (.k)))
  (.q (.q (.o [.mv 5 (.c (.i .i64 0))])
  (.b 0 (.l [3,5] (.q (.q (.o [.mv 13 (.t 5),
   .mv 14 (.t 3),
   .ln 15 (.t 14),
   .bn 16 .lss (.t 13) (.t 15)])
  (.i (.t 16) (.k)
  (.x 0)))
  (.q (.b 1 (.o [.mv 19 (.t 3),
   .mv 20 (.t 5),
   .mv 21 (.t 3),
   .mv 22 (.t 5),
   .ia 23 (.t 21) (.t 22) 1,
   .ld 24 (.t 23) none,
   .cl (some 25) 205 [(.t 24)],
   .ia 26 (.t 19) (.t 20) 1,
   .st (.t 26) (.t 25) 1]))
  (.o [.mv 17 (.t 5),
   .bn 18 .add (.t 17) (.c (.i .i64 1)),
   .mv 5 (.t 18)]))))))
  (.q (.o [.mv 27 (.t 3),
   .cl (some 28) 203 [(.t 27)],
   .mv 2 (.t 28)])
  (.r)))))⟩
abbrev Qn:Nat:=222
theorem Jeq:Qi Go.Proofs.Tryz.prog Xt 222=true:=by kernel_rfl
def Jf3 (C:Tab) (f:Nat):Prop:= ∀ (a:AV) (ls:List (List UInt8)) (H:AH),Sl H 1 a (ls.map AV.s)→ls.length≤1099511627776→(∀ l,l∈ls→l.length≤255)→ ∃ v H',C f [a] H=some (v,H')∧v= .s (joinL ls)∧Ext H H'
def Jtv (C:Tab) (f:Nat):Prop:= ∀ (s:List UInt8) (H:AH),s.length≤1099511627776→ ∃ v H',C f [.s s] H=some (v,H')∧v= .s (s.map low)∧Ext H H'
def Jln (C:Tab) (f:Nat):Prop:= ∀ (s:List UInt8) (H:AH),s.length≤1099511627776→ ∃ v H',C f [.s s] H=some (v,H')∧v= .s (Jq s)∧Ext H H'
theorem Jst (b:UInt8):low b=if (65:Int)≤(b.toNat:Int)∧(b.toNat:Int)≤90 then b+32 else b:=by
 unfold low;by_cases h:65≤b.toNat∧b.toNat≤90
 ·rw [if_pos h,if_pos (by omega)]
 ·rw [if_neg h,if_neg (by omega)]
theorem Jkn {b:UInt8} (h:(b.toNat:Int)≤90):IntKind.u8.wrap ((b.toNat:Int)+32)=((b+32).toNat:Int):=by
 have e:(b+32).toNat=b.toNat+32:=by rw [UInt8.toNat_add];show (b.toNat+32) % 256=_;omega
 rw [e,IntKind.wrap_u8];omega
theorem Jez: ∀ (ls:List (List UInt8)),(∀ l,l∈ls→l.length≤255)→(joinP ls).length≤256*ls.length
 | [],_=>by simp [joinP]
 | s::r,h=>by
  have h1:=Jez r fun l hl=>h l (.tail _ hl)
  have h2:=h s (.head _);simp only [joinP,List.length_cons,List.length_append];omega
theorem Jca {l:List UInt8} {i:Nat} {d:UInt8}:l.set i (l.getD i d)=l:=by
 apply List.ext_getElem (by simp)
 intro j h1 h2;by_cases h:i=j
 ·subst h;simp [List.getD,h2]
 ·simp [h]
section
variable {C:Tab}
theorem JqH {a:AV} {ls:List (List UInt8)} {H:AH} (h:Sl H 1 a (ls.map AV.s)) (hn:ls.length≤1099511627776) (hb: ∀ l,l∈ls→l.length≤255):Jt C XW [a] H fun v H'=>v= .s (joinL ls)∧Ext H H':=by
 unfold Jt XW;simp -implicitDefEqProofs only [bU];refine Jl (fun n e M=> ∃ (i:Nat) (H':AH) (L:List Lv) (g:Nat),i≤ls.length∧n=ls.length-i∧look e 0=a∧look e 3= .s (joinP (ls.take i))∧look e 4= .i .i64 i∧M=⟨L,g,H'⟩∧Ext H H') ?_ (n:=ls.length) ⟨0,H,_,_,by omega,by omega,rfl,rfl,rfl,rfl,.refl H⟩
 rintro n e M ⟨i,H',L,g,hi,rfl,q0,q3,q4,rfl,he⟩;have hs:=h.ext he;obtain ⟨l1,l2⟩:=hs.len;rw [List.length_map] at l1;by_cases h1:(i:Int) < ls.length
 ·have hil:i < ls.length:=by omega
  have hg:(ls.map AV.s).getD i .u= .s ls[i]:=by simp [List.getD,hil]
  have ia:=fun (L:List Lv) (g:Nat)=>hs.ia1 (j:=i) (v:= .s ls[i]) (by omega) (by rw [List.length_map];omega) (by rw [Jj,hg];rfl) L g
  rw [Jj] at ia;have ia':=(hs.ext (H':=H'.new (.arr true 0 1 [.i .u8 (UInt8.ofNat ls[i].length).toNat])) (.new _ _));have ib:=fun (L:List Lv) (g:Nat)=>ia'.ia1 (j:=i) (v:= .s ls[i]) (by omega) (by rw [List.length_map];omega) (by rw [Jj,hg];rfl) L g
  rw [Jj] at ib;obtain ⟨z1,z2,-⟩:=ia [] 0;have w1:IntKind.i64.wrap ((i:Int)+1)=((i+1:Nat):Int):=by rw [w64 (by omega) (by omega)];rfl
  have hbb:Byt (H'.new (.arr true 0 1 [.i .u8 (UInt8.ofNat ls[i].length).toNat])) (.sl H'.n 0 1) [UInt8.ofNat ls[i].length]:=(Mb.new2 (l:=[UInt8.ofNat ls[i].length]) rfl).sl;obtain ⟨c1,c2⟩:=hbb.cbs;simp -implicitDefEqProofs only [bU,Jc,reduceCtorEq,Ja,bT,bV,Ja,Jg,Qs,J6,q0,q3,q4,l1,l2,h1,z1,z2,ia,ib,Jj,w1,u8w,c1,c2,JE,JQ,List.replicate];have hl2:=Jez (ls.take i) fun l hl=>hb l (List.mem_of_mem_take hl)
  have hl3:=hb _ (List.getElem_mem hil);rw [List.length_take,Nat.min_eq_left (by omega)] at hl2
  refine ⟨by omega,(ib [] 0).1,by rw [List.length_append,List.length_singleton];omega,ls.length- (i+1),by omega,i+1,_,_,_,by omega,rfl,?_,rfl,rfl,he.trans (.new _ _)⟩
  rw [←List.take_append_getElem hil,JhE];simp [joinP]
 ·have hil:i=ls.length:=by omega
  subst hil;rw [List.take_length] at q3;simp -implicitDefEqProofs only [bU,Jc,reduceCtorEq,bT,bV,Jg,q0,q3,q4,l1,l2,h1,Jr,rsC,rsV,Js];have hl2:=Jez ls hb;exact ⟨by omega,rfl,he⟩
theorem Jts {s:List UInt8} {H:AH} (hs:s.length≤1099511627776):Jt C Xu [.s s] H fun v H'=>v= .s (s.map low)∧Ext H H':=by
 unfold Jt Xu;simp -implicitDefEqProofs only [bU,Jc,reduceCtorEq,bT,JE,JQ,List.replicate]
 refine Jl (fun n e M=> ∃ (i:Nat) (o:AV) (H':AH) (L:List Lv) (g:Nat),i≤s.length∧n=s.length-i∧look e 0= .s s∧look e 3=o∧look e 4= .i .i64 i∧M=⟨L,g,H'⟩∧Mb H' o ((s.take i).map low)∧Ext H H'∧(∀ j,j∈idA o→H.n≤j)) ?_ (n:=s.length)
  ⟨0,.sl H.n 0 0,_,_,_,by omega,by omega,rfl,rfl,rfl,rfl,Mb.new2 (H:=H) (l:=[]) rfl,.new _ _,by simp [idA]⟩
 rintro n e M ⟨i,o,H',L,g,hi,rfl,q0,q3,q4,rfl,hm,he,hid⟩;by_cases h1:(i:Int) < s.length
 ·have hil:i < s.length:=by omega
  have hp:(0:Int)≤(i:Int):=by omega
  have w1:IntKind.i64.wrap ((i:Int)+1)=((i+1:Nat):Int):=by rw [w64 (by omega) (by omega)];rfl
  have hlow:=Jst (s.getD i 0)
  have fin: ∀ o' H2,Mb H' o ((s.take i).map low)→Mn H2 1 o' (XR ((s.take i).map low)++[.i .u8 (low (s.getD i 0)).toNat])→Mb H2 o' ((s.take (i+1)).map low):=fun o' H2 _ p4=>by
   have e2:s.take (i+1)=s.take i++[s.getD i 0]:=by
    rw [←List.take_append_getElem hil];simp [List.getD,hil]
   unfold Mb;rw [e2,List.map_append,JiD];exact p4
  by_cases h2:(65:Int)≤((s.getD i 0).toNat:Int)
  ·by_cases h3:((s.getD i 0).toNat:Int)≤90
   ·rw [if_pos ⟨h2,h3⟩] at hlow
    have w2:=Jkn h3;rw [←hlow] at w2;obtain ⟨p1,o',H2,p2,p3,p4,p5,p6,p7,-⟩:=Mn.ap (by':=1) hm (Je0 (t:=26) (g:=g) (x:= .i .u8 (low (s.getD i 0)).toNat) (L:=ZK (JJ [0,3,4] L) 26) (H:=H')) (by simp <;>omega)
    simp -implicitDefEqProofs only [bU,Jc,reduceCtorEq,bT,bV,q0,q3,q4,h1,h2,h3,hp,Jj,w1,w2,JE,JQ,List.replicate];simp -implicitDefEqProofs only [bU,p1,p2,p3];exact ⟨s.length- (i+1),by omega,i+1,o',H2,_,_,by omega,rfl,rfl,rfl,rfl,fin o' H2 hm p4,he.put hid p5 p6,fun k hk=>(p7 k hk).elim (hid k) fun h=>by have:=he.n;omega⟩
   ·rw [if_neg fun h=>h3 h.2] at hlow
    obtain ⟨p1,o',H2,p2,p3,p4,p5,p6,p7,-⟩:=Mn.ap (by':=1) hm (Je0 (t:=26) (g:=g) (x:= .i .u8 (s.getD i 0).toNat) (L:=ZK (JJ [0,3,4] L) 26) (H:=H')) (by simp <;>omega)
    simp -implicitDefEqProofs only [bU,Jc,reduceCtorEq,bT,bV,q0,q3,q4,h1,h2,h3,hp,Jj,w1,JE,JQ,List.replicate];simp -implicitDefEqProofs only [bU,p1,p2,p3];rw [←hlow] at p4;exact ⟨s.length- (i+1),by omega,i+1,o',H2,_,_,by omega,rfl,rfl,rfl,rfl,fin o' H2 hm p4,he.put hid p5 p6,fun k hk=>(p7 k hk).elim (hid k) fun h=>by have:=he.n;omega⟩
  ·rw [if_neg fun h=>h2 h.1] at hlow
   obtain ⟨p1,o',H2,p2,p3,p4,p5,p6,p7,-⟩:=Mn.ap (by':=1) hm (Je0 (t:=26) (g:=g) (x:= .i .u8 (s.getD i 0).toNat) (L:=ZK (JJ [0,3,4] L) 26) (H:=H')) (by simp <;>omega)
   simp -implicitDefEqProofs only [bU,Jc,reduceCtorEq,bT,bV,q0,q3,q4,h1,h2,hp,Jj,w1,JE,JQ,List.replicate];simp -implicitDefEqProofs only [bU,p1,p2,p3];rw [←hlow] at p4;exact ⟨s.length- (i+1),by omega,i+1,o',H2,_,_,by omega,rfl,rfl,rfl,rfl,fin o' H2 hm p4,he.put hid p5 p6,fun k hk=>(p7 k hk).elim (hid k) fun h=>by have:=he.n;omega⟩
 ·have hil:i=s.length:=by omega
  subst hil;rw [List.take_length] at hm;obtain ⟨c1,c2⟩:=Byt.cbs hm.sl;simp -implicitDefEqProofs only [bU,Jc,reduceCtorEq,bT,q0,q3,q4,h1,c1,c2,Jr,rsC,rsV,Js];exact he
theorem Jtr {s:List UInt8} {H:AH} (hs:s.length≤1099511627776):Jt C Z6 [.s s] H fun v H'=>v= .s (s.map low)∧Ext H H':=by
 unfold Jt Z6;simp -implicitDefEqProofs only [bU,Jc,reduceCtorEq,bT,JlE,Jhx]
 refine Jl (fun n e M=> ∃ (i:Nat) (H':AH) (L:List Lv) (g:Nat),i≤s.length∧n=s.length-i∧look e 3= .sl H.n 0 s.length∧look e 8= .sl H.n 0 s.length∧look e 9= .i .i64 s.length∧look e 10= .i .i64 i∧M=⟨L,g,H'⟩∧Mb H' (.sl H.n 0 s.length) ((s.take i).map low++s.drop i)∧Ext H H') ?_ (n:=s.length)
  ⟨0,_,_,_,by omega,by omega,rfl,rfl,rfl,rfl,rfl,Mb.new2 (H:=H) (l:=s) rfl,.new _ _⟩
 rintro n e M ⟨i,H',L,g,hi,rfl,q3,q8,q9,q10,rfl,hm,he⟩;by_cases h1:(i:Int) < s.length
 ·have hil:i < s.length:=by omega
  have hp:(0:Int)≤(i:Int):=by omega
  have w1:IntKind.i64.wrap ((i:Int)+1)=((i+1:Nat):Int):=by rw [w64 (by omega) (by omega)];rfl
  have hlow:=Jst (s.getD i 0);have hlen:((s.take i).map low++s.drop i).length=s.length:=by simp <;>omega
  have hget:((s.take i).map low++s.drop i).getD i 0=s.getD i 0:=by
   simp only [List.getD];rw [List.getElem?_append_right (by simp <;>omega)]
   simp [Nat.min_eq_left (Nat.le_of_lt hil)]
  have hset: ∀ x,x=low (s.getD i 0)→((s.take i).map low++s.drop i).set i x=(s.take (i+1)).map low++s.drop (i+1):=fun x hx=>by
   subst hx;rw [List.set_append_right _ _ (by simp <;>omega),←List.take_append_getElem hil,List.drop_eq_getElem_cons hil]
   have e:((s.take i).map low).length=i:=by simp <;>omega
   rw [e,Nat.sub_self,List.set_cons_zero,List.map_append,List.append_assoc];simp only [List.getD,List.getElem?_eq_getElem hil,Option.getD_some,List.map_cons,List.map_nil,List.singleton_append]
  have ia:=fun (L:List Lv) (g:Nat)=>Byt.ia hm.sl (j:=i) (by omega) (by rw [hlen];omega) L g
  rw [Jj,hget] at ia;obtain ⟨z1,z2,-⟩:=ia [] 0;by_cases h2:(65:Int)≤((s.getD i 0).toNat:Int)
  ·by_cases h3:((s.getD i 0).toNat:Int)≤90
   ·rw [if_pos ⟨h2,h3⟩] at hlow
    have w2:=Jkn h3;rw [←hlow] at w2;obtain ⟨-,-,s1,H2,s2,s3,s4,s5⟩:=Mb.st hm (j:=i) (by omega) (by rw [hlen];omega) (low (s.getD i 0)) (JJ [3,8,9,10] L) g
    rw [Jj] at s1 s2 s3;rw [hset _ rfl] at s3;simp -implicitDefEqProofs only [bU,Jc,bT,bV,q3,q8,q9,q10,h1,h2,h3,z1,z2,ia,Jj,w1,w2];exact ⟨s1,s.length- (i+1),by omega,i+1,H2,_,_,by omega,rfl,rfl,s2,s3,Kp.put he (Kp.st s4 s5) (by simp [idA])⟩
   ·rw [if_neg fun h=>h3 h.2] at hlow
    have hm':=hset _ hlow.symm
    have hm2:((s.take i).map low++s.drop i).set i (s.getD i 0)=(s.take i).map low++s.drop i:=by
     rw [←hget];exact Jca
    rw [hm2] at hm';rw [hm'] at hm;simp -implicitDefEqProofs only [bU,Jc,bT,q3,q8,q9,q10,h1,h2,h3,z1,z2,ia,Jj,w1];exact ⟨s.length- (i+1),by omega,i+1,H',_,_,by omega,rfl,rfl,rfl,hm,he⟩
  ·rw [if_neg fun h=>h2 h.1] at hlow
   have hm':=hset _ hlow.symm
   have hm2:((s.take i).map low++s.drop i).set i (s.getD i 0)=(s.take i).map low++s.drop i:=by
    rw [←hget];exact Jca
   rw [hm2] at hm';rw [hm'] at hm;simp -implicitDefEqProofs only [bU,Jc,bT,q3,q8,q9,q10,h1,h2,z1,z2,ia,Jj,w1];exact ⟨s.length- (i+1),by omega,i+1,H',_,_,by omega,rfl,rfl,rfl,hm,he⟩
 ·have hil:i=s.length:=by omega
  subst hil;rw [List.take_length,List.drop_length,List.append_nil] at hm;obtain ⟨c1,c2⟩:=Byt.cbs hm.sl;simp -implicitDefEqProofs only [bU,Jc,reduceCtorEq,bT,q3,q8,q9,q10,h1,c1,c2,Jr,rsC,rsV,Js];exact he
theorem JoS {s:List UInt8} {H:AH} (hL:JcQ C QI) (hS:Jtv C Xf) (hJ:Jf3 C XY) (hs:s.length≤1099511627776):Jt C Xt [.s s] H fun v H'=>v= .s (Jq s)∧Ext H H':=by
 unfold Jt Xt;obtain ⟨v,H1,k1,e1,k2⟩:=hL s H hs;cases hn:JB s with
 | none=>
  rw [hn] at k2;obtain ⟨o,rfl,ho⟩:=k2;simp -implicitDefEqProofs only [bU,Jc,reduceCtorEq,Ja,Jb,bT,k1,Jr,rsC,rsV,Js];exact ⟨by unfold Jq;rw [hn],e1⟩
 | some ls=>
  rw [hn] at k2;obtain ⟨o,rfl,hm,hid⟩:=k2;obtain ⟨j1,j2,j3,j4,j5⟩:=We hn;have ho:=hm.sl.out;simp -implicitDefEqProofs only [bU,Jc,reduceCtorEq,Ja,Jb,bT,k1]
  refine Jl (fun n e M=> ∃ (i:Nat) (H':AH) (L:List Lv) (g:Nat),i≤ls.length∧n=ls.length-i∧look e 3=o∧look e 5= .i .i64 i∧M=⟨L,g,H'⟩∧Mn H' 1 o (((ls.take i).map fun l=>AV.s (l.map low))++(ls.drop i).map AV.s)∧Ext H H') ?_ (n:=ls.length)
   ⟨0,H1,_,_,by omega,by omega,rfl,rfl,rfl,by simpa using hm,e1⟩
  clear k1 hm e1;rintro n e M ⟨i,H',L,g,hi,rfl,q3,q5,rfl,hm,he⟩;have hlen:(((ls.take i).map fun l=>AV.s (l.map low))++(ls.drop i).map AV.s).length=ls.length:=by simp <;>omega
  obtain ⟨l1,l2⟩:=hm.sl.len;rw [hlen] at l1;by_cases h1:(i:Int) < ls.length
  ·have hil:i < ls.length:=by omega
   have hg:(((ls.take i).map fun l=>AV.s (l.map low))++(ls.drop i).map AV.s).getD i .u= .s ls[i]:=by
    simp only [List.getD];rw [List.getElem?_append_right (by simp <;>omega)]
    simp [Nat.min_eq_left (Nat.le_of_lt hil),hil]
   have ia:=fun (L:List Lv) (g:Nat)=>hm.sl.ia1 (j:=i) (v:= .s ls[i]) (by omega) (by rw [hlen];omega) (by rw [Jj,hg];rfl) L g
   rw [Jj] at ia;obtain ⟨z1,z2,-⟩:=ia [] 0;have w1:IntKind.i64.wrap ((i:Int)+1)=((i+1:Nat):Int):=by rw [w64 (by omega) (by omega)];rfl
   have hl3:=j4 _ (List.getElem_mem hil);obtain ⟨v2,H2,k2,rfl,e2⟩:=hS ls[i] H' (by omega)
   have hm2:=hm.ext e2;obtain ⟨z3,z4,-⟩:=hm2.sl.ia1 (j:=i) (v:= .s ls[i]) (by omega) (by rw [hlen];omega) (by rw [Jj,hg];rfl) [] 0
   obtain ⟨s1,H3,s2,s3,s4,s5⟩:=hm2.st (j:=i) (v:= .s (ls[i].map low)) (off:=0) (by omega) (by rw [hlen];omega) (by rw [Jj,hg];exact Nat.le_refl _) (JJ [3,5] L) g
   rw [Jj,fa0] at s1 s2;rw [Jj,hg,Jed rfl (fun cs h=>by cases h)] at s3
   have hset:((((ls.take i).map fun l=>AV.s (l.map low))++(ls.drop i).map AV.s).set i (.s (ls[i].map low)))=((ls.take (i+1)).map fun l=>AV.s (l.map low))++(ls.drop (i+1)).map AV.s:=by
    rw [List.set_append_right _ _ (by simp <;>omega),←List.take_append_getElem hil,List.drop_eq_getElem_cons hil]
    have e:((ls.take i).map fun l=>AV.s (l.map low)).length=i:=by simp <;>omega
    rw [e,Nat.sub_self,List.map_cons,List.set_cons_zero,List.map_append,List.append_assoc];rfl
   rw [hset] at s3;simp -implicitDefEqProofs only [bU,Jc,bT,bV,q3,q5,l1,l2,h1,z1,z2,z3,ia,Jj,w1,k2];exact ⟨s1,ls.length- (i+1),by omega,i+1,H3,_,_,by omega,rfl,rfl,s2,s3,Kp.put (he.trans e2) (Kp.st s4 s5) hid⟩
  ·have hil:i=ls.length:=by omega
   subst hil;rw [List.take_length,List.drop_length,List.map_nil,List.append_nil] at hm;have e3:(ls.map fun l=>AV.s (l.map low))=(ls.map fun l=>l.map low).map AV.s:=by rw [List.map_map];rfl
   rw [e3] at hm
   obtain ⟨v2,H2,k2,rfl,e2⟩:=hJ o (ls.map fun l=>l.map low) H' hm.sl (by simp <;>omega) (fun l hl=>by
    obtain ⟨x,hx,rfl⟩:=List.mem_map.1 hl;have:=j4 x hx;simp;omega)
   simp -implicitDefEqProofs only [bU,Jc,reduceCtorEq,bT,q3,q5,l1,l2,h1,ho,k2,Jr,rsC,rsV,Js];exact ⟨by rw [j2];unfold Jq;rw [hn],he.trans e2⟩
theorem JsL {s t:List UInt8} {H:AH} (hF:Jln C Qn) (hs:s.length≤1099511627776) (ht:t.length≤1099511627776):Jt C Xa [.s s,.s t] H fun v H'=>v= .b (decide (Jq s≠ []∧Jq s=Jq t))∧Ext H H':=by
 unfold Jt Xa;obtain ⟨v1,H1,k1,rfl,e1⟩:=hF s H hs;obtain ⟨v2,H2,k2,rfl,e2⟩:=hF t H1 ht;generalize Jq s=x at*;generalize Jq t=y at*;by_cases h1:x=[]
 ·subst h1
  simp -implicitDefEqProofs only [bU,Jc,reduceCtorEq,Ja,bT,k1,Jr,rsC,rsV,Js];exact ⟨rfl,e1⟩
 ·by_cases h2:x=y
  ·subst h2
   simp -implicitDefEqProofs only [bU,Jc,reduceCtorEq,Ja,bT,k1,k2,h1,Jr,rsC,rsV,Js];exact ⟨by simp [h1],e1.trans e2⟩
  ·simp -implicitDefEqProofs only [bU,Jc,reduceCtorEq,Ja,bT,k1,k2,h1,h2,Jr,rsC,rsV,Js]
   exact ⟨by simp [],e1.trans e2⟩
end
def Rn.cut (ρ:Rn) (n:Nat):Rn:=⟨fun i=>if i < n then ρ.pl i else [],fun i=>if i < n then ρ.ob i else none,fun b=>match ρ.own b with | .id i=>if i < n then .id i else .no | o=>o,ρ.lo⟩
def isC:AV→Bool
 | .b _ | .i .. | .s _=>true
 | _=>false
def Juf:List AV→Bool
 | []=>true
 | x::r=>isC x&&Juf r
def JpX:AV→Bool
 | .tp xs=>Juf xs
 | v=>isC v
theorem JO.both {α β:Type} {R Q S:α→β→Prop}: ∀ {l:List α} {m m':List β},JO R l m→JO Q l m'→(∀ x y y',R x y→Q x y'→S x y')→JO S l m'
 | [],[],[],_,_,_=>trivial
 | x::l,y::m,y'::m',h,h',k=>⟨k x y y' h.1 h'.1,JO.both h.2 h'.2 k⟩
 | [],_::_,_,h,_,_=>h.elim
 | [],[],_::_,_,h,_=>h.elim
 | _::_,[],_,h,_,_=>h.elim
 | _::_,_::_,[],_,h,_=>h.elim
section
variable {ρ ρ':Rn} {n:Nat}
theorem VP.cut (hf: ∀ i,n≤i→ρ.pl i=[]∧ρ.ob i=none) {a:AV} {v0 v:Value} (h0:VP ρ a v0) (h:VP ρ' a v):VP (ρ'.cut n) a v:=by
 have lt: ∀ {i p},p∈ρ.pl i→i < n:=fun {i p} hp=>by
  rcases Nat.lt_or_ge i n with h | h
  ·exact h
  ·rw [(hf i h).1] at hp;cases hp
 cases a<;>try exact h
 case pv id off=>
  obtain ⟨p,h1,-⟩:=h0;obtain ⟨q,k1,k2⟩:=h;exact ⟨q,by simp only [Rn.cut];rw [if_pos (lt h1)];exact k1,k2⟩
 case pe id ix off ext=>
  obtain ⟨p,h1,-⟩:=h0;obtain ⟨q,k1,k2⟩:=h;exact ⟨q,by simp only [Rn.cut];rw [if_pos (lt h1)];exact k1,k2⟩
 case sl id ix len=>
  obtain ⟨p,h1,-⟩:=h0;obtain ⟨q,k1,k2⟩:=h;exact ⟨q,by simp only [Rn.cut];rw [if_pos (lt h1)];exact k1,k2⟩
 case fs t id ix len=>
  obtain ⟨p,h1,-⟩:=h0;obtain ⟨q,k1,k2⟩:=h;exact ⟨q,by simp only [Rn.cut];rw [if_pos (lt h1)];exact k1,k2⟩
 case mp id=>
  obtain ⟨b,h1,-⟩:=h0;obtain ⟨c,k1,k2⟩:=h
  have:id < n:=by
   rcases Nat.lt_or_ge id n with h | h
   ·exact h
   ·rw [(hf id h).2] at h1;cases h1
  exact ⟨c,by simp only [Rn.cut];rw [if_pos this];exact k1,k2⟩
theorem VA.cut (hf: ∀ i,n≤i→ρ.pl i=[]∧ρ.ob i=none) {a:AV} {v0 v:Value} (h0:VA ρ a v0) (h:VA ρ' a v):VA (ρ'.cut n) a v:=by
 cases a
 case fn f caps=>
  obtain ⟨rc0,-,c0⟩:=h0;obtain ⟨rc,e,c⟩:=h;exact ⟨rc,e,c0.both c fun _ _ _=>VP.cut hf⟩
 all_goals (simp only [VA] at h0 h ⊢;exact VP.cut hf h0 h)
theorem V1.cut (hf: ∀ i,n≤i→ρ.pl i=[]∧ρ.ob i=none) {a:AV} {v0 v:Value} (h0:V1 ρ a v0) (h:V1 ρ' a v):V1 (ρ'.cut n) a v:=by
 cases a
 case ag xs=>
  obtain ⟨rc0,-,c0⟩:=h0;obtain ⟨rc,e,c⟩:=h;exact ⟨rc,e,c0.both c fun _ _ _=>VA.cut hf⟩
 all_goals (simp only [V1] at h0 h ⊢;exact VA.cut hf h0 h)
theorem Jlo {b i:Nat} (hi:i < n) {rw:Bool} (h:ρ'.own b=JbU rw i):(ρ'.cut n).own b=JbU rw i:=by
 cases rw
 ·simp only [JbU] at h ⊢
  simp only [Rn.cut,h];rfl
 ·simp only [JbU] at h ⊢
  simp only [Rn.cut,h];simp [hi]
theorem Jku (hf: ∀ i,n≤i→ρ.pl i=[]∧ρ.ob i=none): ∀ {l:List AV} {m:List Value},(∀ x,x∈l→ ∃ v,VA ρ x v)→JO (VA ρ') l m→JO (VA (ρ'.cut n)) l m
 | [],[],_,_=>trivial
 | x::l,y::m,hc,h=>by
  obtain ⟨v,hv⟩:=hc x (by simp)
  exact ⟨hv.cut hf h.1,Jku hf (fun x hx=>hc x (by simp [hx])) h.2⟩
 | [],_::_,_,h=>h.elim
 | _::_,[],_,h=>h.elim
theorem Jki {x:AV}: ∀ {l:List AV},x∈flat l→ ∃ y,y∈l∧x∈y.cells
 | [],h=>by cases h
 | y::l,h=>by
  simp only [flat,List.mem_append] at h;rcases h with h | h
  ·exact ⟨y,by simp,h⟩
  ·obtain ⟨z,h1,h2⟩:=Jki h
   exact ⟨z,by simp [h1],h2⟩
theorem JkJ {x y:AV}: ∀ {l:List AV},y∈l→x∈y.cells→x∈flat l
 | [],h,_=>by cases h
 | z::l,h,hx=>by
  simp only [flat,List.mem_append];rcases List.mem_cons.1 h with rfl | h
  ·exact .inl hx
  ·exact .inr (JkJ h hx)
theorem Jfm.cut (hf: ∀ i,n≤i→ρ.pl i=[]∧ρ.ob i=none) {w w0:World} {i:Nat} {o:Ob} (hi:i < n) (h0:Jfm ρ w0 i o) (h:Jfm ρ' w i o):Jfm (ρ'.cut n) w i o:=by
 cases o with
 | no=>trivial
 | arr rw st z xs=>
  obtain ⟨hz,q,rest,hA⟩:=h;obtain ⟨-,q0,rest0,hA0⟩:=h0
  have hv: ∀ {p:Pl},Jf4 ρ' w p xs rw→Jf4 (ρ'.cut n) w p xs rw:=fun {p} ⟨c,ty,fz,h1,h2,h3,h4,h5⟩=>
   ⟨c,ty,fz,h1,h2,h3,h4,Jku hf (fun x hx=>hA0.hcl x (by
    obtain ⟨y,hy,hxy⟩:=Jki hx;exact JkJ (List.mem_of_mem_take (List.mem_of_mem_drop hy)) hxy)) h5⟩
  refine ⟨hz,q,rest,⟨by simp only [Rn.cut];rw [if_pos hi];exact hA.hpl,hA.hx,hA.hs,hA.hz,hv hA.hv,fun r hr=>⟨(hA.hown r hr).1,Jlo hi (hA.hown r hr).2⟩,hA.hst0,fun r hr=> ?_,fun x hx=> ?_⟩⟩
  ·obtain ⟨h1,h2,h3,h4,h5⟩:=hA.hrest r hr
   exact ⟨h1,h2,h3,h4,fun hs=>hv (h5 hs)⟩
  ·obtain ⟨v0,hv0⟩:=hA0.hcl x hx
   obtain ⟨v,hv⟩:=hA.hcl x hx;exact ⟨v,hv0.cut hf hv⟩
 | map rw es=>
  obtain ⟨b,h1,h2,ents,clk,h3,h4,h5⟩:=h;obtain ⟨b0,-,-,ents0,clk0,-,h40,-⟩:=h0;exact ⟨b,by simp only [Rn.cut];rw [if_pos hi];exact h1,Jlo hi h2,ents,clk,h3,h40.both h4 fun _ _ _ a c=>⟨a.1.cut hf c.1,a.2.cut hf c.2⟩,h5⟩
theorem Jqq {v:AV} {r:Value} (hv:JpX v=true) (h:V2 ρ v r):V2 ρ' v r:=by
 have one: ∀ {x:AV} {y:Value},isC x=true→V1 ρ x y→V1 ρ' x y:=fun {x y} hx h=>by
  cases x<;>simp [isC] at hx<;>exact h
 have all: ∀ {l:List AV} {m:List Value},Juf l=true→JO (V1 ρ) l m→JO (V1 ρ') l m:=by
  intro l;induction l with
  | nil=>intro m _ h;cases m with | nil=>trivial | cons=>exact h.elim
  | cons x l ih=>
   intro m hc h;simp only [Juf,Bool.and_eq_true] at hc;cases m with
   | nil=>exact h.elim
   | cons y m=>exact ⟨one hc.1 h.1,ih hc.2 h.2⟩
 cases v
 case tp xs=>
  obtain ⟨ys,e,h⟩:=h;exact ⟨ys,e,all hv h⟩
 all_goals (first | exact h | exact absurd hv (by simp [JpX,isC]))
end
theorem JgQ.cut {ρ:Rn} {w w':World} {H H1:AH} {v:AV} {e:Ending} (hH:J7 ρ H w) (hn:H.n≤H1.n) (ha: ∀ i,i < H.n→H1.at' i=H.at' i) (hv:JpX v=true) (h:JgQ ρ w v H1 e w'):JgQ ρ w v H e w':=by
 cases e<;>try exact h
 rename_i r
 obtain ⟨ρ',hs,h2,h3⟩:=h;refine ⟨ρ'.cut H.n,⟨⟨fun id p hp=> ?_,fun id b hb=> ?_⟩,fun b hb=> ?_,hs.frame,hs.sz,hs.os,hs.tape,hs.out⟩,Jqq hv h2,⟨fun id hid=> ?_,fun id hid=> ?_,fun b hb=> ?_,fun b id hb=> ?_⟩⟩
 ·have hid:id < H.n:=by
   rcases Nat.lt_or_ge id H.n with h | h
   ·exact h
   ·rw [(hH.fr id h).1] at hp;cases hp
  simp only [Rn.cut];rw [if_pos hid];exact hs.le.pl id p hp
 ·have hid:id < H.n:=by
   rcases Nat.lt_or_ge id H.n with h | h
   ·exact h
   ·rw [(hH.fr id h).2] at hb;cases hb
  simp only [Rn.cut];rw [if_pos hid];exact hs.le.ob id b hb
 ·have e:=hs.own b hb
  simp only [Rn.cut];rw [e];cases ho:ρ.own b with
  | no=>rfl
  | loc=>rfl
  | id i=>simp [hH.ids b i ho]
 ·have:=h3.rep id (Nat.lt_of_lt_of_le hid hn)
  rw [ha id hid] at this;exact Jfm.cut hH.fr hid (hH.rep id hid) this
 ·simp only [Rn.cut]
  rw [if_neg (by omega),if_neg (by omega)]
  exact ⟨rfl,rfl⟩
 ·simp only [Rn.cut]
  rw [h3.bnd b hb]
 ·simp only [Rn.cut] at hb
  cases ho:ρ'.own b with
  | no=>rw [ho] at hb;cases hb
  | loc=>rw [ho] at hb;cases hb
  | id i=>
   rw [ho] at hb;simp only at hb;split at hb
   ·cases hb;assumption
   ·cases hb
section
variable {P:Program} {C T:Tab}
theorem Jnl {F:Fn} {f:Nat} {vs:List AV} {H:AH} {G:AV→AH→Prop} (hC:Yj P C) (hmx:P.follows .mixedOrders=true) (hF:Qi P F f=true) (hx:Jt C F vs H G):
  ∀ ρ w rargs,J7 ρ H w→JeK ρ P.globals.size→JO (V1 ρ) vs rargs.toList→Calls P f rargs w (fun e w'=> ∃ v H',G v H'∧JgQ ρ w v H' e w'):=by
 intro ρ w rargs hH hgl hv;unfold Qi at hF;split at hF
 ·rename_i fn hf
  unfold Jro at hF;split at hF
  ·rename_i c hb
   simp only [Bool.and_eq_true] at hF;obtain ⟨⟨-,hrs⟩,hcs⟩:=hF;refine calls_of_wp hf hb ?_
   let ρ1:Rn:={ρ with lo:=fun _ _=>none}
   have hle:ρ.Le ρ1:=⟨fun _ p h=>⟨p,h,rfl,rfl,rfl,rfl,rfl,Nat.le_refl _⟩,fun _ _ h=>h⟩
   have hH1:J7 ρ1 H w:=hH.of hle rfl rfl (Nat.le_refl _) (fun _ _ _=>⟨rfl,rfl⟩) hH.bnd fun _ _ h=>h
   let B:Base:=⟨P.globals.size,w,ρ1⟩
   have hM:Qt B ρ1 ⟨[],0,H⟩ w:=⟨hH1,fun t g k xs h=>(by cases h),fun _ _ _=>rfl,fun t g t' g' b z z' h=>(by cases h),fun t g b z h=>(by cases h),Rn.Le.refl _,fun _ _ _=>rfl,fun _ _=>rfl,Nat.le_refl _,rfl,rfl,rfl,hgl⟩
   refine JkK (B:=B) (N:=fn.ntmps) hC rfl hmx F.s c _ _ _ _ _ w hcs (fun x e M a' w' hk hx=> ?_) hx ⟨ρ1,fun t=> ?_,hM,rfl,by simp;omega⟩
   ·obtain ⟨k1,k2,k3⟩:=hk
    obtain ⟨ρ',hst⟩:=hx;obtain ⟨r,r1,r2⟩:=Jk9 (fn:=fn) hst hrs k2;have hm:=hst.mem;have hS:Stp ρ w ρ' w':=⟨hle.trans hm.le,hm.own,hm.frame,hm.sz,hm.os,hm.tape,hm.out⟩;have hB: ∃ v H',G v H'∧JgQ ρ w v H' (.returned r) w':=⟨_,_,k3,ρ',hS,r2,hm.heap⟩;cases x with
    | nx=>exact ⟨hst.dfr,r,r1,hB⟩
    | rt=>exact ⟨hst.dfr,r,r1,hB⟩
    | ex _=>exact k1.elim
   ·rcases Jd6 vs 0 rargs.toList t hv with h | ⟨y,-,h2,h3⟩
    ·rw [h];trivial
    ·have hy:rargs[t]? =some y:=by simpa using h2
     have:(rargs++Array.replicate (fn.ntmps-rargs.size) undef).getD t undef=y:=by
      rw [Array.getD_eq_getD_getElem?,Array.getElem?_append_left (Array.getElem?_eq_some_iff.1 hy).1,hy];rfl
     show VE ρ1 _ ((rargs++Array.replicate (fn.ntmps-rargs.size) undef).getD t undef)
     rw [this];exact VE.of (V2.of (V1.mono hle h3))
  ·cases hF
 ·cases hF
def QA (H H':AH):Prop:=H.n≤H'.n∧ ∀ i,i < H.n→H'.at' i=H.at' i
open Classical in
noncomputable def Jmf (C:Tab) (F:Fn) (vs:List AV) (H:AH):Option (AV×AH):=
 if h: ∃ v:AV,JpX v=true∧Jt C F vs H (fun v' H'=>v'=v∧QA H H') then some (h.choose,H) else none
theorem JpK {F:Fn} {f:Nat} (hC:Yj P C) (hT:Yj P T) (hmx:P.follows .mixedOrders=true) (hF:Qi P F f=true):Yj P (ext T f (Jmf C F)):=by
 intro g vs H v H' h;unfold Vm.ext at h;by_cases hg:g=f
 ·rw [if_pos hg] at h
  subst hg;unfold Jmf at h;split at h
  ·rename_i hx
   injection h with h
   injection h with h1 h2
   obtain ⟨s1,s2⟩:=hx.choose_spec;rw [h1] at s1 s2;subst h2;refine .inl ⟨?_,fun ρ w rargs hH hG hv=>(Jnl hC hmx hF s2 ρ w rargs hH hG hv).mono fun e w' ⟨v',H1,⟨k1,k2,k3⟩,hb⟩=> ?_⟩
   ·unfold Qi at hF
    split at hF
    ·rename_i fn hf
     unfold Jro at hF;split at hF
     ·rename_i c hb
      simp only [Bool.and_eq_true,Bool.not_eq_true'] at hF;exact ⟨fn,hf,hF.1.1,by rw [hb];rfl⟩
     ·cases hF
    ·cases hF
   ·subst k1
    exact hb.cut hH k2 k3 s1
  ·cases h
 ·rw [if_neg hg] at h
  exact hT g vs H v H' h
theorem Jp0 {F:Fn} {f:Nat} {vs:List AV} {H:AH} {v:AV} (hv:JpX v=true) (h:Jt C F vs H fun v' H'=>v'=v∧QA H H'):Jmf C F vs H=some (v,H):=by
 have hx: ∃ v:AV,JpX v=true∧Jt C F vs H (fun v' H'=>v'=v∧QA H H'):=⟨v,hv,h⟩
 unfold Jmf;rw [dif_pos hx];obtain ⟨x,e,M,h1,h2⟩:=JgG _ _ _ h hx.choose_spec.2;rw [h1.2.2.1.symm.trans h2.2.2.1]
end
def Ja1 (C:Tab) (f:Nat):Prop:= ∀ (s:List UInt8) (H:AH),s.length≤1099511627776→C f [.s s] H=some (.s (Zz s),H)
def Jbk (C:Tab) (f:Nat):Prop:= ∀ (s:List UInt8) (H:AH),s.length≤1099511627776→C f [.s s] H=some (.s (Jq s),H)
def Jb2 (C:Tab) (f:Nat):Prop:= ∀ (s:List UInt8) (H:AH),s.length≤1099511627776→C f [.s s] H=some (.b (JB s).isSome,H)
def Jeh (C:Tab) (f:Nat):Prop:= ∀ (s t:List UInt8) (H:AH),s.length≤1099511627776→t.length≤1099511627776→C f [.s s,.s t] H=some (.b (Jdg s t),H)
def JbI (C:Tab) (f:Nat):Prop:= ∀ (s t:List UInt8) (H:AH),s.length≤1099511627776→t.length≤1099511627776→C f [.s s,.s t] H=some (.b (JfH s t),H)
def Jfx (C:Tab) (f:Nat):Prop:= ∀ (s t:List UInt8) (H:AH),s.length≤1099511627776→t.length≤1099511627776→C f [.s s,.s t] H=some (.i .i64 (Jhn s t),H)
def JjT (C:Tab) (f:Nat):Prop:= ∀ (s t:List UInt8) (H:AH),C f [.s s,.s t] H=some (.i .i64 (Lib.compareBytes s t),H)
theorem Jc5.sh {r:Option (List (List UInt8))} {H H':AH} {v:AV} (h:Jc5 r H v H'): ∃ o,v= .tp [o,.b r.isSome]∧o.outs=true:=by
 obtain ⟨-,h⟩:=h;cases r with
 | none=>obtain ⟨o,h1,h2⟩:=h;exact ⟨o,h1,h2⟩
 | some ls=>obtain ⟨o,h1,h2,-⟩:=h;exact ⟨o,h1,h2.sl.out⟩
theorem Sl.suf {H:AH} {z:Nat} {a:AV} {els:List AV} (h:Sl H z a els) {lo:Int} (h0:0≤lo) (h1:lo≤els.length):slC lo (els.length:Int) a∧slZ H z a∧Sl H z (slV lo.toNat els.length a) (els.drop lo.toNat):=by
 cases h with
 | nil=>
  have e1:lo=0:=by simp at h1;omega
  subst e1;exact ⟨⟨rfl,rfl⟩,trivial,by simpa [slV] using (Sl.nil:Sl H z .ns [])⟩
 | @sl id ix st rw xs els k1 k2 k3 k4 k5=>
  refine ⟨⟨h0,h1,Int.le_refl _⟩,by simp only [slZ,k2],?_⟩
  have hl:(els.drop lo.toNat).length=els.length-lo.toNat:=by simp
  simp only [slV]
  have:=Sl.sl (H:=H) (z:=z) (ix:=ix+lo.toNat) (els:=els.drop lo.toNat) k1 k2 (by rw [hl];omega) (by
   rw [hl];conv=>rhs;rw [←k4]
   rw [List.drop_take,List.drop_drop]) (fun e=>by rw [hl];have:=k5 e;omega)
  rw [hl] at this;exact this
theorem Sl.sufL {H:AH} {a:AV} {ls:List (List UInt8)} (h:Sl H 1 a (ls.map AV.s)) {k:Nat} (hk:k≤ls.length):slC (k:Int) (ls.length:Int) a∧slZ H 1 a∧Sl H 1 (slV k ls.length a) ((ls.drop k).map AV.s):=by
 have:=h.suf (lo:=k) (by omega) (by rw [List.length_map];omega)
 rw [List.length_map,Jj,←List.map_drop] at this;exact this
section
variable {C:Tab}
theorem Jur {s t:List UInt8} {H:AH}:Jt C XA [.s s,.s t] H fun v H'=>v= .i .i64 (Lib.compareBytes s t)∧QA H H':=by
 unfold Jt XA;rw [JiE];have hk:QA H H:=⟨Nat.le_refl _,fun _ _=>rfl⟩
 cases h:Op.bytesLess s t with
 | true=>
  simp -implicitDefEqProofs only [bU,Jc,reduceCtorEq,Ja,bT,h,Jr,rsC,rsV,Js];exact hk
 | false=>
  by_cases h2:s=t
  ·subst h2
   simp -implicitDefEqProofs only [bU,Jc,reduceCtorEq,Ja,bT,h,Bool.or_true,Jr,rsC,rsV,Js];exact hk
  ·simp -implicitDefEqProofs only [bU,Jc,reduceCtorEq,Ja,bT,h,h2,Bool.or_false,Jr,rsC,rsV,Js]
   exact hk
theorem QA.of {H H':AH} (h:Ext H H'):QA H H':=⟨h.n,h.at'⟩
theorem JpG {s t:List UInt8} {H:AH} (hL:JcQ C QI) (hJ:Jf3 C XY) (hS:Jeh C Xk) (hs:s.length≤1099511627776) (ht:t.length≤1099511627776):
  Jt C XU [.s s,.s t] H fun v H'=>v= .b (JfH s t)∧QA H H':=by
 unfold Jt XU;obtain ⟨v1,H1,k1,p1⟩:=hL s H hs;obtain ⟨v2,H2,k2,p2⟩:=hL t H1 ht;have e1:=p1.1;have e2:=e1.trans p2.1;unfold JfH;cases hn:JB s with
 | none=>
  obtain ⟨o1,rfl,ho1⟩:=p1.sh;obtain ⟨o2,rfl,ho2⟩:=p2.sh;rw [hn] at k1;simp -implicitDefEqProofs only [bU,Jc,reduceCtorEq,Ja,Jb,bT,k1,k2,Option.isSome_none,Jr,rsC,rsV,Js];exact .of e2
 | some a=>
  rw [hn] at p1;obtain ⟨-,o1,rfl,hm1,-⟩:=p1;cases hm:JB t with
  | none=>
   obtain ⟨o2,rfl,ho2⟩:=p2.sh;rw [hm] at k2;simp -implicitDefEqProofs only [bU,Jc,reduceCtorEq,Ja,Jb,bT,k1,k2,Option.isSome_none,Jr,rsC,rsV,Js];exact .of e2
  | some b=>
   rw [hm] at p2;obtain ⟨he,o2,rfl,hm2,-⟩:=p2;obtain ⟨l1,l2⟩:=(hm1.sl.ext he).len;obtain ⟨l3,l4⟩:=hm2.sl.len;rw [List.length_map] at l1 l3;have c1:=We hn;have c2:=We hm;by_cases hlt:(a.length:Int) < b.length
   ·simp -implicitDefEqProofs only [bU,Jc,reduceCtorEq,Ja,Jb,bT,k1,k2,l1,l2,l3,l4,hlt,Jr,rsC,rsV,Js]
    refine ⟨?_,.of e2⟩
    simp only [decide_eq_false (show ¬ b.length≤a.length by omega),Bool.false_and]
   ·have w1:IntKind.i64.wrap ((a.length:Int)-b.length)=((a.length-b.length:Nat):Int):=by rw [w64 (by omega) (by omega)];omega
    obtain ⟨s1,s2,s3⟩:=Sl.sufL (hm1.sl.ext he) (k:=a.length-b.length) (by omega)
    obtain ⟨v3,H3,k3,rfl,e3⟩:=hJ _ _ _ s3 (by simp;omega) (fun l hl=>by have:=c1.2.2.2.1 l (List.mem_of_mem_drop hl);omega)
    have hlen:=(Q9 (JcT hn (a.length-b.length))).2.2;have k4:=hS (joinL (a.drop (a.length-b.length))) t H3 (by omega) ht
    simp -implicitDefEqProofs only [bU,Jc,reduceCtorEq,Ja,Jb,bT,k1,k2,l1,l2,l3,l4,hlt,w1,s1,s2,Jj,k3,k4,s3.out,Jr,rsC,rsV,Js];refine ⟨?_,.of (e2.trans e3)⟩
    simp only [decide_eq_true (show b.length≤a.length by omega),Bool.true_and]
theorem JsI {s t:List UInt8} {H:AH} (hL:JcQ C QI) (hF:Ja1 C Xf) (hO:JjT C Yt) (hs:s.length≤1099511627776) (ht:t.length≤1099511627776):
  Jt C QH [.s s,.s t] H fun v H'=>v= .i .i64 (Jhn s t)∧QA H H':=by
 unfold Jt QH;obtain ⟨v1,H1,k1,p1⟩:=hL s H hs;obtain ⟨v2,H2,k2,p2⟩:=hL t H1 ht;have e1:=p1.1;have e2:=e1.trans p2.1;unfold Jhn;cases hn:JB s with
 | none=>
  obtain ⟨o1,rfl,ho1⟩:=p1.sh;obtain ⟨o2,rfl,ho2⟩:=p2.sh;rw [hn] at k1;simp -implicitDefEqProofs only [bU,Jc,reduceCtorEq,Ja,Jb,bT,k1,k2,Option.isSome_none,Jr,rsC,rsV,Js];exact .of e2
 | some a=>
  rw [hn] at p1;obtain ⟨-,o1,rfl,hm1,-⟩:=p1;cases hm:JB t with
  | none=>
   obtain ⟨o2,rfl,ho2⟩:=p2.sh;rw [hm] at k2;simp -implicitDefEqProofs only [bU,Jc,reduceCtorEq,Ja,Jb,bT,k1,k2,Option.isSome_none,Jr,rsC,rsV,Js];exact .of e2
  | some b=>
   rw [hm] at p2;obtain ⟨he,o2,rfl,hm2,-⟩:=p2;have hS1:=hm1.sl.ext he;have hS2:=hm2.sl;obtain ⟨l1,l2⟩:=hS1.len;obtain ⟨l3,l4⟩:=hS2.len;rw [List.length_map] at l1 l3;have c1:=We hn;have c2:=We hm;simp -implicitDefEqProofs only [bU,Jc,reduceCtorEq,Ja,Jb,bT,k1,k2]
   refine Jl (fun n e M=> ∃ (k:Nat) (L:List Lv) (g:Nat),k≤a.length∧k≤b.length∧n=a.length-k∧(JbH a).take k=(JbH b).take k∧look e 5=o1∧look e 7=o2∧look e 9= .i .i64 ((k+1:Nat):Int)∧M=⟨L,g,H2⟩) ?_ (n:=a.length)
    ⟨0,_,_,by omega,by omega,by omega,rfl,rfl,rfl,rfl,rfl⟩
   clear k1 k2;rintro n e M ⟨k,L,g,ha,hb,rfl,hk,q5,q7,q9,rfl⟩;by_cases h1:((k+1:Nat):Int)≤a.length
   ·by_cases h2:((k+1:Nat):Int)≤b.length
    ·have b1:a.length- (k+1) < a.length-k:=by omega
     have b2:k+1≤a.length:=by omega
     have b3:k+1≤b.length:=by omega
     have w1:IntKind.i64.wrap ((a.length:Int)- ((k+1:Nat):Int))=((a.length-1-k:Nat):Int):=by rw [w64 (by omega) (by omega)];omega
     have w2:IntKind.i64.wrap ((b.length:Int)- ((k+1:Nat):Int))=((b.length-1-k:Nat):Int):=by rw [w64 (by omega) (by omega)];omega
     have w3:IntKind.i64.wrap (((k+1:Nat):Int)+1)=((k+1+1:Nat):Int):=by rw [w64 (by omega) (by omega)];rfl
     have g1:(a.map AV.s).getD (a.length-1-k) .u= .s (a[a.length-1-k]'(by omega)):=by simp [List.getD,show a.length-1-k < a.length by omega]
     have g2:(b.map AV.s).getD (b.length-1-k) .u= .s (b[b.length-1-k]'(by omega)):=by simp [List.getD,show b.length-1-k < b.length by omega]
     have i1:=fun (L:List Lv) (g:Nat)=>hS1.ia1 (j:=(a.length-1-k:Nat)) (v:= .s (a[a.length-1-k]'(by omega))) (by omega) (by rw [List.length_map];omega) (by rw [Jj,g1];rfl) L g
     have i2:=fun (L:List Lv) (g:Nat)=>hS2.ia1 (j:=(b.length-1-k:Nat)) (v:= .s (b[b.length-1-k]'(by omega))) (by omega) (by rw [List.length_map];omega) (by rw [Jj,g2];rfl) L g
     rw [Jj] at i1 i2;obtain ⟨z1,z2,-⟩:=i1 [] 0;obtain ⟨z3,z4,-⟩:=i2 [] 0;have hl1:=c1.2.2.2.1 _ (List.getElem_mem (show a.length-1-k < a.length by omega))
     have hl2:=c2.2.2.2.1 _ (List.getElem_mem (show b.length-1-k < b.length by omega))
     have f1:=hF (a[a.length-1-k]'(by omega)) H2 (by omega)
     have f2:=hF (b[b.length-1-k]'(by omega)) H2 (by omega)
     have f3:=hO (Zz (a[a.length-1-k]'(by omega))) (Zz (b[b.length-1-k]'(by omega))) H2
     have hat:=JlW (k:=k) (a:=a) (b:=b) (by omega) (by omega) hk
     have hst:=JhM (k:=k) (a:=a) (b:=b) (by omega) (by omega) hk
     generalize hc:Lib.compareBytes (Zz (a[a.length-1-k]'(by omega))) (Zz (b[b.length-1-k]'(by omega)))=c at f3 hat hst
     by_cases hc0:c=0
     ·subst hc0
      simp -implicitDefEqProofs only [bU,Jc,Ja,bT,bV,Ja,Qs,J6,q5,q7,q9,l1,l2,l3,l4,h1,h2,w1,w2,w3,z1,z2,z3,z4,i1,i2,Jj,f1,f2,f3];exact ⟨a.length- (k+1),b1,k+1,_,_,b2,b3,rfl,hst rfl,rfl,rfl⟩
     ·simp -implicitDefEqProofs only [bU,Jc,Ja,bT,bV,Ja,Qs,J6,q5,q7,q9,l1,l2,l3,l4,h1,h2,w1,w2,z1,z2,z3,z4,i1,i2,Jj,f1,f2,f3,hc0,Jr,rsC,rsV,Js]
      exact ⟨by rw [hat hc0],.of e2⟩
    ·have hend:=JdM ha hb hk (by omega)
     have h3: ¬ ((a.length:Int) < b.length):=by omega
     have h4:(b.length:Int) < a.length:=by omega
     rw [if_neg (by omega),if_pos (by omega)] at hend
     simp -implicitDefEqProofs only [bU,Jc,reduceCtorEq,bT,q5,q7,q9,l1,l2,l3,l4,h1,h2,h3,h4,Jr,rsC,rsV,Js];exact ⟨by rw [hend],.of e2⟩
   ·have hend:=JdM ha hb hk (by omega)
    by_cases h3:(a.length:Int) < b.length
    ·rw [if_pos (by omega)] at hend
     simp -implicitDefEqProofs only [bU,Jc,reduceCtorEq,bT,q5,q7,q9,l1,l2,l3,l4,h1,h3,Jr,rsC,rsV,Js];exact ⟨by rw [hend],.of e2⟩
    ·have h4: ¬ ((b.length:Int) < a.length):=by omega
     rw [if_neg (by omega),if_neg (by omega)] at hend
     simp -implicitDefEqProofs only [bU,Jc,reduceCtorEq,bT,q5,q7,q9,l1,l2,l3,l4,h1,h3,h4,Jr,rsC,rsV,Js];exact ⟨by rw [hend],.of e2⟩
end
end Go.Vm
