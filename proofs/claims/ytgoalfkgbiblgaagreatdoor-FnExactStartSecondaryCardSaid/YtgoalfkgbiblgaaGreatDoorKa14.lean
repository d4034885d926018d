import Derived.Test.YtgoalfkgbiblgaaGreatDoorKa4
import Derived.Test.YtgoalfkgbiblgaaGreatDoorKa13
import Derived.Test.YtgoalfkgbiblgaaGreatDoorKa11
import Derived.Test.YtgoalfkgbiblgaaGreatDoorKa5
import Derived.Lib.SmallJoins
import Derived.Test.YtgoalfkgbiblgaaGreatDoorRows
import Derived.ProofKit
/- Copies of zones: the whole. -/
set_option linter.unusedVariables false
set_option linter.unusedSimpArgs false
set_option maxRecDepth 100000
open Nat renaming reduceAdd→Ja,reduceLT→Jb,reduceEqDiff→Jc,reduceSub→Je,reduceLeDiff→Jg
open Int renaming reduceToNat→Jd,reduceLE→Jf,reduceLT→Ji
namespace Go.Vm
section
variable {C:Tab}
set_option maxHeartbeats 2000000 in
theorem JlI {z:Zn} {zs:AV} {ds:List AV} {H:AH} (hC:Jat C Wd) (h:ZS H zs z.s ds) (hz:SzZ z):Jt C QR [.ag [.s z.a,zs]] H fun v H'=> ∃ zs' ds',v= .ag [.s z.a,zs']∧Ext H H'∧ZM H' H.n zs' z.s ds':=by
 unfold Jt QR
 obtain ⟨l1,l2⟩:=h.row.len
 rw [QK h.len] at l1
 have hzs:=hz.s
 simp -implicitDefEqProofs only [bU,reduceIte,Jc,reduceCtorEq,Ja,Jb,bT,Jd,Je,Jf,bV,Ja,Jb,Jg,JG,JH,List.set]
 refine Jl (fun m e M=> ∃ (i:Nat) (o:AV) (ds':List AV) (H':AH) (L0:List Lv) (g:Nat),i≤z.s.length∧m=z.s.length-i∧look e 1= .la 1 0 0 0∧look e 2= .la 2 1 0 0∧look e 3= .la 3 2 0 0∧look e 4= .i .i64 i∧M=⟨L0,g,H'⟩∧JJ [1,2,3,4] L0=[⟨3,2,0,[.ag [.s z.a,o]]⟩,⟨2,1,0,[.ag [.s [],.ns]]⟩,⟨1,0,0,[.ag [.s z.a,zs]]⟩]∧Ext H H'∧ZM H' H.n o (z.s.take i) ds') ?_ (n:=z.s.length)
  ⟨0,.ns,[],_,_,_,by omega,by omega,rfl,rfl,rfl,rfl,rfl,rfl,.refl _,.nil _ _⟩
 rintro m e M ⟨i,o,ds',H',L0,g,hi,rfl,q1,q2,q3,q4,rfl,hL0,he,hm⟩
 have oO:=hm.rd.row.out
 have oc:=hm.rd.row.one
 by_cases h1:(i:Int) < z.s.length
 ·have hil:i < z.s.length:=by omega
  have hid:i < ds.length:=by rw [h.len];exact hil
  obtain ⟨a1,a2,a3,-,-,-,-,-,a9,a10⟩:=(h.ext he).at' hil hid
  obtain ⟨v,H1,k1,d',rfl,e1,m1,i1⟩:=hC z.s[i] ds[i] H' ((h.ext he).dat i hil hid) (by have:=Jah (List.getElem_mem hil);have:=hz.c;omega)
  obtain ⟨c1,c2,c3,-,-,-,-,-,c9,c10⟩:=(h.ext (he.trans e1)).at' hil hid
  obtain ⟨p1,o',H2,p2,p3,p4,p5,p6,p7⟩:=hm.pushD e1 he.n m1 i1 (Qk (t:=23) (g:=g) (z:=4) (x:=sV z.s[i] d') (L:=[⟨3,2,0,[.ag [.s z.a,o]]⟩,⟨2,1,0,[.ag [.s [],.ns]]⟩,⟨1,0,0,[.ag [.s z.a,zs]]⟩]) (H:=H1)) (by simp;omega)
  have w4:IntKind.i64.wrap ((i:Int)+1)=((i+1:Nat):Int):=by rw [w64 (by omega) (by omega)];rfl
  have bd:z.s.length- (i+1) < z.s.length-i:=by omega
  have oO':=p4.rd.row.out
  have oc':=p4.rd.row.one
  have so:(sV z.s[i] ds[i]).outs=true:=rfl
  have hs1:sV z.s[i] d'= .ag [.s z.s[i].o,.i .i64 z.s[i].t,.i .i64 z.s[i].ttl,d']:=rfl
  rw [hs1] at k1 p1 p2 p3
  have ee:=(he.trans e1).put (l:=idA o) (fun j hj=>hm.ge j (List.mem_append_left _ hj)) p5 p6
  simp -implicitDefEqProofs only [bU,reduceIte,Jc,reduceCtorEq,Ja,Jb,bT,Jd,Je,Jf,bV,Ja,Jb,Jg,Qs,J6,q1,q2,q3,q4,hL0,l1,l2,h1,a1,a2,a3,a9,a10,c1,c2,c3,c9,c10,so,k1,oO,oc,Jj,JG,JH,JE,JQ,List.replicate,List.set]
  simp -implicitDefEqProofs only [bU,reduceIte,Jc,reduceCtorEq,Ja,Jb,bT,Jd,Je,Jf,bV,Ja,Jb,Jg,Qs,J6,p1,p2,p3,oO',oc',w4,List.set]
  exact ⟨_,bd,i+1,o',_,H2,_,_,hil,rfl,rfl,rfl,rfl,ee,by rw [List.take_succ_eq_append_getElem hil];exact p4⟩
 ·have hil:i=z.s.length:=by omega
  subst hil
  rw [List.take_length] at hm
  simp -implicitDefEqProofs only [bU,reduceIte,Jc,reduceCtorEq,Ja,Jb,bT,Jd,Je,Jf,bV,Ja,Jb,Jg,q1,q2,q3,q4,hL0,l1,l2,h1,oO,oc,List.set,Jr,rsC,rsV,Js]
  exact ⟨o,ds',rfl,he,hm⟩
set_option maxHeartbeats 2000000 in
theorem Jk1 {z:Zn} {zs:AV} {ds:List AV} {H:AH} (hC:Jat C Zo) (h:ZS H zs z.s ds) (hz:SzZ z):Jt C Xc [.ag [.s z.a,zs]] H fun v H'=> ∃ zs' ds',v= .ag [.s z.a,zs']∧Ext H H'∧ZM H' H.n zs' z.s ds':=by
 unfold Jt Xc
 obtain ⟨l1,l2⟩:=h.row.len
 rw [QK h.len] at l1
 have hzs:=hz.s
 simp -implicitDefEqProofs only [bU,reduceIte,Jc,reduceCtorEq,Ja,Jb,bT,Jd,Je,Jf,bV,Ja,Jb,Jg,l1,l2,JG,JH,List.set]
 refine Jl (fun m e M=> ∃ (i:Nat) (o:AV) (ds':List AV) (H':AH) (L0:List Lv) (g:Nat),i≤z.s.length∧m=z.s.length-i∧look e 2= .la 2 1 0 0∧look e 3= .la 3 2 0 0∧look e 10=zs∧look e 11= .i .i64 z.s.length∧look e 12= .i .i64 i∧M=⟨L0,g,H'⟩∧JJ [2,3,10,11,12] L0=[⟨3,2,0,[.ag [.s z.a,o]]⟩,⟨2,1,0,[.ag [.s [],.ns]]⟩]∧Ext H H'∧ZM H' H.n o (z.s.take i) ds') ?_ (n:=z.s.length)
  ⟨0,.ns,[],_,_,_,by omega,by omega,rfl,rfl,rfl,rfl,rfl,rfl,rfl,.refl _,.nil _ _⟩
 rintro m e M ⟨i,o,ds',H',L0,g,hi,rfl,q2,q3,q10,q11,q12,rfl,hL0,he,hm⟩
 have oO:=hm.rd.row.out
 have oc:=hm.rd.row.one
 by_cases h1:(i:Int) < z.s.length
 ·have hil:i < z.s.length:=by omega
  have hid:i < ds.length:=by rw [h.len];exact hil
  obtain ⟨a1,a2,a3,-,-,-,-,-,a9,a10⟩:=(h.ext he).at' hil hid
  obtain ⟨v,H1,k1,d',rfl,e1,m1,i1⟩:=hC z.s[i] ds[i] H' ((h.ext he).dat i hil hid) (by have:=Jah (List.getElem_mem hil);have:=hz.c;omega)
  have dO:=((h.ext he).dat i hil hid).out
  have hs0:sV z.s[i] ds[i]= .ag [.s z.s[i].o,.i .i64 z.s[i].t,.i .i64 z.s[i].ttl,ds[i]]:=rfl
  rw [hs0] at k1 a10
  obtain ⟨p1,o',H2,p2,p3,p4,p5,p6,p7⟩:=hm.pushD e1 he.n m1 i1 (Qk (t:=20) (g:=g+1) (z:=4) (x:=sV z.s[i] d') (L:=[⟨5,g,0,[.ag [.s z.s[i].o,.i .i64 z.s[i].t,.i .i64 z.s[i].ttl,ds[i]]]⟩,⟨3,2,0,[.ag [.s z.a,o]]⟩,⟨2,1,0,[.ag [.s [],.ns]]⟩]) (H:=H1)) (by simp;omega)
  have w4:IntKind.i64.wrap ((i:Int)+1)=((i+1:Nat):Int):=by rw [w64 (by omega) (by omega)];rfl
  have bd:z.s.length- (i+1) < z.s.length-i:=by omega
  have oO':=p4.rd.row.out
  have oc':=p4.rd.row.one
  have hs1:sV z.s[i] d'= .ag [.s z.s[i].o,.i .i64 z.s[i].t,.i .i64 z.s[i].ttl,d']:=rfl
  rw [hs1] at k1 p1 p2 p3
  have ee:=(he.trans e1).put (l:=idA o) (fun j hj=>hm.ge j (List.mem_append_left _ hj)) p5 p6
  simp -implicitDefEqProofs only [bU,reduceIte,Jc,reduceCtorEq,Ja,Jb,bT,Jd,Je,Jf,bV,Ja,Jb,Jg,Qs,J6,q2,q3,q10,q11,q12,hL0,h1,a1,a2,a3,a9,a10,dO,k1,oO,oc,Jj,JG,JH,JE,JQ,List.replicate,List.set]
  simp -implicitDefEqProofs only [bU,reduceIte,Jc,reduceCtorEq,Ja,Jb,bT,Jd,Je,Jf,bV,Ja,Jb,Jg,Qs,J6,p1,p2,p3,oO',oc',w4,List.set]
  exact ⟨_,bd,i+1,o',_,H2,_,_,hil,rfl,rfl,rfl,rfl,ee,by rw [List.take_succ_eq_append_getElem hil];exact p4⟩
 ·have hil:i=z.s.length:=by omega
  subst hil
  rw [List.take_length] at hm
  simp -implicitDefEqProofs only [bU,reduceIte,Jc,reduceCtorEq,Ja,Jb,bT,Jd,Je,Jf,bV,Ja,Jb,Jg,q2,q3,q10,q11,q12,hL0,h1,oO,oc,List.set,Jr,rsC,rsV,Js]
  exact ⟨o,ds',rfl,he,hm⟩
end
theorem Jkp: ∀ (k:Nat) (d:List UInt8),(prs (List.replicate k 98) d).isSome=decide (d.length=k)
 | 0,d=>by
  rw [List.replicate_zero,prs]
  cases d<;>simp
 | k+1,[]=>by
  rw [List.replicate_succ,prs]
  simp [part]
 | k+1,c::d=>by
  rw [List.replicate_succ,prs]
  have e:part 98 (c::d)=some [c]:=by simp [part]
  rw [e]
  simp only [Option.isSome_map,List.length_singleton,List.drop_succ_cons,List.drop_zero,List.length_cons,List.length_nil]
  rw [Jkp k d]
  exact decide_eq_decide.2 (by omega)
theorem Jko {d:List UInt8} (h:chk 6 d=0):20≤d.length:=by
 obtain ⟨ps,hp,-,-⟩:=Jd4 h
 rw [show JU 6=110::110::List.replicate 20 98 from rfl,prs] at hp
 cases h1:part 110 d with
 | none=>rw [h1] at hp;cases hp
 | some p=>
  rw [h1] at hp
  simp only at hp
  obtain ⟨r,hr,-⟩:=Option.map_eq_some_iff.1 hp
  rw [prs] at hr
  cases h2:part 110 (d.drop p.length) with
  | none=>rw [h2] at hr;cases hr
  | some q=>
   rw [h2] at hr
   simp only at hr
   obtain ⟨u,hu,-⟩:=Option.map_eq_some_iff.1 hr
   have h3:=Jkp 20 ((d.drop p.length).drop q.length)
   rw [hu] at h3
   simp only [Option.isSome_some] at h3
   have h4:=of_decide_eq_true h3.symm
   simp only [List.length_drop] at h4
   omega
theorem JqC {l:List Rr} {a:List UInt8} (h:(bz l a).2.1=0):(bz l a).1=⟨a,Ja3 (l.map zi)⟩∧(∃ ls,JB a=some ls)∧(∀ i,i < l.length→Jai (l.getD i rrZ) a=0)∧(∀ i,i < l.length→JaZ (l.map zi) i=false)∧(QL (l.map zi) (Jq a)).1=0:=by
 unfold bz at h ⊢
 by_cases h1:JB a=none
 ·rw [if_pos h1] at h;cases h
 rw [if_neg h1] at h ⊢
 by_cases h2:500 < l.length
 ·rw [if_pos h2] at h;cases h
 rw [if_neg h2] at h ⊢
 cases h3:JL l.length fun i=>decide (Jai (l.getD i rrZ) a≠0) with
 | some i=>
  rw [h3] at h
  have:=(JhR h3).2.1
  exact absurd h (by simpa using this)
 | none=>
  rw [h3] at h
  simp only at h ⊢
  have hone:=Jbp h3
  cases h4:JL l.length (JaZ (l.map zi)) with
  | some i=>rw [h4] at h;cases h
  | none=>
   rw [h4] at h
   simp only at h ⊢
   have hmix:=Jbp h4
   by_cases h5:(QL (l.map zi) (Jq a)).1≠0
   ·rw [if_pos h5] at h;exact absurd h h5
   ·rw [if_neg h5]
    exact ⟨rfl,Option.ne_none_iff_exists'.1 h1,fun i hi=>by simpa using hone i hi,hmix,by simpa using h5⟩
theorem Jk5 {L:List Zi} {top:List UInt8} (h:(QL L top).1=0):(∀ i,i∈Jn L→Jb6 L top i=false)∧hasB L L.length top 6=true:=by
 rw [Jeu] at h
 cases h1:(Jn L).find? (Jb6 L top) with
 | some i=>rw [h1] at h;cases h
 | none=>
  rw [h1] at h
  refine ⟨fun i hi=>by simpa using List.find?_eq_none.1 h1 i hi,?_⟩
  cases h2:hasB L L.length top 6 with
  | true=>rfl
  | false=>rw [h2] at h;cases h
theorem Jqp {L:List Zi} {top:List UInt8} (h:(QL L top).1=0): ∃ x,x∈J2 L∧x.k=(top,6)∧((J2 L).filter fun y=>decide (y.k=(top,6)))=[x]∧ ∀ y,y∈J2 L→y.r.t=6→y.k=(top,6):=by
 obtain ⟨h1,h2⟩:=Jk5 h
 rw [JdD] at h2
 have key: ∀ i,i∈Jn L→(itZ L i).r.t=6→(itZ L i).f=top∧hasB L i top 6=false:=fun i hi ht=>by
  have hs:=h1 i hi
  have ho:=(Zy.1 hi).2
  unfold Jb6 at hs
  rw [ho,decide_eq_true ht] at hs
  simp only [Bool.not_false,Bool.true_and,Bool.or_eq_false_iff,decide_eq_false_iff_not,ne_eq,Decidable.not_not] at hs
  exact hs
 obtain ⟨i0,hi0,hb0⟩:=List.any_eq_true.1 h2
 simp only [decide_eq_true_eq] at hb0
 have hk6: ∀ y,y∈J2 L→y.r.t=6→y.k=(top,6):=fun y hy ht=>by
  obtain ⟨i,hi,rfl⟩:=List.mem_map.1 hy
  simp only [Zi.k,(key i hi ht).1,ht]
 refine ⟨itZ L i0,List.mem_map.2 ⟨i0,hi0,rfl⟩,by simp only [Zi.k,hb0],?_,hk6⟩
 have hp:(Jn L).filter (fun i=>decide ((itZ L i).k=(top,6)))=[i0]:=by
  have hinc:((Jn L).filter fun i=>decide ((itZ L i).k=(top,6))).Pairwise fun i j=>i < j:=(Jhe (L:=L)).filter _
  have hall: ∀ i,i∈(Jn L).filter (fun i=>decide ((itZ L i).k=(top,6)))→i=i0:=fun i hi=>by
   obtain ⟨g1,g2⟩:=List.mem_filter.1 hi
   simp only [decide_eq_true_eq,Zi.k,Prod.mk.injEq] at g2
   have no: ∀ p q,p∈Jn L→q∈Jn L→(itZ L p).f=top→(itZ L p).r.t=6→(itZ L q).r.t=6→ ¬ p < q:=fun p q hp hq e1 e2 e3 hlt=>by
    have:=(key q hq e3).2
    unfold hasB at this
    rw [List.any_eq_false] at this
    have hh:=this p (List.mem_range.2 hlt)
    rw [(Zy.1 hp).2] at hh
    simp [e1,e2] at hh
   have n1:=no i i0 g1 hi0 g2.1 g2.2 hb0.2
   have n2:=no i0 i hi0 g1 hb0.1 hb0.2 g2.2
   omega
  have hm:i0∈(Jn L).filter (fun i=>decide ((itZ L i).k=(top,6))):=List.mem_filter.2 ⟨hi0,by simp only [decide_eq_true_eq,Zi.k,hb0]⟩
  generalize (Jn L).filter (fun i=>decide ((itZ L i).k=(top,6)))=F at hinc hall hm
  match F,hinc,hall,hm with
  | [],_,_,hm=>cases hm
  | [p],_,hall,_=>rw [hall p (by simp)]
  | p::q::r,hinc,hall,_=>
   have e1:=hall p (by simp)
   have e2:=hall q (by simp)
   have:=(List.pairwise_cons.1 hinc).1 q (by simp)
   omega
 unfold J2
 rw [List.filter_map]
 have:((fun y:Zi=>decide (y.k=(top,6))) ∘itZ L)=fun i=>decide ((itZ L i).k=(top,6)):=rfl
 rw [this,hp]
 rfl
theorem Jqd {z:Zn} (h:ckz z=0): ∃ i,∃ (hi:i < z.s.length),∃ o ttl d,z.s[i]=⟨o,6,ttl,[d]⟩∧Jdg o z.a=true∧chk 6 d=0∧ ∀ j (hj:j < z.s.length),j≠i→z.s[j].t≠6:=by
 unfold ckz at h
 by_cases h0:500 < z.s.length∨500 < JkI z
 ·rw [if_pos h0] at h;cases h
 rw [if_neg h0] at h
 by_cases h1:(bz (WQ z) z.a).2.1=0∧(bz (WQ z) z.a).1=z
 ·obtain ⟨h2,h3⟩:=h1
  obtain ⟨e1,⟨ls,hls⟩,hone,hmix,hrul⟩:=JqC h2
  rw [e1] at h3
  have hzs:z.s=Ja3 ((WQ z).map zi):=by
   have:=congrArg Zn.s h3
   exact this.symm
  have hok:ZOk ((WQ z).map zi):=JqO hone hmix
  have hkept:=hok.kept
  obtain ⟨x,hx,hxk,hfl,h6⟩:=Jqp hrul
  have hall: ∀ y,y∈J2 ((WQ z).map zi)→ ∃ r,y=zi r∧(∃ b,JB r.o=some b)∧chk r.t r.d=0:=fun y hy=>by
   obtain ⟨i,hi,rfl⟩:=List.mem_map.1 hy
   obtain ⟨g1,-⟩:=Zy.1 hi
   rw [List.length_map] at g1
   have g2:=hone i g1
   rw [show (WQ z).getD i rrZ=(WQ z)[i] by simp [List.getD,g1]] at g2
   obtain ⟨hn,-,-,-,-,hc,-⟩:=Ze g2
   exact ⟨(WQ z)[i],by rw [Z5 (by rw [List.length_map];exact g1)];simp,hn,hc⟩
  generalize (WQ z).map zi=L at*
  have hkm:(Jq z.a,(6:Int))∈isort kLt (keysOf (J2 L)):=(Qj _).mem_iff.2 ((Qe _).2 ⟨x,hx,hxk⟩)
  obtain ⟨i,hi,hik⟩:=List.mem_iff_getElem.1 hkm
  have hnd:(isort kLt (keysOf (J2 L))).Nodup:=(Qj _).nodup_iff.2 (Yl _)
  have hzl:z.s.length=(isort kLt (keysOf (J2 L))).length:=by rw [hzs];simp [Ja3]
  have hget: ∀ j (hj:j < z.s.length),z.s[j]=mkS (W9 L) (J2 L) ((isort kLt (keysOf (J2 L)))[j]'(by rw [←hzl];exact hj)):=fun j hj=>by
   simp only [hzs]
   simp [Ja3]
  have hxf:x.f=Jq z.a:=congrArg Prod.fst hxk
  have hxt:x.r.t=6:=congrArg Prod.snd hxk
  refine ⟨i,by rw [hzl];exact hi,W9 L (Jq z.a),(((J2 L).find? fun y=>decide (y.k=(Jq z.a,(6:Int)))).map fun y=>y.r.ttl).getD 0,x.r.d,?_,?_,?_,fun j hj hji ht=> ?_⟩
  ·rw [hget i (by rw [hzl];exact hi),hik]
   simp only [mkS,hfl]
   rfl
  ·rw [←JhD,←hxf]
   obtain ⟨y,hy,hyf,ho⟩:=JkY hx
   rw [ho]
   obtain ⟨r,rfl,⟨b,hb⟩,-⟩:=hall y hy
   have e:Jq r.o=Jq z.a:=by rw [←hxf,←hyf];rfl
   show Jdg r.o z.a=true
   unfold Jdg
   exact decide_eq_true ⟨by rw [e];exact Jcx hls,e⟩
  ·obtain ⟨r,rfl,-,hc⟩:=hall x hx
   have:r.t=6:=hxt
   rw [this] at hc
   exact hc
  ·rw [hget j hj] at ht
   have hj2:j < (isort kLt (keysOf (J2 L))).length:=by rw [←hzl];exact hj
   have hjm:=List.getElem_mem hj2
   obtain ⟨y,hy,hyk⟩:=(Qe _).1 ((Qj _).mem_iff.1 hjm)
   have hyt:y.r.t=6:=by
    have:y.k.2=6:=by rw [hyk];exact ht
    exact this
   have e:=h6 y hy hyt
   rw [hyk] at e
   have:(isort kLt (keysOf (J2 L)))[j]=(isort kLt (keysOf (J2 L)))[i]:=by rw [e,hik]
   rcases Nat.lt_or_gt_of_ne hji with h | h
   ·exact List.pairwise_iff_getElem.1 hnd j i hj2 hi h this
   ·exact List.pairwise_iff_getElem.1 hnd i j hi hj2 h this.symm
 ·rw [if_neg h1] at h;cases h
def JcR (z:Zn) (o:List UInt8) (ttl:Int) (d:List UInt8):Prop:= ∃ i,∃ (hi:i < z.s.length),z.s[i]=⟨o,6,ttl,[d]⟩∧Jdg o z.a=true∧chk 6 d=0∧ ∀ j (hj:j < z.s.length),j≠i→z.s[j].t≠6
theorem Jhf {z:Zn} (h:ckz z=0): ∃ o ttl d,JcR z o ttl d:=by
 obtain ⟨i,hi,o,ttl,d,h1⟩:=Jqd h
 exact ⟨o,ttl,d,i,hi,h1⟩
def Jkf (o:List UInt8) (ttl:Int) (d:List UInt8):Rr:=⟨o,6,1,ttl,d⟩
def JhO (d:List UInt8):Nat:=num ((d.drop (d.length-8)).take 4) 0
def mx1 (n:Nat):Int:=if (n:Int) < 1 then 1 else n
section
variable {C:Tab}
def JkE (C:Tab) (f:Nat):Prop:= ∀ (z:Zn) (zs:AV) (ds:List AV) (H:AH) (o:List UInt8) (ttl:Int) (d:List UInt8),ZS H zs z.s ds→SzZ z→JcR z o ttl d→ ∃ v H',C f [.ag [.s z.a,zs],.s z.a,.i .i64 6] H=some (v,H')∧ ∃ d',v= .tp [sV ⟨o,6,ttl,[d]⟩ d',.b true]∧Ext H H'∧Mn H' 1 d' [.s d]
def JkS (C:Tab) (f:Nat):Prop:= ∀ (z:Zn) (zs:AV) (ds:List AV) (H:AH) (o:List UInt8) (ttl:Int) (d:List UInt8),ZS H zs z.s ds→SzZ z→JcR z o ttl d→ ∃ v H',C f [.ag [.s z.a,zs]] H=some (v,H')∧v=eR.v (Jkf o ttl d)∧Ext H H'
def Jma (C:Tab) (f:Nat):Prop:= ∀ (z:Zn) (zs:AV) (ds:List AV) (H:AH) (o:List UInt8) (ttl:Int) (d:List UInt8),ZS H zs z.s ds→SzZ z→JcR z o ttl d→C f [.ag [.s z.a,zs],.i .i64 2] H=some (.i .i64 (mx1 (JhO d)),H)
set_option maxHeartbeats 2000000 in
theorem JrR {z:Zn} {zs:AV} {ds:List AV} {H:AH} {o:List UInt8} {ttl:Int} {d:List UInt8} (hN:Jeh C Xk) (hC:Jat C Wd) (h:ZS H zs z.s ds) (hz:SzZ z) (hs:JcR z o ttl d):
  Jt C X0 [.ag [.s z.a,zs],.s z.a,.i .i64 6] H fun v H'=> ∃ d',v= .tp [sV ⟨o,6,ttl,[d]⟩ d',.b true]∧Ext H H'∧Mn H' 1 d' [.s d]:=by
 unfold Jt X0
 obtain ⟨l1,l2⟩:=h.row.len
 rw [QK h.len] at l1
 have zo:=h.row.out
 have zc:=h.row.one
 have hzs:=hz.s
 obtain ⟨k,hk,hke,hsn,hch,hoth⟩:=hs
 simp -implicitDefEqProofs only [bU,reduceIte,Jc,reduceCtorEq,Ja,Jb,bT,Jd,Je,Jf,bV,Ja,Jb,Jg]
 refine Jl (fun m e M=> ∃ (i:Nat) (L0:List Lv) (g:Nat),i≤k∧m=k-i∧look e 1= .s z.a∧look e 2= .i .i64 6∧look e 3= .la 3 0 0 0∧look e 6= .la 6 1 0 0∧look e 8= .i .i64 i∧M=⟨L0,g,H⟩∧JJ [1,2,3,6,8] L0=[⟨6,1,0,[.ag [.s [],.i .i64 0,.i .i64 0,.ns]]⟩,⟨3,0,0,[.ag [.s z.a,zs]]⟩]) ?_ (n:=k)
  ⟨0,_,_,by omega,by omega,rfl,rfl,rfl,rfl,rfl,rfl,rfl⟩
 rintro m e M ⟨i,L0,g,hi,rfl,q1,q2,q3,q6,q8,rfl,hL0⟩
 have hil:i < z.s.length:=by omega
 have hid:i < ds.length:=by rw [h.len];exact hil
 have h1:(i:Int) < z.s.length:=by omega
 obtain ⟨a1,a2,a3,a4,a5,a6,a7,a8,a9,a10⟩:=h.at' hil hid
 have w4:IntKind.i64.wrap ((i:Int)+1)=((i+1:Nat):Int):=by rw [w64 (by omega) (by omega)];rfl
 by_cases hik:i=k
 ·subst hik
  have hdat:=h.dat i hil hid
  have hol:=hz.o _ (List.getElem_mem hk)
  rw [hke] at a5 a6 a10 hdat hol
  have k1:=hN o z.a H (by have:o.length≤1048576:=hol;omega) (by have:=hz.a;omega)
  rw [hsn] at k1
  obtain ⟨v,H1,k2,d',rfl,e1,m1,-⟩:=hC ⟨o,6,ttl,[d]⟩ ds[i] H hdat (by simp)
  have dO:=(Mn.sl m1).out
  have dO0:=hdat.out
  have dc:=(Mn.sl m1).one
  simp only [sV] at k2 a10 a5 a6
  simp -implicitDefEqProofs only [bU,reduceIte,Jc,reduceCtorEq,Ja,Jb,bT,Jd,Je,Jf,bV,Ja,Jb,Jg,Qs,J6,q1,q2,q3,q6,q8,hL0,l1,l2,h1,Jj,a1,a2,a3,a4,a5,a6,a9,a10,k1,k2,dO,dO0,dc,JG,JH,List.set,Jr,rsC,rsV,Js]
  exact ⟨d',rfl,e1,m1⟩
 ·have ht:z.s[i].t≠6:=hoth i hil hik
  have bd:k- (i+1) < k-i:=by omega
  simp -implicitDefEqProofs only [bU,reduceIte,Jc,reduceCtorEq,Ja,Jb,bT,Jd,Je,Jf,bV,Ja,Jb,Jg,Qs,J6,q1,q2,q3,q6,q8,hL0,l1,l2,h1,Jj,a1,a2,a3,a4,a5,a6,a9,ht,w4,JG,JH]
  exact ⟨_,bd,i+1,_,_,by omega,rfl,rfl,rfl,rfl⟩
theorem JsJ {z:Zn} {zs:AV} {ds:List AV} {H:AH} {o:List UInt8} {ttl:Int} {d:List UInt8} (hF:JkE C Zk) (hR:Je1 C Qz) (h:ZS H zs z.s ds) (hz:SzZ z) (hs:JcR z o ttl d):
  Jt C YT [.ag [.s z.a,zs]] H fun v H'=>v=eR.v (Jkf o ttl d)∧Ext H H':=by
 unfold Jt YT
 have zo:=h.row.out
 have zc:=h.row.one
 obtain ⟨v1,H1,k1,d',rfl,e1,m1⟩:=hF z zs ds H o ttl d h hz hs
 obtain ⟨v2,H2,k2,e2,m2,-⟩:=hR ⟨o,6,ttl,[d]⟩ d' H1 m1.sl (by simp)
 have hx:Sx H2 eR v2 [Jkf o ttl d]:=m2.sl
 obtain ⟨b1,b2,b3,b4⟩:=Sx.at' hx (j:=0) (by simp)
 rw [show eR.z=5 from rfl] at b1 b3 b4
 have b4': ∀ (L:List Lv) (g:Nat),ldX ⟨L,g,H2⟩ (some 5) (iaV 0 v2)= .ag [.s o,.i .i64 6,.i .i64 1,.i .i64 ttl,.s d]:=b4
 have dO:=(Mn.sl m1).out
 have dc:=(Mn.sl m1).one
 have vO:=(Mn.sl m2).out
 have b2':iaC (0:Int) v2:=b2
 have hz0:Int.toNat (0:Int)=0:=rfl
 simp only [sV] at k1 k2
 simp -implicitDefEqProofs only [bU,reduceIte,Jc,reduceCtorEq,Ja,Jb,bT,Jd,Je,Jf,bV,Ja,Jb,Jg,zo,zc,k1,k2,dO,dc,vO,b1,b2',b3,b4',hz0,List.set,Jr,rsC,rsV,Js]
 exact ⟨rfl,e1.trans e2⟩
theorem Jq8 {z:Zn} {zs:AV} {ds:List AV} {H:AH} {o:List UInt8} {ttl:Int} {d:List UInt8} (hS:JkS C ZN) (hN:Jgq C ZT) (h:ZS H zs z.s ds) (hz:SzZ z) (hs:JcR z o ttl d):
  Jt C WA [.ag [.s z.a,zs],.i .i64 2] H fun v H'=>v= .i .i64 (mx1 (JhO d))∧QA H H':=by
 unfold Jt WA
 have zo:=h.row.out
 have zc:=h.row.one
 obtain ⟨v1,H1,k1,rfl,e1⟩:=hS z zs ds H o ttl d h hz hs
 have hl:20≤d.length:=by obtain ⟨i,hi,-,-,hch,-⟩:=hs;exact Jko hch
 have hlB:d.length≤1048576:=by
  obtain ⟨i,hi,he,-⟩:=hs
  have:=hz.d _ (List.getElem_mem hi) d (by rw [he];simp)
  exact this
 have w1:IntKind.i64.wrap ((d.length:Int)-16)=(d.length:Int)-16:=w64 (by omega) (by omega)
 have w2:IntKind.i64.wrap ((4:Int)*2)=8:=by decide
 have w3:IntKind.i64.wrap ((d.length:Int)-16+8)=((d.length-8:Nat):Int):=by rw [w64 (by omega) (by omega)];omega
 have w4:IntKind.i64.wrap (((d.length-8:Nat):Int)+4)=((d.length-8+4:Nat):Int):=by rw [w64 (by omega) (by omega)];omega
 have h4:d.length-8+4- (d.length-8)=4:=by omega
 have hb:((0:Int)≤((d.length-8:Nat):Int)∧((d.length-8:Nat):Int)≤((d.length-8+4:Nat):Int)∧((d.length-8+4:Nat):Int)≤(d.length:Int))=True:=eq_true ⟨by omega,by omega,by omega⟩
 have kn:=hN ((d.drop (d.length-8)).take 4) H1 (by simp;omega)
 rw [Jkf,JcE] at k1
 simp -implicitDefEqProofs only [bU,reduceIte,Jc,reduceCtorEq,Ja,Jb,bT,Jd,Je,Jf,bV,Ja,Jb,Jg,zo,zc,k1,w1,w2,w3,w4,h4,hb,kn,Jj,Jr,rsC,rsV,Js]
 exact ⟨rfl,.of e1⟩
end
theorem JiN {z:Zn} {o:List UInt8} {ttl:Int} {d:List UInt8} (h:JcR z o ttl d):(∀ r,r∈WQ z→r.t=6→r=Jkf o ttl d)∧Jkf o ttl d∈WQ z:=by
 obtain ⟨k,hk,hke,-,-,hoth⟩:=h
 refine ⟨fun r hr ht=> ?_,List.mem_flatMap.2 ⟨z.s[k],List.getElem_mem hk,?_⟩⟩
 ·obtain ⟨s,hs,hr⟩:=List.mem_flatMap.1 hr
  obtain ⟨j,hj,rfl⟩:=List.mem_iff_getElem.1 hs
  obtain ⟨x,hx,rfl⟩:=List.mem_map.1 hr
  by_cases e:j=k
  ·subst e
   rw [hke] at hx ⊢
   simp only [List.mem_singleton] at hx
   subst hx
   rfl
  ·exact absurd ht (hoth j hj e)
 ·rw [hke]
  exact List.mem_map.2 ⟨d,by simp,rfl⟩
section
variable {C:Tab}
def JgK (C:Tab) (f:Nat):Prop:= ∀ (z:Zn) (zs:AV) (ds:List AV) (H:AH) (o:List UInt8) (ttl:Int) (d:List UInt8),ZS H zs z.s ds→SzZ z→JcR z o ttl d→z.s.length≤500→Jam z.s≤500→ ∃ v H',C f [.ag [.s z.a,zs]] H=some (v,H')∧ ∃ w,v= .tp [eR.v (Jkf o ttl d),w]∧w.outs=true∧Ext H H'
def Jmb (C:Tab) (f:Nat):Prop:= ∀ (z:Zn) (zs:AV) (ds:List AV) (H:AH) (o:List UInt8) (ttl:Int) (d:List UInt8),ZS H zs z.s ds→SzZ z→JcR z o ttl d→z.s.length≤500→Jam z.s≤500→C f [.ag [.s z.a,zs],.i .i64 3] H=some (.i .i64 (mx1 (JhO d)),H)
set_option maxHeartbeats 2000000 in
theorem Jnx {z:Zn} {zs:AV} {ds:List AV} {H:AH} {o:List UInt8} {ttl:Int} {d:List UInt8} (hR:JbM C QV) (h:ZS H zs z.s ds) (hz:SzZ z) (hs:JcR z o ttl d) (h5:z.s.length≤500) (h6:Jam z.s≤500):
  Jt C Zt [.ag [.s z.a,zs]] H fun v H'=> ∃ w,v= .tp [eR.v (Jkf o ttl d),w]∧w.outs=true∧Ext H H':=by
 unfold Jt Zt
 have zo:=h.row.out
 have zc:=h.row.one
 obtain ⟨v1,H1,k1,e1,m1,-⟩:=hR z zs ds H h hz
 have hzr:JeT z=WQ z:=by unfold JeT;rw [if_neg (by omega)]
 rw [hzr] at m1
 have hrl:(WQ z).length≤500:=by rw [Jcq];exact h6
 obtain ⟨r1,r2⟩:=JiN hs
 generalize WQ z=l at*
 obtain ⟨l1,l2⟩:=Sx.len m1.sl
 have vO:=(Mn.sl m1).out
 simp -implicitDefEqProofs only [bU,reduceIte,Jc,reduceCtorEq,Ja,Jb,bT,Jd,Je,Jf,bV,Ja,Jb,Jg,zo,zc,k1,l1,l2,vO]
 refine Jl (fun m e M=> ∃ (i:Nat) (w:AV) (xs:List Rr) (cur:Rr) (H':AH) (L0:List Lv) (g:Nat),i≤l.length∧m=l.length-i∧look e 2= .la 2 1 0 0∧look e 4= .la 4 2 0 0∧look e 5=w∧look e 9=v1∧look e 10= .i .i64 l.length∧look e 11= .i .i64 i∧M=⟨L0,g,H'⟩∧JJ [2,4,5,9,10,11] L0=[⟨4,2,0,[.ag [.s cur.o,.i .i64 cur.t,.i .i64 cur.c,.i .i64 cur.ttl,.s cur.d]]⟩,⟨2,1,0,[.ag [.s [],.i .i64 0,.i .i64 0,.i .i64 0,.s []]]⟩]∧Ext H1 H'∧Mx H' eR w xs∧xs.length≤i∧(∀ j,j∈idA w→H1.n≤j)∧(Jkf o ttl d∈l.take i→cur=Jkf o ttl d)) ?_ (n:=l.length)
  ⟨0,.ns,[],rrZ,_,_,_,by omega,by omega,rfl,rfl,rfl,rfl,rfl,rfl,rfl,rfl,.refl _,.nil,by simp,fun j hj=>by simp [idA] at hj,fun hm=>by simp at hm⟩
 rintro m e M ⟨i,w,xs,cur,H',L0,g,hi,rfl,q2,q4,q5,q9,q10,q11,rfl,hL0,he,hm,hxl,hid,hcur⟩
 have oO:=(Mn.sl hm).out
 by_cases hlt:(i:Int) < l.length
 ·have hil:i < l.length:=by omega
  obtain ⟨b1,b2,b3,b4⟩:=Sx.at' (Sl.ext m1.sl he) hil
  rw [show eR.z=5 from rfl] at b1 b3 b4
  rw [JcE] at b4
  have w4:IntKind.i64.wrap ((i:Int)+1)=((i+1:Nat):Int):=by rw [w64 (by omega) (by omega)];rfl
  have bd:l.length- (i+1) < l.length-i:=by omega
  by_cases ht:l[i].t=6
  ·have hr:=r1 _ (List.getElem_mem hil) ht
   have ht':(l[i].t=6)=True:=eq_true ht
   simp -implicitDefEqProofs only [bU,reduceIte,Jc,reduceCtorEq,Ja,Jb,bT,Jd,Je,Jf,bV,Ja,Jb,Jg,q2,q4,q5,q9,q10,q11,hL0,hlt,Jj,b1,b2,b3,b4,ht',w4,JG,JH,List.set]
   exact ⟨_,bd,i+1,w,xs,l[i],H',_,_,hil,rfl,rfl,rfl,rfl,rfl,he,hm,by omega,hid,fun _=>hr⟩
  ·obtain ⟨p1,w',H2,p2,p3,p4,p5,p6,p7,-,-⟩:=Mn.ap (by':=56) hm (Qk (t:=21) (g:=g+1) (x:=eR.v l[i]) (L:=[⟨7,g,0,[.ag [.s l[i].o,.i .i64 l[i].t,.i .i64 l[i].c,.i .i64 l[i].ttl,.s l[i].d]]⟩,⟨4,2,0,[.ag [.s cur.o,.i .i64 cur.t,.i .i64 cur.c,.i .i64 cur.ttl,.s cur.d]]⟩,⟨2,1,0,[.ag [.s [],.i .i64 0,.i .i64 0,.i .i64 0,.s []]]⟩]) (H:=H')) (by simp;omega)
   rw [show eR.z=5 from rfl,JcE] at p1 p2 p3
   simp -implicitDefEqProofs only [bU,reduceIte,Jc,reduceCtorEq,Ja,Jb,bT,Jd,Je,Jf,bV,Ja,Jb,Jg,q2,q4,q5,q9,q10,q11,hL0,hlt,Jj,b1,b2,b3,b4,ht,JG,JH,JE,JQ,List.replicate,List.set]
   simp -implicitDefEqProofs only [bU,reduceIte,Jc,reduceCtorEq,Ja,Jb,bT,Jd,Je,Jf,bV,Ja,Jb,Jg,p1,p2,p3,w4]
   refine ⟨_,bd,i+1,w',xs++[l[i]],cur,H2,_,_,hil,rfl,rfl,rfl,rfl,rfl,he.put hid p5 p6,?_,by simp;omega,fun j hj=>(p7 j hj).elim (hid j) fun h=>Nat.le_trans he.n h,fun hm2=>hcur ?_⟩
   ·show Mn H2 eR.z w' _
    rw [List.map_append];exact p4
   ·rw [List.take_succ_eq_append_getElem hil] at hm2
    rcases List.mem_append.1 hm2 with hm2 | hm2
    ·exact hm2
    ·rw [List.mem_singleton] at hm2
     exact absurd (by rw [←hm2];rfl) ht
 ·have hil:i=l.length:=by omega
  subst hil
  rw [List.take_length] at hcur
  have hc:=hcur r2
  subst hc
  simp -implicitDefEqProofs only [bU,reduceIte,Jc,reduceCtorEq,Ja,Jb,bT,Jd,Je,Jf,bV,Ja,Jb,Jg,q2,q4,q5,q9,q10,q11,hL0,hlt,oO,List.set,Jr,rsC,rsV,Js]
  exact ⟨w,rfl,oO,e1.trans he⟩
theorem Jsw {z:Zn} {zs:AV} {ds:List AV} {H:AH} {o:List UInt8} {ttl:Int} {d:List UInt8} (hS:JgK C Jap) (hN:JpO C Jbn) (h:ZS H zs z.s ds) (hz:SzZ z) (hs:JcR z o ttl d) (h5:z.s.length≤500) (h6:Jam z.s≤500):
  Jt C Zw [.ag [.s z.a,zs],.i .i64 3] H fun v H'=>v= .i .i64 (mx1 (JhO d))∧QA H H':=by
 unfold Jt Zw
 have zo:=h.row.out
 have zc:=h.row.one
 obtain ⟨v1,H1,k1,w,rfl,wO,e1⟩:=hS z zs ds H o ttl d h hz hs h5 h6
 have hl:20≤d.length:=by obtain ⟨i,hi,-,-,hch,-⟩:=hs;exact Jko hch
 have hlB:d.length≤1048576:=by
  obtain ⟨i,hi,he,-⟩:=hs
  have:=hz.d _ (List.getElem_mem hi) d (by rw [he];simp)
  exact this
 have w1:IntKind.i64.wrap ((d.length:Int)-20)=(d.length:Int)-20:=w64 (by omega) (by omega)
 have w2:IntKind.i64.wrap ((4:Int)*3)=12:=by decide
 have w3:IntKind.i64.wrap ((d.length:Int)-20+12)=((d.length-8:Nat):Int):=by rw [w64 (by omega) (by omega)];omega
 have hb:((0:Int)≤((d.length-8:Nat):Int)∧((d.length-8:Nat):Int)≤(d.length:Int))=True:=eq_true ⟨by omega,by omega⟩
 have h8:d.length- (d.length-8)=8:=by omega
 have htk:(d.drop (d.length-8)).take 8=d.drop (d.length-8):=List.take_of_length_le (by simp;omega)
 obtain ⟨v2,H2,kn,rfl,e2⟩:=hN (d.drop (d.length-8)) H1 (by simp;omega)
 have hmx:(if (1:Int) < ((num ((d.drop (d.length-8)).take 4) 0:Nat):Int) then ((num ((d.drop (d.length-8)).take 4) 0:Nat):Int) else 1)=mx1 (JhO d):=by
  unfold mx1 JhO
  split<;>split<;>omega
 rw [Jkf,JcE] at k1
 simp -implicitDefEqProofs only [bU,reduceIte,Jc,reduceCtorEq,Ja,Jb,bT,Jd,Je,Jf,bV,Ja,Jb,Jg,zo,zc,k1,wO,w1,w2,w3,hb,h8,htk,kn,Jj,List.set,Jr,rsC,rsV,Js]
 exact ⟨by rw [hmx],.of (e1.trans e2)⟩
end
def Juz (z:Zn):List UInt8:=(((WQ z).find? fun r=>decide (r.t=6)).getD rrZ).d
theorem JlC {z:Zn} {o:List UInt8} {ttl:Int} {d:List UInt8} (h:JcR z o ttl d):Juz z=d:=by
 obtain ⟨h1,h2⟩:=JiN h
 unfold Juz
 cases hf:(WQ z).find? fun r=>decide (r.t=6) with
 | none=>exact absurd (by simp [Jkf]) (List.find?_eq_none.1 hf _ h2)
 | some r=>
  have ht:=List.find?_some hf
  simp only [decide_eq_true_eq] at ht
  rw [h1 r (List.mem_of_find?_eq_some hf) ht]
  rfl
theorem JoK: ∀ (l:List UInt8) (a:Nat),num l a+1≤(a+1)*256 ^ l.length
 | [],a=>by simp [num]
 | b::r,a=>by
  have h:=JoK r (a*256+b.toNat)
  have hb:b.toNat < 256:=b.toNat_lt
  have e:num (b::r) a=num r (a*256+b.toNat):=rfl
  rw [e,List.length_cons,Nat.pow_succ]
  have:(a*256+b.toNat+1)*256 ^ r.length≤(a+1)*256*256 ^ r.length:=Nat.mul_le_mul_right _ (by omega)
  rw [Nat.mul_assoc,Nat.mul_comm 256] at this
  omega
theorem JlA (d:List UInt8):JhO d < 4294967296:=by
 unfold JhO
 have h:=JoK ((d.drop (d.length-8)).take 4) 0
 have hl:((d.drop (d.length-8)).take 4).length≤4:=by simp;omega
 have:256 ^ ((d.drop (d.length-8)).take 4).length≤256 ^ 4:=Nat.pow_le_pow_right (by decide) hl
 have e:(256:Nat) ^ 4=4294967296:=by decide
 omega
def ssF (z:Zn) (now:Int):Zn×Int×Int×Int:=if ckz z=0∧0≤now∧now≤281474976710655 then (z,now,now+mx1 (JhO (Juz z)),0) else (zn0,0,0,32)
def JiX (R:Zn×Int×Int×Int) (H:AH) (v:AV) (H':AH):Prop:=Ext H H'∧ ∃ zs' ds',v= .tp [scV R.1.a zs' 0 0 R.2.1 R.2.2.1,.i .i64 R.2.2.2]∧ZM H' H.n zs' R.1.s ds'
def Jt2 (C:Tab) (f:Nat):Prop:= ∀ (z:Zn) (zs:AV) (ds:List AV) (now:Int) (H:AH),JR H→ZS H zs z.s ds→SzZ z→ ∃ v H',C f [.ag [.s z.a,zs],.i .i64 now] H=some (v,H')∧JiX (ssF z now) H v H'
theorem Jjc {z:Zn} {now:Int} {H:AH} {v:AV} (h: ¬ (ckz z=0∧0≤now∧now≤281474976710655)) (hv:v= .tp [.ag [.s [],.ns,.i .i64 0,.i .i64 0,.i .i64 0,.i .i64 0],.i .i64 32]):JiX (ssF z now) H v H:=by
 unfold ssF
 rw [if_neg h]
 exact ⟨.refl _,.ns,[],hv,.nil _ _⟩
section
variable {C:Tab}
set_option maxHeartbeats 2000000 in
theorem Ju5 {z:Zn} {zs:AV} {ds:List AV} {now:Int} {H:AH} (hK:Jrr C Yf) (hI:JtP C Zv) (hC:ZR C WZ) (hN:Jma C Yh) (h:ZS H zs z.s ds) (hz:SzZ z):
  Jt C Qm [.ag [.s z.a,zs],.i .i64 now] H (JiX (ssF z now) H):=by
 unfold Jt Qm
 have zo:=h.row.out
 have zc:=h.row.one
 have k1:=hK z zs ds H h hz
 have k2:=hI now 281474976710655 H
 by_cases hc:ckz z=0
 ·have hc':(ckz z=0)=True:=eq_true hc
  by_cases hn:0≤now∧now≤281474976710655
  ·rw [decide_eq_true hn] at k2
   obtain ⟨o,ttl,d,hs⟩:=Jhf hc
   obtain ⟨v,H1,k3,zs',ds',rfl,e1,m1⟩:=hC z zs ds H h hz
   have k4:=hN z zs ds H1 o ttl d (h.ext e1) hz hs
   have hd:=JlC hs
   have hlt:=JlA d
   have hm:1≤mx1 (JhO d)∧mx1 (JhO d)≤4294967296:=by unfold mx1;split<;>omega
   have w1:IntKind.i64.wrap (now+mx1 (JhO d))=now+mx1 (JhO d):=w64 (by omega) (by omega)
   have o1:=m1.rd.row.out
   have c1:=m1.rd.row.one
   simp -implicitDefEqProofs only [bU,reduceIte,Jc,reduceCtorEq,Ja,Jb,bT,Jd,Je,Jf,bV,Ja,Jb,Jg,Qs,J6,zo,zc,k1,hc',k2,k3,k4,w1,o1,c1,JG,JH,List.set,List.take,List.drop,List.append,Jr,rsC,rsV,Js]
   unfold ssF
   rw [if_pos ⟨hc,hn⟩,hd]
   exact ⟨e1,zs',ds',rfl,m1⟩
  ·rw [decide_eq_false hn] at k2
   simp -implicitDefEqProofs only [bU,reduceIte,Jc,reduceCtorEq,Ja,Jb,bT,Jd,Je,Jf,bV,Ja,Jb,Jg,zo,zc,k1,hc',k2,JG,JH,Jr,rsC,rsV,Js]
   exact Jjc (fun h=>hn h.2) rfl
 ·simp -implicitDefEqProofs only [bU,reduceIte,Jc,reduceCtorEq,Ja,Jb,bT,Jd,Je,Jf,bV,Ja,Jb,Jg,zo,zc,k1,hc,JG,JH,Jr,rsC,rsV,Js]
  exact Jjc (fun h=>hc h.1) rfl
set_option maxHeartbeats 2000000 in
theorem JuD {z:Zn} {zs:AV} {ds:List AV} {now:Int} {H:AH} (hK:Jou C Yi) (hI:Jch C XP) (hC:ZR C Y7) (hN:Jmb C Jal) (hFo:JR H) (h:ZS H zs z.s ds) (hz:SzZ z):
  Jt C Qr [.ag [.s z.a,zs],.i .i64 now] H (JiX (ssF z now) H):=by
 unfold Jt Qr
 have zo:=h.row.out
 have zc:=h.row.one
 have k1:=hK z zs ds H hFo h hz
 have k2:=hI now 0 281474976710655 H
 by_cases hc:ckz z=0
 ·have hc':(ckz z=0)=True:=eq_true hc
  by_cases hn:0≤now∧now≤281474976710655
  ·rw [decide_eq_true hn] at k2
   obtain ⟨o,ttl,d,hs⟩:=Jhf hc
   obtain ⟨v,H1,k3,zs',ds',rfl,e1,m1⟩:=hC z zs ds H h hz
   have hsz:z.s.length≤500∧Jam z.s≤500:=by
    unfold ckz at hc
    by_cases h0:500 < z.s.length∨500 < JkI z
    ·rw [if_pos h0] at hc;cases hc
    ·have:JkI z=Jam z.s:=rfl
     omega
   have k4:=hN z zs ds H1 o ttl d (h.ext e1) hz hs hsz.1 hsz.2
   have hd:=JlC hs
   have hlt:=JlA d
   have hm:1≤mx1 (JhO d)∧mx1 (JhO d)≤4294967296:=by unfold mx1;split<;>omega
   have w1:IntKind.i64.wrap (now+mx1 (JhO d))=now+mx1 (JhO d):=w64 (by omega) (by omega)
   have o1:=m1.rd.row.out
   have c1:=m1.rd.row.one
   simp -implicitDefEqProofs only [bU,reduceIte,Jc,reduceCtorEq,Ja,Jb,bT,Jd,Je,Jf,bV,Ja,Jb,Jg,Qs,J6,zo,zc,k1,hc',k2,k3,k4,w1,o1,c1,JG,JH,List.set,List.take,List.drop,List.append,Jr,rsC,rsV,Js]
   unfold ssF
   rw [if_pos ⟨hc,hn⟩,hd]
   exact ⟨e1,zs',ds',rfl,m1⟩
  ·rw [decide_eq_false hn] at k2
   simp -implicitDefEqProofs only [bU,reduceIte,Jc,reduceCtorEq,Ja,Jb,bT,Jd,Je,Jf,bV,Ja,Jb,Jg,zo,zc,k1,hc',k2,JG,JH,Jr,rsC,rsV,Js]
   exact Jjc (fun h=>hn h.2) rfl
 ·simp -implicitDefEqProofs only [bU,reduceIte,Jc,reduceCtorEq,Ja,Jb,bT,Jd,Je,Jf,bV,Ja,Jb,Jg,zo,zc,k1,hc,JG,JH,Jr,rsC,rsV,Js]
  exact Jjc (fun h=>hc h.1) rfl
end
theorem Jqj (k:Nat) (sets:List Qa):mkE k (sets.map fun s=>s.d.length)=k+3*sets.length+Jam sets:=by
 unfold mkE Jam
 induction sets with
 | nil=>simp
 | cons s r ih=>simp only [List.map_cons,List.sum_cons,List.length_cons] at ih ⊢;omega
theorem JiH {z:Zn} (h:SzZ z):mkE 1 (z.s.map fun s=>s.d.length)≤1099511627776:=by
 rw [Jqj];have:=h.s;have:=h.c;omega
theorem Jsn {z:Zn} {now:Int} (h:SzZ z):SzZ (ssF z now).1:=by
 unfold ssF
 split
 ·exact h
 ·exact ⟨by simp [zn0],by simp [zn0],by simp [zn0,Jam],fun s hs=>by simp [zn0] at hs,fun s hs=>by simp [zn0] at hs⟩
section
variable {H H' H1:AH} {n0 n1:Nat} {zs:AV} {sets:List Qa} {ds:List AV} {ids:List Nat}
theorem ZM.kp (h:ZM H n0 zs sets ds) (hk:Kp ids H H') (hd: ∀ i,i∈Jjf zs ds→ ¬ i∈ids):ZM H' n0 zs sets ds:=h.fr hk.n fun i hi=>hk.at' i (h.lt i hi) (hd i hi)
end
section
variable {C:Tab}
set_option maxHeartbeats 4000000 in
theorem JnL {z:Zn} {zs:AV} {ds:List AV} {now:Int} {H:AH} (hSz:Jgx C ZQ) (hTo:ZR C ZH) (hS:Jt2 C QX) (hI:Jt2 C Q3) (hEq:Jiw C WV) (hEz:JdL C YA) (hMz:JdR C Wj) (hMs:JiB C Qv) (hHs:Jij C Qd)
  (hFo:JR H) (h:ZS H zs z.s ds) (hp:Jrv z):Jt C JM [.ag [.s z.a,zs],.i .i64 now] H fun v H'=>v= .b true∧Ext H H':=by
 unfold Jt JM
 have zo:=h.row.out
 have zc:=h.row.one
 have k1:=hSz z zs ds 1048576 H h (by decide) (by decide) hp
 by_cases hw:(1048576:Int)- (wZ z:Nat) < 0
 ·rw [Jda hw] at k1
  simp -implicitDefEqProofs only [bU,reduceIte,Jc,reduceCtorEq,Ja,Jb,bT,Jd,Je,Jf,bV,Ja,Jb,Jg,zo,zc,k1,Int.reduceNeg,Ji,Jr,rsC,rsV,Js]
  exact .refl _
 rw [Jhy hw] at k1
 have hz:SzZ z:= .of (by omega)
 have hzR:=Jsn (now:=now) hz
 obtain ⟨_,Ha,ka,za,da,rfl,ea,ma⟩:=hTo z zs ds H h hz
 obtain ⟨_,Hb,kb,eb,zb,db,rfl,mb⟩:=hS z za da now Ha (hFo.ext ea) ma.rd hz
 obtain ⟨_,Hc,kc,zx,dx,rfl,ec,mx⟩:=hTo z zs ds Hb (h.ext (ea.trans eb)) hz
 obtain ⟨_,Hd,kd,ed,zg,dg,rfl,mg⟩:=hI z zx dx now Hc (hFo.ext ((ea.trans eb).trans ec)) mx.rd hz
 generalize hR:ssF z now=R at*
 have hWd:=(mb.ext (ec.trans ed))
 have hXd:=mx.ext ed
 have kq:=hEq R.1 0 0 R.2.1 R.2.2.1 zg zb dg db Hd mg.rd hWd.rd hzR
 obtain ⟨_,He,ke,zy,dy,rfl,ee,my⟩:=hTo z zs ds Hd (h.ext (((ea.trans eb).trans ec).trans ed)) hz
 have hXe:=hXd.ext ee
 have kz:=hEz z zx zy dx dy He hXe.rd my.rd hz
 obtain ⟨Hf,kf,mxf,pf⟩:=hMz z.a zx z.s dx 1 _ He hXe (JiH hz)
 have hge:=ec.n
 have hbn:=eb.n
 have xlo: ∀ i,i∈Jjf zx dx→Hb.n≤i:=fun i hi=>mx.ge i hi
 have xhi: ∀ i,i∈Jjf zx dx→i < Hc.n:=fun i hi=>mx.lt i hi
 have wlt: ∀ i,i∈Jjf zb db→i < Hb.n:=fun i hi=>mb.lt i hi
 have glo: ∀ i,i∈Jjf zg dg→Hc.n≤i:=fun i hi=>mg.ge i hi
 have hWf:=(hWd.ext ee).kp pf fun i hi hx=>by have:=wlt i hi;have:=xlo i hx;omega
 have hGf:=(mg.ext ee).kp pf fun i hi hx=>by have:=glo i hi;have:=xhi i hx;omega
 have kq2:=hEq R.1 0 0 R.2.1 R.2.2.1 zg zb dg db Hf hGf.rd hWf.rd hzR
 obtain ⟨Hg,kg,mgg,pg⟩:=hMs R.1.a zg 0 0 R.2.1 R.2.2.1 R.1.s dg 1 _ Hf hGf (JiH hzR)
 obtain ⟨Hh,kh,eh⟩:=hHs R.1.a zg 0 0 R.2.1 R.2.2.1 _ dg 1 Hg mgg.rd (JiH hzR)
 have e0e:Ext H He:=(((ea.trans eb).trans ec).trans ed).trans ee
 have han:=ea.n
 have e0f:Ext H Hf:=pf.put e0e fun i hi=>by have:=xlo i hi;omega
 have e0g:Ext H Hg:=pg.put e0f fun i hi=>by have:=glo i hi;omega
 have e0h:Ext H Hh:=e0g.trans eh
 have hWh:=(hWf.kp pg fun i hi hx=>by have:=wlt i hi;have:=glo i hx;omega).ext eh
 have hGh:=mgg.ext eh
 obtain ⟨_,Hi,ki,zv,dv,rfl,ei,mv⟩:=hTo z zs ds Hh (h.ext e0h) hz
 obtain ⟨_,Hj,kj,ej,zh,dh,rfl,mh⟩:=hI z zv dv now Hi (hFo.ext (e0h.trans ei)) mv.rd hz
 rw [hR] at kj mh
 have kq3:=hEq R.1 0 0 R.2.1 R.2.2.1 zh zb dh db Hj mh.rd (hWh.ext (ei.trans ej)).rd hzR
 obtain ⟨Hk,kk,ek⟩:=hHs R.1.a zg 0 0 R.2.1 R.2.2.1 _ dg 1 Hj (hGh.ext (ei.trans ej)).rd (JiH hzR)
 have e0k:Ext H Hk:=((e0h.trans ei).trans ej).trans ek
 have o1:=ma.rd.row.out
 have o2:=mb.rd.row.out
 have o3:=mx.rd.row.out
 have o4:=mg.rd.row.out
 have o5:=my.rd.row.out
 have o6:=mv.rd.row.out
 have o7:=mh.rd.row.out
 have c1:=ma.rd.row.one
 have c2:=mb.rd.row.one
 have c3:=mx.rd.row.one
 have c4:=mg.rd.row.one
 have c5:=my.rd.row.one
 have c6:=mv.rd.row.one
 have c7:=mh.rd.row.one
 have hn1:(((mkE 1 (z.s.map fun s=>s.d.length):Nat):Int) < 0)=False:=eq_false (by omega)
 have hn2:(((mkE 1 (R.1.s.map fun s=>s.d.length):Nat):Int) < 0)=False:=eq_false (by omega)
 have kf':C Wj [.ag [.s z.a,zx],.i .i64 1] He=some (.i .i64 (mkE 1 (z.s.map fun s=>s.d.length):Nat),Hf):=kf
 have kg':C Qv [scV R.1.a zg 0 0 R.2.1 R.2.2.1,.i .i64 1] Hf=some (.i .i64 (mkE 1 (R.1.s.map fun s=>s.d.length):Nat),Hg):=kg
 have kh':C Qd [scV R.1.a zg 0 0 R.2.1 R.2.2.1,.i .i64 1] Hg=some (.i .i64 (mkE 1 (R.1.s.map fun s=>s.d.length):Nat),Hh):=kh
 have kk':C Qd [scV R.1.a zg 0 0 R.2.1 R.2.2.1,.i .i64 1] Hj=some (.i .i64 (mkE 1 (R.1.s.map fun s=>s.d.length):Nat),Hk):=kk
 simp only [scV] at kb kd kq kq2 kg' kh' kj kq3 kk'
 simp -implicitDefEqProofs only [bU,reduceIte,Jc,reduceCtorEq,Ja,Jb,bT,Jd,Je,Jf,bV,Ja,Jb,Jg,Qs,J6,zo,zc,k1,hw,ka,kb,kc,kd,kq,ke,kz,kf',hn1,hn2,kq2,kg',kh',ki,kj,kq3,kk',o1,o2,o3,o4,o5,o6,o7,c1,c2,c3,c4,c5,c6,c7,List.set,Jr,rsC,rsV,Js]
 exact e0k
end
def l8:List (Nat×Fn):=[(Xo,XE),(XZ,X6),(WL,Wx),(YL,YW),(Y4,Y9),(X4,X5),(QI,Xp),(XC,Qp),(QF,Xq),(XY,XW),(Zv,Zp),(XP,Y5),(Yy,Yx),(XJ,Xg),(Qq,Xb),(Za,Jz),(Ya,WG),(YN,Xe),(Zh,XT),(Qz,Qu),(WX,Q6),(WS,Q0),(QV,QN),(QJ,Xj),(Ye,WE),(WU,QS),(WR,QO),(Jao,Zq),(ZI,Yz),(ZH,YQ),(YJ,Xz),(YH,XF),(Wj,Xw),(YE,Xl),(Qv,Qw),(Qd,Qy),(Zo,XV),(Wd,Wl),(WZ,QR),(Y7,Xc),(Zk,X0),(ZN,YT),(Jap,Zt),(Ql,JV),(Jbn,JaL),(WY,QU),(JX,JY),(JI,Jm),(JS,QT),(QQ,Qo),(Yv,Jo),(WM,QC),(Yb,Jp),(Yc,Jk),(QX,Qm),(Q3,Qr),(QB,JM)]
def z8:List (Nat×Fn):=[(WF,WI),(YC,YY),(XM,YM),(Xf,Xu),(Qc,Z6),(Qn,Xt),(Xk,Xa),(WO,XU),(Yt,XA),(Ws,QH),(Zj,Zg),(YK,Yu),(JaE,JaH),(YD,Xm),(WP,X7),(XD,Xv),(Ww,QG),(Qg,WK),(Xi,Xy),(Wh,Xd),(WT,QP),(Wm,Wn),(Wv,YP),(XH,Xx),(QM,WJ),(YR,Y6),(XG,Xr),(XO,Wi),(WW,QZ),(YX,XB),(Yd,WB),(Yg,Wy),(Jak,Zr),(ZG,YG),(ZQ,Yw),(Jac,Zu),(ZL,YV),(YA,Y0),(WV,QW),(ZT,YZ),(Yh,WA),(Jal,Zw),(Y3,Q5),(YS,Q4),(Yf,WC),(Yi,WH)]
section
variable {C:Tab} {F:Fn} {vs:List AV} {H:AH} {r:AV}
theorem Jt.kz (h:Jt C F vs H fun v H'=>v=r∧Ext H H'):Jt C F vs H fun v H'=>v=r∧QA H H':=h.mono fun _ _ ⟨h1,h2⟩=>⟨h1,.of h2⟩
theorem Jt.kp (h:Jt C F vs H fun v H'=>Ext H H'∧v=r):Jt C F vs H fun v H'=>v=r∧QA H H':=h.mono fun _ _ ⟨h1,h2⟩=>⟨h2,.of h1⟩
theorem Jt.kf (h:Jt C F vs H fun v H'=>v=r∧H'=H):Jt C F vs H fun v H'=>v=r∧QA H H':=h.mono fun _ _ ⟨h1,h2⟩=>⟨h1,by rw [h2];exact JA H⟩
theorem Ja1.t {f:Nat} (h:Ja1 C f):Jtv C f:=fun s H hs=>⟨_,_,h s H hs,rfl,.refl _⟩
theorem Jbk.t {f:Nat} (h:Jbk C f):Jln C f:=fun s H hs=>⟨_,_,h s H hs,rfl,.refl _⟩
theorem Jc9.t {f:Nat} (h:Jc9 C f):Jjz C f:=fun t d H hF hd=>⟨_,_,h t d H hF hd,rfl,.refl _⟩
theorem XX {l z:List (Nat×Fn)} {k n:Nat} {G:AH→Prop} (e:lkF l n=some F) (h:Jt (JK l z k) F vs H fun v H'=>v=r∧G H') (hd:JhS F.s=true:=by rfl): ∃ H',JK l z (k+1) n vs H=some (r,H')∧G H':=by
 obtain ⟨v,H',h1,rfl,h2⟩:=JC e h hd
 exact ⟨H',h1,h2⟩
theorem Jn8 {l z:List (Nat×Fn)} {k n:Nat} {G:AV→AH→Prop} (e:lkF l n=some F) (h: ∃ r:AV×AH,G r.1 r.2∧Jt (JK l z k) F vs H fun v H'=>v=r.1∧H'=r.2): ∃ v H',JK l z (k+1) n vs H=some (v,H')∧G v H':=by
 obtain ⟨r,h1,h2⟩:=h
 refine ⟨r.1,r.2,?_,h1⟩
 rw [Jh3 e]
 have hx: ∃ r:AV×AH,Jt (JK l z k) F vs H fun v H'=>v=r.1∧H'=r.2:=⟨r,h2⟩
 unfold ent
 rw [dif_pos hx]
 obtain ⟨x,e',M,a1,a2⟩:=JgG _ _ _ h2 hx.choose_spec
 have hr:hx.choose=r:=Prod.ext (a2.2.2.1.symm.trans a1.2.2.1) (a2.2.2.2.symm.trans a1.2.2.2)
 rw [hr]
theorem JpQ {t:Int} {H:AH}:Jt C Zg [.i .i64 t] H fun v H'=>v= .b (Jd5 t)∧QA H H':=Jok
end
theorem Jl5 (ls:List (List UInt8)):Jfe ls=joinL ls:=by
 unfold joinL
 induction ls with
 | nil=>rfl
 | cons x r ih=>simp only [Jfe,joinP,ih,List.cons_append,List.append_assoc]
theorem Jnk (k:Nat):Ji4 (JK l8 z8 (k+1)) JaV:=fun a ls H h h1 h2=>by
 have key: ∀ els,Sl H 1 a els→Jid H a∧slZ H 1 a∧Yk H a=els:=fun els h=>by
  obtain ⟨e1,e2⟩:=h.src [] 0
  cases h<;>exact ⟨e2.1,e2.2,e1⟩
 obtain ⟨c1,c2,c3⟩:=key _ h
 rw [Jbr rfl rfl,show JaV=183 from rfl,Jrd,JtL c1 c2 c3 h1 (by rw [Jl5];exact h2),Jl5]
theorem JoL (k:Nat):JjT (JK l8 z8 (k+1)) XN:=fun s t H=>by
 rw [Jbr rfl rfl,show XN=211 from rfl,Jr9]
 rfl
theorem JqB (k:Nat):Jgg (JK l8 z8 (k+1)) Xo:=by
 unfold Jgg
 intros
 refine JaC (l:=l8) (z:=z8) (n:=Xo) (F:=XE) (k:=k) rfl ?_
 apply JpE<;>first | assumption | omega
theorem JuZ (k:Nat):Jms (JK l8 z8 (k+1)) XZ:=by
 unfold Jms
 intros
 refine JaC (l:=l8) (z:=z8) (n:=XZ) (F:=X6) (k:=k) rfl ?_
 apply JuR<;>first | assumption | omega
theorem JuA (k:Nat):Jmt (JK l8 z8 (k+1)) WL:=by
 unfold Jmt
 intros
 refine JaC (l:=l8) (z:=z8) (n:=WL) (F:=Wx) (k:=k) rfl ?_
 apply JuS<;>first | assumption | omega
theorem Juv (k:Nat):JnM (JK l8 z8 (k+1)) YL:=by
 unfold JnM
 intros
 refine JaC (l:=l8) (z:=z8) (n:=YL) (F:=YW) (k:=k) rfl ?_
 apply Jvi<;>first | assumption | omega
theorem Jvd (k:Nat):Jnj (JK l8 z8 (k+1)) Y4:=by
 unfold Jnj
 intros
 refine JaC (l:=l8) (z:=z8) (n:=Y4) (F:=Y9) (k:=k) rfl ?_
 apply JuH<;>first | assumption | omega
theorem JoI (k:Nat):JiI (JK l8 z8 (k+1)) X4:=by
 unfold JiI
 intros
 refine JaC (l:=l8) (z:=z8) (n:=X4) (F:=X5) (k:=k) rfl ?_
 apply Jr8<;>first | assumption | omega
theorem Jf5 (k:Nat):JcQ (JK l8 z8 (k+1)) QI:=by
 unfold JcQ
 intros
 refine JC (l:=l8) (z:=z8) (n:=QI) (F:=Xp) (k:=k) rfl ?_
 apply Jqa<;>first | assumption | omega
theorem JlH (k:Nat):Jgl (JK l8 z8 (k+2)) XC:=by
 unfold Jgl
 intros
 refine JC (l:=l8) (z:=z8) (n:=XC) (F:=Qp) (k:=k+1) rfl ?_
 apply Jqg<;>first | assumption | exact JuA _ | exact JuZ _ | exact JqB _ | exact Jvd _ | omega
theorem Jot (k:Nat):JjD (JK l8 z8 (k+3)) WF:=by
 unfold JjD
 intros
 refine Ju (l:=l8) (z:=z8) (n:=WF) (F:=WI) (k:=k+2) rfl rfl ?hv (Jt.kz ?_)
 case hv=>rfl
 apply JnI<;>first | assumption | exact JoI _ | exact JlH _ | omega
theorem JkO (k:Nat):Jb2 (JK l8 z8 (k+2)) YC:=by
 unfold Jb2
 intros
 refine Ju (l:=l8) (z:=z8) (n:=YC) (F:=YY) (k:=k+1) rfl rfl ?hv (Jt.kz ?_)
 case hv=>rfl
 apply Jlw<;>first | assumption | exact Jf5 _ | omega
theorem Jbo (k:Nat):ZZ (JK l8 z8 (k+1)) QF:=by
 unfold ZZ
 intros
 refine JC (l:=l8) (z:=z8) (n:=QF) (F:=Xq) (k:=k) rfl ?_
 apply JjM<;>first | assumption | omega
theorem Jkz (k:Nat):Jb2 (JK l8 z8 (k+2)) XM:=by
 unfold Jb2
 intros
 refine Ju (l:=l8) (z:=z8) (n:=XM) (F:=YM) (k:=k+1) rfl rfl ?hv (Jt.kz ?_)
 case hv=>rfl
 apply JnF<;>first | assumption | exact Jbo _ | omega
theorem Ji0 (k:Nat):Ja1 (JK l8 z8 (k+1)) Xf:=by
 unfold Ja1
 intros
 refine Ju (l:=l8) (z:=z8) (n:=Xf) (F:=Xu) (k:=k) rfl rfl ?hv (Jt.kz ?_)
 case hv=>rfl
 apply Jts<;>first | assumption | omega
theorem JhP (k:Nat):Ja1 (JK l8 z8 (k+1)) Qc:=by
 unfold Ja1
 intros
 refine Ju (l:=l8) (z:=z8) (n:=Qc) (F:=Z6) (k:=k) rfl rfl ?hv (Jt.kz ?_)
 case hv=>rfl
 apply Jtr<;>first | assumption | omega
theorem Jlv (k:Nat):Jf3 (JK l8 z8 (k+1)) XY:=by
 unfold Jf3
 intros
 refine JC (l:=l8) (z:=z8) (n:=XY) (F:=XW) (k:=k) rfl ?_
 apply JqH<;>first | assumption | omega
theorem Jc3 (k:Nat):Jbk (JK l8 z8 (k+2)) Qn:=by
 unfold Jbk
 intros
 refine Ju (l:=l8) (z:=z8) (n:=Qn) (F:=Xt) (k:=k+1) rfl rfl ?hv (Jt.kz ?_)
 case hv=>rfl
 apply JoS<;>first | assumption | exact Jf5 _ | exact Ji0 _ | exact Jlv _ | exact (Ji0 _).t | omega
theorem JkN (k:Nat):Jeh (JK l8 z8 (k+3)) Xk:=by
 unfold Jeh
 intros
 refine Ju (l:=l8) (z:=z8) (n:=Xk) (F:=Xa) (k:=k+2) rfl rfl ?hv (Jt.kz ?_)
 case hv=>rfl
 apply JsL<;>first | assumption | exact Jc3 _ | exact (Jc3 _).t | omega
theorem JlN (k:Nat):JbI (JK l8 z8 (k+4)) WO:=by
 unfold JbI
 intros
 refine Ju (l:=l8) (z:=z8) (n:=WO) (F:=XU) (k:=k+3) rfl rfl ?hv ?_
 case hv=>rfl
 apply JpG<;>first | assumption | exact Jf5 _ | exact Jlv _ | exact JkN _ | omega
theorem Jth (k:Nat):JjT (JK l8 z8 (k+1)) Yt:=by
 unfold JjT
 intros
 refine Ju (l:=l8) (z:=z8) (n:=Yt) (F:=XA) (k:=k) rfl rfl ?hv ?_
 case hv=>rfl
 apply Jur<;>first | assumption | omega
theorem Js7 (k:Nat):Jfx (JK l8 z8 (k+2)) Ws:=by
 unfold Jfx
 intros
 refine Ju (l:=l8) (z:=z8) (n:=Ws) (F:=QH) (k:=k+1) rfl rfl ?hv ?_
 case hv=>rfl
 apply JsI<;>first | assumption | exact Jf5 _ | exact Ji0 _ | exact Jth _ | exact (Ji0 _).t | omega
theorem Jsa (k:Nat):JtP (JK l8 z8 (k+1)) Zv:=by
 unfold JtP
 intros
 refine JaC (l:=l8) (z:=z8) (n:=Zv) (F:=Zp) (k:=k) rfl ?_
 apply Jp5<;>first | assumption | omega
theorem JiK (k:Nat):Jch (JK l8 z8 (k+1)) XP:=by
 unfold Jch
 intros
 refine JaC (l:=l8) (z:=z8) (n:=XP) (F:=Y5) (k:=k) rfl ?_
 apply JmE<;>first | assumption | omega
theorem JqQ (k:Nat):JeC (JK l8 z8 (k+1)) Zj:=by
 unfold JeC
 intros
 refine Ju (l:=l8) (z:=z8) (n:=Zj) (F:=Zg) (k:=k) rfl rfl ?hv ?_
 case hv=>rfl
 apply JpQ<;>first | assumption | omega
theorem Jpd (k:Nat):JeC (JK l8 z8 (k+1)) YK:=by
 unfold JeC
 intros
 refine Ju (l:=l8) (z:=z8) (n:=YK) (F:=Yu) (k:=k) rfl rfl ?hv ?_
 case hv=>rfl
 apply Jok<;>first | assumption | omega
theorem Jvc (k:Nat):Jnr (JK l8 z8 (k+1)) JaE:=by
 unfold Jnr
 intros
 refine Ju (l:=l8) (z:=z8) (n:=JaE) (F:=JaH) (k:=k) rfl rfl ?hv (Jt.kp ?_)
 case hv=>rfl
 apply Juk<;>first | assumption | omega
theorem Jm0 (k:Nat):JdA (JK l8 z8 (k+2)) Yy:=by
 unfold JdA
 intros
 refine JC (l:=l8) (z:=z8) (n:=Yy) (F:=Yx) (k:=k+1) rfl ?_
 apply JnG<;>first | assumption | exact Jbo _ | omega
theorem JqM (k:Nat):Jeh (JK l8 z8 (k+3)) YD:=by
 unfold Jeh
 intros
 refine Ju (l:=l8) (z:=z8) (n:=YD) (F:=Xm) (k:=k+2) rfl rfl ?hv ?_
 case hv=>rfl
 apply JpP<;>first | assumption | exact Jkz _ | exact JhP _ | omega
theorem Jkq (k:Nat):JbI (JK l8 z8 (k+2)) WP:=by
 unfold JbI
 intros
 refine Ju (l:=l8) (z:=z8) (n:=WP) (F:=X7) (k:=k+1) rfl rfl ?hv ?_
 case hv=>rfl
 apply Jo0<;>first | assumption | exact Jbo _ | exact Jnk _ | exact JhP _ | omega
theorem JuI (k:Nat):Jnt (JK l8 z8 (k+4)) XD:=by
 unfold Jnt
 intros
 refine Ju (l:=l8) (z:=z8) (n:=XD) (F:=Xv) (k:=k+3) rfl rfl ?hv ?_
 case hv=>rfl
 apply JtF<;>first | assumption | exact Jkq _ | exact JqM _ | omega
theorem Jto (k:Nat):Jfx (JK l8 z8 (k+2)) Ww:=by
 unfold Jfx
 intros
 refine Ju (l:=l8) (z:=z8) (n:=Ww) (F:=QG) (k:=k+1) rfl rfl ?hv ?_
 case hv=>rfl
 apply JsO<;>first | assumption | exact Jbo _ | exact JhP _ | exact JoL _ | omega
theorem Jq2 (k:Nat):Jbw (JK l8 z8 (k+1)) XJ:=by
 unfold Jbw
 intros
 refine JC (l:=l8) (z:=z8) (n:=XJ) (F:=Xg) (k:=k) rfl ?_
 apply JjU<;>first | assumption | omega
theorem JrW (k:Nat):Jjb (JK l8 z8 (k+1)) Qq:=by
 unfold Jjb
 intros
 refine JaC (l:=l8) (z:=z8) (n:=Qq) (F:=Xb) (k:=k) rfl ?_
 apply Jrw<;>first | assumption | omega
theorem JiV (k:Nat):JdH (JK l8 z8 (k+2)) Za:=by
 unfold JdH
 intros
 refine JC (l:=l8) (z:=z8) (n:=Za) (F:=Jz) (k:=k+1) rfl ?_
 apply JnH<;>first | assumption | exact JrW _ | exact Juv _ | exact Jq2 _ | omega
theorem Jd2 (k:Nat):Jc9 (JK l8 z8 (k+3)) Qg:=by
 unfold Jc9
 intros
 refine Ju (l:=l8) (z:=z8) (n:=Qg) (F:=WK) (k:=k+2) rfl rfl ?hv (Jt.kz ?_)
 case hv=>rfl
 apply JnP<;>first | assumption | exact JiV _ | omega
theorem JpM (k:Nat):JbQ (JK l8 z8 (k+4)) Ya:=by
 unfold JbQ
 intros
 refine JC (l:=l8) (z:=z8) (n:=Ya) (F:=WG) (k:=k+3) rfl ?_
 apply JhV<;>first | assumption | exact Jd2 _ | exact JiV _ | exact (Jd2 _).t | omega
theorem JuL (k:Nat):Jnu (JK l8 z8 (k+4)) Xi:=by
 unfold Jnu
 intros
 refine Ju (l:=l8) (z:=z8) (n:=Xi) (F:=Xy) (k:=k+3) rfl rfl ?hv ?_
 case hv=>rfl
 apply JnY<;>first | assumption | exact Jot _ | exact JoI _ | exact JlH _ | exact Jc3 _ | exact (Jc3 _).t | omega
theorem JsT (k:Nat):Jk4 (JK l8 z8 (k+5)) Wh:=by
 unfold Jk4
 intros
 refine Ju (l:=l8) (z:=z8) (n:=Wh) (F:=Xd) (k:=k+4) rfl rfl ?hv ?_
 case hv=>rfl
 apply Jnv<;>first | assumption | exact Jd2 _ | exact JpM _ | exact JhP _ | exact (Jd2 _).t | omega
theorem JsQ (k:Nat):JkX (JK l8 z8 (k+6)) WT:=by
 unfold JkX
 intros
 refine Ju (l:=l8) (z:=z8) (n:=WT) (F:=QP) (k:=k+5) rfl rfl ?hv ?_
 case hv=>rfl
 apply JrP<;>first | assumption | exact Jd2 _ | exact JsT _ | exact JoL _ | exact (Jd2 _).t | omega
theorem JsC (k:Nat):Jjn (JK l8 z8 (k+1)) Wm:=by
 unfold Jjn
 intros
 refine Ju (l:=l8) (z:=z8) (n:=Wm) (F:=Wn) (k:=k) rfl rfl ?hv ?_
 case hv=>rfl
 apply Jrn<;>first | assumption | omega
theorem JuM (k:Nat):JjI (JK l8 z8 (k+1)) Wv:=by
 unfold JjI
 intros
 refine Ju (l:=l8) (z:=z8) (n:=Wv) (F:=YP) (k:=k) rfl rfl ?hv ?_
 case hv=>rfl
 apply Ju9<;>first | assumption | omega
theorem Juo (k:Nat):Jne (JK l8 z8 (k+1)) XH:=by
 unfold Jne
 intros
 refine Ju (l:=l8) (z:=z8) (n:=XH) (F:=Xx) (k:=k) rfl rfl ?hv ?_
 case hv=>rfl
 apply Ju4<;>first | assumption | omega
theorem Jvk (k:Nat):JmI (JK l8 z8 (k+3)) QM:=by
 unfold JmI
 intros
 refine Ju (l:=l8) (z:=z8) (n:=QM) (F:=WJ) (k:=k+2) rfl rfl ?hv ?_
 case hv=>rfl
 apply JuT<;>first | assumption | exact Js7 _ | omega
theorem Ju1 (k:Nat):JmG (JK l8 z8 (k+5)) YR:=by
 unfold JmG
 intros
 refine Ju (l:=l8) (z:=z8) (n:=YR) (F:=Y6) (k:=k+4) rfl rfl ?hv ?_
 case hv=>rfl
 apply JuK<;>first | assumption | exact JkO _ | exact Jsa _ | exact JqQ _ | exact Jot _ | exact JlN _ | omega
theorem Jpi (k:Nat):Jiu (JK l8 z8 (k+1)) YN:=by
 unfold Jiu
 intros
 refine JC (l:=l8) (z:=z8) (n:=YN) (F:=Xe) (k:=k) rfl ?_
 apply Jpc<;>first | assumption | omega
theorem Jlr (k:Nat):Jgr (JK l8 z8 (k+1)) XG:=by
 unfold Jgr
 intros
 refine Ju (l:=l8) (z:=z8) (n:=XG) (F:=Xr) (k:=k) rfl rfl ?hv ?_
 case hv=>rfl
 apply Jqw<;>first | assumption | omega
theorem Jo2 (k:Nat):JhX (JK l8 z8 (k+1)) Zh:=by
 unfold JhX
 intros
 refine JC (l:=l8) (z:=z8) (n:=Zh) (F:=XT) (k:=k) rfl ?_
 apply JoT<;>first | assumption | omega
theorem JkU (k:Nat):Je1 (JK l8 z8 (k+1)) Qz:=by
 unfold Je1
 intros
 refine JC (l:=l8) (z:=z8) (n:=Qz) (F:=Qu) (k:=k) rfl ?_
 apply JpD<;>first | assumption | omega
theorem Jmn (k:Nat):JbM (JK l8 z8 (k+2)) WX:=by
 unfold JbM
 intros
 refine JC (l:=l8) (z:=z8) (n:=WX) (F:=Q6) (k:=k+1) rfl ?_
 apply Jmy<;>first | assumption | exact Jlr _ | exact JkU _ | exact Jo2 _ | omega
theorem JlY (k:Nat):JeO (JK l8 z8 (k+1)) XO:=by
 unfold JeO
 intros
 refine Ju (l:=l8) (z:=z8) (n:=XO) (F:=Wi) (k:=k) rfl rfl ?hv ?_
 case hv=>rfl
 apply JkC<;>first | assumption | omega
theorem Jnn (k:Nat):ZU (JK l8 z8 (k+2)) WW:=by
 unfold ZU
 intros
 refine Ju (l:=l8) (z:=z8) (n:=WW) (F:=QZ) (k:=k+1) rfl rfl ?hv ?_
 case hv=>rfl
 apply Jib<;>first | assumption | exact JlY _ | omega
theorem Jqe (k:Nat):Je1 (JK l8 z8 (k+1)) WS:=by
 unfold Je1
 intros
 refine JC (l:=l8) (z:=z8) (n:=WS) (F:=Q0) (k:=k) rfl ?_
 apply JqG<;>first | assumption | omega
theorem Jjl (k:Nat):JbM (JK l8 z8 (k+2)) QV:=by
 unfold JbM
 intros
 refine JC (l:=l8) (z:=z8) (n:=QV) (F:=QN) (k:=k+1) rfl ?_
 apply Jnz<;>first | assumption | exact Jqe _ | omega
theorem JnK (k:Nat):ZU (JK l8 z8 (k+1)) YX:=by
 unfold ZU
 intros
 refine Ju (l:=l8) (z:=z8) (n:=YX) (F:=XB) (k:=k) rfl rfl ?hv ?_
 case hv=>rfl
 apply Jh5<;>first | assumption | omega
theorem Jt8 (k:Nat):JqR (JK l8 z8 (k+1)) QJ:=by
 unfold JqR
 intros
 refine XX (l:=l8) (z:=z8) (n:=QJ) (F:=Xj) (k:=k) rfl ?_
 apply Jj4<;>first | assumption | omega
theorem Js0 (k:Nat):Jlp (JK l8 z8 (k+1)) Yd:=by
 unfold Jlp
 intros
 refine Ju (l:=l8) (z:=z8) (n:=Yd) (F:=WB) (k:=k) rfl rfl ?hv ?_
 case hv=>rfl
 apply JsR<;>first | assumption | omega
theorem Jte (k:Nat):JkR (JK l8 z8 (k+1)) Yg:=by
 unfold JkR
 intros
 refine Ju (l:=l8) (z:=z8) (n:=Yg) (F:=Wy) (k:=k) rfl rfl ?hv ?_
 case hv=>rfl
 apply Jtw<;>first | assumption | omega
theorem Jsj (k:Nat):JlB (JK l8 z8 (k+1)) Ye:=by
 unfold JlB
 intros
 refine JC (l:=l8) (z:=z8) (n:=Ye) (F:=WE) (k:=k) rfl ?_
 apply Jq5<;>first | assumption | omega
theorem Jtf (k:Nat):JkQ (JK l8 z8 (k+2)) WU:=by
 unfold JkQ
 intros
 refine XX (l:=l8) (z:=z8) (n:=WU) (F:=QS) (k:=k+1) rfl ?_
 apply JtJ<;>first | assumption | exact Jt8 _ | omega
theorem Jtp (k:Nat):Jll (JK l8 z8 (k+2)) WR:=by
 unfold Jll
 intros
 refine XX (l:=l8) (z:=z8) (n:=WR) (F:=QO) (k:=k+1) rfl ?_
 apply JrJ<;>first | assumption | exact Jt8 _ | omega
theorem Jpx (k:Nat):JiC (JK l8 z8 (k+2)) Jak:=by
 unfold JiC
 intros
 refine Ju (l:=l8) (z:=z8) (n:=Jak) (F:=Zr) (k:=k+1) rfl rfl ?hv ?_
 case hv=>rfl
 apply JpH<;>first | assumption | exact Js0 _ | omega
theorem Jm4 (k:Nat):Jgm (JK l8 z8 (k+3)) ZG:=by
 unfold Jgm
 intros
 refine Ju (l:=l8) (z:=z8) (n:=ZG) (F:=YG) (k:=k+2) rfl rfl ?hv ?_
 case hv=>rfl
 apply JmB<;>first | assumption | exact Jpx _ | omega
theorem JmJ (k:Nat):Jgx (JK l8 z8 (k+4)) ZQ:=by
 unfold Jgx
 intros
 refine Ju (l:=l8) (z:=z8) (n:=ZQ) (F:=Yw) (k:=k+3) rfl rfl ?hv ?_
 case hv=>rfl
 apply Jns<;>first | assumption | exact Jm4 _ | omega
theorem JpV (k:Nat):Jh9 (JK l8 z8 (k+2)) Jac:=by
 unfold Jh9
 intros
 refine Ju (l:=l8) (z:=z8) (n:=Jac) (F:=Zu) (k:=k+1) rfl rfl ?hv ?_
 case hv=>rfl
 apply Jqn<;>first | assumption | exact Jte _ | omega
theorem JmT (k:Nat):JfS (JK l8 z8 (k+3)) ZL:=by
 unfold JfS
 intros
 refine Ju (l:=l8) (z:=z8) (n:=ZL) (F:=YV) (k:=k+2) rfl rfl ?hv ?_
 case hv=>rfl
 apply Jmr<;>first | assumption | exact JpV _ | omega
theorem Ji1 (k:Nat):JdL (JK l8 z8 (k+4)) YA:=by
 unfold JdL
 intros
 refine Ju (l:=l8) (z:=z8) (n:=YA) (F:=Y0) (k:=k+3) rfl rfl ?hv ?_
 case hv=>rfl
 apply JnX<;>first | assumption | exact JmT _ | omega
theorem Jqu (k:Nat):Jat (JK l8 z8 (k+2)) Jao:=by
 unfold Jat
 intros
 refine JC (l:=l8) (z:=z8) (n:=Jao) (F:=Zq) (k:=k+1) rfl ?_
 apply JqK<;>first | assumption | exact Jsj _ | omega
theorem JmD (k:Nat):JgM (JK l8 z8 (k+3)) ZI:=by
 unfold JgM
 intros
 refine JC (l:=l8) (z:=z8) (n:=ZI) (F:=Yz) (k:=k+2) rfl ?_
 apply JmM<;>first | assumption | exact Jqu _ | omega
theorem Jna (k:Nat):ZR (JK l8 z8 (k+4)) ZH:=by
 unfold ZR
 intros
 refine JC (l:=l8) (z:=z8) (n:=ZH) (F:=YQ) (k:=k+3) rfl ?_
 apply Jno<;>first | assumption | exact JmD _ | omega
theorem Jmp (k:Nat):Jf9 (JK l8 z8 (k+3)) YJ:=by
 unfold Jf9
 intros
 refine XX (l:=l8) (z:=z8) (n:=YJ) (F:=Xz) (k:=k+2) rfl ?_
 apply Jnb<;>first | assumption | exact Jt8 _ | exact Jtf _ | omega
theorem Jnf (k:Nat):JgB (JK l8 z8 (k+3)) YH:=by
 unfold JgB
 intros
 refine XX (l:=l8) (z:=z8) (n:=YH) (F:=XF) (k:=k+2) rfl ?_
 apply Jmo<;>first | assumption | exact Jt8 _ | exact Jtp _ | omega
theorem Jje (k:Nat):JdR (JK l8 z8 (k+4)) Wj:=by
 unfold JdR
 intros
 refine XX (l:=l8) (z:=z8) (n:=Wj) (F:=Xw) (k:=k+3) rfl ?_
 apply JmU<;>first | assumption | exact Jmp _ | omega
theorem JmL (k:Nat):JgZ (JK l8 z8 (k+4)) YE:=by
 unfold JgZ
 intros
 refine XX (l:=l8) (z:=z8) (n:=YE) (F:=Xl) (k:=k+3) rfl ?_
 apply JnV<;>first | assumption | exact Jnf _ | omega
theorem Jqi (k:Nat):JiB (JK l8 z8 (k+5)) Qv:=by
 unfold JiB
 intros
 refine XX (l:=l8) (z:=z8) (n:=Qv) (F:=Qw) (k:=k+4) rfl ?_
 apply JpA<;>first | assumption | exact Jje _ | omega
theorem JoR (k:Nat):Jij (JK l8 z8 (k+5)) Qd:=by
 unfold Jij
 intros
 refine XX (l:=l8) (z:=z8) (n:=Qd) (F:=Qy) (k:=k+4) rfl ?_
 apply Jqx<;>first | assumption | exact JmL _ | omega
theorem Jpa (k:Nat):Jiw (JK l8 z8 (k+5)) WV:=by
 unfold Jiw
 intros
 refine Ju (l:=l8) (z:=z8) (n:=WV) (F:=QW) (k:=k+4) rfl rfl ?hv ?_
 case hv=>rfl
 apply Jqv<;>first | assumption | exact Ji1 _ | omega
theorem Jsm (k:Nat):Jat (JK l8 z8 (k+1)) Zo:=by
 unfold Jat
 intros
 refine JC (l:=l8) (z:=z8) (n:=Zo) (F:=XV) (k:=k) rfl ?_
 apply JnU<;>first | assumption | omega
theorem Joq (k:Nat):Jat (JK l8 z8 (k+1)) Wd:=by
 unfold Jat
 intros
 refine JC (l:=l8) (z:=z8) (n:=Wd) (F:=Wl) (k:=k) rfl ?_
 apply JmO<;>first | assumption | omega
theorem Js2 (k:Nat):ZR (JK l8 z8 (k+2)) WZ:=by
 unfold ZR
 intros
 refine JC (l:=l8) (z:=z8) (n:=WZ) (F:=QR) (k:=k+1) rfl ?_
 apply JlI<;>first | assumption | exact Joq _ | omega
theorem JsE (k:Nat):ZR (JK l8 z8 (k+2)) Y7:=by
 unfold ZR
 intros
 refine JC (l:=l8) (z:=z8) (n:=Y7) (F:=Xc) (k:=k+1) rfl ?_
 apply Jk1<;>first | assumption | exact Jsm _ | omega
theorem JtB (k:Nat):JkE (JK l8 z8 (k+4)) Zk:=by
 unfold JkE
 intros
 refine JC (l:=l8) (z:=z8) (n:=Zk) (F:=X0) (k:=k+3) rfl ?_
 apply JrR<;>first | assumption | exact JkN _ | exact Joq _ | omega
theorem JrN (k:Nat):JkS (JK l8 z8 (k+5)) ZN:=by
 unfold JkS
 intros
 refine JC (l:=l8) (z:=z8) (n:=ZN) (F:=YT) (k:=k+4) rfl ?_
 apply JsJ<;>first | assumption | exact JtB _ | exact JkU _ | omega
theorem Jut (k:Nat):Jgq (JK l8 z8 (k+1)) ZT:=by
 unfold Jgq
 intros
 refine Ju (l:=l8) (z:=z8) (n:=ZT) (F:=YZ) (k:=k) rfl rfl ?hv (Jt.kf ?_)
 case hv=>rfl
 apply JmF<;>first | assumption | omega
theorem JtK (k:Nat):Jma (JK l8 z8 (k+6)) Yh:=by
 unfold Jma
 intros
 refine Ju (l:=l8) (z:=z8) (n:=Yh) (F:=WA) (k:=k+5) rfl rfl ?hv ?_
 case hv=>rfl
 apply Jq8<;>first | assumption | exact JrN _ | exact Jut _ | omega
theorem JnW (k:Nat):JgK (JK l8 z8 (k+3)) Jap:=by
 unfold JgK
 intros
 refine JC (l:=l8) (z:=z8) (n:=Jap) (F:=Zt) (k:=k+2) rfl ?_
 apply Jnx<;>first | assumption | exact Jjl _ | omega
theorem JuU (k:Nat):Jgv (JK l8 z8 (k+1)) Ql:=by
 unfold Jgv
 intros
 refine JaC (l:=l8) (z:=z8) (n:=Ql) (F:=JV) (k:=k) rfl ?_
 apply Jod<;>first | assumption | omega
theorem Jvh (k:Nat):JpO (JK l8 z8 (k+2)) Jbn:=by
 unfold JpO
 intros
 refine JC (l:=l8) (z:=z8) (n:=Jbn) (F:=JaL) (k:=k+1) rfl ?_
 apply Juj<;>first | assumption | exact JuU _ | omega
theorem Js1 (k:Nat):Jmb (JK l8 z8 (k+4)) Jal:=by
 unfold Jmb
 intros
 refine Ju (l:=l8) (z:=z8) (n:=Jal) (F:=Zw) (k:=k+3) rfl rfl ?hv ?_
 case hv=>rfl
 apply Jsw<;>first | assumption | exact JnW _ | exact Jvh _ | omega
theorem JpI (k:Nat):Jis (JK l8 z8 (k+7)) Y3:=by
 unfold Jis
 intros
 refine Ju (l:=l8) (z:=z8) (n:=Y3) (F:=Q5) (k:=k+6) rfl rfl ?hv ?_
 case hv=>rfl
 apply Jqh<;>first | assumption | exact JsQ _ | omega
theorem Jqf (k:Nat):Jh1 (JK l8 z8 (k+3)) YS:=by
 unfold Jh1
 intros
 refine Ju (l:=l8) (z:=z8) (n:=YS) (F:=Q4) (k:=k+2) rfl rfl ?hv ?_
 case hv=>rfl
 apply JoU<;>first | assumption | exact Jto _ | omega
section
variable {C:Tab}
theorem Jqy {a:AV} {xs:List (Zi×Bool)} {H:AH} (hs:Sx H eI a xs) (hc:Cl H a) (hn:xs.length≤1):Jt C QC [a] H (JdE a xs H):=by
 unfold Jt QC
 have ao:=hs.out
 obtain ⟨l1,l2⟩:=hs.len
 have h2:(xs.length:Int) < 2:=by omega
 simp -implicitDefEqProofs only [bU,reduceIte,Jc,reduceCtorEq,Ja,Jb,bT,Jd,Je,Jf,l1,l2,h2,ao,Jr,rsC,rsV,Js]
 refine ⟨.refl _,xs,.refl _,?_,hs,hc⟩
 match xs,h2 with
 | [],_=>exact Srt.nil
 | [x],_=>exact Srt.one
 | _::_::_,h2=>simp at h2;omega
end
theorem Jl2: ∀ (d k:Nat),d≤10→Jl3 (JK l8 z8 (k+(4+d))) WM (2 ^ d)
 | 0,k,_=>fun a xs H hs hc hn hV=>JC (l:=l8) (z:=z8) (n:=WM) (F:=QC) (k:=k+3) rfl (Jqy hs hc hn)
 | d+1,k,hd=>fun a xs H hs hc hn hV=>by
  have hp:2 ^ d≤1024:=Nat.le_trans (Nat.pow_le_pow_right (by decide) (by omega:d≤10)) (by decide)
  have hB:JmI (JK l8 z8 (k+(4+d))) QM:=by
   rw [show k+(4+d)=(k+1+d)+3 by omega];exact Jvk _
  exact JC (l:=l8) (z:=z8) (n:=WM) (F:=QC) (k:=k+(4+d)) rfl (JrC hp (Jl2 d k (by omega)) hB hs hc (by rw [Nat.pow_succ] at hn;omega) hV)
theorem Jqc (k:Nat):Jio (JK l8 z8 (k+5)) Yv:=by
 unfold Jio
 intros
 obtain ⟨v,H',h1,rfl,rfl⟩:=JC (l:=l8) (z:=z8) (n:=Yv) (F:=Jo) (k:=k+4) rfl (Jp3 (Jc3 _) (JuM _) (JsC _) (JlN _) ‹_› ‹_› ‹_› ‹_›)
 exact h1
theorem JuB (k:Nat):Jwv (JK l8 z8 (k+14)) Yb:=fun a l apex H hs hl hsz ha=>
 JC (l:=l8) (z:=z8) (n:=Yb) (F:=Jp) (k:=k+13) rfl (Jvn (JkO _) (Ju1 _) (Jc3 _) (JuL _) (Jpi _) (Jqc _) (Jl2 9 k (by decide)) (Juo _) hs hl hsz ha)
theorem Juy (k:Nat):Jrr (JK l8 z8 (k+15)) Yf:=fun z zs ds H h hz=>
 Ju (l:=l8) (z:=z8) (n:=Yf) (F:=WC) (k:=k+14) rfl rfl rfl (Jtx (Jlr _) (Jmn _) (JuB _) (Jnn _) h hz)
theorem Jlf:JaA l8 z8 where
 stable:=rfl
 isort:=rfl
 symM:=rfl
 rot:=rfl
 swapR:=rfl
 no n hn:=by
  simp only [List.mem_cons,List.not_mem_nil,or_false] at hn
  rcases hn with rfl | rfl | rfl | rfl | rfl | rfl<;>exact ⟨rfl,rfl⟩
theorem Jw5 (k:Nat):Jes (JK l8 z8 (k+21)):=Jpp (k0:=7) Jlf (by decide) (fun j hj=>by
 obtain ⟨j',rfl⟩: ∃ j',j=j'+7:=⟨j-7,by omega⟩
 exact JpI j') k
theorem JwI (k:Nat):Jgn (JK l8 z8 (k+17)):=Jpq (k0:=3) Jlf (by decide) (fun j hj=>by
 obtain ⟨j',rfl⟩: ∃ j',j=j'+3:=⟨j-3,by omega⟩
 exact Jqf j') k
theorem JuJ (k:Nat):JqX (JK l8 z8 (k+22)) Yc:=fun a l apex H hFo hs hl hsz ha=>
 Jn8 (l:=l8) (z:=z8) (n:=Yc) (F:=Jk) (k:=k+21) rfl (One.entry (Ju2 (Jkz _) (JiK _) (Jpd _) (Jd2 _) (Jkq _) (JhP _) (Jvc _) (JsT _) (Jm0 _) (JuI _) (Jw5 k) (JwI (k+4)) hFo hs hl hsz ha))
theorem Jvj (k:Nat):Jou (JK l8 z8 (k+23)) Yi:=fun z zs ds H hFo h hz=>
 Ju (l:=l8) (z:=z8) (n:=Yi) (F:=WH) (k:=k+22) rfl rfl rfl (Jq1 (Jjl _) (JuJ _) (JnK _) hFo h hz)
theorem Juh (k:Nat):Jt2 (JK l8 z8 (k+16)) QX:=fun z zs ds now H _ h hz=>
 JC (l:=l8) (z:=z8) (n:=QX) (F:=Qm) (k:=k+15) rfl (Ju5 (Juy _) (Jsa _) (Js2 _) (JtK _) h hz)
theorem JuF (k:Nat):Jt2 (JK l8 z8 (k+24)) Q3:=fun z zs ds now H hFo h hz=>
 JC (l:=l8) (z:=z8) (n:=Q3) (F:=Qr) (k:=k+23) rfl (JuD (Jvj _) (JiK _) (JsE _) (Js1 _) hFo h hz)
theorem q_law8 (k:Nat) (z:Zn) (zs:AV) (ds:List AV) (now:Int) (H:AH) (hFo:JR H) (h:ZS H zs z.s ds) (hp:Jrv z): ∃ H',JK l8 z8 (k+25) QB [.ag [.s z.a,zs],.i .i64 now] H=some (.b true,H')∧Ext H H':=
 XX (l:=l8) (z:=z8) (n:=QB) (F:=JM) (k:=k+24) rfl (JnL (JmJ _) (Jna _) (Juh _) (JuF _) (Jpa _) (Ji1 _) (Jje _) (Jqi _) (JoR _) hFo h hp)
theorem Jdi:Qi Go.Proofs.Tryz.prog WA 79=true:=by kernel_rfl
theorem JhH:Qi Go.Proofs.Tryz.prog Zw 84=true:=by kernel_rfl
theorem Jvg:Jow Go.Proofs.Tryz.prog l8:=⟨JdU,Jfa,Jdr,Jf7,Jf1,Jfq,JeB,Jd9,Je2,Jfk,Jg9,Jgc,Jgs,JeN,JeY,Jgk,Jde,Jd1,Jfo,JbB,Jcp,Jcu,JcC,Jen,Jdh,Jcs,Jb5,Jg6,Jf0,JgT,JeW,Jek,Jey,Jd8,Jbx,Jbz,Jfg,Jc1,Jb4,JeG,Jfj,JgD,Jhm,JaB,Jj1,Jcr,Jav,JbA,Jcl,Jbh,Jee,Jfr,Jdt,Jdo,Jbi,Ja7,ZJ,trivial⟩
theorem JuY:Jow Go.Proofs.Tryz.prog z8:=⟨Jdl,Jgz,JfW,Jex,Jig,Jeq,JeM,Jfi,JeA,JbS,Jfl,Jgo,JjJ,Je5,Jfn,Jeb,JbN,Jdf,JeE,JeD,Jcf,JcZ,Jgw,JeS,Jdj,Jga,JdX,Jc4,Jb8,JeF,Jds,Jdu,JhK,Jge,Jf6,Jhg,Jgp,JgJ,JcD,JgC,Jdi,JhH,Jb9,Jcd,Jdp,Jdc,trivial⟩
theorem x8_ok (k:Nat):Yj Go.Proofs.Tryz.prog (JK l8 z8 k):=Jl9 Jvg JuY mixed k
section
variable {P:Program} {w:World} {H:Type} {enc:TypeId×Value→H}
theorem JfE {ad:Addr} {n k:Nat} (hn:0 < n) {f:List Value→Option (DataW H×List MemPlace)} {z:DataW H×List MemPlace} (h:(w.cells? 0 (ad.add (0*k)) n).bind f=some z): ∃ b o,ad=⟨b,o,none⟩∧ ∃ c ty fz,w.heap[b]? =some (.cells c ty fz):=by
 cases hc:w.cells? 0 (ad.add (0*k)) n with
 | none=>rw [hc] at h;cases h
 | some vals=>
  obtain ⟨-,h1,h2⟩:=World.cells?_some hc
  have h3:=h2 0 hn
  have e:(ad.add (0*k)).add 0=ad:=by simp [Addr.add]
  rw [e,List.getElem?_eq_getElem (by omega)] at h3
  obtain ⟨b,o,sp⟩:=ad
  unfold World.cell? at h3
  split at h3
  ·rename_i c ty fz hb
   split at h3
   ·cases h3
   ·rename_i hs
    cases sp with
    | none=>exact ⟨b,o,rfl,c,ty,fz,hb⟩
    | some x=>exact absurd rfl hs
  ·cases h3
theorem Jjq {α:Type} {vf:α→AV} {z:Nat} {pre:α→Prop} {ρ:Rn} {cl:List Value}: ∀ (len off:Nat),off+len*z≤cl.length→
  (∀ i,i < len→ ∃ x,pre x∧JO (VA ρ) (vf x).cells ((cl.drop (off+i*z)).take z))→ ∃ l:List α,l.length=len∧(∀ x,x∈l→pre x)∧JO (VA ρ) (flat (l.map vf)) ((cl.drop off).take (len*z))
 | 0,off,_,_=>⟨[],rfl,by simp,by simp [flat,JO]⟩
 | len+1,off,hl,h=>by
  obtain ⟨x,hx,h1⟩:=h 0 (by omega)
  rw [Nat.zero_mul,Nat.add_zero] at h1
  have e1:(len+1)*z=z+len*z:=by rw [Nat.add_mul,Nat.one_mul,Nat.add_comm]
  obtain ⟨l,h2,h3,h4⟩:=Jjq (vf:=vf) (z:=z) (ρ:=ρ) (cl:=cl) (pre:=pre) len (off+z) (by omega) (fun i hi=>by
   have:=h (i+1) (by omega)
   rwa [Nat.add_mul,Nat.one_mul,←Nat.add_assoc,Nat.add_right_comm] at this)
  refine ⟨x::l,by simp [h2],fun y hy=>(List.mem_cons.1 hy).elim (fun e=>e▸hx) (h3 y),?_⟩
  rw [e1,List.map_cons]
  show JO (VA ρ) ((vf x).cells++flat (l.map vf)) _
  rw [List.take_add,List.drop_drop]
  exact JO.append h1 h4
theorem Fst.none0 {ρ:Rn} {H0:AH} (F:Fst P ρ H0 w) {b:Nat} {c:Array Value} {ty:TypeId} {fz:Nat×Nat} (hb:w.heap[b]? =some (.cells c ty fz)) (z:Nat) (ad:Addr): ∃ ρ' H',Fst P ρ' H' w∧ρ.Le ρ'∧Ext H0 H'∧VP ρ' (.sl H0.n 0 0) (.slice (some ad) 0 0)∧Sl H' z (.sl H0.n 0 0) []:=by
 obtain ⟨F',hle⟩:=F.row (o:=0) (z:=z) (xs:=[]) hb (by simp) (by simp) (by simp [flat,JO])
 exact ⟨_,_,F',hle,.new _ _,⟨⟨b,0,z,0,0,c.size⟩,by simp [Rn.addP],Nat.le_refl _,Nat.le_refl _,0,0,Nat.le_refl _,.inl (by simp),.inl rfl,ad,.inr rfl,rfl⟩,Sl.sl (els:=[]) (by simp) QD (by simp) rfl (by simp)⟩
theorem Jem {e:TypeId} {z n len cap:Nat} {ad:Addr} {elems rest:List (DataW H×List MemPlace)} (hz:0 < z) (hce:P.cellsOf e=z) (hcap:0 < cap) (h5:len≤cap) (h7:elems.length=len)
  (h8: ∀ i,i < len→(w.cells? 0 (ad.add (i*P.cellsOf e)) (P.cellsOf e)).bind (DataW.trod enc P w 0 (fun _=>true) true n e)=elems[i]?)
  (h9:rest.length=cap-len∧ ∀ j,j < cap-len→(w.cells? 0 (ad.add ((len+j)*P.cellsOf e)) (P.cellsOf e)).bind (DataW.trod enc P w 0 (fun _=>true) true n e)=rest[j]?):
  ∃ b off,ad=⟨b,off,none⟩∧ ∃ c ty fz,w.heap[b]? =some (.cells c ty fz)∧off+cap*z≤c.size∧ ∀ i,i < cap→ ∃ y,DataW.trod enc P w 0 (fun _=>true) true n e ((c.toList.drop (off+i*z)).take z)=some y:=by
 obtain ⟨b,off,rfl,c,ty,fz,hb⟩: ∃ b o,ad=⟨b,o,none⟩∧ ∃ c ty fz,w.heap[b]? =some (.cells c ty fz):=by
  rcases Nat.eq_zero_or_pos len with h0 | h0
  ·subst h0
   have:=h9.2 0 (by omega)
   rw [List.getElem?_eq_getElem (by omega)] at this
   exact JfE (k:=P.cellsOf e) (by omega) this
  ·have:=h8 0 h0
   rw [List.getElem?_eq_getElem (by omega)] at this
   exact JfE (k:=P.cellsOf e) (by omega) this
 rw [hce] at h8 h9
 simp only [Jba] at h8 h9
 have key: ∀ o y,(w.cells? 0 ⟨b,o,none⟩ z).bind (DataW.trod enc P w 0 (fun _=>true) true n e)=some y→(∃ y,DataW.trod enc P w 0 (fun _=>true) true n e ((c.toList.drop o).take z)=some y)∧o+z≤c.size:=by
  intro o y hy
  cases hc:w.cells? 0 ⟨b,o,none⟩ z with
  | none=>rw [hc] at hy;cases hy
  | some vals=>
   rw [hc] at hy
   obtain ⟨k1,k2⟩:=Jn7 hb hc hz
   subst k1
   exact ⟨⟨_,hy⟩,k2⟩
 have hcell: ∀ i,i < cap→(∃ y,DataW.trod enc P w 0 (fun _=>true) true n e ((c.toList.drop (off+i*z)).take z)=some y)∧off+i*z+z≤c.size:=by
  intro i hi
  rcases Nat.lt_or_ge i len with hl | hl
  ·exact key _ _ ((h8 i hl).trans (List.getElem?_eq_getElem (by omega)))
  ·have:=h9.2 (i-len) (by omega)
   rw [show len+(i-len)=i by omega] at this
   exact key _ _ (this.trans (List.getElem?_eq_getElem (by omega)))
 refine ⟨b,off,rfl,c,ty,fz,hb,?_,fun i hi=>(hcell i hi).1⟩
 have:=(hcell (cap-1) (by omega)).2
 have e:cap*z=(cap-1)*z+z:=by
  conv=>lhs;rw [show cap=(cap-1)+1 by omega]
  rw [Nat.add_mul,Nat.one_mul]
 omega
theorem Fst.lay {ρ:Rn} {H0:AH} (F:Fst P ρ H0 w) {b off z len cap:Nat} {c:Array Value} {ty:TypeId} {fz:Nat×Nat} {xs:List AV} (hb:w.heap[b]? =some (.cells c ty fz)) (hz: ∀ x,x∈xs→x.cells.length=z) (hlen:xs.length=len) (h5:len≤cap) (hsz:off+cap*z≤c.size)
  (hrel:JO (VA ρ) (flat xs) ((c.toList.drop off).take (len*z))): ∃ ρ' H',Fst P ρ' H' w∧ρ.Le ρ'∧Ext H0 H'∧VP ρ' (.sl H0.n 0 len) (.slice (some ⟨b,off,none⟩) len cap)∧Sl H' z (.sl H0.n 0 len) xs:=by
 have hlc:len*z≤cap*z:=Nat.mul_le_mul_right _ h5
 obtain ⟨F',hle⟩:=F.row (o:=off) (z:=z) (xs:=xs) hb hz (by rw [hlen];omega) (by rw [hlen];exact hrel)
 refine ⟨_,_,F',hle,.new _ _,?_,?_⟩
 ·exact ⟨⟨b,off,z,0,xs.length,c.size⟩,by simp [Rn.addP],Nat.le_refl _,by simp [hlen],off,cap,h5,.inl (by simp),.inr hsz,_,.inl rfl,rfl⟩
 ·have:=Sl.sl (H:=H0.new (.arr false 0 z xs)) (z:=z) (id:=H0.n) (ix:=0) (els:=xs) (by simp) QD (by simp) (by rw [List.drop_zero,List.take_length]) (by simp)
  rwa [hlen] at this
theorem Fst.texts {ρ:Rn} {H0:AH} (F:Fst P ρ H0 w) {b0:Nat} {c0:Array Value} {ty0:TypeId} {fz0:Nat×Nat} (hlive:w.heap[b0]? =some (.cells c0 ty0 fz0)) {t e:TypeId} (ht:P.underlying t=some (.slice e)) (he:P.underlying e=some .string) (hce:P.cellsOf e=1) {fuel:Nat} {v:Value} {y:DataW H×List MemPlace}
  (hd:DataW.trod enc P w 0 (fun _=>true) true fuel t [v]=some y): ∃ ρ' H' a,∃ l:List (List UInt8),Fst P ρ' H' w∧ρ.Le ρ'∧Ext H0 H'∧VP ρ' a v∧Sl H' 1 a (l.map AV.s)∧l.length≤9223372036854775807∧ ∀ x,x∈l→x.length≤9223372036854775807:=by
 rcases DataW.trod_slice ht hd with ⟨h1,-⟩ | ⟨ad,len,cap,elems,rest,n,-,h2,-,-,h5,h6,h7,h8,h9,-⟩
 ·cases h1
  exact ⟨ρ,H0,.ns,[],F,.refl ρ,.refl H0,(show VP ρ .ns _ from rfl),Sl.nil,by simp,by simp⟩
 ·have hv:=List.singleton_inj.1 h2
  subst hv
  rcases Nat.eq_zero_or_pos cap with hc | hc
  ·subst hc
   obtain rfl:len=0:=by omega
   obtain ⟨ρ',H',k1,k2,k3,k4,k5⟩:=F.none0 hlive 1 ad
   exact ⟨ρ',H',_,[],k1,k2,k3,k4,k5,by simp,by simp⟩
  ·obtain ⟨b,off,rfl,c,ty,fz,hb,hsz,hel⟩:=Jem (by decide) hce hc h5 h7 h8 (h9 rfl)
   have hml:len≤9223372036854775807:=by unfold maxLen at h6;omega
   obtain ⟨l,k1,k2,k3⟩:=Jjq (vf:=AV.s) (z:=1) (pre:=fun x=>x.length≤9223372036854775807) (ρ:=ρ) (cl:=c.toList) len off (by simp;omega) (fun i hi=>by
    obtain ⟨y,hy⟩:=hel i (by omega)
    obtain ⟨s,hs,-,hsl⟩:=DataW.trod_string he hy
    have hs':s.data.size≤maxLen:=hsl
    refine ⟨s.data.toList,by unfold maxLen at hs';simp only [Array.length_toList];omega,?_⟩
    rw [hs]
    exact ⟨(show VP ρ (.s s.data.toList) _ from rfl),trivial⟩)
   obtain ⟨ρ',H',q1,q2,q3,q4,q5⟩:=F.lay (xs:=l.map AV.s) hb (fun x hx=>by
    obtain ⟨y,-,rfl⟩:=List.mem_map.1 hx
    rfl) (by rw [List.length_map,k1]) h5 hsz k3
   exact ⟨ρ',H',_,l,q1,q2,q3,q4,q5,by omega,k2⟩
theorem Js4 {base:Nat} {t:TypeId} {cs:Array Value} {ts:List TypeId} (h:Row.okWide P w .any base t cs) (hts:P.cellTypes P.depth t=some ts) (hsz:cs.size=ts.length): ∀ (i:Nat) (v:Value) (u:TypeId),cs[i]? =some v→ts[i]? =some u→Cell.okWide P w .any base u v:=by
 obtain ⟨ts',h1,-,h3⟩:=h
 rw [hts] at h1
 cases h1
 intro i v u hv hu
 obtain ⟨u',h4,h5⟩:=h3 i v hv
 have hi:=(List.getElem?_eq_some_iff.1 hu).1
 rw [Nat.mod_eq_of_lt hi,hu] at h4
 cases h4
 exact h5
structure ZoneTy (P:Program) (tZ tR tS tD:TypeId):Prop where
 fZ: ∃ f0 f1:Field,P.underlying tZ=some (.struct #[f0,f1])∧(P.underlying f0.type=some .string∧f0.offset=0∧P.cellsOf f0.type=1)∧(f1.type=tR∧f1.offset=1)
 cZ:P.cellsOf tZ=2
 uR:P.underlying tR=some (.slice tS)
 cR:P.cellsOf tR=1
 fS: ∃ f0 f1 f2 f3:Field,P.underlying tS=some (.struct #[f0,f1,f2,f3])∧(P.underlying f0.type=some .string∧f0.offset=0∧P.cellsOf f0.type=1)∧(P.underlying f1.type=some (.int .i64)∧f1.offset=1∧P.cellsOf f1.type=1)∧(P.underlying f2.type=some (.int .i64)∧f2.offset=2∧P.cellsOf f2.type=1)∧(f3.type=tD∧f3.offset=3)
 cS:P.cellsOf tS=4
 uD: ∃ e,P.underlying tD=some (.slice e)∧P.underlying e=some .string∧P.cellsOf e=1
 cD:P.cellsOf tD=1
 ts: ∃ ts,P.cellTypes P.depth tZ=some ts∧ts.length=2∧ts[1]? =some tR
theorem Fst.set {ρ:Rn} {H0:AH} (F:Fst P ρ H0 w) {b0:Nat} {c0:Array Value} {ty0:TypeId} {fz0:Nat×Nat} (hlive:w.heap[b0]? =some (.cells c0 ty0 fz0)) {tZ tR tS tD:TypeId} (T:ZoneTy P tZ tR tS tD) {fuel:Nat} {cs:List Value} {y:DataW H×List MemPlace} (hd:DataW.trod enc P w 0 (fun _=>true) true fuel tS cs=some y):
  ∃ ρ' H',∃ (s:Qa) (d:AV),Fst P ρ' H' w∧ρ.Le ρ'∧Ext H0 H'∧JO (VA ρ') (sV s d).cells cs∧Sl H' 1 d (s.d.map AV.s)∧JpB s:=by
 obtain ⟨f0,f1,f2,f3,hS,⟨a0,o0,z0⟩,⟨a1,o1,z1⟩,⟨a2,o2,z2⟩,⟨a3,o3⟩⟩:=T.fS
 obtain ⟨e,uD,ue,ce⟩:=T.uD
 obtain ⟨y0,y1,y2,y3,n,-,hl,g0,g1,g2,g3⟩:=Go.Joins.trod_struct4 hS hd
 rw [T.cS] at hl
 obtain ⟨c0',c1,c2,c3,rfl⟩: ∃ c0 c1 c2 c3,cs=[c0,c1,c2,c3]:=by
  match cs,hl with
  | [c0,c1,c2,c3],_=>exact ⟨c0,c1,c2,c3,rfl⟩
 rw [o0,z0] at g0
 rw [o1,z1] at g1
 rw [o2,z2] at g2
 rw [o3,a3,T.cD] at g3
 simp only [List.drop_zero,List.drop_succ_cons,List.take_succ_cons,List.take_zero] at g0 g1 g2 g3
 obtain ⟨s,hs,-,hsl⟩:=DataW.trod_string a0 g0
 obtain ⟨m1,hm1,-,-⟩:=DataW.trod_int a1 g1
 obtain ⟨m2,hm2,-,-⟩:=DataW.trod_int a2 g2
 obtain rfl:=List.singleton_inj.1 hs
 obtain rfl:=List.singleton_inj.1 hm1
 obtain rfl:=List.singleton_inj.1 hm2
 have hs':s.data.size≤maxLen:=hsl
 obtain ⟨ρ',H',d,l,q1,q2,q3,q4,q5,q6,q7⟩:=F.texts hlive uD ue ce g3
 refine ⟨ρ',H',⟨s.data.toList,m1,m2,l⟩,d,q1,q2,q3,⟨(show VP ρ' (.s s.data.toList) _ from rfl),rfl,rfl,VA.of q4,trivial⟩,q5,⟨?_,q6,q7⟩⟩
 unfold maxLen at hs'
 simp only [Array.length_toList]
 omega
theorem Fst.sets {b0:Nat} {c0:Array Value} {ty0:TypeId} {fz0:Nat×Nat} (hlive:w.heap[b0]? =some (.cells c0 ty0 fz0)) {tZ tR tS tD:TypeId} (T:ZoneTy P tZ tR tS tD) {n:Nat} {cl:List Value}: ∀ (len off:Nat) {ρ:Rn} {H0:AH},Fst P ρ H0 w→off+len*4≤cl.length→
  (∀ i,i < len→ ∃ y,DataW.trod enc P w 0 (fun _=>true) true n tS ((cl.drop (off+i*4)).take 4)=some y)→
  ∃ ρ' H',∃ (sets:List Qa) (ds:List AV),Fst P ρ' H' w∧ρ.Le ρ'∧Ext H0 H'∧sets.length=len∧ds.length=len∧(∀ s,s∈sets→JpB s)∧(∀ i (h:i < sets.length) (h2:i < ds.length),Sl H' 1 ds[i] (sets[i].d.map AV.s))∧JO (VA ρ') (flat (List.zipWith sV sets ds)) ((cl.drop off).take (len*4))
 | 0,off,ρ,H0,F,_,_=>⟨ρ,H0,[],[],F,.refl ρ,.refl H0,rfl,rfl,by simp,fun i h=>absurd h (Nat.not_lt_zero _),by simp [flat,JO]⟩
 | len+1,off,ρ,H0,F,hl,h=>by
  obtain ⟨y,hy⟩:=h 0 (by omega)
  rw [Nat.zero_mul,Nat.add_zero] at hy
  obtain ⟨ρ1,H1,s,d,F1,le1,e1,r1,b1,p1⟩:=F.set hlive T hy
  obtain ⟨ρ2,H2,sets,ds,F2,le2,e2,k1,k2,k3,k4,k5⟩:=Fst.sets hlive T (n:=n) (cl:=cl) len (off+4) F1 (by omega) (fun i hi=>by
   have:=h (i+1) (by omega)
   rwa [Nat.add_mul,Nat.one_mul,←Nat.add_assoc,Nat.add_right_comm] at this)
  refine ⟨ρ2,H2,s::sets,d::ds,F2,le1.trans le2,e1.trans e2,by simp [k1],by simp [k2],fun x hx=>(List.mem_cons.1 hx).elim (fun e=>e▸p1) (k3 x),fun i h1 h2=> ?_,?_⟩
  ·match i,h1,h2 with
   | 0,_,_=>exact Sl.ext b1 e2
   | i+1,h1,h2=>exact k4 i (by simpa using h1) (by simpa using h2)
  ·rw [show (len+1)*4=4+len*4 by omega,List.zipWith_cons_cons]
   show JO (VA ρ2) ((sV s d).cells++flat (List.zipWith sV sets ds)) _
   rw [List.take_add,List.drop_drop]
   exact JO.append (r1.mono fun _ _=>VA.mono le2) k5
theorem Fst.zone {base:Nat} {ρ0:Rn} {H0:AH} (F:Fst P ρ0 H0 w) {tZ tR tS tD:TypeId} (T:ZoneTy P tZ tR tS tD) {v:Value} {d:DataW H} {ps:List MemPlace}
  (hval:Value.okWide P w .any base tZ v) (hd:DataW.Trod enc P w 0 (fun _=>true) true tZ v d ps):
  ∃ ρ Hh,∃ (zs:AV) (ds:List AV) (z:Zn),Fst P ρ Hh w∧ρ0.Le ρ∧Ext H0 Hh∧V1 ρ (.ag [.s z.a,zs]) v∧ZS Hh zs z.s ds∧Jrv z:=by
 obtain ⟨f0,f1,hZ,⟨a0,o0,z0⟩,⟨a1,o1⟩⟩:=T.fZ
 unfold Value.okWide at hval
 rw [hZ] at hval
 obtain ⟨cs,rfl,hsz,hrow⟩:=hval
 obtain ⟨fuel,hd⟩:=hd
 have hd':DataW.trod enc P w 0 (fun _=>true) true fuel tZ cs.toList=some (d,ps):=hd
 obtain ⟨y0,y1,n,-,hl,g0,g1⟩:=Go.ChangeShapes.trod_struct2 hZ hd'
 rw [T.cZ] at hl
 obtain ⟨c0,c1,rfl⟩: ∃ c0 c1,cs= #[c0,c1]:=by
  obtain ⟨l⟩:=cs
  match l,hl with
  | [c0,c1],_=>exact ⟨c0,c1,rfl⟩
 rw [o0,z0] at g0
 rw [o1,a1,T.cR] at g1
 simp only [List.drop_zero,List.drop_succ_cons,List.take_succ_cons,List.take_zero] at g0 g1
 obtain ⟨s,hs,-,hsl⟩:=DataW.trod_string a0 g0
 obtain rfl:=List.singleton_inj.1 hs
 have hs':s.data.size≤maxLen:=hsl
 have hs2:s.data.toList.length≤9223372036854775807:=by
  unfold maxLen at hs'
  simp only [Array.length_toList]
  omega
 rcases DataW.trod_slice T.uR g1 with ⟨h1,-⟩ | ⟨ad,len,cap,elems,rest,n',-,h2,-,-,h5,h6,h7,h8,h9,-⟩
 ·obtain rfl:=List.singleton_inj.1 h1
  refine ⟨ρ0,H0,.ns,[],⟨s.data.toList,[]⟩,F,.refl ρ0,.refl H0,⟨_,rfl,(show VP ρ0 (.s s.data.toList) _ from rfl),VA.of (show VP ρ0 .ns _ from rfl),trivial⟩,⟨Sl.nil,rfl,fun i h=>absurd h (Nat.not_lt_zero _)⟩,⟨hs2,by simp,by simp⟩⟩
 ·obtain rfl:=List.singleton_inj.1 h2
  have hml:len≤9223372036854775807:=by unfold maxLen at h6;omega
  rcases Nat.eq_zero_or_pos cap with hc | hc
  ·subst hc
   obtain rfl:len=0:=by omega
   obtain ⟨ts,hts,htl,t1⟩:=T.ts
   have hval:=Js4 hrow hts (by simp [htl]) 1 (.slice (some ad) 0 0) tR (by simp) t1
   simp only [Cell.okWide,T.uR,Cell.ok] at hval
   obtain ⟨-,-,-,-,row,cells,hsh,-⟩:=hval
   obtain ⟨c,ty,fz,hb⟩: ∃ c ty fz,w.heap[ad.block]? =some (.cells c ty fz):=by
    unfold World.shape? at hsh
    split at hsh
    ·rename_i c ty fz hb;exact ⟨c,ty,fz,hb⟩
    ·cases hsh
   obtain ⟨ρ',H',k1,k2,k3,k4,k5⟩:=F.none0 hb 4 ad
   exact ⟨ρ',H',_,[],⟨s.data.toList,[]⟩,k1,k2,k3,⟨_,rfl,(show VP ρ' (.s s.data.toList) _ from rfl),VA.of k4,trivial⟩,⟨k5,rfl,fun i h=>absurd h (Nat.not_lt_zero _)⟩,⟨hs2,by simp,by simp⟩⟩
  ·obtain ⟨b,off,rfl,c,ty,fz,hb,hsz2,hel⟩:=Jem (by decide) T.cS hc h5 h7 h8 (h9 rfl)
   obtain ⟨ρ1,H1,sets,ds,F1,le1,e1,k1,k2,k3,k4,k5⟩:=Fst.sets hb T (n:=n') (cl:=c.toList) len off F (by simp;omega) (fun i hi=>hel i (by omega))
   obtain ⟨ρ',H',q1,q2,q3,q4,q5⟩:=F1.lay (xs:=List.zipWith sV sets ds) hb (fun x hx=>by
    obtain ⟨i,hi,rfl⟩:=List.mem_iff_getElem.1 hx
    simp only [List.getElem_zipWith]
    rfl) (by simp [k1,k2]) h5 hsz2 k5
   exact ⟨ρ',H',_,ds,⟨s.data.toList,sets⟩,q1,le1.trans q2,e1.trans q3,⟨_,rfl,(show VP ρ' (.s s.data.toList) _ from rfl),VA.of q4,trivial⟩,⟨q5,by rw [k1,k2],fun i h1 h2=>Sl.ext (k4 i h1 h2) q3⟩,⟨hs2,by show sets.length≤_;omega,k3⟩⟩
end
open Go.ChangeShapes Go.WideShapes Go.ChangeAt Go.RowKit Go.WideElems
def Jjo {H:Type}:List (Lit×DataW H):=JfA.map fun e=>(.int .i64 e.1,.lit (.string e.2))
theorem gForms_at:Go.Proofs.Tryz.prog.globalNamed "loop.example/s01858/impl.forms" =some 1:=by kernel_rfl
theorem tForms_at:(Go.Proofs.Tryz.prog.globals[1]?).map (·.type)=some 298:=by kernel_rfl
theorem JhZ: ∀ e e',e∈Jau→e'∈Jau→e.1.toI=e'.1.toI→e.2=e'.2:=by
 intro e e' h h' hh
 have: ∀ e∈Jau,∀ e'∈Jau,e.1.toI=e'.1.toI→e.2=e'.2:=by
  intro e he e' he'
  simp only [Jau,JfA,List.map_cons,List.map_nil,List.mem_cons,List.not_mem_nil,or_false] at he he'
  rcases he with rfl | rfl | rfl | rfl | rfl | rfl | rfl | rfl | rfl | rfl | rfl | rfl | rfl | rfl<;>
  rcases he' with rfl | rfl | rfl | rfl | rfl | rfl | rfl | rfl | rfl | rfl | rfl | rfl | rfl | rfl<;>
  first | exact fun _=>rfl | (intro h;exact absurd h (by decide))
 exact this e h e' h' hh
theorem Jj3 {Hh:Type} {enc:TypeId×Value→Hh} {W:World} {sp:Nat→Bool} {held:Bool} {fuel:Nat} {cs:List Value} {p:List MemPlace}
  (hd:DataW.trod enc Go.Proofs.Tryz.prog W 0 sp held fuel 298 cs=some (.map Jjo,p)):
  ∃ b es clk,cs=[.map (some b)]∧W.heap[b]? =some (.map es clk)∧ ∃ ls:List (AV×AV),(∀ ρ,JO (JhU ρ) ls es.toList)∧(∀ e,e∈ls→e∈Jau)∧(∀ e,e∈Jau→e∈ls):=by
 rcases open_map Go.Proofs.Tryz.underlying298 hd with ⟨_,hx⟩ | ⟨b,es,clk,m,rfl,rfl,hb,_,F,hx⟩
 ·cases hx
 simp only [Prod.mk.injEq,DataW.map.injEq] at hx
 have hmem: ∀ y,y∈es.toList.map (rg Go.Proofs.Tryz.prog 2 (elemAt enc Go.Proofs.Tryz.prog W 0 sp held m 9))↔y∈Jjo:=fun y=>by rw [hx.1];exact Go.mem_sorted.symm
 have one: ∀ x,x∈es.toList→ ∃ e,e∈JfA∧rg Go.Proofs.Tryz.prog 2 (elemAt enc Go.Proofs.Tryz.prog W 0 sp held m 9) x=(.int .i64 e.1,.lit (.string e.2))∧x.key= .int .i64 e.1∧x.val= .string ⟨e.2.toArray⟩:=by
  intro x hxe
  obtain ⟨y,hy⟩:=F.reads x hxe
  have hrg:=rg_of hy
  have:=(hmem y).1 (hrg▸List.mem_map_of_mem hxe)
  obtain ⟨e,he,rfl⟩:=List.mem_map.1 this
  have hk:=rd_key hy
  obtain ⟨z,hz,hz2⟩:=rd_val hy
  refine ⟨e,he,hrg,?_,?_⟩
  ·unfold keyOf at hk
   rw [Go.Proofs.Tryz.underlying2] at hk
   simp only at hk
   unfold mapKey at hk
   rw [Go.Proofs.Tryz.underlying2] at hk
   generalize x.key=kv at hk
   cases kv<;>simp at hk
   obtain ⟨⟨rfl,-⟩,rfl⟩:=hk
   rfl
  ·unfold elemAt at hz
   split at hz
   ·rename_i hf
    obtain ⟨s,hs,hs2,-⟩:=DataW.trod_string Go.Proofs.Tryz.underlying9 hz
    subst hs2
    have hv:x.val= .string s:=by
     generalize x.val=v at hs hf
     cases v<;>simp [Value.formed,Go.Proofs.Tryz.underlying9,Value.cells] at hf hs
     subst hs;rfl
    simp only [DataW.lit.injEq,Lit.string.injEq] at hz2
    rw [hv,hz2]
   ·cases hz
 let φ:MapEntry→AV×AV:=fun x=>(.i .i64 (match x.key with | .int _ n=>n | _=>0),.s (match x.val with | .string s=>s.data.toList | _=>[]))
 have hφ: ∀ x,x∈es.toList→ ∃ e,e∈JfA∧rg Go.Proofs.Tryz.prog 2 (elemAt enc Go.Proofs.Tryz.prog W 0 sp held m 9) x=(.int .i64 e.1,.lit (.string e.2))∧φ x=(.i .i64 e.1,.s e.2)∧ ∀ ρ,JhU ρ (φ x) x:=by
  intro x hxe
  obtain ⟨e,h1,h2,h3,h4⟩:=one x hxe
  have hp:φ x=(.i .i64 e.1,.s e.2):=by simp only [φ,h3,h4]
  refine ⟨e,h1,h2,hp,fun ρ=> ?_⟩
  rw [hp]
  exact ⟨(show x.key=_ from h3),(show x.val=_ from h4)⟩
 refine ⟨b,es,clk,rfl,hb,es.toList.map φ,fun ρ=> ?_,fun e he=> ?_,fun e he=> ?_⟩
 ·rw [JO.map]
  have: ∀ l:List MapEntry,(∀ x,x∈l→x∈es.toList)→JO (fun x y=>JhU ρ (φ x) y) l l:=by
   intro l
   induction l with
   | nil=>intro _;trivial
   | cons x l ih=>
    intro h
    obtain ⟨e,-,-,-,h4⟩:=hφ x (h x (by simp))
    exact ⟨h4 ρ,ih fun y hy=>h y (by simp [hy])⟩
  exact this _ fun x hx=>hx
 ·obtain ⟨x,hxe,rfl⟩:=List.mem_map.1 he
  obtain ⟨e,h1,-,h3,-⟩:=hφ x hxe
  rw [h3]
  exact List.mem_map.2 ⟨e,h1,rfl⟩
 ·obtain ⟨e0,h0,rfl⟩:=List.mem_map.1 he
  have:((.int .i64 e0.1,.lit (.string e0.2)):Lit×DataW Hh)∈Jjo:=List.mem_map.2 ⟨e0,h0,rfl⟩
  obtain ⟨x,hxe,hrx⟩:=List.mem_map.1 ((hmem _).2 this)
  obtain ⟨e,h1,h2,h3,-⟩:=hφ x hxe
  rw [hrx] at h2
  simp only [Prod.mk.injEq,Lit.int.injEq,DataW.lit.injEq,Lit.string.injEq,true_and] at h2
  refine List.mem_map.2 ⟨x,hxe,?_⟩
  rw [h3,h2.1,h2.2]
theorem forms_first {laid:List (String×DataW Unit)} {W:World} (hl:laid=[("loop.example/s01858/impl.forms",.map Jjo)]) (hL:laidMetH Go.Proofs.Tryz.prog laid W):
  ∃ ρ H,Fst Go.Proofs.Tryz.prog ρ H W∧JR H:=by
 subst hl
 rw [MakeChecks.laidMetH_plain _ _ _ rfl] at hL
 obtain ⟨ps,⟨g,t,cs,f0,p0,q0,hg,ht,hv,hd,_,_⟩,_,_⟩:=hL
 obtain rfl:=Option.some.inj (gForms_at.symm.trans hg)
 obtain rfl:=Option.some.inj (tForms_at.symm.trans ht)
 obtain ⟨b,es,clk,hcs,hb,ls,h1,h2,h3⟩:=Jj3 hd
 obtain ⟨ty,fz,hg1⟩: ∃ ty fz,W.heap[1]? =some (.cells cs ty fz):=by
  unfold World.var? at hv
  rw [hg] at hv
  simp only [Option.bind_some] at hv
  split at hv
  ·rename_i c ty fz hc
   cases hv
   exact ⟨ty,fz,hc⟩
  ·cases hv
 have hG:1 < Go.Proofs.Tryz.prog.globals.size:=by
  cases h:Go.Proofs.Tryz.prog.globals[1]? with
  | none=>rw [h] at ht;cases ht
  | some x=>exact (Array.getElem?_eq_some_iff.1 h).1
 obtain ⟨F1,le1⟩:=(Fst.first1 (P:=Go.Proofs.Tryz.prog) (w:=W) fun _=>cs.size).map hb (h1 _)
 obtain ⟨F2,le2⟩:=F1.glob1 (g:=1) (x:= .mp Go.Proofs.Tryz.prog.globals.size) (show 1 < Go.Proofs.Tryz.prog.globals.size+1 by omega) (by simp only [Rn.addO,rn1];rw [if_pos hG]) hg1 hcs ⟨b,by simp [Rn.addO],rfl⟩
 refine ⟨_,_,F2,⟨false,Go.Proofs.Tryz.prog.globals.size,ls,Z9,?_,(show 1 < Go.Proofs.Tryz.prog.globals.size+1 by omega),(show Go.Proofs.Tryz.prog.globals.size < Go.Proofs.Tryz.prog.globals.size+1 by omega),fun e he=> ?_,fun t=> ?_⟩⟩
 ·rw [XQ (by omega)]
  exact QD (H:=⟨Go.Proofs.Tryz.prog.globals.size,fun _=> .no⟩)
 ·obtain ⟨e0,-,rfl⟩:=List.mem_map.1 (h2 e he)
  rfl
 ·refine Jh8 h2 h3 fun e e' he he' hk hk'=>JhZ e e' he he' ?_
  obtain ⟨e0,-,rfl⟩:=List.mem_map.1 he
  obtain ⟨e1,-,rfl⟩:=List.mem_map.1 he'
  simp only [AV.cells,JW,ZF,Bool.and_true,decide_eq_true_eq] at hk hk'
  simp only [AV.toI]
  omega
end Go.Vm
