import Derived.Test.YtgoalfkgbiblgaaGreatDoorKa4
import Derived.Test.YtgoalfkgbiblgaaGreatDoorKa8
import Derived.Test.YtgoalfkgbiblgaaGreatDoorKa3
import Derived.Test.YtgoalfkgbiblgaaGreatDoorProg
import Derived.KernelRfl
/- The specification's zone out of records: items made, items kept. -/
set_option linter.unusedVariables false
set_option linter.unusedSimpArgs false
set_option maxRecDepth 100000
open Nat renaming reduceAdd→Ja,reduceLT→Jb,reduceEqDiff→Jc,reduceSub→Je,reduceLeDiff→Jg
open Int renaming reduceToNat→Jd,reduceLE→Jf
namespace Go.Vm
def z0V:AV:= .ag [.s [],.ns]
theorem Jny (l:List Rr):Jdq (l.map zi) (fun _=>false)=l.map fun r=>(zi r,false):=by
 apply List.ext_getElem (by simp [Jdq])
 intro i h1 h2
 rw [JaU]
 have hi:i < l.length:=by simpa [Jdq] using h1
 rw [Z5 (by simpa using hi)]
 simp
theorem JgI {H:AH} {a:AV} {l:List Rr} (h:Sx H eR a l) {i:Nat} (hi:i < l.length):slZ H 5 a∧iaC (i:Int) a∧faC (iaV i a)∧(∀ (L:List Lv) (g:Nat),ldC ⟨L,g,H⟩ (some 5) (iaV i a))∧(∀ (L:List Lv) (g:Nat),ldX ⟨L,g,H⟩ (some 5) (iaV i a)=eR.v l[i])∧
  (∀ (o:Nat) (L:List Lv) (g:Nat),o < 5→ldC ⟨L,g,H⟩ none (faV o (iaV i a)))∧(∀ (L:List Lv) (g:Nat),ldX ⟨L,g,H⟩ none (faV 0 (iaV i a))= .s l[i].o)∧(∀ (L:List Lv) (g:Nat),ldX ⟨L,g,H⟩ none (faV 1 (iaV i a))= .i .i64 l[i].t)∧
  (∀ (L:List Lv) (g:Nat),ldX ⟨L,g,H⟩ none (faV 2 (iaV i a))= .i .i64 l[i].c)∧(∀ (L:List Lv) (g:Nat),ldX ⟨L,g,H⟩ none (faV 3 (iaV i a))= .i .i64 l[i].ttl)∧(∀ (L:List Lv) (g:Nat),ldX ⟨L,g,H⟩ none (faV 4 (iaV i a))= .s l[i].d):=by
 obtain ⟨z1,z2,z3,z4⟩:=Sx.at' h hi
 have fd:=fun off (ho:off < 5)=>Sx.fdn (z:=5) h rfl hi (off:=off) ho
 exact ⟨z1,z2,(fd 0 (by decide)).2.2.1,z3,z4,fun o L g ho=>(fd o ho).2.2.2.1 L g,(fd 0 (by decide)).2.2.2.2,(fd 1 (by decide)).2.2.2.2,(fd 2 (by decide)).2.2.2.2,(fd 3 (by decide)).2.2.2.2,(fd 4 (by decide)).2.2.2.2⟩
section
variable {C:Tab} {l:List Rr} {a:AV} {apex:List UInt8} {H:AH} {e:Env} {L0:List Lv} {g:Nat} {κ:Jaa}
theorem Jkt (s:List UInt8):(Jq s).length≤s.length:=by
 cases h:JB s with
 | none=>rw [JcU h];simp
 | some a=>rw [Xh h];simp [Zz]
set_option maxHeartbeats 2000000 in
theorem Jva (hs:Sx H eR a l) (hl:l.length≤500) (hO:JmG C YR) (hF:Jbk C Qn) (hD:Jnu C Xi) (hsz: ∀ r,r∈l→r.o.length≤1099511627776∧r.d.length≤1099511627776) (ha:apex.length≤1099511627776)
  {H1:AH} {o:AV} (he:Ext H H1) (hm:Mx H1 eI o []) (hcl:Cl H1 o) (hid: ∀ j,j∈idA o→H.n≤j)
  (q0:look e 0=a) (q1:look e 1= .s apex) (q4:look e 4= .la 4 0 0 0) (q7:look e 7=o) (hL0:JJ [0,1,4,7,8] L0=[⟨4,0,0,[z0V]⟩])
  (hit: ∀ i e' g' H',JL l.length (fun i=>decide (Jai (l.getD i rrZ) apex≠0))=some i→Ext H H'→look e' 4= .la 4 0 0 0→look e' 5= .i .i64 (Jai (l.getD i rrZ) apex)→look e' 6= .i .i64 (i:Nat)→κ .rt e' ⟨[⟨4,0,0,[z0V]⟩],g',H'⟩)
  (miss:(∀ i,i < l.length→Jai (l.getD i rrZ) apex=0)→ ∀ e' g' H' o',Ext H H'→Mx H' eI o' (Jdq (l.map zi) fun _=>false)→(∀ j,j∈idA o'→H.n≤j)→look e' 0=a→look e' 1= .s apex→look e' 4= .la 4 0 0 0→look e' 7=o'→κ .nx e' ⟨[⟨4,0,0,[z0V]⟩],g',H'⟩):
  exec C (sAt Jp.s [1,1,1,1,0]) e ⟨L0,g,H1⟩ κ:=by
 simp only [Jp,sAt]
 obtain ⟨l1,l2⟩:=hs.len
 simp -implicitDefEqProofs only [bU,reduceIte,Jc,reduceCtorEq,Ja,Jb,bT,Jd,Je,Jf,q0]
 refine Jl (fun m e M=> ∃ (i:Nat) (o:AV) (H':AH) (L0:List Lv) (g:Nat),i≤l.length∧m=l.length-i∧look e 0=a∧look e 1= .s apex∧look e 4= .la 4 0 0 0∧look e 7=o∧look e 8= .i .i64 i∧M=⟨L0,g,H'⟩∧JJ [0,1,4,7,8] L0=[⟨4,0,0,[z0V]⟩]∧Ext H H'∧
   Mx H' eI o ((l.take i).map fun r=>(zi r,false))∧Cl H' o∧(∀ j,j∈idA o→H.n≤j)∧ ∀ j,j < i→Jai (l.getD j rrZ) apex=0) ?_ (n:=l.length)
  ⟨0,o,H1,_,_,by omega,by omega,by simp -implicitDefEqProofs only [bU,reduceIte,Jc,reduceCtorEq,Ja,Jb,bT,Jd,Je,Jf,q0],by simp -implicitDefEqProofs only [bU,reduceIte,Jc,reduceCtorEq,Ja,Jb,bT,Jd,Je,Jf,q1],by simp -implicitDefEqProofs only [bU,reduceIte,Jc,reduceCtorEq,Ja,Jb,bT,Jd,Je,Jf,q4],by simp -implicitDefEqProofs only [bU,reduceIte,Jc,reduceCtorEq,Ja,Jb,bT,Jd,Je,Jf,q7],rfl,rfl,hL0,he,by simpa using hm,hcl,hid,fun j hj=>by omega⟩
 clear q0 q1 q4 q7 hL0 he hm hcl hid
 rintro m e M ⟨i,o,H',L0,g,hi,rfl,q0,q1,q4,q7,q8,rfl,hL0,he,hm,hcl,hid,hp⟩
 by_cases h1:(i:Int) < l.length
 ·have hil:i < l.length:=by omega
  obtain ⟨z,c,f0,rc,rv,ld,v0,v1,v2,v3,v4⟩:=JgI (Sl.ext hs he) hil
  obtain ⟨s1,s2⟩:=hsz _ (List.getElem_mem hil)
  have hgd:l.getD i rrZ=l[i]:=by simp [List.getD,hil]
  have k1:=hO l[i] apex H' s1 s2 ha
  have k2:=hF l[i].o H' s1
  have k3:=hD l[i].t l[i].d H' s2
  have ow:(eR.v l[i]).outs=true:=rfl
  have w9:IntKind.i64.wrap ((i:Int)+1)=((i+1:Nat):Int):=by rw [w64 (by omega) (by omega)];rfl
  have bd:l.length- (i+1) < l.length-i:=by omega
  by_cases hone:Jai l[i] apex=0
  ·rw [hone] at k1
   obtain ⟨p1,o',H3,p2,p3,p4,p5,p6,p7,-,p9⟩:=Mn.ap (by':=96) hm (Qk (t:=68) (g:=g) (x:=eI.v (zi l[i],false)) (L:=[⟨4,0,0,[.ag [.s [],.ns]]⟩]) (H:=H')) (by simp;omega)
   rw [show eI.z=8 from rfl] at p1 p2 p3
   rw [Jru] at p1 p2 p3
   simp only [zi] at p1 p2 p3
   rw [JcE] at rv k1
   simp -implicitDefEqProofs only [bU,reduceIte,Jc,reduceCtorEq,Ja,Jb,bT,Jd,Je,Jf,bV,Ja,Jb,Jg,Qs,J6,q0,q1,q4,q7,q8,l1,l2,h1,hL0,Jj,z,c,f0,rc,rv,ld,v0,v1,v4,k1,k2,k3,JG,JH,JE,JQ,List.replicate,List.set,z0V]
   simp -implicitDefEqProofs only [bU,reduceIte,Jc,reduceCtorEq,Ja,Jb,bT,Jd,Je,Jf,bV,Ja,Jb,Jg,p1,p2,p3,w9]
   refine ⟨_,bd,i+1,o',H3,_,_,hil,rfl,rfl,rfl,rfl,rfl,⟨Nat.le_trans he.n p5,fun j hj=>by rw [p6 j (Nat.lt_of_lt_of_le hj he.n) fun hh=>by have:=hid j hh;omega];exact he.at' j hj⟩,?_,p9 hcl,fun j hj=>(p7 j hj).elim (hid j) fun h=>Nat.le_trans he.n h,fun j hj=> ?_⟩
   ·have e1:(l.take (i+1)).map (fun r=>(zi r,false))=(l.take i).map (fun r=>(zi r,false))++[(zi l[i],false)]:=by rw [List.take_succ_eq_append_getElem hil,List.map_append];rfl
    rw [e1]
    show Mn H3 eI.z o' _
    rw [List.map_append]
    exact p4
   ·by_cases e:j=i
    ·subst e;rw [hgd];exact hone
    ·exact hp j (by omega)
  ·have hne: ¬ Jai l[i] apex=0:=hone
   have hfx:JL l.length (fun i=>decide (Jai (l.getD i rrZ) apex≠0))=some i:=Ym hil (decide_eq_true (by rw [hgd];exact hone)) fun j hj=>decide_eq_false fun h=>h (hp j hj)
   rw [JcE] at rv k1
   simp -implicitDefEqProofs only [bU,reduceIte,Jc,reduceCtorEq,Ja,Jb,bT,Jd,Je,Jf,bV,Ja,Jb,Jg,q0,q1,q4,q7,q8,l1,l2,h1,hL0,Jj,z,c,f0,rc,rv,ld,v0,v1,v4,k1,hne,JG,JH,z0V]
   exact hit i _ _ _ hfx he (by simp -implicitDefEqProofs only [bU,reduceIte,Jc,reduceCtorEq,Ja,Jb,bT,Jd,Je,Jf,q4]) (by rw [hgd];rfl) rfl
 ·have hil:i=l.length:=by omega
  subst hil
  rw [List.take_length] at hm
  simp -implicitDefEqProofs only [bU,reduceIte,Jc,reduceCtorEq,Ja,Jb,bT,Jd,Je,Jf,bV,Ja,Jb,Jg,q0,q1,q4,q7,q8,l1,l2,h1,hL0]
  exact miss hp _ _ _ o he (by rw [Jny];exact hm) hid (by simp -implicitDefEqProofs only [bU,reduceIte,Jc,reduceCtorEq,Ja,Jb,bT,Jd,Je,Jf,q0]) (by simp -implicitDefEqProofs only [bU,reduceIte,Jc,reduceCtorEq,Ja,Jb,bT,Jd,Je,Jf,q1]) (by simp -implicitDefEqProofs only [bU,reduceIte,Jc,reduceCtorEq,Ja,Jb,bT,Jd,Je,Jf,q4]) (by simp -implicitDefEqProofs only [bU,reduceIte,Jc,reduceCtorEq,Ja,Jb,bT,Jd,Je,Jf,q7])
set_option maxHeartbeats 2000000 in
theorem JuC {Z:List Zi} {o:AV} {H1 H2:AH} (hs:Sx H1 eI o (Je9 Z)) (hl:Z.length≤500) (hH:H1.n≤H2.n) {r:AV} (he:Ext H1 H2) (hm:Mx H2 eI r []) (hcl:Cl H2 r) (hid: ∀ j,j∈idA r→H1.n≤j)
  (q1:look e 1= .s apex) (q4:look e 4= .la 4 0 0 0) (q7:look e 7=o) (q13:look e 13=r) (hL0:JJ [1,4,7,13,14] L0=[⟨4,0,0,[z0V]⟩])
  (miss: ∀ e' g' H' r',Ext H1 H'→Mx H' eI r' ((J2 Z).map fun x=>(x,false))→Cl H' r'→(∀ j,j∈idA r'→H1.n≤j)→look e' 1= .s apex→look e' 4= .la 4 0 0 0→look e' 7=o→look e' 13=r'→κ .nx e' ⟨[⟨4,0,0,[z0V]⟩],g',H'⟩):
  exec C (sAt Jp.s [1,1,1,1,1,1,1,1,1,1,0]) e ⟨L0,g,H2⟩ κ:=by
 simp only [Jp,sAt]
 obtain ⟨l1,l2⟩:=hs.len
 rw [QY] at l1
 simp -implicitDefEqProofs only [bU,reduceIte,Jc,reduceCtorEq,Ja,Jb,bT,Jd,Je,Jf,q7]
 refine Jl (fun m e M=> ∃ (i:Nat) (r:AV) (H':AH) (L0:List Lv) (g:Nat),i≤Z.length∧m=Z.length-i∧look e 1= .s apex∧look e 4= .la 4 0 0 0∧look e 7=o∧look e 13=r∧look e 14= .i .i64 i∧M=⟨L0,g,H'⟩∧JJ [1,4,7,13,14] L0=[⟨4,0,0,[z0V]⟩]∧Ext H1 H'∧
   Mx H' eI r ((((List.range i).filter fun i=> !WN Z i).map (itZ Z)).map fun x=>(x,false))∧Cl H' r∧(∀ j,j∈idA r→H1.n≤j)) ?_ (n:=Z.length)
  ⟨0,r,H2,_,_,by omega,by omega,by simp -implicitDefEqProofs only [bU,reduceIte,Jc,reduceCtorEq,Ja,Jb,bT,Jd,Je,Jf,q1],by simp -implicitDefEqProofs only [bU,reduceIte,Jc,reduceCtorEq,Ja,Jb,bT,Jd,Je,Jf,q4],by simp -implicitDefEqProofs only [bU,reduceIte,Jc,reduceCtorEq,Ja,Jb,bT,Jd,Je,Jf,q7],by simp -implicitDefEqProofs only [bU,reduceIte,Jc,reduceCtorEq,Ja,Jb,bT,Jd,Je,Jf,q13],rfl,rfl,hL0,he,by simpa using hm,hcl,hid⟩
 clear q1 q4 q7 q13 hL0 he hm hcl hid
 rintro m e M ⟨i,r,H',L0,g,hi,rfl,q1,q4,q7,q13,q14,rfl,hL0,he,hm,hcl,hid⟩
 by_cases h1:(i:Int) < Z.length
 ·have hil:i < Z.length:=by omega
  have hx:=Ja5 (Sl.ext hs he) (i:=i) (by rw [QY];omega)
  rw [ZO] at hx
  obtain ⟨z,c,fa,f0,fv,ld,v0,v1,v3,v4,v5,v6,v7,wc,wv,-,-⟩:=hx
  simp only at v7
  have w9:IntKind.i64.wrap ((i:Int)+1)=((i+1:Nat):Int):=by rw [w64 (by omega) (by omega)];rfl
  have bd:Z.length- (i+1) < Z.length-i:=by omega
  have hfl:((List.range i).filter fun i=> !WN Z i).length≤i:=Nat.le_trans (List.length_filter_le _ _) (by simp)
  cases ho:WN Z i with
  | false=>
   rw [ho] at v7 wv
   rw [Jru] at wv
   obtain ⟨p1,o',H3,p2,p3,p4,p5,p6,p7,-,p9⟩:=Mn.ap (by':=96) hm (Qk (t:=105) (g:=g) (x:=eI.v (itZ Z i,false)) (L:=[⟨4,0,0,[.ag [.s [],.ns]]⟩]) (H:=H')) (by simp;omega)
   rw [show eI.z=8 from rfl] at p1 p2 p3
   rw [Jru] at p1 p2 p3
   simp -implicitDefEqProofs only [bU,reduceIte,Jc,reduceCtorEq,Ja,Jb,bT,Jd,Je,Jf,bV,Ja,Jb,Jg,q1,q4,q7,q13,q14,l1,l2,h1,hL0,Jj,z,c,fa,f0,fv,ld,v7,wc,wv,JE,JQ,List.replicate,List.set,z0V]
   simp -implicitDefEqProofs only [bU,reduceIte,Jc,reduceCtorEq,Ja,Jb,bT,Jd,Je,Jf,bV,Ja,Jb,Jg,p1,p2,p3,w9]
   refine ⟨_,bd,i+1,o',H3,_,_,hil,rfl,rfl,rfl,rfl,rfl,⟨Nat.le_trans he.n p5,fun j hj=>by rw [p6 j (Nat.lt_of_lt_of_le hj he.n) fun hh=>by have:=hid j hh;omega];exact he.at' j hj⟩,?_,p9 hcl,fun j hj=>(p7 j hj).elim (hid j) fun h=>Nat.le_trans he.n h⟩
   have e1:((List.range (i+1)).filter fun i=> !WN Z i)=((List.range i).filter fun i=> !WN Z i)++[i]:=by
    rw [List.range_succ,List.filter_append]
    simp [ho]
   rw [e1,List.map_append,List.map_append]
   show Mn H3 eI.z o' _
   rw [List.map_append]
   exact p4
  | true=>
   rw [ho] at v7
   simp -implicitDefEqProofs only [bU,reduceIte,Jc,reduceCtorEq,Ja,Jb,bT,Jd,Je,Jf,bV,Ja,Jb,Jg,q1,q4,q7,q13,q14,l1,l2,h1,hL0,Jj,z,c,fa,f0,fv,ld,v7,z0V,w9]
   refine ⟨_,bd,i+1,r,H',_,_,hil,rfl,rfl,rfl,rfl,rfl,he,?_,hcl,hid⟩
   have e1:((List.range (i+1)).filter fun i=> !WN Z i)=((List.range i).filter fun i=> !WN Z i):=by
    rw [List.range_succ,List.filter_append]
    simp [ho]
   rw [e1]
   exact hm
 ·have hil:i=Z.length:=by omega
  subst hil
  simp -implicitDefEqProofs only [bU,reduceIte,Jc,reduceCtorEq,Ja,Jb,bT,Jd,Je,Jf,bV,Ja,Jb,Jg,q1,q4,q7,q13,q14,l1,l2,h1,hL0]
  exact miss _ _ _ r he hm hcl hid (by simp -implicitDefEqProofs only [bU,reduceIte,Jc,reduceCtorEq,Ja,Jb,bT,Jd,Je,Jf,q1]) (by simp -implicitDefEqProofs only [bU,reduceIte,Jc,reduceCtorEq,Ja,Jb,bT,Jd,Je,Jf,q4]) (by simp -implicitDefEqProofs only [bU,reduceIte,Jc,reduceCtorEq,Ja,Jb,bT,Jd,Je,Jf,q7]) (by simp -implicitDefEqProofs only [bU,reduceIte,Jc,reduceCtorEq,Ja,Jb,bT,Jd,Je,Jf,q13])
end
def sV (s:Qa) (d:AV):AV:= .ag [.s s.o,.i .i64 s.t,.i .i64 s.ttl,d]
theorem JaN (s:Qa) (d:AV):(sV s d).cells=[.s s.o,.i .i64 s.t,.i .i64 s.ttl,d]:=rfl
structure ZS (H:AH) (zs:AV) (sets:List Qa) (ds:List AV):Prop where
 row:Sl H 4 zs (List.zipWith sV sets ds)
 len:ds.length=sets.length
 dat: ∀ i (h:i < sets.length) (h2:i < ds.length),Sl H 1 ds[i] (sets[i].d.map AV.s)
structure ZM (H:AH) (n0:Nat) (zs:AV) (sets:List Qa) (ds:List AV):Prop where
 row:Mn H 4 zs (List.zipWith sV sets ds)
 len:ds.length=sets.length
 dat: ∀ i (h:i < sets.length) (h2:i < ds.length),Mn H 1 ds[i] (sets[i].d.map AV.s)
 nd:(idA zs++ds.flatMap idA).Nodup
 ge: ∀ i,i∈idA zs++ds.flatMap idA→n0≤i
theorem QK {sets:List Qa} {ds:List AV} (h:ds.length=sets.length):(List.zipWith sV sets ds).length=sets.length:=by simp [h]
theorem JiT {sets:List Qa} {ds:List AV} {i:Nat} (h:i < sets.length) (h2:i < ds.length):(List.zipWith sV sets ds).getD i .u=sV sets[i] ds[i]:=by
 simp [List.getD,List.getElem?_zipWith,h,h2]
section
variable {H H':AH} {n0:Nat} {zs:AV} {sets:List Qa} {ds:List AV}
theorem ZM.rd (h:ZM H n0 zs sets ds):ZS H zs sets ds:=⟨h.row.sl,h.len,fun i h1 h2=>(h.dat i h1 h2).sl⟩
theorem ZS.ext (h:ZS H zs sets ds) (he:Ext H H'):ZS H' zs sets ds:=⟨Sl.ext h.row he,h.len,fun i h1 h2=>Sl.ext (h.dat i h1 h2) he⟩
theorem ZM.lt (h:ZM H n0 zs sets ds): ∀ i,i∈idA zs++ds.flatMap idA→i < H.n:=fun i hi=>by
 rcases List.mem_append.1 hi with hi | hi
 ·exact h.row.lt i hi
 ·obtain ⟨d,hd,hi⟩:=List.mem_flatMap.1 hi
  obtain ⟨j,hj,rfl⟩:=List.mem_iff_getElem.1 hd
  exact (h.dat j (by rw [←h.len];exact hj) hj).lt i hi
theorem ZM.fr (h:ZM H n0 zs sets ds) (hn:H.n≤H'.n) (ha: ∀ i,i∈idA zs++ds.flatMap idA→H'.at' i=H.at' i):ZM H' n0 zs sets ds:=
 ⟨h.row.fr hn fun i hi=>ha i (List.mem_append_left _ hi),h.len,fun i h1 h2=>(h.dat i h1 h2).fr hn fun j hj=>ha j (List.mem_append_right _ (List.mem_flatMap.2 ⟨_,List.getElem_mem h2,hj⟩)),h.nd,h.ge⟩
theorem ZM.ext (h:ZM H n0 zs sets ds) (he:Ext H H'):ZM H' n0 zs sets ds:=h.fr he.n fun i hi=>he.at' i (h.lt i hi)
theorem ZM.nil (H:AH) (n0:Nat):ZM H n0 .ns [] [] where
 row:=Mn.nil
 len:=rfl
 dat i h:=absurd h (Nat.not_lt_zero _)
 nd:=by simp [idA]
 ge i hi:=by simp [idA] at hi
theorem JaG (a:AV):(idA a).Nodup:=by cases a<;>simp [idA]
theorem ZS.at' (h:ZS H zs sets ds) {i:Nat} (hi:i < sets.length) (hd:i < ds.length):slZ H 4 zs∧iaC (i:Int) zs∧faC (iaV i zs)∧(∀ (o:Nat) (L:List Lv) (g:Nat),o < 4→ldC ⟨L,g,H⟩ none (faV o (iaV i zs)))∧(∀ (L:List Lv) (g:Nat),ldX ⟨L,g,H⟩ none (faV 0 (iaV i zs))= .s sets[i].o)∧
  (∀ (L:List Lv) (g:Nat),ldX ⟨L,g,H⟩ none (faV 1 (iaV i zs))= .i .i64 sets[i].t)∧(∀ (L:List Lv) (g:Nat),ldX ⟨L,g,H⟩ none (faV 2 (iaV i zs))= .i .i64 sets[i].ttl)∧(∀ (L:List Lv) (g:Nat),ldX ⟨L,g,H⟩ none (faV 3 (iaV i zs))=ds[i])∧
  (∀ (L:List Lv) (g:Nat),ldC ⟨L,g,H⟩ (some 4) (iaV i zs))∧(∀ (L:List Lv) (g:Nat),ldX ⟨L,g,H⟩ (some 4) (iaV i zs)=sV sets[i] ds[i]):=by
 obtain ⟨h1,h2,h3,h4⟩:=h.row.ia (j:=i) (by omega) (by rw [QK h.len];omega)
 rw [Jj] at h3 h4
 rw [JiT hi hd] at h4
 have c:=fun (o:Nat) (ho:o < 4) (L:List Lv) (g:Nat)=>h4 L g o none (by simp only [JF,JaN];exact ho)
 have w:=fun (L:List Lv) (g:Nat)=>h4 L g 0 (some 4) (by simp [JF,JaN])
 simp only [fa0] at w
 exact ⟨h1,h2,h3,fun o L g ho=>(c o ho L g).1,fun L g=>(c 0 (by decide) L g).2,fun L g=>(c 1 (by decide) L g).2,fun L g=>(c 2 (by decide) L g).2,fun L g=>(c 3 (by decide) L g).2,fun L g=>(w L g).1,fun L g=>(w L g).2⟩
theorem ZM.push (h:ZM H n0 zs sets ds) (hn:n0≤H.n) {y:AV} {s:Qa} (hs:s.d=[]) {L:List Lv} {g:Nat} (hy:QE ⟨L,g,H⟩ y=[sV s .ns]∧Je7 ⟨L,g,H⟩ 4 y) (hb:sets.length≤1000):
  apC ⟨L,g,H⟩ 4 56 y zs∧ ∃ zs' H',apV ⟨L,g,H⟩ y zs=zs'∧apM ⟨L,g,H⟩ 4 y zs=⟨L,g,H'⟩∧ZM H' n0 zs' (sets++[s]) (ds++[.ns])∧H.n≤H'.n∧(∀ i,i < H.n→ ¬ i∈idA zs→H'.at' i=H.at' i)∧(∀ i,i∈idA zs'→i∈idA zs∨H.n≤i):=by
 obtain ⟨p1,zs',H',p2,p3,p4,p5,p6,p7,p8,-⟩:=Mn.ap (by':=56) h.row hy (by rw [QK h.len];simp;omega)
 have hnd:=List.nodup_append.1 h.nd
 refine ⟨p1,zs',H',p2,p3,⟨?_,by simp [h.len],fun i h1 h2=> ?_,?_,fun i hi=> ?_⟩,p5,p6,p7⟩
 ·have:List.zipWith sV (sets++[s]) (ds++[AV.ns])=List.zipWith sV sets ds++[sV s .ns]:=by
   rw [List.zipWith_append h.len.symm];rfl
  rw [this];exact p4
 ·by_cases e:i < sets.length
  ·have e2:i < ds.length:=by rw [h.len];exact e
   simp only [List.getElem_append_left e,List.getElem_append_left e2]
   exact (h.dat i e e2).fr p5 fun j hj=>p6 j ((h.dat i e e2).lt j hj) fun hz=>hnd.2.2 j hz j (List.mem_flatMap.2 ⟨_,List.getElem_mem e2,hj⟩) rfl
  ·have e3:i=sets.length:=by simp at h1;omega
   subst e3
   have a1:(sets++[s])[sets.length]=s:=by simp
   have a2:(ds++[AV.ns])[sets.length]'h2= .ns:=by simp [←h.len]
   rw [a1,a2,hs]
   exact .nil
 ·have hfm:(ds++[AV.ns]).flatMap idA=ds.flatMap idA:=by simp [idA]
  rw [hfm]
  refine List.nodup_append.2 ⟨JaG _,hnd.2.1,fun a ha b hb hab=> ?_⟩
  subst hab
  rcases p7 a ha with hz | hz
  ·exact hnd.2.2 a hz a hb rfl
  ·have:=h.lt a (List.mem_append_right _ hb);omega
 ·have hfm:(ds++[AV.ns]).flatMap idA=ds.flatMap idA:=by simp [idA]
  rw [hfm] at hi
  rcases List.mem_append.1 hi with hi | hi
  ·rcases p7 i hi with hz | hz
   ·exact h.ge i (List.mem_append_left _ hz)
   ·omega
  ·exact h.ge i (List.mem_append_right _ hi)
def addD (s:Qa) (x:List UInt8):Qa:={s with d:=s.d++[x]}
theorem Xn {ds:List AV} {k:Nat} {d':AV} {i:Nat} (h:i∈(ds.set k d').flatMap idA):i∈idA d'∨ ∃ j,∃ (hj:j < ds.length),j≠k∧i∈idA ds[j]:=by
 obtain ⟨d,hd,hi⟩:=List.mem_flatMap.1 h
 obtain ⟨j,hj,rfl⟩:=List.mem_iff_getElem.1 hd
 rw [List.getElem_set] at hi
 by_cases e:k=j
 ·rw [if_pos e] at hi;exact .inl hi
 ·rw [if_neg e] at hi
  exact .inr ⟨j,by simpa using hj,fun h=>e h.symm,hi⟩
theorem Jan: ∀ {ds:List AV},(ds.flatMap idA).Nodup↔ ∀ i (hi:i < ds.length) j (hj:j < ds.length),i≠j→ ∀ x,x∈idA ds[i]→ ¬ x∈idA ds[j]
 | []=>by simp
 | d::r=>by
  rw [List.flatMap_cons,List.nodup_append,Jan (ds:=r)]
  constructor
  ·rintro ⟨-,h2,h3⟩ i hi j hj hij x hx hx2
   match i,j,hi,hj,hij,hx,hx2 with
   | 0,0,_,_,hij,_,_=>exact hij rfl
   | 0,j+1,_,hj,_,hx,hx2=>
    simp only [List.getElem_cons_zero,List.getElem_cons_succ] at hx hx2
    exact h3 x hx x (List.mem_flatMap.2 ⟨_,List.getElem_mem (by simpa using hj),hx2⟩) rfl
   | i+1,0,hi,_,_,hx,hx2=>
    simp only [List.getElem_cons_zero,List.getElem_cons_succ] at hx hx2
    exact h3 x hx2 x (List.mem_flatMap.2 ⟨_,List.getElem_mem (by simpa using hi),hx⟩) rfl
   | i+1,j+1,hi,hj,hij,hx,hx2=>
    simp only [List.getElem_cons_succ] at hx hx2
    exact h2 i (by simpa using hi) j (by simpa using hj) (by omega) x hx hx2
  ·intro h
   refine ⟨JaG d,fun i hi j hj hij x hx hx2=>h (i+1) (by simpa using hi) (j+1) (by simpa using hj) (by omega) x (by simpa using hx) (by simpa using hx2),fun a ha b hb hab=> ?_⟩
   subst hab
   obtain ⟨d2,hd2,hb⟩:=List.mem_flatMap.1 hb
   obtain ⟨j,hj,rfl⟩:=List.mem_iff_getElem.1 hd2
   exact h 0 (by simp) (j+1) (by simpa using hj) (by omega) a (by simpa using ha) (by simpa using hb)
theorem ZM.addD (h:ZM H n0 zs sets ds) (hn:n0≤H.n) {k:Nat} (hk:k < sets.length) (hkd:k < ds.length) {y:AV} {x:List UInt8} {L:List Lv} {g:Nat} (hy:QE ⟨L,g,H⟩ y=[AV.s x]∧Je7 ⟨L,g,H⟩ 1 y) (hb:sets[k].d.length≤1000):
  apC ⟨L,g,H⟩ 1 16 y ds[k]∧ ∃ d' H1,apV ⟨L,g,H⟩ y ds[k]=d'∧d'.cells=[d']∧d'.outs=true∧apM ⟨L,g,H⟩ 1 y ds[k]=⟨L,g,H1⟩∧slZ H1 4 zs∧iaC (k:Int) zs∧faC (iaV k zs)∧(∀ (L:List Lv) (g:Nat),stC ⟨L,g,H1⟩ d' (faV 3 (iaV k zs)))∧
   ∃ H2,(∀ (L:List Lv) (g:Nat),stM ⟨L,g,H1⟩ d' (faV 3 (iaV k zs))=⟨L,g,H2⟩)∧ZM H2 n0 zs (sets.set k (Vm.addD sets[k] x)) (ds.set k d')∧H.n≤H2.n∧(∀ i,i < H.n→ ¬ i∈idA zs++ds.flatMap idA→H2.at' i=H.at' i)∧(∀ i,i∈idA zs++(ds.set k d').flatMap idA→i∈idA zs++ds.flatMap idA∨H.n≤i):=by
 have hdk:=h.dat k hk hkd
 obtain ⟨p1,d',H1,p2,p3,p4,p5,p6,p7,-,-⟩:=Mn.ap (by':=16) hdk hy (by simp;omega)
 have hnd:=List.nodup_append.1 h.nd
 have hfm:=Jan.1 hnd.2.1
 have hin: ∀ i,i∈idA ds[k]→i∈ds.flatMap idA:=fun i hi=>List.mem_flatMap.2 ⟨_,List.getElem_mem hkd,hi⟩
 have hrow:Mn H1 4 zs (List.zipWith sV sets ds):=h.row.fr p5 fun i hi=>p6 i (h.row.lt i hi) fun hd=>hnd.2.2 i hi i (hin i hd) rfl
 have hzl:=QK h.len
 have hzg:=JiT hk hkd
 have hone:d'.cells=[d']:=p4.sl.one
 obtain ⟨r1,r2,r3,-⟩:=hrow.sl.ia (j:=k) (by omega) (by rw [hzl];omega)
 rw [Jj] at r3
 obtain ⟨-,H2,s2,s3,s4,s5⟩:=hrow.st (j:=k) (v:=d') (off:=3) (by omega) (by rw [hzl];omega) (by rw [Jj,hzg,hone];simp [JaN]) [] 0
 have hst: ∀ (L:List Lv) (g:Nat),stC ⟨L,g,H1⟩ d' (faV 3 (iaV k zs))∧stM ⟨L,g,H1⟩ d' (faV 3 (iaV k zs))=⟨L,g,H2⟩:=fun L g=>by
  obtain ⟨c1,H3,c2,-⟩:=hrow.st (j:=k) (v:=d') (off:=3) (by omega) (by rw [hzl];omega) (by rw [Jj,hzg,hone];simp [JaN]) L g
  rw [Jj] at c1 c2
  refine ⟨c1,?_⟩
  rw [Jj] at s2
  have e:H3=H2:=by
   generalize hE:List.zipWith sV sets ds=els at hrow hzl
   cases hrow with
   | nil=>simp at hzl;omega
   | own o1 o2=>
    simp only [iaV,faV,stM,o2] at c2 s2
    have:=congrArg Mem.h c2
    have t:=congrArg Mem.h s2
    simp only at this t
    rw [←this,←t]
  rw [c2,e]
 rw [Jj,hzg] at s3
 have hset:(List.zipWith sV sets ds).set k (Wt (sV sets[k] ds[k]) 3 d')=List.zipWith sV (sets.set k (Vm.addD sets[k] x)) (ds.set k d'):=by
  apply List.ext_getElem (by simp)
  intro j h1 h2
  rw [List.getElem_set]
  simp only [List.getElem_zipWith,List.getElem_set]
  by_cases e:k=j
  ·subst e
   simp only [if_true]
   simp [sV,Wt,Wu,hone,Vm.addD]
  ·simp [e]
 rw [hset] at s3
 have hkeep: ∀ i,i < H.n→ ¬ i∈idA zs→ ¬ i∈idA ds[k]→H2.at' i=H.at' i:=fun i hi h1 h2=>by rw [s5 i h1,p6 i hi h2]
 refine ⟨p1,d',H1,p2,hone,p4.sl.out,p3,r1,r2,r3,fun L g=>(hst L g).1,H2,fun L g=>(hst L g).2,⟨s3,by simp [h.len],fun i h1 h2=> ?_,?_,fun i hi=> ?_⟩,by omega,fun i hi hno=> ?_,fun i hi=> ?_⟩
 ·simp only [List.length_set] at h1 h2
  simp only [List.getElem_set]
  by_cases e:k=i
  ·subst e
   simp only [if_true,Vm.addD,List.map_append,List.map_cons,List.map_nil]
   refine p4.fr (by omega) fun j hj=>s5 j fun hz=> ?_
   rcases p7 j hj with hd | hd
   ·exact hnd.2.2 j hz j (hin j hd) rfl
   ·have:=h.row.lt j hz;omega
  ·simp only [if_neg e]
   refine (h.dat i h1 h2).fr (by omega) fun j hj=>hkeep j ((h.dat i h1 h2).lt j hj) (fun hz=>hnd.2.2 j hz j (List.mem_flatMap.2 ⟨_,List.getElem_mem h2,hj⟩) rfl) fun hd=>hfm k hkd i h2 e j hd hj
 ·refine List.nodup_append.2 ⟨JaG _,?_,fun a ha b hb hab=> ?_⟩
  ·rw [Jan]
   intro i hi j hj hij u hu hu2
   simp only [List.length_set] at hi hj
   rw [List.getElem_set] at hu hu2
   by_cases e1:k=i
   ·rw [if_pos e1] at hu
    have e2: ¬ k=j:=fun e2=>hij (e1.symm.trans e2)
    rw [if_neg e2] at hu2
    rcases p7 u hu with hd | hd
    ·exact hfm k hkd j hj e2 u hd hu2
    ·have:=(h.dat j (by rw [←h.len];exact hj) hj).lt u hu2;omega
   ·rw [if_neg e1] at hu
    by_cases e2:k=j
    ·rw [if_pos e2] at hu2
     rcases p7 u hu2 with hd | hd
     ·exact hfm k hkd i hi e1 u hd hu
     ·have:=(h.dat i (by rw [←h.len];exact hi) hi).lt u hu;omega
    ·rw [if_neg e2] at hu2
     exact hfm i hi j hj hij u hu hu2
  ·subst hab
   rcases Xn hb with hd | ⟨j,hj,-,hd⟩
   ·rcases p7 a hd with hd | hd
    ·exact hnd.2.2 a ha a (hin a hd) rfl
    ·have:=h.row.lt a ha;omega
   ·exact hnd.2.2 a ha a (List.mem_flatMap.2 ⟨_,List.getElem_mem hj,hd⟩) rfl
 ·rcases List.mem_append.1 hi with hz | hz
  ·exact h.ge i (List.mem_append_left _ hz)
  ·rcases Xn hz with hd | ⟨j,hj,-,hd⟩
   ·rcases p7 i hd with hd | hd
    ·exact h.ge i (List.mem_append_right _ (hin i hd))
    ·omega
   ·exact h.ge i (List.mem_append_right _ (List.mem_flatMap.2 ⟨_,List.getElem_mem hj,hd⟩))
 ·exact hkeep i hi (fun hz=>hno (List.mem_append_left _ hz)) fun hd=>hno (List.mem_append_right _ (hin i hd))
 ·rcases List.mem_append.1 hi with hz | hz
  ·exact .inl (List.mem_append_left _ hz)
  ·rcases Xn hz with hd | ⟨j,hj,-,hd⟩
   ·rcases p7 i hd with hd | hd
    ·exact .inl (List.mem_append_right _ (hin i hd))
    ·exact .inr hd
   ·exact .inl (List.mem_append_right _ (List.mem_flatMap.2 ⟨_,List.getElem_mem hj,hd⟩))
end
theorem JnR (ow:List UInt8→List UInt8): ∀ R:List Zi,(grp ow R).2=R.getLast?.map Zi.k:=by
 intro R
 induction R using Jaj with
 | h0=>rfl
 | h1 R x ih=>rw [JdQ];simp [JhB]
theorem Jph (ow:List UInt8→List UInt8): ∀ R:List Zi,(grp ow R).1.length≤R.length∧(∀ s,s∈(grp ow R).1→s.d.length≤R.length)∧(R≠ []→(grp ow R).1≠ []):=by
 intro R
 induction R using Jaj with
 | h0=>simp [grp]
 | h1 R x ih=>
  obtain ⟨h1,h2,h3⟩:=ih
  rw [JdQ]
  unfold JhB
  simp only
  by_cases h:(grp ow R).2=some x.k
  ·rw [if_pos h]
   have hne:R≠ []:=fun e=>by subst e;simp [grp] at h
   have hs:=h3 hne
   refine ⟨by simp;have:=List.length_pos_iff.2 hs;omega,fun s hsm=> ?_,fun _=>by simp⟩
   rcases List.mem_append.1 hsm with hm | hm
   ·have:=h2 s (List.dropLast_subset _ hm);simp;omega
   ·rw [List.mem_singleton] at hm
    subst hm
    have hl:(grp ow R).1.getLastD default∈(grp ow R).1:=by
     rw [List.getLastD_eq_getLast?,List.getLast?_eq_some_getLast hs]
     exact List.getLast_mem hs
    have:=h2 _ hl
    simp only [List.length_append,List.length_singleton];omega
  ·rw [if_neg h]
   refine ⟨by simp;omega,fun s hsm=> ?_,fun _=>by simp⟩
   rcases List.mem_append.1 hsm with hm | hm
   ·have:=h2 s hm;simp;omega
   ·rw [List.mem_singleton] at hm
    subst hm
    simp
theorem Jmx {α:Type} {l:List α} (h:l≠ []) (x:α):l.set (l.length-1) x=l.dropLast++[x]:=by
 obtain ⟨l',y,rfl⟩: ∃ l' y,l=l'++[y]:=⟨l.dropLast,l.getLast h,(List.dropLast_concat_getLast h).symm⟩
 simp
section
variable {C:Tab} {a:AV} {apex:List UInt8} {H:AH} {e:Env} {L0:List Lv} {g:Nat} {κ:Jaa}
def lvB (gr gz:Nat) (r:Rr) (apex:List UInt8) (zs:AV):List Lv:=[⟨17,gr,0,[eR.v r]⟩,⟨15,gz,0,[.ag [.s apex,zs]]⟩,⟨4,0,0,[z0V]⟩]
set_option maxHeartbeats 4000000 in
theorem JrQ {n0 gr gz:Nat} {r:Rr} {zs:AV} {sets:List Qa} {ds:List AV} (hz:ZM H n0 zs sets ds) (hn:n0≤H.n) (hne:sets≠ []) (hb: ∀ s,s∈sets→s.d.length≤1000) (hsl:sets.length≤1000)
  (q15:look e 15= .la 15 gz 0 0) (q17:look e 17= .la 17 gr 0 0) (hL:L0=lvB gr gz r apex zs∨ ∃ g1 v,L0=⟨164,g1,0,[v]⟩::lvB gr gz r apex zs)
  (fin: ∀ e' L' g' H' d',(look e' 4=look e 4∧look e' 7=look e 7∧look e' 13=look e 13∧look e' 15=look e 15∧look e' 16=look e 16)→JJ [4,7,13,15,16] L'=[⟨15,gz,0,[.ag [.s apex,zs]]⟩,⟨4,0,0,[z0V]⟩]→
   ZM H' n0 zs (sets.set (sets.length-1) (addD (sets.getLastD default) r.d)) (ds.set (sets.length-1) d')→H.n≤H'.n→(∀ i,i < H.n→ ¬ i∈idA zs++ds.flatMap idA→H'.at' i=H.at' i)→κ .nx e' ⟨L',g',H'⟩):
  exec C (sAt Jp.s [1,1,1,1,1,1,1,1,1,1,1,1,1,0,1,2,2,1,0,2,1,1]) e ⟨L0,g,H⟩ κ:=by
 simp only [Jp,sAt]
 have hpos:=List.length_pos_iff.2 hne
 have hk:sets.length-1 < sets.length:=by omega
 have hkd:sets.length-1 < ds.length:=by rw [hz.len];exact hk
 obtain ⟨l1,l2⟩:=hz.rd.row.len
 rw [QK hz.len] at l1
 obtain ⟨a1,a2,a3,a4,a5,a6,a7,a8,-,-⟩:=hz.rd.at' hk hkd
 have zo:=hz.rd.row.out
 have zc:=hz.rd.row.one
 have w1:IntKind.i64.wrap ((sets.length:Int)-1)=((sets.length-1:Nat):Int):=by rw [w64 (by omega) (by omega)];omega
 have hlast:sets.getLastD default=sets[sets.length-1]:=by rw [List.getLastD_eq_getLast?,List.getLast?_eq_getElem?];simp [hk]
 have hbl:=hb _ (List.getElem_mem hk)
 rw [hlast] at fin
 rcases hL with rfl | ⟨g1,v,rfl⟩
 ·obtain ⟨p1,d',H1,p2,p3,p4,p5,p6,p7,p8,p9,H2,p10,p11,p12,p13,p14⟩:=hz.addD hn hk hkd (Qk (t:=182) (g:=g) (z:=1) (x:= .s r.d) (L:=lvB gr gz r apex zs) (H:=H)) hbl
  simp only [lvB,JcE,z0V] at p1 p2 p5 fin ⊢
  simp -implicitDefEqProofs only [bU,reduceIte,Jc,reduceCtorEq,Ja,Jb,bT,Jd,Je,Jf,bV,Ja,Jb,Jg,Qs,J6,q15,q17,l1,l2,w1,a1,a2,a3,a4,a8,Jj,zo,zc,JE,JQ,List.replicate,List.set]
  simp -implicitDefEqProofs only [bU,reduceIte,Jc,reduceCtorEq,Ja,Jb,bT,Jd,Je,Jf,bV,Ja,Jb,Jg,p1,p2,p3,p4,p5,p6,p7,p8,p9,p10]
  exact fin _ _ _ H2 d' ⟨rfl,rfl,rfl,rfl,rfl⟩ rfl p11 p12 p13
 ·obtain ⟨p1,d',H1,p2,p3,p4,p5,p6,p7,p8,p9,H2,p10,p11,p12,p13,p14⟩:=hz.addD hn hk hkd (Qk (t:=182) (g:=g) (z:=1) (x:= .s r.d) (L:=⟨164,g1,0,[v]⟩::lvB gr gz r apex zs) (H:=H)) hbl
  simp only [lvB,JcE,z0V] at p1 p2 p5 fin ⊢
  simp -implicitDefEqProofs only [bU,reduceIte,Jc,reduceCtorEq,Ja,Jb,bT,Jd,Je,Jf,bV,Ja,Jb,Jg,Qs,J6,q15,q17,l1,l2,w1,a1,a2,a3,a4,a8,Jj,zo,zc,JE,JQ,List.replicate,List.set]
  simp -implicitDefEqProofs only [bU,reduceIte,Jc,reduceCtorEq,Ja,Jb,bT,Jd,Je,Jf,bV,Ja,Jb,Jg,p1,p2,p3,p4,p5,p6,p7,p8,p9,p10]
  exact fin _ _ _ H2 d' ⟨rfl,rfl,rfl,rfl,rfl⟩ rfl p11 p12 p13
set_option maxHeartbeats 4000000 in
theorem Jup {Z:List Zi} {M:List (Zi×Bool)} {oI oR:AV} {H1 H2:AH} {gz:Nat} (hI:Sx H1 eI oI (Je9 Z)) (hR:Sx H1 eI oR M) (hZ:Z.length≤500) (hM:M.length≤500) (hOw:Jne C XH) (he:Ext H1 H2)
  (q4:look e 4= .la 4 0 0 0) (q7:look e 7=oI) (q13:look e 13=oR) (q15:look e 15= .la 15 gz 0 0) (hL0:JJ [4,7,13,15,16] L0=[⟨15,gz,0,[.ag [.s apex,.ns]]⟩,⟨4,0,0,[z0V]⟩])
  (miss: ∀ e' g' H' zs ds,Ext H1 H'→ZM H' H1.n zs (grp (W9 Z) (M.map Prod.fst)).1 ds→look e' 4= .la 4 0 0 0→look e' 15= .la 15 gz 0 0→κ .nx e' ⟨[⟨15,gz,0,[.ag [.s apex,zs]]⟩,⟨4,0,0,[z0V]⟩],g',H'⟩):
  exec C (sAt Jp.s [1,1,1,1,1,1,1,1,1,1,1,1,1,0]) e ⟨L0,g,H2⟩ κ:=by
 have hput:=(JaY [1,2,2,1,0,2,1,1] (sAt Jp.s [1,1,1,1,1,1,1,1,1,1,1,1,1,0])).symm
 have hBB:sAt (sAt Jp.s [1,1,1,1,1,1,1,1,1,1,1,1,1,0]) [1,2,2,1,0,2,1,1]=sAt Jp.s [1,1,1,1,1,1,1,1,1,1,1,1,1,0,1,2,2,1,0,2,1,1]:=rfl
 rw [hBB] at hput
 generalize hB:sAt Jp.s [1,1,1,1,1,1,1,1,1,1,1,1,1,0,1,2,2,1,0,2,1,1]=B at hput
 rw [hput]
 clear hput hBB
 simp only [Jp,sAt,JaX]
 obtain ⟨l1,l2⟩:=hR.len
 simp -implicitDefEqProofs only [bU,reduceIte,Jc,reduceCtorEq,Ja,Jb,bT,Jd,Je,Jf,q13]
 refine Jl (fun m e Mm=> ∃ (i:Nat) (zs:AV) (ds:List AV) (H':AH) (L0:List Lv) (g:Nat),i≤M.length∧m=M.length-i∧look e 4= .la 4 0 0 0∧look e 7=oI∧look e 13=oR∧look e 15= .la 15 gz 0 0∧look e 16= .i .i64 i∧Mm=⟨L0,g,H'⟩∧JJ [4,7,13,15,16] L0=[⟨15,gz,0,[.ag [.s apex,zs]]⟩,⟨4,0,0,[z0V]⟩]∧
   Ext H1 H'∧ZM H' H1.n zs (grp (W9 Z) ((M.take i).map Prod.fst)).1 ds) ?_ (n:=M.length)
  ⟨0,.ns,[],H2,_,_,by omega,by omega,by simp -implicitDefEqProofs only [bU,reduceIte,Jc,reduceCtorEq,Ja,Jb,bT,Jd,Je,Jf,q4],by simp -implicitDefEqProofs only [bU,reduceIte,Jc,reduceCtorEq,Ja,Jb,bT,Jd,Je,Jf,q7],by simp -implicitDefEqProofs only [bU,reduceIte,Jc,reduceCtorEq,Ja,Jb,bT,Jd,Je,Jf,q13],by simp -implicitDefEqProofs only [bU,reduceIte,Jc,reduceCtorEq,Ja,Jb,bT,Jd,Je,Jf,q15],rfl,rfl,hL0,he,.nil _ _⟩
 clear q4 q7 q13 q15 hL0 he
 rintro m e Mm ⟨i,zs,ds,H',L0,g,hi,rfl,q4,q7,q13,q15,q16,rfl,hL0,he,hz⟩
 by_cases h1:(i:Int) < M.length
 ·have hil:i < M.length:=by omega
  have hx:=Ja5 (Sl.ext hR he) hil
  obtain ⟨z,c,fa,f0,fv,ld,v0,v1,v3,v4,v5,v6,v7,wc,wv,rc,rv⟩:=hx
  have kow:=hOw oI Z M[i].1.f H' (Sl.ext hI he) (by omega)
  have w16:IntKind.i64.wrap ((i:Int)+1)=((i+1:Nat):Int):=by rw [w64 (by omega) (by omega)];rfl
  have bd:M.length- (i+1) < M.length-i:=by omega
  have hsn:(M.take (i+1)).map Prod.fst=(M.take i).map Prod.fst++[M[i].1]:=by rw [List.take_succ_eq_append_getElem hil,List.map_append];rfl
  have hgl:=Jph (W9 Z) ((M.take i).map Prod.fst)
  have htl:((M.take i).map Prod.fst).length≤500:=by simp;omega
  have hgs:(grp (W9 Z) ((M.take (i+1)).map Prod.fst)).1=(JhB (W9 Z) (grp (W9 Z) ((M.take i).map Prod.fst)) M[i].1).1:=by rw [hsn,JdQ]
  have h2k:(grp (W9 Z) ((M.take i).map Prod.fst)).2=((M.take i).map Prod.fst).getLast?.map Zi.k:=JnR _ _
  have zo:=hz.rd.row.out
  have zc:=hz.rd.row.one
  have oo:=(Sl.ext hI he).out
  generalize hG:grp (W9 Z) ((M.take i).map Prod.fst)=G at hz hgl hgs h2k
  obtain ⟨sets,pk⟩:=G
  simp only at hz hgl h2k
  have hn:H1.n≤H'.n:=he.n
  have newC:pk≠some M[i].1.k→(grp (W9 Z) ((M.take (i+1)).map Prod.fst)).1=sets++[⟨W9 Z M[i].1.f,M[i].1.r.t,M[i].1.r.ttl,[M[i].1.r.d]⟩]:=fun h=>by
   rw [hgs];unfold JhB;simp only;rw [if_neg h]
  have oldC:pk=some M[i].1.k→(grp (W9 Z) ((M.take (i+1)).map Prod.fst)).1=sets.dropLast++[addD (sets.getLastD default) M[i].1.r.d]:=fun h=>by
   rw [hgs];unfold JhB;simp only;rw [if_pos h];rfl
  obtain ⟨p1,zs',H3,p2,p3,p4,p5,p6,p7⟩:=hz.push hn (s:=⟨W9 Z M[i].1.f,M[i].1.r.t,M[i].1.r.ttl,[]⟩) rfl (Qk (t:=164) (g:=g+1) (z:=4) (x:=sV ⟨W9 Z M[i].1.f,M[i].1.r.t,M[i].1.r.ttl,[]⟩ .ns) (L:=lvB g gz M[i].1.r apex zs) (H:=H')) (by omega)
  have zo':=p4.rd.row.out
  have zc':=p4.rd.row.one
  simp only [lvB,JcE,z0V,sV] at p1 p2 p3
  have e3:Ext H1 H3:=⟨Nat.le_trans he.n p5,fun j hj=>by rw [p6 j (by omega) fun hh=>by have:=hz.ge j (List.mem_append_left _ hh);omega];exact he.at' j hj⟩
  have ek: ∀ {Ha Hb:AH} {za:AV} {da:List AV} {sa:List Qa},Ext H1 Ha→ZM Ha H1.n za sa da→Ha.n≤Hb.n→(∀ j,j < Ha.n→ ¬ j∈idA za++da.flatMap idA→Hb.at' j=Ha.at' j)→Ext H1 Hb:=fun ha hzz h1 h2=>⟨Nat.le_trans ha.n h1,fun j hj=>by rw [h2 j (Nat.lt_of_lt_of_le hj ha.n) fun hh=>by have:=hzz.ge j hh;omega];exact ha.at' j hj⟩
  have fin1: ∀ {e1:Env} {Hx:AH} {zx:AV} {sx:List Qa} {dx:List AV} {g1:Nat} {Lx:List Lv},Ext H1 Hx→ZM Hx H1.n zx sx dx→sx≠ []→sx.length≤1000→(∀ s,s∈sx→s.d.length≤1000)→sx.dropLast++[addD (sx.getLastD default) M[i].1.r.d]=(grp (W9 Z) ((M.take (i+1)).map Prod.fst)).1→
    look e1 4= .la 4 0 0 0→look e1 7=oI→look e1 13=oR→look e1 15= .la 15 gz 0 0→look e1 16= .i .i64 i→look e1 17= .la 17 g 0 0→(Lx=lvB g gz M[i].1.r apex zx∨ ∃ g1 v,Lx=⟨164,g1,0,[v]⟩::lvB g gz M[i].1.r apex zx)→
    exec C B e1 ⟨Lx,g1,Hx⟩ (JgV 5 (JiM (exec C (.o [.mv 115 (.t 16),.bn 116 .add (.t 115) (.c (.i .i64 1)),.mv 16 (.t 116)])) (JiM (fun e' M' _=> ∃ m,m < M.length-i∧ ∃ (i:Nat) (zs:AV) (ds:List AV) (H':AH) (L0:List Lv) (g:Nat),i≤M.length∧m=M.length-i∧look e' 4= .la 4 0 0 0∧look e' 7=oI∧look e' 13=oR∧look e' 15= .la 15 gz 0 0∧look e' 16= .i .i64 i∧M'=⟨L0,g,H'⟩∧JJ [4,7,13,15,16] L0=[⟨15,gz,0,[.ag [.s apex,zs]]⟩,⟨4,0,0,[z0V]⟩]∧
   Ext H1 H'∧ZM H' H1.n zs (grp (W9 Z) ((M.take i).map Prod.fst)).1 ds) (JgV 4 κ)))):=by
   intro e1 Hx zx sx dx g1 Lx hex hzx hne hsl hdl hgr r4 r7 r13 r15 r16 r17 hLx
   rw [←hB]
   refine JrQ hzx hex.n hne hdl hsl r15 r17 hLx fun e' L' g' H'' d' hl hK hzz hnn hat=> ?_
   obtain ⟨s4,s7,s13,s15,s16⟩:=hl
   rw [r4] at s4
   rw [r7] at s7
   rw [r13] at s13
   rw [r15] at s15
   rw [r16] at s16
   rw [Jmx hne,hgr] at hzz
   simp -implicitDefEqProofs only [bU,reduceIte,Jc,reduceCtorEq,Ja,Jb,bT,Jd,Je,Jf,bV,Ja,Jb,Jg,s4,s7,s13,s15,s16,w16]
   exact ⟨_,bd,i+1,zx,_,H'',L',g',hil,rfl,rfl,rfl,hK,ek hex hzx hnn hat,hzz⟩
  have gNew:pk≠some M[i].1.k→(sets++[(⟨W9 Z M[i].1.f,M[i].1.r.t,M[i].1.r.ttl,[]⟩:Qa)]).dropLast++[addD ((sets++[(⟨W9 Z M[i].1.f,M[i].1.r.t,M[i].1.r.ttl,[]⟩:Qa)]).getLastD default) M[i].1.r.d]=(grp (W9 Z) ((M.take (i+1)).map Prod.fst)).1:=fun h=>by
   rw [newC h,List.dropLast_concat,List.getLastD_eq_getLast?,List.getLast?_concat];rfl
  have dNew: ∀ s,s∈sets++[(⟨W9 Z M[i].1.f,M[i].1.r.t,M[i].1.r.ttl,[]⟩:Qa)]→s.d.length≤1000:=fun s hs=>by
   rcases List.mem_append.1 hs with h | h
   ·have:=hgl.2.1 s h;omega
   ·rw [List.mem_singleton] at h;subst h;simp
  have one:(1:Int)≤1:=Int.le_refl _
  have lN:sets.length+1≤1000:=by omega
  by_cases hi0:i=0
  ·have hpk:pk≠some M[i].1.k:=by
    have ht0:M.take i=[]:=by rw [hi0];rfl
    rw [h2k,ht0];simp
   have z0:((i:Int)=0)=True:=eq_true (by omega)
   simp only [JcE] at rv
   simp -implicitDefEqProofs only [bU,reduceIte,Jc,reduceCtorEq,Ja,Jb,bT,Jd,Je,Jf,bV,Ja,Jb,Jg,Qs,J6,q4,q7,q13,q15,q16,l1,l2,h1,hL0,z0V,z0,Jj,z,c,fa,f0,fv,ld,rc,rv,v5,kow,oo,zo,zc,JG,JH,JE,JQ,List.replicate,List.set]
   simp -implicitDefEqProofs only [bU,reduceIte,Jc,reduceCtorEq,Ja,Jb,bT,Jd,Je,Jf,bV,Ja,Jb,Jg,p1,p2,p3,zo',zc']
   refine fin1 e3 p4 (by simp) (by simp;omega) dNew (gNew hpk) ?_ ?_ ?_ ?_ ?_ ?_ (.inr ⟨_,_,rfl⟩)
   all_goals simp -implicitDefEqProofs only [bU,reduceIte,Jc,reduceCtorEq,Ja,Jb,bT,Jd,Je,Jf]
  ·have z0: ¬ (i:Int)=0:=by omega
   have him:i-1 < M.length:=by omega
   have hxm:=Ja5 (Sl.ext hR he) him
   obtain ⟨zm,cm,fam,f0m,fvm,ldm,-,v1m,-,-,v5m,-,-,-,-,-,-⟩:=hxm
   have wm:IntKind.i64.wrap ((i:Int)-1)=((i-1:Nat):Int):=by rw [w64 (by omega) (by omega)];omega
   have hpk:pk=some M[i-1].1.k:=by
    rw [h2k,List.getLast?_eq_getElem?]
    have:i-1 < (M.take i).length:=by simp;omega
    simp [Nat.min_eq_left (Nat.le_of_lt hil),show i-1 < i by omega,List.getElem?_take,him]
   by_cases hf:M[i-1].1.f=M[i].1.f
   ·by_cases ht:M[i-1].1.r.t=M[i].1.r.t
    ·have hk:pk=some M[i].1.k:=by rw [hpk];simp only [Zi.k,hf,ht]
     have hne:sets≠ []:=hgl.2.2 (by simp;constructor<;>first | omega | (intro h;simp [h] at hil))
     simp only [JcE] at rv
     simp -implicitDefEqProofs only [bU,reduceIte,Jc,reduceCtorEq,Ja,Jb,bT,Jd,Je,Jf,bV,Ja,Jb,Jg,Qs,J6,q4,q7,q13,q15,q16,l1,l2,h1,hL0,z0V,z0,wm,Jj,z,c,fa,f0,fv,ld,rc,rv,v5,zm,cm,fam,f0m,fvm,ldm,v1m,v5m,hf,ht,JG,JH,JE,JQ,List.replicate,List.set]
     refine fin1 he hz hne (by omega) (fun s hs=>by have:=hgl.2.1 s hs;omega) (by rw [oldC hk]) ?_ ?_ ?_ ?_ ?_ ?_ (.inl rfl)
     all_goals simp -implicitDefEqProofs only [bU,reduceIte,Jc,reduceCtorEq,Ja,Jb,bT,Jd,Je,Jf]
    ·have hk:pk≠some M[i].1.k:=by rw [hpk];simp only [Zi.k,ne_eq,Option.some.injEq,Prod.mk.injEq];exact fun h=>ht h.2
     simp only [JcE] at rv
     simp -implicitDefEqProofs only [bU,reduceIte,Jc,reduceCtorEq,Ja,Jb,bT,Jd,Je,Jf,bV,Ja,Jb,Jg,Qs,J6,q4,q7,q13,q15,q16,l1,l2,h1,hL0,z0V,z0,wm,Jj,z,c,fa,f0,fv,ld,rc,rv,v5,zm,cm,fam,f0m,fvm,ldm,v1m,v5m,hf,ht,kow,oo,zo,zc,JG,JH,JE,JQ,List.replicate,List.set]
     simp -implicitDefEqProofs only [bU,reduceIte,Jc,reduceCtorEq,Ja,Jb,bT,Jd,Je,Jf,bV,Ja,Jb,Jg,p1,p2,p3,zo',zc']
     refine fin1 e3 p4 (by simp) (by simp;omega) dNew (gNew hk) ?_ ?_ ?_ ?_ ?_ ?_ (.inr ⟨_,_,rfl⟩)
     all_goals simp -implicitDefEqProofs only [bU,reduceIte,Jc,reduceCtorEq,Ja,Jb,bT,Jd,Je,Jf]
   ·have hk:pk≠some M[i].1.k:=by rw [hpk];simp only [Zi.k,ne_eq,Option.some.injEq,Prod.mk.injEq];exact fun h=>hf h.1
    simp only [JcE] at rv
    simp -implicitDefEqProofs only [bU,reduceIte,Jc,reduceCtorEq,Ja,Jb,bT,Jd,Je,Jf,bV,Ja,Jb,Jg,Qs,J6,q4,q7,q13,q15,q16,l1,l2,h1,hL0,z0V,z0,wm,Jj,z,c,fa,f0,fv,ld,rc,rv,v5,zm,cm,fam,f0m,fvm,ldm,v1m,v5m,hf,kow,oo,zo,zc,JG,JH,JE,JQ,List.replicate,List.set]
    simp -implicitDefEqProofs only [bU,reduceIte,Jc,reduceCtorEq,Ja,Jb,bT,Jd,Je,Jf,bV,Ja,Jb,Jg,p1,p2,p3,zo',zc']
    refine fin1 e3 p4 (by simp) (by simp;omega) dNew (gNew hk) ?_ ?_ ?_ ?_ ?_ ?_ (.inr ⟨_,_,rfl⟩)
    all_goals simp -implicitDefEqProofs only [bU,reduceIte,Jc,reduceCtorEq,Ja,Jb,bT,Jd,Je,Jf]
 ·have hil:i=M.length:=by omega
  subst hil
  rw [List.take_length] at hz
  simp -implicitDefEqProofs only [bU,reduceIte,Jc,reduceCtorEq,Ja,Jb,bT,Jd,Je,Jf,bV,Ja,Jb,Jg,q4,q7,q13,q15,q16,l1,l2,h1,hL0]
  exact miss _ _ _ zs ds he hz (by simp -implicitDefEqProofs only [bU,reduceIte,Jc,reduceCtorEq,Ja,Jb,bT,Jd,Je,Jf,q4]) (by simp -implicitDefEqProofs only [bU,reduceIte,Jc,reduceCtorEq,Ja,Jb,bT,Jd,Je,Jf,q15])
end
def JbD (R:Zn×Int×Int) (H:AH) (v:AV) (H':AH):Prop:=Ext H H'∧ ∃ zs ds,v= .tp [.ag [.s R.1.a,zs],.i .i64 R.2.1,.i .i64 R.2.2]∧ZM H' H.n zs R.1.s ds
def szL (l:List Rr):Prop:= ∀ r,r∈l→r.o.length≤1099511627776∧r.d.length≤1099511627776
def Jwv (C:Tab) (f:Nat):Prop:= ∀ (a:AV) (l:List Rr) (apex:List UInt8) (H:AH),Sx H eR a l→l.length≤1099511627776→szL l→apex.length≤1099511627776→ ∃ v H',C f [a,.s apex] H=some (v,H')∧JbD (bz l apex) H v H'
theorem ZB {l:List Rr} {apex:List UInt8} {c:Int×Int} {H H':AH} (h:bz l apex=(zn0,c)) (he:Ext H H') {v:AV} (hv:v= .tp [z0V,.i .i64 c.1,.i .i64 c.2]):JbD (bz l apex) H v H':=by
 rw [h]
 exact ⟨he,.ns,[],hv,.nil _ _⟩
section
variable {C:Tab}
set_option maxHeartbeats 4000000 in
theorem Jvn {a:AV} {l:List Rr} {apex:List UInt8} {H:AH} (hN:Jb2 C YC) (hO:JmG C YR) (hF:Jbk C Qn) (hD:Jnu C Xi) (hT:Jiu C YN) (hRu:Jio C Yv) (hSo:Jl3 C WM 512) (hOw:Jne C XH)
  (hs:Sx H eR a l) (hl:l.length≤1099511627776) (hsz:szL l) (ha:apex.length≤1099511627776):Jt C Jp [a,.s apex] H (JbD (bz l apex) H):=by
 unfold Jt
 have hc:Jp.s=JaX (JaX (JaX Jp.s [1,1,1,1,0] (sAt Jp.s [1,1,1,1,0])) [1,1,1,1,1,1,1,1,1,1,0] (sAt Jp.s [1,1,1,1,1,1,1,1,1,1,0])) [1,1,1,1,1,1,1,1,1,1,1,1,1,0] (sAt Jp.s [1,1,1,1,1,1,1,1,1,1,1,1,1,0]):=rfl
 have hR:Jp.rs=[.c 4 (some 2),.t 5,.t 6]:=rfl
 generalize hX1:sAt Jp.s [1,1,1,1,0]=X1 at hc
 generalize hX2:sAt Jp.s [1,1,1,1,1,1,1,1,1,1,0]=X2 at hc
 generalize hX3:sAt Jp.s [1,1,1,1,1,1,1,1,1,1,1,1,1,0]=X3 at hc
 rw [hR,hc]
 clear hc hR
 simp only [Jp,JaX]
 obtain ⟨l1,l2⟩:=hs.len
 have k1:=hN apex H ha
 have one:(1:Int)≤1:=Int.le_refl _
 cases hn:JB apex with
 | none=>
  rw [hn] at k1
  have hb:bz l apex=(zn0,32,-1):=by unfold bz;rw [if_pos hn]
  simp -implicitDefEqProofs only [bU,reduceIte,Jc,reduceCtorEq,Ja,Jb,bT,Jd,Je,Jf,bV,Ja,Jb,Jg,k1,Option.isSome_none,JG,JH,Jr,rsC,rsV,Js]
  exact ZB hb (.refl _) rfl
 | some ls=>
  rw [hn] at k1
  by_cases h5:(500:Int) < l.length
  ·have hb:bz l apex=(zn0,12,-1):=by unfold bz;rw [if_neg (by rw [hn];simp),if_pos (by omega)]
   simp -implicitDefEqProofs only [bU,reduceIte,Jc,reduceCtorEq,Ja,Jb,bT,Jd,Je,Jf,bV,Ja,Jb,Jg,k1,l1,l2,h5,Option.isSome_some,JG,JH,Jr,rsC,rsV,Js]
   exact ZB hb (.refl _) rfl
  ·have h5':l.length≤500:=by omega
   have hbz:bz l apex=match JL l.length fun i=>decide (Jai (l.getD i rrZ) apex≠0) with
     | some i=>(zn0,Jai (l.getD i rrZ) apex,(i:Nat))
     | none=>match JL l.length (JaZ (l.map zi)) with
      | some i=>(zn0,24,(i:Nat))
      | none=>if (QL (l.map zi) (Jq apex)).1≠0 then (zn0,QL (l.map zi) (Jq apex)) else (⟨apex,Ja3 (l.map zi)⟩,0,0):=by
    unfold bz;rw [if_neg (by rw [hn];simp),if_neg (by omega)];rfl
   have hm0:Mx (H.new (.arr true 0 8 [])) eI (.sl H.n 0 0) []:= .own (by simp) QD
   have hc0:Cl (H.new (.arr true 0 8 [])) (.sl H.n 0 0):=fun i hi rw st z xs he=>by
    simp only [idA,List.mem_singleton] at hi
    subst hi
    rw [QD] at he
    cases he;decide
   simp -implicitDefEqProofs only [bU,reduceIte,Jc,reduceCtorEq,Ja,Jb,bT,Jd,Je,Jf,bV,Ja,Jb,Jg,k1,l1,l2,h5,Option.isSome_some,JE,JQ,List.replicate]
   rw [←hX1]
   refine Jva hs h5' hO hF hD hsz ha (.new _ _) hm0 hc0 (fun j hj=>by simp only [idA,List.mem_singleton] at hj;omega) ?_ ?_ ?_ ?_ rfl ?_ ?_
   any_goals (simp -implicitDefEqProofs only [bU,reduceIte,Jc,reduceCtorEq,Ja,Jb,bT,Jd,Je,Jf];done)
   ·intro i e' g' H' hfx he q4 q5 q6
    have hb:bz l apex=(zn0,Jai (l.getD i rrZ) apex,((i:Nat):Int)):=by rw [hbz,hfx]
    simp -implicitDefEqProofs only [bU,reduceIte,Jc,reduceCtorEq,Ja,Jb,bT,Jd,Je,Jf,bV,Ja,Jb,Jg,Jr,rsC,rsV,Js,q4,q5,q6,z0V]
    exact ZB hb he rfl
   ·intro hone e1 g1 H1 o he hm hid q0 q1 q4 q7
    have hfx:JL l.length (fun i=>decide (Jai (l.getD i rrZ) apex≠0))=none:=Yn fun j hj=>decide_eq_false fun h=>h (hone j hj)
    rw [hfx] at hbz
    simp only at hbz
    have hZl:(l.map zi).length=l.length:=List.length_map _
    obtain ⟨v2,H2,k2,rfl,hm2,hk2⟩:=hT o (l.map zi) H1 hm (by rw [hZl];omega)
    have he2:Ext H H2:=hk2.put he hid
    have oo:=hm.sl.out
    have hbad:Jpk (l.map zi)=ixV (JL l.length (JaZ (l.map zi))):=by unfold Jpk;rw [hZl]
    cases hmx:JL l.length (JaZ (l.map zi)) with
    | some i=>
     rw [hmx] at hbz hbad
     have hb:bz l apex=(zn0,24,((i:Nat):Int)):=hbz
     have hge:(0:Int)≤Jpk (l.map zi):=by rw [hbad];simp [ixV]
     have hvi:Jpk (l.map zi)=((i:Nat):Int):=hbad
     rw [hvi] at k2
     have hge':(0:Int)≤((i:Nat):Int):=by omega
     simp -implicitDefEqProofs only [bU,reduceIte,Jc,reduceCtorEq,Ja,Jb,bT,Jd,Je,Jf,bV,Ja,Jb,Jg,q0,q1,q4,q7,k2,oo,hge',JG,JH,Jr,rsC,rsV,Js,z0V]
     exact ZB hb he2 rfl
    | none=>
     rw [hmx] at hbz hbad
     simp only at hbz
     have hvi:Jpk (l.map zi)= -1:=hbad
     rw [hvi] at k2
     have hok:ZOk (l.map zi):=JqO hone fun i hi=>Jbp hmx i hi
     have hflen: ∀ i,i < (l.map zi).length→(itZ (l.map zi) i).f.length≤1099511627776:=fun i hi=>by
      obtain ⟨⟨b,hb⟩,-⟩:=hok.nm _ (Jh0 hi)
      have:=(Q9 hb).2.2;omega
     have k3:=hRu o (l.map zi) apex H2 hm2.sl (by rw [hZl];omega) hflen ha
     by_cases hr:(QL (l.map zi) (Jq apex)).1=0
     ·rw [if_neg (by simpa using hr)] at hbz
      rw [hr] at k3
      have hm3:Mx (H2.new (.arr true 0 8 [])) eI (.sl H2.n 0 0) []:= .own (by simp) QD
      have hc3:Cl (H2.new (.arr true 0 8 [])) (.sl H2.n 0 0):=fun i hi rw st z xs he=>by
       simp only [idA,List.mem_singleton] at hi
       subst hi
       rw [QD] at he
       cases he;decide
      have hng: ¬ (0:Int)≤ -1:=by decide
      simp -implicitDefEqProofs only [bU,reduceIte,Jc,reduceCtorEq,Ja,Jb,bT,Jd,Je,Jf,bV,Ja,Jb,Jg,q0,q1,q4,q7,k2,k3,oo,hng,JE,JQ,List.replicate]
      rw [←hX2]
      refine JuC (Z:=l.map zi) (apex:=apex) hm2.sl (by rw [hZl];exact h5') (by simp) (.new _ _) hm3 hc3 (fun j hj=>by simp only [idA,List.mem_singleton] at hj;omega) ?_ ?_ ?_ ?_ rfl ?_
      any_goals (simp -implicitDefEqProofs only [bU,reduceIte,Jc,reduceCtorEq,Ja,Jb,bT,Jd,Je,Jf,q1,q4,q7];done)
      intro e3 g3 H3 r he3 hm4 hc4 hid4 w1 w4 w7 w13
      have hkl:(J2 (l.map zi)).length≤500:=by
       unfold J2 Jn
       rw [List.length_map]
       exact Nat.le_trans (List.length_filter_le _ _) (by simp;exact h5')
      obtain ⟨v5,H5,k5,e5,M,pM,sM,xM,cM⟩:=hSo r ((J2 (l.map zi)).map fun x=>(x,false)) H3 hm4.sl hc4 (by simp;omega) fun x hx=>by
       obtain ⟨y,hy,rfl⟩:=List.mem_map.1 hx
       exact hok.kept.nm y hy
      have ro:=hm4.sl.out
      have v5o:=xM.out
      have hMl:M.length≤500:=by rw [pM.length_eq];simpa using hkl
      simp -implicitDefEqProofs only [bU,reduceIte,Jc,reduceCtorEq,Ja,Jb,bT,Jd,Je,Jf,bV,Ja,Jb,Jg,w1,w4,w7,w13,k5,ro,z0V,JG,JH]
      rw [←hX3]
      have hI5:Sx H5 eI o (Je9 (l.map zi)):=Sl.ext hm2.sl (he3.trans e5)
      refine Jup (apex:=apex) hI5 xM (by rw [hZl];exact h5') hMl hOw (.refl _) ?_ ?_ ?_ ?_ rfl ?_
      any_goals (simp -implicitDefEqProofs only [bU,reduceIte,Jc,reduceCtorEq,Ja,Jb,bT,Jd,Je,Jf,w4,w7];done)
      intro e6 g6 H6 zs ds he6 hz u4 u15
      have hperm:(M.map Prod.fst).Perm (J2 (l.map zi)):=by
       have:=pM.map Prod.fst
       rw [List.map_map] at this
       simpa [Function.comp_def] using this
      have hsrt:Srt iLt (M.map Prod.fst):=by
       unfold Srt
       rw [List.pairwise_map]
       exact sM
      have hzn:=Jm3 (W9 (l.map zi)) hok.kept hperm hsrt
      rw [hzn] at hz
      have zc:=hz.rd.row.one
      have zo:=hz.rd.row.out
      have hall:Ext H H6:=((he2.trans he3).trans e5).trans he6
      simp -implicitDefEqProofs only [bU,reduceIte,Jc,reduceCtorEq,Ja,Jb,bT,Jd,Je,Jf,bV,Ja,Jb,Jg,u4,u15,z0V,zc,zo,Jr,rsC,rsV,Js]
      rw [hbz]
      exact ⟨hall,zs,ds,rfl,⟨hz.row,hz.len,hz.dat,hz.nd,fun i hi=>by have:=hz.ge i hi;have:=((he2.trans he3).trans e5).n;omega⟩⟩
     ·rw [if_pos hr] at hbz
      have hng: ¬ (0:Int)≤ -1:=by decide
      simp -implicitDefEqProofs only [bU,reduceIte,Jc,reduceCtorEq,Ja,Jb,bT,Jd,Je,Jf,bV,Ja,Jb,Jg,q0,q1,q4,q7,k2,k3,oo,hng,hr,JG,JH,Jr,rsC,rsV,Js,z0V]
      exact ZB hbz he2 rfl
end
def WC:Fn:=⟨1,[(.t 2)],
  .q (.o [.lbx 1 (.t 0),
   .mv 2 (.c (.i .i64 0))])
  (.q (.q (.o [.fa 6 (.t 1) 1,
   .ld 7 (.t 6) none,
   .ln 8 (.t 7),
   .bn 9 .gtr (.t 8) (.c (.i .i64 500)),
   .mv 10 (.t 9),
   .gd 10 false (.ld 11 (.t 1) (some 2)),
   .gd 10 false (.cl (some 12) 166 [(.t 11)]),
   .gd 10 false (.bn 13 .gtr (.t 12) (.c (.i .i64 500))),
   .pk 14 (.t 10) (.c (.b true)) (.t 13)])
  (.i (.t 14) (.q (.o [.mv 2 (.c (.i .i64 32))])
  (.r))
  (.k)))
  (.q (.p [⟨.ld 16 (.t 1) (some 2),[],true⟩,
   ⟨.cl (some 17) 167 [(.t 16)],[],true⟩,
   ⟨.fa 18 (.t 1) 0,[],false⟩,
   ⟨.ld 19 (.t 18) none,[1],true⟩,
   ⟨.cl (some 20) 142 [(.t 17),(.t 19)],[],false⟩,
   ⟨.mv 15 (.t 20),[],false⟩,
   ⟨.ex 21 (.t 15) 0,[],false⟩,
   ⟨.ex 22 (.t 15) 1,[],false⟩,
   ⟨.ex 23 (.t 15) 2,[],false⟩,
   ⟨.lal 3 (.ag [(.s []),.ns]),[0,3],false⟩,
   ⟨.st (.t 3) (.t 21) 2,[],false⟩,
   ⟨.mv 4 (.t 22),[],false⟩,
   ⟨.mv 5 (.t 23),[],false⟩])
  (.q (.q (.o [.mv 24 (.t 4),
   .bn 25 .neq (.t 24) (.c (.i .i64 0)),
   .mv 26 (.t 25),
   .gd 26 false (.ld 27 (.t 3) (some 2)),
   .gd 26 false (.ld 28 (.t 1) (some 2)),
   .gd 26 false (.cl (some 29) 168 [(.t 27),(.t 28)]),
   .gd 26 false (.un 30 .not (.t 29)),
   .pk 31 (.t 26) (.c (.b true)) (.t 30)])
  (.i (.t 31) (.q (.o [.mv 2 (.c (.i .i64 32))])
  (.r))
  (.k)))
  (.q (.o [.mv 2 (.c (.i .i64 0))])
  (.r)))))⟩
abbrev Yf:Nat:=76
theorem Jdp:Qi Go.Proofs.Tryz.prog WC 76=true:=by kernel_rfl
def WH:Fn:=⟨1,[(.t 2)],
  .q (.o [.lbx 1 (.t 0),
   .mv 2 (.c (.i .i64 0))])
  (.q (.o [.mv 3 (.c (.i .i64 0))])
  (.q (.q (.o [.fa 9 (.t 1) 1,
   .ld 10 (.t 9) none,
   .ln 11 (.t 10),
   .mv 12 (.c (.i .i64 0))])
  (.b 0 (.l [1,3,10,11,12] (.q (.o [.bn 13 .lss (.t 12) (.t 11)])
  (.q (.i (.t 13) (.k)
  (.x 0))
  (.q (.b 1 (.q (.o [.ia 14 (.t 10) (.t 12) 4,
   .ld 15 (.t 14) (some 4),
   .lal 5 (.ag [(.s []),(.i .i64 0),(.i .i64 0),.ns]),
   .st (.t 5) (.t 15) 4])
  (.q (.q (.o [.fa 16 (.t 5) 3,
   .ld 17 (.t 16) none,
   .ln 18 (.t 17),
   .bn 19 .eql (.t 18) (.c (.i .i64 0))])
  (.i (.t 19) (.q (.o [.mv 2 (.c (.i .i64 32))])
  (.r))
  (.k)))
  (.o [.mv 20 (.t 3),
   .fa 21 (.t 5) 3,
   .ld 22 (.t 21) none,
   .ln 23 (.t 22),
   .bn 24 .add (.t 20) (.t 23),
   .mv 3 (.t 24)]))))
  (.o [.bn 25 .add (.t 12) (.c (.i .i64 1)),
   .mv 12 (.t 25)])))))))
  (.q (.q (.o [.mv 26 (.t 3),
   .bn 27 .gtr (.t 26) (.c (.i .i64 500))])
  (.i (.t 27) (.q (.o [.mv 2 (.c (.i .i64 32))])
  (.r))
  (.k)))
  (.q (.p [⟨.ld 29 (.t 1) (some 2),[],true⟩,
   ⟨.cl (some 30) 172 [(.t 29)],[],true⟩,
   ⟨.fa 31 (.t 1) 0,[],false⟩,
   ⟨.ld 32 (.t 31) none,[1],true⟩,
   ⟨.cl (some 33) 110 [(.t 30),(.t 32)],[],false⟩,
   ⟨.mv 28 (.t 33),[],false⟩,
   ⟨.ex 34 (.t 28) 0,[],false⟩,
   ⟨.ex 35 (.t 28) 1,[],false⟩,
   ⟨.ex 36 (.t 28) 2,[],false⟩,
   ⟨.lal 6 (.ag [(.s []),.ns]),[0,3],false⟩,
   ⟨.st (.t 6) (.t 34) 2,[],false⟩,
   ⟨.mv 7 (.t 35),[],false⟩,
   ⟨.mv 8 (.t 36),[],false⟩])
  (.q (.q (.o [.mv 37 (.t 7),
   .bn 38 .neq (.t 37) (.c (.i .i64 0)),
   .mv 39 (.t 38),
   .gd 39 false (.ld 40 (.t 1) (some 2)),
   .gd 39 false (.ld 41 (.t 6) (some 2)),
   .gd 39 false (.cl (some 42) 162 [(.t 40),(.t 41)]),
   .gd 39 false (.un 43 .not (.t 42)),
   .pk 44 (.t 39) (.c (.b true)) (.t 43)])
  (.i (.t 44) (.q (.o [.mv 2 (.c (.i .i64 32))])
  (.r))
  (.k)))
  (.q (.o [.mv 2 (.c (.i .i64 0))])
  (.r)))))))⟩
abbrev Yi:Nat:=81
theorem Jdc:Qi Go.Proofs.Tryz.prog WH 81=true:=by kernel_rfl
def Jk:Fn:=⟨2,[(.c 4 (some 2)),(.t 5),(.t 6)],
  .q (.o [.lal 4 (.ag [(.s []),.ns]),
   .mv 5 (.c (.i .i64 0)),
   .mv 6 (.c (.i .i64 0))])
  (.q (.q (.o [.mv 54 (.t 1),
   .cl (some 55) 114 [(.t 54)],
   .un 56 .not (.t 55)])
  (.i (.t 56) (.q (.o [.bd 57 [(.s []),.ns] [],
   .st (.t 4) (.t 57) 2,
   .mv 5 (.c (.i .i64 32)),
   .mv 6 (.c (.i .i64 (-1)))])
  (.r))
  (.k)))
  (.q (.q (.o [.mv 58 (.t 0),
   .ln 59 (.t 58),
   .bn 60 .gtr (.t 59) (.c (.i .i64 500))])
  (.i (.t 60) (.q (.o [.bd 61 [(.s []),.ns] [],
   .st (.t 4) (.t 61) 2,
   .mv 5 (.c (.i .i64 12)),
   .mv 6 (.c (.i .i64 (-1)))])
  (.r))
  (.k)))
  (.q (.q (.o [.mv 62 (.t 0),
   .ln 63 (.t 62),
   .mv 64 (.c (.i .i64 0))])
  (.b 0 (.l [0,1,4,62,63,64] (.q (.o [.bn 65 .lss (.t 64) (.t 63)])
  (.q (.i (.t 65) (.k)
  (.x 0))
  (.q (.b 1 (.q (.o [.mv 66 (.t 64),
   .ia 67 (.t 62) (.t 64) 5,
   .ld 68 (.t 67) (some 5),
   .lal 8 (.ag [(.s []),(.i .i64 0),(.i .i64 0),(.i .i64 0),(.s [])]),
   .mv 7 (.t 66),
   .st (.t 8) (.t 68) 5])
  (.q (.o [.mv 9 (.c (.i .i64 0))])
  (.q (.b 2 (.q (.o [.fa 70 (.t 8) 0,
   .ld 71 (.t 70) none,
   .cl (some 72) 114 [(.t 71)],
   .un 73 .not (.t 72),
   .mv 69 (.t 73)])
  (.i (.t 69) (.o [.mv 9 (.c (.i .i64 1))])
  (.q (.o [.fa 75 (.t 8) 2,
   .ld 76 (.t 75) none,
   .bn 77 .neq (.t 76) (.c (.i .i64 1)),
   .mv 74 (.t 77)])
  (.i (.t 74) (.o [.mv 9 (.c (.i .i64 19))])
  (.q (.o [.fa 79 (.t 8) 3,
   .ld 80 (.t 79) none,
   .cl (some 81) 82 [(.t 80),(.c (.i .i64 0)),(.c (.i .i64 2147483647))],
   .un 82 .not (.t 81),
   .mv 78 (.t 82)])
  (.i (.t 78) (.o [.mv 9 (.c (.i .i64 18))])
  (.q (.o [.fa 84 (.t 8) 1,
   .ld 85 (.t 84) none,
   .cl (some 86) 105 [(.t 85)],
   .mv 87 (.t 86),
   .gd 87 false (.fa 88 (.t 8) 1),
   .gd 87 false (.ld 89 (.t 88) none),
   .gd 87 false (.cl (some 90) 82 [(.t 89),(.c (.i .i64 1)),(.c (.i .i64 65535))]),
   .gd 87 false (.un 91 .not (.t 90)),
   .pk 92 (.t 87) (.c (.b true)) (.t 91),
   .mv 83 (.t 92)])
  (.i (.t 83) (.o [.mv 9 (.c (.i .i64 6))])
  (.q (.o [.fa 94 (.t 8) 1,
   .ld 95 (.t 94) none,
   .fa 96 (.t 8) 4,
   .ld 97 (.t 96) none,
   .cl (some 98) 106 [(.t 95),(.t 97)],
   .bn 99 .neq (.t 98) (.c (.i .i64 0)),
   .mv 93 (.t 99)])
  (.i (.t 93) (.o [.mv 9 (.c (.i .i64 7))])
  (.q (.o [.fa 101 (.t 8) 0,
   .ld 102 (.t 101) none,
   .mv 103 (.t 1),
   .cl (some 104) 103 [(.t 102),(.t 103)],
   .un 105 .not (.t 104),
   .mv 100 (.t 105)])
  (.i (.t 100) (.o [.mv 9 (.c (.i .i64 22))])
  (.k))))))))))))))
  (.q (.o [.mv 106 (.t 9),
   .bn 107 .neq (.t 106) (.c (.i .i64 0))])
  (.i (.t 107) (.q (.o [.bd 108 [(.s []),.ns] [],
   .mv 109 (.t 9),
   .mv 110 (.t 7),
   .st (.t 4) (.t 108) 2,
   .mv 5 (.t 109),
   .mv 6 (.t 110)])
  (.r))
  (.k)))))))
  (.o [.bn 111 .add (.t 64) (.c (.i .i64 1)),
   .mv 64 (.t 111)])))))))
  (.q (.o [.mkm 112,
   .mv 10 (.t 112)])
  (.q (.o [.mkm 113,
   .mv 11 (.t 113)])
  (.q (.o [.mv 12 (.c .ns)])
  (.q (.q (.o [.mv 114 (.t 0),
   .ln 115 (.t 114),
   .mv 116 (.c (.i .i64 0))])
  (.b 3 (.l [0,1,4,10,11,12,114,115,116] (.q (.o [.bn 117 .lss (.t 116) (.t 115)])
  (.q (.i (.t 117) (.k)
  (.x 3))
  (.q (.b 4 (.q (.o [.mv 118 (.t 116),
   .ia 119 (.t 114) (.t 116) 5,
   .ld 120 (.t 119) (some 5),
   .lal 14 (.ag [(.s []),(.i .i64 0),(.i .i64 0),(.i .i64 0),(.s [])]),
   .mv 13 (.t 118),
   .st (.t 14) (.t 120) 5])
  (.q (.p [⟨.fa 121 (.t 14) 0,[],false⟩,
   ⟨.ld 122 (.t 121) none,[],true⟩,
   ⟨.cl (some 123) 104 [(.t 122)],[],true⟩,
   ⟨.fa 124 (.t 14) 1,[],false⟩,
   ⟨.ld 125 (.t 124) none,[2],true⟩,
   ⟨.bd 126 [(.s []),(.i .i64 0)] [(0,1,(.t 123)),(1,1,(.t 125))],[],false⟩,
   ⟨.lal 15 (.ag [(.s []),(.i .i64 0)]),[1,4],false⟩,
   ⟨.st (.t 15) (.t 126) 2,[],false⟩])
  (.q (.o [.mv 128 (.t 10),
   .ld 129 (.t 15) (some 2),
   .lk 130 (.t 128) (.t 129) (.i .i64 0) [.s,(.i .i64)] true,
   .mv 127 (.t 130),
   .ex 131 (.t 127) 0,
   .ex 132 (.t 127) 1,
   .mv 16 (.t 131),
   .mv 17 (.t 132)])
  (.q (.q (.o [.mv 133 (.t 17),
   .mv 134 (.t 133),
   .gd 134 true (.mv 135 (.t 16)),
   .gd 134 true (.fa 136 (.t 14) 3),
   .gd 134 true (.ld 137 (.t 136) none),
   .gd 134 true (.bn 138 .neq (.t 135) (.t 137)),
   .pk 139 (.t 134) (.t 138) (.c (.b false))])
  (.i (.t 139) (.q (.o [.bd 140 [(.s []),.ns] [],
   .mv 141 (.t 13),
   .st (.t 4) (.t 140) 2,
   .mv 5 (.c (.i .i64 24)),
   .mv 6 (.t 141)])
  (.r))
  (.k)))
  (.q (.o [.mv 142 (.t 10),
   .ld 143 (.t 15) (some 2),
   .fa 144 (.t 14) 3,
   .ld 145 (.t 144) none,
   .mu (.t 142) (.t 143) (.t 145) [.s,(.i .i64)]])
  (.q (.p [⟨.fa 146 (.t 15) 0,[],false⟩,
   ⟨.ld 147 (.t 146) none,[],true⟩,
   ⟨.fa 148 (.t 14) 1,[],false⟩,
   ⟨.ld 149 (.t 148) none,[],false⟩,
   ⟨.cl (some 150) 188 [(.t 149)],[1],true⟩,
   ⟨.bn 151 .add (.t 147) (.t 150),[],false⟩,
   ⟨.fa 152 (.t 14) 1,[],false⟩,
   ⟨.ld 153 (.t 152) none,[4],false⟩,
   ⟨.fa 154 (.t 14) 4,[],false⟩,
   ⟨.ld 155 (.t 154) none,[4],false⟩,
   ⟨.cl (some 156) 107 [(.t 153),(.t 155)],[1],false⟩,
   ⟨.bn 157 .add (.t 151) (.t 156),[],false⟩,
   ⟨.mv 18 (.t 157),[],false⟩])
  (.q (.o [.mv 158 (.t 11),
   .mv 159 (.t 18),
   .lk 160 (.t 158) (.t 159) (.b false) [.s] false,
   .un 161 .not (.t 160)])
  (.i (.t 161) (.q (.o [.mv 162 (.t 11),
   .mv 163 (.t 18),
   .mu (.t 162) (.t 163) (.c (.b true)) [.s]])
  (.o [.mv 164 (.t 12),
   .mv 165 (.t 13),
   .lbs 166 (.i .i64 0) 1 1 [(0,(.t 165))],
   .ap 167 (.t 164) (.t 166) 1 8,
   .mv 12 (.t 167)]))
  (.k))))))))))
  (.o [.bn 168 .add (.t 116) (.c (.i .i64 1)),
   .mv 116 (.t 168)])))))))
  (.q (.o [.mv 169 (.t 1),
   .cl (some 170) 104 [(.t 169)],
   .mv 19 (.t 170)])
  (.q (.o [.mv 20 (.c (.b false)),
   .mv 21 (.c (.b false))])
  (.q (.q (.o [.mv 171 (.t 12),
   .ln 172 (.t 171),
   .mv 173 (.c (.i .i64 0))])
  (.b 5 (.l [0,1,4,12,19,20,21,171,172,173] (.q (.o [.bn 174 .lss (.t 173) (.t 172)])
  (.q (.i (.t 174) (.k)
  (.x 5))
  (.q (.b 6 (.q (.o [.ia 175 (.t 171) (.t 173) 1,
   .ld 176 (.t 175) none,
   .mv 23 (.t 176)])
  (.q (.o [.mv 177 (.t 0),
   .mv 178 (.t 23),
   .ia 179 (.t 177) (.t 178) 5,
   .ld 180 (.t 179) (some 5),
   .lal 24 (.ag [(.s []),(.i .i64 0),(.i .i64 0),(.i .i64 0),(.s [])]),
   .st (.t 24) (.t 180) 5])
  (.q (.q (.o [.fa 181 (.t 24) 1,
   .ld 182 (.t 181) none,
   .bn 183 .eql (.t 182) (.c (.i .i64 6))])
  (.i (.t 183) (.q (.q (.o [.fa 184 (.t 24) 0,
   .ld 185 (.t 184) none,
   .cl (some 186) 104 [(.t 185)],
   .mv 187 (.t 19),
   .bn 188 .neq (.t 186) (.t 187),
   .mv 189 (.t 188),
   .gd 189 false (.mv 190 (.t 20)),
   .pk 191 (.t 189) (.c (.b true)) (.t 190)])
  (.i (.t 191) (.q (.o [.bd 192 [(.s []),.ns] [],
   .mv 193 (.t 23),
   .st (.t 4) (.t 192) 2,
   .mv 5 (.c (.i .i64 20)),
   .mv 6 (.t 193)])
  (.r))
  (.k)))
  (.o [.mv 20 (.c (.b true))]))
  (.k)))
  (.o [.mv 194 (.t 21),
   .mv 195 (.t 194),
   .gd 195 false (.fa 196 (.t 24) 1),
   .gd 195 false (.ld 197 (.t 196) none),
   .gd 195 false (.bn 198 .eql (.t 197) (.c (.i .i64 2))),
   .gd 195 false (.mv 199 (.t 198)),
   .gd 199 true (.fa 200 (.t 24) 0),
   .gd 199 true (.ld 201 (.t 200) none),
   .gd 199 true (.cl (some 202) 104 [(.t 201)]),
   .gd 199 true (.mv 203 (.t 19)),
   .gd 199 true (.bn 204 .eql (.t 202) (.t 203)),
   .gd 195 false (.pk 205 (.t 199) (.t 204) (.c (.b false))),
   .pk 206 (.t 195) (.c (.b true)) (.t 205),
   .mv 21 (.t 206)])))))
  (.o [.bn 207 .add (.t 173) (.c (.i .i64 1)),
   .mv 173 (.t 207)])))))))
  (.q (.q (.o [.mv 208 (.t 20),
   .un 209 .not (.t 208)])
  (.i (.t 209) (.q (.o [.bd 210 [(.s []),.ns] [],
   .st (.t 4) (.t 210) 2,
   .mv 5 (.c (.i .i64 20)),
   .mv 6 (.c (.i .i64 (-1)))])
  (.r))
  (.k)))
  (.q (.q (.o [.mv 211 (.t 21),
   .un 212 .not (.t 211)])
  (.i (.t 212) (.q (.o [.bd 213 [(.s []),.ns] [],
   .st (.t 4) (.t 213) 2,
   .mv 5 (.c (.i .i64 21)),
   .mv 6 (.c (.i .i64 (-1)))])
  (.r))
  (.k)))
  (.q (.q (.o [.mv 214 (.t 12),
   .ln 215 (.t 214),
   .mv 216 (.c (.i .i64 0))])
  (.b 7 (.l [0,1,4,12,214,215,216] (.q (.o [.bn 217 .lss (.t 216) (.t 215)])
  (.q (.i (.t 217) (.k)
  (.x 7))
  (.q (.b 8 (.q (.o [.ia 218 (.t 214) (.t 216) 1,
   .ld 219 (.t 218) none,
   .mv 26 (.t 219)])
  (.q (.o [.mv 220 (.t 0),
   .mv 221 (.t 26),
   .ia 222 (.t 220) (.t 221) 5,
   .ld 223 (.t 222) (some 5),
   .lal 27 (.ag [(.s []),(.i .i64 0),(.i .i64 0),(.i .i64 0),(.s [])]),
   .st (.t 27) (.t 223) 5])
  (.q (.o [.fa 224 (.t 27) 0,
   .ld 225 (.t 224) none,
   .cl (some 226) 182 [(.t 225)],
   .mv 28 (.t 226)])
  (.q (.o [.fa 227 (.t 27) 1,
   .ld 228 (.t 227) none,
   .bn 229 .eql (.t 228) (.c (.i .i64 2)),
   .mv 230 (.t 229),
   .gd 230 false (.fa 231 (.t 27) 1),
   .gd 230 false (.ld 232 (.t 231) none),
   .gd 230 false (.bn 233 .eql (.t 232) (.c (.i .i64 39))),
   .pk 234 (.t 230) (.c (.b true)) (.t 233),
   .mv 235 (.t 234),
   .gd 235 true (.mv 236 (.t 28)),
   .gd 235 true (.ln 237 (.t 236)),
   .gd 235 true (.bn 238 .gtr (.t 237) (.c (.i .i64 0))),
   .pk 239 (.t 235) (.t 238) (.c (.b false)),
   .mv 240 (.t 239),
   .gd 240 true (.mv 241 (.t 28)),
   .gd 240 true (.ia 242 (.t 241) (.c (.i .i64 0)) 1),
   .gd 240 true (.ld 243 (.t 242) none),
   .gd 240 true (.bn 244 .eql (.t 243) (.c (.s [42]))),
   .pk 245 (.t 240) (.t 244) (.c (.b false))])
  (.i (.t 245) (.q (.o [.bd 246 [(.s []),.ns] [],
   .mv 247 (.t 26),
   .st (.t 4) (.t 246) 2,
   .mv 5 (.c (.i .i64 26)),
   .mv 6 (.t 247)])
  (.r))
  (.k)))))))
  (.o [.bn 248 .add (.t 216) (.c (.i .i64 1)),
   .mv 216 (.t 248)])))))))
  (.q (.o [.mkm 249,
   .mv 29 (.t 249)])
  (.q (.q (.o [.mv 250 (.t 12),
   .ln 251 (.t 250),
   .mv 252 (.c (.i .i64 0))])
  (.b 9 (.l [0,1,4,12,29,250,251,252] (.q (.o [.bn 253 .lss (.t 252) (.t 251)])
  (.q (.i (.t 253) (.k)
  (.x 9))
  (.q (.b 10 (.q (.o [.ia 254 (.t 250) (.t 252) 1,
   .ld 255 (.t 254) none,
   .mv 31 (.t 255)])
  (.q (.o [.mv 256 (.t 0),
   .mv 257 (.t 31),
   .ia 258 (.t 256) (.t 257) 5,
   .ld 259 (.t 258) (some 5),
   .lal 32 (.ag [(.s []),(.i .i64 0),(.i .i64 0),(.i .i64 0),(.s [])]),
   .st (.t 32) (.t 259) 5])
  (.q (.o [.fa 260 (.t 32) 1,
   .ld 261 (.t 260) none,
   .bn 262 .eql (.t 261) (.c (.i .i64 5)),
   .mv 263 (.t 262),
   .gd 263 false (.fa 264 (.t 32) 1),
   .gd 263 false (.ld 265 (.t 264) none),
   .gd 263 false (.bn 266 .eql (.t 265) (.c (.i .i64 39))),
   .pk 267 (.t 263) (.c (.b true)) (.t 266)])
  (.i (.t 267) (.q (.p [⟨.fa 268 (.t 32) 0,[],false⟩,
   ⟨.ld 269 (.t 268) none,[],true⟩,
   ⟨.cl (some 270) 104 [(.t 269)],[],true⟩,
   ⟨.fa 271 (.t 32) 1,[],false⟩,
   ⟨.ld 272 (.t 271) none,[2],true⟩,
   ⟨.bd 273 [(.s []),(.i .i64 0)] [(0,1,(.t 270)),(1,1,(.t 272))],[],false⟩,
   ⟨.lal 33 (.ag [(.s []),(.i .i64 0)]),[1,4],false⟩,
   ⟨.st (.t 33) (.t 273) 2,[],false⟩])
  (.q (.q (.o [.mv 274 (.t 29),
   .ld 275 (.t 33) (some 2),
   .lk 276 (.t 274) (.t 275) (.b false) [.s,(.i .i64)] false])
  (.i (.t 276) (.q (.o [.bd 277 [(.s []),.ns] [],
   .mv 278 (.t 31),
   .st (.t 4) (.t 277) 2,
   .mv 5 (.c (.i .i64 23)),
   .mv 6 (.t 278)])
  (.r))
  (.k)))
  (.o [.mv 279 (.t 29),
   .ld 280 (.t 33) (some 2),
   .mu (.t 279) (.t 280) (.c (.b true)) [.s,(.i .i64)]])))
  (.k))))))
  (.o [.bn 281 .add (.t 252) (.c (.i .i64 1)),
   .mv 252 (.t 281)])))))))
  (.q (.q (.o [.mv 282 (.t 12),
   .ln 283 (.t 282),
   .mv 284 (.c (.i .i64 0))])
  (.b 11 (.l [0,1,4,12,29,282,283,284] (.q (.o [.bn 285 .lss (.t 284) (.t 283)])
  (.q (.i (.t 285) (.k)
  (.x 11))
  (.q (.b 12 (.q (.o [.ia 286 (.t 282) (.t 284) 1,
   .ld 287 (.t 286) none,
   .mv 35 (.t 287)])
  (.q (.o [.mv 288 (.t 0),
   .mv 289 (.t 35),
   .ia 290 (.t 288) (.t 289) 5,
   .ld 291 (.t 290) (some 5),
   .lal 36 (.ag [(.s []),(.i .i64 0),(.i .i64 0),(.i .i64 0),(.s [])]),
   .st (.t 36) (.t 291) 5])
  (.q (.o [.mv 292 (.t 29),
   .fa 293 (.t 36) 0,
   .ld 294 (.t 293) none,
   .cl (some 295) 104 [(.t 294)],
   .bd 296 [(.s []),(.i .i64 0)] [(0,1,(.t 295)),(1,1,(.c (.i .i64 5)))],
   .lk 297 (.t 292) (.t 296) (.b false) [.s,(.i .i64)] false,
   .mv 298 (.t 297),
   .gd 298 true (.fa 299 (.t 36) 1),
   .gd 298 true (.ld 300 (.t 299) none),
   .gd 298 true (.bn 301 .neq (.t 300) (.c (.i .i64 5))),
   .pk 302 (.t 298) (.t 301) (.c (.b false)),
   .mv 303 (.t 302),
   .gd 303 true (.fa 304 (.t 36) 1),
   .gd 303 true (.ld 305 (.t 304) none),
   .gd 303 true (.bn 306 .neq (.t 305) (.c (.i .i64 47))),
   .pk 307 (.t 303) (.t 306) (.c (.b false))])
  (.i (.t 307) (.q (.o [.bd 308 [(.s []),.ns] [],
   .mv 309 (.t 35),
   .st (.t 4) (.t 308) 2,
   .mv 5 (.c (.i .i64 23)),
   .mv 6 (.t 309)])
  (.r))
  (.k))))))
  (.o [.bn 310 .add (.t 284) (.c (.i .i64 1)),
   .mv 284 (.t 310)])))))))
  (.q (.q (.o [.mv 311 (.t 12),
   .ln 312 (.t 311),
   .mv 313 (.c (.i .i64 0))])
  (.b 13 (.l [0,1,4,12,29,311,312,313] (.q (.o [.bn 314 .lss (.t 313) (.t 312)])
  (.q (.i (.t 314) (.k)
  (.x 13))
  (.q (.b 14 (.q (.o [.ia 315 (.t 311) (.t 313) 1,
   .ld 316 (.t 315) none,
   .mv 38 (.t 316)])
  (.q (.o [.mv 317 (.t 29),
   .rsm 318 (.t 317)])
  (.b 15 (.l [0,1,4,12,29,38,311,312,313,318] (.q (.o [.nxm 319 (.t 318),
   .ex 320 (.t 319) 0])
  (.q (.i (.t 320) (.k)
  (.x 15))
  (.b 16 (.q (.o [.en 321 (.t 318),
   .ex 322 (.t 321) 0,
   .lal 39 (.ag [(.s []),(.i .i64 0)]),
   .st (.t 39) (.t 322) 2])
  (.q (.p [⟨.fa 323 (.t 39) 1,[],false⟩,
   ⟨.ld 324 (.t 323) none,[],false⟩,
   ⟨.bn 325 .eql (.t 324) (.c (.i .i64 39)),[],false⟩,
   ⟨.mv 326 (.t 325),[],false⟩,
   ⟨.gd 326 true (.mv 327 (.t 0)),[],false⟩,
   ⟨.gd 326 true (.mv 328 (.t 38)),[],false⟩,
   ⟨.gd 326 true (.ia 329 (.t 327) (.t 328) 5),[],false⟩,
   ⟨.gd 326 true (.fa 330 (.t 329) 0),[],false⟩,
   ⟨.gd 326 true (.ld 331 (.t 330) none),[],false⟩,
   ⟨.gd 326 true (.fa 332 (.t 39) 0),[],false⟩,
   ⟨.gd 326 true (.ld 333 (.t 332) none),[],false⟩,
   ⟨.gd 326 true (.cl (some 334) 189 [(.t 331),(.t 333)]),[],false⟩,
   ⟨.pk 335 (.t 326) (.t 334) (.c (.b false)),[],false⟩])
  (.i (.t 335) (.q (.o [.bd 336 [(.s []),.ns] [],
   .mv 337 (.t 38),
   .st (.t 4) (.t 336) 2,
   .mv 5 (.c (.i .i64 25)),
   .mv 6 (.t 337)])
  (.r))
  (.k))))))))))))
  (.o [.bn 338 .add (.t 313) (.c (.i .i64 1)),
   .mv 313 (.t 338)])))))))
  (.q (.o [.mv 339 (.t 1),
   .bd 340 [(.s []),.ns] [(0,1,(.t 339))],
   .al 40 2 [(.ag [(.s []),.ns])],
   .st (.t 40) (.t 340) 2])
  (.q (.o [.mkm 341,
   .mv 41 (.t 341)])
  (.q (.o [.mkm 342,
   .mv 42 (.t 342)])
  (.q (.q (.o [.mv 343 (.t 12),
   .ln 344 (.t 343),
   .mv 345 (.c (.i .i64 0))])
  (.b 17 (.l [0,4,40,41,42,343,344,345] (.q (.o [.bn 346 .lss (.t 345) (.t 344)])
  (.q (.i (.t 346) (.k)
  (.x 17))
  (.q (.b 18 (.q (.o [.ia 347 (.t 343) (.t 345) 1,
   .ld 348 (.t 347) none,
   .mv 44 (.t 348)])
  (.q (.o [.mv 349 (.t 0),
   .mv 350 (.t 44),
   .ia 351 (.t 349) (.t 350) 5,
   .ld 352 (.t 351) (some 5),
   .lal 45 (.ag [(.s []),(.i .i64 0),(.i .i64 0),(.i .i64 0),(.s [])]),
   .st (.t 45) (.t 352) 5])
  (.q (.o [.fa 353 (.t 45) 0,
   .ld 354 (.t 353) none,
   .cl (some 355) 104 [(.t 354)],
   .mv 46 (.t 355)])
  (.q (.q (.o [.mv 357 (.t 41),
   .mv 358 (.t 46),
   .lk 359 (.t 357) (.t 358) (.s []) [.s] true,
   .mv 356 (.t 359),
   .ex 360 (.t 356) 0,
   .ex 361 (.t 356) 1,
   .mv 47 (.t 360),
   .mv 48 (.t 361)])
  (.q (.o [.mv 362 (.t 48),
   .un 363 .not (.t 362)])
  (.i (.t 363) (.o [.mv 364 (.t 41),
   .mv 365 (.t 46),
   .fa 366 (.t 45) 0,
   .ld 367 (.t 366) none,
   .mu (.t 364) (.t 365) (.t 367) [.s]])
  (.k))))
  (.q (.o [.mv 368 (.t 46),
   .fa 369 (.t 45) 1,
   .ld 370 (.t 369) none,
   .bd 371 [(.s []),(.i .i64 0)] [(0,1,(.t 368)),(1,1,(.t 370))],
   .lal 49 (.ag [(.s []),(.i .i64 0)]),
   .st (.t 49) (.t 371) 2])
  (.q (.o [.mv 373 (.t 42),
   .ld 374 (.t 49) (some 2),
   .lk 375 (.t 373) (.t 374) (.i .i64 0) [.s,(.i .i64)] true,
   .mv 372 (.t 375),
   .ex 376 (.t 372) 0,
   .ex 377 (.t 372) 1,
   .mv 50 (.t 376),
   .mv 51 (.t 377)])
  (.q (.q (.o [.mv 378 (.t 51),
   .un 379 .not (.t 378)])
  (.i (.t 379) (.q (.o [.fa 380 (.t 40) 1,
   .ld 381 (.t 380) none,
   .ln 382 (.t 381),
   .mv 50 (.t 382)])
  (.q (.o [.mv 383 (.t 42),
   .ld 384 (.t 49) (some 2),
   .mv 385 (.t 50),
   .mu (.t 383) (.t 384) (.t 385) [.s,(.i .i64)]])
  (.o [.fa 386 (.t 40) 1,
   .ld 387 (.t 386) none,
   .mv 388 (.t 41),
   .mv 389 (.t 46),
   .lk 390 (.t 388) (.t 389) (.s []) [.s] false,
   .fa 391 (.t 45) 1,
   .ld 392 (.t 391) none,
   .fa 393 (.t 45) 3,
   .ld 394 (.t 393) none,
   .bd 395 [(.s []),(.i .i64 0),(.i .i64 0),.ns] [(0,1,(.t 390)),(1,1,(.t 392)),(2,1,(.t 394))],
   .lbs 396 (.ag [(.s []),(.i .i64 0),(.i .i64 0),.ns]) 4 1 [(0,(.t 395))],
   .ap 397 (.t 387) (.t 396) 4 56,
   .fa 398 (.t 40) 1,
   .st (.t 398) (.t 397) 1])))
  (.k)))
  (.p [⟨.fa 399 (.t 40) 1,[],false⟩,
   ⟨.ld 400 (.t 399) none,[],true⟩,
   ⟨.mv 401 (.t 50),[],false⟩,
   ⟨.fa 402 (.t 40) 1,[],false⟩,
   ⟨.ld 403 (.t 402) none,[],true⟩,
   ⟨.mv 404 (.t 50),[],false⟩,
   ⟨.ia 405 (.t 403) (.t 404) 4,[],true⟩,
   ⟨.fa 406 (.t 405) 3,[],false⟩,
   ⟨.ld 407 (.t 406) none,[],true⟩,
   ⟨.fa 408 (.t 45) 4,[],false⟩,
   ⟨.ld 409 (.t 408) none,[],false⟩,
   ⟨.lbs 410 (.s []) 1 1 [(0,(.t 409))],[1,4,6,8],false⟩,
   ⟨.ap 411 (.t 407) (.t 410) 1 16,[1],false⟩,
   ⟨.ia 412 (.t 400) (.t 401) 4,[],false⟩,
   ⟨.fa 413 (.t 412) 3,[],false⟩,
   ⟨.st (.t 413) (.t 411) 1,[],false⟩])))))))))
  (.o [.bn 414 .add (.t 345) (.c (.i .i64 1)),
   .mv 345 (.t 414)])))))))
  (.q (.q (.o [.fa 415 (.t 40) 1,
   .ld 416 (.t 415) none,
   .ln 417 (.t 416),
   .mv 418 (.c (.i .i64 0))])
  (.b 19 (.l [4,40,416,417,418] (.q (.o [.bn 419 .lss (.t 418) (.t 417)])
  (.q (.i (.t 419) (.k)
  (.x 19))
  (.q (.b 20 (.q (.o [.ia 420 (.t 416) (.t 418) 4,
   .ld 421 (.t 420) (some 4),
   .al 53 4 [(.ag [(.s []),(.i .i64 0),(.i .i64 0),.ns])],
   .st (.t 53) (.t 421) 4])
  (.o [.fa 422 (.t 53) 3,
   .ld 423 (.t 422) none,
   .mi 424 81 (.t 423),
   .mf 425 190 [(.t 53)],
   .cl (some 426) 138 [(.t 424),(.t 425)]])))
  (.o [.bn 427 .add (.t 418) (.c (.i .i64 1)),
   .mv 418 (.t 427)])))))))
  (.q (.o [.fa 428 (.t 40) 1,
   .ld 429 (.t 428) none,
   .mi 430 26 (.t 429),
   .mf 431 192 [(.t 40)],
   .cl (some 432) 138 [(.t 430),(.t 431)]])
  (.q (.o [.ld 433 (.t 40) (some 2),
   .st (.t 4) (.t 433) 2,
   .mv 5 (.c (.i .i64 0)),
   .mv 6 (.c (.i .i64 0))])
  (.r)))))))))))))))))))))))))⟩
abbrev Yc:Nat:=110
theorem Jdo:Qi Go.Proofs.Tryz.prog Jk 110=true:=by kernel_rfl
def XB:Fn:=⟨2,[(.t 4)],
  .q (.o [.lbx 2 (.t 0),
   .lbx 3 (.t 1),
   .mv 4 (.c (.b false))])
  (.q (.q (.o [.fa 9 (.t 2) 0,
   .ld 10 (.t 9) none,
   .fa 11 (.t 3) 0,
   .ld 12 (.t 11) none,
   .bn 13 .neq (.t 10) (.t 12),
   .mv 14 (.t 13),
   .gd 14 false (.fa 15 (.t 2) 1),
   .gd 14 false (.ld 16 (.t 15) none),
   .gd 14 false (.ln 17 (.t 16)),
   .gd 14 false (.fa 18 (.t 3) 1),
   .gd 14 false (.ld 19 (.t 18) none),
   .gd 14 false (.ln 20 (.t 19)),
   .gd 14 false (.bn 21 .neq (.t 17) (.t 20)),
   .pk 22 (.t 14) (.c (.b true)) (.t 21)])
  (.i (.t 22) (.q (.o [.mv 4 (.c (.b false))])
  (.r))
  (.k)))
  (.q (.q (.o [.fa 23 (.t 2) 1,
   .ld 24 (.t 23) none,
   .ln 25 (.t 24),
   .mv 26 (.c (.i .i64 0))])
  (.b 0 (.l [3,24,25,26] (.q (.o [.bn 27 .lss (.t 26) (.t 25)])
  (.q (.i (.t 27) (.k)
  (.x 0))
  (.q (.b 1 (.q (.o [.mv 28 (.t 26),
   .ia 29 (.t 24) (.t 26) 4,
   .ld 30 (.t 29) (some 4),
   .lal 6 (.ag [(.s []),(.i .i64 0),(.i .i64 0),.ns]),
   .mv 5 (.t 28),
   .st (.t 6) (.t 30) 4])
  (.q (.o [.fa 31 (.t 3) 1,
   .ld 32 (.t 31) none,
   .mv 33 (.t 5),
   .ia 34 (.t 32) (.t 33) 4,
   .ld 35 (.t 34) (some 4),
   .lal 7 (.ag [(.s []),(.i .i64 0),(.i .i64 0),.ns]),
   .st (.t 7) (.t 35) 4])
  (.q (.q (.o [.fa 36 (.t 6) 0,
   .ld 37 (.t 36) none,
   .fa 38 (.t 7) 0,
   .ld 39 (.t 38) none,
   .bn 40 .neq (.t 37) (.t 39),
   .mv 41 (.t 40),
   .gd 41 false (.fa 42 (.t 6) 1),
   .gd 41 false (.ld 43 (.t 42) none),
   .gd 41 false (.fa 44 (.t 7) 1),
   .gd 41 false (.ld 45 (.t 44) none),
   .gd 41 false (.bn 46 .neq (.t 43) (.t 45)),
   .pk 47 (.t 41) (.c (.b true)) (.t 46),
   .mv 48 (.t 47),
   .gd 48 false (.fa 49 (.t 6) 2),
   .gd 48 false (.ld 50 (.t 49) none),
   .gd 48 false (.fa 51 (.t 7) 2),
   .gd 48 false (.ld 52 (.t 51) none),
   .gd 48 false (.bn 53 .neq (.t 50) (.t 52)),
   .pk 54 (.t 48) (.c (.b true)) (.t 53),
   .mv 55 (.t 54),
   .gd 55 false (.fa 56 (.t 6) 3),
   .gd 55 false (.ld 57 (.t 56) none),
   .gd 55 false (.ln 58 (.t 57)),
   .gd 55 false (.fa 59 (.t 7) 3),
   .gd 55 false (.ld 60 (.t 59) none),
   .gd 55 false (.ln 61 (.t 60)),
   .gd 55 false (.bn 62 .neq (.t 58) (.t 61)),
   .pk 63 (.t 55) (.c (.b true)) (.t 62)])
  (.i (.t 63) (.q (.o [.mv 4 (.c (.b false))])
  (.r))
  (.k)))
  (.q (.o [.fa 64 (.t 6) 3,
   .ld 65 (.t 64) none,
   .ln 66 (.t 65),
   .mv 67 (.c (.i .i64 0))])
  (.b 2 (.l [3,6,7,24,25,26,66,67] (.q (.o [.bn 68 .lss (.t 67) (.t 66)])
  (.q (.i (.t 68) (.k)
  (.x 2))
  (.q (.b 3 (.q (.o [.mv 69 (.t 67),
   .mv 8 (.t 69)])
  (.q (.p [⟨.fa 70 (.t 6) 3,[],false⟩,
   ⟨.ld 71 (.t 70) none,[],false⟩,
   ⟨.mv 72 (.t 8),[],false⟩,
   ⟨.ia 73 (.t 71) (.t 72) 1,[],false⟩,
   ⟨.ld 74 (.t 73) none,[],false⟩,
   ⟨.fa 75 (.t 7) 3,[],false⟩,
   ⟨.ld 76 (.t 75) none,[],false⟩,
   ⟨.mv 77 (.t 8),[],false⟩,
   ⟨.ia 78 (.t 76) (.t 77) 1,[],false⟩,
   ⟨.ld 79 (.t 78) none,[],false⟩,
   ⟨.bn 80 .neq (.t 74) (.t 79),[],false⟩])
  (.i (.t 80) (.q (.o [.mv 4 (.c (.b false))])
  (.r))
  (.k)))))
  (.o [.bn 81 .add (.t 67) (.c (.i .i64 1)),
   .mv 67 (.t 81)])))))))))))
  (.o [.bn 82 .add (.t 26) (.c (.i .i64 1)),
   .mv 26 (.t 82)])))))))
  (.q (.o [.mv 4 (.c (.b true))])
  (.r))))⟩
abbrev YX:Nat:=162
theorem JeF:Qi Go.Proofs.Tryz.prog XB 162=true:=by kernel_rfl
def QN:Fn:=⟨1,[(.t 2)],
  .q (.o [.lbx 1 (.t 0),
   .mv 2 (.c .ns)])
  (.q (.q (.o [.fa 6 (.t 1) 1,
   .ld 7 (.t 6) none,
   .ln 8 (.t 7),
   .bn 9 .gtr (.t 8) (.c (.i .i64 500))])
  (.i (.t 9) (.q (.o [.mv 2 (.c .ns)])
  (.r))
  (.k)))
  (.q (.o [.mv 3 (.c .ns)])
  (.q (.q (.o [.fa 10 (.t 1) 1,
   .ld 11 (.t 10) none,
   .ln 12 (.t 11),
   .mv 13 (.c (.i .i64 0))])
  (.b 0 (.l [3,11,12,13] (.q (.o [.bn 14 .lss (.t 13) (.t 12)])
  (.q (.i (.t 14) (.k)
  (.x 0))
  (.q (.b 1 (.q (.o [.ia 15 (.t 11) (.t 13) 4,
   .ld 16 (.t 15) (some 4),
   .lal 5 (.ag [(.s []),(.i .i64 0),(.i .i64 0),.ns]),
   .st (.t 5) (.t 16) 4])
  (.q (.q (.o [.mv 17 (.t 3),
   .ln 18 (.t 17),
   .fa 19 (.t 5) 3,
   .ld 20 (.t 19) none,
   .ln 21 (.t 20),
   .bn 22 .add (.t 18) (.t 21),
   .bn 23 .gtr (.t 22) (.c (.i .i64 500))])
  (.i (.t 23) (.q (.o [.mv 2 (.c .ns)])
  (.r))
  (.k)))
  (.o [.mv 24 (.t 3),
   .ld 25 (.t 5) (some 4),
   .cl (some 26) 217 [(.t 25)],
   .ap 27 (.t 24) (.t 26) 5 56,
   .mv 3 (.t 27)]))))
  (.o [.bn 28 .add (.t 13) (.c (.i .i64 1)),
   .mv 13 (.t 28)])))))))
  (.q (.o [.mv 29 (.t 3),
   .mv 2 (.t 29)])
  (.r)))))⟩
abbrev QV:Nat:=172
theorem JcC:Qi Go.Proofs.Tryz.prog QN 172=true:=by kernel_rfl
def Q5:Fn:=⟨3,[(.t 5)],
  .q (.o [.mv 5 (.c (.b false))])
  (.q (.p [⟨.fa 6 (.t 2) 1,[],false⟩,
   ⟨.ld 7 (.t 6) none,[],false⟩,
   ⟨.fa 8 (.t 2) 3,[],false⟩,
   ⟨.ld 9 (.t 8) none,[],false⟩,
   ⟨.mv 10 (.t 0),[],false⟩,
   ⟨.ia 11 (.t 9) (.t 10) 1,[],false⟩,
   ⟨.ld 12 (.t 11) none,[],false⟩,
   ⟨.fa 13 (.t 2) 3,[],false⟩,
   ⟨.ld 14 (.t 13) none,[],false⟩,
   ⟨.mv 15 (.t 1),[],false⟩,
   ⟨.ia 16 (.t 14) (.t 15) 1,[],false⟩,
   ⟨.ld 17 (.t 16) none,[],false⟩,
   ⟨.cl (some 18) 191 [(.t 7),(.t 12),(.t 17)],[],false⟩,
   ⟨.bn 19 .lss (.t 18) (.c (.i .i64 0)),[],false⟩,
   ⟨.mv 5 (.t 19),[],false⟩])
  (.r))⟩
abbrev Y3:Nat:=190
theorem Jb9:Qi Go.Proofs.Tryz.prog Q5 190=true:=by kernel_rfl
def Q4:Fn:=⟨3,[(.t 5)],
  .q (.o [.mv 5 (.c (.b false))])
  (.q (.p [⟨.fa 7 (.t 2) 1,[],false⟩,
   ⟨.ld 8 (.t 7) none,[],false⟩,
   ⟨.mv 9 (.t 0),[],false⟩,
   ⟨.ia 10 (.t 8) (.t 9) 4,[],false⟩,
   ⟨.fa 11 (.t 10) 0,[],false⟩,
   ⟨.ld 12 (.t 11) none,[],false⟩,
   ⟨.fa 13 (.t 2) 1,[],false⟩,
   ⟨.ld 14 (.t 13) none,[],false⟩,
   ⟨.mv 15 (.t 1),[],false⟩,
   ⟨.ia 16 (.t 14) (.t 15) 4,[],false⟩,
   ⟨.fa 17 (.t 16) 0,[],false⟩,
   ⟨.ld 18 (.t 17) none,[],false⟩,
   ⟨.cl (some 19) 127 [(.t 12),(.t 18)],[],false⟩,
   ⟨.mv 6 (.t 19),[],false⟩])
  (.q (.p [⟨.mv 20 (.t 6),[],false⟩,
   ⟨.bn 21 .lss (.t 20) (.c (.i .i64 0)),[],false⟩,
   ⟨.mv 22 (.t 21),[],false⟩,
   ⟨.gd 22 false (.mv 23 (.t 6)),[],false⟩,
   ⟨.gd 22 false (.bn 24 .eql (.t 23) (.c (.i .i64 0))),[],false⟩,
   ⟨.gd 22 false (.mv 25 (.t 24)),[],false⟩,
   ⟨.gd 25 true (.fa 26 (.t 2) 1),[],false⟩,
   ⟨.gd 25 true (.ld 27 (.t 26) none),[],false⟩,
   ⟨.gd 25 true (.mv 28 (.t 0)),[],false⟩,
   ⟨.gd 25 true (.ia 29 (.t 27) (.t 28) 4),[],false⟩,
   ⟨.gd 25 true (.fa 30 (.t 29) 1),[],false⟩,
   ⟨.gd 25 true (.ld 31 (.t 30) none),[],false⟩,
   ⟨.gd 25 true (.fa 32 (.t 2) 1),[],false⟩,
   ⟨.gd 25 true (.ld 33 (.t 32) none),[],false⟩,
   ⟨.gd 25 true (.mv 34 (.t 1)),[],false⟩,
   ⟨.gd 25 true (.ia 35 (.t 33) (.t 34) 4),[],false⟩,
   ⟨.gd 25 true (.fa 36 (.t 35) 1),[],false⟩,
   ⟨.gd 25 true (.ld 37 (.t 36) none),[],false⟩,
   ⟨.gd 25 true (.bn 38 .lss (.t 31) (.t 37)),[],false⟩,
   ⟨.gd 22 false (.pk 39 (.t 25) (.t 38) (.c (.b false))),[],false⟩,
   ⟨.pk 40 (.t 22) (.c (.b true)) (.t 39),[],false⟩,
   ⟨.mv 5 (.t 40),[],false⟩])
  (.r)))⟩
abbrev YS:Nat:=192
theorem Jcd:Qi Go.Proofs.Tryz.prog Q4 192=true:=by kernel_rfl
def Q0:Fn:=⟨1,[(.t 2)],
  .q (.o [.lbx 1 (.t 0),
   .mv 2 (.c .ns)])
  (.q (.o [.mv 3 (.c .ns)])
  (.q (.q (.o [.fa 6 (.t 1) 3,
   .ld 7 (.t 6) none,
   .ln 8 (.t 7),
   .mv 9 (.c (.i .i64 0))])
  (.b 0 (.l [1,3,7,8,9] (.q (.o [.bn 10 .lss (.t 9) (.t 8)])
  (.q (.i (.t 10) (.k)
  (.x 0))
  (.q (.b 1 (.q (.o [.ia 11 (.t 7) (.t 9) 1,
   .ld 12 (.t 11) none,
   .mv 5 (.t 12)])
  (.o [.mv 13 (.t 3),
   .fa 14 (.t 1) 0,
   .ld 15 (.t 14) none,
   .fa 16 (.t 1) 1,
   .ld 17 (.t 16) none,
   .fa 18 (.t 1) 2,
   .ld 19 (.t 18) none,
   .mv 20 (.t 5),
   .bd 21 [(.s []),(.i .i64 0),(.i .i64 0),(.i .i64 0),(.s [])] [(0,1,(.t 15)),(1,1,(.t 17)),(2,1,(.c (.i .i64 1))),(3,1,(.t 19)),(4,1,(.t 20))],
   .lbs 22 (.ag [(.s []),(.i .i64 0),(.i .i64 0),(.i .i64 0),(.s [])]) 5 1 [(0,(.t 21))],
   .ap 23 (.t 13) (.t 22) 5 56,
   .mv 3 (.t 23)])))
  (.o [.bn 24 .add (.t 9) (.c (.i .i64 1)),
   .mv 9 (.t 24)])))))))
  (.q (.o [.mv 25 (.t 3),
   .mv 2 (.t 25)])
  (.r))))⟩
abbrev WS:Nat:=217
theorem Jcu:Qi Go.Proofs.Tryz.prog Q0 217=true:=by kernel_rfl
def Jam (l:List Qa):Nat:=(l.map fun s=>s.d.length).sum
theorem Jaz {l:List Qa} {i:Nat} (h:i < l.length):Jam (l.take (i+1))=Jam (l.take i)+l[i].d.length:=by
 unfold Jam
 rw [List.take_succ_eq_append_getElem h,List.map_append,List.sum_append];simp
theorem Ja6 (l:List Qa) (i:Nat):Jam (l.take i)≤Jam l:=by
 unfold Jam
 conv=>rhs;rw [←List.take_append_drop i l,List.map_append,List.sum_append]
 omega
structure SzZ (z:Zn):Prop where
 a:z.a.length≤1048576
 s:z.s.length≤1048576
 c:Jam z.s≤1048576
 o: ∀ s,s∈z.s→s.o.length≤1048576
 d: ∀ s,s∈z.s→ ∀ d,d∈s.d→d.length≤1048576
theorem Jah {l:List Qa} {s:Qa} (h:s∈l):s.d.length≤Jam l:=by
 induction l with
 | nil=>cases h
 | cons t l ih=>
  unfold Jam at*
  simp only [List.map_cons,List.sum_cons]
  rcases List.mem_cons.1 h with rfl | h
  ·omega
  ·have:=ih h;omega
section
variable {C:Tab}
def Jgr (C:Tab) (f:Nat):Prop:= ∀ (a:List UInt8) (zs:AV) (sets:List Qa) (ds:List AV) (H:AH),ZS H zs sets ds→sets.length≤1048576→Jam sets≤1048576→C f [.ag [.s a,zs]] H=some (.i .i64 (Jam sets:Nat),H)
def Je1 (C:Tab) (f:Nat):Prop:= ∀ (s:Qa) (d:AV) (H:AH),Sl H 1 d (s.d.map AV.s)→s.d.length≤1048576→ ∃ v H',C f [sV s d] H=some (v,H')∧Ext H H'∧Mx H' eR v (JbC s)∧ ∀ i,i∈idA v→H.n≤i
def JhX (C:Tab) (f:Nat):Prop:= ∀ (a b:AV) (xs ys:List Rr) (H:AH),Mx H eR a xs→Sx H eR b ys→Dj b a→xs.length+ys.length≤1099511627→ ∃ v H',C f [a,b] H=some (v,H')∧Mx H' eR v (xs++ys)∧Kp (idA a) H H'∧ ∀ i,i∈idA v→i∈idA a∨H.n≤i
theorem Jqw {a:List UInt8} {zs:AV} {sets:List Qa} {ds:List AV} {H:AH} (h:ZS H zs sets ds) (hl:sets.length≤1048576) (hc:Jam sets≤1048576):Jt C Xr [.ag [.s a,zs]] H fun v H'=>v= .i .i64 (Jam sets:Nat)∧QA H H':=by
 unfold Jt Xr
 have hk:=JA H
 obtain ⟨l1,l2⟩:=h.row.len
 rw [QK h.len] at l1
 have zo:=h.row.out
 simp -implicitDefEqProofs only [bU,reduceIte,Jc,reduceCtorEq,Ja,Jb,bT,Jd,Je,Jf,bV,Ja,Jb,Jg]
 refine Jl (fun m e M=> ∃ (i:Nat) (g:Nat),i≤sets.length∧m=sets.length-i∧look e 1= .la 1 0 0 0∧look e 3= .i .i64 (Jam (sets.take i):Nat)∧look e 4= .i .i64 i∧M=⟨[⟨1,0,0,[.ag [.s a,zs]]⟩],g,H⟩) ?_ (n:=sets.length)
  ⟨0,_,by omega,by omega,rfl,rfl,rfl,rfl⟩
 rintro m e M ⟨i,g,hi,rfl,q1,q3,q4,rfl⟩
 by_cases h1:(i:Int) < sets.length
 ·have hil:i < sets.length:=by omega
  have hid:i < ds.length:=by rw [h.len];exact hil
  obtain ⟨a1,a2,a3,a4,-,-,-,a8,-,-⟩:=h.at' hil hid
  obtain ⟨d1,d2⟩:=(h.dat i hil hid).len
  rw [List.length_map] at d1
  have e1:=Jaz hil
  have e2:=Ja6 sets (i+1)
  have w3:IntKind.i64.wrap ((Jam (sets.take i):Int)+(sets[i].d.length:Int))=((Jam (sets.take (i+1)):Nat):Int):=by rw [w64 (by omega) (by omega)];omega
  have w4:IntKind.i64.wrap ((i:Int)+1)=((i+1:Nat):Int):=by rw [w64 (by omega) (by omega)];rfl
  have bd:sets.length- (i+1) < sets.length-i:=by omega
  simp -implicitDefEqProofs only [bU,reduceIte,Jc,reduceCtorEq,Ja,Jb,bT,Jd,Je,Jf,bV,Ja,Jb,Jg,q1,q3,q4,l1,l2,h1,Jj,a1,a2,a3,a4,a8,d1,d2,w3,w4]
  exact ⟨_,bd,i+1,_,hil,rfl,rfl,rfl,rfl⟩
 ·have hil:i=sets.length:=by omega
  subst hil
  rw [List.take_length] at q3
  simp -implicitDefEqProofs only [bU,reduceIte,Jc,reduceCtorEq,Ja,Jb,bT,Jd,Je,Jf,bV,Ja,Jb,Jg,q1,q3,q4,l1,l2,h1,Jr,rsC,rsV,Js]
  exact hk
theorem JoT {a b:AV} {xs ys:List Rr} {H:AH} (ha:Mx H eR a xs) (hb:Sx H eR b ys) (hd:Dj b a) (hn:xs.length+ys.length≤1099511627):
  Jt C XT [a,b] H fun v H'=>Mx H' eR v (xs++ys)∧Kp (idA a) H H'∧ ∀ i,i∈idA v→i∈idA a∨H.n≤i:=by
 unfold Jt XT
 obtain ⟨l1,l2⟩:=hb.len
 have ob:=hb.out
 simp -implicitDefEqProofs only [bU,reduceIte,Jc,reduceCtorEq,Ja,Jb,bT,Jd,Je,Jf]
 refine Jl (fun n e M=> ∃ (i:Nat) (o:AV) (H':AH) (L:List Lv) (g:Nat),i≤ys.length∧n=ys.length-i∧look e 0=o∧look e 1=b∧look e 5= .i .i64 i∧M=⟨L,g,H'⟩∧Mx H' eR o (xs++ys.take i)∧Kp (idA a) H H'∧(∀ j,j∈idA o→j∈idA a∨H.n≤j)) ?_ (n:=ys.length)
  ⟨0,a,H,_,_,by omega,by omega,rfl,rfl,rfl,rfl,by simpa using ha,.refl _ _,fun j hj=> .inl hj⟩
 rintro n e M ⟨i,o,H',L,g,hi,rfl,q0,q1,q5,rfl,hm,hk,hid⟩
 have hb':Sx H' eR b ys:=hk.sl hb hd
 have ho:=(Mn.sl hm).out
 by_cases hlt:(i:Int) < ys.length
 ·have hil:i < ys.length:=by omega
  obtain ⟨b1,b2,b3,b4⟩:=Sx.at' hb' hil
  have w9:IntKind.i64.wrap ((i:Int)+1)=((i+1:Nat):Int):=by rw [w64 (by omega) (by omega)];rfl
  obtain ⟨p1,o',H2,p2,p3,p4,p5,p6,p7,-,-⟩:=Mn.ap (by':=56) hm (Qk (t:=17) (g:=g) (x:=eR.v ys[i]) (L:=ZK (JJ [0,1,5] L) 17) (H:=H')) (by simp;omega)
  rw [show eR.z=5 from rfl,JcE] at p1 p2 p3
  rw [JcE] at b4
  rw [show eR.z=5 from rfl] at b1 b3 b4
  simp -implicitDefEqProofs only [bU,reduceIte,Jc,reduceCtorEq,Ja,Jb,bT,Jd,Je,Jf,bV,Ja,Jb,Jg,q0,q1,q5,l1,l2,hlt,b1,b2,b3,b4,Jj,JE,JQ,List.replicate,List.set]
  simp -implicitDefEqProofs only [bU,reduceIte,Jc,reduceCtorEq,Ja,Jb,p1,p2,p3,w9]
  refine ⟨ys.length- (i+1),by omega,i+1,o',H2,_,_,by omega,rfl,rfl,rfl,rfl,?_,⟨Nat.le_trans hk.n p5,fun j hj hja=>(p6 j (Nat.lt_of_lt_of_le hj hk.n) fun hh=>(hid j hh).elim hja fun h2=>by omega).trans (hk.at' j hj hja)⟩,fun j hj=> ?_⟩
  ·have e:ys.take (i+1)=ys.take i++[ys[i]]:=by rw [←List.take_append_getElem hil]
   rw [e,←List.append_assoc]
   show Mn H2 eR.z o' _
   rw [List.map_append];exact p4
  ·rcases p7 j hj with h | h
   ·exact hid j h
   ·have:=hk.n;exact .inr (by omega)
 ·have hie:i=ys.length:=by omega
  subst hie
  rw [List.take_length] at hm
  simp -implicitDefEqProofs only [bU,reduceIte,Jc,reduceCtorEq,Ja,Jb,bT,Jd,Je,Jf,q0,q1,q5,l1,l2,hlt,ho,Jr,rsC,rsV,Js]
  exact ⟨hm,hk,hid⟩
theorem JpD {s:Qa} {d:AV} {H:AH} (h:Sl H 1 d (s.d.map AV.s)) (hl:s.d.length≤1048576):Jt C Qu [sV s d] H fun v H'=>Ext H H'∧Mx H' eR v (JbC s)∧ ∀ i,i∈idA v→H.n≤i:=by
 unfold Jt Qu
 obtain ⟨l1,l2⟩:=h.len
 rw [List.length_map] at l1
 have dO:=h.out
 have dc:=h.one
 have hm0:Mx (H.new (.arr true 0 5 [])) eR (.sl H.n 0 0) []:= .own (by simp) QD
 simp -implicitDefEqProofs only [bU,reduceIte,Jc,reduceCtorEq,Ja,Jb,bT,Jd,Je,Jf,bV,Ja,Jb,Jg,sV,JE,JQ,List.replicate]
 refine Jl (fun m e M=> ∃ (i:Nat) (o:AV) (H':AH) (L0:List Lv) (g:Nat),i≤s.d.length∧m=s.d.length-i∧look e 1= .la 1 0 0 0∧look e 3=o∧look e 4= .i .i64 i∧M=⟨L0,g,H'⟩∧JJ [1,3,4] L0=[⟨1,0,0,[.ag [.s s.o,.i .i64 s.t,.i .i64 s.ttl,d]]⟩]∧Ext H H'∧
   Mx H' eR o ((s.d.take i).map fun x=>(⟨s.o,s.t,1,s.ttl,x⟩:Rr))∧ ∀ j,j∈idA o→H.n≤j) ?_ (n:=s.d.length)
  ⟨0,.sl H.n 0 0,_,_,_,by omega,by omega,rfl,rfl,rfl,rfl,rfl,.new _ _,by simpa using hm0,fun j hj=>by simp only [idA,List.mem_singleton] at hj;omega⟩
 rintro m e M ⟨i,o,H',L0,g,hi,rfl,q1,q3,q4,rfl,hL0,he,hm,hid⟩
 by_cases h1:(i:Int) < s.d.length
 ·have hil:i < s.d.length:=by omega
  have hg:(s.d.map AV.s).getD i .u= .s s.d[i]:=by simp [List.getD,hil]
  have ia:=fun (L:List Lv) (g:Nat)=>(Sl.ext h he).ia1 (j:=i) (v:= .s s.d[i]) (by omega) (by rw [List.length_map];omega) (by rw [Jj,hg];rfl) L g
  rw [Jj] at ia
  obtain ⟨z1,z2,-⟩:=ia [] 0
  have w4:IntKind.i64.wrap ((i:Int)+1)=((i+1:Nat):Int):=by rw [w64 (by omega) (by omega)];rfl
  obtain ⟨p1,o',H2,p2,p3,p4,p5,p6,p7,-,-⟩:=Mn.ap (by':=56) hm (Qk (t:=26) (g:=g) (x:=eR.v ⟨s.o,s.t,1,s.ttl,s.d[i]⟩) (L:=[⟨1,0,0,[.ag [.s s.o,.i .i64 s.t,.i .i64 s.ttl,d]]⟩]) (H:=H')) (by simp;omega)
  rw [show eR.z=5 from rfl,JcE] at p1 p2 p3
  simp -implicitDefEqProofs only [bU,reduceIte,Jc,reduceCtorEq,Ja,Jb,bT,Jd,Je,Jf,bV,Ja,Jb,Jg,Qs,J6,q1,q3,q4,hL0,l1,l2,h1,z1,z2,ia,dO,dc,Jj,JG,JH,JE,JQ,List.replicate,List.set]
  simp -implicitDefEqProofs only [bU,reduceIte,Jc,reduceCtorEq,Ja,Jb,bT,Jd,Je,Jf,bV,Ja,Jb,Jg,p1,p2,p3,w4]
  refine ⟨_,by omega,i+1,o',H2,_,_,hil,rfl,rfl,rfl,rfl,rfl,⟨Nat.le_trans he.n p5,fun j hj=>by rw [p6 j (Nat.lt_of_lt_of_le hj he.n) fun hh=>by have:=hid j hh;omega];exact he.at' j hj⟩,?_,fun j hj=>(p7 j hj).elim (hid j) fun h=>Nat.le_trans he.n h⟩
  rw [List.take_succ_eq_append_getElem hil,List.map_append]
  show Mn H2 eR.z o' _
  rw [List.map_append]
  exact p4
 ·have hil:i=s.d.length:=by omega
  subst hil
  rw [List.take_length] at hm
  have ho:=(Mn.sl hm).out
  simp -implicitDefEqProofs only [bU,reduceIte,Jc,reduceCtorEq,Ja,Jb,bT,Jd,Je,Jf,bV,Ja,Jb,Jg,q1,q3,q4,hL0,l1,l2,h1,ho,Jr,rsC,rsV,Js]
  exact ⟨he,hm,hid⟩
end
def JeT (z:Zn):List Rr:=if 500 < z.s.length∨500 < Jam z.s then [] else WQ z
section
variable {C:Tab}
def JbM (C:Tab) (f:Nat):Prop:= ∀ (z:Zn) (zs:AV) (ds:List AV) (H:AH),ZS H zs z.s ds→SzZ z→ ∃ v H',C f [.ag [.s z.a,zs]] H=some (v,H')∧Ext H H'∧Mx H' eR v (JeT z)∧ ∀ i,i∈idA v→H.n≤i
def JeO (C:Tab) (f:Nat):Prop:= ∀ (s t:Qa) (d d':AV) (H:AH),Sl H 1 d (s.d.map AV.s)→Sl H 1 d' (t.d.map AV.s)→s.d.length≤1048576→t.d.length≤1048576→C f [sV s d,sV t d'] H=some (.b (decide (s=t)),H)
def ZU (C:Tab) (f:Nat):Prop:= ∀ (z w:Zn) (zs ws:AV) (ds es:List AV) (H:AH),ZS H zs z.s ds→ZS H ws w.s es→z.s.length≤1048576→w.s.length≤1048576→(∀ s,s∈z.s→s.d.length≤1048576)→(∀ s,s∈w.s→s.d.length≤1048576)→C f [.ag [.s z.a,zs],.ag [.s w.a,ws]] H=some (.b (decide (z=w)),H)
def Jrr (C:Tab) (f:Nat):Prop:= ∀ (z:Zn) (zs:AV) (ds:List AV) (H:AH),ZS H zs z.s ds→SzZ z→C f [.ag [.s z.a,zs]] H=some (.i .i64 (ckz z),H)
theorem Jmy {z:Zn} {zs:AV} {ds:List AV} {H:AH} (hC:Jgr C XG) (hR:Je1 C Qz) (hJ:JhX C Zh) (h:ZS H zs z.s ds) (hz:SzZ z):
  Jt C Q6 [.ag [.s z.a,zs]] H fun v H'=>Ext H H'∧Mx H' eR v (JeT z)∧ ∀ i,i∈idA v→H.n≤i:=by
 unfold Jt Q6
 obtain ⟨l1,l2⟩:=h.row.len
 rw [QK h.len] at l1
 have zo:=h.row.out
 have zc:=h.row.one
 have hm0:Mx (H.new (.arr true 0 5 [])) eR (.sl H.n 0 0) []:= .own (by simp) QD
 have k1:=hC z.a zs z.s ds (H.new (.arr true 0 5 [])) (h.ext (.new _ _)) hz.s hz.c
 have hid0: ∀ j,j∈idA (AV.sl H.n 0 0)→H.n≤j:=fun j hj=>by simp only [idA,List.mem_singleton] at hj;omega
 unfold JeT
 by_cases h5:(500:Int) < z.s.length
 ·simp -implicitDefEqProofs only [bU,reduceIte,Jc,reduceCtorEq,Ja,Jb,bT,Jd,Je,Jf,bV,Ja,Jb,Jg,l1,l2,h5,zo,zc,JE,JQ,List.replicate,Jr,rsC,rsV,Js]
  rw [if_pos (.inl (by omega))]
  exact ⟨.new _ _,hm0,hid0⟩
 ·by_cases h6:(500:Int) < (Jam z.s:Nat)
  ·simp -implicitDefEqProofs only [bU,reduceIte,Jc,reduceCtorEq,Ja,Jb,bT,Jd,Je,Jf,bV,Ja,Jb,Jg,l1,l2,h5,h6,zo,zc,k1,JE,JQ,List.replicate,Jr,rsC,rsV,Js]
   rw [if_pos (.inr (by omega))]
   exact ⟨.new _ _,hm0,hid0⟩
  ·rw [if_neg (by omega)]
   have hrl:(WQ z).length≤500:=by rw [Jcq];show Jam z.s≤500;omega
   simp -implicitDefEqProofs only [bU,reduceIte,Jc,reduceCtorEq,Ja,Jb,bT,Jd,Je,Jf,bV,Ja,Jb,Jg,l1,l2,h5,h6,zo,zc,k1,JE,JQ,List.replicate]
   refine Jl (fun m e M=> ∃ (i:Nat) (o:AV) (H':AH) (g:Nat),i≤z.s.length∧m=z.s.length-i∧look e 1= .la 1 0 0 0∧look e 3=o∧look e 4= .i .i64 i∧M=⟨[⟨1,0,0,[.ag [.s z.a,zs]]⟩],g,H'⟩∧Ext H H'∧Mx H' eR o ((z.s.take i).flatMap JbC)∧ ∀ j,j∈idA o→H.n≤j) ?_ (n:=z.s.length)
    ⟨0,.sl H.n 0 0,_,_,by omega,by omega,rfl,rfl,rfl,rfl,.new _ _,by simpa using hm0,hid0⟩
   clear k1 hm0 hid0
   rintro m e M ⟨i,o,H',g,hi,rfl,q1,q3,q4,rfl,he,hm,hid⟩
   by_cases h1:(i:Int) < z.s.length
   ·have hil:i < z.s.length:=by omega
    have hidd:i < ds.length:=by rw [h.len];exact hil
    obtain ⟨a1,a2,a3,-,-,-,-,-,a9,a10⟩:=(h.ext he).at' hil hidd
    have hmem:=List.getElem_mem hil
    have hdl:z.s[i].d.length≤1048576:=Nat.le_trans (Jah hmem) hz.c
    obtain ⟨v1,H1,k1,e1,m1,i1⟩:=hR z.s[i] ds[i] H' ((h.ext he).dat i hil hidd) hdl
    have hm':=hm.ext e1
    have hdj:Dj v1 o:=fun j hj hj2=>by
     have:=i1 j hj
     have:=hm.lt j hj2
     omega
    have hpre: ∀ k,((z.s.take k).flatMap JbC).length≤500:=fun k=>by
     have:WQ z=(z.s.take k).flatMap JbC++(z.s.drop k).flatMap JbC:=by unfold WQ;rw [←List.flatMap_append,List.take_append_drop]
     rw [this,List.length_append] at hrl;omega
    have hsn:(z.s.take (i+1)).flatMap JbC=(z.s.take i).flatMap JbC++JbC z.s[i]:=by
     rw [List.take_succ_eq_append_getElem hil,List.flatMap_append];simp
    have hp1:=hpre (i+1)
    rw [hsn,List.length_append] at hp1
    obtain ⟨v2,H2,k2,m2,kp,i2⟩:=hJ o v1 _ _ H1 hm' m1.sl hdj (by omega)
    have w4:IntKind.i64.wrap ((i:Int)+1)=((i+1:Nat):Int):=by rw [w64 (by omega) (by omega)];rfl
    have bd:z.s.length- (i+1) < z.s.length-i:=by omega
    have oo:=(Mn.sl hm).out
    have v1o:=(Mn.sl m1).out
    have so:(sV z.s[i] ds[i]).outs=true:=rfl
    simp -implicitDefEqProofs only [bU,reduceIte,Jc,reduceCtorEq,Ja,Jb,bT,Jd,Je,Jf,bV,Ja,Jb,Jg,q1,q3,q4,l1,l2,h1,Jj,a1,a2,a3,a9,a10,so,k1,k2,oo,v1o,zc,w4]
    refine ⟨_,bd,i+1,v2,H2,_,hil,rfl,rfl,rfl,rfl,kp.put (he.trans e1) hid,by rw [hsn];exact m2,fun j hj=>(i2 j hj).elim (hid j) fun h=>Nat.le_trans (he.trans e1).n h⟩
   ·have hil:i=z.s.length:=by omega
    subst hil
    rw [List.take_length] at hm
    have oo:=(Mn.sl hm).out
    simp -implicitDefEqProofs only [bU,reduceIte,Jc,reduceCtorEq,Ja,Jb,bT,Jd,Je,Jf,bV,Ja,Jb,Jg,q1,q3,q4,l1,l2,h1,oo,Jr,rsC,rsV,Js]
    exact ⟨he,hm,hid⟩
theorem Qa.eq_iff (s t:Qa):s=t↔s.o=t.o∧s.t=t.t∧s.ttl=t.ttl∧s.d=t.d:=by
 cases s;cases t;simp
theorem JcA {α:Type} {a b:List α} (hl:a.length=b.length) (h: ∀ i (h1:i < a.length) (h2:i < b.length),a[i]=b[i]):a=b:=List.ext_getElem hl h
theorem JkC {s t:Qa} {d d':AV} {H:AH} (h:Sl H 1 d (s.d.map AV.s)) (h':Sl H 1 d' (t.d.map AV.s)) (hl:s.d.length≤1048576) (hl':t.d.length≤1048576):Jt C Wi [sV s d,sV t d'] H fun v H'=>v= .b (decide (s=t))∧QA H H':=by
 unfold Jt Wi
 have hk:=JA H
 obtain ⟨l1,l2⟩:=h.len
 obtain ⟨l3,l4⟩:=h'.len
 rw [List.length_map] at l1 l3
 have no:s≠t→false=decide (s=t):=fun hne=>(decide_eq_false hne).symm
 by_cases h1:s.o=t.o
 ·by_cases h2:s.t=t.t
  ·by_cases h3:s.ttl=t.ttl
   ·by_cases h4:s.d.length=t.d.length
    ·have h4':((s.d.length:Int)=(t.d.length:Int))=True:=eq_true (by omega)
     simp -implicitDefEqProofs only [bU,reduceIte,Jc,reduceCtorEq,Ja,Jb,bT,Jd,Je,Jf,bV,Ja,Jb,Jg,sV,h1,h2,h3,h4',l1,l2,l3,l4]
     refine Jl (fun m e M=> ∃ (i:Nat) (g:Nat),i≤s.d.length∧m=s.d.length-i∧look e 2= .la 2 0 0 0∧look e 3= .la 3 1 0 0∧look e 5= .i .i64 i∧M=⟨[⟨3,1,0,[.ag [.s t.o,.i .i64 t.t,.i .i64 t.ttl,d']]⟩,⟨2,0,0,[.ag [.s t.o,.i .i64 t.t,.i .i64 t.ttl,d]]⟩],g,H⟩∧ ∀ j (h1:j < s.d.length) (h2:j < t.d.length),j < i→s.d[j]=t.d[j]) ?_ (n:=s.d.length)
      ⟨0,_,by omega,by omega,rfl,rfl,rfl,rfl,fun j _ _ hj=>by omega⟩
     rintro m e M ⟨i,g,hi,rfl,q2,q3,q5,rfl,hp⟩
     by_cases h5:(i:Int) < t.d.length
     ·have hil:i < s.d.length:=by omega
      have hil':i < t.d.length:=by omega
      have hg:(s.d.map AV.s).getD i .u= .s s.d[i]:=by simp [List.getD,hil]
      have hg':(t.d.map AV.s).getD i .u= .s t.d[i]:=by simp [List.getD,hil']
      have ia:=fun (L:List Lv) (g:Nat)=>h.ia1 (j:=i) (v:= .s s.d[i]) (by omega) (by rw [List.length_map];omega) (by rw [Jj,hg];rfl) L g
      have ib:=fun (L:List Lv) (g:Nat)=>h'.ia1 (j:=i) (v:= .s t.d[i]) (by omega) (by rw [List.length_map];omega) (by rw [Jj,hg'];rfl) L g
      rw [Jj] at ia ib
      obtain ⟨z1,z2,-⟩:=ia [] 0
      obtain ⟨z3,z4,-⟩:=ib [] 0
      have w5:IntKind.i64.wrap ((i:Int)+1)=((i+1:Nat):Int):=by rw [w64 (by omega) (by omega)];rfl
      have bd:s.d.length- (i+1) < s.d.length-i:=by omega
      have h5':(i:Int) < s.d.length:=by omega
      by_cases he:s.d[i]=t.d[i]
      ·simp -implicitDefEqProofs only [bU,reduceIte,Jc,reduceCtorEq,Ja,Jb,bT,Jd,Je,Jf,bV,Ja,Jb,Jg,Qs,J6,q2,q3,q5,l1,l2,l3,l4,h5,h5',Jj,z1,z2,z3,z4,ia,ib,he,w5]
       exact ⟨_,bd,i+1,_,hil,rfl,rfl,rfl,fun j j1 j2 hj=>by
        by_cases e:j=i
        ·subst e;exact he
        ·exact hp j j1 j2 (by omega)⟩
      ·simp -implicitDefEqProofs only [bU,reduceIte,Jc,reduceCtorEq,Ja,Jb,bT,Jd,Je,Jf,bV,Ja,Jb,Jg,Qs,J6,q2,q3,q5,l1,l2,l3,l4,h5,h5',Jj,z1,z2,z3,z4,ia,ib,he,Jr,rsC,rsV,Js]
       exact ⟨no (fun e=>he (by subst e;rfl)),hk⟩
     ·have hie:i=s.d.length:=by omega
      have h5': ¬ (i:Int) < s.d.length:=by omega
      simp -implicitDefEqProofs only [bU,reduceIte,Jc,reduceCtorEq,Ja,Jb,bT,Jd,Je,Jf,bV,Ja,Jb,Jg,q2,q3,q5,l1,l2,l3,l4,h5,h5',Jr,rsC,rsV,Js]
      have:s=t:=(Qa.eq_iff s t).2 ⟨h1,h2,h3,JcA h4 fun j j1 j2=>hp j j1 j2 (by omega)⟩
      exact ⟨by rw [decide_eq_true this],hk⟩
    ·have h4': ¬ (s.d.length:Int)=(t.d.length:Int):=by omega
     simp -implicitDefEqProofs only [bU,reduceIte,Jc,reduceCtorEq,Ja,Jb,bT,Jd,Je,Jf,bV,Ja,Jb,Jg,sV,h1,h2,h3,h4',l1,l2,l3,l4,Jr,rsC,rsV,Js]
     exact ⟨no (fun e=>h4 (by rw [e])),hk⟩
   ·simp -implicitDefEqProofs only [bU,reduceIte,Jc,reduceCtorEq,Ja,Jb,bT,Jd,Je,Jf,bV,Ja,Jb,Jg,sV,h1,h2,h3,l1,l2,l3,l4,Jr,rsC,rsV,Js]
    exact ⟨no (fun e=>h3 (by rw [e])),hk⟩
  ·simp -implicitDefEqProofs only [bU,reduceIte,Jc,reduceCtorEq,Ja,Jb,bT,Jd,Je,Jf,bV,Ja,Jb,Jg,sV,h1,h2,l1,l2,l3,l4,Jr,rsC,rsV,Js]
   exact ⟨no (fun e=>h2 (by rw [e])),hk⟩
 ·simp -implicitDefEqProofs only [bU,reduceIte,Jc,reduceCtorEq,Ja,Jb,bT,Jd,Je,Jf,bV,Ja,Jb,Jg,sV,h1,l1,l2,l3,l4,Jr,rsC,rsV,Js]
  exact ⟨no (fun e=>h1 (by rw [e])),hk⟩
theorem Zn.eq_iff (z w:Zn):z=w↔z.a=w.a∧z.s=w.s:=by cases z;cases w;simp
theorem Jib {z w:Zn} {zs ws:AV} {ds es:List AV} {H:AH} (hS:JeO C XO) (h:ZS H zs z.s ds) (h':ZS H ws w.s es) (hl:z.s.length≤1048576) (hl':w.s.length≤1048576) (hd: ∀ s,s∈z.s→s.d.length≤1048576) (hd': ∀ s,s∈w.s→s.d.length≤1048576):
  Jt C QZ [.ag [.s z.a,zs],.ag [.s w.a,ws]] H fun v H'=>v= .b (decide (z=w))∧QA H H':=by
 unfold Jt QZ
 have hk:=JA H
 obtain ⟨l1,l2⟩:=h.row.len
 obtain ⟨l3,l4⟩:=h'.row.len
 rw [QK h.len] at l1
 rw [QK h'.len] at l3
 have zo:=h.row.out
 have wo:=h'.row.out
 have no:z≠w→false=decide (z=w):=fun hne=>(decide_eq_false hne).symm
 by_cases h1:z.a=w.a
 ·by_cases h4:z.s.length=w.s.length
  ·have h4':((z.s.length:Int)=(w.s.length:Int))=True:=eq_true (by omega)
   simp -implicitDefEqProofs only [bU,reduceIte,Jc,reduceCtorEq,Ja,Jb,bT,Jd,Je,Jf,bV,Ja,Jb,Jg,h1,h4',l1,l2,l3,l4]
   refine Jl (fun m e M=> ∃ (i:Nat) (g:Nat),i≤z.s.length∧m=z.s.length-i∧look e 2= .la 2 0 0 0∧look e 3= .la 3 1 0 0∧look e 5= .i .i64 i∧M=⟨[⟨3,1,0,[.ag [.s w.a,ws]]⟩,⟨2,0,0,[.ag [.s w.a,zs]]⟩],g,H⟩∧ ∀ j (h1:j < z.s.length) (h2:j < w.s.length),j < i→z.s[j]=w.s[j]) ?_ (n:=z.s.length)
    ⟨0,_,by omega,by omega,rfl,rfl,rfl,rfl,fun j _ _ hj=>by omega⟩
   rintro m e M ⟨i,g,hi,rfl,q2,q3,q5,rfl,hp⟩
   by_cases h5:(i:Int) < w.s.length
   ·have hil:i < z.s.length:=by omega
    have hil':i < w.s.length:=by omega
    have hid:i < ds.length:=by rw [h.len];exact hil
    have hid':i < es.length:=by rw [h'.len];exact hil'
    obtain ⟨a1,a2,a3,-,-,-,-,-,a9,a10⟩:=h.at' hil hid
    obtain ⟨b1,b2,b3,-,-,-,-,-,b9,b10⟩:=h'.at' hil' hid'
    have kS:=hS z.s[i] w.s[i] ds[i] es[i] H (h.dat i hil hid) (h'.dat i hil' hid') (hd _ (List.getElem_mem hil)) (hd' _ (List.getElem_mem hil'))
    have w5:IntKind.i64.wrap ((i:Int)+1)=((i+1:Nat):Int):=by rw [w64 (by omega) (by omega)];rfl
    have bd:z.s.length- (i+1) < z.s.length-i:=by omega
    have h5':(i:Int) < z.s.length:=by omega
    have so:(sV z.s[i] ds[i]).outs=true:=rfl
    have so':(sV w.s[i] es[i]).outs=true:=rfl
    by_cases he:z.s[i]=w.s[i]
    ·rw [decide_eq_true he] at kS
     simp -implicitDefEqProofs only [bU,reduceIte,Jc,reduceCtorEq,Ja,Jb,bT,Jd,Je,Jf,bV,Ja,Jb,Jg,Qs,J6,q2,q3,q5,l1,l2,l3,l4,h5,h5',Jj,a1,a2,a3,a9,a10,b1,b2,b3,b9,b10,so,so',kS,w5]
     exact ⟨_,bd,i+1,_,hil,rfl,rfl,rfl,fun j j1 j2 hj=>by
      by_cases e:j=i
      ·subst e;exact he
      ·exact hp j j1 j2 (by omega)⟩
    ·rw [decide_eq_false he] at kS
     simp -implicitDefEqProofs only [bU,reduceIte,Jc,reduceCtorEq,Ja,Jb,bT,Jd,Je,Jf,bV,Ja,Jb,Jg,Qs,J6,q2,q3,q5,l1,l2,l3,l4,h5,h5',Jj,a1,a2,a3,a9,a10,b1,b2,b3,b9,b10,so,so',kS,Jr,rsC,rsV,Js]
     exact ⟨no (fun e=>he (by subst e;rfl)),hk⟩
   ·have hie:i=z.s.length:=by omega
    have h5': ¬ (i:Int) < z.s.length:=by omega
    simp -implicitDefEqProofs only [bU,reduceIte,Jc,reduceCtorEq,Ja,Jb,bT,Jd,Je,Jf,bV,Ja,Jb,Jg,q2,q3,q5,l1,l2,l3,l4,h5,h5',Jr,rsC,rsV,Js]
    have:z=w:=(Zn.eq_iff z w).2 ⟨h1,JcA h4 fun j j1 j2=>hp j j1 j2 (by omega)⟩
    exact ⟨by rw [decide_eq_true this],hk⟩
  ·have h4': ¬ (z.s.length:Int)=(w.s.length:Int):=by omega
   simp -implicitDefEqProofs only [bU,reduceIte,Jc,reduceCtorEq,Ja,Jb,bT,Jd,Je,Jf,bV,Ja,Jb,Jg,h1,h4',l1,l2,l3,l4,Jr,rsC,rsV,Js]
   exact ⟨no (fun e=>h4 (by rw [e])),hk⟩
 ·simp -implicitDefEqProofs only [bU,reduceIte,Jc,reduceCtorEq,Ja,Jb,bT,Jd,Je,Jf,bV,Ja,Jb,Jg,h1,l1,l2,l3,l4,Jr,rsC,rsV,Js]
  exact ⟨no (fun e=>h1 (by rw [e])),hk⟩
end
theorem JjW (l:List Zi):(keysOf l).length≤l.length:=by
 induction l using Jaj with
 | h0=>simp [keysOf]
 | h1 l x ih=>
  rw [Q7]
  split<;>simp <;>omega
theorem Jlz (L:List Zi):(Ja3 L).length≤L.length∧ ∀ s,s∈Ja3 L→s.d.length≤L.length:=by
 have hk:(J2 L).length≤L.length:=by
  unfold J2 Jn
  rw [List.length_map]
  exact Nat.le_trans (List.length_filter_le _ _) (by simp)
 constructor
 ·unfold Ja3
  rw [List.length_map,(Qj _).length_eq]
  exact Nat.le_trans (JjW _) hk
 ·intro s hs
  unfold Ja3 at hs
  obtain ⟨k,-,rfl⟩:=List.mem_map.1 hs
  simp only [mkS,List.length_map,(Qj _).length_eq]
  exact Nat.le_trans (List.length_filter_le _ _) hk
theorem Joo (l:List Rr) (a:List UInt8):(bz l a).1.s.length≤l.length∧ ∀ s,s∈(bz l a).1.s→s.d.length≤l.length:=by
 unfold bz
 repeat' split
 all_goals first
  | exact ⟨Nat.zero_le _,fun s hs=>by cases hs⟩
  | (have:=Jlz (l.map zi);simpa using this)
theorem JiF {z:Zn} (hz:SzZ z):szL (WQ z):=by
 intro r hr
 obtain ⟨s,hs,hr⟩:=List.mem_flatMap.1 hr
 obtain ⟨d,hd,rfl⟩:=List.mem_map.1 hr
 have:=hz.o s hs
 have:=hz.d s hs d hd
 exact ⟨by simp only;omega,by simp only;omega⟩
section
variable {C:Tab}
theorem Jtx {z:Zn} {zs:AV} {ds:List AV} {H:AH} (hC:Jgr C XG) (hR:JbM C WX) (hB:Jwv C Yb) (hS:ZU C WW) (h:ZS H zs z.s ds) (hz:SzZ z):
  Jt C WC [.ag [.s z.a,zs]] H fun v H'=>v= .i .i64 (ckz z)∧QA H H':=by
 unfold Jt WC
 have hk:=JA H
 obtain ⟨l1,l2⟩:=h.row.len
 rw [QK h.len] at l1
 have zo:=h.row.out
 have zc:=h.row.one
 have k1:=hC z.a zs z.s ds H h hz.s hz.c
 have hcz:JkI z=Jam z.s:=rfl
 unfold ckz
 rw [hcz]
 by_cases h5:(500:Int) < z.s.length
 ·rw [if_pos (.inl (by omega))]
  simp -implicitDefEqProofs only [bU,reduceIte,Jc,reduceCtorEq,Ja,Jb,bT,Jd,Je,Jf,bV,Ja,Jb,Jg,l1,l2,h5,Jr,rsC,rsV,Js]
  exact hk
 ·by_cases h6:(500:Int) < (Jam z.s:Nat)
  ·rw [if_pos (.inr (by omega))]
   simp -implicitDefEqProofs only [bU,reduceIte,Jc,reduceCtorEq,Ja,Jb,bT,Jd,Je,Jf,bV,Ja,Jb,Jg,l1,l2,h5,h6,zo,zc,k1,Jr,rsC,rsV,Js]
   exact hk
  ·rw [if_neg (by omega)]
   obtain ⟨v1,H1,k2,e1,m1,i1⟩:=hR z zs ds H h hz
   have hzr:JeT z=WQ z:=by unfold JeT;rw [if_neg (by omega)]
   rw [hzr] at m1
   have hrl:(WQ z).length≤500:=by rw [Jcq,hcz];omega
   obtain ⟨v2,H2,k3,e2,ws,es,rfl,hw⟩:=hB v1 (WQ z) z.a H1 m1.sl (by omega) (JiF hz) (by have:=hz.a;omega)
   have v1o:=(Mn.sl m1).out
   have wo:=hw.rd.row.out
   have wc:=hw.rd.row.one
   obtain ⟨b1,b2⟩:=Joo (WQ z) z.a
   have kS:=hS (bz (WQ z) z.a).1 z ws zs es ds H2 hw.rd (h.ext (e1.trans e2)) (by omega) hz.s (fun s hs=>by have:=b2 s hs;omega) fun s hs=>Nat.le_trans (Jah hs) hz.c
   generalize bz (WQ z) z.a=R at k3 kS ⊢
   generalize hg:(if R.2.1=0∧R.1=z then (0:Int) else 32)=res
   by_cases hc:R.2.1=0
   ·by_cases he:R.1=z
    ·rw [decide_eq_true he] at kS
     have hc':(R.2.1=0)=True:=eq_true hc
     simp -implicitDefEqProofs only [bU,reduceIte,Jc,reduceCtorEq,Ja,Jb,bT,Jd,Je,Jf,bV,Ja,Jb,Jg,Qs,J6,l1,l2,h5,h6,zo,zc,k1,k2,k3,v1o,wo,wc,hc',kS,Jr,rsC,rsV,Js]
     rw [if_pos ⟨hc,he⟩] at hg
     exact ⟨by rw [hg],.of (e1.trans e2)⟩
    ·rw [decide_eq_false he] at kS
     have hc':(R.2.1=0)=True:=eq_true hc
     simp -implicitDefEqProofs only [bU,reduceIte,Jc,reduceCtorEq,Ja,Jb,bT,Jd,Je,Jf,bV,Ja,Jb,Jg,Qs,J6,l1,l2,h5,h6,zo,zc,k1,k2,k3,v1o,wo,wc,hc',kS,Jr,rsC,rsV,Js]
     rw [if_neg fun h=>he h.2] at hg
     exact ⟨by rw [hg],.of (e1.trans e2)⟩
   ·simp -implicitDefEqProofs only [bU,reduceIte,Jc,reduceCtorEq,Ja,Jb,bT,Jd,Je,Jf,bV,Ja,Jb,Jg,Qs,J6,l1,l2,h5,h6,zo,zc,k1,k2,k3,v1o,wo,wc,hc,Jr,rsC,rsV,Js]
    rw [if_neg fun h=>hc h.1] at hg
    exact ⟨by rw [hg],.of (e1.trans e2)⟩
end
end Go.Vm
