import Derived.Test.YtgoalfkgbiblgaaGreatDoorKb4
import Derived.Test.YtgoalfkgbiblgaaGreatDoorKb7
/- The specification's zone out of records: items, what they have, their order. -/
set_option linter.unusedVariables false
set_option linter.unusedSimpArgs false
set_option maxRecDepth 100000
open Nat renaming reduceEqDiff→Jc,reduceAdd→Ja,reduceLT→Jb,reduceLeDiff→Jg
open Int renaming reduceToNat→Jd
namespace Go.Vm
def eI:Enc (Zi×Bool):=⟨8,fun x=>[.s x.1.r.o,.i .i64 x.1.r.t,.i .i64 x.1.r.c,.i .i64 x.1.r.ttl,.s x.1.r.d,.s x.1.f,.s x.1.g,.b x.2],fun _=>rfl⟩
def Je9 (L:List Zi):List (Zi×Bool):=(List.range L.length).map fun i=>(itZ L i,WN L i)
theorem QY (L:List Zi):(Je9 L).length=L.length:=by simp [Je9]
theorem ZO {L:List Zi} {i:Nat} (h:i < (Je9 L).length):(Je9 L)[i]=(itZ L i,WN L i):=by simp [Je9]
theorem JuV (o o':Nat) (a:AV) (h:faC a):faV o (faV o' a)=faV (o'+o) a:=by
 cases a<;>first | exact h.elim | simp [faV,Nat.add_assoc]
structure JwQ (H:AH) (a:AV) (i:Nat) (x:Zi×Bool):Prop where
 z:slZ H 8 a
 c:iaC (i:Int) a
 fa: ∀ o,faC (faV o (iaV i a))
 f0:faC (iaV i a)
 fv: ∀ o o',faV o (faV o' (iaV i a))=faV (o'+o) (iaV i a)
 ld: ∀ (o:Nat) (L:List Lv) (g:Nat),o < 8→ldC ⟨L,g,H⟩ none (faV o (iaV i a))
 v0: ∀ (L:List Lv) (g:Nat),ldX ⟨L,g,H⟩ none (faV 0 (iaV i a))= .s x.1.r.o
 v1: ∀ (L:List Lv) (g:Nat),ldX ⟨L,g,H⟩ none (faV 1 (iaV i a))= .i .i64 x.1.r.t
 v3: ∀ (L:List Lv) (g:Nat),ldX ⟨L,g,H⟩ none (faV 3 (iaV i a))= .i .i64 x.1.r.ttl
 v4: ∀ (L:List Lv) (g:Nat),ldX ⟨L,g,H⟩ none (faV 4 (iaV i a))= .s x.1.r.d
 v5: ∀ (L:List Lv) (g:Nat),ldX ⟨L,g,H⟩ none (faV 5 (iaV i a))= .s x.1.f
 v6: ∀ (L:List Lv) (g:Nat),ldX ⟨L,g,H⟩ none (faV 6 (iaV i a))= .s x.1.g
 v7: ∀ (L:List Lv) (g:Nat),ldX ⟨L,g,H⟩ none (faV 7 (iaV i a))= .b x.2
 wc: ∀ (L:List Lv) (g:Nat),ldC ⟨L,g,H⟩ (some 8) (iaV i a)
 wv: ∀ (L:List Lv) (g:Nat),ldX ⟨L,g,H⟩ (some 8) (iaV i a)=eI.v x
 rc: ∀ (L:List Lv) (g:Nat),ldC ⟨L,g,H⟩ (some 5) (faV 0 (iaV i a))
 rv: ∀ (L:List Lv) (g:Nat),ldX ⟨L,g,H⟩ (some 5) (faV 0 (iaV i a))=eR.v x.1.r
theorem Ja5 {H:AH} {a:AV} {xs:List (Zi×Bool)} (h:Sx H eI a xs) {i:Nat} (hi:i < xs.length):JwQ H a i xs[i]:=by
 obtain ⟨b1,b2,b3,-,-⟩:=Sx.fdn (z:=8) h rfl hi (off:=0) (by decide)
 have hg:(xs.map eI.v).getD i .u=eI.v xs[i]:=Jhw hi;obtain ⟨-,-,-,h4⟩:=Sl.ia h (j:=i) (by omega) (by simpa using hi)
 rw [Jj,hg] at h4;have part0:partOf (eI.v xs[i]).cells 0 (some 8)=eI.v xs[i]:=JoA (E:=eI) xs[i];have f8:(eI.v xs[i]).cells.length=8:=rfl;have hv: ∀ (o:Nat) (L:List Lv) (g:Nat),o < 8→ldC ⟨L,g,H⟩ none (faV o (iaV i a))∧ldX ⟨L,g,H⟩ none (faV o (iaV i a))=(eI.fn xs[i]).getD o .u:=fun o L g ho=>h4 L g o none (by simp only [JF,f8];exact ho)
 refine ⟨b1,b2,fun o=> ?_,b3,fun o o'=>JuV o o' _ b3,fun o L g ho=>(hv o L g ho).1,fun L g=>(hv 0 L g (by decide)).2,fun L g=>(hv 1 L g (by decide)).2,fun L g=>(hv 3 L g (by decide)).2,fun L g=>(hv 4 L g (by decide)).2,fun L g=>(hv 5 L g (by decide)).2,fun L g=>(hv 6 L g (by decide)).2,fun L g=>(hv 7 L g (by decide)).2,fun L g=> ?_,fun L g=> ?_,fun L g=> ?_,fun L g=> ?_⟩
 ·revert b3
  cases iaV i a<;>intro b3<;>first | exact b3.elim | trivial
 ·have:=(h4 L g 0 (some 8) (by simp only [JF,f8];omega)).1
  rwa [fa0] at this
 ·have:=(h4 L g 0 (some 8) (by simp only [JF,f8];omega)).2
  rw [fa0] at this;rw [this,part0]
 ·exact (h4 L g 0 (some 5) (by simp only [JF,f8];omega)).1
 ·exact (h4 L g 0 (some 5) (by simp only [JF,f8];omega)).2
section
variable {C:Tab}
def JjI (C:Tab) (f:Nat):Prop:= ∀ (a:AV) (L:List Zi) (n:Nat) (fo:List UInt8) (t:Int) (H:AH),Sx H eI a (Je9 L)→n≤L.length→L.length≤1000→C f [a,.i .i64 n,.s fo,.i .i64 t] H=some (.b (hasB L n fo t),H)
def Jjn (C:Tab) (f:Nat):Prop:= ∀ (s:List UInt8) (H:AH),C f [.s s] H=some (.b (Jh7 s),H)
def JmI (C:Tab) (f:Nat):Prop:= ∀ (x y:Zi) (bx by':Bool) (H:AH),x.f.length≤1099511627776→y.f.length≤1099511627776→C f [eI.v (x,bx),eI.v (y,by')] H=some (.b (JqV x y),H)
def Jne (C:Tab) (f:Nat):Prop:= ∀ (a:AV) (L:List Zi) (fo:List UInt8) (H:AH),Sx H eI a (Je9 L)→L.length≤1000→C f [a,.s fo] H=some (.s (W9 L fo),H)
def JmG (C:Tab) (f:Nat):Prop:= ∀ (r:Rr) (apex:List UInt8) (H:AH),r.o.length≤1099511627776→r.d.length≤1099511627776→apex.length≤1099511627776→C f [eR.v r,.s apex] H=some (.i .i64 (Jai r apex),H)
theorem JmX {L:List Zi} {n i:Nat} {fo:List UInt8} {t:Int} (hi:i < n) (h1:WN L i=false) (h2:(itZ L i).f=fo) (h3:(itZ L i).r.t=t):hasB L n fo t=true:=by
 unfold hasB;rw [List.any_eq_true];exact ⟨i,List.mem_range.2 hi,by simp [h1,h2,h3]⟩
theorem Jql {L:List Zi} {n:Nat} {fo:List UInt8} {t:Int} (h: ∀ i,i < n→WN L i=true∨(itZ L i).f≠fo∨(itZ L i).r.t≠t):hasB L n fo t=false:=by
 rw [←Bool.not_eq_true];unfold hasB;rw [List.any_eq_true];rintro ⟨i,hi,hh⟩;simp only [Bool.and_eq_true,Bool.not_eq_true',decide_eq_true_eq] at hh;rcases h i (List.mem_range.1 hi) with h1 | h1 | h1
 ·rw [h1] at hh;simp at hh
 ·exact h1 hh.2.1
 ·exact h1 hh.2.2
theorem Jrn {s:List UInt8} {H:AH}:Jt C Wn [.s s] H fun v H'=>v= .b (Jh7 s)∧QA H H':=by
 unfold Jt Wn;have hk:=JA H;unfold Jh7;by_cases h:(1:Int) < s.length
 ·have e:(0:Int)≤2:=by decide
  have e2:(2:Int)≤s.length:=by omega
  by_cases h2:s.take 2=[1,42]
  ·simp -implicitDefEqProofs only [bU,Jc,reduceCtorEq,bT,Jd,h,e,e2,Jd,List.drop_zero,h2,Jr,rsC,rsV,Js]
   exact ⟨by simp;omega,hk⟩
  ·simp -implicitDefEqProofs only [bU,Jc,reduceCtorEq,bT,Jd,h,e,e2,Jd,List.drop_zero,h2,Jr,rsC,rsV,Js]
   exact ⟨by simp [],hk⟩
 ·simp -implicitDefEqProofs only [bU,Jc,reduceCtorEq,bT,h,Jr,rsC,rsV,Js]
  exact ⟨by simp;omega,hk⟩
theorem Ju9 {a:AV} {L:List Zi} {n:Nat} {fo:List UInt8} {t:Int} {H:AH} (hs:Sx H eI a (Je9 L)) (hn:n≤L.length) (hl:L.length≤1000):Jt C YP [a,.i .i64 n,.s fo,.i .i64 t] H fun v H'=>v= .b (hasB L n fo t)∧QA H H':=by
 unfold Jt YP;have hk:=JA H;simp -implicitDefEqProofs only [bU,Ja]
 refine Jl (fun m e M=> ∃ (i:Nat) (g:Nat),i≤n∧m=n-i∧look e 0=a∧look e 1= .i .i64 n∧look e 2= .s fo∧look e 3= .i .i64 t∧look e 9= .i .i64 i∧M=⟨[],g,H⟩∧ ∀ j,j < i→WN L j=true∨(itZ L j).f≠fo∨(itZ L j).r.t≠t) ?_ (n:=n)
  ⟨0,_,by omega,by omega,rfl,rfl,rfl,rfl,rfl,rfl,fun j hj=>by omega⟩
 rintro m e M ⟨i,g,hi,rfl,q0,q1,q2,q3,q9,rfl,hp⟩;by_cases h1:(i:Int) < n
 ·have hin:i < n:=by omega
  have hx:=Ja5 hs (i:=i) (by rw [QY];omega)
  rw [ZO] at hx;obtain ⟨z,c,fa,f0,fv,ld,v0,v1,v3,v4,v5,v6,v7,-,-,-,-⟩:=hx;simp only at v0 v1 v3 v4 v5 v6 v7;have w9:IntKind.i64.wrap ((i:Int)+1)=((i+1:Nat):Int):=by rw [w64 (by omega) (by omega)];rfl
  have bd:n- (i+1) < n-i:=by omega
  have nx:(WN L i=true∨(itZ L i).f≠fo∨(itZ L i).r.t≠t)→ ∀ j,j < i+1→WN L j=true∨(itZ L j).f≠fo∨(itZ L j).r.t≠t:=fun h j hj=>by
   by_cases e:j=i
   ·subst e;exact h
   ·exact hp j (by omega)
  cases ho:WN L i with
  | true=>
   rw [ho] at v7;simp -implicitDefEqProofs only [bU,Jc,reduceCtorEq,bT,bV,q0,q1,q2,q3,q9,h1,Jj,z,c,f0,ld,v7,w9];exact ⟨_,bd,i+1,_,hin,rfl,rfl,rfl,nx (.inl ho)⟩
  | false=>
   rw [ho] at v7;by_cases hf:(itZ L i).f=fo
   ·rw [hf] at v5
    by_cases ht:(itZ L i).r.t=t
    ·rw [ht] at v1
     simp -implicitDefEqProofs only [bU,Jc,reduceCtorEq,Jb,bT,bV,Jb,q0,q1,q2,q3,q9,h1,Jj,z,c,fa,f0,fv,ld,v7,v5,v1,Jr,rsC,rsV,Js];exact ⟨by rw [JmX hin ho hf ht],hk⟩
    ·simp -implicitDefEqProofs only [bU,Jc,reduceCtorEq,Jb,bT,bV,Jb,q0,q1,q2,q3,q9,h1,Jj,z,c,fa,f0,fv,ld,v7,v5,v1,ht,w9]
     exact ⟨_,bd,i+1,_,hin,rfl,rfl,rfl,nx (.inr (.inr ht))⟩
   ·simp -implicitDefEqProofs only [bU,Jc,reduceCtorEq,Jb,bT,bV,Jb,q0,q1,q2,q3,q9,h1,Jj,z,c,f0,ld,v7,v5,hf,w9]
    exact ⟨_,bd,i+1,_,hin,rfl,rfl,rfl,nx (.inr (.inl hf))⟩
 ·have hin:i=n:=by omega
  subst hin;simp -implicitDefEqProofs only [bU,Jc,reduceCtorEq,bT,bV,q0,q1,q2,q3,q9,h1,Jr,rsC,rsV,Js];exact ⟨by rw [Jql hp],hk⟩
theorem Ju4 {a:AV} {L:List Zi} {fo:List UInt8} {H:AH} (hs:Sx H eI a (Je9 L)) (hl:L.length≤1000):Jt C Xx [a,.s fo] H fun v H'=>v= .s (W9 L fo)∧QA H H':=by
 unfold Jt Xx;have hk:=JA H;obtain ⟨l1,l2⟩:=hs.len;rw [QY] at l1;simp -implicitDefEqProofs only [bU,Ja]
 refine Jl (fun m e M=> ∃ (i:Nat) (g:Nat),i≤L.length∧m=L.length-i∧look e 0=a∧look e 1= .s fo∧look e 5= .i .i64 i∧M=⟨[],g,H⟩∧ ∀ j (hj:j < L.length),j < i→L[j].f≠fo) ?_ (n:=L.length)
  ⟨0,_,by omega,by omega,rfl,rfl,rfl,rfl,fun j _ hj=>by omega⟩
 rintro m e M ⟨i,g,hi,rfl,q0,q1,q5,rfl,hp⟩;by_cases h1:(i:Int) < L.length
 ·have hin:i < L.length:=by omega
  have hx:=Ja5 hs (i:=i) (by rw [QY];omega)
  rw [ZO] at hx;obtain ⟨z,c,fa,f0,fv,ld,v0,v1,v3,v4,v5,v6,v7,-,-,-,-⟩:=hx;simp only [Z5 hin] at v0 v5;have w9:IntKind.i64.wrap ((i:Int)+1)=((i+1:Nat):Int):=by rw [w64 (by omega) (by omega)];rfl
  have bd:L.length- (i+1) < L.length-i:=by omega
  by_cases hf:L[i].f=fo
  ·have hfd:L.find? (fun y=>decide (y.f=fo))=some L[i]:=JcX hin (by simpa using hf) (fun j hj=>by simpa using hp j (by omega) hj)
   rw [hf] at v5;simp -implicitDefEqProofs only [bU,Jc,reduceCtorEq,Jb,bT,bV,Jb,q0,q1,q5,l1,l2,h1,Jj,z,c,fa,f0,fv,ld,v0,v5,Jr,rsC,rsV,Js];unfold W9;rw [hfd];exact ⟨rfl,hk⟩
  ·simp -implicitDefEqProofs only [bU,Jc,reduceCtorEq,Jb,bT,bV,Jb,q0,q1,q5,l1,l2,h1,Jj,z,c,f0,ld,v5,hf,w9]
   exact ⟨_,bd,i+1,_,hin,rfl,rfl,rfl,fun j hjl hj=>by
    by_cases e:j=i
    ·subst e;exact hf
    ·exact hp j hjl (by omega)⟩
 ·have hin:i=L.length:=by omega
  have hfd:L.find? (fun y=>decide (y.f=fo))=none:=JcV (fun j hj=>by simpa using hp j hj (by omega))
  simp -implicitDefEqProofs only [bU,Jc,reduceCtorEq,bT,bV,q0,q1,q5,l1,l2,h1,Jr,rsC,rsV,Js];unfold W9;rw [hfd];exact ⟨rfl,hk⟩
end
section
variable {C:Tab}
theorem Jru (x:Zi) (b:Bool):eI.v (x,b)= .ag [.s x.r.o,.i .i64 x.r.t,.i .i64 x.r.c,.i .i64 x.r.ttl,.s x.r.d,.s x.f,.s x.g,.b b]:=rfl
theorem JcE (r:Rr):eR.v r= .ag [.s r.o,.i .i64 r.t,.i .i64 r.c,.i .i64 r.ttl,.s r.d]:=rfl
theorem JuT {x y:Zi} {bx by':Bool} {H:AH} (hC:Jfx C Ws) (hx:x.f.length≤1099511627776) (hy:y.f.length≤1099511627776):Jt C WJ [eI.v (x,bx),eI.v (y,by')] H fun v H'=>v= .b (JqV x y)∧QA H H':=by
 unfold Jt WJ;have hk:=JA H;rw [Jru,Jru];have kc:=hC x.f y.f H hx hy;unfold JqV;by_cases hf:x.f=y.f
 ·by_cases ht:x.r.t=y.r.t
  ·simp -implicitDefEqProofs only [bU,Jc,reduceCtorEq,Ja,Jb,bT,bV,Ja,Jb,hf,ht,Jr,rsC,rsV,Js]
   exact ⟨by simp,hk⟩
  ·simp -implicitDefEqProofs only [bU,Jc,reduceCtorEq,Ja,Jb,bT,bV,Ja,Jb,hf,ht,Jr,rsC,rsV,Js]
   exact ⟨by simp [ht],hk⟩
 ·simp -implicitDefEqProofs only [bU,Jc,reduceCtorEq,Ja,Jb,bT,bV,Ja,Jb,hf,kc,Jr,rsC,rsV,Js]
  exact ⟨by simp [hf],hk⟩
theorem JuK {r:Rr} {apex:List UInt8} {H:AH} (hN:Jb2 C YC) (hI:JtP C Zv) (hM:JeC C Zj) (hK:JjD C WF) (hU:JbI C WO) (ho:r.o.length≤1099511627776) (hd:r.d.length≤1099511627776) (ha:apex.length≤1099511627776):
  Jt C Y6 [eR.v r,.s apex] H fun v H'=>v= .i .i64 (Jai r apex)∧QA H H':=by
 unfold Jt Y6;have hk:=JA H;rw [JcE];have k1:=hN r.o H ho;have k2:=hI r.ttl 2147483647 H;have k3:=hM r.t H;have k4:=hK r.t r.d H hd;have k5:=hU r.o apex H ho ha;unfold Jai;cases hn:JB r.o with
 | none=>
  rw [hn] at k1;simp -implicitDefEqProofs only [bU,Jc,reduceCtorEq,Ja,bT,bV,Ja,k1,Option.isSome_none,Jr,rsC,rsV,Js];exact hk
 | some ls=>
  rw [hn] at k1;by_cases hc:r.c=1
  ·by_cases ht:0≤r.ttl∧r.ttl≤2147483647
   ·rw [decide_eq_true ht] at k2
    cases hm:Jd5 r.t with
    | true=>
     rw [hm] at k3;simp -implicitDefEqProofs only [bU,Jc,reduceCtorEq,Ja,Jb,bT,bV,Ja,Jb,k1,k2,k3,hc,Option.isSome_some,Jr,rsC,rsV,Js];exact ⟨by simp [ht.1,ht.2],hk⟩
    | false=>
     rw [hm] at k3;by_cases h0:r.t < 0
     ·simp -implicitDefEqProofs only [bU,Jc,reduceCtorEq,Ja,Jb,bT,bV,Ja,Jb,k1,k2,k3,hc,h0,Option.isSome_some,Jr,rsC,rsV,Js]
      exact ⟨by simp [ht.1,ht.2],hk⟩
     ·by_cases h1:65535 < r.t
      ·simp -implicitDefEqProofs only [bU,Jc,reduceCtorEq,Ja,Jb,bT,bV,Ja,Jb,k1,k2,k3,hc,h0,h1,Option.isSome_some,Jr,rsC,rsV,Js]
       exact ⟨by simp [ht.1,ht.2],hk⟩
      ·by_cases hch:chk r.t r.d=0
       ·rw [hch] at k4
        cases hu:JfH r.o apex with
        | true=>
         rw [hu] at k5;simp -implicitDefEqProofs only [bU,Jc,reduceCtorEq,Ja,Jb,bT,bV,Ja,Jb,k1,k2,k3,k4,k5,hc,h0,h1,Option.isSome_some,Jr,rsC,rsV,Js];exact ⟨by simp [ht.1,ht.2,hch],hk⟩
        | false=>
         rw [hu] at k5;simp -implicitDefEqProofs only [bU,Jc,reduceCtorEq,Ja,Jb,bT,bV,Ja,Jb,k1,k2,k3,k4,k5,hc,h0,h1,Option.isSome_some,Jr,rsC,rsV,Js];exact ⟨by simp [ht.1,ht.2,hch],hk⟩
       ·simp -implicitDefEqProofs only [bU,Jc,reduceCtorEq,Ja,Jb,bT,bV,Ja,Jb,k1,k2,k3,k4,hch,hc,h0,h1,Option.isSome_some,Jr,rsC,rsV,Js]
        exact ⟨by simp [ht.1,ht.2,hch],hk⟩
   ·rw [decide_eq_false ht] at k2
    simp -implicitDefEqProofs only [bU,Jc,reduceCtorEq,Ja,Jb,bT,bV,Ja,Jb,k1,k2,hc,Option.isSome_some,Jr,rsC,rsV,Js];refine ⟨?_,hk⟩
    simp only [if_false,not_true_eq_false,ne_eq];rw [if_pos ht]
  ·simp -implicitDefEqProofs only [bU,Jc,reduceCtorEq,Ja,Jb,bT,bV,Ja,Jb,k1,hc,Option.isSome_some,Jr,rsC,rsV,Js]
   exact ⟨by simp [hc],hk⟩
end
def Jdq (L:List Zi) (fl:Nat→Bool):List (Zi×Bool):=(List.range L.length).map fun i=>(itZ L i,fl i)
theorem Jcz (L:List Zi) (fl:Nat→Bool):(Jdq L fl).length=L.length:=by simp [Jdq]
theorem JaU {L:List Zi} {fl:Nat→Bool} {i:Nat} (h:i < (Jdq L fl).length):(Jdq L fl)[i]=(itZ L i,fl i):=by simp [Jdq]
theorem Jjg {L:List Zi} {fl:Nat→Bool} {i:Nat} (hi:i < L.length) (b:Bool):(Jdq L fl).set i (itZ L i,b)=Jdq L fun j=>if j=i then b else fl j:=by
 apply List.ext_getElem (by simp [Jdq])
 intro j h1 h2;rw [List.getElem_set,JaU];by_cases e:i=j
 ·subst e;rw [JaU];simp
 ·rw [if_neg e,JaU,if_neg fun h=>e h.symm]
theorem ZY {L:List Zi} {fl fl':Nat→Bool} (h: ∀ j,j < L.length→fl j=fl' j):Jdq L fl=Jdq L fl':=by
 unfold Jdq;refine List.map_congr_left fun j hj=> ?_
 rw [h j (List.mem_range.1 hj)]
theorem Jc0 (n:Nat) (p:Nat→Bool):JL (n+1) p=(JL n p).or (if p n=true then some n else none):=by
 unfold JL;rw [List.range_succ,List.find?_append];congr 1
 simp only [List.find?_cons,List.find?_nil];cases p n<;>rfl
def ixV:Option Nat→Int
 | some j=>(j:Int)
 | none=> -1
theorem JfJ {n:Nat} {p:Nat→Bool} (h:p n=true):ixV (JL (n+1) p)=if ixV (JL n p) < 0 then (n:Int) else ixV (JL n p):=by
 rw [Jc0,if_pos h];cases JL n p with
 | none=>rfl
 | some j=>
  have hj: ¬ ((j:Nat):Int) < 0:=by omega
  simp [Option.or,ixV,hj]
theorem JcS {n:Nat} {p:Nat→Bool} (h:p n=false):ixV (JL (n+1) p)=ixV (JL n p):=by
 rw [Jc0,if_neg (by rw [h];decide)]
 cases JL n p<;>rfl
def Jpk (L:List Zi):Int:=ixV (JL L.length (JaZ L))
def JgH (L:List Zi) (i j:Nat):Bool:=decide ((itZ L j).k=(itZ L i).k)
def JhG (L:List Zi) (i k:Nat):Bool:=(List.range k).any fun j=>JgH L i j&&decide ((itZ L j).g=(itZ L i).g)
theorem Jmq {L:List Zi} {i:Nat} (hi:i≤L.length):JhG L i i=WN L i:=by
 rw [Bool.eq_iff_iff,JdS hi];unfold JhG JgH;rw [List.any_eq_true];constructor
 ·rintro ⟨j,hj,h⟩
  simp only [Bool.and_eq_true,decide_eq_true_eq] at h;exact ⟨j,List.mem_range.1 hj,h.1,h.2⟩
 ·rintro ⟨j,hj,h1,h2⟩
  exact ⟨j,List.mem_range.2 hj,by simp [h1,h2]⟩
theorem Jcm (L:List Zi) (i k:Nat):JhG L i (k+1)=(JhG L i k|| (JgH L i k&&decide ((itZ L k).g=(itZ L i).g))):=by
 unfold JhG;rw [List.range_succ,List.any_append];simp
theorem JqD {L:List Zi} {i:Nat} (hi:i≤L.length):JaZ L i=match JL i (JgH L i) with
 | some j=>decide ((itZ L j).r.ttl≠ (itZ L i).r.ttl)
 | none=>false:=by
 have key: ∀ n,n≤L.length→(L.take n).find? (fun y=>decide (y.k=(itZ L i).k))=(JL n (JgH L i)).map (itZ L):=by
  intro n;induction n with
  | zero=>intro _;rfl
  | succ n ih=>
   intro hn;rw [List.take_succ_eq_append_getElem (by omega),List.find?_append,ih (by omega),Jc0]
   have e:itZ L n=L[n]:=Z5 (by omega)
   cases JL n (JgH L i) with
   | some j=>rfl
   | none=>
    simp only [Option.map_none,Option.none_or,List.find?_cons,List.find?_nil,JgH,e];cases h:decide (L[n].k=(itZ L i).k) with
    | true=>simp [e]
    | false=>simp
 unfold JaZ;rw [key i hi];cases JL i (JgH L i)<;>rfl
def Jg3 (L:List Zi) (i k j:Nat):Bool:=if j < i then WN L j else decide (j=i) &&JhG L i k
section
variable {C:Tab}
def Jiu (C:Tab) (f:Nat):Prop:= ∀ (a:AV) (L:List Zi) (H:AH),Mx H eI a (Jdq L fun _=>false)→L.length≤1000→ ∃ v H',C f [a] H=some (v,H')∧v= .i .i64 (Jpk L)∧Mx H' eI a (Je9 L)∧Kp (idA a) H H'
set_option maxHeartbeats 1000000 in
theorem Jpc {a:AV} {L:List Zi} {H:AH} (hm:Mx H eI a (Jdq L fun _=>false)) (hl:L.length≤1000):Jt C Xe [a] H fun v H'=>v= .i .i64 (Jpk L)∧Mx H' eI a (Je9 L)∧Kp (idA a) H H':=by
 unfold Jt Xe;have ao:=hm.sl.out;obtain ⟨l1,l2⟩:=Sx.len hm.sl;rw [Jcz] at l1;simp -implicitDefEqProofs only [bU]
 refine Jl (fun m e M=> ∃ (i:Nat) (H':AH) (L0:List Lv) (g:Nat),i≤L.length∧m=L.length-i∧look e 0=a∧look e 3= .i .i64 (ixV (JL i (JaZ L)))∧look e 4= .i .i64 i∧M=⟨L0,g,H'⟩∧Mx H' eI a (Jdq L (Jg3 L i 0))∧Kp (idA a) H H') ?_ (n:=L.length)
  ⟨0,H,_,_,by omega,by omega,rfl,rfl,rfl,rfl,by rw [ZY (fl':=fun _=>false) (fun j _=>by simp [Jg3,JhG])];exact hm,.refl _ _⟩
 clear hm;rintro m e M ⟨i,H',L0,g,hi,rfl,q0,q3,q4,rfl,hm,hk⟩;by_cases h1:(i:Int) < L.length
 ·have hil:i < L.length:=by omega
  simp -implicitDefEqProofs only [bU,Jc,reduceCtorEq,bT,q0,q3,q4,l1,l2,h1]
  refine Jl (fun m e M=> ∃ (k:Nat) (H':AH) (L0:List Lv) (g:Nat),k≤i∧m=i-k∧look e 0=a∧look e 3= .i .i64 (ixV (JL i (JaZ L)))∧look e 4= .i .i64 i∧look e 5= .i .i64 (ixV (JL k (JgH L i)))∧look e 6= .i .i64 k∧M=⟨L0,g,H'⟩∧Mx H' eI a (Jdq L (Jg3 L i k))∧Kp (idA a) H H') ?_ (n:=i)
   ⟨0,H',_,_,by omega,by omega,rfl,rfl,rfl,rfl,rfl,rfl,hm,hk⟩
  clear hm hk q0 q3 q4;rintro m e M ⟨k,H',L0,g,hki,rfl,q0,q3,q4,q5,q6,rfl,hm,hk⟩;have hxi:=Ja5 hm.sl (i:=i) (by rw [Jcz];omega)
  rw [JaU] at hxi;obtain ⟨zi,ci,fai,f0i,fvi,ldi,v0i,v1i,v3i,v4i,v5i,v6i,v7i,-,-,-,-⟩:=hxi;by_cases h2:(k:Int) < i
  ·have hkl:k < i:=by omega
   have hxk:=Ja5 hm.sl (i:=k) (by rw [Jcz];omega)
   rw [JaU] at hxk;obtain ⟨zk,ck,fak,f0k,fvk,ldk,v0k,v1k,v3k,v4k,v5k,v6k,v7k,-,-,-,-⟩:=hxk;have w6:IntKind.i64.wrap ((k:Int)+1)=((k+1:Nat):Int):=by rw [w64 (by omega) (by omega)];rfl
   have bd:i- (k+1) < i-k:=by omega
   have same:JhG L i (k+1)=JhG L i k→Jdq L (Jg3 L i (k+1))=Jdq L (Jg3 L i k):=fun h=>ZY fun j _=>by simp only [Jg3,h]
   by_cases hf:(itZ L k).f=(itZ L i).f
   ·by_cases ht:(itZ L k).r.t=(itZ L i).r.t
    ·have hkey:JgH L i k=true:=decide_eq_true (Prod.ext hf ht)
     have hfx:=JfJ (p:=JgH L i) hkey;have hmov: ∀ {v5:Int},v5=ixV (JL (k+1) (JgH L i))→True:=fun _=>trivial
     by_cases hg:(itZ L k).g=(itZ L i).g
     ·have ho:JhG L i (k+1)=true:=by rw [Jcm,hkey,hg];simp
      have hm0:Mx H' eI a ((Jdq L (Jg3 L i k)).set i (itZ L i,Jg3 L i k i)):=by
       rw [Jjg hil];rw [ZY (fl':=Jg3 L i k) (fun j _=>by by_cases e:j=i<;>simp [e])]
       exact hm
      obtain ⟨s1,s2,s3,s4,H2,s5,s6,s7,s8⟩:=hm0.stf (z:=8) (off:=7) (v:= .b true) (x':=(itZ L i,true)) rfl (by rw [Jcz];exact hil) (by decide) rfl rfl
      have hm2:Mx H2 eI a (Jdq L (Jg3 L i (k+1))):=by
       rw [Jjg hil] at s6
       rw [ZY (fl':=Jg3 L i (k+1)) (fun j _=>by
        by_cases e:j=i
        ·simp [e,Jg3,ho]
        ·simp [e,Jg3])] at s6
       exact s6
      have hk2:Kp (idA a) H H2:=hk.trans (.st s7 s8);by_cases h5:ixV (JL k (JgH L i)) < 0
      ·rw [if_pos h5] at hfx
       simp -implicitDefEqProofs only [bU,Jc,reduceCtorEq,Ja,Jb,bT,bV,Ja,Jb,q0,q3,q4,q5,q6,h2,Jj,zk,ck,fak,f0k,fvk,ldk,ci,fai,f0i,fvi,ldi,v1k,v1i,v5k,v5i,v6k,v6i,hf,ht,hg,h5,s4,s5,w6];exact ⟨_,bd,k+1,H2,_,_,by omega,rfl,by rw [hfx],rfl,rfl,hm2,hk2⟩
      ·rw [if_neg h5] at hfx
       simp -implicitDefEqProofs only [bU,Jc,reduceCtorEq,Ja,Jb,bT,bV,Ja,Jb,q0,q3,q4,q5,q6,h2,Jj,zk,ck,fak,f0k,fvk,ldk,ci,fai,f0i,fvi,ldi,v1k,v1i,v5k,v5i,v6k,v6i,hf,ht,hg,h5,s4,s5,w6];exact ⟨_,bd,k+1,H2,_,_,by omega,rfl,by rw [hfx],rfl,rfl,hm2,hk2⟩
     ·have ho:JhG L i (k+1)=JhG L i k:=by rw [Jcm];simp [hg]
      have hm2:=hm;rw [←same ho] at hm2;by_cases h5:ixV (JL k (JgH L i)) < 0
      ·rw [if_pos h5] at hfx
       simp -implicitDefEqProofs only [bU,Jc,reduceCtorEq,Ja,Jb,bT,bV,Ja,Jb,q0,q3,q4,q5,q6,h2,Jj,zk,ck,fak,f0k,fvk,ldk,ci,fai,f0i,fvi,ldi,v1k,v1i,v5k,v5i,v6k,v6i,hf,ht,hg,h5,w6];exact ⟨_,bd,k+1,H',_,_,by omega,rfl,by rw [hfx],rfl,rfl,hm2,hk⟩
      ·rw [if_neg h5] at hfx
       simp -implicitDefEqProofs only [bU,Jc,reduceCtorEq,Ja,Jb,bT,bV,Ja,Jb,q0,q3,q4,q5,q6,h2,Jj,zk,ck,fak,f0k,fvk,ldk,ci,fai,f0i,fvi,ldi,v1k,v1i,v5k,v5i,v6k,v6i,hf,ht,hg,h5,w6];exact ⟨_,bd,k+1,H',_,_,by omega,rfl,by rw [hfx],rfl,rfl,hm2,hk⟩
    ·have hkey:JgH L i k=false:=decide_eq_false fun h=>ht (congrArg Prod.snd h)
     have hfx:=JcS (p:=JgH L i) hkey;have ho:JhG L i (k+1)=JhG L i k:=by rw [Jcm,hkey];simp
     have hm2:=hm;rw [←same ho] at hm2;simp -implicitDefEqProofs only [bU,Jc,reduceCtorEq,Ja,Jb,bT,bV,Ja,Jb,q0,q3,q4,q5,q6,h2,Jj,zk,ck,fak,f0k,fvk,ldk,ci,fai,f0i,fvi,ldi,v1k,v1i,v5k,v5i,hf,ht,w6];exact ⟨_,bd,k+1,H',_,_,by omega,rfl,by rw [hfx],rfl,rfl,hm2,hk⟩
   ·have hkey:JgH L i k=false:=decide_eq_false fun h=>hf (congrArg Prod.fst h)
    have hfx:=JcS (p:=JgH L i) hkey;have ho:JhG L i (k+1)=JhG L i k:=by rw [Jcm,hkey];simp
    have hm2:=hm;rw [←same ho] at hm2;simp -implicitDefEqProofs only [bU,Jc,reduceCtorEq,Ja,Jb,bT,bV,Ja,Jb,q0,q3,q4,q5,q6,h2,Jj,zk,ck,f0k,ldk,ci,f0i,ldi,v5k,v5i,hf,w6];exact ⟨_,bd,k+1,H',_,_,by omega,rfl,by rw [hfx],rfl,rfl,hm2,hk⟩
  ·have hke:k=i:=by omega
   subst hke;have w4:IntKind.i64.wrap ((k:Int)+1)=((k+1:Nat):Int):=by rw [w64 (by omega) (by omega)];rfl
   have bd:L.length- (k+1) < L.length-k:=by omega
   have hmx:=JqD (L:=L) (i:=k) (by omega)
   have hm2:Mx H' eI a (Jdq L (Jg3 L (k+1) 0)):=by
    rw [ZY (fl':=Jg3 L k k) (fun j hj=> ?_)]
    ·exact hm
    ·have e0:JhG L (k+1) 0=false:=rfl
     simp only [Jg3,e0,Bool.and_false];by_cases e:j < k
     ·rw [if_pos (by omega),if_pos e]
     ·rw [if_neg e]
      by_cases e2:j=k
      ·subst e2;rw [if_pos (by omega),Jmq (by omega)];simp
      ·rw [if_neg (by omega)];simp [e2]
   have hbad: ∀ {v:Int},(JaZ L k=true→v=if ixV (JL k (JaZ L)) < 0 then (k:Int) else ixV (JL k (JaZ L)))→(JaZ L k=false→v=ixV (JL k (JaZ L)))→ixV (JL (k+1) (JaZ L))=v:=fun h1 h2=>by
    cases hb:JaZ L k with
    | true=>rw [JfJ hb,h1 hb]
    | false=>rw [JcS hb,h2 hb]
   have one:(1:Int)≤1:=Int.le_refl _;by_cases h3:ixV (JL k (JaZ L)) < 0
   ·cases hfx:JL k (JgH L k) with
    | none=>
     rw [hfx] at q5 hmx;have hmx:JaZ L k=false:=hmx;have e5: ¬ (0:Int)≤ixV none:=by decide
     have hb:=hbad (v:=ixV (JL k (JaZ L))) (fun h=>by rw [hmx] at h;cases h) fun _=>rfl
     simp -implicitDefEqProofs only [bU,Jc,reduceCtorEq,Ja,bT,bV,Ja,q0,q3,q4,q5,q6,h2,h3,e5,w4];exact ⟨_,bd,k+1,H',_,_,by omega,rfl,by rw [hb],rfl,rfl,hm2,hk⟩
    | some j=>
     rw [hfx] at q5 hmx;have hjk:=(JhR hfx).1;have hmx:JaZ L k=decide ((itZ L j).r.ttl≠ (itZ L k).r.ttl):=hmx;have hxj:=Ja5 hm.sl (i:=j) (by rw [Jcz];omega)
     rw [JaU] at hxj;obtain ⟨zj,cj,faj,f0j,fvj,ldj,v0j,v1j,v3j,-,-,-,-,-,-,-,-⟩:=hxj;have e5:(0:Int)≤ixV (some j):=by simp [ixV]
     have e6:ixV (some j)=(j:Int):=rfl;have e7:(0:Int)≤(j:Int):=by omega
     rw [e6] at q5;by_cases htt:(itZ L j).r.ttl=(itZ L k).r.ttl
     ·have hb:=hbad (v:=ixV (JL k (JaZ L))) (fun h=>by rw [hmx,htt] at h;simp at h) fun _=>rfl
      simp -implicitDefEqProofs only [bU,Jc,reduceCtorEq,Ja,Jb,bT,bV,Ja,Jb,q0,q3,q4,q5,q6,h2,h3,e7,Jj,zj,cj,faj,f0j,fvj,ldj,v3j,ci,fai,f0i,fvi,ldi,v3i,htt,w4];exact ⟨_,bd,k+1,H',_,_,by omega,rfl,by rw [hb],rfl,rfl,hm2,hk⟩
     ·have hb:=hbad (v:=(k:Int)) (fun _=>by rw [if_pos h3]) fun h=>by rw [hmx] at h;simp [htt] at h
      simp -implicitDefEqProofs only [bU,Jc,reduceCtorEq,Ja,Jb,bT,bV,Ja,Jb,q0,q3,q4,q5,q6,h2,h3,e7,Jj,zj,cj,faj,f0j,fvj,ldj,v3j,ci,fai,f0i,fvi,ldi,v3i,htt,w4];exact ⟨_,bd,k+1,H',_,_,by omega,rfl,by rw [hb],rfl,rfl,hm2,hk⟩
   ·have hb:=hbad (v:=ixV (JL k (JaZ L))) (fun _=>by rw [if_neg h3]) fun _=>rfl
    simp -implicitDefEqProofs only [bU,Jc,reduceCtorEq,Ja,bT,bV,Ja,q0,q3,q4,q5,q6,h2,h3,w4];exact ⟨_,bd,k+1,H',_,_,by omega,rfl,by rw [hb],rfl,rfl,hm2,hk⟩
 ·have hil:i=L.length:=by omega
  subst hil;simp -implicitDefEqProofs only [bU,Jc,reduceCtorEq,bT,q0,q3,q4,l1,l2,h1,Jr,rsC,rsV,Js];refine ⟨?_,?_,hk⟩
  ·rfl
  ·have:Jdq L (Jg3 L L.length 0)=Je9 L:=ZY fun j hj=>by simp [Jg3,hj]
   rw [←this];exact hm
end
section
variable {C:Tab} {L:List Zi} {a:AV} {top:List UInt8} {H:AH} {e:Env} {L0:List Lv} {g:Nat} {κ:Jaa}
theorem Y8 {p:Nat→Bool} {i:Nat} (h: ∀ j,j < i→p j=false) (hi:p i=false): ∀ j,j < i+1→p j=false:=fun j hj=>by
 by_cases e:j=i
 ·subst e;exact hi
 ·exact h j (by omega)
theorem Jr6 (hs:Sx H eI a (Je9 L)) (hl:L.length≤1000) (hHas:JjI C Wv) (q0:look e 0=a) (q6:look e 6= .s top)
  (hit: ∀ i e' L' g',JL L.length (Jb6 L top)=some i→look e' 4= .i .i64 20→look e' 5= .i .i64 (i:Nat)→κ .rt e' ⟨L',g',H⟩)
  (miss:JL L.length (Jb6 L top)=none→ ∀ e' L' g',look e' 0=a→look e' 6= .s top→κ .nx e' ⟨L',g',H⟩):exec C (sAt Jo.s [1,1,0]) e ⟨L0,g,H⟩ κ:=by
 simp only [Jo,sAt];obtain ⟨l1,l2⟩:=hs.len;rw [QY] at l1;simp -implicitDefEqProofs only [bU]
 refine Jl (fun m e M=> ∃ (i:Nat) (L0:List Lv) (g:Nat),i≤L.length∧m=L.length-i∧look e 0=a∧look e 6= .s top∧look e 7= .i .i64 i∧M=⟨L0,g,H⟩∧ ∀ j,j < i→Jb6 L top j=false) ?_ (n:=L.length)
  ⟨0,_,_,by omega,by omega,by simp -implicitDefEqProofs only [bU,reduceCtorEq,bT,q0],by simp -implicitDefEqProofs only [bU,Jc,bT,q6],rfl,rfl,fun j hj=>by omega⟩
 clear q0 q6;rintro m e M ⟨i,L0,g,hi,rfl,q0,q6,qi,rfl,hp⟩;by_cases h1:(i:Int) < L.length
 ·have hil:i < L.length:=by omega
  have hx:=Ja5 hs (i:=i) (by rw [QY];omega)
  rw [ZO] at hx;obtain ⟨z,c,fa,f0,fv,ld,v0,v1,v3,v4,v5,v6,v7,-,-,-,-⟩:=hx;simp only at v0 v1 v3 v4 v5 v6 v7;have w9:IntKind.i64.wrap ((i:Int)+1)=((i+1:Nat):Int):=by rw [w64 (by omega) (by omega)];rfl
  have bd:L.length- (i+1) < L.length-i:=by omega
  have nx:Jb6 L top i=false→ ∀ j,j < i+1→Jb6 L top j=false:=Y8 hp;have ht:Jb6 L top i=true→JL L.length (Jb6 L top)=some i:=fun h=>Ym hil h hp
  have kh:=hHas a L i top 6 H hs (by omega) hl
  cases ho:WN L i with
  | true=>
   rw [ho] at v7;simp -implicitDefEqProofs only [bU,Jc,reduceCtorEq,bT,bV,q0,q6,qi,l1,l2,h1,Jj,z,c,f0,ld,v7,w9];exact ⟨_,bd,i+1,_,_,hil,rfl,rfl,rfl,nx (by simp [Jb6,ho])⟩
  | false=>
   rw [ho] at v7;by_cases h6:(itZ L i).r.t=6
   ·rw [h6] at v1
    by_cases hf:(itZ L i).f=top
    ·rw [hf] at v5
     cases hh:hasB L i top 6 with
     | true=>
      rw [hh] at kh;simp -implicitDefEqProofs only [bU,Jc,reduceCtorEq,Jb,bT,bV,Jb,q0,q6,qi,l1,l2,h1,Jj,z,c,fa,f0,fv,ld,v7,v1,v5,kh,hs.out];exact hit i _ _ _ (ht (by simp [Jb6,ho,h6,hh])) rfl rfl
     | false=>
      rw [hh] at kh;simp -implicitDefEqProofs only [bU,Jc,reduceCtorEq,Jb,bT,bV,Jb,q0,q6,qi,l1,l2,h1,Jj,z,c,fa,f0,fv,ld,v7,v1,v5,kh,hs.out,w9];exact ⟨_,bd,i+1,_,_,hil,rfl,rfl,rfl,nx (by simp [Jb6,ho,hf,hh])⟩
    ·
     simp -implicitDefEqProofs only [bU,Jc,reduceCtorEq,Jb,bT,bV,Jb,q0,q6,qi,l1,l2,h1,Jj,z,c,fa,f0,fv,ld,v7,v1,v5,hf];exact hit i _ _ _ (ht (by simp [Jb6,ho,h6,hf])) rfl rfl
   ·
    simp -implicitDefEqProofs only [bU,Jc,reduceCtorEq,Jb,bT,bV,Jb,q0,q6,qi,l1,l2,h1,Jj,z,c,fa,f0,fv,ld,v7,v1,h6,w9];exact ⟨_,bd,i+1,_,_,hil,rfl,rfl,rfl,nx (by simp [Jb6,ho,h6])⟩
 ·have hil:i=L.length:=by omega
  subst hil;have hno:=Yn hp;simp -implicitDefEqProofs only [bU,Jc,reduceCtorEq,bT,q0,q6,qi,l1,l2,h1];exact miss hno _ _ _ (by simp -implicitDefEqProofs only [bU,reduceCtorEq,bT]) (by simp -implicitDefEqProofs only [bU,Jc,reduceCtorEq,bT])
theorem Jpv (hs:Sx H eI a (Je9 L)) (hl:L.length≤1000) (hSt:Jjn C Wm) (q0:look e 0=a)
  (hit: ∀ i e' L' g',JL L.length (YU L)=some i→look e' 4= .i .i64 26→look e' 5= .i .i64 (i:Nat)→κ .rt e' ⟨L',g',H⟩)
  (miss:JL L.length (YU L)=none→ ∀ e' L' g',look e' 0=a→κ .nx e' ⟨L',g',H⟩):exec C (sAt Jo.s [1,1,1,1,1,0]) e ⟨L0,g,H⟩ κ:=by
 simp only [Jo,sAt];obtain ⟨l1,l2⟩:=hs.len;rw [QY] at l1;simp -implicitDefEqProofs only [bU]
 refine Jl (fun m e M=> ∃ (i:Nat) (L0:List Lv) (g:Nat),i≤L.length∧m=L.length-i∧look e 0=a∧look e 8= .i .i64 i∧M=⟨L0,g,H⟩∧ ∀ j,j < i→YU L j=false) ?_ (n:=L.length)
  ⟨0,_,_,by omega,by omega,by simp -implicitDefEqProofs only [bU,reduceCtorEq,bT,q0],rfl,rfl,fun j hj=>by omega⟩
 clear q0;rintro m e M ⟨i,L0,g,hi,rfl,q0,qi,rfl,hp⟩;by_cases h1:(i:Int) < L.length
 ·have hil:i < L.length:=by omega
  have hx:=Ja5 hs (i:=i) (by rw [QY];omega)
  rw [ZO] at hx;obtain ⟨z,c,fa,f0,fv,ld,v0,v1,v3,v4,v5,v6,v7,-,-,-,-⟩:=hx;simp only at v0 v1 v3 v4 v5 v6 v7;have w9:IntKind.i64.wrap ((i:Int)+1)=((i+1:Nat):Int):=by rw [w64 (by omega) (by omega)];rfl
  have bd:L.length- (i+1) < L.length-i:=by omega
  have nx:YU L i=false→ ∀ j,j < i+1→YU L j=false:=Y8 hp;have ht:YU L i=true→JL L.length (YU L)=some i:=fun h=>Ym hil h hp
  have kst:=hSt (itZ L i).f H;cases ho:WN L i with
  | true=>
   rw [ho] at v7;simp -implicitDefEqProofs only [bU,Jc,reduceCtorEq,Jb,bT,bV,Jb,q0,qi,l1,l2,h1,Jj,z,c,fa,f0,fv,ld,v7,w9];exact ⟨_,bd,i+1,_,_,hil,rfl,rfl,rfl,nx (by simp [YU,ho])⟩
  | false=>
   rw [ho] at v7;cases hst:Jh7 (itZ L i).f with
   | false=>
    rw [hst] at kst;simp -implicitDefEqProofs only [bU,Jc,reduceCtorEq,Jb,bT,bV,Jb,q0,qi,l1,l2,h1,Jj,z,c,fa,f0,fv,ld,v7,v1,v5,kst,w9];exact ⟨_,bd,i+1,_,_,hil,rfl,rfl,rfl,nx (by simp [YU,hst])⟩
   | true=>
    rw [hst] at kst;by_cases h2:(itZ L i).r.t=2
    ·rw [h2] at v1
     simp -implicitDefEqProofs only [bU,Jc,reduceCtorEq,Jb,bT,bV,Jb,q0,qi,l1,l2,h1,Jj,z,c,fa,f0,fv,ld,v7,v1,v5,kst];exact hit i _ _ _ (ht (by simp [YU,ho,hst,h2])) rfl rfl
    ·by_cases h39:(itZ L i).r.t=39
     ·have h39':((itZ L i).r.t=39)=True:=eq_true h39
      simp -implicitDefEqProofs only [bU,Jc,reduceCtorEq,Jb,bT,bV,Jb,q0,qi,l1,l2,h1,Jj,z,c,fa,f0,fv,ld,v7,v1,v5,kst,h2,h39'];exact hit i _ _ _ (ht (by simp [YU,ho,hst,h39])) rfl rfl
     ·
      simp -implicitDefEqProofs only [bU,Jc,reduceCtorEq,Jb,bT,bV,Jb,q0,qi,l1,l2,h1,Jj,z,c,fa,f0,fv,ld,v7,v1,v5,kst,h2,h39,w9];exact ⟨_,bd,i+1,_,_,hil,rfl,rfl,rfl,nx (by simp [YU,h2,h39])⟩
 ·have hil:i=L.length:=by omega
  subst hil;have hno:=Yn hp;simp -implicitDefEqProofs only [bU,Jc,reduceCtorEq,bT,q0,qi,l1,l2,h1];exact miss hno _ _ _ (by simp -implicitDefEqProofs only [bU,reduceCtorEq,bT])
theorem JqE (hs:Sx H eI a (Je9 L)) (hl:L.length≤1000) (hHas:JjI C Wv) (q0:look e 0=a)
  (hit: ∀ i e' L' g',JL L.length (YB L)=some i→look e' 4= .i .i64 23→look e' 5= .i .i64 (i:Nat)→κ .rt e' ⟨L',g',H⟩)
  (miss:JL L.length (YB L)=none→ ∀ e' L' g',look e' 0=a→κ .nx e' ⟨L',g',H⟩):exec C (sAt Jo.s [1,1,1,1,1,1,0]) e ⟨L0,g,H⟩ κ:=by
 simp only [Jo,sAt];obtain ⟨l1,l2⟩:=hs.len;rw [QY] at l1;simp -implicitDefEqProofs only [bU]
 refine Jl (fun m e M=> ∃ (i:Nat) (L0:List Lv) (g:Nat),i≤L.length∧m=L.length-i∧look e 0=a∧look e 10= .i .i64 i∧M=⟨L0,g,H⟩∧ ∀ j,j < i→YB L j=false) ?_ (n:=L.length)
  ⟨0,_,_,by omega,by omega,by simp -implicitDefEqProofs only [bU,reduceCtorEq,bT,q0],rfl,rfl,fun j hj=>by omega⟩
 clear q0;rintro m e M ⟨i,L0,g,hi,rfl,q0,qi,rfl,hp⟩;by_cases h1:(i:Int) < L.length
 ·have hil:i < L.length:=by omega
  have hx:=Ja5 hs (i:=i) (by rw [QY];omega)
  rw [ZO] at hx;obtain ⟨z,c,fa,f0,fv,ld,v0,v1,v3,v4,v5,v6,v7,-,-,-,-⟩:=hx;simp only at v0 v1 v3 v4 v5 v6 v7;have w9:IntKind.i64.wrap ((i:Int)+1)=((i+1:Nat):Int):=by rw [w64 (by omega) (by omega)];rfl
  have bd:L.length- (i+1) < L.length-i:=by omega
  have nx:YB L i=false→ ∀ j,j < i+1→YB L j=false:=Y8 hp;have ht:YB L i=true→JL L.length (YB L)=some i:=fun h=>Ym hil h hp
  have kh:=hHas a L i (itZ L i).f (itZ L i).r.t H hs (by omega) hl
  cases ho:WN L i with
  | true=>
   rw [ho] at v7;simp -implicitDefEqProofs only [bU,Jc,reduceCtorEq,Jb,bT,bV,Jb,q0,qi,l1,l2,h1,Jj,z,c,fa,f0,fv,ld,v1,v7,w9];exact ⟨_,bd,i+1,_,_,hil,rfl,rfl,rfl,nx (by simp [YB,ho])⟩
  | false=>
   rw [ho] at v7;by_cases h5:(itZ L i).r.t=5
   ·have h5':((itZ L i).r.t=5)=True:=eq_true h5
    cases hh:hasB L i (itZ L i).f (itZ L i).r.t with
    | true=>
     rw [hh] at kh;simp -implicitDefEqProofs only [bU,Jc,reduceCtorEq,Jb,bT,bV,Jb,q0,qi,l1,l2,h1,Jj,z,c,fa,f0,fv,ld,v7,v1,v5,kh,hs.out,h5'];exact hit i _ _ _ (ht (by have hh2:=hh;rw [h5] at hh2;simp [YB,ho,hh2,h5])) rfl rfl
    | false=>
     rw [hh] at kh;simp -implicitDefEqProofs only [bU,Jc,reduceCtorEq,Jb,bT,bV,Jb,q0,qi,l1,l2,h1,Jj,z,c,fa,f0,fv,ld,v7,v1,v5,kh,hs.out,h5',w9];exact ⟨_,bd,i+1,_,_,hil,rfl,rfl,rfl,nx (by simp [YB,hh])⟩
   ·by_cases h39:(itZ L i).r.t=39
    ·have h39':((itZ L i).r.t=39)=True:=eq_true h39
     cases hh:hasB L i (itZ L i).f (itZ L i).r.t with
     | true=>
      rw [hh] at kh;simp -implicitDefEqProofs only [bU,Jc,reduceCtorEq,Jb,bT,bV,Jb,q0,qi,l1,l2,h1,Jj,z,c,fa,f0,fv,ld,v7,v1,v5,kh,hs.out,h5,h39'];exact hit i _ _ _ (ht (by have hh2:=hh;rw [h39] at hh2;simp [YB,ho,hh2,h39])) rfl rfl
     | false=>
      rw [hh] at kh;simp -implicitDefEqProofs only [bU,Jc,reduceCtorEq,Jb,bT,bV,Jb,q0,qi,l1,l2,h1,Jj,z,c,fa,f0,fv,ld,v7,v1,v5,kh,hs.out,h5,h39',w9];exact ⟨_,bd,i+1,_,_,hil,rfl,rfl,rfl,nx (by simp [YB,hh])⟩
    ·
     simp -implicitDefEqProofs only [bU,Jc,reduceCtorEq,Jb,bT,bV,Jb,q0,qi,l1,l2,h1,Jj,z,c,fa,f0,fv,ld,v7,v1,h5,h39,w9];exact ⟨_,bd,i+1,_,_,hil,rfl,rfl,rfl,nx (by simp [YB,h5,h39])⟩
 ·have hil:i=L.length:=by omega
  subst hil;have hno:=Yn hp;simp -implicitDefEqProofs only [bU,Jc,reduceCtorEq,bT,q0,qi,l1,l2,h1];exact miss hno _ _ _ (by simp -implicitDefEqProofs only [bU,reduceCtorEq,bT])
theorem Juq (hs:Sx H eI a (Je9 L)) (hl:L.length≤1000) (hHas:JjI C Wv) (q0:look e 0=a)
  (hit: ∀ i e' L' g',JL L.length (cnB L)=some i→look e' 4= .i .i64 23→look e' 5= .i .i64 (i:Nat)→κ .rt e' ⟨L',g',H⟩)
  (miss:JL L.length (cnB L)=none→ ∀ e' L' g',look e' 0=a→κ .nx e' ⟨L',g',H⟩):exec C (sAt Jo.s [1,1,1,1,1,1,1,0]) e ⟨L0,g,H⟩ κ:=by
 simp only [Jo,sAt];obtain ⟨l1,l2⟩:=hs.len;rw [QY] at l1;simp -implicitDefEqProofs only [bU]
 refine Jl (fun m e M=> ∃ (i:Nat) (L0:List Lv) (g:Nat),i≤L.length∧m=L.length-i∧look e 0=a∧look e 12= .i .i64 i∧M=⟨L0,g,H⟩∧ ∀ j,j < i→cnB L j=false) ?_ (n:=L.length)
  ⟨0,_,_,by omega,by omega,by simp -implicitDefEqProofs only [bU,reduceCtorEq,bT,q0],rfl,rfl,fun j hj=>by omega⟩
 clear q0;rintro m e M ⟨i,L0,g,hi,rfl,q0,qi,rfl,hp⟩;by_cases h1:(i:Int) < L.length
 ·have hil:i < L.length:=by omega
  have hx:=Ja5 hs (i:=i) (by rw [QY];omega)
  rw [ZO] at hx;obtain ⟨z,c,fa,f0,fv,ld,v0,v1,v3,v4,v5,v6,v7,-,-,-,-⟩:=hx;simp only at v0 v1 v3 v4 v5 v6 v7;have w9:IntKind.i64.wrap ((i:Int)+1)=((i+1:Nat):Int):=by rw [w64 (by omega) (by omega)];rfl
  have bd:L.length- (i+1) < L.length-i:=by omega
  have nx:cnB L i=false→ ∀ j,j < i+1→cnB L j=false:=Y8 hp;have ht:cnB L i=true→JL L.length (cnB L)=some i:=fun h=>Ym hil h hp
  have kh:=hHas a L L.length (itZ L i).f 5 H hs (by omega) hl
  cases ho:WN L i with
  | true=>
   rw [ho] at v7;simp -implicitDefEqProofs only [bU,Jc,reduceCtorEq,Jb,bT,bV,Jb,q0,qi,l1,l2,h1,Jj,z,c,fa,f0,fv,ld,v1,v7,w9];exact ⟨_,bd,i+1,_,_,hil,rfl,rfl,rfl,nx (by simp [cnB,ho])⟩
  | false=>
   rw [ho] at v7;by_cases h5:(itZ L i).r.t=5
   ·have h5':((itZ L i).r.t=5)=True:=eq_true h5
    simp -implicitDefEqProofs only [bU,Jc,reduceCtorEq,Jb,bT,bV,Jb,q0,qi,l1,l2,h1,Jj,z,c,fa,f0,fv,ld,v1,v7,h5',w9];exact ⟨_,bd,i+1,_,_,hil,rfl,rfl,rfl,nx (by simp [cnB,h5])⟩
   ·by_cases h47:(itZ L i).r.t=47
    ·have h47':((itZ L i).r.t=47)=True:=eq_true h47
     simp -implicitDefEqProofs only [bU,Jc,reduceCtorEq,Jb,bT,bV,Jb,q0,qi,l1,l2,h1,Jj,z,c,fa,f0,fv,ld,v1,v7,h5,h47',w9];exact ⟨_,bd,i+1,_,_,hil,rfl,rfl,rfl,nx (by simp [cnB,h47])⟩
    ·cases hh:hasB L L.length (itZ L i).f 5 with
     | true=>
      rw [hh] at kh;simp -implicitDefEqProofs only [bU,Jc,reduceCtorEq,Jb,bT,bV,Jb,q0,qi,l1,l2,h1,Jj,z,c,fa,f0,fv,ld,v7,v1,v5,h5,h47,kh,hs.out];exact hit i _ _ _ (ht (by simp [cnB,ho,h5,h47,hh])) rfl rfl
     | false=>
      rw [hh] at kh;simp -implicitDefEqProofs only [bU,Jc,reduceCtorEq,Jb,bT,bV,Jb,q0,qi,l1,l2,h1,Jj,z,c,fa,f0,fv,ld,v7,v1,v5,h5,h47,kh,hs.out,w9];exact ⟨_,bd,i+1,_,_,hil,rfl,rfl,rfl,nx (by simp [cnB,hh])⟩
 ·have hil:i=L.length:=by omega
  subst hil;have hno:=Yn hp;simp -implicitDefEqProofs only [bU,Jc,reduceCtorEq,bT,q0,qi,l1,l2,h1];exact miss hno _ _ _ (by simp -implicitDefEqProofs only [bU,reduceCtorEq,bT])
end
section
variable {C:Tab} {L:List Zi} {a:AV} {top:List UInt8} {H:AH} {e:Env} {L0:List Lv} {g:Nat} {κ:Jaa}
def Jmg (L:List Zi) (i k:Nat):Bool:= !WN L i&& !WN L k&&decide ((itZ L k).r.t=39) &&decide ((itZ L k).f≠ (itZ L i).f) &&JfH (itZ L i).f (itZ L k).f
theorem Jpb {i k:Nat} (hk:k < L.length) (h:Jmg L i k=true):JdK L i=true:=by
 unfold JdK;rw [List.any_eq_true];exact ⟨k,List.mem_range.2 hk,h⟩
theorem JlU {i:Nat} (h: ∀ k,k < L.length→Jmg L i k=false):JdK L i=false:=by
 rw [←Bool.not_eq_true];unfold JdK;rw [List.any_eq_true];rintro ⟨k,hk,hh⟩;have:=h k (List.mem_range.1 hk);unfold Jmg at this;rw [this] at hh;cases hh
set_option maxHeartbeats 2000000 in
theorem JsS (hs:Sx H eI a (Je9 L)) (hl:L.length≤1000) (hU:JbI C WO) (hfl: ∀ i,i < L.length→(itZ L i).f.length≤1099511627776) (q0:look e 0=a)
  (hit: ∀ i e' L' g',JL L.length (JdK L)=some i→look e' 4= .i .i64 25→look e' 5= .i .i64 (i:Nat)→κ .rt e' ⟨L',g',H⟩)
  (miss:JL L.length (JdK L)=none→ ∀ e' L' g',look e' 0=a→κ .nx e' ⟨L',g',H⟩):exec C (sAt Jo.s [1,1,1,1,1,1,1,1,0]) e ⟨L0,g,H⟩ κ:=by
 simp only [Jo,sAt];obtain ⟨l1,l2⟩:=hs.len;rw [QY] at l1;simp -implicitDefEqProofs only [bU]
 refine Jl (fun m e M=> ∃ (i:Nat) (L0:List Lv) (g:Nat),i≤L.length∧m=L.length-i∧look e 0=a∧look e 14= .i .i64 i∧M=⟨L0,g,H⟩∧ ∀ j,j < i→JdK L j=false) ?_ (n:=L.length)
  ⟨0,_,_,by omega,by omega,by simp -implicitDefEqProofs only [bU,reduceCtorEq,bT,q0],rfl,rfl,fun j hj=>by omega⟩
 clear q0;rintro m e M ⟨i,L0,g,hi,rfl,q0,q14,rfl,hp⟩;by_cases h1:(i:Int) < L.length
 ·have hil:i < L.length:=by omega
  have hx:=Ja5 hs (i:=i) (by rw [QY];omega)
  rw [ZO] at hx;obtain ⟨z,c,fa,f0,fv,ld,v0,v1,v3,v4,v5,v6,v7,-,-,-,-⟩:=hx;simp only at v0 v1 v3 v4 v5 v6 v7;have w9:IntKind.i64.wrap ((i:Int)+1)=((i+1:Nat):Int):=by rw [w64 (by omega) (by omega)];rfl
  have bd:L.length- (i+1) < L.length-i:=by omega
  simp -implicitDefEqProofs only [bU,Jc,reduceCtorEq,bT,q0,q14,l1,l2,h1]
  refine Jl (fun m e M=> ∃ (k:Nat) (L0:List Lv) (g:Nat),k≤L.length∧m=L.length-k∧look e 0=a∧look e 14= .i .i64 i∧look e 15= .i .i64 k∧M=⟨L0,g,H⟩∧ ∀ j,j < k→Jmg L i j=false) ?_ (n:=L.length)
   ⟨0,_,_,by omega,by omega,rfl,rfl,rfl,rfl,fun j hj=>by omega⟩
  clear q0 q14;rintro m e M ⟨k,L0,g,hkl,rfl,q0,q14,q15,rfl,hpk⟩;by_cases h2:(k:Int) < L.length
  ·have hkl2:k < L.length:=by omega
   cases ho:WN L i with
   | true=>
    rw [ho] at v7;simp -implicitDefEqProofs only [bU,Jc,reduceCtorEq,bT,bV,q0,q14,q15,l1,l2,h2,Jj,z,c,f0,ld,v7,w9];exact ⟨_,bd,i+1,_,_,hil,rfl,rfl,rfl,Y8 hp (JlU fun k _=>by simp [Jmg,ho])⟩
   | false=>
    rw [ho] at v7;have hx:=Ja5 hs (i:=k) (by rw [QY];omega)
    rw [ZO] at hx;obtain ⟨zk,ck,fak,f0k,fvk,ldk,v0k,v1k,v3k,v4k,v5k,v6k,v7k,-,-,-,-⟩:=hx;simp only at v0k v1k v3k v4k v5k v6k v7k;have w15:IntKind.i64.wrap ((k:Int)+1)=((k+1:Nat):Int):=by rw [w64 (by omega) (by omega)];rfl
    have bk:L.length- (k+1) < L.length-k:=by omega
    have ku:=hU (itZ L i).f (itZ L k).f H (hfl i hil) (hfl k hkl2);cases hok:WN L k with
    | true=>
     rw [hok] at v7k;simp -implicitDefEqProofs only [bU,Jc,reduceCtorEq,Ja,bT,bV,Ja,q0,q14,q15,l1,l2,h2,Jj,z,c,f0,ld,v7,ck,f0k,ldk,v7k,w15];exact ⟨_,bk,k+1,_,_,hkl2,rfl,rfl,rfl,Y8 hpk (by simp [Jmg,hok])⟩
    | false=>
     rw [hok] at v7k;by_cases h39:(itZ L k).r.t=39
     ·rw [h39] at v1k
      by_cases hf:(itZ L k).f=(itZ L i).f
      ·simp -implicitDefEqProofs only [bU,Jc,reduceCtorEq,Ja,Jb,bT,bV,Ja,Jb,q0,q14,q15,l1,l2,h2,Jj,z,c,f0,ld,v5,v7,ck,fak,f0k,fvk,ldk,v1k,v5k,v7k,hf,w15]
       exact ⟨_,bk,k+1,_,_,hkl2,rfl,rfl,rfl,Y8 hpk (by simp [Jmg,hf])⟩
      ·cases hu:JfH (itZ L i).f (itZ L k).f with
       | true=>
        rw [hu] at ku;simp -implicitDefEqProofs only [bU,Jc,reduceCtorEq,Ja,Jb,bT,bV,Ja,Jb,q0,q14,q15,l1,l2,h2,Jj,z,c,f0,ld,v5,v7,ck,fak,f0k,fvk,ldk,v1k,v5k,v7k,hf,ku];exact hit i _ _ _ (Ym hil (Jpb hkl2 (by simp [Jmg,ho,hok,h39,hf,hu])) hp) rfl rfl
       | false=>
        rw [hu] at ku;simp -implicitDefEqProofs only [bU,Jc,reduceCtorEq,Ja,Jb,bT,bV,Ja,Jb,q0,q14,q15,l1,l2,h2,Jj,z,c,f0,ld,v5,v7,ck,fak,f0k,fvk,ldk,v1k,v5k,v7k,hf,ku,w15];exact ⟨_,bk,k+1,_,_,hkl2,rfl,rfl,rfl,Y8 hpk (by simp [Jmg,hu])⟩
     ·simp -implicitDefEqProofs only [bU,Jc,reduceCtorEq,Ja,Jb,bT,bV,Ja,Jb,q0,q14,q15,l1,l2,h2,Jj,z,c,f0,ld,v7,ck,fak,f0k,fvk,ldk,v1k,v7k,h39,w15]
      exact ⟨_,bk,k+1,_,_,hkl2,rfl,rfl,rfl,Y8 hpk (by simp [Jmg,h39])⟩
  ·have hke:k=L.length:=by omega
   subst hke;simp -implicitDefEqProofs only [bU,Jc,reduceCtorEq,bT,q0,q14,q15,l1,l2,h2,w9];exact ⟨_,bd,i+1,_,_,hil,rfl,rfl,rfl,Y8 hp (JlU hpk)⟩
 ·have hil:i=L.length:=by omega
  subst hil;have hno:=Yn hp;simp -implicitDefEqProofs only [bU,Jc,reduceCtorEq,bT,q0,q14,l1,l2,h1];exact miss hno _ _ _ (by simp -implicitDefEqProofs only [bU,reduceCtorEq,bT])
def Jio (C:Tab) (f:Nat):Prop:= ∀ (a:AV) (L:List Zi) (apex:List UInt8) (H:AH),Sx H eI a (Je9 L)→L.length≤1000→(∀ i,i < L.length→(itZ L i).f.length≤1099511627776)→apex.length≤1099511627776→C f [a,.s apex] H=some (.tp [.i .i64 (QL L (Jq apex)).1,.i .i64 (QL L (Jq apex)).2],H)
theorem Jp3 {apex:List UInt8} (hF:Jbk C Qn) (hHas:JjI C Wv) (hSt:Jjn C Wm) (hU:JbI C WO) (hs:Sx H eI a (Je9 L)) (hl:L.length≤1000) (hfl: ∀ i,i < L.length→(itZ L i).f.length≤1099511627776) (ha:apex.length≤1099511627776):
  Jt C Jo [a,.s apex] H fun v H'=>v= .tp [.i .i64 (QL L (Jq apex)).1,.i .i64 (QL L (Jq apex)).2]∧H'=H:=by
 have kf:=hF apex H ha;generalize Jq apex=top at kf ⊢;obtain ⟨l1,l2⟩:=hs.len;rw [QY] at l1;have k6:=hHas a L L.length top 6 H hs (Nat.le_refl _) hl;have k2:=hHas a L L.length top 2 H hs (Nat.le_refl _) hl
 have fin: ∀ {x y:Int} {e':Env} {L':List Lv} {g':Nat},QL L top=(x,y)→look e' 4= .i .i64 x→look e' 5= .i .i64 y→Jr [.t 4,.t 5] (fun v H'=>v= .tp [.i .i64 (QL L top).1,.i .i64 (QL L top).2]∧H'=H) .rt e' ⟨L',g',H⟩:=fun hr h4 h5=>by
  simp -implicitDefEqProofs only [bU,Jr,rsC,rsV,Js,h4,h5,hr]
 unfold Jt;have hc:Jo.s= .q (sAt Jo.s [0]) (.q (sAt Jo.s [1,0]) (.q (sAt Jo.s [1,1,0]) (.q (sAt Jo.s [1,1,1,0]) (.q (sAt Jo.s [1,1,1,1,0]) (.q (sAt Jo.s [1,1,1,1,1,0]) (.q (sAt Jo.s [1,1,1,1,1,1,0]) (.q (sAt Jo.s [1,1,1,1,1,1,1,0]) (.q (sAt Jo.s [1,1,1,1,1,1,1,1,0]) (sAt Jo.s [1,1,1,1,1,1,1,1,1]))))))))):=rfl;have hR:Jo.rs=[.t 4,.t 5]:=rfl;rw [hc,hR];rw [x_q,show sAt Jo.s [0]= .o [.mv 4 (.c (.i .i64 0)),.mv 5 (.c (.i .i64 0))] from rfl]
 simp -implicitDefEqProofs only [bU,Ja];rw [show sAt Jo.s [1,0]= .o [.mv 16 (.t 1),.cl (some 17) 222 [.t 16],.mv 6 (.t 17)] from rfl]
 simp -implicitDefEqProofs only [bU,Jc,reduceCtorEq,bT,kf];refine Jr6 hs hl hHas rfl rfl (fun i e' L' g' h h4 h5=> ?_) (fun h1 e1 L1 g1 q0 q6=> ?_)
 ·exact fin (by unfold QL;rw [h]) h4 h5
 simp -implicitDefEqProofs only [bU];rw [show sAt Jo.s [1,1,1,0]= .q (.o [.mv 55 (.t 0),.mv 56 (.t 0),.ln 57 (.t 56),.mv 58 (.t 6),.cl (some 59) 292 [(.t 55),(.t 57),(.t 58),(.c (.i .i64 6))],.un 60 .not (.t 59)]) (.i (.t 60) (.q (.o [.mv 4 (.c (.i .i64 20)),.mv 5 (.c (.i .i64 (-1)))]) .r) .k) from rfl]
 cases hb6:hasB L L.length top 6 with
 | false=>
  rw [hb6] at k6;simp -implicitDefEqProofs only [bU,Jc,reduceCtorEq,bT,q0,q6,l1,l2,k6,hs.out];exact fin (by unfold QL;rw [h1];simp only [hb6,if_true]) rfl rfl
 | true=>
 rw [hb6] at k6;simp -implicitDefEqProofs only [bU,Jc,reduceCtorEq,bT,q0,q6,l1,l2,k6,hs.out];rw [show sAt Jo.s [1,1,1,1,0]= .q (.o [.mv 61 (.t 0),.mv 62 (.t 0),.ln 63 (.t 62),.mv 64 (.t 6),.cl (some 65) 292 [(.t 61),(.t 63),(.t 64),(.c (.i .i64 2))],.un 66 .not (.t 65)]) (.i (.t 66) (.q (.o [.mv 4 (.c (.i .i64 21)),.mv 5 (.c (.i .i64 (-1)))]) .r) .k) from rfl]
 cases hb2:hasB L L.length top 2 with
 | false=>
  rw [hb2] at k2;simp -implicitDefEqProofs only [bU,Jc,reduceCtorEq,bT,q0,q6,l1,l2,k2,hs.out];exact fin (by unfold QL;rw [h1];simp [hb6,hb2]) rfl rfl
 | true=>
 rw [hb2] at k2;simp -implicitDefEqProofs only [bU,Jc,reduceCtorEq,bT,q0,q6,l1,l2,k2,hs.out];refine Jpv hs hl hSt (by simp -implicitDefEqProofs only [bU,reduceCtorEq,bT,q0]) (fun i e' L' g' h h4 h5=> ?_) (fun h2 e2 L2 g2 q0=> ?_)
 ·exact fin (by unfold QL;rw [h1];simp [hb6,hb2,h]) h4 h5
 simp -implicitDefEqProofs only [bU];refine JqE hs hl hHas q0 (fun i e' L' g' h h4 h5=> ?_) (fun h3 e3 L3 g3 q0=> ?_)
 ·exact fin (by unfold QL;rw [h1];simp [hb6,hb2,h2,h]) h4 h5
 simp -implicitDefEqProofs only [bU];refine Juq hs hl hHas q0 (fun i e' L' g' h h4 h5=> ?_) (fun h4' e4 L4 g4 q0=> ?_)
 ·exact fin (by unfold QL;rw [h1];simp [hb6,hb2,h2,h3,h]) h4 h5
 simp -implicitDefEqProofs only [bU];refine JsS hs hl hU hfl q0 (fun i e' L' g' h h4 h5=> ?_) (fun h5' e5 L5 g5 q0=> ?_)
 ·exact fin (by unfold QL;rw [h1];simp [hb6,hb2,h2,h3,h4',h]) h4 h5
 simp -implicitDefEqProofs only [bU];rw [show sAt Jo.s [1,1,1,1,1,1,1,1,1]= .q (.o [.mv 4 (.c (.i .i64 0)),.mv 5 (.c (.i .i64 0))]) .r from rfl]
 simp -implicitDefEqProofs only [bU];exact fin (by unfold QL;rw [h1];simp [hb6,hb2,h2,h3,h4',h5']) rfl rfl
end
theorem Qk {t g z:Nat} {x:AV} {L:List Lv} {H:AH}:QE ⟨⟨t,g,0,[x]⟩::L,g+1,H⟩ (.ll t g z 1)=[x]∧Je7 ⟨⟨t,g,0,[x]⟩::L,g+1,H⟩ z (.ll t g z 1):=by
 simp [QE,Je7,Mem.getL,Mem.hasL,Qx]
def VZ (x:Zi):Prop:=(∃ a,JB x.f=some a)∧Jq x.f=x.f
theorem VZ.len {x:Zi} (h:VZ x):x.f.length≤255:=by
 obtain ⟨⟨a,ha⟩,-⟩:=h;exact (Q9 ha).2.2
def xLt (x y:Zi×Bool):Bool:=iLt x.1 y.1
theorem JuG:Jb0 xLt:=Jvb.comap Prod.fst
theorem Jj8 {α:Type} {lt:α→α→Bool} {x y:α} {a b:List α} (h:lt x y=true):mrg lt (x::a) (y::b)=x::mrg lt a (y::b):=by rw [mrg,if_pos h]
theorem JjR {α:Type} {lt:α→α→Bool} {x y:α} {a b:List α} (h:lt x y=false):mrg lt (x::a) (y::b)=y::mrg lt (x::a) b:=by rw [mrg,if_neg (by rw [h];decide)]
section
variable {C:Tab}
def JdE (a:AV) (xs:List (Zi×Bool)) (H:AH) (v:AV) (H':AH):Prop:=Ext H H'∧ ∃ M,M.Perm xs∧Srt xLt M∧Sx H' eI v M∧Cl H' v
def Jl3 (C:Tab) (f w:Nat):Prop:= ∀ (a:AV) (xs:List (Zi×Bool)) (H:AH),Sx H eI a xs→Cl H a→xs.length≤w→(∀ x,x∈xs→VZ x.1)→ ∃ v H',C f [a] H=some (v,H')∧JdE a xs H v H'
set_option maxHeartbeats 2000000 in
theorem JrC {a:AV} {xs:List (Zi×Bool)} {H:AH} {w:Nat} (hw:w≤1024) (hR:Jl3 C WM w) (hB:JmI C QM) (hs:Sx H eI a xs) (hc:Cl H a) (hn:xs.length≤2*w) (hV: ∀ x,x∈xs→VZ x.1):Jt C QC [a] H (JdE a xs H):=by
 unfold Jt QC;have ao:=hs.out;obtain ⟨l1,l2⟩:=hs.len;by_cases h2:(xs.length:Int) < 2
 ·simp -implicitDefEqProofs only [bU,Jc,reduceCtorEq,bT,l1,l2,h2,ao,Jr,rsC,rsV,Js]
  refine ⟨.refl _,xs,.refl _,?_,hs,hc⟩
  match xs,h2 with
  | [],_=>exact Srt.nil
  | [x],_=>exact Srt.one
  | _::_::_,h2=>simp at h2;omega
 ·have hq:IntKind.i64.wrap ((xs.length:Int).tdiv 2)=((xs.length / 2:Nat):Int):=by
   have:(xs.length:Int).tdiv 2=((xs.length / 2:Nat):Int):=by rw [Int.tdiv_eq_ediv_of_nonneg (by omega)];omega
   rw [this,w64 (by omega) (by omega)]
  have hl:(xs.map eI.v).length=xs.length:=List.length_map _;obtain ⟨a1,a2,a3⟩:=Sl.sub (lo:=0) (hi:=(xs.length / 2:Nat)) hs hc (by omega) (by omega) (by rw [hl];omega)
  obtain ⟨b1,b2,b3⟩:=Sl.suf (lo:=(xs.length / 2:Nat)) hs (by omega) (by rw [hl];omega)
  rw [hl] at b1 b3;have ez:eI.z=8:=rfl;simp only [Int.toNat_natCast,Int.toNat_zero,List.drop_zero,Nat.sub_zero,←List.map_take] at a3;simp only [Int.toNat_natCast,←List.map_drop] at b3;have hcA:Cl H (slV 0 (xs.length / 2) a):=fun i hi=>by rw [JlK] at hi;exact hc i hi
  obtain ⟨v1,H1,k1,e1,A,pA,sA,xA,cA⟩:=hR _ _ H a3 hcA (by simp;omega) fun x hx=>hV x (List.mem_of_mem_take hx)
  have b3':Sx H1 eI (slV (xs.length / 2) xs.length a) (xs.drop (xs.length / 2)):=Sl.ext b3 e1
  have hcB:Cl H1 (slV (xs.length / 2) xs.length a):=fun i hi=>by
   rw [JlK] at hi;intro rw st z ys he;rw [e1.at' i (hs.lt i hi)] at he;exact hc i hi rw st z ys he
  obtain ⟨v2,H2,k2,e2,B,pB,sB,xB,cB⟩:=hR _ _ H1 b3' hcB (by simp;omega) fun x hx=>hV x (List.mem_of_mem_drop hx)
  have lA:A.length=xs.length / 2:=by rw [pA.length_eq,List.length_take];omega
  have lB:B.length=xs.length-xs.length / 2:=by rw [pB.length_eq,List.length_drop]
  have vA: ∀ x,x∈A→VZ x.1:=fun x hx=>hV x (List.mem_of_mem_take (pA.mem_iff.1 hx))
  have vB: ∀ x,x∈B→VZ x.1:=fun x hx=>hV x (List.mem_of_mem_drop (pB.mem_iff.1 hx))
  have xA2:Sx H2 eI v1 A:=Sl.ext xA e2;obtain ⟨m1,m2⟩:=xA2.len;obtain ⟨m3,m4⟩:=xB.len;have oA:=xA2.out;have oB:=xB.out;rw [ez] at a2 b2
  have hfin: ∀ {H':AH} {o:AV},Ext H2 H'→Mx H' eI o (mrg xLt A B)→Cl H' o→JdE a xs H o H':=fun he hm hcl=>by
   refine ⟨(e1.trans e2).trans he,mrg xLt A B,?_,Jic JuG _ A B (Nat.le_refl _) sA sB,hm.sl,hcl⟩
   have:=(Jcg (lt:=xLt) _ A B (Nat.le_refl _)).trans (pA.append pB);rwa [List.take_append_drop] at this
  have b2':slZ H1 8 a:=(b3' |> fun h=>by have:=(Sl.ext hs e1).rd.2.1;rwa [ez] at this)
  simp -implicitDefEqProofs only [bU,Jc,reduceCtorEq,bT,l1,l2,h2,hq,a1,a2,k1,b1,b2',k2,Jj,Int.toNat_zero,a3.out,b3.out,JE,JQ,List.replicate];refine ⟨by decide,by decide,?_⟩
  refine Jl (fun m e M=> ∃ (i k:Nat) (o:AV) (O:List (Zi×Bool)) (H':AH) (L0:List Lv) (g:Nat),i≤A.length∧k≤B.length∧m=A.length-i+(B.length-k)∧look e 3=v1∧look e 4=v2∧look e 5=o∧look e 6= .i .i64 i∧look e 7= .i .i64 k∧M=⟨L0,g,H'⟩∧Ext H2 H'∧Mx H' eI o O∧Cl H' o∧(∀ j,j∈idA o→H2.n≤j)∧O++mrg xLt (A.drop i) (B.drop k)=mrg xLt A B∧O.length=i+k) ?_ (n:=A.length+B.length)
   ⟨0,0,.sl H2.n 0 0,[],H2.new (.arr true 0 8 []),_,_,by omega,by omega,by omega,rfl,rfl,rfl,rfl,rfl,rfl,.new _ _,.own (by simp) QD,fun i hi rw st z xs he=>by
    simp only [idA,List.mem_singleton] at hi;subst hi;rw [QD] at he;cases he;decide,fun i hi=>by simp only [idA,List.mem_singleton] at hi;omega,by simp,by simp⟩
  clear k1 k2 a1 a2 a3 b1 b2 b2' b3 b3' hcA hcB;rintro m e M ⟨i,k,o,O,H',L0,g,hi,hk,rfl,q3,q4,q5,q6,q7,rfl,he,hm,hcl,hid,hO,hOl⟩;obtain ⟨n1,n2⟩:=Sx.len (Sl.ext xA2 he);obtain ⟨n3,n4⟩:=Sx.len (Sl.ext xB he);have oo:=hm.sl.out;have hcw: ∀ x:Zi×Bool,(eI.v x).cells.length=8:=fun _=>rfl
  have how: ∀ x:Zi×Bool,(eI.v x).outs=true:=fun _=>rfl
  have nxt: ∀ {x:Zi×Bool} {i' k':Nat} {o':AV} {H3:AH},Ext H2 H'→H'.n≤H3.n→(∀ j,j < H'.n→ ¬ j∈idA o→H3.at' j=H'.at' j)→Ext H2 H3:=fun he h1 h2=>⟨Nat.le_trans he.n h1,fun j hj=>by rw [h2 j (Nat.lt_of_lt_of_le hj he.n) fun hh=>by have:=hid j hh;omega];exact he.at' j hj⟩
  have hmap: ∀ x:Zi×Bool,O.map eI.v++[eI.v x]=(O++[x]).map eI.v:=fun x=>by simp
  have wi:IntKind.i64.wrap ((i:Int)+1)=((i+1:Nat):Int):=by rw [w64 (by omega) (by omega)];rfl
  have wk:IntKind.i64.wrap ((k:Int)+1)=((k+1:Nat):Int):=by rw [w64 (by omega) (by omega)];rfl
  have bi:i < A.length→A.length- (i+1)+(B.length-k) < A.length-i+(B.length-k):=fun h=>by omega
  have bk:k < B.length→A.length-i+(B.length- (k+1)) < A.length-i+(B.length-k):=fun h=>by omega
  by_cases cA1:(i:Int) < A.length
  ·have iA:i < A.length:=by omega
   have xa:=Ja5 (Sl.ext xA2 he) iA;obtain ⟨za,ca,-,-,-,-,-,-,-,-,-,-,-,wca,wva,-,-⟩:=xa;obtain ⟨p1,o',H3,p2,p3,p4,p5,p6,p7,-,p9⟩:=Mn.ap (by':=96) hm (Qk (t:=61) (g:=g) (x:=eI.v A[i]) (L:=ZK (JJ [3,4,5,6,7] L0) 61) (H:=H')) (by simp;omega)
   have hid': ∀ j,j∈idA o'→H2.n≤j:=fun j hj=>(p7 j hj).elim (hid j) fun h=>Nat.le_trans he.n h
   have dA:A.drop i=A[i]::A.drop (i+1):=List.drop_eq_getElem_cons iA;rw [ez] at p1 p2 p3;by_cases cB1:(k:Int) < B.length
   ·have kB:k < B.length:=by omega
    have xb:=Ja5 (Sl.ext xB he) kB;obtain ⟨zb,cb,-,-,-,-,-,-,-,-,-,-,-,wcb,wvb,-,-⟩:=xb;have dB:B.drop k=B[k]::B.drop (k+1):=List.drop_eq_getElem_cons kB;have cne: ¬ (k:Int)=B.length:=by omega
    have va:=vA _ (List.getElem_mem iA);have vb:=vB _ (List.getElem_mem kB);have kb:C QM [eI.v A[i],eI.v B[k]] H'=some (.b (JqV A[i].1 B[k].1),H'):=hB A[i].1 B[k].1 A[i].2 B[k].2 H' (by have:=va.len;omega) (by have:=vb.len;omega)
    rw [JmQ va.1 vb.1 va.2 vb.2] at kb;cases hlt:iLt A[i].1 B[k].1 with
    | true=>
     rw [hlt] at kb;simp -implicitDefEqProofs only [bU,Jc,Ja,bT,bV,Ja,q3,q4,q5,q6,q7,n1,n2,n3,n4,cA1,cne,Jj,za,ca,wca,wva,zb,cb,wcb,wvb,hcw,how,kb,JE,JQ,List.replicate];simp -implicitDefEqProofs only [bU,p1,p2,p3,wi];refine ⟨_,bi iA,i+1,k,o',O++[A[i]],H3,_,_,by omega,hk,rfl,rfl,rfl,rfl,rfl,nxt (i':=0) (k':=0) (o':=o) (x:=A[i]) he p5 p6,hmap A[i] ▸p4,p9 hcl,hid',?_,by simp;omega⟩
     rw [←hO,dA,dB,Jj8 (show xLt A[i] B[k]=true from hlt)]
     simp
    | false=>
     rw [hlt] at kb;obtain ⟨r1,o2,H4,r2,r3,r4,r5,r6,r7,-,r9⟩:=Mn.ap (by':=96) hm (Qk (t:=70) (g:=g) (x:=eI.v B[k]) (L:=ZK (JJ [3,4,5,6,7] L0) 70) (H:=H')) (by simp;omega)
     have hid2: ∀ j,j∈idA o2→H2.n≤j:=fun j hj=>(r7 j hj).elim (hid j) fun h=>Nat.le_trans he.n h
     rw [ez] at r1 r2 r3;simp -implicitDefEqProofs only [bU,Jc,Ja,bT,bV,Ja,q3,q4,q5,q6,q7,n1,n2,n3,n4,cA1,cne,Jj,za,ca,wca,wva,zb,cb,wcb,wvb,hcw,how,kb,JE,JQ,List.replicate];simp -implicitDefEqProofs only [bU,r1,r2,r3,wk];refine ⟨_,bk kB,i,k+1,o2,O++[B[k]],H4,_,_,hi,by omega,rfl,rfl,rfl,rfl,rfl,nxt (i':=0) (k':=0) (o':=o) (x:=A[i]) he r5 r6,hmap B[k] ▸r4,r9 hcl,hid2,?_,by simp;omega⟩
     rw [←hO,dA,dB,JjR (show xLt A[i] B[k]=false from hlt)]
     simp
   ·have ke:(k:Int)=B.length:=by omega
    have ke':((k:Int)=B.length)=True:=eq_true ke;simp -implicitDefEqProofs only [bU,Jc,Ja,bT,bV,Ja,q3,q4,q5,q6,q7,n1,n2,n3,n4,cA1,ke',Jj,za,ca,wca,wva,hcw,how,JE,JQ,List.replicate];simp -implicitDefEqProofs only [bU,p1,p2,p3,wi];refine ⟨_,bi iA,i+1,k,o',O++[A[i]],H3,_,_,by omega,hk,rfl,rfl,rfl,rfl,rfl,nxt (i':=0) (k':=0) (o':=o) (x:=A[i]) he p5 p6,hmap A[i] ▸p4,p9 hcl,hid',?_,by simp;omega⟩
    have dB:B.drop k=[]:=List.drop_of_length_le (by omega)
    rw [←hO,dA,dB,JlF,JlF];simp
  ·have ie:i=A.length:=by omega
   have dA:A.drop i=[]:=List.drop_of_length_le (by omega)
   by_cases cB1:(k:Int) < B.length
   ·have kB:k < B.length:=by omega
    have xb:=Ja5 (Sl.ext xB he) kB;obtain ⟨zb,cb,-,-,-,-,-,-,-,-,-,-,-,wcb,wvb,-,-⟩:=xb;have dB:B.drop k=B[k]::B.drop (k+1):=List.drop_eq_getElem_cons kB;have cne: ¬ (k:Int)=B.length:=by omega
    obtain ⟨r1,o2,H4,r2,r3,r4,r5,r6,r7,-,r9⟩:=Mn.ap (by':=96) hm (Qk (t:=70) (g:=g) (x:=eI.v B[k]) (L:=ZK (JJ [3,4,5,6,7] L0) 70) (H:=H')) (by simp;omega)
    have hid2: ∀ j,j∈idA o2→H2.n≤j:=fun j hj=>(r7 j hj).elim (hid j) fun h=>Nat.le_trans he.n h
    rw [ez] at r1 r2 r3;simp -implicitDefEqProofs only [bU,Jc,Ja,bT,bV,Ja,q3,q4,q5,q6,q7,n1,n2,n3,n4,cA1,cB1,cne,Jj,zb,cb,wcb,wvb,hcw,how,JE,JQ,List.replicate];simp -implicitDefEqProofs only [bU,r1,r2,r3,wk];refine ⟨_,bk kB,i,k+1,o2,O++[B[k]],H4,_,_,hi,by omega,rfl,rfl,rfl,rfl,rfl,nxt (i':=0) (k':=0) (o':=o) (x:=B[k]) he r5 r6,hmap B[k] ▸r4,r9 hcl,hid2,?_,by simp;omega⟩
    rw [←hO,dA,dB];simp [mrg]
   ·have ke:k=B.length:=by omega
    subst ie ke;simp -implicitDefEqProofs only [bU,Jc,bT,q3,q4,q5,q6,q7,n1,n2,n3,n4,cA1,cB1,oo,Jr,rsC,rsV,Js];have:O=mrg xLt A B:=by rw [←hO];simp [mrg]
    rw [this] at hm;exact hfin he hm hcl
end
def z0V:AV:= .ag [.s [],.ns]
theorem Jny (l:List Rr):Jdq (l.map zi) (fun _=>false)=l.map fun r=>(zi r,false):=by
 apply List.ext_getElem (by simp [Jdq])
 intro i h1 h2;rw [JaU];have hi:i < l.length:=by simpa [Jdq] using h1
 rw [Z5 (by simpa using hi)]
 simp
theorem JgI {H:AH} {a:AV} {l:List Rr} (h:Sx H eR a l) {i:Nat} (hi:i < l.length):slZ H 5 a∧iaC (i:Int) a∧faC (iaV i a)∧(∀ (L:List Lv) (g:Nat),ldC ⟨L,g,H⟩ (some 5) (iaV i a))∧(∀ (L:List Lv) (g:Nat),ldX ⟨L,g,H⟩ (some 5) (iaV i a)=eR.v l[i])∧
  (∀ (o:Nat) (L:List Lv) (g:Nat),o < 5→ldC ⟨L,g,H⟩ none (faV o (iaV i a)))∧(∀ (L:List Lv) (g:Nat),ldX ⟨L,g,H⟩ none (faV 0 (iaV i a))= .s l[i].o)∧(∀ (L:List Lv) (g:Nat),ldX ⟨L,g,H⟩ none (faV 1 (iaV i a))= .i .i64 l[i].t)∧
  (∀ (L:List Lv) (g:Nat),ldX ⟨L,g,H⟩ none (faV 2 (iaV i a))= .i .i64 l[i].c)∧(∀ (L:List Lv) (g:Nat),ldX ⟨L,g,H⟩ none (faV 3 (iaV i a))= .i .i64 l[i].ttl)∧(∀ (L:List Lv) (g:Nat),ldX ⟨L,g,H⟩ none (faV 4 (iaV i a))= .s l[i].d):=by
 obtain ⟨z1,z2,z3,z4⟩:=Sx.at' h hi;have fd:=fun off (ho:off < 5)=>Sx.fdn (z:=5) h rfl hi (off:=off) ho
 exact ⟨z1,z2,(fd 0 (by decide)).2.2.1,z3,z4,fun o L g ho=>(fd o ho).2.2.2.1 L g,(fd 0 (by decide)).2.2.2.2,(fd 1 (by decide)).2.2.2.2,(fd 2 (by decide)).2.2.2.2,(fd 3 (by decide)).2.2.2.2,(fd 4 (by decide)).2.2.2.2⟩
section
variable {C:Tab} {l:List Rr} {a:AV} {apex:List UInt8} {H:AH} {e:Env} {L0:List Lv} {g:Nat} {κ:Jaa}
theorem Jkt (s:List UInt8):(Jq s).length≤s.length:=by
 cases h:JB s with
 | none=>rw [JcU h];simp
 | some a=>rw [Xh h];simp [Zz]
set_option maxHeartbeats 2000000 in
theorem Jva (hs:Sx H eR a l) (hl:l.length≤500) (hO:JmG C YR) (hF:Jbk C Qn) (hD:Jnu C Xi) (hsz: ∀ r,r∈l→r.o.length≤1099511627776∧r.d.length≤1099511627776) (ha:apex.length≤1099511627776)
  {H1:AH} {o:AV} (he:Ext H H1) (hm:Mx H1 eI o []) (hcl:Cl H1 o) (hid: ∀ j,j∈idA o→H.n≤j)
  (q0:look e 0=a) (q1:look e 1= .s apex) (q4:look e 4= .la 4 0 0 0) (q7:look e 7=o) (hL0:JJ [0,1,4,7,8] L0=[⟨4,0,0,[z0V]⟩])
  (hit: ∀ i e' g' H',JL l.length (fun i=>decide (Jai (l.getD i rrZ) apex≠0))=some i→Ext H H'→look e' 4= .la 4 0 0 0→look e' 5= .i .i64 (Jai (l.getD i rrZ) apex)→look e' 6= .i .i64 (i:Nat)→κ .rt e' ⟨[⟨4,0,0,[z0V]⟩],g',H'⟩)
  (miss:(∀ i,i < l.length→Jai (l.getD i rrZ) apex=0)→ ∀ e' g' H' o',Ext H H'→Mx H' eI o' (Jdq (l.map zi) fun _=>false)→(∀ j,j∈idA o'→H.n≤j)→look e' 0=a→look e' 1= .s apex→look e' 4= .la 4 0 0 0→look e' 7=o'→κ .nx e' ⟨[⟨4,0,0,[z0V]⟩],g',H'⟩):
  exec C (sAt Jp.s [1,1,1,1,0]) e ⟨L0,g,H1⟩ κ:=by
 simp only [Jp,sAt];obtain ⟨l1,l2⟩:=hs.len;simp -implicitDefEqProofs only [bU]
 refine Jl (fun m e M=> ∃ (i:Nat) (o:AV) (H':AH) (L0:List Lv) (g:Nat),i≤l.length∧m=l.length-i∧look e 0=a∧look e 1= .s apex∧look e 4= .la 4 0 0 0∧look e 7=o∧look e 8= .i .i64 i∧M=⟨L0,g,H'⟩∧JJ [0,1,4,7,8] L0=[⟨4,0,0,[z0V]⟩]∧Ext H H'∧
   Mx H' eI o ((l.take i).map fun r=>(zi r,false))∧Cl H' o∧(∀ j,j∈idA o→H.n≤j)∧ ∀ j,j < i→Jai (l.getD j rrZ) apex=0) ?_ (n:=l.length)
  ⟨0,o,H1,_,_,by omega,by omega,by simp -implicitDefEqProofs only [bU,reduceCtorEq,bT,q0],by simp -implicitDefEqProofs only [bU,Jc,bT,q1],by simp -implicitDefEqProofs only [bU,Jc,bT,q4],by simp -implicitDefEqProofs only [bU,Jc,bT,q7],rfl,rfl,hL0,he,by simpa using hm,hcl,hid,fun j hj=>by omega⟩
 clear q0 q1 q4 q7 hL0 he hm hcl hid;rintro m e M ⟨i,o,H',L0,g,hi,rfl,q0,q1,q4,q7,q8,rfl,hL0,he,hm,hcl,hid,hp⟩;by_cases h1:(i:Int) < l.length
 ·have hil:i < l.length:=by omega
  obtain ⟨z,c,f0,rc,rv,ld,v0,v1,v2,v3,v4⟩:=JgI (Sl.ext hs he) hil;obtain ⟨s1,s2⟩:=hsz _ (List.getElem_mem hil);have hgd:l.getD i rrZ=l[i]:=by simp [List.getD,hil]
  have k1:=hO l[i] apex H' s1 s2 ha;have k2:=hF l[i].o H' s1;have k3:=hD l[i].t l[i].d H' s2;have ow:(eR.v l[i]).outs=true:=rfl;have w9:IntKind.i64.wrap ((i:Int)+1)=((i+1:Nat):Int):=by rw [w64 (by omega) (by omega)];rfl
  have bd:l.length- (i+1) < l.length-i:=by omega
  by_cases hone:Jai l[i] apex=0
  ·rw [hone] at k1
   obtain ⟨p1,o',H3,p2,p3,p4,p5,p6,p7,-,p9⟩:=Mn.ap (by':=96) hm (Qk (t:=68) (g:=g) (x:=eI.v (zi l[i],false)) (L:=[⟨4,0,0,[.ag [.s [],.ns]]⟩]) (H:=H')) (by simp;omega)
   rw [show eI.z=8 from rfl] at p1 p2 p3
   rw [Jru] at p1 p2 p3;simp only [zi] at p1 p2 p3;rw [JcE] at rv k1;simp -implicitDefEqProofs only [bU,Jc,reduceCtorEq,Ja,Jb,bT,bV,Ja,Jb,Jg,Qs,J6,q0,q1,q4,q7,q8,l1,l2,h1,hL0,Jj,z,c,f0,rc,rv,ld,v0,v1,v4,k1,k2,k3,JG,JH,JE,JQ,List.replicate,z0V];simp -implicitDefEqProofs only [bU,p1,p2,p3,w9];refine ⟨_,bd,i+1,o',H3,_,_,hil,rfl,rfl,rfl,rfl,rfl,⟨Nat.le_trans he.n p5,fun j hj=>by rw [p6 j (Nat.lt_of_lt_of_le hj he.n) fun hh=>by have:=hid j hh;omega];exact he.at' j hj⟩,?_,p9 hcl,fun j hj=>(p7 j hj).elim (hid j) fun h=>Nat.le_trans he.n h,fun j hj=> ?_⟩
   ·have e1:(l.take (i+1)).map (fun r=>(zi r,false))=(l.take i).map (fun r=>(zi r,false))++[(zi l[i],false)]:=by rw [List.take_succ_eq_append_getElem hil,List.map_append];rfl
    rw [e1];show Mn H3 eI.z o' _
    rw [List.map_append];exact p4
   ·by_cases e:j=i
    ·subst e;rw [hgd];exact hone
    ·exact hp j (by omega)
  ·have hne: ¬ Jai l[i] apex=0:=hone
   have hfx:JL l.length (fun i=>decide (Jai (l.getD i rrZ) apex≠0))=some i:=Ym hil (decide_eq_true (by rw [hgd];exact hone)) fun j hj=>decide_eq_false fun h=>h (hp j hj)
   rw [JcE] at rv k1;simp -implicitDefEqProofs only [bU,Jc,reduceCtorEq,Ja,bT,bV,Ja,q0,q1,q4,q7,q8,l1,l2,h1,hL0,Jj,z,c,rc,rv,k1,hne,JG,JH,z0V];exact hit i _ _ _ hfx he (by simp -implicitDefEqProofs only [bU,Jc,reduceCtorEq,bT]) (by rw [hgd];rfl) rfl
 ·have hil:i=l.length:=by omega
  subst hil;rw [List.take_length] at hm;simp -implicitDefEqProofs only [bU,Jc,reduceCtorEq,bT,q0,q1,q4,q7,q8,l1,l2,h1,hL0];exact miss hp _ _ _ o he (by rw [Jny];exact hm) hid (by simp -implicitDefEqProofs only [bU,reduceCtorEq,bT]) (by simp -implicitDefEqProofs only [bU,Jc,reduceCtorEq,bT]) (by simp -implicitDefEqProofs only [bU,Jc,reduceCtorEq,bT]) (by simp -implicitDefEqProofs only [bU,Jc,reduceCtorEq,bT])
set_option maxHeartbeats 2000000 in
theorem JuC {Z:List Zi} {o:AV} {H1 H2:AH} (hs:Sx H1 eI o (Je9 Z)) (hl:Z.length≤500) (hH:H1.n≤H2.n) {r:AV} (he:Ext H1 H2) (hm:Mx H2 eI r []) (hcl:Cl H2 r) (hid: ∀ j,j∈idA r→H1.n≤j)
  (q1:look e 1= .s apex) (q4:look e 4= .la 4 0 0 0) (q7:look e 7=o) (q13:look e 13=r) (hL0:JJ [1,4,7,13,14] L0=[⟨4,0,0,[z0V]⟩])
  (miss: ∀ e' g' H' r',Ext H1 H'→Mx H' eI r' ((J2 Z).map fun x=>(x,false))→Cl H' r'→(∀ j,j∈idA r'→H1.n≤j)→look e' 1= .s apex→look e' 4= .la 4 0 0 0→look e' 7=o→look e' 13=r'→κ .nx e' ⟨[⟨4,0,0,[z0V]⟩],g',H'⟩):
  exec C (sAt Jp.s [1,1,1,1,1,1,1,1,1,1,0]) e ⟨L0,g,H2⟩ κ:=by
 simp only [Jp,sAt];obtain ⟨l1,l2⟩:=hs.len;rw [QY] at l1;simp -implicitDefEqProofs only [bU]
 refine Jl (fun m e M=> ∃ (i:Nat) (r:AV) (H':AH) (L0:List Lv) (g:Nat),i≤Z.length∧m=Z.length-i∧look e 1= .s apex∧look e 4= .la 4 0 0 0∧look e 7=o∧look e 13=r∧look e 14= .i .i64 i∧M=⟨L0,g,H'⟩∧JJ [1,4,7,13,14] L0=[⟨4,0,0,[z0V]⟩]∧Ext H1 H'∧
   Mx H' eI r ((((List.range i).filter fun i=> !WN Z i).map (itZ Z)).map fun x=>(x,false))∧Cl H' r∧(∀ j,j∈idA r→H1.n≤j)) ?_ (n:=Z.length)
  ⟨0,r,H2,_,_,by omega,by omega,by simp -implicitDefEqProofs only [bU,Jc,bT,q1],by simp -implicitDefEqProofs only [bU,Jc,bT,q4],by simp -implicitDefEqProofs only [bU,Jc,bT,q7],by simp -implicitDefEqProofs only [bU,Jc,bT,q13],rfl,rfl,hL0,he,by simpa using hm,hcl,hid⟩
 clear q1 q4 q7 q13 hL0 he hm hcl hid;rintro m e M ⟨i,r,H',L0,g,hi,rfl,q1,q4,q7,q13,q14,rfl,hL0,he,hm,hcl,hid⟩;by_cases h1:(i:Int) < Z.length
 ·have hil:i < Z.length:=by omega
  have hx:=Ja5 (Sl.ext hs he) (i:=i) (by rw [QY];omega)
  rw [ZO] at hx;obtain ⟨z,c,fa,f0,fv,ld,v0,v1,v3,v4,v5,v6,v7,wc,wv,-,-⟩:=hx;simp only at v7;have w9:IntKind.i64.wrap ((i:Int)+1)=((i+1:Nat):Int):=by rw [w64 (by omega) (by omega)];rfl
  have bd:Z.length- (i+1) < Z.length-i:=by omega
  have hfl:((List.range i).filter fun i=> !WN Z i).length≤i:=Nat.le_trans (List.length_filter_le _ _) (by simp)
  cases ho:WN Z i with
  | false=>
   rw [ho] at v7 wv;rw [Jru] at wv;obtain ⟨p1,o',H3,p2,p3,p4,p5,p6,p7,-,p9⟩:=Mn.ap (by':=96) hm (Qk (t:=105) (g:=g) (x:=eI.v (itZ Z i,false)) (L:=[⟨4,0,0,[.ag [.s [],.ns]]⟩]) (H:=H')) (by simp;omega)
   rw [show eI.z=8 from rfl] at p1 p2 p3
   rw [Jru] at p1 p2 p3;simp -implicitDefEqProofs only [bU,Jc,Ja,bT,bV,Ja,q1,q4,q7,q13,q14,l1,l2,h1,hL0,Jj,z,c,f0,ld,v7,wc,wv,JE,JQ,List.replicate,z0V];simp -implicitDefEqProofs only [bU,p1,p2,p3,w9];refine ⟨_,bd,i+1,o',H3,_,_,hil,rfl,rfl,rfl,rfl,rfl,⟨Nat.le_trans he.n p5,fun j hj=>by rw [p6 j (Nat.lt_of_lt_of_le hj he.n) fun hh=>by have:=hid j hh;omega];exact he.at' j hj⟩,?_,p9 hcl,fun j hj=>(p7 j hj).elim (hid j) fun h=>Nat.le_trans he.n h⟩
   have e1:((List.range (i+1)).filter fun i=> !WN Z i)=((List.range i).filter fun i=> !WN Z i)++[i]:=by
    rw [List.range_succ,List.filter_append];simp [ho]
   rw [e1,List.map_append,List.map_append];show Mn H3 eI.z o' _
   rw [List.map_append];exact p4
  | true=>
   rw [ho] at v7;simp -implicitDefEqProofs only [bU,Jc,bT,bV,q1,q4,q7,q13,q14,l1,l2,h1,hL0,Jj,z,c,f0,ld,v7,z0V,w9];refine ⟨_,bd,i+1,r,H',_,_,hil,rfl,rfl,rfl,rfl,rfl,he,?_,hcl,hid⟩
   have e1:((List.range (i+1)).filter fun i=> !WN Z i)=((List.range i).filter fun i=> !WN Z i):=by
    rw [List.range_succ,List.filter_append];simp [ho]
   rw [e1];exact hm
 ·have hil:i=Z.length:=by omega
  subst hil;simp -implicitDefEqProofs only [bU,Jc,bT,q1,q4,q7,q13,q14,l1,l2,h1,hL0];exact miss _ _ _ r he hm hcl hid (by simp -implicitDefEqProofs only [bU,Jc,bT]) (by simp -implicitDefEqProofs only [bU,Jc,bT]) (by simp -implicitDefEqProofs only [bU,Jc,bT]) (by simp -implicitDefEqProofs only [bU,Jc,bT])
end
def sV (s:Qa) (d:AV):AV:= .ag [.s s.o,.i .i64 s.t,.i .i64 s.ttl,d]
theorem JaN (s:Qa) (d:AV):(sV s d).cells=[.s s.o,.i .i64 s.t,.i .i64 s.ttl,d]:=rfl
structure ZS (H:AH) (zs:AV) (sets:List Qa) (ds:List AV):Prop where
 row:Sl H 4 zs (List.zipWith sV sets ds)
 len:ds.length=sets.length
 dat: ∀ i (h:i < sets.length) (h2:i < ds.length),Sl H 1 ds[i] (sets[i].d.map AV.s)
structure ZM (H:AH) (n0:Nat) (zs:AV) (sets:List Qa) (ds:List AV):Prop where
 row:Mn H 4 zs (List.zipWith sV sets ds)
 len:ds.length=sets.length
 dat: ∀ i (h:i < sets.length) (h2:i < ds.length),Mn H 1 ds[i] (sets[i].d.map AV.s)
 nd:(idA zs++ds.flatMap idA).Nodup
 ge: ∀ i,i∈idA zs++ds.flatMap idA→n0≤i
theorem QK {sets:List Qa} {ds:List AV} (h:ds.length=sets.length):(List.zipWith sV sets ds).length=sets.length:=by simp [h]
theorem JiT {sets:List Qa} {ds:List AV} {i:Nat} (h:i < sets.length) (h2:i < ds.length):(List.zipWith sV sets ds).getD i .u=sV sets[i] ds[i]:=by
 simp [List.getD,List.getElem?_zipWith,h,h2]
section
variable {H H':AH} {n0:Nat} {zs:AV} {sets:List Qa} {ds:List AV}
theorem ZM.rd (h:ZM H n0 zs sets ds):ZS H zs sets ds:=⟨h.row.sl,h.len,fun i h1 h2=>(h.dat i h1 h2).sl⟩
theorem ZS.ext (h:ZS H zs sets ds) (he:Ext H H'):ZS H' zs sets ds:=⟨Sl.ext h.row he,h.len,fun i h1 h2=>Sl.ext (h.dat i h1 h2) he⟩
theorem ZM.lt (h:ZM H n0 zs sets ds): ∀ i,i∈idA zs++ds.flatMap idA→i < H.n:=fun i hi=>by
 rcases List.mem_append.1 hi with hi | hi
 ·exact h.row.lt i hi
 ·obtain ⟨d,hd,hi⟩:=List.mem_flatMap.1 hi
  obtain ⟨j,hj,rfl⟩:=List.mem_iff_getElem.1 hd;exact (h.dat j (by rw [←h.len];exact hj) hj).lt i hi
theorem ZM.fr (h:ZM H n0 zs sets ds) (hn:H.n≤H'.n) (ha: ∀ i,i∈idA zs++ds.flatMap idA→H'.at' i=H.at' i):ZM H' n0 zs sets ds:=
 ⟨h.row.fr hn fun i hi=>ha i (List.mem_append_left _ hi),h.len,fun i h1 h2=>(h.dat i h1 h2).fr hn fun j hj=>ha j (List.mem_append_right _ (List.mem_flatMap.2 ⟨_,List.getElem_mem h2,hj⟩)),h.nd,h.ge⟩
theorem ZM.ext (h:ZM H n0 zs sets ds) (he:Ext H H'):ZM H' n0 zs sets ds:=h.fr he.n fun i hi=>he.at' i (h.lt i hi)
theorem ZM.nil (H:AH) (n0:Nat):ZM H n0 .ns [] [] where
 row:=Mn.nil
 len:=rfl
 dat i h:=absurd h (Nat.not_lt_zero _)
 nd:=by simp [idA]
 ge i hi:=by simp [idA] at hi
theorem JaG (a:AV):(idA a).Nodup:=by cases a<;>simp [idA]
theorem ZS.at' (h:ZS H zs sets ds) {i:Nat} (hi:i < sets.length) (hd:i < ds.length):slZ H 4 zs∧iaC (i:Int) zs∧faC (iaV i zs)∧(∀ (o:Nat) (L:List Lv) (g:Nat),o < 4→ldC ⟨L,g,H⟩ none (faV o (iaV i zs)))∧(∀ (L:List Lv) (g:Nat),ldX ⟨L,g,H⟩ none (faV 0 (iaV i zs))= .s sets[i].o)∧
  (∀ (L:List Lv) (g:Nat),ldX ⟨L,g,H⟩ none (faV 1 (iaV i zs))= .i .i64 sets[i].t)∧(∀ (L:List Lv) (g:Nat),ldX ⟨L,g,H⟩ none (faV 2 (iaV i zs))= .i .i64 sets[i].ttl)∧(∀ (L:List Lv) (g:Nat),ldX ⟨L,g,H⟩ none (faV 3 (iaV i zs))=ds[i])∧
  (∀ (L:List Lv) (g:Nat),ldC ⟨L,g,H⟩ (some 4) (iaV i zs))∧(∀ (L:List Lv) (g:Nat),ldX ⟨L,g,H⟩ (some 4) (iaV i zs)=sV sets[i] ds[i]):=by
 obtain ⟨h1,h2,h3,h4⟩:=h.row.ia (j:=i) (by omega) (by rw [QK h.len];omega)
 rw [Jj] at h3 h4;rw [JiT hi hd] at h4;have c:=fun (o:Nat) (ho:o < 4) (L:List Lv) (g:Nat)=>h4 L g o none (by simp only [JF,JaN];exact ho)
 have w:=fun (L:List Lv) (g:Nat)=>h4 L g 0 (some 4) (by simp [JF,JaN])
 simp only [fa0] at w;exact ⟨h1,h2,h3,fun o L g ho=>(c o ho L g).1,fun L g=>(c 0 (by decide) L g).2,fun L g=>(c 1 (by decide) L g).2,fun L g=>(c 2 (by decide) L g).2,fun L g=>(c 3 (by decide) L g).2,fun L g=>(w L g).1,fun L g=>(w L g).2⟩
theorem ZM.push (h:ZM H n0 zs sets ds) (hn:n0≤H.n) {y:AV} {s:Qa} (hs:s.d=[]) {L:List Lv} {g:Nat} (hy:QE ⟨L,g,H⟩ y=[sV s .ns]∧Je7 ⟨L,g,H⟩ 4 y) (hb:sets.length≤1000):
  apC ⟨L,g,H⟩ 4 56 y zs∧ ∃ zs' H',apV ⟨L,g,H⟩ y zs=zs'∧apM ⟨L,g,H⟩ 4 y zs=⟨L,g,H'⟩∧ZM H' n0 zs' (sets++[s]) (ds++[.ns])∧H.n≤H'.n∧(∀ i,i < H.n→ ¬ i∈idA zs→H'.at' i=H.at' i)∧(∀ i,i∈idA zs'→i∈idA zs∨H.n≤i):=by
 obtain ⟨p1,zs',H',p2,p3,p4,p5,p6,p7,p8,-⟩:=Mn.ap (by':=56) h.row hy (by rw [QK h.len];simp;omega)
 have hnd:=List.nodup_append.1 h.nd;refine ⟨p1,zs',H',p2,p3,⟨?_,by simp [h.len],fun i h1 h2=> ?_,?_,fun i hi=> ?_⟩,p5,p6,p7⟩
 ·have:List.zipWith sV (sets++[s]) (ds++[AV.ns])=List.zipWith sV sets ds++[sV s .ns]:=by
   rw [List.zipWith_append h.len.symm];rfl
  rw [this];exact p4
 ·by_cases e:i < sets.length
  ·have e2:i < ds.length:=by rw [h.len];exact e
   simp only [List.getElem_append_left e,List.getElem_append_left e2];exact (h.dat i e e2).fr p5 fun j hj=>p6 j ((h.dat i e e2).lt j hj) fun hz=>hnd.2.2 j hz j (List.mem_flatMap.2 ⟨_,List.getElem_mem e2,hj⟩) rfl
  ·have e3:i=sets.length:=by simp at h1;omega
   subst e3;have a1:(sets++[s])[sets.length]=s:=by simp
   have a2:(ds++[AV.ns])[sets.length]'h2= .ns:=by simp [←h.len]
   rw [a1,a2,hs];exact .nil
 ·have hfm:(ds++[AV.ns]).flatMap idA=ds.flatMap idA:=by simp [idA]
  rw [hfm];refine List.nodup_append.2 ⟨JaG _,hnd.2.1,fun a ha b hb hab=> ?_⟩
  subst hab;rcases p7 a ha with hz | hz
  ·exact hnd.2.2 a hz a hb rfl
  ·have:=h.lt a (List.mem_append_right _ hb);omega
 ·have hfm:(ds++[AV.ns]).flatMap idA=ds.flatMap idA:=by simp [idA]
  rw [hfm] at hi;rcases List.mem_append.1 hi with hi | hi
  ·rcases p7 i hi with hz | hz
   ·exact h.ge i (List.mem_append_left _ hz)
   ·omega
  ·exact h.ge i (List.mem_append_right _ hi)
def addD (s:Qa) (x:List UInt8):Qa:={s with d:=s.d++[x]}
theorem Xn {ds:List AV} {k:Nat} {d':AV} {i:Nat} (h:i∈(ds.set k d').flatMap idA):i∈idA d'∨ ∃ j,∃ (hj:j < ds.length),j≠k∧i∈idA ds[j]:=by
 obtain ⟨d,hd,hi⟩:=List.mem_flatMap.1 h;obtain ⟨j,hj,rfl⟩:=List.mem_iff_getElem.1 hd;rw [List.getElem_set] at hi;by_cases e:k=j
 ·rw [if_pos e] at hi;exact .inl hi
 ·rw [if_neg e] at hi
  exact .inr ⟨j,by simpa using hj,fun h=>e h.symm,hi⟩
theorem Jan: ∀ {ds:List AV},(ds.flatMap idA).Nodup↔ ∀ i (hi:i < ds.length) j (hj:j < ds.length),i≠j→ ∀ x,x∈idA ds[i]→ ¬ x∈idA ds[j]
 | []=>by simp
 | d::r=>by
  rw [List.flatMap_cons,List.nodup_append,Jan (ds:=r)];constructor
  ·rintro ⟨-,h2,h3⟩ i hi j hj hij x hx hx2
   match i,j,hi,hj,hij,hx,hx2 with
   | 0,0,_,_,hij,_,_=>exact hij rfl
   | 0,j+1,_,hj,_,hx,hx2=>
    simp only [List.getElem_cons_zero,List.getElem_cons_succ] at hx hx2;exact h3 x hx x (List.mem_flatMap.2 ⟨_,List.getElem_mem (by simpa using hj),hx2⟩) rfl
   | i+1,0,hi,_,_,hx,hx2=>
    simp only [List.getElem_cons_zero,List.getElem_cons_succ] at hx hx2;exact h3 x hx2 x (List.mem_flatMap.2 ⟨_,List.getElem_mem (by simpa using hi),hx⟩) rfl
   | i+1,j+1,hi,hj,hij,hx,hx2=>
    simp only [List.getElem_cons_succ] at hx hx2;exact h2 i (by simpa using hi) j (by simpa using hj) (by omega) x hx hx2
  ·intro h
   refine ⟨JaG d,fun i hi j hj hij x hx hx2=>h (i+1) (by simpa using hi) (j+1) (by simpa using hj) (by omega) x (by simpa using hx) (by simpa using hx2),fun a ha b hb hab=> ?_⟩
   subst hab;obtain ⟨d2,hd2,hb⟩:=List.mem_flatMap.1 hb;obtain ⟨j,hj,rfl⟩:=List.mem_iff_getElem.1 hd2;exact h 0 (by simp) (j+1) (by simpa using hj) (by omega) a (by simpa using ha) (by simpa using hb)
theorem ZM.addD (h:ZM H n0 zs sets ds) (hn:n0≤H.n) {k:Nat} (hk:k < sets.length) (hkd:k < ds.length) {y:AV} {x:List UInt8} {L:List Lv} {g:Nat} (hy:QE ⟨L,g,H⟩ y=[AV.s x]∧Je7 ⟨L,g,H⟩ 1 y) (hb:sets[k].d.length≤1000):
  apC ⟨L,g,H⟩ 1 16 y ds[k]∧ ∃ d' H1,apV ⟨L,g,H⟩ y ds[k]=d'∧d'.cells=[d']∧d'.outs=true∧apM ⟨L,g,H⟩ 1 y ds[k]=⟨L,g,H1⟩∧slZ H1 4 zs∧iaC (k:Int) zs∧faC (iaV k zs)∧(∀ (L:List Lv) (g:Nat),stC ⟨L,g,H1⟩ d' (faV 3 (iaV k zs)))∧
   ∃ H2,(∀ (L:List Lv) (g:Nat),stM ⟨L,g,H1⟩ d' (faV 3 (iaV k zs))=⟨L,g,H2⟩)∧ZM H2 n0 zs (sets.set k (Vm.addD sets[k] x)) (ds.set k d')∧H.n≤H2.n∧(∀ i,i < H.n→ ¬ i∈idA zs++ds.flatMap idA→H2.at' i=H.at' i)∧(∀ i,i∈idA zs++(ds.set k d').flatMap idA→i∈idA zs++ds.flatMap idA∨H.n≤i):=by
 have hdk:=h.dat k hk hkd;obtain ⟨p1,d',H1,p2,p3,p4,p5,p6,p7,-,-⟩:=Mn.ap (by':=16) hdk hy (by simp;omega)
 have hnd:=List.nodup_append.1 h.nd;have hfm:=Jan.1 hnd.2.1;have hin: ∀ i,i∈idA ds[k]→i∈ds.flatMap idA:=fun i hi=>List.mem_flatMap.2 ⟨_,List.getElem_mem hkd,hi⟩
 have hrow:Mn H1 4 zs (List.zipWith sV sets ds):=h.row.fr p5 fun i hi=>p6 i (h.row.lt i hi) fun hd=>hnd.2.2 i hi i (hin i hd) rfl
 have hzl:=QK h.len;have hzg:=JiT hk hkd;have hone:d'.cells=[d']:=p4.sl.one;obtain ⟨r1,r2,r3,-⟩:=hrow.sl.ia (j:=k) (by omega) (by rw [hzl];omega)
 rw [Jj] at r3;obtain ⟨-,H2,s2,s3,s4,s5⟩:=hrow.st (j:=k) (v:=d') (off:=3) (by omega) (by rw [hzl];omega) (by rw [Jj,hzg,hone];simp [JaN]) [] 0
 have hst: ∀ (L:List Lv) (g:Nat),stC ⟨L,g,H1⟩ d' (faV 3 (iaV k zs))∧stM ⟨L,g,H1⟩ d' (faV 3 (iaV k zs))=⟨L,g,H2⟩:=fun L g=>by
  obtain ⟨c1,H3,c2,-⟩:=hrow.st (j:=k) (v:=d') (off:=3) (by omega) (by rw [hzl];omega) (by rw [Jj,hzg,hone];simp [JaN]) L g
  rw [Jj] at c1 c2;refine ⟨c1,?_⟩
  rw [Jj] at s2
  have e:H3=H2:=by
   generalize hE:List.zipWith sV sets ds=els at hrow hzl;cases hrow with
   | nil=>simp at hzl;omega
   | own o1 o2=>
    simp only [iaV,faV,stM,o2] at c2 s2;have:=congrArg Mem.h c2;have t:=congrArg Mem.h s2;simp only at this t;rw [←this,←t]
  rw [c2,e]
 rw [Jj,hzg] at s3
 have hset:(List.zipWith sV sets ds).set k (Wt (sV sets[k] ds[k]) 3 d')=List.zipWith sV (sets.set k (Vm.addD sets[k] x)) (ds.set k d'):=by
  apply List.ext_getElem (by simp)
  intro j h1 h2;rw [List.getElem_set];simp only [List.getElem_zipWith,List.getElem_set];by_cases e:k=j
  ·subst e
   simp only [if_true];simp [sV,Wt,Wu,hone,Vm.addD]
  ·simp [e]
 rw [hset] at s3;have hkeep: ∀ i,i < H.n→ ¬ i∈idA zs→ ¬ i∈idA ds[k]→H2.at' i=H.at' i:=fun i hi h1 h2=>by rw [s5 i h1,p6 i hi h2]
 refine ⟨p1,d',H1,p2,hone,p4.sl.out,p3,r1,r2,r3,fun L g=>(hst L g).1,H2,fun L g=>(hst L g).2,⟨s3,by simp [h.len],fun i h1 h2=> ?_,?_,fun i hi=> ?_⟩,by omega,fun i hi hno=> ?_,fun i hi=> ?_⟩
 ·simp only [List.length_set] at h1 h2
  simp only [List.getElem_set];by_cases e:k=i
  ·subst e
   simp only [if_true,Vm.addD,List.map_append,List.map_cons,List.map_nil];refine p4.fr (by omega) fun j hj=>s5 j fun hz=> ?_
   rcases p7 j hj with hd | hd
   ·exact hnd.2.2 j hz j (hin j hd) rfl
   ·have:=h.row.lt j hz;omega
  ·simp only [if_neg e]
   refine (h.dat i h1 h2).fr (by omega) fun j hj=>hkeep j ((h.dat i h1 h2).lt j hj) (fun hz=>hnd.2.2 j hz j (List.mem_flatMap.2 ⟨_,List.getElem_mem h2,hj⟩) rfl) fun hd=>hfm k hkd i h2 e j hd hj
 ·refine List.nodup_append.2 ⟨JaG _,?_,fun a ha b hb hab=> ?_⟩
  ·rw [Jan]
   intro i hi j hj hij u hu hu2;simp only [List.length_set] at hi hj;rw [List.getElem_set] at hu hu2;by_cases e1:k=i
   ·rw [if_pos e1] at hu
    have e2: ¬ k=j:=fun e2=>hij (e1.symm.trans e2)
    rw [if_neg e2] at hu2;rcases p7 u hu with hd | hd
    ·exact hfm k hkd j hj e2 u hd hu2
    ·have:=(h.dat j (by rw [←h.len];exact hj) hj).lt u hu2;omega
   ·rw [if_neg e1] at hu
    by_cases e2:k=j
    ·rw [if_pos e2] at hu2
     rcases p7 u hu2 with hd | hd
     ·exact hfm k hkd i hi e1 u hd hu
     ·have:=(h.dat i (by rw [←h.len];exact hi) hi).lt u hu;omega
    ·rw [if_neg e2] at hu2
     exact hfm i hi j hj hij u hu hu2
  ·subst hab
   rcases Xn hb with hd | ⟨j,hj,-,hd⟩
   ·rcases p7 a hd with hd | hd
    ·exact hnd.2.2 a ha a (hin a hd) rfl
    ·have:=h.row.lt a ha;omega
   ·exact hnd.2.2 a ha a (List.mem_flatMap.2 ⟨_,List.getElem_mem hj,hd⟩) rfl
 ·rcases List.mem_append.1 hi with hz | hz
  ·exact h.ge i (List.mem_append_left _ hz)
  ·rcases Xn hz with hd | ⟨j,hj,-,hd⟩
   ·rcases p7 i hd with hd | hd
    ·exact h.ge i (List.mem_append_right _ (hin i hd))
    ·omega
   ·exact h.ge i (List.mem_append_right _ (List.mem_flatMap.2 ⟨_,List.getElem_mem hj,hd⟩))
 ·exact hkeep i hi (fun hz=>hno (List.mem_append_left _ hz)) fun hd=>hno (List.mem_append_right _ (hin i hd))
 ·rcases List.mem_append.1 hi with hz | hz
  ·exact .inl (List.mem_append_left _ hz)
  ·rcases Xn hz with hd | ⟨j,hj,-,hd⟩
   ·rcases p7 i hd with hd | hd
    ·exact .inl (List.mem_append_right _ (hin i hd))
    ·exact .inr hd
   ·exact .inl (List.mem_append_right _ (List.mem_flatMap.2 ⟨_,List.getElem_mem hj,hd⟩))
end
theorem JnR (ow:List UInt8→List UInt8): ∀ R:List Zi,(grp ow R).2=R.getLast?.map Zi.k:=by
 intro R;induction R using Jaj with
 | h0=>rfl
 | h1 R x ih=>rw [JdQ];simp [JhB]
theorem Jph (ow:List UInt8→List UInt8): ∀ R:List Zi,(grp ow R).1.length≤R.length∧(∀ s,s∈(grp ow R).1→s.d.length≤R.length)∧(R≠ []→(grp ow R).1≠ []):=by
 intro R;induction R using Jaj with
 | h0=>simp [grp]
 | h1 R x ih=>
  obtain ⟨h1,h2,h3⟩:=ih;rw [JdQ];unfold JhB;simp only;by_cases h:(grp ow R).2=some x.k
  ·rw [if_pos h]
   have hne:R≠ []:=fun e=>by subst e;simp [grp] at h
   have hs:=h3 hne;refine ⟨by simp;have:=List.length_pos_iff.2 hs;omega,fun s hsm=> ?_,fun _=>by simp⟩
   rcases List.mem_append.1 hsm with hm | hm
   ·have:=h2 s (List.dropLast_subset _ hm);simp;omega
   ·rw [List.mem_singleton] at hm
    subst hm
    have hl:(grp ow R).1.getLastD default∈(grp ow R).1:=by
     rw [List.getLastD_eq_getLast?,List.getLast?_eq_some_getLast hs];exact List.getLast_mem hs
    have:=h2 _ hl;simp only [List.length_append,List.length_singleton];omega
  ·rw [if_neg h]
   refine ⟨by simp;omega,fun s hsm=> ?_,fun _=>by simp⟩
   rcases List.mem_append.1 hsm with hm | hm
   ·have:=h2 s hm;simp;omega
   ·rw [List.mem_singleton] at hm
    subst hm;simp
theorem Jmx {α:Type} {l:List α} (h:l≠ []) (x:α):l.set (l.length-1) x=l.dropLast++[x]:=by
 obtain ⟨l',y,rfl⟩: ∃ l' y,l=l'++[y]:=⟨l.dropLast,l.getLast h,(List.dropLast_concat_getLast h).symm⟩;simp
section
variable {C:Tab} {a:AV} {apex:List UInt8} {H:AH} {e:Env} {L0:List Lv} {g:Nat} {κ:Jaa}
def lvB (gr gz:Nat) (r:Rr) (apex:List UInt8) (zs:AV):List Lv:=[⟨17,gr,0,[eR.v r]⟩,⟨15,gz,0,[.ag [.s apex,zs]]⟩,⟨4,0,0,[z0V]⟩]
set_option maxHeartbeats 4000000 in
theorem JrQ {n0 gr gz:Nat} {r:Rr} {zs:AV} {sets:List Qa} {ds:List AV} (hz:ZM H n0 zs sets ds) (hn:n0≤H.n) (hne:sets≠ []) (hb: ∀ s,s∈sets→s.d.length≤1000) (hsl:sets.length≤1000)
  (q15:look e 15= .la 15 gz 0 0) (q17:look e 17= .la 17 gr 0 0) (hL:L0=lvB gr gz r apex zs∨ ∃ g1 v,L0=⟨164,g1,0,[v]⟩::lvB gr gz r apex zs)
  (fin: ∀ e' L' g' H' d',(look e' 4=look e 4∧look e' 7=look e 7∧look e' 13=look e 13∧look e' 15=look e 15∧look e' 16=look e 16)→JJ [4,7,13,15,16] L'=[⟨15,gz,0,[.ag [.s apex,zs]]⟩,⟨4,0,0,[z0V]⟩]→
   ZM H' n0 zs (sets.set (sets.length-1) (addD (sets.getLastD default) r.d)) (ds.set (sets.length-1) d')→H.n≤H'.n→(∀ i,i < H.n→ ¬ i∈idA zs++ds.flatMap idA→H'.at' i=H.at' i)→κ .nx e' ⟨L',g',H'⟩):
  exec C (sAt Jp.s [1,1,1,1,1,1,1,1,1,1,1,1,1,0,1,2,2,1,0,2,1,1]) e ⟨L0,g,H⟩ κ:=by
 simp only [Jp,sAt];have hpos:=List.length_pos_iff.2 hne;have hk:sets.length-1 < sets.length:=by omega
 have hkd:sets.length-1 < ds.length:=by rw [hz.len];exact hk
 obtain ⟨l1,l2⟩:=hz.rd.row.len;rw [QK hz.len] at l1;obtain ⟨a1,a2,a3,a4,a5,a6,a7,a8,-,-⟩:=hz.rd.at' hk hkd;have zo:=hz.rd.row.out;have zc:=hz.rd.row.one;have w1:IntKind.i64.wrap ((sets.length:Int)-1)=((sets.length-1:Nat):Int):=by rw [w64 (by omega) (by omega)];omega
 have hlast:sets.getLastD default=sets[sets.length-1]:=by rw [List.getLastD_eq_getLast?,List.getLast?_eq_getElem?];simp [hk]
 have hbl:=hb _ (List.getElem_mem hk);rw [hlast] at fin;rcases hL with rfl | ⟨g1,v,rfl⟩
 ·obtain ⟨p1,d',H1,p2,p3,p4,p5,p6,p7,p8,p9,H2,p10,p11,p12,p13,p14⟩:=hz.addD hn hk hkd (Qk (t:=182) (g:=g) (z:=1) (x:= .s r.d) (L:=lvB gr gz r apex zs) (H:=H)) hbl
  simp only [lvB,JcE,z0V] at p1 p2 p5 fin ⊢;simp -implicitDefEqProofs only [bU,Jc,Ja,bT,bV,Ja,Qs,J6,q15,q17,l1,l2,w1,a1,a2,a3,a4,a8,Jj,JE,JQ,List.replicate];simp -implicitDefEqProofs only [bU,Jc,Ja,bT,bV,Ja,p1,p2,p3,p4,p5,p6,p9,p10];exact fin _ _ _ H2 d' ⟨rfl,rfl,rfl,rfl,rfl⟩ rfl p11 p12 p13
 ·obtain ⟨p1,d',H1,p2,p3,p4,p5,p6,p7,p8,p9,H2,p10,p11,p12,p13,p14⟩:=hz.addD hn hk hkd (Qk (t:=182) (g:=g) (z:=1) (x:= .s r.d) (L:=⟨164,g1,0,[v]⟩::lvB gr gz r apex zs) (H:=H)) hbl
  simp only [lvB,JcE,z0V] at p1 p2 p5 fin ⊢;simp -implicitDefEqProofs only [bU,Jc,Ja,bT,bV,Ja,Qs,J6,q15,q17,l1,l2,w1,a1,a2,a3,a4,a8,Jj,JE,JQ,List.replicate];simp -implicitDefEqProofs only [bU,Jc,Ja,bT,bV,Ja,p1,p2,p3,p4,p5,p6,p9,p10];exact fin _ _ _ H2 d' ⟨rfl,rfl,rfl,rfl,rfl⟩ rfl p11 p12 p13
set_option maxHeartbeats 4000000 in
theorem Jup {Z:List Zi} {M:List (Zi×Bool)} {oI oR:AV} {H1 H2:AH} {gz:Nat} (hI:Sx H1 eI oI (Je9 Z)) (hR:Sx H1 eI oR M) (hZ:Z.length≤500) (hM:M.length≤500) (hOw:Jne C XH) (he:Ext H1 H2)
  (q4:look e 4= .la 4 0 0 0) (q7:look e 7=oI) (q13:look e 13=oR) (q15:look e 15= .la 15 gz 0 0) (hL0:JJ [4,7,13,15,16] L0=[⟨15,gz,0,[.ag [.s apex,.ns]]⟩,⟨4,0,0,[z0V]⟩])
  (miss: ∀ e' g' H' zs ds,Ext H1 H'→ZM H' H1.n zs (grp (W9 Z) (M.map Prod.fst)).1 ds→look e' 4= .la 4 0 0 0→look e' 15= .la 15 gz 0 0→κ .nx e' ⟨[⟨15,gz,0,[.ag [.s apex,zs]]⟩,⟨4,0,0,[z0V]⟩],g',H'⟩):
  exec C (sAt Jp.s [1,1,1,1,1,1,1,1,1,1,1,1,1,0]) e ⟨L0,g,H2⟩ κ:=by
 have hput:=(JaY [1,2,2,1,0,2,1,1] (sAt Jp.s [1,1,1,1,1,1,1,1,1,1,1,1,1,0])).symm;have hBB:sAt (sAt Jp.s [1,1,1,1,1,1,1,1,1,1,1,1,1,0]) [1,2,2,1,0,2,1,1]=sAt Jp.s [1,1,1,1,1,1,1,1,1,1,1,1,1,0,1,2,2,1,0,2,1,1]:=rfl;rw [hBB] at hput;generalize hB:sAt Jp.s [1,1,1,1,1,1,1,1,1,1,1,1,1,0,1,2,2,1,0,2,1,1]=B at hput;rw [hput];clear hput hBB;simp only [Jp,sAt,JaX];obtain ⟨l1,l2⟩:=hR.len;simp -implicitDefEqProofs only [bU]
 refine Jl (fun m e Mm=> ∃ (i:Nat) (zs:AV) (ds:List AV) (H':AH) (L0:List Lv) (g:Nat),i≤M.length∧m=M.length-i∧look e 4= .la 4 0 0 0∧look e 7=oI∧look e 13=oR∧look e 15= .la 15 gz 0 0∧look e 16= .i .i64 i∧Mm=⟨L0,g,H'⟩∧JJ [4,7,13,15,16] L0=[⟨15,gz,0,[.ag [.s apex,zs]]⟩,⟨4,0,0,[z0V]⟩]∧
   Ext H1 H'∧ZM H' H1.n zs (grp (W9 Z) ((M.take i).map Prod.fst)).1 ds) ?_ (n:=M.length)
  ⟨0,.ns,[],H2,_,_,by omega,by omega,by simp -implicitDefEqProofs only [bU,Jc,bT,q4],by simp -implicitDefEqProofs only [bU,Jc,bT,q7],by simp -implicitDefEqProofs only [bU,Jc,bT,q13],by simp -implicitDefEqProofs only [bU,Jc,bT,q15],rfl,rfl,hL0,he,.nil _ _⟩
 clear q4 q7 q13 q15 hL0 he;rintro m e Mm ⟨i,zs,ds,H',L0,g,hi,rfl,q4,q7,q13,q15,q16,rfl,hL0,he,hz⟩;by_cases h1:(i:Int) < M.length
 ·have hil:i < M.length:=by omega
  have hx:=Ja5 (Sl.ext hR he) hil;obtain ⟨z,c,fa,f0,fv,ld,v0,v1,v3,v4,v5,v6,v7,wc,wv,rc,rv⟩:=hx;have kow:=hOw oI Z M[i].1.f H' (Sl.ext hI he) (by omega)
  have w16:IntKind.i64.wrap ((i:Int)+1)=((i+1:Nat):Int):=by rw [w64 (by omega) (by omega)];rfl
  have bd:M.length- (i+1) < M.length-i:=by omega
  have hsn:(M.take (i+1)).map Prod.fst=(M.take i).map Prod.fst++[M[i].1]:=by rw [List.take_succ_eq_append_getElem hil,List.map_append];rfl
  have hgl:=Jph (W9 Z) ((M.take i).map Prod.fst);have htl:((M.take i).map Prod.fst).length≤500:=by simp;omega
  have hgs:(grp (W9 Z) ((M.take (i+1)).map Prod.fst)).1=(JhB (W9 Z) (grp (W9 Z) ((M.take i).map Prod.fst)) M[i].1).1:=by rw [hsn,JdQ]
  have h2k:(grp (W9 Z) ((M.take i).map Prod.fst)).2=((M.take i).map Prod.fst).getLast?.map Zi.k:=JnR _ _;have zo:=hz.rd.row.out;have zc:=hz.rd.row.one;have oo:=(Sl.ext hI he).out;generalize hG:grp (W9 Z) ((M.take i).map Prod.fst)=G at hz hgl hgs h2k;obtain ⟨sets,pk⟩:=G;simp only at hz hgl h2k;have hn:H1.n≤H'.n:=he.n
  have newC:pk≠some M[i].1.k→(grp (W9 Z) ((M.take (i+1)).map Prod.fst)).1=sets++[⟨W9 Z M[i].1.f,M[i].1.r.t,M[i].1.r.ttl,[M[i].1.r.d]⟩]:=fun h=>by
   rw [hgs];unfold JhB;simp only;rw [if_neg h]
  have oldC:pk=some M[i].1.k→(grp (W9 Z) ((M.take (i+1)).map Prod.fst)).1=sets.dropLast++[addD (sets.getLastD default) M[i].1.r.d]:=fun h=>by
   rw [hgs];unfold JhB;simp only;rw [if_pos h];rfl
  obtain ⟨p1,zs',H3,p2,p3,p4,p5,p6,p7⟩:=hz.push hn (s:=⟨W9 Z M[i].1.f,M[i].1.r.t,M[i].1.r.ttl,[]⟩) rfl (Qk (t:=164) (g:=g+1) (z:=4) (x:=sV ⟨W9 Z M[i].1.f,M[i].1.r.t,M[i].1.r.ttl,[]⟩ .ns) (L:=lvB g gz M[i].1.r apex zs) (H:=H')) (by omega)
  have zo':=p4.rd.row.out;have zc':=p4.rd.row.one;simp only [lvB,JcE,z0V,sV] at p1 p2 p3;have e3:Ext H1 H3:=⟨Nat.le_trans he.n p5,fun j hj=>by rw [p6 j (by omega) fun hh=>by have:=hz.ge j (List.mem_append_left _ hh);omega];exact he.at' j hj⟩
  have ek: ∀ {Ha Hb:AH} {za:AV} {da:List AV} {sa:List Qa},Ext H1 Ha→ZM Ha H1.n za sa da→Ha.n≤Hb.n→(∀ j,j < Ha.n→ ¬ j∈idA za++da.flatMap idA→Hb.at' j=Ha.at' j)→Ext H1 Hb:=fun ha hzz h1 h2=>⟨Nat.le_trans ha.n h1,fun j hj=>by rw [h2 j (Nat.lt_of_lt_of_le hj ha.n) fun hh=>by have:=hzz.ge j hh;omega];exact ha.at' j hj⟩
  have fin1: ∀ {e1:Env} {Hx:AH} {zx:AV} {sx:List Qa} {dx:List AV} {g1:Nat} {Lx:List Lv},Ext H1 Hx→ZM Hx H1.n zx sx dx→sx≠ []→sx.length≤1000→(∀ s,s∈sx→s.d.length≤1000)→sx.dropLast++[addD (sx.getLastD default) M[i].1.r.d]=(grp (W9 Z) ((M.take (i+1)).map Prod.fst)).1→
    look e1 4= .la 4 0 0 0→look e1 7=oI→look e1 13=oR→look e1 15= .la 15 gz 0 0→look e1 16= .i .i64 i→look e1 17= .la 17 g 0 0→(Lx=lvB g gz M[i].1.r apex zx∨ ∃ g1 v,Lx=⟨164,g1,0,[v]⟩::lvB g gz M[i].1.r apex zx)→
    exec C B e1 ⟨Lx,g1,Hx⟩ (JgV 5 (JiM (exec C (.o [.mv 115 (.t 16),.bn 116 .add (.t 115) (.c (.i .i64 1)),.mv 16 (.t 116)])) (JiM (fun e' M' _=> ∃ m,m < M.length-i∧ ∃ (i:Nat) (zs:AV) (ds:List AV) (H':AH) (L0:List Lv) (g:Nat),i≤M.length∧m=M.length-i∧look e' 4= .la 4 0 0 0∧look e' 7=oI∧look e' 13=oR∧look e' 15= .la 15 gz 0 0∧look e' 16= .i .i64 i∧M'=⟨L0,g,H'⟩∧JJ [4,7,13,15,16] L0=[⟨15,gz,0,[.ag [.s apex,zs]]⟩,⟨4,0,0,[z0V]⟩]∧
   Ext H1 H'∧ZM H' H1.n zs (grp (W9 Z) ((M.take i).map Prod.fst)).1 ds) (JgV 4 κ)))):=by
   intro e1 Hx zx sx dx g1 Lx hex hzx hne hsl hdl hgr r4 r7 r13 r15 r16 r17 hLx;rw [←hB];refine JrQ hzx hex.n hne hdl hsl r15 r17 hLx fun e' L' g' H'' d' hl hK hzz hnn hat=> ?_
   obtain ⟨s4,s7,s13,s15,s16⟩:=hl;rw [r4] at s4;rw [r7] at s7;rw [r13] at s13;rw [r15] at s15;rw [r16] at s16;rw [Jmx hne,hgr] at hzz;simp -implicitDefEqProofs only [bU,Jc,bT,s4,s7,s13,s15,s16,w16];exact ⟨_,bd,i+1,zx,_,H'',L',g',hil,rfl,rfl,rfl,hK,ek hex hzx hnn hat,hzz⟩
  have gNew:pk≠some M[i].1.k→(sets++[(⟨W9 Z M[i].1.f,M[i].1.r.t,M[i].1.r.ttl,[]⟩:Qa)]).dropLast++[addD ((sets++[(⟨W9 Z M[i].1.f,M[i].1.r.t,M[i].1.r.ttl,[]⟩:Qa)]).getLastD default) M[i].1.r.d]=(grp (W9 Z) ((M.take (i+1)).map Prod.fst)).1:=fun h=>by
   rw [newC h,List.dropLast_concat,List.getLastD_eq_getLast?,List.getLast?_concat];rfl
  have dNew: ∀ s,s∈sets++[(⟨W9 Z M[i].1.f,M[i].1.r.t,M[i].1.r.ttl,[]⟩:Qa)]→s.d.length≤1000:=fun s hs=>by
   rcases List.mem_append.1 hs with h | h
   ·have:=hgl.2.1 s h;omega
   ·rw [List.mem_singleton] at h;subst h;simp
  have one:(1:Int)≤1:=Int.le_refl _;have lN:sets.length+1≤1000:=by omega
  by_cases hi0:i=0
  ·have hpk:pk≠some M[i].1.k:=by
    have ht0:M.take i=[]:=by rw [hi0];rfl
    rw [h2k,ht0];simp
   have z0:((i:Int)=0)=True:=eq_true (by omega)
   simp only [JcE] at rv;simp -implicitDefEqProofs only [bU,Jc,Ja,Jb,bT,bV,Ja,Jb,Jg,Qs,J6,q4,q7,q13,q15,q16,l1,l2,h1,hL0,z0V,z0,Jj,z,c,f0,ld,rc,rv,v5,kow,oo,JG,JH,JE,JQ,List.replicate];simp -implicitDefEqProofs only [bU,Jc,Ja,bT,bV,Ja,p1,p2,p3,zo',zc'];refine fin1 e3 p4 (by simp) (by simp;omega) dNew (gNew hpk) ?_ ?_ ?_ ?_ ?_ ?_ (.inr ⟨_,_,rfl⟩)
   all_goals simp -implicitDefEqProofs only [bU,Jc,bT]
  ·have z0: ¬ (i:Int)=0:=by omega
   have him:i-1 < M.length:=by omega
   have hxm:=Ja5 (Sl.ext hR he) him;obtain ⟨zm,cm,fam,f0m,fvm,ldm,-,v1m,-,-,v5m,-,-,-,-,-,-⟩:=hxm;have wm:IntKind.i64.wrap ((i:Int)-1)=((i-1:Nat):Int):=by rw [w64 (by omega) (by omega)];omega
   have hpk:pk=some M[i-1].1.k:=by
    rw [h2k,List.getLast?_eq_getElem?];have:i-1 < (M.take i).length:=by simp;omega
    simp [Nat.min_eq_left (Nat.le_of_lt hil),show i-1 < i by omega]
   by_cases hf:M[i-1].1.f=M[i].1.f
   ·by_cases ht:M[i-1].1.r.t=M[i].1.r.t
    ·have hk:pk=some M[i].1.k:=by rw [hpk];simp only [Zi.k,hf,ht]
     have hne:sets≠ []:=hgl.2.2 (by simp;constructor<;>first | omega | (intro h;simp [h] at hil))
     simp only [JcE] at rv;simp -implicitDefEqProofs only [bU,Jc,Ja,Jb,bT,bV,Ja,Jb,q4,q7,q13,q15,q16,l1,l2,h1,hL0,z0V,z0,wm,Jj,z,c,f0,ld,rc,rv,v5,cm,fam,f0m,fvm,ldm,v1m,v5m,hf,ht];refine fin1 he hz hne (by omega) (fun s hs=>by have:=hgl.2.1 s hs;omega) (by rw [oldC hk]) ?_ ?_ ?_ ?_ ?_ ?_ (.inl rfl)
     all_goals simp -implicitDefEqProofs only [bU,Jc,bT]
    ·have hk:pk≠some M[i].1.k:=by rw [hpk];simp only [Zi.k,ne_eq,Option.some.injEq,Prod.mk.injEq];exact fun h=>ht h.2
     simp only [JcE] at rv;simp -implicitDefEqProofs only [bU,Jc,Ja,Jb,bT,bV,Ja,Jb,Jg,Qs,J6,q4,q7,q13,q15,q16,l1,l2,h1,hL0,z0V,z0,wm,Jj,z,c,f0,ld,rc,rv,v5,cm,fam,f0m,fvm,ldm,v1m,v5m,hf,ht,kow,oo,JG,JH,JE,JQ,List.replicate];simp -implicitDefEqProofs only [bU,Jc,Ja,bT,bV,Ja,p1,p2,p3,zo',zc'];refine fin1 e3 p4 (by simp) (by simp;omega) dNew (gNew hk) ?_ ?_ ?_ ?_ ?_ ?_ (.inr ⟨_,_,rfl⟩)
     all_goals simp -implicitDefEqProofs only [bU,Jc,bT]
   ·have hk:pk≠some M[i].1.k:=by rw [hpk];simp only [Zi.k,ne_eq,Option.some.injEq,Prod.mk.injEq];exact fun h=>hf h.1
    simp only [JcE] at rv;simp -implicitDefEqProofs only [bU,Jc,Ja,Jb,bT,bV,Ja,Jb,Jg,Qs,J6,q4,q7,q13,q15,q16,l1,l2,h1,hL0,z0V,z0,wm,Jj,z,c,f0,ld,rc,rv,v5,cm,f0m,ldm,v5m,hf,kow,oo,JG,JH,JE,JQ,List.replicate];simp -implicitDefEqProofs only [bU,Jc,Ja,bT,bV,Ja,p1,p2,p3,zo',zc'];refine fin1 e3 p4 (by simp) (by simp;omega) dNew (gNew hk) ?_ ?_ ?_ ?_ ?_ ?_ (.inr ⟨_,_,rfl⟩)
    all_goals simp -implicitDefEqProofs only [bU,Jc,bT]
 ·have hil:i=M.length:=by omega
  subst hil;rw [List.take_length] at hz;simp -implicitDefEqProofs only [bU,Jc,bT,q4,q7,q13,q15,q16,l1,l2,h1,hL0];exact miss _ _ _ zs ds he hz (by simp -implicitDefEqProofs only [bU,Jc,bT]) (by simp -implicitDefEqProofs only [bU,Jc,bT])
end
def JbD (R:Zn×Int×Int) (H:AH) (v:AV) (H':AH):Prop:=Ext H H'∧ ∃ zs ds,v= .tp [.ag [.s R.1.a,zs],.i .i64 R.2.1,.i .i64 R.2.2]∧ZM H' H.n zs R.1.s ds
def szL (l:List Rr):Prop:= ∀ r,r∈l→r.o.length≤1099511627776∧r.d.length≤1099511627776
def Jwv (C:Tab) (f:Nat):Prop:= ∀ (a:AV) (l:List Rr) (apex:List UInt8) (H:AH),Sx H eR a l→l.length≤1099511627776→szL l→apex.length≤1099511627776→ ∃ v H',C f [a,.s apex] H=some (v,H')∧JbD (bz l apex) H v H'
theorem ZB {l:List Rr} {apex:List UInt8} {c:Int×Int} {H H':AH} (h:bz l apex=(zn0,c)) (he:Ext H H') {v:AV} (hv:v= .tp [z0V,.i .i64 c.1,.i .i64 c.2]):JbD (bz l apex) H v H':=by
 rw [h];exact ⟨he,.ns,[],hv,.nil _ _⟩
section
variable {C:Tab}
set_option maxHeartbeats 4000000 in
theorem Jvn {a:AV} {l:List Rr} {apex:List UInt8} {H:AH} (hN:Jb2 C YC) (hO:JmG C YR) (hF:Jbk C Qn) (hD:Jnu C Xi) (hT:Jiu C YN) (hRu:Jio C Yv) (hSo:Jl3 C WM 512) (hOw:Jne C XH)
  (hs:Sx H eR a l) (hl:l.length≤1099511627776) (hsz:szL l) (ha:apex.length≤1099511627776):Jt C Jp [a,.s apex] H (JbD (bz l apex) H):=by
 unfold Jt;have hc:Jp.s=JaX (JaX (JaX Jp.s [1,1,1,1,0] (sAt Jp.s [1,1,1,1,0])) [1,1,1,1,1,1,1,1,1,1,0] (sAt Jp.s [1,1,1,1,1,1,1,1,1,1,0])) [1,1,1,1,1,1,1,1,1,1,1,1,1,0] (sAt Jp.s [1,1,1,1,1,1,1,1,1,1,1,1,1,0]):=rfl;have hR:Jp.rs=[.c 4 (some 2),.t 5,.t 6]:=rfl;generalize hX1:sAt Jp.s [1,1,1,1,0]=X1 at hc;generalize hX2:sAt Jp.s [1,1,1,1,1,1,1,1,1,1,0]=X2 at hc;generalize hX3:sAt Jp.s [1,1,1,1,1,1,1,1,1,1,1,1,1,0]=X3 at hc;rw [hR,hc];clear hc hR;simp only [Jp,JaX];obtain ⟨l1,l2⟩:=hs.len;have k1:=hN apex H ha;have one:(1:Int)≤1:=Int.le_refl _;cases hn:JB apex with
 | none=>
  rw [hn] at k1;have hb:bz l apex=(zn0,32,-1):=by unfold bz;rw [if_pos hn]
  simp -implicitDefEqProofs only [bU,Jc,reduceCtorEq,Ja,bT,bV,Ja,k1,Option.isSome_none,JG,JH,Jr,rsC,rsV,Js];exact ZB hb (.refl _) rfl
 | some ls=>
  rw [hn] at k1;by_cases h5:(500:Int) < l.length
  ·have hb:bz l apex=(zn0,12,-1):=by unfold bz;rw [if_neg (by rw [hn];simp),if_pos (by omega)]
   simp -implicitDefEqProofs only [bU,Jc,reduceCtorEq,Ja,bT,bV,Ja,k1,l1,l2,h5,Option.isSome_some,JG,JH,Jr,rsC,rsV,Js];exact ZB hb (.refl _) rfl
  ·have h5':l.length≤500:=by omega
   have hbz:bz l apex=match JL l.length fun i=>decide (Jai (l.getD i rrZ) apex≠0) with
     | some i=>(zn0,Jai (l.getD i rrZ) apex,(i:Nat))
     | none=>match JL l.length (JaZ (l.map zi)) with
      | some i=>(zn0,24,(i:Nat))
      | none=>if (QL (l.map zi) (Jq apex)).1≠0 then (zn0,QL (l.map zi) (Jq apex)) else (⟨apex,Ja3 (l.map zi)⟩,0,0):=by
    unfold bz;rw [if_neg (by rw [hn];simp),if_neg (by omega)];rfl
   have hm0:Mx (H.new (.arr true 0 8 [])) eI (.sl H.n 0 0) []:= .own (by simp) QD
   have hc0:Cl (H.new (.arr true 0 8 [])) (.sl H.n 0 0):=fun i hi rw st z xs he=>by
    simp only [idA,List.mem_singleton] at hi;subst hi;rw [QD] at he;cases he;decide
   simp -implicitDefEqProofs only [bU,Jc,reduceCtorEq,Ja,bT,bV,Ja,k1,l1,l2,h5,Option.isSome_some,JE,JQ,List.replicate];rw [←hX1];refine Jva hs h5' hO hF hD hsz ha (.new _ _) hm0 hc0 (fun j hj=>by simp only [idA,List.mem_singleton] at hj;omega) ?_ ?_ ?_ ?_ rfl ?_ ?_
   any_goals (simp -implicitDefEqProofs only [bU,Jc,reduceCtorEq,bT];done)
   ·intro i e' g' H' hfx he q4 q5 q6
    have hb:bz l apex=(zn0,Jai (l.getD i rrZ) apex,((i:Nat):Int)):=by rw [hbz,hfx]
    simp -implicitDefEqProofs only [bU,Ja,bT,bV,Ja,Jr,rsC,rsV,Js,q4,q5,q6,z0V];exact ZB hb he rfl
   ·intro hone e1 g1 H1 o he hm hid q0 q1 q4 q7
    have hfx:JL l.length (fun i=>decide (Jai (l.getD i rrZ) apex≠0))=none:=Yn fun j hj=>decide_eq_false fun h=>h (hone j hj)
    rw [hfx] at hbz;simp only at hbz;have hZl:(l.map zi).length=l.length:=List.length_map _;obtain ⟨v2,H2,k2,rfl,hm2,hk2⟩:=hT o (l.map zi) H1 hm (by rw [hZl];omega)
    have he2:Ext H H2:=hk2.put he hid;have oo:=hm.sl.out;have hbad:Jpk (l.map zi)=ixV (JL l.length (JaZ (l.map zi))):=by unfold Jpk;rw [hZl]
    cases hmx:JL l.length (JaZ (l.map zi)) with
    | some i=>
     rw [hmx] at hbz hbad;have hb:bz l apex=(zn0,24,((i:Nat):Int)):=hbz;have hge:(0:Int)≤Jpk (l.map zi):=by rw [hbad];simp [ixV]
     have hvi:Jpk (l.map zi)=((i:Nat):Int):=hbad;rw [hvi] at k2;have hge':(0:Int)≤((i:Nat):Int):=by omega
     simp -implicitDefEqProofs only [bU,Jc,Ja,bT,bV,Ja,q4,q7,k2,oo,hge',JG,JH,Jr,rsC,rsV,Js,z0V];exact ZB hb he2 rfl
    | none=>
     rw [hmx] at hbz hbad;simp only at hbz;have hvi:Jpk (l.map zi)= -1:=hbad;rw [hvi] at k2;have hok:ZOk (l.map zi):=JqO hone fun i hi=>Jbp hmx i hi
     have hflen: ∀ i,i < (l.map zi).length→(itZ (l.map zi) i).f.length≤1099511627776:=fun i hi=>by
      obtain ⟨⟨b,hb⟩,-⟩:=hok.nm _ (Jh0 hi);have:=(Q9 hb).2.2;omega
     have k3:=hRu o (l.map zi) apex H2 hm2.sl (by rw [hZl];omega) hflen ha
     by_cases hr:(QL (l.map zi) (Jq apex)).1=0
     ·rw [if_neg (by simpa using hr)] at hbz
      rw [hr] at k3;have hm3:Mx (H2.new (.arr true 0 8 [])) eI (.sl H2.n 0 0) []:= .own (by simp) QD
      have hc3:Cl (H2.new (.arr true 0 8 [])) (.sl H2.n 0 0):=fun i hi rw st z xs he=>by
       simp only [idA,List.mem_singleton] at hi;subst hi;rw [QD] at he;cases he;decide
      have hng: ¬ (0:Int)≤ -1:=by decide
      simp -implicitDefEqProofs only [bU,Jc,Ja,bT,bV,Ja,q1,q7,k2,k3,oo,hng,JE,JQ,List.replicate];rw [←hX2];refine JuC (Z:=l.map zi) (apex:=apex) hm2.sl (by rw [hZl];exact h5') (by simp) (.new _ _) hm3 hc3 (fun j hj=>by simp only [idA,List.mem_singleton] at hj;omega) ?_ ?_ ?_ ?_ rfl ?_
      any_goals (simp -implicitDefEqProofs only [bU,Jc,Ja,bT,q1,q4,q7];done)
      intro e3 g3 H3 r he3 hm4 hc4 hid4 w1 w4 w7 w13
      have hkl:(J2 (l.map zi)).length≤500:=by
       unfold J2 Jn;rw [List.length_map];exact Nat.le_trans (List.length_filter_le _ _) (by simp;exact h5')
      obtain ⟨v5,H5,k5,e5,M,pM,sM,xM,cM⟩:=hSo r ((J2 (l.map zi)).map fun x=>(x,false)) H3 hm4.sl hc4 (by simp;omega) fun x hx=>by
       obtain ⟨y,hy,rfl⟩:=List.mem_map.1 hx;exact hok.kept.nm y hy
      have ro:=hm4.sl.out;have v5o:=xM.out;have hMl:M.length≤500:=by rw [pM.length_eq];simpa using hkl
      simp -implicitDefEqProofs only [bU,Jc,Ja,bT,bV,Ja,Jg,w1,w13,k5,ro,z0V,JG,JH];rw [←hX3];have hI5:Sx H5 eI o (Je9 (l.map zi)):=Sl.ext hm2.sl (he3.trans e5);refine Jup (apex:=apex) hI5 xM (by rw [hZl];exact h5') hMl hOw (.refl _) ?_ ?_ ?_ ?_ rfl ?_
      any_goals (simp -implicitDefEqProofs only [bU,Jc,bT,w4,w7];done)
      intro e6 g6 H6 zs ds he6 hz u4 u15
      have hperm:(M.map Prod.fst).Perm (J2 (l.map zi)):=by
       have:=pM.map Prod.fst;rw [List.map_map] at this;simpa [Function.comp_def] using this
      have hsrt:Srt iLt (M.map Prod.fst):=by
       unfold Srt;rw [List.pairwise_map];exact sM
      have hzn:=Jm3 (W9 (l.map zi)) hok.kept hperm hsrt;rw [hzn] at hz;have zc:=hz.rd.row.one;have zo:=hz.rd.row.out;have hall:Ext H H6:=((he2.trans he3).trans e5).trans he6;simp -implicitDefEqProofs only [bU,Jc,Ja,bT,bV,Ja,u4,u15,z0V,Jr,rsC,rsV,Js];rw [hbz];exact ⟨hall,zs,ds,rfl,⟨hz.row,hz.len,hz.dat,hz.nd,fun i hi=>by have:=hz.ge i hi;have:=((he2.trans he3).trans e5).n;omega⟩⟩
     ·rw [if_pos hr] at hbz
      have hng: ¬ (0:Int)≤ -1:=by decide
      simp -implicitDefEqProofs only [bU,Jc,Ja,bT,bV,Ja,q1,q4,q7,k2,k3,oo,hng,hr,JG,JH,Jr,rsC,rsV,Js,z0V];exact ZB hbz he2 rfl
end
end Go.Vm
