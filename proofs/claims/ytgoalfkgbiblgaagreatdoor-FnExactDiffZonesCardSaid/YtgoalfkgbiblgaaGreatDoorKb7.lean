import Derived.Test.YtgoalfkgbiblgaaGreatDoorKb6
import Derived.Test.YtgoalfkgbiblgaaGreatDoorKb4
import Derived.Test.YtgoalfkgbiblgaaGreatDoorKb3
import Derived.Test.YtgoalfkgbiblgaaGreatDoorProg
import Derived.KernelRfl
/- A zone out of records: what both sides come to. No program in sight. -/
set_option linter.unusedVariables false
set_option linter.unusedSimpArgs false
set_option maxRecDepth 100000
open Nat renaming reduceEqDiff→Jc,reduceAdd→Ja,reduceLT→Jb
open Int renaming reduceLE→Jf
namespace Go.Vm
structure Zi where
 r:Rr
 f:List UInt8
 g:List UInt8
structure Qa where
 o:List UInt8
 t:Int
 ttl:Int
 d:List (List UInt8)
 deriving DecidableEq
structure Zn where
 a:List UInt8
 s:List Qa
 deriving DecidableEq
def rrZ:Rr:=⟨[],0,0,0,[]⟩
instance:Inhabited Zi:=⟨⟨rrZ,[],[]⟩⟩
instance:Inhabited Qa:=⟨⟨[],0,0,[]⟩⟩
def zn0:Zn:=⟨[],[]⟩
def XL (t:Int) (d:List UInt8):List UInt8:=if chk t d=0 then ((prs (JU t) d).getD []).flatMap fun p=>if p.1=110 then Jq p.2 else p.2 else []
def zi (r:Rr):Zi:=⟨r,Jq r.o,XL r.t r.d⟩
abbrev Jbj:=List UInt8×Int
abbrev Zi.k (x:Zi):Jbj:=(x.f,x.r.t)
def Jd5 (t:Int):Bool:=decide (t=0∨t=41∨(249≤t∧t≤255))
def Jai (r:Rr) (apex:List UInt8):Int:=
 if JB r.o=none then 1 else if r.c≠1 then 19 else if ¬ (0≤r.ttl∧r.ttl≤2147483647) then 18 else if Jd5 r.t=true∨r.t < 0∨65535 < r.t then 6 else if chk r.t r.d≠0 then 7 else if JfH r.o apex=false then 22 else 0
def JL (n:Nat) (p:Nat→Bool):Option Nat:=(List.range n).find? p
section
variable (L:List Zi)
def itZ (i:Nat):Zi:=L.getD i default
def WN (i:Nat):Bool:=(L.take i).any fun y=>decide (y.k=(itZ L i).k∧y.g=(itZ L i).g)
def JaZ (i:Nat):Bool:=match (L.take i).find? fun y=>decide (y.k=(itZ L i).k) with
 | some y=>decide (y.r.ttl≠ (itZ L i).r.ttl)
 | none=>false
def hasB (n:Nat) (f:List UInt8) (t:Int):Bool:=(List.range n).any fun k=> !WN L k&&decide ((itZ L k).f=f∧(itZ L k).r.t=t)
def Jh7 (f:List UInt8):Bool:=decide (1 < f.length∧f.take 2=[1,42])
def Jb6 (top:List UInt8) (i:Nat):Bool:= !WN L i&&decide ((itZ L i).r.t=6) && (decide ((itZ L i).f≠top) ||hasB L i top 6)
def YU (i:Nat):Bool:= !WN L i&&Jh7 (itZ L i).f&&decide ((itZ L i).r.t=2∨(itZ L i).r.t=39)
def YB (i:Nat):Bool:= !WN L i&&decide ((itZ L i).r.t=5∨(itZ L i).r.t=39) &&hasB L i (itZ L i).f (itZ L i).r.t
def cnB (i:Nat):Bool:= !WN L i&&decide ((itZ L i).r.t≠5) &&decide ((itZ L i).r.t≠47) &&hasB L L.length (itZ L i).f 5
def JdK (i:Nat):Bool:=(List.range L.length).any fun k=> !WN L i&& !WN L k&&decide ((itZ L k).r.t=39) &&decide ((itZ L k).f≠ (itZ L i).f) &&JfH (itZ L i).f (itZ L k).f
def QL (top:List UInt8):Int×Int:=match JL L.length (Jb6 L top) with
 | some i=>(20,(i:Nat))
 | none=>if hasB L L.length top 6=false then (20,-1) else if hasB L L.length top 2=false then (21,-1) else match JL L.length (YU L) with
  | some i=>(26,(i:Nat))
  | none=>match JL L.length (YB L) with
   | some i=>(23,(i:Nat))
   | none=>match JL L.length (cnB L) with
    | some i=>(23,(i:Nat))
    | none=>match JL L.length (JdK L) with
     | some i=>(25,(i:Nat))
     | none=>(0,0)
def Jn:List Nat:=(List.range L.length).filter fun i=> !WN L i
def J2:List Zi:=(Jn L).map (itZ L)
def W9 (f:List UInt8):List UInt8:=((L.find? fun y=>decide (y.f=f)).map fun y=>y.r.o).getD f
end
def Jkg:(List (List UInt8)×Int)→(List (List UInt8)×Int)→Int:=Jdv (JdI Lib.compareBytes) JqY
theorem Jag:Cmp Jkg:=Jg8 JgL JnZ
def kLt (a b:Jbj):Bool:=JdB Jkg (rkN a.1,a.2) (rkN b.1,b.2)
def gLt (x y:Zi):Bool:=JdB Lib.compareBytes x.g y.g
def iLt (x y:Zi):Bool:=JdB (Jdv Jkg Lib.compareBytes) ((rkN x.f,x.r.t),x.g) ((rkN y.f,y.r.t),y.g)
def Jdk (a b:Qa):Bool:=JdB Jkg (rkN a.o,a.t) (rkN b.o,b.t)
theorem Jr3:Jb0 kLt:=Jag.ordr.comap fun a:Jbj=>(rkN a.1,a.2)
theorem Jsv:Jb0 gLt:=Zf.ordr.comap Zi.g
theorem Jvb:Jb0 iLt:=(Jg8 Jag Zf).ordr.comap fun x:Zi=>((rkN x.f,x.r.t),x.g)
theorem JpN:Jb0 Jdk:=Jag.ordr.comap fun a:Qa=>(rkN a.o,a.t)
def keysOf (l:List Zi):List Jbj:=l.foldl (fun acc x=>if x.k∈acc then acc else acc++[x.k]) []
def mkS (ow:List UInt8→List UInt8) (K:List Zi) (k:Jbj):Qa:=⟨ow k.1,k.2,((K.find? fun y=>decide (y.k=k)).map fun y=>y.r.ttl).getD 0,(isort gLt (K.filter fun y=>decide (y.k=k))).map fun y=>y.r.d⟩
def Ja3 (L:List Zi):List Qa:=(isort kLt (keysOf (J2 L))).map (mkS (W9 L) (J2 L))
def bz (l:List Rr) (apex:List UInt8):Zn×Int×Int:=
 if JB apex=none then (zn0,32,-1) else if 500 < l.length then (zn0,12,-1) else
 match JL l.length fun i=>decide (Jai (l.getD i rrZ) apex≠0) with
 | some i=>(zn0,Jai (l.getD i rrZ) apex,(i:Nat))
 | none=>match JL l.length (JaZ (l.map zi)) with
  | some i=>(zn0,24,(i:Nat))
  | none=>if (QL (l.map zi) (Jq apex)).1≠0 then (zn0,QL (l.map zi) (Jq apex)) else (⟨apex,Ja3 (l.map zi)⟩,0,0)
def JbC (s:Qa):List Rr:=s.d.map fun d=>⟨s.o,s.t,1,s.ttl,d⟩
def WQ (z:Zn):List Rr:=z.s.flatMap JbC
def JkI (z:Zn):Nat:=(z.s.map fun s=>s.d.length).sum
def ckz (z:Zn):Int:=if 500 < z.s.length∨500 < JkI z then 32 else if (bz (WQ z) z.a).2.1=0∧(bz (WQ z) z.a).1=z then 0 else 32
theorem Ym {n i:Nat} {p:Nat→Bool} (hi:i < n) (h:p i=true) (hb: ∀ j,j < i→p j=false):JL n p=some i:=by
 unfold JL;rw [List.find?_range_eq_some];exact ⟨h,List.mem_range.2 hi,fun j hj=>by simp [hb j hj]⟩
theorem Yn {n:Nat} {p:Nat→Bool} (h: ∀ j,j < n→p j=false):JL n p=none:=by
 unfold JL;rw [List.find?_eq_none];intro x hx;rw [h x (List.mem_range.1 hx)];decide
theorem JhR {n i:Nat} {p:Nat→Bool} (h:JL n p=some i):i < n∧p i=true∧ ∀ j,j < i→p j=false:=by
 unfold JL at h;rw [List.find?_range_eq_some] at h;exact ⟨List.mem_range.1 h.2.1,h.1,fun j hj=>by simpa using h.2.2 j hj⟩
theorem Jbp {n:Nat} {p:Nat→Bool} (h:JL n p=none): ∀ j,j < n→p j=false:=by
 intro j hj;unfold JL at h;rw [List.find?_eq_none] at h;simpa using h j (List.mem_range.2 hj)
theorem Q7 (l:List Zi) (x:Zi):keysOf (l++[x])=if x.k∈keysOf l then keysOf l else keysOf l++[x.k]:=by
 unfold keysOf;rw [List.foldl_append];rfl
theorem Jaj {α:Type} {P:List α→Prop} (h0:P []) (h1: ∀ l x,P l→P (l++[x])): ∀ l,P l:=fun l=>by
 have: ∀ m:List α,P m.reverse:=fun m=>by
  induction m with
  | nil=>exact h0
  | cons x m ih=>rw [List.reverse_cons];exact h1 _ _ ih
 have h:=this l.reverse;rwa [List.reverse_reverse] at h
theorem Qe {k:Jbj} (l:List Zi):k∈keysOf l↔ ∃ x,x∈l∧x.k=k:=by
 induction l using Jaj with
 | h0=>simp [keysOf]
 | h1 l x ih=>
  rw [Q7];by_cases h:x.k∈keysOf l
  ·rw [if_pos h,ih]
   constructor
   ·rintro ⟨y,hy,e⟩;exact ⟨y,by simp [hy],e⟩
   ·rintro ⟨y,hy,e⟩
    rcases List.mem_append.1 hy with hy | hy
    ·exact ⟨y,hy,e⟩
    ·rw [List.mem_singleton] at hy
     subst hy;rw [e] at h;exact ih.1 h
  ·rw [if_neg h,List.mem_append,ih,List.mem_singleton]
   constructor
   ·rintro (⟨y,hy,e⟩ | e)
    ·exact ⟨y,by simp [hy],e⟩
    ·exact ⟨x,by simp,e.symm⟩
   ·rintro ⟨y,hy,e⟩
    rcases List.mem_append.1 hy with hy | hy
    ·exact .inl ⟨y,hy,e⟩
    ·rw [List.mem_singleton] at hy
     subst hy;exact .inr e.symm
theorem Yl (l:List Zi):(keysOf l).Nodup:=by
 induction l using Jaj with
 | h0=>simp [keysOf]
 | h1 l x ih=>
  rw [Q7];split
  ·exact ih
  ·rename_i h
   exact List.nodup_append.2 ⟨ih,by simp,fun a ha b hb=>by rw [List.mem_singleton] at hb;subst hb;intro e;subst e;exact h ha⟩
structure Kept (K:List Zi):Prop where
 nm: ∀ x,x∈K→(∃ a,JB x.f=some a)∧Jq x.f=x.f
 nd:K.Pairwise fun x y=> ¬ (x.k=y.k∧x.g=y.g)
 tt: ∀ x,x∈K→ ∀ y,y∈K→x.k=y.k→x.r.ttl=y.r.ttl
theorem JoG {x y:Zi} {K:List Zi} (h:Kept K) (hx:x∈K) (hy:y∈K):rkN x.f=rkN y.f↔x.f=y.f:=by
 obtain ⟨⟨a,ha⟩,e1⟩:=h.nm x hx;obtain ⟨⟨b,hb⟩,e2⟩:=h.nm y hy;rw [Jld ha hb,e1,e2]
theorem Cmp.no {α β:Type} {c:β→β→Int} (h:Cmp c) {f:α→β} {l:List α} (hl:l.Pairwise fun x y=>f x≠f y):l.Pairwise fun x y=>JdB c (f x) (f y)=true∨JdB c (f y) (f x)=true:=
 hl.imp fun {x y} hxy=>by
  simp only [JdB,decide_eq_true_eq];rcases h.tri (f x) (f y) with h1 | h1 | h1
  ·exact .inl h1
  ·exact absurd h1 hxy
  ·exact .inr h1
theorem Wp {α:Type} {R:α→α→Prop} {S:α→α→Prop} {l:List α} (h:l.Pairwise R) (hi: ∀ x,x∈l→ ∀ y,y∈l→R x y→S x y):l.Pairwise S:=
 List.Pairwise.imp_of_mem (fun {a b} ha hb hr=>hi a ha b hb hr) h
section
variable {K:List Zi}
theorem Kept.perm {R:List Zi} (h:Kept K) (hp:R.Perm K):Kept R where
 nm x hx:=h.nm x (hp.mem_iff.1 hx)
 nd:=(hp.pairwise_iff (fun {a b} hab=>fun hba=>hab ⟨hba.1.symm,hba.2.symm⟩)).2 h.nd
 tt x hx y hy:=h.tt x (hp.mem_iff.1 hx) y (hp.mem_iff.1 hy)
theorem Kept.noG (h:Kept K) (k:Jbj):(K.filter fun y=>decide (y.k=k)).Pairwise fun x y=>gLt x y=true∨gLt y x=true:=by
 refine Zf.no (f:=Zi.g) (Wp (h.nd.filter _) fun x hx y hy hxy e=>hxy ⟨?_,e⟩)
 have h1:=(List.mem_filter.1 hx).2;have h2:=(List.mem_filter.1 hy).2;simp only [decide_eq_true_eq] at h1 h2;rw [h1,h2]
theorem Kept.key (h:Kept K) {k:Jbj} (hk:k∈keysOf K): ∃ x,x∈K∧x.k=k:=(Qe K).1 hk
theorem Kept.noK (h:Kept K):(keysOf K).Pairwise fun x y=>kLt x y=true∨kLt y x=true:=by
 refine Jag.no (f:=fun k:Jbj=>(rkN k.1,k.2)) (Wp (Yl K) fun a ha b hb hab e=>hab ?_)
 obtain ⟨x,hx,rfl⟩:=h.key ha;obtain ⟨y,hy,rfl⟩:=h.key hb;simp only [Prod.mk.injEq] at e;exact Prod.ext ((JoG h hx hy).1 e.1) e.2
theorem Jnw (h:Kept K) {R:List Zi} (hp:R.Perm K) (hs:Srt iLt R) (k:Jbj):(R.filter fun y=>decide (y.k=k))=isort gLt (K.filter fun y=>decide (y.k=k)):=by
 refine Jjh Jsv (h.noG k) (hp.filter _) ?_
 refine Wp (List.Pairwise.filter _ hs) fun x hx y hy hxy=> ?_
 have h1:=(List.mem_filter.1 hx).2;have h2:=(List.mem_filter.1 hy).2;simp only [decide_eq_true_eq] at h1 h2;have e:x.k=y.k:=by rw [h1,h2]
 simp only [Zi.k,Prod.mk.injEq] at e;simp only [iLt,JdB,Jdv,decide_eq_false_iff_not] at hxy;rw [e.1,e.2] at hxy;rw [if_neg (by simpa using Jag.self _)] at hxy
 simpa [gLt,JdB] using hxy
theorem JnD (h:Kept K) {R:List Zi} (hp:R.Perm K) (k:Jbj):(R.find? fun y=>decide (y.k=k)).map (fun y=>y.r.ttl)=(K.find? fun y=>decide (y.k=k)).map fun y=>y.r.ttl:=by
 cases h1:R.find? fun y=>decide (y.k=k) with
 | none=>
  have:K.find? (fun y=>decide (y.k=k))=none:=List.find?_eq_none.2 fun x hx=>List.find?_eq_none.1 h1 x (hp.mem_iff.2 hx)
  rw [this]
 | some x=>
  cases h2:K.find? fun y=>decide (y.k=k) with
  | none=>
   have:=List.find?_eq_none.1 h2 x (hp.mem_iff.1 (List.mem_of_find?_eq_some h1));exact absurd (List.find?_some h1) this
  | some y=>
   have e1:=List.find?_some h1;have e2:=List.find?_some h2;simp only [decide_eq_true_eq] at e1 e2;simp only [Option.map_some,Option.some.injEq];exact h.tt x (hp.mem_iff.1 (List.mem_of_find?_eq_some h1)) y (List.mem_of_find?_eq_some h2) (e1.trans e2.symm)
def JhB (ow:List UInt8→List UInt8) (st:List Qa×Option Jbj) (x:Zi):List Qa×Option Jbj:=
 (if st.2=some x.k then st.1.dropLast++[{st.1.getLastD default with d:=(st.1.getLastD default).d++[x.r.d]}] else st.1++[⟨ow x.f,x.r.t,x.r.ttl,[x.r.d]⟩],some x.k)
def grp (ow:List UInt8→List UInt8) (R:List Zi):List Qa×Option Jbj:=R.foldl (JhB ow) ([],none)
theorem JdQ (ow:List UInt8→List UInt8) (R:List Zi) (x:Zi):grp ow (R++[x])=JhB ow (grp ow R) x:=by simp [grp]
def ZE (ow:List UInt8→List UInt8) (R:List Zi) (k:Jbj):Qa:=⟨ow k.1,k.2,((R.find? fun y=>decide (y.k=k)).map fun y=>y.r.ttl).getD 0,(R.filter fun y=>decide (y.k=k)).map fun y=>y.r.d⟩
theorem JgW {ow:List UInt8→List UInt8} {R:List Zi} {x:Zi} {k:Jbj} (h:x.k≠k):ZE ow (R++[x]) k=ZE ow R k:=by
 unfold ZE;rw [List.find?_append,List.filter_append];simp [h]
theorem Jgi {x y:Zi} (h:iLt x y=false):kLt x.k y.k=false:=by
 simp only [kLt,JdB,decide_eq_false_iff_not];intro hlt;simp only [iLt,JdB,Jdv,decide_eq_false_iff_not] at h
 have e:Jkg (rkN x.f,x.r.t) (rkN y.f,y.r.t) ≠0:=by
  have:Jkg (rkN x.f,x.r.t) (rkN y.f,y.r.t) < 0:=hlt;omega
 rw [if_pos e] at h;exact h hlt
theorem Jpm (h:Kept K) {x y:Zi} (hx:x∈K) (hy:y∈K) (h1:kLt x.k y.k=false) (h2:kLt y.k x.k=false):x.k=y.k:=by
 simp only [kLt,JdB,decide_eq_false_iff_not] at h1 h2;rcases Jag.tri (rkN x.f,x.r.t) (rkN y.f,y.r.t) with a | a | a
 ·exact absurd a h1
 ·simp only [Prod.mk.injEq] at a
  exact Prod.ext ((JoG h hx hy).1 a.1) a.2
 ·exact absurd a h2
theorem Jpf (ow:List UInt8→List UInt8): ∀ R:List Zi,Kept R→Srt iLt R→grp ow R=((keysOf R).map (ZE ow R),R.getLast?.map Zi.k)∧(keysOf R).getLast?=R.getLast?.map Zi.k:=by
 intro R;induction R using Jaj with
 | h0=>intro _ _;simp [grp,keysOf]
 | h1 R x ih=>
  intro hK hs;obtain ⟨s1,-,s3⟩:=Srt.app.1 hs;have hK1:Kept R:=⟨fun y hy=>hK.nm y (by simp [hy]),(List.pairwise_append.1 hK.nd).1,fun y hy z hz=>hK.tt y (by simp [hy]) z (by simp [hz])⟩
  obtain ⟨e1,e2⟩:=ih hK1 s1
  have hlast:x.k∈keysOf R↔R.getLast?.map Zi.k=some x.k:=by
   constructor
   ·intro hm
    obtain ⟨y,hy,ek⟩:=(Qe R).1 hm;cases hl:R.getLast? with
    | none=>rw [List.getLast?_eq_none_iff] at hl;subst hl;cases hy
    | some z=>
     have hz:z∈R:=List.mem_of_getLast? hl;simp only [Option.map_some,Option.some.injEq];have hxz:=s3 z hz x (by simp)
     have hzy:kLt z.k y.k=false:=by
      obtain ⟨R',rfl⟩: ∃ R',R=R'++[z]:=List.getLast?_eq_some_iff.1 hl;rcases List.mem_append.1 hy with hy | hy
      ·exact Jgi ((Srt.app.1 s1).2.2 y hy z (by simp))
      ·rw [List.mem_singleton] at hy
       subst hy;simp only [kLt,JdB,Jag.self];decide
     exact Jpm hK (by simp [hz]) (by simp) (by rw [←ek];exact hzy) (Jgi hxz)
   ·intro hm
    cases hl:R.getLast? with
    | none=>rw [hl] at hm;cases hm
    | some z=>
     rw [hl] at hm;simp only [Option.map_some,Option.some.injEq] at hm;exact (Qe R).2 ⟨z,List.mem_of_getLast? hl,hm⟩
  rw [JdQ,Q7,e1];unfold JhB;by_cases hm:x.k∈keysOf R
  ·rw [if_pos (hlast.1 hm),if_pos hm]
   have hl:=hlast.1 hm;rw [←e2] at hl;obtain ⟨ks,hks⟩:=List.getLast?_eq_some_iff.1 hl;have hnd:=Yl R;rw [hks] at hnd ⊢;have hd:=(List.nodup_append.1 hnd).2.2;refine ⟨?_,by simp⟩
   simp only [List.map_append,List.map_cons,List.map_nil,List.dropLast_concat,List.getLastD_eq_getLast?,List.getLast?_concat,Option.getD_some,Prod.mk.injEq,Option.map_some,and_true];congr 1
   ·refine List.map_congr_left fun k hk=>(JgW ?_).symm
    exact fun e=>hd k hk x.k (by simp) e.symm
   ·have hf: ∃ y,R.find? (fun y=>decide (y.k=x.k))=some y:=by
     obtain ⟨y,hy,ek⟩:=(Qe R).1 hm;cases h:R.find? fun y=>decide (y.k=x.k) with
     | none=>exact absurd (by simpa using ek) (List.find?_eq_none.1 h y hy)
     | some y=>exact ⟨y,rfl⟩
    obtain ⟨y,hy⟩:=hf;unfold ZE;rw [List.find?_append,List.filter_append,hy];simp
  ·rw [if_neg (fun h=>hm (hlast.2 h)),if_neg hm]
   refine ⟨?_,by simp⟩
   simp only [List.map_append,List.map_cons,List.map_nil,List.getLast?_concat,Option.map_some,Prod.mk.injEq,and_true];congr 1
   ·refine List.map_congr_left fun k hk=>(JgW ?_).symm
    exact fun e=>hm (e▸hk)
   ·have hf:R.find? (fun y=>decide (y.k=x.k))=none:=List.find?_eq_none.2 fun y hy e=>hm ((Qe R).2 ⟨y,hy,by simpa using e⟩)
    have hf2:R.filter (fun y=>decide (y.k=x.k))=[]:=List.filter_eq_nil_iff.2 fun y hy e=>hm ((Qe R).2 ⟨y,hy,by simpa using e⟩)
    unfold ZE;rw [List.find?_append,List.filter_append,hf,hf2];simp
theorem JjP: ∀ R:List Zi,Srt iLt R→Srt kLt (keysOf R):=by
 intro R;induction R using Jaj with
 | h0=>intro _;simp [keysOf,Srt]
 | h1 R x ih=>
  intro hs;obtain ⟨s1,-,s3⟩:=Srt.app.1 hs;rw [Q7];split
  ·exact ih s1
  ·refine Srt.app.2 ⟨ih s1,Srt.one,fun k hk y hy=> ?_⟩
   rw [List.mem_singleton] at hy;subst hy;obtain ⟨z,hz,rfl⟩:=(Qe R).1 hk;exact Jgi (s3 z hz x (by simp))
theorem Jiv {R:List Zi} (hp:R.Perm K):(keysOf R).Perm (keysOf K):=
 (List.perm_ext_iff_of_nodup (Yl R) (Yl K)).2 fun k=>by
  rw [Qe,Qe];exact ⟨fun ⟨x,hx,e⟩=>⟨x,hp.mem_iff.1 hx,e⟩,fun ⟨x,hx,e⟩=>⟨x,hp.mem_iff.2 hx,e⟩⟩
theorem Jm3 (ow:List UInt8→List UInt8) (h:Kept K) {R:List Zi} (hp:R.Perm K) (hs:Srt iLt R):(grp ow R).1=(isort kLt (keysOf K)).map (mkS ow K):=by
 rw [(Jpf ow R (h.perm hp) hs).1];have e1:keysOf R=isort kLt (keysOf K):=Jjh Jr3 h.noK (Jiv hp) (JjP R hs);simp only [e1];refine List.map_congr_left fun k _=> ?_
 unfold ZE mkS;rw [Jnw h hp hs k,JnD h hp k]
theorem JlM (ow:List UInt8→List UInt8) (h:Kept K) (how: ∀ x,x∈K→rkN (ow x.f)=rkN x.f) {M:List Qa} (hp:M.Perm ((keysOf K).map (mkS ow K))) (hs:Srt Jdk M):M=(isort kLt (keysOf K)).map (mkS ow K):=by
 have hk: ∀ a,a∈keysOf K→ ∀ b,b∈keysOf K→Jdk (mkS ow K a) (mkS ow K b)=kLt a b:=fun a ha b hb=>by
  obtain ⟨x,hx,rfl⟩:=h.key ha;obtain ⟨y,hy,rfl⟩:=h.key hb;simp only [Jdk,mkS,kLt];rw [how x hx,how y hy]
 refine Jk6 (lt:=Jdk) ?_ hp ((Qj _).map _) hs ?_
 ·rw [List.pairwise_map]
  refine Wp h.noK fun a ha b hb hab=> ?_
  rw [hk a ha b hb,hk b hb a ha];exact hab
 ·unfold Srt
  rw [List.pairwise_map];refine Wp (Jcy Jr3 (keysOf K)) fun a ha b hb hab=> ?_
  rw [hk b ((Qj _).mem_iff.1 hb) a ((Qj _).mem_iff.1 ha)];exact hab
theorem JlP (h:Kept K) (hg: ∀ x,x∈K→x.g=XL x.r.t x.r.d) (k:Jbj) {M:List (List UInt8)} (hp:M.Perm ((K.filter fun y=>decide (y.k=k)).map fun y=>y.r.d)) (hs:Srt (fun x y=>JdB Lib.compareBytes (XL k.2 x) (XL k.2 y)) M):
  M=(isort gLt (K.filter fun y=>decide (y.k=k))).map fun y=>y.r.d:=by
 have hk: ∀ x,x∈(K.filter fun y=>decide (y.k=k))→XL k.2 x.r.d=x.g:=fun x hx=>by
  obtain ⟨h1,h2⟩:=List.mem_filter.1 hx;simp only [decide_eq_true_eq] at h2;rw [hg x h1,←h2]
 refine Jk6 (lt:=fun x y=>JdB Lib.compareBytes (XL k.2 x) (XL k.2 y)) ?_ hp ((Qj _).map _) hs ?_
 ·rw [List.pairwise_map]
  refine Wp (h.noG k) fun a ha b hb hab=> ?_
  rw [hk a ha,hk b hb];exact hab
 ·unfold Srt
  rw [List.pairwise_map];refine Wp (Jcy Jsv (K.filter fun y=>decide (y.k=k))) fun a ha b hb hab=> ?_
  show JdB Lib.compareBytes (XL k.2 b.r.d) (XL k.2 a.r.d)=false
  rw [hk a ((Qj _).mem_iff.1 ha),hk b ((Qj _).mem_iff.1 hb)];exact hab
end
def Ji4 (C:Tab) (f:Nat):Prop:= ∀ (a:AV) (ls:List (List UInt8)) (H:AH),Sl H 1 a (ls.map AV.s)→ls.length≤1099511627776→(joinL ls).length≤1099511627776→C f [a] H=some (.s (joinL ls),H)
def JdA (C:Tab) (f:Nat):Prop:= ∀ (s:List UInt8) (H:AH),s.length≤1099511627776→ ∃ v H',C f [.s s] H=some (v,H')∧Ext H H'∧Mn H' 1 v (((JB s).getD []).map AV.s)∧ ∀ i,i∈idA v→H.n≤i
def JqF (x y:List UInt8):Bool:=JfH x y&& !Jdg x y
def Jnt (C:Tab) (f:Nat):Prop:= ∀ (s t:List UInt8) (H:AH),s.length≤1099511627776→t.length≤1099511627776→C f [.s s,.s t] H=some (.b (JqF s t),H)
def JeC (C:Tab) (f:Nat):Prop:= ∀ (t:Int) (H:AH),C f [.i .i64 t] H=some (.b (Jd5 t),H)
theorem Xh {s:List UInt8} {ls:List (List UInt8)} (h:JB s=some ls):Jq s=Zz s:=by unfold Jq;rw [h];rfl
section
variable {C:Tab}
theorem JA (H:AH):QA H H:=⟨Nat.le_refl _,fun _ _=>rfl⟩
theorem Jok {t:Int} {H:AH}:Jt C Yu [.i .i64 t] H fun v H'=>v= .b (Jd5 t)∧QA H H':=by
 unfold Jt Yu;have hk:=JA H;unfold Jd5;by_cases h0:t=0
 ·simp -implicitDefEqProofs only [bU,Jc,reduceCtorEq,bT,Jf,h0,Jr,rsC,rsV,Js]
  exact ⟨by simp,hk⟩
 by_cases h1:t=41
 ·have h1':(t=41)=True:=eq_true h1
  simp -implicitDefEqProofs only [bU,Jc,reduceCtorEq,bT,h0,h1',Jr,rsC,rsV,Js];exact ⟨by simp [h1],hk⟩
 by_cases h2:249≤t
 ·by_cases h3:t≤255
  ·simp -implicitDefEqProofs only [bU,Jc,reduceCtorEq,bT,h0,h1,h2,h3,Jr,rsC,rsV,Js]
   exact ⟨by simp [],hk⟩
  ·simp -implicitDefEqProofs only [bU,Jc,reduceCtorEq,bT,h0,h1,h2,h3,Jr,rsC,rsV,Js]
   exact ⟨by simp [],hk⟩
 ·simp -implicitDefEqProofs only [bU,Jc,reduceCtorEq,bT,h0,h1,h2,Jr,rsC,rsV,Js]
  exact ⟨by simp [],hk⟩
theorem JnG {s:List UInt8} {H:AH} (hL:ZZ C QF) (hs:s.length≤1099511627776):Jt C Yx [.s s] H fun v H'=>Ext H H'∧Mn H' 1 v (((JB s).getD []).map AV.s)∧ ∀ i,i∈idA v→H.n≤i:=by
 unfold Jt Yx;obtain ⟨v1,H1,k1,p1⟩:=hL s H (by omega)
 have e1:=p1.1;cases hn:JB s with
 | none=>
  obtain ⟨o1,rfl,ho1⟩:=p1.sh;rw [hn] at k1;simp -implicitDefEqProofs only [bU,Jc,reduceCtorEq,Ja,Jb,bT,k1,Option.isSome_none,Jr,rsC,rsV,Js];exact ⟨e1,.nil,fun i hi=>by cases hi⟩
 | some a=>
  rw [hn] at p1;obtain ⟨-,o1,rfl,hm1,hid⟩:=p1;simp -implicitDefEqProofs only [bU,Jc,reduceCtorEq,Ja,Jb,bT,k1,hm1.sl.out,Jr,rsC,rsV,Js];exact ⟨e1,hm1,hid⟩
theorem JpP {s t:List UInt8} {H:AH} (hN:Jb2 C XM) (hF:Ja1 C Qc) (hs:s.length≤1099511627776) (ht:t.length≤1099511627776):
  Jt C Xm [.s s,.s t] H fun v H'=>v= .b (Jdg s t)∧QA H H':=by
 unfold Jt Xm;have hk:=JA H;have k1:=hN s H hs;have k2:=hN t H ht;have k3:=hF s H hs;have k4:=hF t H ht;unfold Jdg;cases hn:JB s with
 | none=>
  rw [hn] at k1;simp -implicitDefEqProofs only [bU,Jc,reduceCtorEq,Ja,bT,k1,Option.isSome_none,Jr,rsC,rsV,Js];exact ⟨by rw [JcU hn];simp,hk⟩
 | some a=>
  rw [hn] at k1;have hne:=Jcx hn;cases hm:JB t with
  | none=>
   rw [hm] at k2;simp -implicitDefEqProofs only [bU,Jc,reduceCtorEq,Ja,bT,k1,k2,Option.isSome_none,Option.isSome_some,Jr,rsC,rsV,Js];exact ⟨by rw [JcU hm];simp [hne],hk⟩
  | some b=>
   rw [hm] at k2;simp -implicitDefEqProofs only [bU,Jc,reduceCtorEq,Ja,bT,k1,k2,k3,k4,Option.isSome_some,Jr,rsC,rsV,Js];refine ⟨?_,hk⟩
   rw [←Xh hn,←Xh hm];simp [hne]
theorem Jo0 {s t:List UInt8} {H:AH} (hL:ZZ C QF) (hJ:Ji4 C JaV) (hF:Ja1 C Qc) (hs:s.length≤1099511627776) (ht:t.length≤1099511627776):
  Jt C X7 [.s s,.s t] H fun v H'=>v= .b (JfH s t)∧QA H H':=by
 unfold Jt X7;obtain ⟨v1,H1,k1,p1⟩:=hL s H (by omega)
 obtain ⟨v2,H2,k2,p2⟩:=hL t H1 (by omega)
 have e1:=p1.1;have e2:=e1.trans p2.1;unfold JfH;cases hn:JB s with
 | none=>
  obtain ⟨o1,rfl,ho1⟩:=p1.sh;obtain ⟨o2,rfl,ho2⟩:=p2.sh;rw [hn] at k1;simp -implicitDefEqProofs only [bU,Jc,reduceCtorEq,Ja,Jb,bT,k1,k2,Option.isSome_none,Jr,rsC,rsV,Js];exact .of e2
 | some a=>
  rw [hn] at p1;obtain ⟨-,o1,rfl,hm1,-⟩:=p1;cases hm:JB t with
  | none=>
   obtain ⟨o2,rfl,ho2⟩:=p2.sh;rw [hm] at k2;simp -implicitDefEqProofs only [bU,Jc,reduceCtorEq,Ja,Jb,bT,k1,k2,Option.isSome_none,Jr,rsC,rsV,Js];exact .of e2
  | some b=>
   rw [hm] at p2;obtain ⟨he,o2,rfl,hm2,-⟩:=p2;obtain ⟨l1,l2⟩:=(hm1.sl.ext he).len;obtain ⟨l3,l4⟩:=hm2.sl.len;rw [List.length_map] at l1 l3;have c1:=We hn;have c2:=We hm;by_cases hlt:(a.length:Int) < b.length
   ·simp -implicitDefEqProofs only [bU,Jc,reduceCtorEq,Ja,Jb,bT,k1,k2,l1,l2,l3,l4,hlt,Jr,rsC,rsV,Js]
    refine ⟨?_,.of e2⟩
    simp only [decide_eq_false (show ¬ b.length≤a.length by omega),Bool.false_and]
   ·have w1:IntKind.i64.wrap ((a.length:Int)-b.length)=((a.length-b.length:Nat):Int):=by rw [w64 (by omega) (by omega)];omega
    obtain ⟨s1,s2,s3⟩:=Sl.sufL (hm1.sl.ext he) (k:=a.length-b.length) (by omega)
    have hd:=JcT hn (a.length-b.length);have hlen:=(Q9 hd).2.2;have k3:=hJ _ _ _ s3 (by simp;omega) (by omega)
    have k4:=hF (joinL (a.drop (a.length-b.length))) H2 (by omega)
    have k5:=hF t H2 ht;simp -implicitDefEqProofs only [bU,Jc,reduceCtorEq,Ja,Jb,bT,k1,k2,l1,l2,l3,l4,hlt,w1,s1,s2,Jj,k3,k4,k5,s3.out,Jr,rsC,rsV,Js];refine ⟨?_,.of e2⟩
    simp only [decide_eq_true (show b.length≤a.length by omega),Bool.true_and]
    unfold Jdg;rw [←Xh hd,←Xh hm];simp [Jcx hd]
theorem JtF {s t:List UInt8} {H:AH} (hU:JbI C WP) (hS:Jeh C YD) (hs:s.length≤1099511627776) (ht:t.length≤1099511627776):Jt C Xv [.s s,.s t] H fun v H'=>v= .b (JqF s t)∧QA H H':=by
 unfold Jt Xv;have hk:=JA H;have k1:=hU s t H hs ht;have k2:=hS s t H hs ht;unfold JqF;cases hu:JfH s t with
 | false=>
  rw [hu] at k1;simp -implicitDefEqProofs only [bU,Jc,reduceCtorEq,Ja,bT,k1,Bool.false_and,Jr,rsC,rsV,Js];exact hk
 | true=>
  rw [hu] at k1;simp -implicitDefEqProofs only [bU,Jc,reduceCtorEq,Ja,bT,k1,k2,Jr,rsC,rsV,Js];exact hk
theorem JsO {s t:List UInt8} {H:AH} (hL:ZZ C QF) (hF:Ja1 C Qc) (hO:JjT C XN) (hs:s.length≤1099511627776) (ht:t.length≤1099511627776):
  Jt C QG [.s s,.s t] H fun v H'=>v= .i .i64 (Jhn s t)∧QA H H':=by
 unfold Jt QG;obtain ⟨v1,H1,k1,p1⟩:=hL s H (by omega)
 obtain ⟨v2,H2,k2,p2⟩:=hL t H1 (by omega)
 have e1:=p1.1;have e2:=e1.trans p2.1;unfold Jhn;cases hn:JB s with
 | none=>
  obtain ⟨o1,rfl,ho1⟩:=p1.sh;obtain ⟨o2,rfl,ho2⟩:=p2.sh;rw [hn] at k1;simp -implicitDefEqProofs only [bU,Jc,reduceCtorEq,Ja,Jb,bT,k1,k2,Option.isSome_none,Jr,rsC,rsV,Js];exact .of e2
 | some a=>
  rw [hn] at p1;obtain ⟨-,o1,rfl,hm1,-⟩:=p1;cases hm:JB t with
  | none=>
   obtain ⟨o2,rfl,ho2⟩:=p2.sh;rw [hm] at k2;simp -implicitDefEqProofs only [bU,Jc,reduceCtorEq,Ja,Jb,bT,k1,k2,Option.isSome_none,Jr,rsC,rsV,Js];exact .of e2
  | some b=>
   rw [hm] at p2;obtain ⟨he,o2,rfl,hm2,-⟩:=p2;have hS1:=hm1.sl.ext he;have hS2:=hm2.sl;obtain ⟨l1,l2⟩:=hS1.len;obtain ⟨l3,l4⟩:=hS2.len;rw [List.length_map] at l1 l3;have c1:=We hn;have c2:=We hm;simp -implicitDefEqProofs only [bU,Jc,reduceCtorEq,Ja,Jb,bT,k1,k2]
   refine Jl (fun n e M=> ∃ (k:Nat) (L:List Lv) (g:Nat),k≤a.length∧k≤b.length∧n=a.length-k∧(JbH a).take k=(JbH b).take k∧look e 5=o1∧look e 7=o2∧look e 9= .i .i64 ((k+1:Nat):Int)∧M=⟨L,g,H2⟩) ?_ (n:=a.length)
    ⟨0,_,_,by omega,by omega,by omega,rfl,rfl,rfl,rfl,rfl⟩
   clear k1 k2;rintro n e M ⟨k,L,g,ha,hb,rfl,hk,q5,q7,q9,rfl⟩;by_cases h1:((k+1:Nat):Int)≤a.length
   ·by_cases h2:((k+1:Nat):Int)≤b.length
    ·have b1:a.length- (k+1) < a.length-k:=by omega
     have b2:k+1≤a.length:=by omega
     have b3:k+1≤b.length:=by omega
     have w1:IntKind.i64.wrap ((a.length:Int)- ((k+1:Nat):Int))=((a.length-1-k:Nat):Int):=by rw [w64 (by omega) (by omega)];omega
     have w2:IntKind.i64.wrap ((b.length:Int)- ((k+1:Nat):Int))=((b.length-1-k:Nat):Int):=by rw [w64 (by omega) (by omega)];omega
     have w3:IntKind.i64.wrap (((k+1:Nat):Int)+1)=((k+1+1:Nat):Int):=by rw [w64 (by omega) (by omega)];rfl
     have g1:(a.map AV.s).getD (a.length-1-k) .u= .s (a[a.length-1-k]'(by omega)):=by simp [List.getD,show a.length-1-k < a.length by omega]
     have g2:(b.map AV.s).getD (b.length-1-k) .u= .s (b[b.length-1-k]'(by omega)):=by simp [List.getD,show b.length-1-k < b.length by omega]
     have i1:=fun (L:List Lv) (g:Nat)=>hS1.ia1 (j:=(a.length-1-k:Nat)) (v:= .s (a[a.length-1-k]'(by omega))) (by omega) (by rw [List.length_map];omega) (by rw [Jj,g1];rfl) L g
     have i2:=fun (L:List Lv) (g:Nat)=>hS2.ia1 (j:=(b.length-1-k:Nat)) (v:= .s (b[b.length-1-k]'(by omega))) (by omega) (by rw [List.length_map];omega) (by rw [Jj,g2];rfl) L g
     rw [Jj] at i1 i2;obtain ⟨z1,z2,-⟩:=i1 [] 0;obtain ⟨z3,z4,-⟩:=i2 [] 0;have hl1:=c1.2.2.2.1 _ (List.getElem_mem (show a.length-1-k < a.length by omega))
     have hl2:=c2.2.2.2.1 _ (List.getElem_mem (show b.length-1-k < b.length by omega))
     have f1:=hF (a[a.length-1-k]'(by omega)) H2 (by omega)
     have f2:=hF (b[b.length-1-k]'(by omega)) H2 (by omega)
     have f3:=hO (Zz (a[a.length-1-k]'(by omega))) (Zz (b[b.length-1-k]'(by omega))) H2
     have hat:=JlW (k:=k) (a:=a) (b:=b) (by omega) (by omega) hk
     have hst:=JhM (k:=k) (a:=a) (b:=b) (by omega) (by omega) hk
     generalize hc:Lib.compareBytes (Zz (a[a.length-1-k]'(by omega))) (Zz (b[b.length-1-k]'(by omega)))=c at f3 hat hst
     by_cases hc0:c=0
     ·subst hc0
      simp -implicitDefEqProofs only [bU,Jc,Ja,bT,bV,Ja,Qs,J6,q5,q7,q9,l1,l2,l3,l4,h1,h2,w1,w2,w3,z1,z2,z3,z4,i1,i2,Jj,f1,f2,f3];exact ⟨a.length- (k+1),b1,k+1,_,_,b2,b3,rfl,hst rfl,rfl,rfl⟩
     ·simp -implicitDefEqProofs only [bU,Jc,Ja,bT,bV,Ja,Qs,J6,q5,q7,q9,l1,l2,l3,l4,h1,h2,w1,w2,z1,z2,z3,z4,i1,i2,Jj,f1,f2,f3,hc0,Jr,rsC,rsV,Js]
      exact ⟨by rw [hat hc0],.of e2⟩
    ·have hend:=JdM ha hb hk (by omega)
     have h3: ¬ ((a.length:Int) < b.length):=by omega
     have h4:(b.length:Int) < a.length:=by omega
     rw [if_neg (by omega),if_pos (by omega)] at hend
     simp -implicitDefEqProofs only [bU,Jc,reduceCtorEq,bT,q5,q7,q9,l1,l2,l3,l4,h1,h2,h3,h4,Jr,rsC,rsV,Js];exact ⟨by rw [hend],.of e2⟩
   ·have hend:=JdM ha hb hk (by omega)
    by_cases h3:(a.length:Int) < b.length
    ·rw [if_pos (by omega)] at hend
     simp -implicitDefEqProofs only [bU,Jc,reduceCtorEq,bT,q5,q7,q9,l1,l2,l3,l4,h1,h3,Jr,rsC,rsV,Js];exact ⟨by rw [hend],.of e2⟩
    ·have h4: ¬ ((b.length:Int) < a.length):=by omega
     rw [if_neg (by omega),if_neg (by omega)] at hend
     simp -implicitDefEqProofs only [bU,Jc,reduceCtorEq,bT,q5,q7,q9,l1,l2,l3,l4,h1,h3,h4,Jr,rsC,rsV,Js];exact ⟨by rw [hend],.of e2⟩
end
theorem Jgd {fs d:List UInt8}: ∀ {ps:List (UInt8×List UInt8)},prs fs d=some ps→(∀ p,p∈ps→p.1=110→(Wz p.2).isSome=true∧p.2.length≤255)∧d=ps.flatMap Prod.snd∧ps.map Prod.fst=fs:=by
 induction fs generalizing d with
 | nil=>
  intro ps h;rw [prs] at h;by_cases hd:d=[]
  ·rw [if_pos hd] at h;cases h;exact ⟨by simp,by simp [hd],rfl⟩
  ·rw [if_neg hd] at h;cases h
 | cons f fs ih=>
  intro ps h;rw [prs] at h;cases hp:part f d with
  | none=>rw [hp] at h;cases h
  | some p=>
   rw [hp] at h;simp only at h;cases hr:prs fs (d.drop p.length) with
   | none=>rw [hr] at h;cases h
   | some r=>
    rw [hr] at h;cases h;obtain ⟨i1,i2,i3⟩:=ih hr
    have hpt:d=p++d.drop p.length:=by
     have hh:d.take p.length=p:=by
      rw [Z8] at hp;have a1:=Jc2 d
      have hpre: ∀ s:List UInt8,s.take (txt s).length=txt s:=fun s=>by
       cases s with
       | nil=>rfl
       | cons c r=>
        simp only [txt];split
        ·rfl
        ·simp <;>omega
      have hpre2: ∀ (n:Nat) (s:List UInt8),s.length≤n→s.take (JdC s).length=JdC s:=fun n=>by
       induction n with
       | zero=>
        intro s hs;have e0:s=[]:=List.eq_nil_of_length_eq_zero (by omega)
        subst e0;rw [Zl rfl];rfl
       | succ n ih=>
        intro s hs;by_cases ht:txt s=[]
        ·rw [Zl ht];rfl
        ·have h1:=List.length_pos_iff.2 ht
         rw [Ja8 ht,List.length_append,List.take_add,hpre,ih (s.drop (txt s).length) (by simp;omega)]
      repeat' split at hp
      all_goals first | (cases hp;done) | (injection hp with hp;subst hp;first | exact hpre d | exact hpre2 _ d (Nat.le_refl _) | exact List.take_length | (rw [List.length_take,Nat.min_eq_left a1]) | (rw [List.length_take,Nat.min_eq_left (List.length_pos_iff.2 (by assumption))]))
     conv=>lhs;rw [←List.take_append_drop p.length d,hh]
    refine ⟨fun q hq hq1=> ?_,by rw [List.flatMap_cons,←i2];exact hpt,by rw [List.map_cons,i3]⟩
    rcases List.mem_cons.1 hq with rfl | hq
    ·simp only at hq1
     subst hq1;rw [Z8,if_pos rfl] at hp;by_cases hn:Jbc d=0
     ·rw [if_pos hn] at hp;cases hp
     ·rw [if_neg hn] at hp
      injection hp with hp
      subst hp;refine ⟨JmY hn,?_⟩
      have: ∀ (n:Nat) (l:List UInt8) (i:Nat),l.length≤n→Je8 l i≤255:=fun n=>by
       induction n with
       | zero=>intro l i hl;rw [List.eq_nil_of_length_eq_zero (Nat.le_zero.1 hl),ZP];omega
       | succ n ih=>
        intro l i hl;cases l with
        | nil=>rw [ZP];omega
        | cons c r=>
         rw [Je8];simp only [List.length_cons] at hl;repeat' split
         ·omega
         ·omega
         ·omega
         ·exact ih _ _ (by simp;omega)
      have:=this _ d 0 (Nat.le_refl _);simp only [List.length_take];unfold Jbc;omega
    ·exact i1 q hq hq1
def Jab (p:UInt8×List UInt8):List UInt8:=if p.1=110 then Jq p.2 else p.2
theorem Jg1 {t:Int} {d:List UInt8} {ps:List (UInt8×List UInt8)} (h:chk t d=0) (hp:prs (JU t) d=some ps):XL t d=ps.flatMap Jab:=by
 unfold XL;rw [if_pos h,hp];rfl
theorem JeU {t:Int} {d:List UInt8} (h:chk t d≠0):XL t d=[]:=by unfold XL;rw [if_neg h]
theorem Jd4 {t:Int} {d:List UInt8} (h:chk t d=0): ∃ ps,prs (JU t) d=some ps∧(0≤t∧t≤65535)∧d.length≤65535:=by
 unfold chk at h;by_cases h1:t < 0∨65535 < t
 ·rw [if_pos h1] at h;cases h
 rw [if_neg h1] at h;cases hp:prs (JU t) d with
 | none=>rw [hp] at h;simp at h
 | some ps=>
  rw [hp] at h;simp only [Option.isNone_some,Bool.false_eq_true,or_false] at h;by_cases h2:65535 < d.length
  ·rw [if_pos h2] at h;cases h
  ·exact ⟨ps,rfl,by omega,by omega⟩
def ovr (b:List UInt8) (i j:Nat) (s:List UInt8):List UInt8:=b.take i++s++b.drop j
def Jj7 (d:List UInt8) (b:List UInt8) (sp:Nat×Nat):List UInt8:=ovr b sp.1 sp.2 (Zz ((d.drop sp.1).take (sp.2-sp.1)))
theorem Jhh {p:UInt8×List UInt8} (h:p.1=110→(Wz p.2).isSome=true∧p.2.length≤255):Jab p=(if p.1=110 then Zz p.2 else p.2)∧(Jab p).length=p.2.length:=by
 unfold Jab;by_cases h1:p.1=110
 ·obtain ⟨h2,h3⟩:=h h1
  have hn: ∃ ls,JB p.2=some ls:=by
   unfold JB;rw [if_neg (by omega)]
   exact Option.isSome_iff_exists.1 h2
  obtain ⟨ls,hn⟩:=hn;have e:Jq p.2=Zz p.2:=by unfold Jq;rw [hn];rfl
  rw [if_pos h1,if_pos h1,e];exact ⟨rfl,by simp [Zz]⟩
 ·rw [if_neg h1,if_neg h1];exact ⟨rfl,rfl⟩
theorem JfM {d:List UInt8}: ∀ (ps:List (UInt8×List UInt8)) (pre0 pre:List UInt8) (k:Nat),(∀ p,p∈ps→p.1=110→(Wz p.2).isSome=true∧p.2.length≤255)→pre0.length=k→pre.length=k→d=pre0++ps.flatMap Prod.snd→
  (spans ps k).foldl (Jj7 d) (pre++ps.flatMap Prod.snd)=pre++ps.flatMap Jab
 | [],pre0,pre,k,_,_,_,_=>by simp [spans]
 | (f,p)::ps,pre0,pre,k,h,h0,h1,hd=>by
  obtain ⟨e1,e2⟩:=Jhh (p:=(f,p)) (h (f,p) (by simp))
  simp only at e1 e2;have ih:=JfM (d:=d) ps (pre0++p) (pre++Jab (f,p)) (k+p.length) (fun q hq=>h q (by simp [hq])) (by simp [h0]) (by simp [h1,e2]) (by rw [hd];simp)
  simp only [List.flatMap_cons] at hd ⊢;by_cases hf:f=110
  ·subst hf
   simp only [spans,if_true,List.foldl_cons] at ih ⊢
   have:Jj7 d (pre++(p++ps.flatMap Prod.snd)) (k,k+p.length)=pre++Jab (110,p)++ps.flatMap Prod.snd:=by
    rw [e1];simp only [Jj7,ovr,if_true];rw [show k+p.length-k=p.length by omega]
    have a1:(pre++(p++ps.flatMap Prod.snd)).take k=pre:=by rw [←h1];exact List.take_left
    have a2:(pre++(p++ps.flatMap Prod.snd)).drop (k+p.length)=ps.flatMap Prod.snd:=by
     rw [←List.append_assoc];exact List.drop_left' (by simp [h1])
    have a3:(d.drop k).take p.length=p:=by
     rw [hd,List.drop_left' h0];exact List.take_left
    rw [a1,a2,a3]
   rw [this,ih,List.append_assoc]
  ·simp only [spans,if_neg hf] at ih ⊢
   rw [e1,if_neg hf] at ih ⊢;rw [←List.append_assoc,ih,List.append_assoc]
theorem Jii {t:Int} {d:List UInt8} (h:chk t d=0):((((prs (JU t) d).map fun r=>spans r 0).getD []).foldl (Jj7 d) d)=XL t d:=by
 obtain ⟨ps,hp,-,-⟩:=Jd4 h;obtain ⟨h1,h2,-⟩:=Jgd hp;rw [Jg1 h hp,hp];have:=JfM (d:=d) ps [] [] 0 h1 rfl rfl (by simpa using h2)
 simp only [List.nil_append] at this;simp only [Option.map_some,Option.getD_some];rw [←this];conv=>rhs;rw [←h2]
theorem Jcw {ps:List (UInt8×List UInt8)} (h: ∀ p,p∈ps→p.1=110→(Wz p.2).isSome=true∧p.2.length≤255):(ps.flatMap Jab).length=(ps.flatMap Prod.snd).length:=by
 induction ps with
 | nil=>rfl
 | cons p ps ih=>
  have h1:=(Jhh (h p (by simp))).2
  have h2:=ih fun q hq=>h q (by simp [hq])
  simp only [List.flatMap_cons,List.length_append];omega
theorem JkM (t:Int) (d:List UInt8):(XL t d).length≤d.length:=by
 by_cases h:chk t d=0
 ·obtain ⟨ps,hp,-,-⟩:=Jd4 h
  obtain ⟨h1,h2,-⟩:=Jgd hp;rw [Jg1 h hp,Jcw h1,←h2];exact Nat.le_refl _
 ·rw [JeU h];simp
def Q8 {κ β:Type} [DecidableEq κ] (l:List (κ×β)) (k:κ):Option β:=(l.find? fun e=>decide (e.1=k)).map Prod.snd
def Z4 {κ β:Type} [DecidableEq κ]:List (κ×β)→κ→β→List (κ×β)
 | [],k,v=>[(k,v)]
 | e::r,k,v=>if e.1=k then (k,v)::r else e::Z4 r k v
section
variable {κ β:Type} [DecidableEq κ]
theorem Jef (k:κ):Q8 ([]:List (κ×β)) k=none:=rfl
theorem ZW (e:κ×β) (r:List (κ×β)) (k:κ):Q8 (e::r) k=if e.1=k then some e.2 else Q8 r k:=by
 unfold Q8;by_cases h:e.1=k<;>simp [h]
theorem JaI (l:List (κ×β)) (k k':κ) (v:β):Q8 (Z4 l k v) k'=if k=k' then some v else Q8 l k':=by
 induction l with
 | nil=>simp [Z4,ZW,Jef]
 | cons e r ih=>
  simp only [Z4];by_cases h:e.1=k
  ·rw [if_pos h,ZW,ZW]
   by_cases h2:k=k'
   ·simp [h2]
   ·rw [if_neg h2,if_neg h2,if_neg (by rw [h];exact h2)]
  ·rw [if_neg h,ZW,ZW,ih]
   by_cases h2:k=k'
   ·subst h2;simp [h]
   ·rw [if_neg h2,if_neg h2]
theorem JlL {l:List (κ×β)} {k:κ} {v:β} (h:Q8 l k=some v):(k,v)∈l:=by
 unfold Q8 at h;cases hf:l.find? fun e=>decide (e.1=k) with
 | none=>rw [hf] at h;cases h
 | some e=>
  rw [hf] at h;simp only [Option.map_some,Option.some.injEq] at h;have:=List.find?_some hf;simp only [decide_eq_true_eq] at this;have hm:=List.mem_of_find?_eq_some hf;obtain ⟨a,b⟩:=e;simp only at this h;subst this h;exact hm
theorem JjS {l:List (κ×β)} {k:κ}:Q8 l k=none↔ ∀ e,e∈l→e.1≠k:=by
 unfold Q8;rw [Option.map_eq_none_iff,List.find?_eq_none];simp
end
structure JrV (κ:Type) [DecidableEq κ] where
 ks:List Ck
 ek:κ→AV
 eq: ∀ a b,JW (ek a).cells (ek b).cells=decide (a=b)
 ok: ∀ (es:List (AV×AV)) (k:κ),(∀ e,e∈es→ ∃ a,e.1=ek a)→Jby ks es (ek k)
def kS:JrV (List UInt8) where
 ks:=[.s]
 ek:= .s
 eq a b:=by simp [AV.cells,JW,ZF]
 ok es k h:= .inl ⟨.s,rfl,rfl,fun e he=>by obtain ⟨a,ha⟩:=h e he;rw [ha];rfl⟩
def kK:JrV (List UInt8×Int) where
 ks:=[.s,.i .i64]
 ek k:= .ag [.s k.1,.i .i64 k.2]
 eq a b:=by simp [AV.cells,JW,ZF,Prod.ext_iff]
 ok es k h:= .inr ⟨by simp,⟨_,rfl,rfl⟩,fun e he=>by obtain ⟨a,ha⟩:=h e he;exact ⟨_,ha,rfl⟩⟩
section
variable {κ β:Type} [DecidableEq κ] {E:JrV κ} {ev:β→AV} {H:AH} {id:Nat} {l:List (κ×β)}
def JaM (E:JrV κ) (ev:β→AV) (l:List (κ×β)):List (AV×AV):=l.map fun e=>(E.ek e.1,ev e.2)
theorem Jnh (k:κ):Qf (JaM E ev l) (E.ek k)=(Q8 l k).map ev:=by
 induction l with
 | nil=>rfl
 | cons e r ih=>
  rw [ZW];simp only [JaM,List.map_cons,Qf,E.eq];by_cases h:e.1=k
  ·rw [if_pos (by simpa using h.symm),if_pos h];rfl
  ·rw [if_neg (by simpa using fun h2=>h h2.symm),if_neg h];exact ih
theorem Jqt (k:κ) (v:β):Jax (JaM E ev l) (E.ek k) (ev v)=JaM E ev (Z4 l k v):=by
 induction l with
 | nil=>rfl
 | cons e r ih=>
  simp only [JaM,List.map_cons,Jax,E.eq,Z4];by_cases h:e.1=k
  ·rw [if_pos (by simpa using h.symm),if_pos h];rfl
  ·rw [if_neg (by simpa using fun h2=>h h2.symm),if_neg h]
   show _::Jax (JaM E ev r) (E.ek k) (ev v)=_
   rw [ih];rfl
theorem Jng: ∀ e,e∈JaM E ev l→ ∃ a,e.1=E.ek a:=fun e he=>by
 obtain ⟨x,-,rfl⟩:=List.mem_map.1 he;exact ⟨x.1,rfl⟩
theorem JkV {rw:Bool} {es:List (AV×AV)} (h:H.at' id= .map rw es):Yq H (.mp id)=es:=by simp only [Yq,h]
theorem Jqs {rw:Bool} (h:H.at' id= .map rw (JaM E ev l)) (k:κ):JfI H (.mp id)∧Jby E.ks (Yq H (.mp id)) (E.ek k)∧Qf (Yq H (.mp id)) (E.ek k)=(Q8 l k).map ev:=by
 refine ⟨by simp only [JfI,h],?_,?_⟩
 ·rw [JkV h];exact E.ok _ _ Jng
 ·rw [JkV h];exact Jnh k
theorem JtA (h:H.at' id= .map true (JaM E ev l)) (k:κ) (v:β):Jfp H (.mp id)∧Jby E.ks (Yq H (.mp id)) (E.ek k)∧ ∀ (L:List Lv) (g:Nat),Jfd ⟨L,g,H⟩ (Jax (Yq H (.mp id)) (E.ek k) (ev v)) (.mp id)=⟨L,g,H.set id (.map true (JaM E ev (Z4 l k v)))⟩:=by
 refine ⟨by simp only [Jfp,h],(Jqs h k).2.1,fun L g=> ?_⟩
 simp only [JkV h,Jqt,Jfd]
end
def JjD (C:Tab) (f:Nat):Prop:= ∀ (t:Int) (d:List UInt8) (H:AH),d.length≤1099511627776→C f [.i .i64 t,.s d] H=some (.i .i64 (chk t d),H)
def Jc9 (C:Tab) (f:Nat):Prop:= ∀ (t:Int) (d:List UInt8) (H:AH),JR H→d.length≤1099511627776→C f [.i .i64 t,.s d] H=some (.i .i64 (chk t d),H)
def Jnu (C:Tab) (f:Nat):Prop:= ∀ (t:Int) (d:List UInt8) (H:AH),d.length≤1099511627776→C f [.i .i64 t,.s d] H=some (.s (XL t d),H)
def Jk4 (C:Tab) (f:Nat):Prop:= ∀ (t:Int) (d:List UInt8) (H:AH),JR H→d.length≤1099511627776→C f [.i .i64 t,.s d] H=some (.s (XL t d),H)
def Jqz (t:Int) (a b:List UInt8):Int:=if chk t a≠0∨chk t b≠0 then 0 else Lib.compareBytes (XL t a) (XL t b)
def JkX (C:Tab) (f:Nat):Prop:= ∀ (t:Int) (a b:List UInt8) (H:AH),JR H→a.length≤1099511627776→b.length≤1099511627776→C f [.i .i64 t,.s a,.s b] H=some (.i .i64 (Jqz t a b),H)
theorem JbW (t:Int):(JU t).length≤30:=by
 unfold JU;repeat' split
 all_goals decide
theorem JfU: ∀ (ps:List (UInt8×List UInt8)) (k:Nat) (sp:Nat×Nat),sp∈spans ps k→k≤sp.1∧sp.1≤sp.2∧sp.2≤k+(ps.flatMap Prod.snd).length
 | [],_,_,h=>by simp [spans] at h
 | (f,p)::ps,k,sp,h=>by
  simp only [List.flatMap_cons,List.length_append];simp only [spans] at h;by_cases hf:f=110
  ·rw [if_pos hf] at h
   rcases List.mem_cons.1 h with rfl | h
   ·simp only;omega
   ·have:=JfU ps _ sp h;omega
  ·rw [if_neg hf] at h
   have:=JfU ps _ sp h;omega
theorem JeQ: ∀ (ps:List (UInt8×List UInt8)) (k:Nat),(spans ps k).length≤ps.length
 | [],_=>by simp [spans]
 | (f,p)::ps,k=>by
  simp only [spans];split
  ·simpa using JeQ ps _
  ·have:=JeQ ps (k+p.length);simp;omega
theorem JmV {d b:List UInt8} {sp:Nat×Nat} (h1:sp.1≤sp.2) (h2:sp.2≤d.length) (hb:b.length=d.length):(Jj7 d b sp).length=d.length:=by
 simp only [Jj7,ovr,Zz,List.length_append,List.length_take,List.length_map,List.length_drop];omega
theorem JjZ {α β:Type} (f:β→α→β) (b:β) (l:List α) {i:Nat} (h:i < l.length):(l.take (i+1)).foldl f b=f ((l.take i).foldl f b) l[i]:=by
 rw [List.take_succ_eq_append_getElem h,List.foldl_append];rfl
theorem JtG {H:AH} {id lo hi:Nat} {l t:List UInt8} (h:H.at' id= .arr true 0 1 (XR l)) (h1:lo≤hi) (h2:hi≤l.length) (ht:t.length=hi-lo):slZ H 1 (.sl id 0 l.length)∧slC (lo:Int) (hi:Int) (.sl id 0 l.length)∧(∀ (L:List Lv) (g:Nat),cpC ⟨L,g,H⟩ 1 (.s t) (slV lo hi (.sl id 0 l.length)))∧
  ∃ H',(∀ (L:List Lv) (g:Nat),cpM ⟨L,g,H⟩ (.s t) (slV lo hi (.sl id 0 l.length))=⟨L,g,H'⟩)∧H'.at' id= .arr true 0 1 (XR (ovr l lo hi t))∧H'.n=H.n∧ ∀ j,j≠id→H'.at' j=H.at' j:=by
 have hl:=JaP l;refine ⟨by simp only [slZ,h],⟨by omega,by omega,by omega⟩,fun L g=> ?_,?_⟩
 ·simp only [slV,cpC,h,Nat.zero_add]
  exact ⟨rfl,trivial,trivial,.inl trivial,by omega⟩
 ·by_cases h0:hi-lo=0
  ·refine ⟨H,fun L g=> ?_,?_,rfl,fun _ _=>rfl⟩
   ·simp only [slV,cpM,h,Nat.zero_add,cpN,QE]
    rw [if_pos (by omega)]
   ·have e1:t=[]:=List.eq_nil_of_length_eq_zero (by omega)
    have e2:lo=hi:=by omega
    subst e1 e2;rw [h];simp [ovr]
  ·have hm:min (XR t).length (hi-lo)=t.length:=by rw [JaP];omega
   refine ⟨H.set id (.arr true 0 1 (XR (ovr l lo hi t))),fun L g=> ?_,Z9,rfl,fun j hj=>XQ hj⟩
   simp only [slV,cpM,h,Nat.zero_add,cpN,QE];rw [if_neg (by rw [hm];omega),hm,show (XR t).take t.length=XR t by rw [←JaP t,List.take_length],if_pos trivial]
   unfold ovr;rw [JiD,JiD,JmC,Jmz,show lo+t.length=hi by omega]
section
variable {C:Tab}
theorem JnY {t:Int} {d:List UInt8} {H:AH} (hK:JjD C WF) (hFo:JiI C X4) (hP:Jgl C XC) (hN:Jbk C Qn) (hd:d.length≤1099511627776):
  Jt C Xy [.i .i64 t,.s d] H fun v H'=>v= .s (XL t d)∧QA H H':=by
 unfold Jt Xy;have k1:=hK t d H hd;by_cases hc:chk t d=0
 ·obtain ⟨ps,hps,ht,hdl⟩:=Jd4 hc
  obtain ⟨q1,q2,q3⟩:=Jgd hps;have k2:=hFo t H;obtain ⟨v,H1,k3,e1,k4⟩:=hP (JU t) d H (by have:=JbW t;omega) hd
  rw [hps] at k4;obtain ⟨o,rfl,hm,-⟩:=k4;rw [hc] at k1;obtain ⟨l1,l2⟩:=hm.sl.len;rw [List.length_map] at l1;rw [Jg1 hc hps];have hpl:ps.length≤30:=by rw [←List.length_map (f:=Prod.fst),q3];exact JbW t
  have hfl: ∀ i,((ps.take i).flatMap Jab).length≤65535:=fun i=>by
   have a:=Jcw (ps:=ps) q1;rw [←q2] at a;have b:ps.flatMap Jab=(ps.take i).flatMap Jab++(ps.drop i).flatMap Jab:=by rw [←List.flatMap_append,List.take_append_drop]
   rw [b,List.length_append] at a;omega
  simp -implicitDefEqProofs only [bU,Jc,reduceCtorEq,Ja,Jb,bT,k1,k2,k3]
  refine Jl (fun n e M=> ∃ (i:Nat) (L:List Lv) (g:Nat),i≤ps.length∧n=ps.length-i∧look e 5= .s (JU t)∧look e 6=o∧look e 8= .s ((ps.take i).flatMap Jab)∧look e 9= .i .i64 i∧M=⟨L,g,H1⟩) ?_ (n:=ps.length)
   ⟨0,_,_,by omega,by omega,rfl,rfl,rfl,rfl,rfl⟩
  clear k1 k2 k3;rintro n e M ⟨i,L,g,hi,rfl,w5,w6,w8,w9,rfl⟩;by_cases h1:(i:Int) < ps.length
  ·have hil:i < ps.length:=by omega
   have hfi:(JU t).getD i 0=ps[i].1:=by
    rw [←q3];simp [List.getD,hil]
   have hfl2:(i:Int) < (JU t).length:=by rw [←q3,List.length_map];omega
   have hg:(ps.map fun p=>AV.s p.2).getD i .u= .s ps[i].2:=by simp [List.getD,hil]
   have ia:=fun (L:List Lv) (g:Nat)=>hm.sl.ia1 (j:=i) (v:= .s ps[i].2) (by omega) (by rw [List.length_map];omega) (by rw [Jj,hg];rfl) L g
   rw [Jj] at ia;obtain ⟨z1,z2,-⟩:=ia [] 0;have w1:IntKind.i64.wrap ((i:Int)+1)=((i+1:Nat):Int):=by rw [w64 (by omega) (by omega)];rfl
   have hsnoc:(ps.take (i+1)).flatMap Jab=(ps.take i).flatMap Jab++Jab ps[i]:=by
    rw [List.take_succ_eq_append_getElem hil,List.flatMap_append];simp
   have hp0:(0:Int)≤i:=by omega
   have hl1:=hfl i;have hl2:=hfl (i+1);rw [hsnoc,List.length_append] at hl2;have bd:ps.length- (i+1) < ps.length-i:=by omega
   by_cases h110:ps[i].1=110
   ·have e110:(((ps[i].1).toNat:Nat):Int)=110:=by rw [h110];rfl
    have hlab:=q1 ps[i] (List.getElem_mem hil) h110;have kf:=hN ps[i].2 H1 (by omega)
    have hfp:Jab ps[i]=Jq ps[i].2:=by unfold Jab;rw [if_pos h110]
    rw [hfp] at hl2 hsnoc;have hsum:((ps.take i).flatMap Jab).length+(Jq ps[i].2).length≤9223372036854775807:=by omega
    simp -implicitDefEqProofs only [bU,Jc,bT,w5,w6,w8,w9,l1,l2,h1,hp0,hfl2,hfi,e110,Jj,z1,z2,ia,w1,kf,hsum];exact ⟨_,bd,i+1,_,_,hil,rfl,hsnoc.symm▸rfl,rfl,rfl⟩
   ·have e110: ¬ (((ps[i].1).toNat:Nat):Int)=110:=fun hh=>h110 (UInt8.toNat_inj.1 (Int.ofNat_inj.1 hh))
    have hfp:Jab ps[i]=ps[i].2:=by unfold Jab;rw [if_neg h110]
    rw [hfp] at hl2 hsnoc;have hsum:((ps.take i).flatMap Jab).length+(ps[i].2).length≤9223372036854775807:=by omega
    simp -implicitDefEqProofs only [bU,Jc,bT,w5,w6,w8,w9,l1,l2,h1,hp0,hfl2,hfi,e110,Jj,z1,z2,ia,w1,hsum];exact ⟨_,bd,i+1,_,_,hil,rfl,hsnoc.symm▸rfl,rfl,rfl⟩
  ·have hil:i=ps.length:=by omega
   subst hil;rw [List.take_length] at w8;simp -implicitDefEqProofs only [bU,Jc,reduceCtorEq,bT,w5,w6,w8,w9,l1,l2,h1,Jr,rsC,rsV,Js];exact .of e1
 ·rw [JeU hc]
  simp -implicitDefEqProofs only [bU,Jc,reduceCtorEq,Ja,bT,k1,hc,Jr,rsC,rsV,Js];exact JA H
theorem Jnv {t:Int} {d:List UInt8} {H:AH} (hK:Jc9 C Qg) (hD:JbQ C Ya) (hL:Ja1 C Qc) (hF:JR H) (hd:d.length≤1099511627776):
  Jt C Xd [.i .i64 t,.s d] H fun v H'=>v= .s (XL t d)∧QA H H':=by
 unfold Jt Xd;have k1:=hK t d H hF hd;by_cases hc:chk t d=0
 ·obtain ⟨ps,hps,ht,hdl⟩:=Jd4 hc
  obtain ⟨q1,q2,q3⟩:=Jgd hps;have hnm:(Jjm t d).getD []=spans ps 0:=by unfold Jjm;rw [hps];rfl
  have hbr:(H.new (.arr true 0 1 (XR d))).at' H.n= .arr true 0 1 (XR d):=QD;obtain ⟨o,H2,k2,e2,hm,hid⟩:=hD t d (H.new (.arr true 0 1 (XR d))) (hF.ext (.new _ _)) hd;rw [if_pos hc,hnm] at hm;rw [hc] at k1
  have hsp: ∀ sp,sp∈spans ps 0→sp.1≤sp.2∧sp.2≤d.length:=fun sp h=>by
   have:=JfU ps 0 sp h;rw [←q2] at this;omega
  have hfd:=Jii hc;rw [hps] at hfd;simp only [Option.map_some,Option.getD_some] at hfd;rw [←hfd];have hcn:(spans ps 0).length≤30:=Nat.le_trans (JeQ ps 0) (by rw [←List.length_map (f:=Prod.fst),q3];exact JbW t)
  generalize spans ps 0=sps at hm hsp hcn ⊢;obtain ⟨l1,l2⟩:=Sx.len hm.sl;have hbr2:H2.at' H.n= .arr true 0 1 (XR d):=by rw [e2.at' _ (by simp)];exact hbr
  have hn2:H.n < H2.n:=by have:=e2.n;simp at this;omega
  simp -implicitDefEqProofs only [bU,Jc,reduceCtorEq,Ja,bT,k1,k2,l1,l2]
  refine Jl (fun n e M=> ∃ (i:Nat) (L:List Lv) (g:Nat) (H':AH),i≤sps.length∧n=sps.length-i∧look e 1= .s d∧look e 5= .sl H.n 0 d.length∧look e 16=o∧look e 17= .i .i64 sps.length∧look e 18= .i .i64 i∧M=⟨L,g,H'⟩∧
    H'.at' H.n= .arr true 0 1 (XR ((sps.take i).foldl (Jj7 d) d))∧((sps.take i).foldl (Jj7 d) d).length=d.length∧H'.n=H2.n∧ ∀ j,j≠H.n→H'.at' j=H2.at' j) ?_ (n:=sps.length)
   ⟨0,_,_,H2,by omega,by omega,rfl,rfl,rfl,rfl,rfl,rfl,hbr2,rfl,rfl,fun _ _=>rfl⟩
  clear k1 k2;rintro n e M ⟨i,L,g,H',hi,rfl,w1,w5,w16,w17,w18,rfl,hb,hbl,hn',hat⟩;have hm':Mx H' eSp o sps:=hm.fr (Nat.le_of_eq hn'.symm) fun j hj=>hat j fun e=>by subst e;have:=hid _ hj;simp at this;omega
  by_cases h1:(i:Int) < sps.length
  ·have hil:i < sps.length:=by omega
   obtain ⟨z1,z2,z3,z4⟩:=Sx.at' hm'.sl hil;have hs:=hsp _ (List.getElem_mem hil);rw [show eSp.z=2 from rfl] at z1 z3 z4
   have hlc:JlE (.sl H.n 0 d.length):=trivial;rw [show eSp.v sps[i]=AV.ag [.i .i64 (sps[i].1:Nat),.i .i64 (sps[i].2:Nat)] from rfl] at z4
   have hstep:=JjZ (Jj7 d) d sps hil;have hlen2:((sps.take (i+1)).foldl (Jj7 d) d).length=d.length:=by rw [hstep];exact JmV hs.1 hs.2 hbl
   generalize hB:(sps.take i).foldl (Jj7 d) d=B at hb hbl hstep;have htl:(Zz ((d.drop sps[i].1).take (sps[i].2-sps[i].1))).length=sps[i].2-sps[i].1:=by simp only [Zz,List.length_map,List.length_take,List.length_drop];omega
   obtain ⟨c1,c2,c3,H3,c4,c5,c6,c7⟩:=JtG (t:=Zz ((d.drop sps[i].1).take (sps[i].2-sps[i].1))) hb hs.1 (by omega) htl
   rw [hbl] at c1 c2 c3 c4;have kf:=hL ((d.drop sps[i].1).take (sps[i].2-sps[i].1)) H' (by simp only [List.length_take,List.length_drop];omega)
   have wn:IntKind.i64.wrap ((i:Int)+1)=((i+1:Nat):Int):=by rw [w64 (by omega) (by omega)];rfl
   have p1:(0:Int)≤(sps[i].1:Nat):=by omega
   have p2:((sps[i].1:Nat):Int)≤(sps[i].2:Nat):=by omega
   have p3:((sps[i].2:Nat):Int)≤d.length:=by omega
   have bd:sps.length- (i+1) < sps.length-i:=by omega
   simp -implicitDefEqProofs only [bU,Jc,Ja,bT,bV,Ja,Qs,J6,JkT,Mem.hasL,Mem.getL,Qx,Jhp,Option.isSome_some,Option.getD_some,List.getD_cons_zero,Wt,Wu,JF,partOf,w1,w5,w16,w17,w18,h1,z1,z2,z3,z4,Jj,kf,c1,c2,c3,c4,p1,p2,p3,wn,hlc,List.length_cons,List.length_nil,List.drop_succ_cons,List.drop_nil,List.append_nil,List.nil_append,List.getD_cons_succ,Jhx];exact ⟨_,bd,i+1,_,_,H3,hil,rfl,rfl,rfl,by rw [hstep];exact c5,hlen2,c6.trans hn',fun j hj=>(c7 j hj).trans (hat j hj)⟩
  ·have hil:i=sps.length:=by omega
   subst hil;rw [List.take_length] at hb
   have hbb:Byt H' (.sl H.n 0 d.length) (sps.foldl (Jj7 d) d):=by
    have:=Sl.sl (H:=H') (z:=1) (id:=H.n) (ix:=0) (els:=XR (sps.foldl (Jj7 d) d)) (by omega) hb (by simp) (by rw [List.drop_zero,List.take_length]) (by simp)
    rwa [JaP,←List.take_length (l:=sps),hbl,List.take_length] at this
   obtain ⟨c1,c2⟩:=hbb.cbs;simp -implicitDefEqProofs only [bU,Jc,reduceCtorEq,bT,w1,w5,w16,w17,w18,h1,c1,c2,Jr,rsC,rsV,Js];have e1:=(Ext.new H (.arr true 0 1 (XR d))).trans e2;exact ⟨by have:=e1.n;omega,fun j hj=>by rw [hat j (by omega)];exact e1.at' j hj⟩
 ·rw [JeU hc]
  simp -implicitDefEqProofs only [bU,Jc,reduceCtorEq,Ja,bT,k1,hc,Jr,rsC,rsV,Js];exact JA H
theorem JrP {t:Int} {a b:List UInt8} {H:AH} (hK:Jc9 C Qg) (hD:Jk4 C Wh) (hO:JjT C XN) (hF:JR H) (ha:a.length≤1099511627776) (hb:b.length≤1099511627776):
  Jt C QP [.i .i64 t,.s a,.s b] H fun v H'=>v= .i .i64 (Jqz t a b)∧QA H H':=by
 unfold Jt QP;have k1:=hK t a H hF ha;have k2:=hK t b H hF hb;have k3:=hD t a H hF ha;have k4:=hD t b H hF hb;have k5:=hO (XL t a) (XL t b) H;have hk:=JA H;unfold Jqz;by_cases h1:chk t a=0
 ·by_cases h2:chk t b=0
  ·rw [h1] at k1
   rw [h2] at k2;simp -implicitDefEqProofs only [bU,Jc,reduceCtorEq,Ja,bT,k1,k2,k3,k4,k5,Jr,rsC,rsV,Js];exact ⟨by rw [if_neg (by simp [h1,h2])],hk⟩
  ·rw [h1] at k1
   simp -implicitDefEqProofs only [bU,Jc,reduceCtorEq,Ja,bT,k1,k2,h2,Jr,rsC,rsV,Js];exact ⟨by rw [if_pos (.inr h2)],hk⟩
 ·simp -implicitDefEqProofs only [bU,Jc,reduceCtorEq,Ja,bT,k1,h1,Jr,rsC,rsV,Js]
  exact ⟨by rw [if_pos (.inl h1)],hk⟩
end
def mrg {α:Type} (lt:α→α→Bool):List α→List α→List α
 | [],b=>b
 | x::a,[]=>x::a
 | x::a,y::b=>if lt x y=true then x::mrg lt a (y::b) else y::mrg lt (x::a) b
termination_by a b=>a.length+b.length
section
variable {α:Type} {lt:α→α→Bool}
theorem JlF (a:List α):mrg lt a []=a:=by cases a<;>simp [mrg]
theorem Jcg: ∀ (n:Nat) (a b:List α),a.length+b.length≤n→(mrg lt a b).Perm (a++b)
 | _,[],b,_=>by simp [mrg]
 | _,x::a,[],_=>by simp [mrg]
 | 0,_::_,_::_,h=>by simp at h
 | n+1,x::a,y::b,h=>by
  simp only [List.length_cons] at h;rw [mrg];split
  ·exact (Jcg n a (y::b) (by simp;omega)).cons x
  ·refine ((Jcg n (x::a) b (by simp;omega)).cons y).trans ?_
   exact List.perm_middle.symm
theorem Jic (hO:Jb0 lt): ∀ (n:Nat) (a b:List α),a.length+b.length≤n→Srt lt a→Srt lt b→Srt lt (mrg lt a b)
 | _,[],b,_,_,h=>by simpa [mrg] using h
 | _,x::a,[],_,h,_=>by simpa [mrg] using h
 | 0,_::_,_::_,h,_,_=>by simp at h
 | n+1,x::a,y::b,h,ha,hb=>by
  simp only [List.length_cons] at h;obtain ⟨a1,a2⟩:=List.pairwise_cons.1 ha;obtain ⟨b1,b2⟩:=List.pairwise_cons.1 hb;rw [mrg];split
  ·rename_i hxy
   refine List.pairwise_cons.2 ⟨fun z hz=> ?_,Jic hO n a (y::b) (by simp;omega) a2 hb⟩
   rcases List.mem_append.1 ((Jcg _ a (y::b) (Nat.le_refl _)).mem_iff.1 hz) with hz | hz
   ·exact a1 z hz
   ·rcases List.mem_cons.1 hz with rfl | hz
    ·exact hO.asy _ _ hxy
    ·exact hO.tr _ _ _ (hO.asy _ _ hxy) (b1 z hz)
  ·rename_i hxy
   have hxy:lt x y=false:=by simpa using hxy
   refine List.pairwise_cons.2 ⟨fun z hz=> ?_,Jic hO n (x::a) b (by simp;omega) ha b2⟩
   rcases List.mem_append.1 ((Jcg _ (x::a) b (Nat.le_refl _)).mem_iff.1 hz) with hz | hz
   ·rcases List.mem_cons.1 hz with rfl | hz
    ·exact hxy
    ·exact hO.tr _ _ _ hxy (a1 z hz)
   ·exact b1 z hz
end
def JqV (x y:Zi):Bool:=if x.f≠y.f then decide (Jhn x.f y.f < 0) else if x.r.t≠y.r.t then decide (x.r.t < y.r.t) else Op.bytesLess x.g y.g
theorem Jh6 (a b:List UInt8):Op.bytesLess a b=decide (Lib.compareBytes a b < 0):=by
 rw [JiE];by_cases h:Op.bytesLess a b=true
 ·rw [if_pos h,h];decide
 ·rw [if_neg h]
  have:Op.bytesLess a b=false:=by simpa using h
  rw [this];by_cases e:a=b
  ·rw [if_pos e];decide
  ·rw [if_neg e];decide
theorem JmQ {x y:Zi} (hx: ∃ a,JB x.f=some a) (hy: ∃ a,JB y.f=some a) (fx:Jq x.f=x.f) (fy:Jq y.f=y.f):JqV x y=iLt x y:=by
 obtain ⟨a,ha⟩:=hx;obtain ⟨b,hb⟩:=hy;have hc:=Jiz ha hb;have h0:=Jhv ha hb;rw [fx,fy] at h0;unfold JqV iLt JdB Jdv;by_cases h:x.f=y.f
 ·have hz:JdI Lib.compareBytes (rkN x.f) (rkN y.f)=0:=by rw [←hc];exact h0.2 h
  rw [if_neg (by simpa using h)]
  by_cases ht:x.r.t=y.r.t
  ·have e:Jkg (rkN x.f,x.r.t) (rkN y.f,y.r.t)=0:=(Jag.eq _ _).2 (by rw [h,ht])
   rw [if_neg (by simpa using ht),if_neg (by simpa using e),Jh6]
  ·have e:Jkg (rkN x.f,x.r.t) (rkN y.f,y.r.t)=x.r.t-y.r.t:=by
    simp only [Jkg,Jdv];rw [if_neg (by simpa using hz)]
    rfl
   rw [if_pos ht,if_pos (by rw [e];omega),e]
   congr 1
   exact propext ⟨fun h=>by omega,fun h=>by omega⟩
 ·have hz:JdI Lib.compareBytes (rkN x.f) (rkN y.f) ≠0:=by rw [←hc];exact fun hh=>h (h0.1 hh)
  have e:Jkg (rkN x.f,x.r.t) (rkN y.f,y.r.t)=Jhn x.f y.f:=by
   simp only [Jkg,Jdv];rw [if_pos hz,hc]
  rw [if_pos h,if_pos (by rw [e,hc];exact hz),e]
theorem Jnd {a b:Qa} (ha: ∃ x,JB a.o=some x) (hb: ∃ x,JB b.o=some x):Jdk a b=(decide (Jhn a.o b.o < 0) || (decide (Jhn a.o b.o=0) &&decide (a.t < b.t))):=by
 obtain ⟨x,hx⟩:=ha;obtain ⟨y,hy⟩:=hb;unfold Jdk JdB Jkg Jdv;rw [←Jiz hx hy];by_cases h:Jhn a.o b.o=0
 ·rw [if_neg (by simpa using h),h]
  rw [Bool.eq_iff_iff];simp only [decide_eq_true_eq,Bool.or_eq_true,Bool.and_eq_true];show a.t-b.t < 0↔_
  constructor
  ·intro h2;exact .inr ⟨trivial,by omega⟩
  ·rintro (h2 | ⟨-,h2⟩)
   ·exact absurd h2 (by decide)
   ·omega
 ·rw [if_pos h]
  simp [h]
section
variable {L:List Zi}
theorem Z5 {i:Nat} (h:i < L.length):itZ L i=L[i]:=by simp [itZ,List.getD,h]
theorem Jh0 {i:Nat} (h:i < L.length):itZ L i∈L:=by rw [Z5 h];exact List.getElem_mem h
theorem JdS {i:Nat} (hi:i≤L.length):WN L i=true↔ ∃ j,j < i∧(itZ L j).k=(itZ L i).k∧(itZ L j).g=(itZ L i).g:=by
 unfold WN;rw [List.any_eq_true];constructor
 ·rintro ⟨y,hy,h⟩
  simp only [decide_eq_true_eq] at h;obtain ⟨j,hj,rfl⟩:=List.mem_iff_getElem.1 hy;rw [List.length_take] at hj;rw [List.getElem_take] at h;exact ⟨j,by omega,by rw [Z5 (by omega)];exact h⟩
 ·rintro ⟨j,hj,h⟩
  refine ⟨itZ L j,?_,by simpa using h⟩
  rw [Z5 (by omega)]
  exact List.mem_take_iff_getElem.2 ⟨j,by omega,rfl⟩
theorem Zy {i:Nat}:i∈Jn L↔i < L.length∧WN L i=false:=by simp [Jn]
theorem JeJ {x:Zi}:x∈J2 L↔ ∃ i,i < L.length∧WN L i=false∧itZ L i=x:=by
 unfold J2;rw [List.mem_map];constructor
 ·rintro ⟨i,hi,e⟩;exact ⟨i,(Zy.1 hi).1,(Zy.1 hi).2,e⟩
 ·rintro ⟨i,h1,h2,e⟩;exact ⟨i,Zy.2 ⟨h1,h2⟩,e⟩
theorem Zx {p:Nat→Bool} (n:Nat):((List.range n).filter p).Pairwise fun i j=>i < j:=(List.pairwise_lt_range (n:=n)).filter _
structure ZOk (L:List Zi):Prop where
 nm: ∀ x,x∈L→(∃ a,JB x.f=some a)∧Jq x.f=x.f
 mx: ∀ i,i < L.length→JaZ L i=false
theorem ZOk.tt (h:ZOk L): ∀ (n i j:Nat),i≤n→j≤n→i < L.length→j < L.length→(itZ L i).k=(itZ L j).k→(itZ L i).r.ttl=(itZ L j).r.ttl:=by
 have split: ∀ (i:Nat) (p:Zi→Bool),L.find? p=((L.take i).find? p).or ((L.drop i).find? p):=fun i p=>by
  conv=>lhs;rw [←List.take_append_drop i L]
  exact List.find?_append
 have one: ∀ i,i < L.length→ ∀ y,(L.find? fun y=>decide (y.k=(itZ L i).k))=some y→y.r.ttl=(itZ L i).r.ttl:=fun i hi y hy=>by
  have hm:=h.mx i hi;unfold JaZ at hm;cases hf:(L.take i).find? fun y=>decide (y.k=(itZ L i).k) with
  | some z=>
   rw [hf] at hm
   have:L.find? (fun y=>decide (y.k=(itZ L i).k))=some z:=by
    rw [split i,hf];rfl
   rw [hy] at this;injection this with this
   subst this;simpa using hm
  | none=>
   have:L.find? (fun y=>decide (y.k=(itZ L i).k))=some (itZ L i):=by
    rw [split i,hf,List.drop_eq_getElem_cons hi,List.find?_cons_of_pos (by rw [Z5 hi];simp),Z5 hi]
    rfl
   rw [hy] at this;injection this with this
   rw [this]
 intro n i j _ _ hi hj hk;cases hf:L.find? fun y=>decide (y.k=(itZ L i).k) with
 | none=>exact absurd (by simp) (List.find?_eq_none.1 hf _ (Jh0 hi))
 | some y=>rw [←one i hi y hf,←one j hj y (by rw [←hk];exact hf)]
theorem ZOk.kept (h:ZOk L):Kept (J2 L) where
 nm x hx:=by
  obtain ⟨i,h1,-,rfl⟩:=JeJ.1 hx;exact h.nm _ (Jh0 h1)
 nd:=by
  unfold J2;rw [List.pairwise_map];refine Wp (Zx L.length) fun i _ j hj hij hkg=> ?_
  obtain ⟨j1,j2⟩:=Zy.1 hj;have:=(JdS (Nat.le_of_lt j1)).2 ⟨i,hij,hkg⟩;rw [j2] at this;cases this
 tt x hx y hy hk:=by
  obtain ⟨i,i1,-,rfl⟩:=JeJ.1 hx;obtain ⟨j,j1,-,rfl⟩:=JeJ.1 hy;exact h.tt (i+j) i j (by omega) (by omega) i1 j1 hk
theorem Jhl (f:List UInt8):(J2 L).find? (fun y=>decide (y.f=f))=L.find? fun y=>decide (y.f=f):=by
 have key: ∀ n,n≤L.length→(((List.range n).filter fun i=> !WN L i).map (itZ L)).find? (fun y=>decide (y.f=f))=(L.take n).find? fun y=>decide (y.f=f):=by
  intro n;induction n with
  | zero=>intro _;simp
  | succ n ih=>
   intro hn;rw [List.range_succ,List.filter_append,List.map_append,List.find?_append,ih (by omega),List.take_succ_eq_append_getElem (by omega),List.find?_append]
   cases hf:(L.take n).find? fun y=>decide (y.f=f) with
   | some y=>rfl
   | none=>
    have e:itZ L n=L[n]:=Z5 (by omega)
    by_cases hfn:L[n].f=f
    ·have ho:WN L n=false:=by
      rw [←Bool.not_eq_true,JdS (by omega)]
      rintro ⟨j,hj,h1,-⟩;have hm:itZ L j∈L.take n:=by rw [Z5 (by omega)];exact List.mem_take_iff_getElem.2 ⟨j,by omega,rfl⟩
      have:=List.find?_eq_none.1 hf _ hm;rw [e] at h1;have h1':=congrArg Prod.fst h1;simp only [] at h1';rw [h1'] at this;simp [hfn] at this
     simp [ho,e,hfn]
    ·cases ho:WN L n<;>simp [ho,e,hfn]
 have:=key L.length (Nat.le_refl _);rw [List.take_length] at this;exact this
theorem JhD (f:List UInt8):W9 (J2 L) f=W9 L f:=by unfold W9;rw [Jhl]
theorem JkY {K:List Zi} {x:Zi} (hx:x∈K): ∃ y,y∈K∧y.f=x.f∧W9 K x.f=y.r.o:=by
 cases hf:K.find? fun y=>decide (y.f=x.f) with
 | none=>exact absurd (by simp) (List.find?_eq_none.1 hf x hx)
 | some y=>
  refine ⟨y,List.mem_of_find?_eq_some hf,by simpa using List.find?_some hf,?_⟩
  unfold W9;rw [hf];rfl
end
theorem Ze {r:Rr} {apex:List UInt8} (h:Jai r apex=0):(∃ a,JB r.o=some a)∧r.c=1∧(0≤r.ttl∧r.ttl≤2147483647)∧Jd5 r.t=false∧(0≤r.t∧r.t≤65535)∧chk r.t r.d=0∧JfH r.o apex=true:=by
 unfold Jai at h;repeat' split at h
 all_goals first | (cases h;done) | skip
 rename_i h1 h2 h3 h4 h5 h6
 have h4a:Jd5 r.t=false:=by
  cases hm:Jd5 r.t with
  | false=>rfl
  | true=>exact absurd (.inl hm) h4
 refine ⟨Option.ne_none_iff_exists'.1 h1,by simpa using h2,by simpa using h3,h4a,?_,by simpa using h5,by simpa using h6⟩
 constructor
 ·exact Int.not_lt.1 fun h=>h4 (.inr (.inl h))
 ·exact Int.not_lt.1 fun h=>h4 (.inr (.inr h))
theorem JqO {l:List Rr} {apex:List UInt8} (h: ∀ i,i < l.length→Jai (l.getD i rrZ) apex=0) (hm: ∀ i,i < l.length→JaZ (l.map zi) i=false):ZOk (l.map zi) where
 nm x hx:=by
  obtain ⟨r,hr,rfl⟩:=List.mem_map.1 hx;obtain ⟨i,hi,rfl⟩:=List.mem_iff_getElem.1 hr;have:=h i hi;rw [show l.getD i rrZ=l[i] by simp [List.getD,hi]] at this
  obtain ⟨⟨a,ha⟩,-⟩:=Ze this;exact ⟨⟨_,ZX ha⟩,JcO ha⟩
 mx i hi:=hm i (by simpa using hi)
theorem JmK {L:List Zi} {s:Qa} (h:s∈Ja3 L):s.d≠ []:=by
 unfold Ja3 at h;obtain ⟨k,hk,rfl⟩:=List.mem_map.1 h;obtain ⟨x,hx,e⟩:=(Qe _).1 ((Qj _).mem_iff.1 hk);intro h0;simp only [mkS,List.map_eq_nil_iff] at h0;have hm:x∈isort gLt ((J2 L).filter fun y=>decide (y.k=k)):=(Qj _).mem_iff.2 (List.mem_filter.2 ⟨hx,by simpa using e⟩)
 rw [h0] at hm;cases hm
theorem Ju7 {l:List Rr} {a:List UInt8} {s:Qa} (h:s∈(bz l a).1.s):s.d≠ []:=by
 unfold bz at h;repeat' split at h
 all_goals first | (cases h;done) | exact JmK h
theorem Jlh {z:Zn} {s:Qa} (h:s∈z.s) (h0:s.d=[]):ckz z=32:=by
 unfold ckz;split
 ·rfl
 ·split
  ·rename_i h2
   rw [←h2.2] at h;exact absurd h0 (Ju7 h)
  ·rfl
theorem Js3 {z:Zn} (h: ∀ s,s∈z.s→s.d≠ []):z.s.length≤JkI z:=by
 unfold JkI;generalize z.s=l at h;induction l with
 | nil=>simp
 | cons s l ih=>
  have h1:=List.length_pos_iff.2 (h s (by simp))
  have h2:=ih fun x hx=>h x (by simp [hx])
  simp only [List.map_cons,List.sum_cons,List.length_cons];omega
theorem Jcq (z:Zn):(WQ z).length=JkI z:=by
 unfold WQ JkI;rw [List.length_flatMap];congr 1
 refine List.map_congr_left fun s _=> ?_
 simp [JbC]
theorem Jck: ∀ {a b:List (List UInt8)} {s t:List UInt8},Lab a→Lab b→joinL a++s=joinL b++t→a=b∧s=t
 | [],[],s,t,_,_,h=>by
  simp only [joinL,joinP,List.nil_append,List.cons_append,List.cons.injEq,true_and] at h;exact ⟨rfl,h⟩
 | [],l::b,s,t,_,hb,h=>by
  obtain ⟨h1,h2⟩:=hb l (by simp)
  simp only [joinL,joinP,List.nil_append,List.cons_append,List.cons.injEq] at h;have:=congrArg UInt8.toNat h.1;simp at this;omega
 | l::a,[],s,t,ha,_,h=>by
  obtain ⟨h1,h2⟩:=ha l (by simp)
  simp only [joinL,joinP,List.nil_append,List.cons_append,List.cons.injEq] at h;have:=congrArg UInt8.toNat h.1;simp at this;omega
 | l::a,m::b,s,t,ha,hb,h=>by
  obtain ⟨h1,h2⟩:=ha l (by simp)
  obtain ⟨h3,h4⟩:=hb m (by simp)
  simp only [joinL,joinP,List.cons_append,List.append_assoc,List.cons.injEq] at h;obtain ⟨e1,e2⟩:=h;have e3:=congrArg UInt8.toNat e1;simp at e3;have hl:l.length=m.length:=by omega
  obtain ⟨e4,e5⟩:=List.append_inj e2 hl;have:=Jck (a:=a) (b:=b) (s:=s) (t:=t) (fun x hx=>ha x (by simp [hx])) (fun x hx=>hb x (by simp [hx])) (by simpa [joinL] using e5)
  exact ⟨by rw [e4,this.1],this.2⟩
def idZ (x:Zi):List UInt8:=x.f++[UInt8.ofNat (x.r.t.toNat / 256),UInt8.ofNat x.r.t.toNat]++x.g
theorem JlV {x y:Zi} (hx:(∃ a,JB x.f=some a)∧Jq x.f=x.f) (hy:(∃ a,JB y.f=some a)∧Jq y.f=y.f) (tx:0≤x.r.t∧x.r.t≤65535) (ty:0≤y.r.t∧y.r.t≤65535):idZ x=idZ y↔x.k=y.k∧x.g=y.g:=by
 obtain ⟨⟨a,ha⟩,-⟩:=hx;obtain ⟨⟨b,hb⟩,-⟩:=hy;obtain ⟨a1,a2,-⟩:=Q9 ha;obtain ⟨b1,b2,-⟩:=Q9 hb;constructor
 ·intro h
  unfold idZ at h;rw [List.append_assoc,List.append_assoc] at h;have h':joinL a++([UInt8.ofNat (x.r.t.toNat / 256),UInt8.ofNat x.r.t.toNat]++x.g)=joinL b++([UInt8.ofNat (y.r.t.toNat / 256),UInt8.ofNat y.r.t.toNat]++y.g):=by rw [a2,b2];exact h
  obtain ⟨e1,e2⟩:=Jck a1 b1 h';simp only [List.cons_append,List.nil_append,List.cons.injEq] at e2;obtain ⟨e3,e4,e5⟩:=e2;have e3:=congrArg UInt8.toNat e3;have e4:=congrArg UInt8.toNat e4;simp only [UInt8.toNat_ofNat'] at e3 e4;refine ⟨Prod.ext ?_ ?_,e5⟩
  ·show x.f=y.f
   rw [←a2,←b2,e1]
  ·show x.r.t=y.r.t
   omega
 ·rintro ⟨h1,h2⟩
  simp only [Zi.k,Prod.mk.injEq] at h1;unfold idZ;rw [h1.1,h1.2,h2]
theorem JcX {α:Type} {q:α→Bool} {K:List α} {j:Nat} (hj:j < K.length) (h:q K[j]=true) (hb: ∀ i (hi:i < j),q (K[i]'(by omega))=false):K.find? q=some K[j]:=by
 rw [List.find?_eq_some_iff_getElem];exact ⟨h,j,hj,rfl,fun i hi=>by rw [hb i hi];rfl⟩
theorem JcV {α:Type} {q:α→Bool} {K:List α} (hb: ∀ i (hi:i < K.length),q K[i]=false):K.find? q=none:=by
 rw [List.find?_eq_none];intro x hx;obtain ⟨i,hi,rfl⟩:=List.mem_iff_getElem.1 hx;rw [hb i hi];decide
section
variable {L:List Zi}
theorem Jb1 {q:Nat→Bool} (hq: ∀ i,q i=true→WN L i=false):JL L.length q=(Jn L).find? q:=by
 unfold JL Jn;generalize List.range L.length=l;induction l with
 | nil=>rfl
 | cons i l ih=>
  rw [List.find?_cons,List.filter_cons];cases h:q i with
  | true=>
   rw [hq i h];simp [h]
  | false=>
   simp only;rw [ih];cases WN L i<;>simp [h]
theorem Jjx {j:Nat} (hj:j < (Jn L).length):(Jn L)[j] < L.length∧WN L (Jn L)[j]=false:=Zy.1 (List.getElem_mem hj)
theorem Jhe:(Jn L).Pairwise fun i j=>i < j:=Zx _
theorem JjQ {j:Nat} (hj:j < (Jn L).length):(Jn L).take j=(List.range (Jn L)[j]).filter fun i=> !WN L i:=by
 have h1:=Jjx hj
 have key: ∀ (n:Nat) (hn:n≤L.length),((List.range L.length).filter fun i=> !WN L i)=((List.range n).filter fun i=> !WN L i)++((List.range' n (L.length-n)).filter fun i=> !WN L i):=fun n hn=>by
  rw [←List.filter_append];congr 1
  rw [List.range_eq_range',List.range_eq_range'];have:=List.range'_append_1 (s:=0) (m:=n) (n:=L.length-n);rw [Nat.zero_add,Nat.add_sub_cancel' hn] at this;exact this.symm
 have hk:=key (Jn L)[j] (Nat.le_of_lt h1.1)
 have hl:((List.range (Jn L)[j]).filter fun i=> !WN L i).length=j:=by
  have e:Jn L=((List.range (Jn L)[j]).filter fun i=> !WN L i)++((List.range' (Jn L)[j] (L.length- (Jn L)[j])).filter fun i=> !WN L i):=hk
  generalize hA:((List.range (Jn L)[j]).filter fun i=> !WN L i)=A at e ⊢
  generalize hB:((List.range' (Jn L)[j] (L.length- (Jn L)[j])).filter fun i=> !WN L i)=B at e
  rcases Nat.lt_trichotomy A.length j with h | h | h
  ·
   exfalso
   have hA2:A.length < (Jn L).length:=by omega
   have hin:(Jn L)[A.length]∈B:=by
    have h3: ∀ (K:List Nat) (e:K=A++B) (h:A.length < K.length),K[A.length]∈B:=fun K e h=>by
     subst e;rw [List.getElem_append_right (Nat.le_refl _)];exact List.getElem_mem _
    exact h3 _ e hA2
   rw [←hB] at hin;have h2:=(List.mem_filter.1 hin).1;rw [List.mem_range'_1] at h2;have h3:=List.pairwise_iff_getElem.1 (Jhe (L:=L)) A.length j hA2 hj h;omega
  ·exact h
  ·exfalso
   have hin:(Jn L)[j]∈A:=by
    have h3: ∀ (K:List Nat) (e:K=A++B) (hj:j < K.length),K[j]∈A:=fun K e hj=>by
     subst e;rw [List.getElem_append_left h];exact List.getElem_mem _
    exact h3 _ e hj
   rw [←hA] at hin;have h2:=(List.mem_filter.1 hin).1;rw [List.mem_range] at h2;omega
 have e:Jn L=((List.range (Jn L)[j]).filter fun i=> !WN L i)++((List.range' (Jn L)[j] (L.length- (Jn L)[j])).filter fun i=> !WN L i):=hk
 conv=>lhs;rw [e]
 exact List.take_left' hl
theorem JaD (l:List Nat) (p:Nat→Bool):(l.any fun k=> !WN L k&&p k)=(l.filter fun k=> !WN L k).any p:=by
 induction l with
 | nil=>rfl
 | cons x l ih=>
  rw [List.any_cons,List.filter_cons,ih];cases WN L x<;>simp
theorem JgU {j:Nat} (hj:j < (Jn L).length) (f:List UInt8) (t:Int):hasB L (Jn L)[j] f t=((Jn L).take j).any fun i=>decide ((itZ L i).f=f∧(itZ L i).r.t=t):=by
 rw [JjQ hj];exact JaD _ _
theorem JdD (f:List UInt8) (t:Int):hasB L L.length f t=(Jn L).any fun i=>decide ((itZ L i).f=f∧(itZ L i).r.t=t):=JaD _ _
theorem any_take_succ {α:Type} {K:List α} {j:Nat} (hj:j < K.length) (p:α→Bool):(K.take (j+1)).any p=((K.take j).any p||p K[j]):=by
 rw [List.take_succ_eq_append_getElem hj,List.any_append];simp
theorem Jps {top:List UInt8}: ∀ i,Jb6 L top i=true→WN L i=false:=fun i h=>by
 simp only [Jb6,Bool.and_eq_true,Bool.not_eq_true'] at h;exact h.1.1
theorem JmR: ∀ i,YU L i=true→WN L i=false:=fun i h=>by
 simp only [YU,Bool.and_eq_true,Bool.not_eq_true'] at h;exact h.1.1
theorem Joc: ∀ i,YB L i=true→WN L i=false:=fun i h=>by
 simp only [YB,Bool.and_eq_true,Bool.not_eq_true'] at h;exact h.1.1
theorem JrG: ∀ i,cnB L i=true→WN L i=false:=fun i h=>by
 simp only [cnB,Bool.and_eq_true,Bool.not_eq_true'] at h;exact h.1.1.1
theorem JoQ: ∀ i,JdK L i=true→WN L i=false:=fun i h=>by
 simp only [JdK,List.any_eq_true,Bool.and_eq_true,Bool.not_eq_true'] at h;obtain ⟨k,-,hk⟩:=h;exact hk.1.1.1.1
theorem Jeu (top:List UInt8):QL L top=match (Jn L).find? (Jb6 L top) with
 | some i=>(20,(i:Nat))
 | none=>if hasB L L.length top 6=false then (20,-1) else if hasB L L.length top 2=false then (21,-1) else match (Jn L).find? (YU L) with
  | some i=>(26,(i:Nat))
  | none=>match (Jn L).find? (YB L) with
   | some i=>(23,(i:Nat))
   | none=>match (Jn L).find? (cnB L) with
    | some i=>(23,(i:Nat))
    | none=>match (Jn L).find? (JdK L) with
     | some i=>(25,(i:Nat))
     | none=>(0,0):=by
 unfold QL;rw [Jb1 Jps,Jb1 JmR,Jb1 Joc,Jb1 JrG,Jb1 JoQ];try rfl
theorem Jlk {i:Nat} (hi:WN L i=false):JdK L i=(Jn L).any fun k=>decide ((itZ L k).r.t=39) &&decide ((itZ L k).f≠ (itZ L i).f) &&JfH (itZ L i).f (itZ L k).f:=by
 unfold JdK Jn;rw [←JaD];congr 1
 funext k
 simp only [hi,Bool.not_false,Bool.true_and,Bool.and_assoc]
end
def XT:Fn:=⟨2,[(.t 4)],
  .q (.o [.mv 4 (.c .ns)])
  (.q (.q (.o [.mv 5 (.c (.i .i64 0))])
  (.b 0 (.l [0,1,5] (.q (.q (.o [.mv 6 (.t 5),
   .mv 7 (.t 1),
   .ln 8 (.t 7),
   .bn 9 .lss (.t 6) (.t 8)])
  (.i (.t 9) (.k)
  (.x 0)))
  (.q (.b 1 (.o [.mv 12 (.t 0),
   .mv 13 (.t 1),
   .mv 14 (.t 5),
   .ia 15 (.t 13) (.t 14) 5,
   .ld 16 (.t 15) (some 5),
   .lbs 17 (.ag [(.s []),(.i .i64 0),(.i .i64 0),(.i .i64 0),(.s [])]) 5 1 [(0,(.t 16))],
   .ap 18 (.t 12) (.t 17) 5 56,
   .mv 0 (.t 18)]))
  (.o [.mv 10 (.t 5),
   .bn 11 .add (.t 10) (.c (.i .i64 1)),
   .mv 5 (.t 11)]))))))
  (.q (.o [.mv 19 (.t 0),
   .mv 4 (.t 19)])
  (.r)))⟩
abbrev Zh:Nat:=140
theorem Jfo:Qi Go.Proofs.Tryz.prog XT 140=true:=by kernel_rfl
def Qu:Fn:=⟨1,[(.t 2)],
  .q (.o [.lbx 1 (.t 0),
   .mv 2 (.c .ns)])
  (.q (.o [.bs 5 (.ag [(.s []),(.i .i64 0),(.i .i64 0),(.i .i64 0),(.s [])]) 5 0 [],
   .mv 3 (.t 5)])
  (.q (.q (.o [.mv 4 (.c (.i .i64 0))])
  (.b 0 (.l [1,3,4] (.q (.q (.o [.mv 6 (.t 4),
   .fa 7 (.t 1) 3,
   .ld 8 (.t 7) none,
   .ln 9 (.t 8),
   .bn 10 .lss (.t 6) (.t 9)])
  (.i (.t 10) (.k)
  (.x 0)))
  (.q (.b 1 (.p [⟨.mv 13 (.t 3),[],false⟩,
   ⟨.fa 14 (.t 1) 0,[],false⟩,
   ⟨.ld 15 (.t 14) none,[],false⟩,
   ⟨.fa 16 (.t 1) 1,[],false⟩,
   ⟨.ld 17 (.t 16) none,[],false⟩,
   ⟨.fa 18 (.t 1) 2,[],false⟩,
   ⟨.ld 19 (.t 18) none,[],false⟩,
   ⟨.fa 20 (.t 1) 3,[],false⟩,
   ⟨.ld 21 (.t 20) none,[],false⟩,
   ⟨.mv 22 (.t 4),[],false⟩,
   ⟨.ia 23 (.t 21) (.t 22) 1,[],false⟩,
   ⟨.ld 24 (.t 23) none,[],false⟩,
   ⟨.bd 25 [(.s []),(.i .i64 0),(.i .i64 0),(.i .i64 0),(.s [])] [(0,1,(.t 15)),(1,1,(.t 17)),(2,1,(.c (.i .i64 1))),(3,1,(.t 19)),(4,1,(.t 24))],[],false⟩,
   ⟨.lbs 26 (.ag [(.s []),(.i .i64 0),(.i .i64 0),(.i .i64 0),(.s [])]) 5 1 [(0,(.t 25))],[],false⟩,
   ⟨.ap 27 (.t 13) (.t 26) 5 56,[],false⟩,
   ⟨.mv 3 (.t 27),[],false⟩]))
  (.o [.mv 11 (.t 4),
   .bn 12 .add (.t 11) (.c (.i .i64 1)),
   .mv 4 (.t 12)]))))))
  (.q (.o [.mv 28 (.t 3),
   .mv 2 (.t 28)])
  (.r))))⟩
abbrev Qz:Nat:=141
theorem JbB:Qi Go.Proofs.Tryz.prog Qu 141=true:=by kernel_rfl
def Jp:Fn:=⟨2,[(.c 4 (some 2)),(.t 5),(.t 6)],
  .q (.o [.lal 4 (.ag [(.s []),.ns]),
   .mv 5 (.c (.i .i64 0)),
   .mv 6 (.c (.i .i64 0))])
  (.q (.q (.o [.mv 19 (.t 1),
   .cl (some 20) 112 [(.t 19)],
   .un 21 .not (.t 20)])
  (.i (.t 21) (.q (.o [.bd 22 [(.s []),.ns] [],
   .st (.t 4) (.t 22) 2,
   .mv 5 (.c (.i .i64 32)),
   .mv 6 (.c (.i .i64 (-1)))])
  (.r))
  (.k)))
  (.q (.q (.o [.mv 23 (.t 0),
   .ln 24 (.t 23),
   .bn 25 .gtr (.t 24) (.c (.i .i64 500))])
  (.i (.t 25) (.q (.o [.bd 26 [(.s []),.ns] [],
   .st (.t 4) (.t 26) 2,
   .mv 5 (.c (.i .i64 12)),
   .mv 6 (.c (.i .i64 (-1)))])
  (.r))
  (.k)))
  (.q (.o [.bs 27 (.ag [(.s []),(.i .i64 0),(.i .i64 0),(.i .i64 0),(.s []),(.s []),(.s []),(.b false)]) 8 0 [],
   .mv 7 (.t 27)])
  (.q (.q (.o [.mv 8 (.c (.i .i64 0))])
  (.b 0 (.l [0,1,4,7,8] (.q (.q (.o [.mv 28 (.t 8),
   .mv 29 (.t 0),
   .ln 30 (.t 29),
   .bn 31 .lss (.t 28) (.t 30)])
  (.i (.t 31) (.k)
  (.x 0)))
  (.q (.b 1 (.q (.o [.mv 34 (.t 0),
   .mv 35 (.t 8),
   .ia 36 (.t 34) (.t 35) 5,
   .ld 37 (.t 36) (some 5),
   .mv 38 (.t 1),
   .cl (some 39) 221 [(.t 37),(.t 38)],
   .mv 9 (.t 39)])
  (.q (.q (.o [.mv 40 (.t 9),
   .bn 41 .neq (.t 40) (.c (.i .i64 0))])
  (.i (.t 41) (.q (.o [.bd 42 [(.s []),.ns] [],
   .mv 43 (.t 9),
   .mv 44 (.t 8),
   .st (.t 4) (.t 42) 2,
   .mv 5 (.t 43),
   .mv 6 (.t 44)])
  (.r))
  (.k)))
  (.p [⟨.mv 45 (.t 7),[],false⟩,
   ⟨.mv 46 (.t 0),[],false⟩,
   ⟨.mv 47 (.t 8),[],false⟩,
   ⟨.ia 48 (.t 46) (.t 47) 5,[],true⟩,
   ⟨.ld 49 (.t 48) (some 5),[],true⟩,
   ⟨.mv 50 (.t 0),[],false⟩,
   ⟨.mv 51 (.t 8),[],false⟩,
   ⟨.ia 52 (.t 50) (.t 51) 5,[],false⟩,
   ⟨.fa 53 (.t 52) 0,[],false⟩,
   ⟨.ld 54 (.t 53) none,[],false⟩,
   ⟨.cl (some 55) 222 [(.t 54)],[3,4],true⟩,
   ⟨.mv 56 (.t 0),[],false⟩,
   ⟨.mv 57 (.t 8),[],false⟩,
   ⟨.ia 58 (.t 56) (.t 57) 5,[10],false⟩,
   ⟨.fa 59 (.t 58) 1,[],false⟩,
   ⟨.ld 60 (.t 59) none,[10],false⟩,
   ⟨.mv 61 (.t 0),[],false⟩,
   ⟨.mv 62 (.t 8),[],false⟩,
   ⟨.ia 63 (.t 61) (.t 62) 5,[10],false⟩,
   ⟨.fa 64 (.t 63) 4,[],false⟩,
   ⟨.ld 65 (.t 64) none,[10],false⟩,
   ⟨.cl (some 66) 223 [(.t 60),(.t 65)],[3,4],false⟩,
   ⟨.bd 67 [(.s []),(.i .i64 0),(.i .i64 0),(.i .i64 0),(.s []),(.s []),(.s []),(.b false)] [(0,5,(.t 49)),(5,1,(.t 55)),(6,1,(.t 66))],[],false⟩,
   ⟨.lbs 68 (.ag [(.s []),(.i .i64 0),(.i .i64 0),(.i .i64 0),(.s []),(.s []),(.s []),(.b false)]) 8 1 [(0,(.t 67))],[],false⟩,
   ⟨.ap 69 (.t 45) (.t 68) 8 96,[],false⟩,
   ⟨.mv 7 (.t 69),[],false⟩]))))
  (.o [.mv 32 (.t 8),
   .bn 33 .add (.t 32) (.c (.i .i64 1)),
   .mv 8 (.t 33)]))))))
  (.q (.o [.mv 70 (.t 7),
   .cl (some 71) 224 [(.t 70)],
   .mv 10 (.t 71)])
  (.q (.q (.o [.mv 72 (.t 10),
   .bn 73 .geq (.t 72) (.c (.i .i64 0))])
  (.i (.t 73) (.q (.o [.bd 74 [(.s []),.ns] [],
   .mv 75 (.t 10),
   .st (.t 4) (.t 74) 2,
   .mv 5 (.c (.i .i64 24)),
   .mv 6 (.t 75)])
  (.r))
  (.k)))
  (.q (.o [.mv 77 (.t 7),
   .mv 78 (.t 1),
   .cl (some 79) 225 [(.t 77),(.t 78)],
   .mv 76 (.t 79),
   .ex 80 (.t 76) 0,
   .ex 81 (.t 76) 1,
   .mv 11 (.t 80),
   .mv 12 (.t 81)])
  (.q (.q (.o [.mv 82 (.t 11),
   .bn 83 .neq (.t 82) (.c (.i .i64 0))])
  (.i (.t 83) (.q (.o [.bd 84 [(.s []),.ns] [],
   .mv 85 (.t 11),
   .mv 86 (.t 12),
   .st (.t 4) (.t 84) 2,
   .mv 5 (.t 85),
   .mv 6 (.t 86)])
  (.r))
  (.k)))
  (.q (.o [.bs 87 (.ag [(.s []),(.i .i64 0),(.i .i64 0),(.i .i64 0),(.s []),(.s []),(.s []),(.b false)]) 8 0 [],
   .mv 13 (.t 87)])
  (.q (.q (.o [.mv 14 (.c (.i .i64 0))])
  (.b 2 (.l [1,4,7,13,14] (.q (.q (.o [.mv 88 (.t 14),
   .mv 89 (.t 7),
   .ln 90 (.t 89),
   .bn 91 .lss (.t 88) (.t 90)])
  (.i (.t 91) (.k)
  (.x 2)))
  (.q (.b 3 (.q (.o [.mv 94 (.t 7),
   .mv 95 (.t 14),
   .ia 96 (.t 94) (.t 95) 8,
   .fa 97 (.t 96) 7,
   .ld 98 (.t 97) none,
   .un 99 .not (.t 98)])
  (.i (.t 99) (.o [.mv 100 (.t 13),
   .mv 101 (.t 7),
   .mv 102 (.t 14),
   .ia 103 (.t 101) (.t 102) 8,
   .ld 104 (.t 103) (some 8),
   .lbs 105 (.ag [(.s []),(.i .i64 0),(.i .i64 0),(.i .i64 0),(.s []),(.s []),(.s []),(.b false)]) 8 1 [(0,(.t 104))],
   .ap 106 (.t 100) (.t 105) 8 96,
   .mv 13 (.t 106)])
  (.k))))
  (.o [.mv 92 (.t 14),
   .bn 93 .add (.t 92) (.c (.i .i64 1)),
   .mv 14 (.t 93)]))))))
  (.q (.o [.mv 107 (.t 13),
   .cl (some 108) 226 [(.t 107)],
   .mv 13 (.t 108)])
  (.q (.o [.mv 109 (.t 1),
   .bd 110 [(.s []),.ns] [(0,1,(.t 109))],
   .lal 15 (.ag [(.s []),.ns]),
   .st (.t 15) (.t 110) 2])
  (.q (.q (.o [.mv 16 (.c (.i .i64 0))])
  (.b 4 (.l [4,7,13,15,16] (.q (.q (.o [.mv 111 (.t 16),
   .mv 112 (.t 13),
   .ln 113 (.t 112),
   .bn 114 .lss (.t 111) (.t 113)])
  (.i (.t 114) (.k)
  (.x 4)))
  (.q (.b 5 (.q (.o [.mv 117 (.t 13),
   .mv 118 (.t 16),
   .ia 119 (.t 117) (.t 118) 8,
   .fa 120 (.t 119) 0,
   .ld 121 (.t 120) (some 5),
   .lal 17 (.ag [(.s []),(.i .i64 0),(.i .i64 0),(.i .i64 0),(.s [])]),
   .st (.t 17) (.t 121) 5])
  (.q (.q (.p [⟨.mv 122 (.t 16),[],false⟩,
   ⟨.bn 123 .eql (.t 122) (.c (.i .i64 0)),[],false⟩,
   ⟨.mv 124 (.t 123),[],false⟩,
   ⟨.gd 124 false (.mv 125 (.t 13)),[],false⟩,
   ⟨.gd 124 false (.mv 126 (.t 16)),[],false⟩,
   ⟨.gd 124 false (.bn 127 .sub (.t 126) (.c (.i .i64 1))),[],false⟩,
   ⟨.gd 124 false (.ia 128 (.t 125) (.t 127) 8),[],false⟩,
   ⟨.gd 124 false (.fa 129 (.t 128) 5),[],false⟩,
   ⟨.gd 124 false (.ld 130 (.t 129) none),[],false⟩,
   ⟨.gd 124 false (.mv 131 (.t 13)),[],false⟩,
   ⟨.gd 124 false (.mv 132 (.t 16)),[],false⟩,
   ⟨.gd 124 false (.ia 133 (.t 131) (.t 132) 8),[],false⟩,
   ⟨.gd 124 false (.fa 134 (.t 133) 5),[],false⟩,
   ⟨.gd 124 false (.ld 135 (.t 134) none),[],false⟩,
   ⟨.gd 124 false (.bn 136 .neq (.t 130) (.t 135)),[],false⟩,
   ⟨.pk 137 (.t 124) (.c (.b true)) (.t 136),[],false⟩,
   ⟨.mv 138 (.t 137),[],false⟩,
   ⟨.gd 138 false (.mv 139 (.t 13)),[],false⟩,
   ⟨.gd 138 false (.mv 140 (.t 16)),[],false⟩,
   ⟨.gd 138 false (.bn 141 .sub (.t 140) (.c (.i .i64 1))),[],false⟩,
   ⟨.gd 138 false (.ia 142 (.t 139) (.t 141) 8),[],false⟩,
   ⟨.gd 138 false (.fa 143 (.t 142) 0),[],false⟩,
   ⟨.gd 138 false (.fa 144 (.t 143) 1),[],false⟩,
   ⟨.gd 138 false (.ld 145 (.t 144) none),[],false⟩,
   ⟨.gd 138 false (.fa 146 (.t 17) 1),[],false⟩,
   ⟨.gd 138 false (.ld 147 (.t 146) none),[],false⟩,
   ⟨.gd 138 false (.bn 148 .neq (.t 145) (.t 147)),[],false⟩,
   ⟨.pk 149 (.t 138) (.c (.b true)) (.t 148),[],false⟩])
  (.i (.t 149) (.p [⟨.fa 150 (.t 15) 1,[],false⟩,
   ⟨.ld 151 (.t 150) none,[],true⟩,
   ⟨.mv 152 (.t 7),[],false⟩,
   ⟨.mv 153 (.t 13),[],false⟩,
   ⟨.mv 154 (.t 16),[],false⟩,
   ⟨.ia 155 (.t 153) (.t 154) 8,[],false⟩,
   ⟨.fa 156 (.t 155) 5,[],false⟩,
   ⟨.ld 157 (.t 156) none,[],false⟩,
   ⟨.cl (some 158) 227 [(.t 152),(.t 157)],[1],true⟩,
   ⟨.fa 159 (.t 17) 1,[],false⟩,
   ⟨.ld 160 (.t 159) none,[8],false⟩,
   ⟨.fa 161 (.t 17) 3,[],false⟩,
   ⟨.ld 162 (.t 161) none,[8],false⟩,
   ⟨.bd 163 [(.s []),(.i .i64 0),(.i .i64 0),.ns] [(0,1,(.t 158)),(1,1,(.t 160)),(2,1,(.t 162))],[],false⟩,
   ⟨.lbs 164 (.ag [(.s []),(.i .i64 0),(.i .i64 0),.ns]) 4 1 [(0,(.t 163))],[1],false⟩,
   ⟨.ap 165 (.t 151) (.t 164) 4 56,[],false⟩,
   ⟨.fa 166 (.t 15) 1,[],false⟩,
   ⟨.st (.t 166) (.t 165) 1,[],false⟩])
  (.k)))
  (.q (.o [.fa 167 (.t 15) 1,
   .ld 168 (.t 167) none,
   .ln 169 (.t 168),
   .bn 170 .sub (.t 169) (.c (.i .i64 1)),
   .mv 18 (.t 170)])
  (.p [⟨.fa 171 (.t 15) 1,[],false⟩,
   ⟨.ld 172 (.t 171) none,[],true⟩,
   ⟨.mv 173 (.t 18),[],false⟩,
   ⟨.fa 174 (.t 15) 1,[],false⟩,
   ⟨.ld 175 (.t 174) none,[],true⟩,
   ⟨.mv 176 (.t 18),[],false⟩,
   ⟨.ia 177 (.t 175) (.t 176) 4,[],true⟩,
   ⟨.fa 178 (.t 177) 3,[],false⟩,
   ⟨.ld 179 (.t 178) none,[],true⟩,
   ⟨.fa 180 (.t 17) 4,[],false⟩,
   ⟨.ld 181 (.t 180) none,[],false⟩,
   ⟨.lbs 182 (.s []) 1 1 [(0,(.t 181))],[1,4,6,8],false⟩,
   ⟨.ap 183 (.t 179) (.t 182) 1 16,[1],false⟩,
   ⟨.ia 184 (.t 172) (.t 173) 4,[],false⟩,
   ⟨.fa 185 (.t 184) 3,[],false⟩,
   ⟨.st (.t 185) (.t 183) 1,[],false⟩])))))
  (.o [.mv 115 (.t 16),
   .bn 116 .add (.t 115) (.c (.i .i64 1)),
   .mv 16 (.t 116)]))))))
  (.q (.o [.ld 186 (.t 15) (some 2),
   .st (.t 4) (.t 186) 2,
   .mv 5 (.c (.i .i64 0)),
   .mv 6 (.c (.i .i64 0))])
  (.r)))))))))))))))⟩
abbrev Yb:Nat:=142
theorem Jdt:Qi Go.Proofs.Tryz.prog Jp 142=true:=by kernel_rfl
def Xr:Fn:=⟨1,[(.t 2)],
  .q (.o [.lbx 1 (.t 0),
   .mv 2 (.c (.i .i64 0))])
  (.q (.o [.mv 3 (.c (.i .i64 0))])
  (.q (.q (.o [.mv 4 (.c (.i .i64 0))])
  (.b 0 (.l [1,3,4] (.q (.q (.o [.mv 5 (.t 4),
   .fa 6 (.t 1) 1,
   .ld 7 (.t 6) none,
   .ln 8 (.t 7),
   .bn 9 .lss (.t 5) (.t 8)])
  (.i (.t 9) (.k)
  (.x 0)))
  (.q (.b 1 (.o [.mv 12 (.t 3),
   .fa 13 (.t 1) 1,
   .ld 14 (.t 13) none,
   .mv 15 (.t 4),
   .ia 16 (.t 14) (.t 15) 4,
   .fa 17 (.t 16) 3,
   .ld 18 (.t 17) none,
   .ln 19 (.t 18),
   .bn 20 .add (.t 12) (.t 19),
   .mv 3 (.t 20)]))
  (.o [.mv 10 (.t 4),
   .bn 11 .add (.t 10) (.c (.i .i64 1)),
   .mv 4 (.t 11)]))))))
  (.q (.o [.mv 21 (.t 3),
   .mv 2 (.t 21)])
  (.r))))⟩
abbrev XG:Nat:=166
theorem JdX:Qi Go.Proofs.Tryz.prog Xr 166=true:=by kernel_rfl
def Q6:Fn:=⟨1,[(.t 2)],
  .q (.o [.lbx 1 (.t 0),
   .mv 2 (.c .ns)])
  (.q (.o [.bs 5 (.ag [(.s []),(.i .i64 0),(.i .i64 0),(.i .i64 0),(.s [])]) 5 0 [],
   .mv 3 (.t 5)])
  (.q (.q (.o [.fa 6 (.t 1) 1,
   .ld 7 (.t 6) none,
   .ln 8 (.t 7),
   .bn 9 .gtr (.t 8) (.c (.i .i64 500)),
   .mv 10 (.t 9),
   .gd 10 false (.ld 11 (.t 1) (some 2)),
   .gd 10 false (.cl (some 12) 166 [(.t 11)]),
   .gd 10 false (.bn 13 .gtr (.t 12) (.c (.i .i64 500))),
   .pk 14 (.t 10) (.c (.b true)) (.t 13)])
  (.i (.t 14) (.q (.o [.mv 15 (.t 3),
   .mv 2 (.t 15)])
  (.r))
  (.k)))
  (.q (.q (.o [.mv 4 (.c (.i .i64 0))])
  (.b 0 (.l [1,3,4] (.q (.q (.o [.mv 16 (.t 4),
   .fa 17 (.t 1) 1,
   .ld 18 (.t 17) none,
   .ln 19 (.t 18),
   .bn 20 .lss (.t 16) (.t 19)])
  (.i (.t 20) (.k)
  (.x 0)))
  (.q (.b 1 (.o [.mv 23 (.t 3),
   .fa 24 (.t 1) 1,
   .ld 25 (.t 24) none,
   .mv 26 (.t 4),
   .ia 27 (.t 25) (.t 26) 4,
   .ld 28 (.t 27) (some 4),
   .cl (some 29) 141 [(.t 28)],
   .cl (some 30) 140 [(.t 23),(.t 29)],
   .mv 3 (.t 30)]))
  (.o [.mv 21 (.t 4),
   .bn 22 .add (.t 21) (.c (.i .i64 1)),
   .mv 4 (.t 22)]))))))
  (.q (.o [.mv 31 (.t 3),
   .mv 2 (.t 31)])
  (.r)))))⟩
abbrev WX:Nat:=167
theorem Jcp:Qi Go.Proofs.Tryz.prog Q6 167=true:=by kernel_rfl
def QZ:Fn:=⟨2,[(.t 4)],
  .q (.o [.lbx 2 (.t 0),
   .lbx 3 (.t 1),
   .mv 4 (.c (.b false))])
  (.q (.q (.o [.fa 6 (.t 2) 0,
   .ld 7 (.t 6) none,
   .fa 8 (.t 3) 0,
   .ld 9 (.t 8) none,
   .bn 10 .neq (.t 7) (.t 9),
   .mv 11 (.t 10),
   .gd 11 false (.fa 12 (.t 2) 1),
   .gd 11 false (.ld 13 (.t 12) none),
   .gd 11 false (.ln 14 (.t 13)),
   .gd 11 false (.fa 15 (.t 3) 1),
   .gd 11 false (.ld 16 (.t 15) none),
   .gd 11 false (.ln 17 (.t 16)),
   .gd 11 false (.bn 18 .neq (.t 14) (.t 17)),
   .pk 19 (.t 11) (.c (.b true)) (.t 18)])
  (.i (.t 19) (.q (.o [.mv 4 (.c (.b false))])
  (.r))
  (.k)))
  (.q (.q (.o [.mv 5 (.c (.i .i64 0))])
  (.b 0 (.l [2,3,5] (.q (.q (.o [.mv 20 (.t 5),
   .fa 21 (.t 2) 1,
   .ld 22 (.t 21) none,
   .ln 23 (.t 22),
   .bn 24 .lss (.t 20) (.t 23)])
  (.i (.t 24) (.k)
  (.x 0)))
  (.q (.b 1 (.q (.p [⟨.fa 27 (.t 2) 1,[],false⟩,
   ⟨.ld 28 (.t 27) none,[],false⟩,
   ⟨.mv 29 (.t 5),[],false⟩,
   ⟨.ia 30 (.t 28) (.t 29) 4,[],false⟩,
   ⟨.ld 31 (.t 30) (some 4),[],false⟩,
   ⟨.fa 32 (.t 3) 1,[],false⟩,
   ⟨.ld 33 (.t 32) none,[],false⟩,
   ⟨.mv 34 (.t 5),[],false⟩,
   ⟨.ia 35 (.t 33) (.t 34) 4,[],false⟩,
   ⟨.ld 36 (.t 35) (some 4),[],false⟩,
   ⟨.cl (some 37) 245 [(.t 31),(.t 36)],[],false⟩,
   ⟨.un 38 .not (.t 37),[],false⟩])
  (.i (.t 38) (.q (.o [.mv 4 (.c (.b false))])
  (.r))
  (.k))))
  (.o [.mv 25 (.t 5),
   .bn 26 .add (.t 25) (.c (.i .i64 1)),
   .mv 5 (.t 26)]))))))
  (.q (.o [.mv 4 (.c (.b true))])
  (.r))))⟩
abbrev WW:Nat:=168
theorem Jb8:Qi Go.Proofs.Tryz.prog QZ 168=true:=by kernel_rfl
def Y6:Fn:=⟨2,[(.t 4)],
  .q (.o [.lbx 2 (.t 0),
   .mv 4 (.c (.i .i64 0))])
  (.q (.b 0 (.q (.o [.fa 6 (.t 2) 0,
   .ld 7 (.t 6) none,
   .cl (some 8) 112 [(.t 7)],
   .un 9 .not (.t 8),
   .mv 5 (.t 9)])
  (.i (.t 5) (.q (.o [.mv 4 (.c (.i .i64 1))])
  (.r))
  (.q (.o [.fa 11 (.t 2) 2,
   .ld 12 (.t 11) none,
   .bn 13 .neq (.t 12) (.c (.i .i64 1)),
   .mv 10 (.t 13)])
  (.i (.t 10) (.q (.o [.mv 4 (.c (.i .i64 19))])
  (.r))
  (.q (.o [.fa 15 (.t 2) 3,
   .ld 16 (.t 15) none,
   .cl (some 17) 77 [(.t 16),(.c (.i .i64 2147483647))],
   .un 18 .not (.t 17),
   .mv 14 (.t 18)])
  (.i (.t 14) (.q (.o [.mv 4 (.c (.i .i64 18))])
  (.r))
  (.q (.o [.fa 20 (.t 2) 1,
   .ld 21 (.t 20) none,
   .cl (some 22) 251 [(.t 21)],
   .mv 23 (.t 22),
   .gd 23 false (.fa 24 (.t 2) 1),
   .gd 23 false (.ld 25 (.t 24) none),
   .gd 23 false (.bn 26 .lss (.t 25) (.c (.i .i64 0))),
   .pk 27 (.t 23) (.c (.b true)) (.t 26),
   .mv 28 (.t 27),
   .gd 28 false (.fa 29 (.t 2) 1),
   .gd 28 false (.ld 30 (.t 29) none),
   .gd 28 false (.bn 31 .gtr (.t 30) (.c (.i .i64 65535))),
   .pk 32 (.t 28) (.c (.b true)) (.t 31),
   .mv 19 (.t 32)])
  (.i (.t 19) (.q (.o [.mv 4 (.c (.i .i64 6))])
  (.r))
  (.q (.o [.fa 34 (.t 2) 1,
   .ld 35 (.t 34) none,
   .fa 36 (.t 2) 4,
   .ld 37 (.t 36) none,
   .cl (some 38) 248 [(.t 35),(.t 37)],
   .bn 39 .neq (.t 38) (.c (.i .i64 0)),
   .mv 33 (.t 39)])
  (.i (.t 33) (.q (.o [.mv 4 (.c (.i .i64 7))])
  (.r))
  (.q (.o [.fa 41 (.t 2) 0,
   .ld 42 (.t 41) none,
   .mv 43 (.t 1),
   .cl (some 44) 228 [(.t 42),(.t 43)],
   .un 45 .not (.t 44),
   .mv 40 (.t 45)])
  (.i (.t 40) (.q (.o [.mv 4 (.c (.i .i64 22))])
  (.r))
  (.k))))))))))))))
  (.q (.o [.mv 4 (.c (.i .i64 0))])
  (.r)))⟩
abbrev YR:Nat:=221
theorem Jga:Qi Go.Proofs.Tryz.prog Y6 221=true:=by kernel_rfl
def Xe:Fn:=⟨1,[(.t 2)],
  .q (.o [.mv 2 (.c (.i .i64 0))])
  (.q (.o [.mv 3 (.c (.i .i64 (-1)))])
  (.q (.q (.o [.mv 4 (.c (.i .i64 0))])
  (.b 0 (.l [0,3,4] (.q (.q (.o [.mv 7 (.t 4),
   .mv 8 (.t 0),
   .ln 9 (.t 8),
   .bn 10 .lss (.t 7) (.t 9)])
  (.i (.t 10) (.k)
  (.x 0)))
  (.q (.b 1 (.q (.o [.mv 5 (.c (.i .i64 (-1)))])
  (.q (.q (.o [.mv 6 (.c (.i .i64 0))])
  (.b 2 (.l [0,3,4,5,6] (.q (.q (.o [.mv 13 (.t 6),
   .mv 14 (.t 4),
   .bn 15 .lss (.t 13) (.t 14)])
  (.i (.t 15) (.k)
  (.x 2)))
  (.q (.b 3 (.q (.q (.p [⟨.mv 18 (.t 0),[],false⟩,
   ⟨.mv 19 (.t 6),[],false⟩,
   ⟨.ia 20 (.t 18) (.t 19) 8,[],false⟩,
   ⟨.fa 21 (.t 20) 5,[],false⟩,
   ⟨.ld 22 (.t 21) none,[],false⟩,
   ⟨.mv 23 (.t 0),[],false⟩,
   ⟨.mv 24 (.t 4),[],false⟩,
   ⟨.ia 25 (.t 23) (.t 24) 8,[],false⟩,
   ⟨.fa 26 (.t 25) 5,[],false⟩,
   ⟨.ld 27 (.t 26) none,[],false⟩,
   ⟨.bn 28 .neq (.t 22) (.t 27),[],false⟩,
   ⟨.mv 29 (.t 28),[],false⟩,
   ⟨.gd 29 false (.mv 30 (.t 0)),[],false⟩,
   ⟨.gd 29 false (.mv 31 (.t 6)),[],false⟩,
   ⟨.gd 29 false (.ia 32 (.t 30) (.t 31) 8),[],false⟩,
   ⟨.gd 29 false (.fa 33 (.t 32) 0),[],false⟩,
   ⟨.gd 29 false (.fa 34 (.t 33) 1),[],false⟩,
   ⟨.gd 29 false (.ld 35 (.t 34) none),[],false⟩,
   ⟨.gd 29 false (.mv 36 (.t 0)),[],false⟩,
   ⟨.gd 29 false (.mv 37 (.t 4)),[],false⟩,
   ⟨.gd 29 false (.ia 38 (.t 36) (.t 37) 8),[],false⟩,
   ⟨.gd 29 false (.fa 39 (.t 38) 0),[],false⟩,
   ⟨.gd 29 false (.fa 40 (.t 39) 1),[],false⟩,
   ⟨.gd 29 false (.ld 41 (.t 40) none),[],false⟩,
   ⟨.gd 29 false (.bn 42 .neq (.t 35) (.t 41)),[],false⟩,
   ⟨.pk 43 (.t 29) (.c (.b true)) (.t 42),[],false⟩])
  (.i (.t 43) (.x 3)
  (.k)))
  (.q (.q (.o [.mv 44 (.t 5),
   .bn 45 .lss (.t 44) (.c (.i .i64 0))])
  (.i (.t 45) (.o [.mv 46 (.t 6),
   .mv 5 (.t 46)])
  (.k)))
  (.q (.p [⟨.mv 47 (.t 0),[],false⟩,
   ⟨.mv 48 (.t 6),[],false⟩,
   ⟨.ia 49 (.t 47) (.t 48) 8,[],false⟩,
   ⟨.fa 50 (.t 49) 6,[],false⟩,
   ⟨.ld 51 (.t 50) none,[],false⟩,
   ⟨.mv 52 (.t 0),[],false⟩,
   ⟨.mv 53 (.t 4),[],false⟩,
   ⟨.ia 54 (.t 52) (.t 53) 8,[],false⟩,
   ⟨.fa 55 (.t 54) 6,[],false⟩,
   ⟨.ld 56 (.t 55) none,[],false⟩,
   ⟨.bn 57 .eql (.t 51) (.t 56),[],false⟩])
  (.i (.t 57) (.o [.mv 58 (.t 0),
   .mv 59 (.t 4),
   .ia 60 (.t 58) (.t 59) 8,
   .fa 61 (.t 60) 7,
   .st (.t 61) (.c (.b true)) 1])
  (.k))))))
  (.o [.mv 16 (.t 6),
   .bn 17 .add (.t 16) (.c (.i .i64 1)),
   .mv 6 (.t 17)]))))))
  (.q (.p [⟨.mv 62 (.t 3),[],false⟩,
   ⟨.bn 63 .lss (.t 62) (.c (.i .i64 0)),[],false⟩,
   ⟨.mv 64 (.t 63),[],false⟩,
   ⟨.gd 64 true (.mv 65 (.t 5)),[],false⟩,
   ⟨.gd 64 true (.bn 66 .geq (.t 65) (.c (.i .i64 0))),[],false⟩,
   ⟨.pk 67 (.t 64) (.t 66) (.c (.b false)),[],false⟩,
   ⟨.mv 68 (.t 67),[],false⟩,
   ⟨.gd 68 true (.mv 69 (.t 0)),[],false⟩,
   ⟨.gd 68 true (.mv 70 (.t 5)),[],false⟩,
   ⟨.gd 68 true (.ia 71 (.t 69) (.t 70) 8),[],false⟩,
   ⟨.gd 68 true (.fa 72 (.t 71) 0),[],false⟩,
   ⟨.gd 68 true (.fa 73 (.t 72) 3),[],false⟩,
   ⟨.gd 68 true (.ld 74 (.t 73) none),[],false⟩,
   ⟨.gd 68 true (.mv 75 (.t 0)),[],false⟩,
   ⟨.gd 68 true (.mv 76 (.t 4)),[],false⟩,
   ⟨.gd 68 true (.ia 77 (.t 75) (.t 76) 8),[],false⟩,
   ⟨.gd 68 true (.fa 78 (.t 77) 0),[],false⟩,
   ⟨.gd 68 true (.fa 79 (.t 78) 3),[],false⟩,
   ⟨.gd 68 true (.ld 80 (.t 79) none),[],false⟩,
   ⟨.gd 68 true (.bn 81 .neq (.t 74) (.t 80)),[],false⟩,
   ⟨.pk 82 (.t 68) (.t 81) (.c (.b false)),[],false⟩])
  (.i (.t 82) (.o [.mv 83 (.t 4),
   .mv 3 (.t 83)])
  (.k))))))
  (.o [.mv 11 (.t 4),
   .bn 12 .add (.t 11) (.c (.i .i64 1)),
   .mv 4 (.t 12)]))))))
  (.q (.o [.mv 84 (.t 3),
   .mv 2 (.t 84)])
  (.r))))⟩
abbrev YN:Nat:=224
theorem Jd1:Qi Go.Proofs.Tryz.prog Xe 224=true:=by kernel_rfl
def Jo:Fn:=⟨2,[(.t 4),(.t 5)],
  .q (.o [.mv 4 (.c (.i .i64 0)),
   .mv 5 (.c (.i .i64 0))])
  (.q (.o [.mv 16 (.t 1),
   .cl (some 17) 222 [(.t 16)],
   .mv 6 (.t 17)])
  (.q (.q (.o [.mv 7 (.c (.i .i64 0))])
  (.b 0 (.l [0,6,7] (.q (.q (.o [.mv 18 (.t 7),
   .mv 19 (.t 0),
   .ln 20 (.t 19),
   .bn 21 .lss (.t 18) (.t 20)])
  (.i (.t 21) (.k)
  (.x 0)))
  (.q (.b 1 (.q (.o [.mv 24 (.t 0),
   .mv 25 (.t 7),
   .ia 26 (.t 24) (.t 25) 8,
   .fa 27 (.t 26) 7,
   .ld 28 (.t 27) none,
   .un 29 .not (.t 28),
   .mv 30 (.t 29),
   .gd 30 true (.mv 31 (.t 0)),
   .gd 30 true (.mv 32 (.t 7)),
   .gd 30 true (.ia 33 (.t 31) (.t 32) 8),
   .gd 30 true (.fa 34 (.t 33) 0),
   .gd 30 true (.fa 35 (.t 34) 1),
   .gd 30 true (.ld 36 (.t 35) none),
   .gd 30 true (.bn 37 .eql (.t 36) (.c (.i .i64 6))),
   .pk 38 (.t 30) (.t 37) (.c (.b false)),
   .mv 39 (.t 38),
   .gd 39 true (.mv 40 (.t 0)),
   .gd 39 true (.mv 41 (.t 7)),
   .gd 39 true (.ia 42 (.t 40) (.t 41) 8),
   .gd 39 true (.fa 43 (.t 42) 5),
   .gd 39 true (.ld 44 (.t 43) none),
   .gd 39 true (.mv 45 (.t 6)),
   .gd 39 true (.bn 46 .neq (.t 44) (.t 45)),
   .gd 39 true (.mv 47 (.t 46)),
   .gd 47 false (.mv 48 (.t 0)),
   .gd 47 false (.mv 49 (.t 7)),
   .gd 47 false (.mv 50 (.t 6)),
   .gd 47 false (.cl (some 51) 292 [(.t 48),(.t 49),(.t 50),(.c (.i .i64 6))]),
   .gd 39 true (.pk 52 (.t 47) (.c (.b true)) (.t 51)),
   .pk 53 (.t 39) (.t 52) (.c (.b false))])
  (.i (.t 53) (.q (.o [.mv 54 (.t 7),
   .mv 4 (.c (.i .i64 20)),
   .mv 5 (.t 54)])
  (.r))
  (.k))))
  (.o [.mv 22 (.t 7),
   .bn 23 .add (.t 22) (.c (.i .i64 1)),
   .mv 7 (.t 23)]))))))
  (.q (.q (.o [.mv 55 (.t 0),
   .mv 56 (.t 0),
   .ln 57 (.t 56),
   .mv 58 (.t 6),
   .cl (some 59) 292 [(.t 55),(.t 57),(.t 58),(.c (.i .i64 6))],
   .un 60 .not (.t 59)])
  (.i (.t 60) (.q (.o [.mv 4 (.c (.i .i64 20)),
   .mv 5 (.c (.i .i64 (-1)))])
  (.r))
  (.k)))
  (.q (.q (.o [.mv 61 (.t 0),
   .mv 62 (.t 0),
   .ln 63 (.t 62),
   .mv 64 (.t 6),
   .cl (some 65) 292 [(.t 61),(.t 63),(.t 64),(.c (.i .i64 2))],
   .un 66 .not (.t 65)])
  (.i (.t 66) (.q (.o [.mv 4 (.c (.i .i64 21)),
   .mv 5 (.c (.i .i64 (-1)))])
  (.r))
  (.k)))
  (.q (.q (.o [.mv 8 (.c (.i .i64 0))])
  (.b 2 (.l [0,8] (.q (.q (.o [.mv 67 (.t 8),
   .mv 68 (.t 0),
   .ln 69 (.t 68),
   .bn 70 .lss (.t 67) (.t 69)])
  (.i (.t 70) (.k)
  (.x 2)))
  (.q (.b 3 (.q (.o [.mv 73 (.t 0),
   .mv 74 (.t 8),
   .ia 75 (.t 73) (.t 74) 8,
   .fa 76 (.t 75) 0,
   .fa 77 (.t 76) 1,
   .ld 78 (.t 77) none,
   .mv 9 (.t 78)])
  (.q (.o [.mv 79 (.t 0),
   .mv 80 (.t 8),
   .ia 81 (.t 79) (.t 80) 8,
   .fa 82 (.t 81) 7,
   .ld 83 (.t 82) none,
   .un 84 .not (.t 83),
   .mv 85 (.t 84),
   .gd 85 true (.mv 86 (.t 0)),
   .gd 85 true (.mv 87 (.t 8)),
   .gd 85 true (.ia 88 (.t 86) (.t 87) 8),
   .gd 85 true (.fa 89 (.t 88) 5),
   .gd 85 true (.ld 90 (.t 89) none),
   .gd 85 true (.cl (some 91) 293 [(.t 90)]),
   .pk 92 (.t 85) (.t 91) (.c (.b false)),
   .mv 93 (.t 92),
   .gd 93 true (.mv 94 (.t 9)),
   .gd 93 true (.bn 95 .eql (.t 94) (.c (.i .i64 2))),
   .gd 93 true (.mv 96 (.t 95)),
   .gd 96 false (.mv 97 (.t 9)),
   .gd 96 false (.bn 98 .eql (.t 97) (.c (.i .i64 39))),
   .gd 93 true (.pk 99 (.t 96) (.c (.b true)) (.t 98)),
   .pk 100 (.t 93) (.t 99) (.c (.b false))])
  (.i (.t 100) (.q (.o [.mv 101 (.t 8),
   .mv 4 (.c (.i .i64 26)),
   .mv 5 (.t 101)])
  (.r))
  (.k)))))
  (.o [.mv 71 (.t 8),
   .bn 72 .add (.t 71) (.c (.i .i64 1)),
   .mv 8 (.t 72)]))))))
  (.q (.q (.o [.mv 10 (.c (.i .i64 0))])
  (.b 4 (.l [0,10] (.q (.q (.o [.mv 102 (.t 10),
   .mv 103 (.t 0),
   .ln 104 (.t 103),
   .bn 105 .lss (.t 102) (.t 104)])
  (.i (.t 105) (.k)
  (.x 4)))
  (.q (.b 5 (.q (.o [.mv 108 (.t 0),
   .mv 109 (.t 10),
   .ia 110 (.t 108) (.t 109) 8,
   .fa 111 (.t 110) 0,
   .fa 112 (.t 111) 1,
   .ld 113 (.t 112) none,
   .mv 11 (.t 113)])
  (.q (.o [.mv 114 (.t 0),
   .mv 115 (.t 10),
   .ia 116 (.t 114) (.t 115) 8,
   .fa 117 (.t 116) 7,
   .ld 118 (.t 117) none,
   .un 119 .not (.t 118),
   .mv 120 (.t 119),
   .gd 120 true (.mv 121 (.t 11)),
   .gd 120 true (.bn 122 .eql (.t 121) (.c (.i .i64 5))),
   .gd 120 true (.mv 123 (.t 122)),
   .gd 123 false (.mv 124 (.t 11)),
   .gd 123 false (.bn 125 .eql (.t 124) (.c (.i .i64 39))),
   .gd 120 true (.pk 126 (.t 123) (.c (.b true)) (.t 125)),
   .pk 127 (.t 120) (.t 126) (.c (.b false)),
   .mv 128 (.t 127),
   .gd 128 true (.mv 129 (.t 0)),
   .gd 128 true (.mv 130 (.t 10)),
   .gd 128 true (.mv 131 (.t 0)),
   .gd 128 true (.mv 132 (.t 10)),
   .gd 128 true (.ia 133 (.t 131) (.t 132) 8),
   .gd 128 true (.fa 134 (.t 133) 5),
   .gd 128 true (.ld 135 (.t 134) none),
   .gd 128 true (.mv 136 (.t 11)),
   .gd 128 true (.cl (some 137) 292 [(.t 129),(.t 130),(.t 135),(.t 136)]),
   .pk 138 (.t 128) (.t 137) (.c (.b false))])
  (.i (.t 138) (.q (.o [.mv 139 (.t 10),
   .mv 4 (.c (.i .i64 23)),
   .mv 5 (.t 139)])
  (.r))
  (.k)))))
  (.o [.mv 106 (.t 10),
   .bn 107 .add (.t 106) (.c (.i .i64 1)),
   .mv 10 (.t 107)]))))))
  (.q (.q (.o [.mv 12 (.c (.i .i64 0))])
  (.b 6 (.l [0,12] (.q (.q (.o [.mv 140 (.t 12),
   .mv 141 (.t 0),
   .ln 142 (.t 141),
   .bn 143 .lss (.t 140) (.t 142)])
  (.i (.t 143) (.k)
  (.x 6)))
  (.q (.b 7 (.q (.o [.mv 146 (.t 0),
   .mv 147 (.t 12),
   .ia 148 (.t 146) (.t 147) 8,
   .fa 149 (.t 148) 0,
   .fa 150 (.t 149) 1,
   .ld 151 (.t 150) none,
   .mv 13 (.t 151)])
  (.q (.o [.mv 152 (.t 0),
   .mv 153 (.t 12),
   .ia 154 (.t 152) (.t 153) 8,
   .fa 155 (.t 154) 7,
   .ld 156 (.t 155) none,
   .un 157 .not (.t 156),
   .mv 158 (.t 157),
   .gd 158 true (.mv 159 (.t 13)),
   .gd 158 true (.bn 160 .neq (.t 159) (.c (.i .i64 5))),
   .pk 161 (.t 158) (.t 160) (.c (.b false)),
   .mv 162 (.t 161),
   .gd 162 true (.mv 163 (.t 13)),
   .gd 162 true (.bn 164 .neq (.t 163) (.c (.i .i64 47))),
   .pk 165 (.t 162) (.t 164) (.c (.b false)),
   .mv 166 (.t 165),
   .gd 166 true (.mv 167 (.t 0)),
   .gd 166 true (.mv 168 (.t 0)),
   .gd 166 true (.ln 169 (.t 168)),
   .gd 166 true (.mv 170 (.t 0)),
   .gd 166 true (.mv 171 (.t 12)),
   .gd 166 true (.ia 172 (.t 170) (.t 171) 8),
   .gd 166 true (.fa 173 (.t 172) 5),
   .gd 166 true (.ld 174 (.t 173) none),
   .gd 166 true (.cl (some 175) 292 [(.t 167),(.t 169),(.t 174),(.c (.i .i64 5))]),
   .pk 176 (.t 166) (.t 175) (.c (.b false))])
  (.i (.t 176) (.q (.o [.mv 177 (.t 12),
   .mv 4 (.c (.i .i64 23)),
   .mv 5 (.t 177)])
  (.r))
  (.k)))))
  (.o [.mv 144 (.t 12),
   .bn 145 .add (.t 144) (.c (.i .i64 1)),
   .mv 12 (.t 145)]))))))
  (.q (.q (.o [.mv 14 (.c (.i .i64 0))])
  (.b 8 (.l [0,14] (.q (.q (.o [.mv 178 (.t 14),
   .mv 179 (.t 0),
   .ln 180 (.t 179),
   .bn 181 .lss (.t 178) (.t 180)])
  (.i (.t 181) (.k)
  (.x 8)))
  (.q (.b 9 (.q (.o [.mv 15 (.c (.i .i64 0))])
  (.b 10 (.l [0,14,15] (.q (.q (.o [.mv 184 (.t 15),
   .mv 185 (.t 0),
   .ln 186 (.t 185),
   .bn 187 .lss (.t 184) (.t 186),
   .mv 188 (.t 187),
   .gd 188 true (.mv 189 (.t 0)),
   .gd 188 true (.mv 190 (.t 14)),
   .gd 188 true (.ia 191 (.t 189) (.t 190) 8),
   .gd 188 true (.fa 192 (.t 191) 7),
   .gd 188 true (.ld 193 (.t 192) none),
   .gd 188 true (.un 194 .not (.t 193)),
   .pk 195 (.t 188) (.t 194) (.c (.b false))])
  (.i (.t 195) (.k)
  (.x 10)))
  (.q (.b 11 (.q (.p [⟨.mv 198 (.t 0),[],false⟩,
   ⟨.mv 199 (.t 15),[],false⟩,
   ⟨.ia 200 (.t 198) (.t 199) 8,[],false⟩,
   ⟨.fa 201 (.t 200) 7,[],false⟩,
   ⟨.ld 202 (.t 201) none,[],false⟩,
   ⟨.un 203 .not (.t 202),[],false⟩,
   ⟨.mv 204 (.t 203),[],false⟩,
   ⟨.gd 204 true (.mv 205 (.t 0)),[],false⟩,
   ⟨.gd 204 true (.mv 206 (.t 15)),[],false⟩,
   ⟨.gd 204 true (.ia 207 (.t 205) (.t 206) 8),[],false⟩,
   ⟨.gd 204 true (.fa 208 (.t 207) 0),[],false⟩,
   ⟨.gd 204 true (.fa 209 (.t 208) 1),[],false⟩,
   ⟨.gd 204 true (.ld 210 (.t 209) none),[],false⟩,
   ⟨.gd 204 true (.bn 211 .eql (.t 210) (.c (.i .i64 39))),[],false⟩,
   ⟨.pk 212 (.t 204) (.t 211) (.c (.b false)),[],false⟩,
   ⟨.mv 213 (.t 212),[],false⟩,
   ⟨.gd 213 true (.mv 214 (.t 0)),[],false⟩,
   ⟨.gd 213 true (.mv 215 (.t 15)),[],false⟩,
   ⟨.gd 213 true (.ia 216 (.t 214) (.t 215) 8),[],false⟩,
   ⟨.gd 213 true (.fa 217 (.t 216) 5),[],false⟩,
   ⟨.gd 213 true (.ld 218 (.t 217) none),[],false⟩,
   ⟨.gd 213 true (.mv 219 (.t 0)),[],false⟩,
   ⟨.gd 213 true (.mv 220 (.t 14)),[],false⟩,
   ⟨.gd 213 true (.ia 221 (.t 219) (.t 220) 8),[],false⟩,
   ⟨.gd 213 true (.fa 222 (.t 221) 5),[],false⟩,
   ⟨.gd 213 true (.ld 223 (.t 222) none),[],false⟩,
   ⟨.gd 213 true (.bn 224 .neq (.t 218) (.t 223)),[],false⟩,
   ⟨.pk 225 (.t 213) (.t 224) (.c (.b false)),[],false⟩,
   ⟨.mv 226 (.t 225),[],false⟩,
   ⟨.gd 226 true (.mv 227 (.t 0)),[],false⟩,
   ⟨.gd 226 true (.mv 228 (.t 14)),[],false⟩,
   ⟨.gd 226 true (.ia 229 (.t 227) (.t 228) 8),[],false⟩,
   ⟨.gd 226 true (.fa 230 (.t 229) 5),[],false⟩,
   ⟨.gd 226 true (.ld 231 (.t 230) none),[],false⟩,
   ⟨.gd 226 true (.mv 232 (.t 0)),[],false⟩,
   ⟨.gd 226 true (.mv 233 (.t 15)),[],false⟩,
   ⟨.gd 226 true (.ia 234 (.t 232) (.t 233) 8),[],false⟩,
   ⟨.gd 226 true (.fa 235 (.t 234) 5),[],false⟩,
   ⟨.gd 226 true (.ld 236 (.t 235) none),[],false⟩,
   ⟨.gd 226 true (.cl (some 237) 228 [(.t 231),(.t 236)]),[],false⟩,
   ⟨.pk 238 (.t 226) (.t 237) (.c (.b false)),[],false⟩])
  (.i (.t 238) (.q (.o [.mv 239 (.t 14),
   .mv 4 (.c (.i .i64 25)),
   .mv 5 (.t 239)])
  (.r))
  (.k))))
  (.o [.mv 196 (.t 15),
   .bn 197 .add (.t 196) (.c (.i .i64 1)),
   .mv 15 (.t 197)])))))))
  (.o [.mv 182 (.t 14),
   .bn 183 .add (.t 182) (.c (.i .i64 1)),
   .mv 14 (.t 183)]))))))
  (.q (.o [.mv 4 (.c (.i .i64 0)),
   .mv 5 (.c (.i .i64 0))])
  (.r))))))))))⟩
abbrev Yv:Nat:=225
theorem Jee:Qi Go.Proofs.Tryz.prog Jo 225=true:=by kernel_rfl
def QC:Fn:=⟨1,[(.t 2)],
  .q (.o [.mv 2 (.c .ns)])
  (.q (.q (.o [.mv 8 (.t 0),
   .ln 9 (.t 8),
   .bn 10 .lss (.t 9) (.c (.i .i64 2))])
  (.i (.t 10) (.q (.o [.mv 11 (.t 0),
   .mv 2 (.t 11)])
  (.r))
  (.k)))
  (.q (.o [.mv 12 (.t 0),
   .mv 13 (.t 0),
   .ln 14 (.t 13),
   .bn 15 .quo (.t 14) (.c (.i .i64 2)),
   .sl 16 (.t 12) none (some (.t 15)) 8,
   .cl (some 17) 226 [(.t 16)],
   .mv 3 (.t 17)])
  (.q (.o [.mv 18 (.t 0),
   .mv 19 (.t 0),
   .ln 20 (.t 19),
   .bn 21 .quo (.t 20) (.c (.i .i64 2)),
   .sl 22 (.t 18) (some (.t 21)) none 8,
   .cl (some 23) 226 [(.t 22)],
   .mv 4 (.t 23)])
  (.q (.o [.bs 24 (.ag [(.s []),(.i .i64 0),(.i .i64 0),(.i .i64 0),(.s []),(.s []),(.s []),(.b false)]) 8 0 [],
   .mv 5 (.t 24)])
  (.q (.o [.mv 6 (.c (.i .i64 0))])
  (.q (.o [.mv 7 (.c (.i .i64 0))])
  (.q (.b 0 (.l [3,4,5,6,7] (.q (.q (.o [.mv 25 (.t 6),
   .mv 26 (.t 3),
   .ln 27 (.t 26),
   .bn 28 .lss (.t 25) (.t 27),
   .mv 29 (.t 28),
   .gd 29 false (.mv 30 (.t 7)),
   .gd 29 false (.mv 31 (.t 4)),
   .gd 29 false (.ln 32 (.t 31)),
   .gd 29 false (.bn 33 .lss (.t 30) (.t 32)),
   .pk 34 (.t 29) (.c (.b true)) (.t 33)])
  (.i (.t 34) (.k)
  (.x 0)))
  (.b 1 (.q (.p [⟨.mv 35 (.t 7),[],false⟩,
   ⟨.mv 36 (.t 4),[],false⟩,
   ⟨.ln 37 (.t 36),[],false⟩,
   ⟨.bn 38 .eql (.t 35) (.t 37),[],false⟩,
   ⟨.mv 39 (.t 38),[],false⟩,
   ⟨.gd 39 false (.mv 40 (.t 6)),[],false⟩,
   ⟨.gd 39 false (.mv 41 (.t 3)),[],false⟩,
   ⟨.gd 39 false (.ln 42 (.t 41)),[],false⟩,
   ⟨.gd 39 false (.bn 43 .lss (.t 40) (.t 42)),[],false⟩,
   ⟨.gd 39 false (.mv 44 (.t 43)),[],false⟩,
   ⟨.gd 44 true (.mv 45 (.t 3)),[],false⟩,
   ⟨.gd 44 true (.mv 46 (.t 6)),[],false⟩,
   ⟨.gd 44 true (.ia 47 (.t 45) (.t 46) 8),[],false⟩,
   ⟨.gd 44 true (.ld 48 (.t 47) (some 8)),[],false⟩,
   ⟨.gd 44 true (.mv 49 (.t 4)),[],false⟩,
   ⟨.gd 44 true (.mv 50 (.t 7)),[],false⟩,
   ⟨.gd 44 true (.ia 51 (.t 49) (.t 50) 8),[],false⟩,
   ⟨.gd 44 true (.ld 52 (.t 51) (some 8)),[],false⟩,
   ⟨.gd 44 true (.cl (some 53) 294 [(.t 48),(.t 52)]),[],false⟩,
   ⟨.gd 39 false (.pk 54 (.t 44) (.t 53) (.c (.b false))),[],false⟩,
   ⟨.pk 55 (.t 39) (.c (.b true)) (.t 54),[],false⟩])
  (.i (.t 55) (.q (.o [.mv 56 (.t 5),
   .mv 57 (.t 3),
   .mv 58 (.t 6),
   .ia 59 (.t 57) (.t 58) 8,
   .ld 60 (.t 59) (some 8),
   .lbs 61 (.ag [(.s []),(.i .i64 0),(.i .i64 0),(.i .i64 0),(.s []),(.s []),(.s []),(.b false)]) 8 1 [(0,(.t 60))],
   .ap 62 (.t 56) (.t 61) 8 96,
   .mv 5 (.t 62)])
  (.o [.mv 63 (.t 6),
   .bn 64 .add (.t 63) (.c (.i .i64 1)),
   .mv 6 (.t 64)]))
  (.q (.o [.mv 65 (.t 5),
   .mv 66 (.t 4),
   .mv 67 (.t 7),
   .ia 68 (.t 66) (.t 67) 8,
   .ld 69 (.t 68) (some 8),
   .lbs 70 (.ag [(.s []),(.i .i64 0),(.i .i64 0),(.i .i64 0),(.s []),(.s []),(.s []),(.b false)]) 8 1 [(0,(.t 69))],
   .ap 71 (.t 65) (.t 70) 8 96,
   .mv 5 (.t 71)])
  (.o [.mv 72 (.t 7),
   .bn 73 .add (.t 72) (.c (.i .i64 1)),
   .mv 7 (.t 73)]))))))))
  (.q (.o [.mv 74 (.t 5),
   .mv 2 (.t 74)])
  (.r)))))))))⟩
abbrev WM:Nat:=226
theorem Jfr:Qi Go.Proofs.Tryz.prog QC 226=true:=by kernel_rfl
def Xx:Fn:=⟨2,[(.t 4)],
  .q (.o [.mv 4 (.c (.s []))])
  (.q (.q (.o [.mv 5 (.c (.i .i64 0))])
  (.b 0 (.l [0,1,5] (.q (.q (.o [.mv 6 (.t 5),
   .mv 7 (.t 0),
   .ln 8 (.t 7),
   .bn 9 .lss (.t 6) (.t 8)])
  (.i (.t 9) (.k)
  (.x 0)))
  (.q (.b 1 (.q (.o [.mv 12 (.t 0),
   .mv 13 (.t 5),
   .ia 14 (.t 12) (.t 13) 8,
   .fa 15 (.t 14) 5,
   .ld 16 (.t 15) none,
   .mv 17 (.t 1),
   .bn 18 .eql (.t 16) (.t 17)])
  (.i (.t 18) (.q (.o [.mv 19 (.t 0),
   .mv 20 (.t 5),
   .ia 21 (.t 19) (.t 20) 8,
   .fa 22 (.t 21) 0,
   .fa 23 (.t 22) 0,
   .ld 24 (.t 23) none,
   .mv 4 (.t 24)])
  (.r))
  (.k))))
  (.o [.mv 10 (.t 5),
   .bn 11 .add (.t 10) (.c (.i .i64 1)),
   .mv 5 (.t 11)]))))))
  (.q (.o [.mv 25 (.t 1),
   .mv 4 (.t 25)])
  (.r)))⟩
abbrev XH:Nat:=227
theorem JeS:Qi Go.Proofs.Tryz.prog Xx 227=true:=by kernel_rfl
def Wi:Fn:=⟨2,[(.t 4)],
  .q (.o [.lbx 2 (.t 0),
   .lbx 3 (.t 1),
   .mv 4 (.c (.b false))])
  (.q (.q (.o [.fa 6 (.t 2) 0,
   .ld 7 (.t 6) none,
   .fa 8 (.t 3) 0,
   .ld 9 (.t 8) none,
   .bn 10 .neq (.t 7) (.t 9),
   .mv 11 (.t 10),
   .gd 11 false (.fa 12 (.t 2) 1),
   .gd 11 false (.ld 13 (.t 12) none),
   .gd 11 false (.fa 14 (.t 3) 1),
   .gd 11 false (.ld 15 (.t 14) none),
   .gd 11 false (.bn 16 .neq (.t 13) (.t 15)),
   .pk 17 (.t 11) (.c (.b true)) (.t 16),
   .mv 18 (.t 17),
   .gd 18 false (.fa 19 (.t 2) 2),
   .gd 18 false (.ld 20 (.t 19) none),
   .gd 18 false (.fa 21 (.t 3) 2),
   .gd 18 false (.ld 22 (.t 21) none),
   .gd 18 false (.bn 23 .neq (.t 20) (.t 22)),
   .pk 24 (.t 18) (.c (.b true)) (.t 23),
   .mv 25 (.t 24),
   .gd 25 false (.fa 26 (.t 2) 3),
   .gd 25 false (.ld 27 (.t 26) none),
   .gd 25 false (.ln 28 (.t 27)),
   .gd 25 false (.fa 29 (.t 3) 3),
   .gd 25 false (.ld 30 (.t 29) none),
   .gd 25 false (.ln 31 (.t 30)),
   .gd 25 false (.bn 32 .neq (.t 28) (.t 31)),
   .pk 33 (.t 25) (.c (.b true)) (.t 32)])
  (.i (.t 33) (.q (.o [.mv 4 (.c (.b false))])
  (.r))
  (.k)))
  (.q (.q (.o [.mv 5 (.c (.i .i64 0))])
  (.b 0 (.l [2,3,5] (.q (.q (.o [.mv 34 (.t 5),
   .fa 35 (.t 2) 3,
   .ld 36 (.t 35) none,
   .ln 37 (.t 36),
   .bn 38 .lss (.t 34) (.t 37)])
  (.i (.t 38) (.k)
  (.x 0)))
  (.q (.b 1 (.q (.p [⟨.fa 41 (.t 2) 3,[],false⟩,
   ⟨.ld 42 (.t 41) none,[],false⟩,
   ⟨.mv 43 (.t 5),[],false⟩,
   ⟨.ia 44 (.t 42) (.t 43) 1,[],false⟩,
   ⟨.ld 45 (.t 44) none,[],false⟩,
   ⟨.fa 46 (.t 3) 3,[],false⟩,
   ⟨.ld 47 (.t 46) none,[],false⟩,
   ⟨.mv 48 (.t 5),[],false⟩,
   ⟨.ia 49 (.t 47) (.t 48) 1,[],false⟩,
   ⟨.ld 50 (.t 49) none,[],false⟩,
   ⟨.bn 51 .neq (.t 45) (.t 50),[],false⟩])
  (.i (.t 51) (.q (.o [.mv 4 (.c (.b false))])
  (.r))
  (.k))))
  (.o [.mv 39 (.t 5),
   .bn 40 .add (.t 39) (.c (.i .i64 1)),
   .mv 5 (.t 40)]))))))
  (.q (.o [.mv 4 (.c (.b true))])
  (.r))))⟩
abbrev XO:Nat:=245
theorem Jc4:Qi Go.Proofs.Tryz.prog Wi 245=true:=by kernel_rfl
def YP:Fn:=⟨4,[(.t 8)],
  .q (.o [.mv 8 (.c (.b false))])
  (.q (.q (.o [.mv 9 (.c (.i .i64 0))])
  (.b 0 (.l [0,1,2,3,9] (.q (.q (.o [.mv 10 (.t 9),
   .mv 11 (.t 1),
   .bn 12 .lss (.t 10) (.t 11)])
  (.i (.t 12) (.k)
  (.x 0)))
  (.q (.b 1 (.q (.o [.mv 15 (.t 0),
   .mv 16 (.t 9),
   .ia 17 (.t 15) (.t 16) 8,
   .fa 18 (.t 17) 7,
   .ld 19 (.t 18) none,
   .un 20 .not (.t 19),
   .mv 21 (.t 20),
   .gd 21 true (.mv 22 (.t 0)),
   .gd 21 true (.mv 23 (.t 9)),
   .gd 21 true (.ia 24 (.t 22) (.t 23) 8),
   .gd 21 true (.fa 25 (.t 24) 5),
   .gd 21 true (.ld 26 (.t 25) none),
   .gd 21 true (.mv 27 (.t 2)),
   .gd 21 true (.bn 28 .eql (.t 26) (.t 27)),
   .pk 29 (.t 21) (.t 28) (.c (.b false)),
   .mv 30 (.t 29),
   .gd 30 true (.mv 31 (.t 0)),
   .gd 30 true (.mv 32 (.t 9)),
   .gd 30 true (.ia 33 (.t 31) (.t 32) 8),
   .gd 30 true (.fa 34 (.t 33) 0),
   .gd 30 true (.fa 35 (.t 34) 1),
   .gd 30 true (.ld 36 (.t 35) none),
   .gd 30 true (.mv 37 (.t 3)),
   .gd 30 true (.bn 38 .eql (.t 36) (.t 37)),
   .pk 39 (.t 30) (.t 38) (.c (.b false))])
  (.i (.t 39) (.q (.o [.mv 8 (.c (.b true))])
  (.r))
  (.k))))
  (.o [.mv 13 (.t 9),
   .bn 14 .add (.t 13) (.c (.i .i64 1)),
   .mv 9 (.t 14)]))))))
  (.q (.o [.mv 8 (.c (.b false))])
  (.r)))⟩
abbrev Wv:Nat:=292
theorem Jgw:Qi Go.Proofs.Tryz.prog YP 292=true:=by kernel_rfl
def Wn:Fn:=⟨1,[(.t 2)],
  .q (.o [.mv 2 (.c (.b false))])
  (.q (.o [.mv 3 (.t 0),
   .lns 4 (.t 3),
   .bn 5 .gtr (.t 4) (.c (.i .i64 1)),
   .mv 6 (.t 5),
   .gd 6 true (.mv 7 (.t 0)),
   .gd 6 true (.ss 8 (.t 7) none (some (.c (.i .i64 2)))),
   .gd 6 true (.bn 9 .eql (.t 8) (.c (.s [1,42]))),
   .pk 10 (.t 6) (.t 9) (.c (.b false)),
   .mv 2 (.t 10)])
  (.r))⟩
abbrev Wm:Nat:=293
theorem JcZ:Qi Go.Proofs.Tryz.prog Wn 293=true:=by kernel_rfl
def WJ:Fn:=⟨2,[(.t 4)],
  .q (.o [.lbx 2 (.t 0),
   .lbx 3 (.t 1),
   .mv 4 (.c (.b false))])
  (.q (.q (.o [.fa 5 (.t 2) 5,
   .ld 6 (.t 5) none,
   .fa 7 (.t 3) 5,
   .ld 8 (.t 7) none,
   .bn 9 .neq (.t 6) (.t 8)])
  (.i (.t 9) (.q (.o [.fa 10 (.t 2) 5,
   .ld 11 (.t 10) none,
   .fa 12 (.t 3) 5,
   .ld 13 (.t 12) none,
   .cl (some 14) 124 [(.t 11),(.t 13)],
   .bn 15 .lss (.t 14) (.c (.i .i64 0)),
   .mv 4 (.t 15)])
  (.r))
  (.k)))
  (.q (.q (.o [.fa 16 (.t 2) 0,
   .fa 17 (.t 16) 1,
   .ld 18 (.t 17) none,
   .fa 19 (.t 3) 0,
   .fa 20 (.t 19) 1,
   .ld 21 (.t 20) none,
   .bn 22 .neq (.t 18) (.t 21)])
  (.i (.t 22) (.q (.o [.fa 23 (.t 2) 0,
   .fa 24 (.t 23) 1,
   .ld 25 (.t 24) none,
   .fa 26 (.t 3) 0,
   .fa 27 (.t 26) 1,
   .ld 28 (.t 27) none,
   .bn 29 .lss (.t 25) (.t 28),
   .mv 4 (.t 29)])
  (.r))
  (.k)))
  (.q (.o [.fa 30 (.t 2) 6,
   .ld 31 (.t 30) none,
   .fa 32 (.t 3) 6,
   .ld 33 (.t 32) none,
   .bn 34 .lss (.t 31) (.t 33),
   .mv 4 (.t 34)])
  (.r))))⟩
abbrev QM:Nat:=294
theorem Jdj:Qi Go.Proofs.Tryz.prog WJ 294=true:=by kernel_rfl
end Go.Vm
