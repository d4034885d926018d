import Derived.Test.YtgoalfkgbiblgaaGreatDoorKb2
import Derived.Control
import Derived.LoopN
import Derived.Laws.BitsLemmas
/- Regions that draw their order: soundness. -/
set_option linter.unusedVariables false
set_option linter.unusedSimpArgs false
namespace Go.Vm
section
variable {P:Program}
theorem JhI {ops:Array Oper}: ∀ {l:List O} {m:List Oper},JbO P ops l m=true→ ∀ (j:Nat) (x:O),l[j]? =some x→ ∃ o,m[j]? =some o∧Jks P x o=true∧Jo4 ops x o=true
 | [],_,_,j,x,hx=>by simp at hx
 | y::l,o::m,h,0,x,hx=>by
  simp only [JbO,Bool.and_eq_true] at h;have:y=x:=by simpa using hx
  subst this;exact ⟨o,rfl,h.1.1,h.1.2⟩
 | y::l,o::m,h,j+1,x,hx=>by
  simp only [JbO,Bool.and_eq_true] at h;obtain ⟨o',h1,h2⟩:=JhI h.2 j x (by simpa using hx)
  exact ⟨o',by simpa using h1,h2⟩
 | _::_,[],h,_,_,_=>by simp [JbO] at h
theorem Ji9 {N:Nat}: ∀ {l:List O},Jme N l=true→ ∀ (j:Nat) (x:O),l[j]? =some x→okD N x=true
 | [],_,j,x,hx=>by simp at hx
 | y::l,h,0,x,hx=>by
  simp only [Jme,Bool.and_eq_true] at h;have:y=x:=by simpa using hx
  exact this▸h.1
 | y::l,h,j+1,x,hx=>by
  simp only [Jme,Bool.and_eq_true] at h;exact Ji9 h.2 j x (by simpa using hx)
end
def Lf (listed:Array Bool) (k:Nat):Bool:=listed.getD k false
theorem JeI {listed:Array Bool} {j k:Nat} (h:j < listed.size):Lf (listed.setIfInBounds j true) k=if j=k then true else Lf listed k:=by
 simp only [Lf,Array.getD_eq_getD_getElem?,Array.getElem?_setIfInBounds];by_cases e:j=k
 ·subst e;simp [h]
 ·simp [e]
structure Dr (P:Program) (C:Tab) (N:Nat) (ops:Array Oper) (l:List PO) (T:List Tr) (e0:Env) (M0:Mem) (e':Env) (M':Mem):Prop where
 tr:trace C 0 [] l e0 M0 T e' M'
 chk:JbO P ops (l.map (·.o)) ops.toList=true
 okd:Jme N (l.map (·.o))=true
 par:JjO 0 [] [] l ops.toList=true
structure Inv (B:Base) (C:Tab) (N:Nat) (ops:Array Oper) (T:List Tr) (e0:Env) (M0:Mem) (listed:Array Bool) (a:Act) (w:World):Prop where
 sz:listed.size=ops.size
 cl: ∀ j o,ops.toList[j]? =some o→Lf listed j=true→ ∀ k,k∈edg o→Lf listed k=true
 st: ∃ ρ,(∀ t,VE ρ (wrt (ws C T) 0 (Lf listed) t (look e0 t)) (a.tmps.getD t undef))∧(∃ A,(∀ pt,prj pt A=wrt (wm pt C T) 0 (Lf listed) () (prj pt M0))∧Qt B ρ A w)∧a.defers=[]∧N≤a.tmps.size
section
variable {P:Program} {B:Base} {C:Tab} {N:Nat} {ops:Array Oper} {l:List PO} {T:List Tr} {e0 e':Env} {M0 M':Mem} {listed:Array Bool} {a:Act} {w:World}
theorem Jju {j d:Nat} {v:AV} (h:(ws C T)[j]? =some (some d,v)): ∃ x,T[j]? =some x∧dsO x.o=some d∧x.v C=v:=by
 simp only [ws,List.getElem?_map] at h;cases hx:T[j]? with
 | none=>rw [hx] at h;cases h
 | some x=>
  rw [hx] at h;simp only [Option.map_some,Option.some.injEq,Prod.mk.injEq] at h;exact ⟨x,rfl,h.1,h.2⟩
theorem Jfy {pt:Bool} {j:Nat} {v:Mem} (h:(wm pt C T)[j]? =some (some (),v)): ∃ x,T[j]? =some x∧(x.on&&isE pt (inn x.o))=true∧prj pt (x.m C)=v:=by
 simp only [wm,List.getElem?_map] at h;cases hx:T[j]? with
 | none=>rw [hx] at h;cases h
 | some x=>
  rw [hx] at h;simp only [Option.map_some,Option.some.injEq,Prod.mk.injEq] at h;refine ⟨x,rfl,?_,h.2⟩
  by_cases he:(x.on&&isE pt (inn x.o))=true
  ·exact he
  ·rw [if_neg he] at h;cases h.1
theorem Dr.at (D:Dr P C N ops l T e0 M0 e' M') {j:Nat} {x:Tr} (hx:T[j]? =some x):
  ∃ p o,l[j]? =some p∧ops.toList[j]? =some o∧x.o=p.o∧x.cf=p.cf∧x.kp=p.kp∧Jks P x.o o=true∧Jo4 ops x.o o=true∧okD N x.o=true∧x.ok C∧
   (∀ t,look x.e t=wrt (ws C T) 0 (fun k=>decide (k < j)) t (look e0 t))∧(∀ pt,prj pt x.M=wrt (wm pt C T) 0 (fun k=>decide (k < j)) () (prj pt M0))∧(∀ k,k∈edg o→k < j):=by
 obtain ⟨-,-,-,q4⟩:=Jcn l T 0 [] e0 M0 e' M' D.tr;obtain ⟨⟨p,h1,h2,h3,h4⟩,h5,h6,h7⟩:=q4 j x hx;have hm:(l.map (·.o))[j]? =some x.o:=by simp [h1,h2]
 obtain ⟨o,k1,k2,k3⟩:=JhI D.chk j x.o hm;refine ⟨p,o,h1,k1,h2,h3,h4,k2,k3,Ji9 D.okd j x.o hm,h5,?_,?_,?_⟩
 ·simpa using h6
 ·simpa using h7
 ·exact (JgF l ops.toList 0 [] [] rfl rfl rfl rfl (fun k hk=>by omega) D.par j p o (by omega) h1 k1).1
theorem Dr.pair (D:Dr P C N ops l T e0 M0 e' M') {i j:Nat} {x y:Tr} (hx:T[i]? =some x) (hy:T[j]? =some y) (hij:i < j):Bef ops.toList i j∨ ∃ p q,l[i]? =some p∧l[j]? =some q∧x.o=p.o∧x.kp=p.kp∧y.o=q.o∧y.cf=q.cf∧JaW i p q=true:=by
 obtain ⟨p,o,h1,h2,h3,h4,h5,-⟩:=D.at hx;obtain ⟨q,o',k1,k2,k3,k4,k5,-⟩:=D.at hy;refine ((JgF l ops.toList 0 [] [] rfl rfl rfl rfl (fun k hk=>by omega) D.par j q o' (by omega) k1 k2).2 i p hij h1).imp_right fun h=>⟨p,q,h1,k1,h3,h5,k3,k4,h⟩
theorem Jli (cl: ∀ j o,ops.toList[j]? =some o→Lf listed j=true→ ∀ k,k∈edg o→Lf listed k=true) {i j:Nat} (h:Bef ops.toList i j):(∀ o,ops.toList[j]? =some o→ ∀ k,k∈edg o→Lf listed k=true)→Lf listed i=true:=by
 induction h with
 | edge h1 h2=>exact fun h=>h _ h1 _ h2
 | step h1 h2 _ ih=>exact fun h=>ih fun o ho=>cl _ o ho (h _ h1 _ h2)
theorem JbR (sz:listed.size=ops.size) {j:Nat} (h:j∈Region.ready .any ops listed): ∃ o,ops[j]? =some o∧j < listed.size∧Lf listed j=false∧ ∀ k,k∈edg o→Lf listed k=true:=by
 obtain ⟨h1,o,h2,h3⟩:=mem_ready.1 h;have hlt:j < ops.size:=(Array.getElem?_eq_some_iff.1 h2).1;refine ⟨o,h2,by omega,?_,fun k hk=> ?_⟩
 ·simp only [Lf,Array.getD_eq_getD_getElem?] at h1 ⊢
  rw [Array.getElem?_eq_getElem (by omega)] at h1 ⊢
  exact h1
 ·obtain ⟨e,he,rfl⟩:=List.mem_map.1 hk
  obtain ⟨he1,he2⟩:=List.mem_filter.1 he;exact h3 e (by simpa using he1) he2
theorem Dr.free (D:Dr P C N ops l T e0 M0 e' M') (cl: ∀ j o,ops.toList[j]? =some o→Lf listed j=true→ ∀ k,k∈edg o→Lf listed k=true) {j:Nat} {x:Tr} (hx:T[j]? =some x) (hl:Lf listed j=false)
  (hr: ∀ o,ops.toList[j]? =some o→ ∀ k,k∈edg o→Lf listed k=true) {k:Nat} {y:Tr} (hy:T[k]? =some y) (hk:Lf listed k≠decide (k < j)):
  (k < j∧Lf listed k=false∧ ∃ p q,l[k]? =some p∧l[j]? =some q∧y.o=p.o∧y.kp=p.kp∧x.o=q.o∧x.cf=q.cf∧JaW k p q=true)∨
  (j < k∧Lf listed k=true∧ ∃ p q,l[j]? =some p∧l[k]? =some q∧x.o=p.o∧x.kp=p.kp∧y.o=q.o∧y.cf=q.cf∧JaW j p q=true):=by
 by_cases h1:k < j
 ·have h2:Lf listed k=false:=by cases hh:Lf listed k<;>simp_all
  refine .inl ⟨h1,h2,(D.pair hy hx h1).resolve_left fun hb=> ?_⟩
  rw [Jli cl hb hr] at h2;cases h2
 ·by_cases h2:k=j
  ·subst h2;rw [hl] at hk;simp at hk
  ·have h3:Lf listed k=true:=by cases hh:Lf listed k<;>simp_all
   refine .inr ⟨by omega,h3,(D.pair hx hy (by omega)).resolve_left fun hb=> ?_⟩
   rw [Jli cl hb fun o ho=>cl k o ho h3] at hl;cases hl
theorem Dr.env (D:Dr P C N ops l T e0 M0 e' M') (cl: ∀ j o,ops.toList[j]? =some o→Lf listed j=true→ ∀ k,k∈edg o→Lf listed k=true) {j:Nat} {x:Tr} (hx:T[j]? =some x) (hl:Lf listed j=false)
  (hr: ∀ o,ops.toList[j]? =some o→ ∀ k,k∈edg o→Lf listed k=true) {t:Nat} (ht:t∈looks x.o):wrt (ws C T) 0 (Lf listed) t (look e0 t)=look x.e t:=by
 obtain ⟨p,o,-,-,-,-,-,-,-,-,-,h1,-⟩:=D.at hx;rw [h1 t];refine Yr fun k v hk=> ?_
 rw [Nat.zero_add];obtain ⟨y,hy,hd,-⟩:=Jju hk;by_cases e:Lf listed k=decide (k < j)
 ·exact e
 ·rcases D.free cl hx hl hr hy e with ⟨-,-,p,q,-,-,e1,-,e2,-,hp⟩ | ⟨-,-,p,q,-,-,e1,-,e2,-,hp⟩
  ·rw [e1] at hd;rw [e2] at ht
   exact absurd ht ((JcG hp).1 t hd).1
  ·rw [e2] at hd;rw [e1] at ht
   exact absurd ht ((JcG hp).2 t hd)
theorem Dr.memE (D:Dr P C N ops l T e0 M0 e' M') (cl: ∀ j o,ops.toList[j]? =some o→Lf listed j=true→ ∀ k,k∈edg o→Lf listed k=true) {j:Nat} {x:Tr} (hx:T[j]? =some x) (hl:Lf listed j=false)
  (hr: ∀ o,ops.toList[j]? =some o→ ∀ k,k∈edg o→Lf listed k=true) {pt:Bool} (he:isE pt (inn x.o)=true):wrt (wm pt C T) 0 (Lf listed) () (prj pt M0)=prj pt x.M:=by
 obtain ⟨p,o,-,-,-,-,-,-,-,-,-,-,h1,-⟩:=D.at hx;rw [h1];refine Yr fun k v hk=> ?_
 rw [Nat.zero_add];obtain ⟨y,hy,hd,-⟩:=Jfy hk;have hye:isE pt (inn y.o)=true:=by simp only [Bool.and_eq_true] at hd;exact hd.2
 by_cases e:Lf listed k=decide (k < j)
 ·exact e
 ·rcases D.free cl hx hl hr hy e with ⟨-,-,p,q,-,-,e1,-,e2,-,hp⟩ | ⟨-,-,p,q,-,-,e1,-,e2,-,hp⟩
  ·rw [e1] at hye;rw [e2] at he
   exact absurd ⟨hye,he⟩ (Jgt hp pt)
  ·rw [e2] at hye;rw [e1] at he
   exact absurd ⟨he,hye⟩ (Jgt hp pt)
theorem Dr.efs (D:Dr P C N ops l T e0 M0 e' M') (cl: ∀ j o,ops.toList[j]? =some o→Lf listed j=true→ ∀ k,k∈edg o→Lf listed k=true) {i k:Nat} {x y:Tr} (hx:T[i]? =some x) (hy:T[k]? =some y) (hik:i < k) {pt:Bool}
  (hex:isE pt (inn x.o)=true) (hey:isE pt (inn y.o)=true) (hk:Lf listed k=true):Lf listed i=true:=by
 rcases D.pair hx hy hik with hb | ⟨p,q,-,-,e1,-,e2,-,hp⟩
 ·exact Jli cl hb fun o ho=>cl k o ho hk
 ·rw [e1] at hex;rw [e2] at hey
  exact absurd ⟨hex,hey⟩ (Jgt hp pt)
theorem Jh4 (p:Nat→Bool): ∀ n,(∃ k,k < n∧p k=true)→ ∃ k,k < n∧p k=true∧ ∀ m,k < m→m < n→p m=false
 | 0,⟨k,hk,_⟩=>by omega
 | n+1,⟨k,hk,hp⟩=>by
  by_cases hn:p n=true
  ·exact ⟨n,by omega,hn,fun m _ _=>by omega⟩
  ·obtain ⟨k',h1,h2,h3⟩:=Jh4 p n ⟨k,by
    rcases Nat.lt_or_ge k n with h | h
    ·exact h
    ·exact absurd (show p n=true by rw [show n=k by omega];exact hp) hn,hp⟩
   refine ⟨k',by omega,h2,fun m hm hm'=> ?_⟩
   by_cases e:m=n
   ·subst e;simpa using hn
   ·exact h3 m hm (by omega)
theorem Jm6 (p:Nat→Bool) (n:Nat) (h: ∃ k,k < n∧p k=true): ∃ k,k < n∧p k=true∧ ∀ m,m < k→p m=false:=by
 obtain ⟨k,hk,hp,hl⟩:=Jh4 (fun i=>p (n-1-i)) n (by
  obtain ⟨k,hk,hp⟩:=h;exact ⟨n-1-k,by omega,by rw [show n-1- (n-1-k)=k by omega];exact hp⟩)
 refine ⟨n-1-k,by omega,hp,fun m hm=> ?_⟩
 have:=hl (n-1-m) (by omega) (by omega)
 rwa [show n-1- (n-1-m)=m by omega] at this
theorem Dr.memR (D:Dr P C N ops l T e0 M0 e' M') (cl: ∀ j o,ops.toList[j]? =some o→Lf listed j=true→ ∀ k,k∈edg o→Lf listed k=true) {j:Nat} {x:Tr} (hx:T[j]? =some x) (hl:Lf listed j=false)
  (hr: ∀ o,ops.toList[j]? =some o→ ∀ k,k∈edg o→Lf listed k=true) (hon:x.on=true) (hk:okO C x.e x.M (inn x.o)) (hrd:J6 (inn x.o)=true) {A:Mem} (hA: ∀ pt,prj pt A=wrt (wm pt C T) 0 (Lf listed) () (prj pt M0)):
  okO C x.e A (inn x.o)∧vlO C x.e A (inn x.o)=vlO C x.e x.M (inn x.o):=by
 obtain ⟨pt,hpt⟩:=Jqb C x.e hrd
 have fin: ∀ A',wrt (wm pt C T) 0 (Lf listed) () (prj pt M0)=prj pt A'→okO C x.e A' (inn x.o)∧vlO C x.e A' (inn x.o)=vlO C x.e x.M (inn x.o)→okO C x.e A (inn x.o)∧vlO C x.e A (inn x.o)=vlO C x.e x.M (inn x.o):=fun A' h1 h2=>by
  obtain ⟨g1,g2⟩:=hpt A A' ((hA pt).trans h1);rw [g1,g2];exact h2
 obtain ⟨p,o,-,-,-,-,-,-,-,-,-,-,hM,-⟩:=D.at hx
 let ef:Nat→Bool:=fun k=>match T[k]? with
  | some y=>y.on&&isE pt (inn y.o)
  | none=>false
 have efT: ∀ k,ef k=true→ ∃ y,T[k]? =some y∧y.on=true∧isE pt (inn y.o)=true:=fun k h=>by
  simp only [ef] at h;split at h
  ·rename_i y hy;exact ⟨y,hy,by simpa using h⟩
  ·cases h
 have efw: ∀ {k:Nat} {v:Mem},(wm pt C T)[k]? =some (some (),v)→ef k=true:=fun {k v} h=>by
  obtain ⟨y,hy,hd,-⟩:=Jfy h;simp only [ef,hy];exact hd
 by_cases ha: ∃ k,k < j∧(ef k&& !Lf listed k)=true
 ·
  obtain ⟨k,hkj,hke,hkf⟩:=Jm6 (fun k=>ef k&& !Lf listed k) j ha
  simp only [Bool.and_eq_true,Bool.not_eq_true'] at hke;obtain ⟨y,hy,hyo,hye⟩:=efT k hke.1;obtain ⟨-,-,-,-,-,-,-,-,-,-,-,-,hyM,-⟩:=D.at hy
  have hmem:wrt (wm pt C T) 0 (Lf listed) () (prj pt M0)=prj pt y.M:=by
   rw [hyM];refine Yr fun m v hm=> ?_
   rw [Nat.zero_add];have hem:=efw hm;obtain ⟨z,hz,hzo,hze⟩:=efT m hem;rcases Nat.lt_trichotomy m k with h | h | h
   ·have:=hkf m h
    rw [hem] at this;simp only [Bool.true_and,Bool.not_eq_false'] at this;simp [this,h]
   ·subst h;simp [hke.2]
   ·have:Lf listed m=false:=by
     cases hh:Lf listed m
     ·rfl
     ·rw [D.efs cl hy hz h hye hze hh] at hke;cases hke.2
    rw [this];simp;omega
  rcases D.free cl hx hl hr hy (by rw [hke.2];simp;exact hkj) with ⟨-,-,p,q,-,-,e1,e1',e2,e2',hp⟩ | ⟨h,-⟩
  ·obtain ⟨c1,c2⟩:=JkL hp (.inr ⟨by rw [←e1];exact JiL hye,by rw [←e2];exact hrd⟩)
   obtain ⟨lg',g1,g2,-⟩:=JfX l T 0 [] e0 M0 e' M' D.tr j x hx hon;have:=g2 k y hkj hy hyo (e1'.trans c2);rw [Nat.zero_add] at this;exact fin _ hmem ((Jlq this g1 (by rw [e2'];exact c1)).1 hrd)
  ·omega
 ·by_cases hb: ∃ k,k < T.length∧(ef k&&Lf listed k&&decide (j < k))=true
  ·
   obtain ⟨k,hkn,hke,hkl⟩:=Jh4 (fun k=>ef k&&Lf listed k&&decide (j < k)) T.length hb
   simp only [Bool.and_eq_true,decide_eq_true_eq] at hke;obtain ⟨⟨hk1,hk2⟩,hk3⟩:=hke;obtain ⟨y,hy,hyo,hye⟩:=efT k hk1
   have hmem:wrt (wm pt C T) 0 (Lf listed) () (prj pt M0)=prj pt (mmO C y.e y.M (inn y.o)):=by
    have hg:(wm pt C T)[k]? =some (some (),prj pt (y.m C)):=by simp [wm,hy,hyo,hye]
    have hv:y.m C=mmO C y.e y.M (inn y.o):=by simp [Tr.m,hyo]
    rw [←hv];refine JdP hg (by rw [Nat.zero_add];exact hk2) fun m v hm hg'=> ?_
    rw [Nat.zero_add]
    have hlt:m < T.length:=by
     obtain ⟨z,hz,-⟩:=Jfy hg';exact (List.getElem?_eq_some_iff.1 hz).1
    have:=hkl m hm hlt;rw [efw hg'] at this;simp only [Bool.true_and,Bool.and_eq_false_iff,decide_eq_false_iff_not] at this;rcases this with h | h
    ·exact h
    ·omega
   rcases D.free cl hx hl hr hy (by rw [hk2];simp;omega) with ⟨h,-⟩ | ⟨-,-,p,q,-,-,e1,e1',e2,e2',hp⟩
   ·omega
   ·obtain ⟨c1,c2⟩:=JkL hp (.inl ⟨by rw [←e1];exact hrd,by rw [←e2];exact JiL hye⟩)
    obtain ⟨lg',g1,g2,-⟩:=JfX l T 0 [] e0 M0 e' M' D.tr k y hy hyo;have:=g2 j x hk3 hx hon (e1'.trans c2);rw [Nat.zero_add] at this;exact fin _ hmem ((Jlq this g1 (by rw [e2'];exact c1)).2 (Jlj (JiL hye)))
  ·have hmem:wrt (wm pt C T) 0 (Lf listed) () (prj pt M0)=prj pt x.M:=by
    rw [hM];refine Yr fun m v hm=> ?_
    rw [Nat.zero_add];have hem:=efw hm;obtain ⟨z,hz,hzo,hze⟩:=efT m hem;have hlt:=(List.getElem?_eq_some_iff.1 hz).1;by_cases h1:m < j
    ·have:Lf listed m=true:=by
      cases hh:Lf listed m
      ·exact absurd ⟨m,h1,by rw [hem,hh];rfl⟩ ha
      ·rfl
     simp [this,h1]
    ·by_cases h2:m=j
     ·subst h2
      simp [hl]
     ·have:Lf listed m=false:=by
       cases hh:Lf listed m
       ·rfl
       ·exact absurd ⟨m,hlt,by rw [hem,hh];simp;omega⟩ hb
      rw [this];simp;omega
   exact fin _ hmem ⟨hk,rfl⟩
theorem Dr.step (D:Dr P C N ops l T e0 M0 e' M') (hC:Yj P C) (hG:B.G=P.globals.size) {Q:Exit→Act→World→Prop} {K:Act→World→Prop} {j:Nat} (I:Inv B C N ops T e0 M0 listed a w) (hj:j∈Region.ready .any ops listed)
  (hK: ∀ a' w',Inv B C N ops T e0 M0 (listed.setIfInBounds j true) a' w'→K a' w'):wpOp P ops Q j K a w:=by
 obtain ⟨o,ho,hjs,hl,hre⟩:=JbR I.sz hj;have hol:ops.toList[j]? =some o:=by simpa using ho
 obtain ⟨q1,-⟩:=Jcn l T 0 [] e0 M0 e' M' D.tr
 have hTl:T.length=ops.size:=by
  rw [q1,←Array.length_toList,←Ja2 D.chk,List.length_map]
 have hss:=I.sz;obtain ⟨x,hx⟩: ∃ x,T[j]? =some x:=⟨T[j]'(by omega),List.getElem?_eq_getElem (by omega)⟩
 obtain ⟨p,o',-,h2,h3,h4,h5,c1,c2,hd,hok,henv,hM,hedg⟩:=D.at hx;rw [hol] at h2;cases h2;have hr: ∀ o,ops.toList[j]? =some o→ ∀ k,k∈edg o→Lf listed k=true:=fun o ho'=>by rw [hol] at ho';cases ho';exact hre
 obtain ⟨ρ,i1,⟨A,hA,i2⟩,i3,i4⟩:=I.st;have hlook: ∀ t,t∈looks x.o→VE ρ (look x.e t) (a.tmps.getD t undef):=fun t ht=>by rw [←D.env I.cl hx hl hr ht];exact i1 t
 have hcl: ∀ k o,ops.toList[k]? =some o→Lf (listed.setIfInBounds j true) k=true→ ∀ m,m∈edg o→Lf (listed.setIfInBounds j true) m=true:=fun k o ho' hk m hm=>by
  rw [JeI hjs] at hk ⊢;by_cases e:j=k
  ·subst e
   by_cases e2:j=m
   ·rw [if_pos e2]
   ·rw [if_neg e2];exact hr o ho' m hm
  ·rw [if_neg e] at hk
   by_cases e2:j=m
   ·rw [if_pos e2]
   ·rw [if_neg e2];exact I.cl k o ho' hk m hm
 have hother: ∀ k y,T[k]? =some y→j < k→Lf listed k=true→(∀ d,dsO x.o=some d→dsO y.o≠some d)∧ ∀ pt,¬ (isE pt (inn x.o)=true∧isE pt (inn y.o)=true):=fun k y hy hk hkl=>by
  rcases D.free I.cl hx hl hr hy (by rw [hkl];simp;omega) with ⟨h,-⟩ | ⟨-,-,p,q,-,-,e1,-,e2,-,hp⟩
  ·omega
  ·refine ⟨fun d hdx=> ?_,?_⟩
   ·rw [e1] at hdx;rw [e2];exact ((JcG hp).1 d hdx).2
   ·rw [e1,e2];exact Jgt hp
 have hnew: ∀ t,wrt (ws C T) 0 (Lf (listed.setIfInBounds j true)) t (look e0 t)=if dsO x.o=some t then x.v C else wrt (ws C T) 0 (Lf listed) t (look e0 t):=fun t=>by
  by_cases e:dsO x.o=some t
  ·rw [if_pos e]
   refine JdP (k:=j) (by simp [ws,hx,e]) (by rw [Nat.zero_add,JeI hjs,if_pos rfl]) fun k v hk hg=> ?_
   obtain ⟨y,hy,hdy,-⟩:=Jju hg;rw [Nat.zero_add,JeI hjs,if_neg (by omega)]
   cases hh:Lf listed k
   ·rfl
   ·exact absurd hdy ((hother k y hy hk hh).1 t e)
  ·rw [if_neg e]
   refine Yr fun k v hg=> ?_
   obtain ⟨y,hy,hdy,-⟩:=Jju hg;rw [Nat.zero_add,JeI hjs,if_neg];rintro rfl;rw [hx] at hy;cases hy;exact e hdy
 have hmnew: ∀ pt,wrt (wm pt C T) 0 (Lf (listed.setIfInBounds j true)) () (prj pt M0)=if (x.on&&isE pt (inn x.o))=true then prj pt (x.m C) else wrt (wm pt C T) 0 (Lf listed) () (prj pt M0):=fun pt=>by
  by_cases e:(x.on&&isE pt (inn x.o))=true
  ·rw [if_pos e]
   refine JdP (k:=j) (by simp only [wm,List.getElem?_map,hx,Option.map_some];rw [if_pos e]) (by rw [Nat.zero_add,JeI hjs,if_pos rfl]) fun k v hk hg=> ?_
   obtain ⟨y,hy,hdy,-⟩:=Jfy hg;rw [Nat.zero_add,JeI hjs,if_neg (by omega)]
   cases hh:Lf listed k
   ·rfl
   ·simp only [Bool.and_eq_true] at e hdy
    exact absurd ⟨e.2,hdy.2⟩ ((hother k y hy hk hh).2 pt)
  ·rw [if_neg e]
   refine Yr fun k v hg=> ?_
   obtain ⟨y,hy,hdy,-⟩:=Jfy hg;rw [Nat.zero_add,JeI hjs,if_neg];rintro rfl;rw [hx] at hy;cases hy;exact e hdy
 have hsz:(listed.setIfInBounds j true).size=ops.size:=by simp [I.sz]
 have hput: ∀ {ρ':Rn} {w':World} {v:Value} {A':Mem},dOk N (dsO x.o)=true→o.dst=dsO x.o→ρ.LeL ρ'→VE ρ' (x.v C) v→Qt B ρ' A' w'→(∀ pt,prj pt A'=wrt (wm pt C T) 0 (Lf (listed.setIfInBounds j true)) () (prj pt M0))→
   Inv B C N ops T e0 M0 (listed.setIfInBounds j true) (a.put o.dst v) w':=fun {ρ' w' v A'} hdk hds hle hv hm' hA'=>by
  refine ⟨hsz,hcl,ρ',fun t=> ?_,⟨A',hA',hm'⟩,?_,?_⟩
  ·rw [hnew t,hds]
   cases hdd:dsO x.o with
   | none=>simp only [Act.put];rw [if_neg (by simp)];exact (i1 t).mono hle
   | some d=>
    rw [hdd] at hdk;have hlt:d < N:=by simpa [dOk] using hdk
    simp only [Act.put];rw [Jji _ _ _ _ (by omega)]
    by_cases ht:d=t
    ·subst ht;rw [if_pos rfl,if_pos rfl];exact hv
    ·rw [if_neg (by simpa using ht),if_neg ht];exact (i1 t).mono hle
  ·rw [hds];cases dsO x.o<;>exact i3
  ·rw [hds];cases dsO x.o<;>simpa [Act.put] using i4
 have hrunning:x.on=true→okO C x.e x.M (inn x.o)→sup (inn x.o)=true→dOk N (dsO (inn x.o))=true→o.dst=dsO (inn x.o)→Jy P (inn x.o) o.op=true→(∀ t,t∈Jhk (Jrp (inn x.o))→t∈looks x.o)→Jm8 (inn x.o)=false→o.wp P a w K Q:=by
  intro hon hk hs hdk hds hco hlk hng;have hv:x.v C=vlO C x.e x.M (inn x.o):=by simp [Tr.v,hon]
  have hmm:x.m C=mmO C x.e x.M (inn x.o):=by simp [Tr.m,hon]
  have key:okO C x.e A (inn x.o)∧vlO C x.e A (inn x.o)=vlO C x.e x.M (inn x.o)∧ ∀ pt,isE pt (inn x.o)=true→prj pt (mmO C x.e A (inn x.o))=prj pt (mmO C x.e x.M (inn x.o)):=by
   by_cases he:Jlb (inn x.o)=true
   ·obtain ⟨g1,g2,g3⟩:=JpZ (C:=C) (e:=x.e) (x:=inn x.o) (A:=A) (M:=x.M) (fun pt hp=>by rw [hA pt,D.memE I.cl hx hl hr hp]) he
    exact ⟨by rw [g1];exact hk,g2,g3⟩
   ·have hne: ∀ pt,isE pt (inn x.o)=true→prj pt (mmO C x.e A (inn x.o))=prj pt (mmO C x.e x.M (inn x.o)):=fun pt hp=>absurd (JiL hp) he
    by_cases hrd:J6 (inn x.o)=true
    ·obtain ⟨g1,g2⟩:=D.memR I.cl hx hl hr hon hk hrd hA
     exact ⟨g1,g2,hne⟩
    ·have:=Jnq (C:=C) (M:=A) (M':=x.M) (e:=x.e) (by simpa using he) (by simpa using hrd) hng
     exact ⟨by rw [this.1];exact hk,this.2,hne⟩
  have hOE:OE P ρ x.e a (Jrp (inn x.o)):=fun y z hy hc=>JcF i2 hG hc fun t ht=>hlook t (hlk t (Jhi (ht▸hy)))
  refine Jog hC hG hs hco key.1 hOE i2 K Q fun v w' ⟨ρ',g1,g2,g3⟩=>hK _ _ ?_
  rw [key.2.1,←hv] at g2;refine hput (by rw [JkH];exact hdk) (by rw [hds,←JkH]) g1 g2 g3 fun pt=> ?_
  rw [hmnew];by_cases he:isE pt (inn x.o)=true
  ·rw [if_pos (by rw [hon,he];rfl),hmm]
   exact key.2.2 pt he
  ·rw [if_neg (by rw [hon];simpa using he),JhA (by simpa using he),hA]
 unfold wpOp;rw [ho];simp only;rcases Jl0 x.o with ⟨t,b,y,hxo⟩ | hng
 ·rw [hxo] at c1 c2 hd
  have hdd:sup y=true∧dOk N (dsO y)=true:=by simpa [okD] using hd
  obtain ⟨d1,d2⟩:=Jlg c1;have hok':(look x.e t= .b b∧x.on=true∧okO C x.e x.M y)∨(Jim b (look x.e t)∧x.on=false):=by unfold Tr.ok at hok;rw [hxo] at hok;exact hok
  have hvt:=hlook t (by rw [hxo];simp [looks])
  have hin:inn x.o=y:=by rw [hxo];rfl
  rcases hok' with ⟨g1,g2,g3⟩ | ⟨g1,g2⟩
  ·rw [g1] at hvt
   have hw:=Jep (a:=a) c1 c2 (b':=b) hvt;rw [if_pos (by rw [hw];simp)]
   refine .inl (hrunning g2 (by rw [hin];exact g3) (by rw [hin];exact hdd.1) (by rw [hin];exact hdd.2) (by rw [hin];exact d1) (by rw [hin];exact d2) (fun t' ht'=>by rw [hin] at ht';rw [hxo];simp [looks,ht']) ?_)
   rw [hin];cases y<;>first | rfl | exact Bool.noConfusion (show false=true from hdd.1)
  ·have hw:Region.wanted o (yielded ops a.tmps)=false:=by
    rcases g1 with g1 | g1
    ·rw [g1] at hvt
     rw [Jep (a:=a) c1 c2 (b':= !b) hvt];cases b<;>rfl
    ·rw [g1] at hvt
     exact JfF (a:=a) c1 c2 hvt.tp0
   rw [if_neg (by rw [hw];simp)]
   refine hK _ _ (hput (ρ':=ρ) (by rw [hxo];exact hdd.2) (by rw [hxo];exact d1) (.refl ρ) (by simp only [Tr.v,g2];exact VE.undef) i2 fun pt=> ?_)
   rw [hmnew,if_neg (by rw [g2];simp)]
   exact hA pt
 ·rw [if_pos (Je4 hng c1)]
  rw [Tr.ok_ng hng] at hok;rw [JfP hng] at c1;simp only [Bool.and_eq_true,beq_iff_eq] at c1
  have hsp:isSp x.o=false:=by
   rcases Jkk x.o with ⟨t,b,y,hy⟩ | ⟨d,y,hy⟩ | hy
   ·rw [hy] at hng;cases hng
   ·rw [hy] at hok;exact hok.2.elim
   ·exact hy
  rw [JoJ hsp] at hd;have hs:sup x.o=true∧dOk N (dsO x.o)=true:=by simpa using hd
  have hin:=Jol hng
  exact .inl (hrunning hok.1 (by rw [hin];exact hok.2) (by rw [hin];exact hs.1) (by rw [hin];exact hs.2) (by rw [hin];exact c1.1.2) (by rw [hin];exact c1.2) (fun t' ht'=>by
   rw [hin] at ht';cases hxo:x.o<;>rw [hxo] at ht' hng<;>first | exact ht' | exact Bool.noConfusion (show true=false from hng)) (by rw [hin];exact hng))
theorem Dr.all (D:Dr P C N ops l T e0 M0 e' M') (I:Inv B C N ops T e0 M0 listed a w) (h:Region.ready .any ops listed=[]):Ex B N e' M' a w:=by
 have hall: ∀ j,j < ops.size→Lf listed j=true:=by
  intro j;induction j using Nat.strongRecOn with
  | ind j ih=>
   intro hj;cases hl:Lf listed j
   ·exfalso
    have hmem:j∈Region.ready .any ops listed:=by
     refine mem_ready.2 ⟨?_,ops[j],by simp [hj],fun e he hb=> ?_⟩
     ·have:=I.sz
      simp only [Lf,Array.getD_eq_getD_getElem?] at hl ⊢;rw [Array.getElem?_eq_getElem (by omega)] at hl ⊢
      exact hl
     ·obtain ⟨q1,-⟩:=Jcn l T 0 [] e0 M0 e' M' D.tr
      have hTl:T.length=ops.size:=by rw [q1,←Array.length_toList,←Ja2 D.chk,List.length_map]
      obtain ⟨p,o,-,h2,-,-,-,-,-,-,-,-,-,hedg⟩:=D.at (j:=j) (x:=T[j]'(by omega)) (List.getElem?_eq_getElem (by omega))
      have:o=ops[j]:=by
       have:ops[j]? =some o:=by simpa using h2
       rw [Array.getElem?_eq_getElem hj] at this;exact (Option.some.inj this).symm
      subst this;have hm:e.on∈edg ops[j]:=List.mem_map.2 ⟨e,List.mem_filter.2 ⟨by simpa using he,hb⟩,rfl⟩
      have hlt:=hedg _ hm;exact ih _ hlt (by omega)
    rw [h] at hmem;cases hmem
   ·rfl
 obtain ⟨q1,q2,q3,-⟩:=Jcn l T 0 [] e0 M0 e' M' D.tr;have hTl:T.length=ops.size:=by rw [q1,←Array.length_toList,←Ja2 D.chk,List.length_map]
 obtain ⟨ρ,i1,⟨A,hA,i2⟩,i3,i4⟩:=I.st
 have hAM:A=M':=JkP fun pt=>by
  rw [hA pt,q3 pt (fun _=>true) fun _ _=>rfl]
  refine Yr fun k v hk=> ?_
  obtain ⟨y,hy,-⟩:=Jfy hk;have:=(List.getElem?_eq_some_iff.1 hy).1;rw [Nat.zero_add,hall k (by omega)]
 refine ⟨ρ,fun t=> ?_,hAM▸i2,i3,i4⟩
 ·rw [q2 t (fun _=>true) fun _ _=>rfl]
  rw [Yr (L':=Lf listed) fun k v hk=> ?_]
  ·exact i1 t
  ·obtain ⟨y,hy,-⟩:=Jju hk
   have:=(List.getElem?_eq_some_iff.1 hy).1;rw [Nat.zero_add,hall k (by omega)]
theorem Dr.go (D:Dr P C N ops l T e0 M0 e' M') (hC:Yj P C) (hG:B.G=P.globals.size) {Q:Exit→Act→World→Prop} (hQ: ∀ a w,Ex B N e' M' a w→Q .normal a w):
  ∀ (fuel:Nat) (listed:Array Bool) (a:Act) (w:World),ops.size≤listed.toList.count true+fuel→Inv B C N ops T e0 M0 listed a w→wpAny P .any ops Q fuel listed a w
 | 0,listed,a,w,hf,I=>by
  have hr:Region.ready .any ops listed=[]:=by
   refine List.eq_nil_iff_forall_not_mem.2 fun j hj=> ?_
   obtain ⟨o,ho,hjs,hl,-⟩:=JbR I.sz hj
   have hlen:listed.toList.count true=listed.toList.length:=by
    have:=List.count_le_length (a:=true) (l:=listed.toList);have:=I.sz;rw [Array.length_toList] at*;omega
   have:=List.count_eq_length.1 hlen (listed[j]) (by simp)
   simp only [Lf,Array.getD_eq_getD_getElem?] at hl;rw [Array.getElem?_eq_getElem hjs] at hl;simp only [Option.getD_some] at hl;rw [hl] at this;cases this
  exact ⟨hr,hQ _ _ (D.all I hr)⟩
 | fuel+1,listed,a,w,hf,I=>by
  refine ⟨fun hr=>hQ _ _ (D.all I hr),fun j hj=>D.step hC hG I hj fun a' w' I'=>Dr.go D hC hG hQ fuel _ a' w' ?_ I'⟩
  obtain ⟨o,ho,hjs,hl,-⟩:=JbR I.sz hj;simp only [Lf,Array.getD_eq_getD_getElem?] at hl;rw [Array.getElem?_eq_getElem hjs] at hl;simp only [Option.getD_some] at hl;have hlj:listed.toList[j]'(by simpa using hjs)=false:=by simpa using hl
  rw [Array.toList_setIfInBounds,List.count_set (by simpa using hjs),hlj,if_neg (by decide),if_pos (by decide)]
  omega
end
def JuX (P:Program) (N:Nat) (l:List PO) (ops:Array Oper):Bool:=JbO P ops (l.map (·.o)) ops.toList&&Jme N (l.map (·.o)) &&JjO 0 [] [] l ops.toList
section
variable {P:Program} {B:Base} {C:Tab} {M:Mem} {w:World} {e:Env} {a:Act} {N:Nat}
theorem JpC {id:Nat} {ops:Array Oper} {Q:Exit→Act→World→Prop} {κ:Env→Mem→Prop} {l:List PO} (hC:Yj P C) (hG:B.G=P.globals.size) (hmx:P.follows .mixedOrders=true) (hQ: ∀ e M a w,κ e M→Ex B N e M a w→Q .normal a w)
  (hc:JuX P N l ops=true) (hk:JZ C 0 [] l e M κ) (h:Ex B N e M a w):(Code.region id ops true).wp P Q a w:=by
 simp only [JuX,Bool.and_eq_true] at hc;obtain ⟨T,e',M',hT,hκ⟩:=JdG l 0 [] e M hk;have D:Dr P C N ops l T e M e' M':=⟨hT,hc.1.1,hc.1.2,hc.2⟩;refine wp_region_any hmx (D.go hC hG (fun a w hx=>hQ _ _ a w hκ hx) _ _ _ _ (by omega) ?_)
 obtain ⟨ρ,h⟩:=h
 have hL: ∀ k,Lf (Array.replicate ops.size false) k=false:=fun k=>by
  simp only [Lf,Array.getD_eq_getD_getElem?,Array.getElem?_replicate];split<;>rfl
 refine ⟨by simp,fun j o _ hj=>(by rw [hL] at hj;cases hj),ρ,fun t=> ?_,⟨M,fun pt=> ?_,h.mem.drew⟩,h.dfr,h.sz⟩
 ·rw [Jbu fun j v _=>hL _];exact h.env t
 ·rw [Jbu fun j v _=>hL _]
end
theorem JO.map {α β γ:Type} {R:α→β→Prop} {f:γ→α}: ∀ {l:List γ} {m:List β},JO R (l.map f) m↔JO (fun x y=>R (f x) y) l m
 | [],[]=>Iff.rfl
 | x::l,y::m=>by simp only [List.map_cons,JO];exact and_congr Iff.rfl JO.map
 | [],_::_=>Iff.rfl
 | _::_,[]=>Iff.rfl
def Fits (H H1:AH) (v1 v:AV) (H':AH):Prop:=(v1=v∧H1=H')∨False
theorem Fits.back {ρ ρ':Rn} {H H1 H':AH} {v1 v:AV} {w w':World} {r:Value} (R:Fits H H1 v1 v H') (hH:J7 ρ H w) (hs:Stp ρ w ρ' w') (hv:V2 ρ' v1 r) (h1:J7 ρ' H1 w'):
  ∃ ρ'',Stp ρ w ρ'' w'∧V2 ρ'' v r∧J7 ρ'' H' w':=by
 rcases R with ⟨rfl,rfl⟩ | h
 ·exact ⟨ρ',hs,hv,h1⟩
 ·exact h.elim
def Jgh (P:Program) (N:Nat):S→Code→Bool
 | .k,.skip=>true
 | .o l,.region _ ops false=>JbO P ops l ops.toList&&Jme N l
 | .p l,.region _ ops true=>JuX P N l ops
 | .q a b,.seq x y=>Jgh P N a x&&Jgh P N b y
 | .i c a b,.cond d x y=>Wo P c d&&Jgh P N a x&&Jgh P N b y
 | .b id s,.block id' c=>id==id'&&Jgh P N s c
 | .l _ s,.loop c=>Jgh P N s c
 | .x id,.exit id'=>id==id'
 | .r,.ret=>true
 | _,_=>false
def Jov:X→Exit
 | .nx=> .normal
 | .ex id=> .exit id
 | .rt=> .ret
section
variable {P:Program} {B:Base} {C:Tab} {N:Nat}
theorem Jhb {e:Env} {t:Nat}: ∀ {l:List Nat},look (JbT e l) t=look e t∨look (JbT e l) t= .u
 | []=> .inr rfl
 | m::r=>by
  simp only [JbT,look];by_cases h:m=t
  ·rw [if_pos h,h];exact .inl rfl
  ·rw [if_neg h];exact Jhb
theorem JcY {live:List Nat}: ∀ {l:List Lv} {t g k:Nat} {xs:List AV},Qx (JJ live l) t g k=some xs→Qx l t g k=some xs
 | [],_,_,_,_,h=>h
 | v::r,t,g,k,xs,h=>by
  simp only [JJ] at h;by_cases hm:JdN live v.t=true
  ·rw [if_pos hm] at h
   simp only [Qx] at h ⊢;by_cases ht:v.t=t
   ·rw [if_pos ht] at h ⊢;exact h
   ·rw [if_neg ht] at h ⊢;exact JcY h
  ·rw [if_neg hm] at h
   simp only [Qx];have:=JcY h;by_cases ht:v.t=t
   ·exfalso
    have hno: ∀ {l:List Lv},Qx (JJ live l) t g k=some xs→JdN live t=true:=by
     intro l;induction l with
     | nil=>intro h;cases h
     | cons u l ih=>
      intro h;simp only [JJ] at h;by_cases hu:JdN live u.t=true
      ·rw [if_pos hu] at h
       simp only [Qx] at h;by_cases hut:u.t=t
       ·rw [←hut];exact hu
       ·rw [if_neg hut] at h;exact ih h
      ·rw [if_neg hu] at h;exact ih h
    rw [ht] at hm;exact hm (hno h)
   ·rw [if_neg ht];exact this
theorem Ex.keep {e:Env} {M:Mem} {a:Act} {w:World} {live:List Nat} (h:Ex B N e M a w):Ex B N (JbT e live) (M.keep live) a w:=by
 obtain ⟨ρ,h⟩:=h;refine ⟨ρ,fun t=> ?_,?_,h.dfr,h.sz⟩
 ·rcases Jhb (e:=e) (t:=t) (l:=live) with h1 | h1
  ·rw [h1];exact h.env t
  ·rw [h1];trivial
 ·obtain ⟨m1,m2,m3,m4,m5,m6,m7,m8,m9,m10,m11,m12,m13⟩:=h.mem
  exact ⟨m1,fun t g k xs hv=>m2 t g k xs (JcY hv),m3,m4,m5,m6,m7,m8,m9,m10,m11,m12,m13⟩
theorem JkK (hC:Yj P C) (hG:B.G=P.globals.size) (hmx:P.follows .mixedOrders=true): ∀ (s:S) (c:Code) (κ:Jaa) (Q:Exit→Act→World→Prop) (e:Env) (M:Mem) (a:Act) (w:World),Jgh P N s c=true→
  (∀ x e M a w,κ x e M→Ex B N e M a w→Q (Jov x) a w)→exec C s e M κ→Ex B N e M a w→c.wp P Q a w:=by
 intro s;induction s with
 | k=>
  intro c κ Q e M a w hc hQ h hx;cases c<;>simp [Jgh] at hc
  exact wp_skip (hQ .nx e M a w h hx)
 | o l=>
  intro c κ Q e M a w hc hQ h hx;cases c<;>try (simp [Jgh] at hc;done)
  rename_i id ops draw
  cases draw<;>simp [Jgh] at hc
  exact JpJ hC hG (fun e M a w=>hQ .nx e M a w) hc.1 hc.2 h hx
 | p l=>
  intro c κ Q e M a w hc hQ h hx;cases c<;>try (simp [Jgh] at hc;done)
  rename_i id ops draw
  cases draw<;>simp [Jgh] at hc
  exact JpC hC hG hmx (fun e M a w=>hQ .nx e M a w) hc h hx
 | q s1 s2 ih1 ih2=>
  intro c κ Q e M a w hc hQ h hx;cases c<;>simp [Jgh] at hc
  rename_i x y
  refine wp_seq (ih1 x _ _ e M a w hc.1 (fun x e M a w hk hx=> ?_) h hx)
  cases x with
  | nx=>exact ih2 y κ Q e M a w hc.2 hQ hk hx
  | ex id=>exact hQ (.ex id) e M a w hk hx
  | rt=>exact hQ .rt e M a w hk hx
 | i c0 s1 s2 ih1 ih2=>
  intro c κ Q e M a w hc hQ h hx;cases c<;>simp [Jgh] at hc
  rename_i d x y
  obtain ⟨h1,h2,h3⟩:=h;obtain ⟨ρ,hst⟩:=hx;obtain ⟨b,hb,hv⟩:=(JcF hst.mem hG hc.1.1 (fun t _=>hst.env t)).bool h1
  refine wp_cond (t:=b) hv ?_
  cases b with
  | true=>exact ih1 x κ Q e M a w hc.1.2 hQ (h2 hb) ⟨ρ,hst⟩
  | false=>exact ih2 y κ Q e M a w hc.2 hQ (h3 hb) ⟨ρ,hst⟩
 | b id s ih=>
  intro c κ Q e M a w hc hQ h hx;cases c<;>simp [Jgh] at hc
  rename_i id' c
  obtain ⟨rfl,hc⟩:=hc;refine wp_block (ih c _ _ e M a w hc (fun x e M a w hk hx=> ?_) h hx)
  cases x with
  | nx=>exact hQ .nx e M a w hk hx
  | ex j=>
   simp only [JgV] at hk;simp only [Jov,Exit.inBlock];by_cases hj:j=id
   ·rw [if_pos hj] at hk ⊢;exact hQ .nx e M a w hk hx
   ·rw [if_neg hj] at hk ⊢;exact hQ (.ex j) e M a w hk hx
  | rt=>exact hQ .rt e M a w hk hx
 | l live s ih=>
  intro c κ Q e M a w hc hQ h hx;cases c<;>simp [Jgh] at hc
  rename_i c
  obtain ⟨n,hn⟩:=h;refine wp_loop_rounds n ?_
  induction n generalizing e M a w with
  | zero=>exact hn.elim
  | succ n ihn=>
   rw [rounds_succ];refine ih c _ _ _ _ a w hc (fun x e M a w hk hx=> ?_) hn hx.keep
   cases x with
   | nx=>exact ihn e M a w hx hk
   | ex id=>exact hQ (.ex id) e M a w hk hx
   | rt=>exact hQ .rt e M a w hk hx
 | x id=>
  intro c κ Q e M a w hc hQ h hx;cases c<;>simp [Jgh] at hc
  subst hc;exact wp_exit (hQ (.ex id) e M a w h hx)
 | r=>
  intro c κ Q e M a w hc hQ h hx;cases c<;>simp [Jgh] at hc
  exact wp_ret (hQ .rt e M a w h hx)
end
def Jdw (P:Program):List Rs→List ResultVar→Bool
 | [],[]=>true
 | .t n::r,.tmp m::q=>n==m&&Jdw P r q
 | .c n sz::r,.cell a t::q=>n==a&&nT P t==some sz&&Jdw P r q
 | _,_=>false
def Jro (P:Program) (F:Fn) (fn:Func):Bool:=
 match fn.body with
 | some c=> !(fn.name== "runtime.NumGoroutine") &&Jdw P F.rs fn.results.toList&&Jgh P fn.ntmps F.s c
 | none=>false
def Qi (P:Program) (F:Fn) (f:Nat):Bool:=
 match P.funcs[f]? with
 | some fn=>Jro P F fn
 | none=>false
def fin (F:Fn) (H:AH) (v:AV) (H':AH):Jaa:=fun x e M=>(match x with | .ex _=>False | _=>True)∧rsC e M F.rs∧Fits H M.h (Js (rsV e M F.rs)) v H'
section
variable {P:Program} {B:Base} {C:Tab} {N:Nat}
def JtR (tmps:Array Value):ResultVar→Sem Value
 | .tmp t=>pure (tmps.getD t undef)
 | .cell x t=>do loadVar t (←asAddr (tmps.getD x undef))
theorem Jj9 (fn:Func) (tmps:Array Value):results fn tmps=(do
  let vs←fn.results.mapM (JtR tmps)
  pure (if h:vs.size=1 then vs[0] else .tuple vs)):=rfl
theorem JbL {ρ:Rn} {e:Env} {M:Mem} {a:Act} {w:World} (h:StR B N ρ e M a w): ∀ (rs:List Rs) (l:List ResultVar),Jdw P rs l=true→rsC e M rs→
  ∃ vs,(l.mapM (JtR a.tmps)).run P w= .ok vs w∧JO (V1 ρ) (rsV e M rs) vs
 | [],[],_,_=>⟨[],by simp,trivial⟩
 | .t n::r,.tmp m::q,hc,hk=>by
  simp only [Jdw,Bool.and_eq_true,beq_iff_eq] at hc;obtain ⟨rfl,hc⟩:=hc;obtain ⟨vs,h1,h2⟩:=JbL h r q hc hk.2;exact ⟨a.tmps.getD n undef::vs,by rw [List.mapM_cons];simp only [Sem.run_bind,JtR,Sem.run_pure,Result.andThen_ok];rw [h1];rfl,(h.env n).out hk.1,h2⟩
 | .c n sz::r,.cell x t::q,hc,hk=>by
  simp only [Jdw,Bool.and_eq_true,beq_iff_eq] at hc;obtain ⟨⟨rfl,ht⟩,hc⟩:=hc;obtain ⟨vs,h1,h2⟩:=JbL h r q hc hk.2;obtain ⟨ad,v,g1,g2,g3⟩:=JjC ht hk.1 (h.env n) h.mem;exact ⟨v::vs,by rw [List.mapM_cons];simp only [Sem.run_bind,JtR];rw [g1];simp only [asAddr,Sem.run_pure,Result.andThen_ok,g2];rw [h1];rfl,g3,h2⟩
 | [],_::_,hc,_=>by simp [Jdw] at hc
 | .t _::_,[],hc,_=>by simp [Jdw] at hc
 | .c .. ::_,[],hc,_=>by simp [Jdw] at hc
 | .t _::_,.cell .. ::_,hc,_=>by simp [Jdw] at hc
 | .c .. ::_,.tmp _::_,hc,_=>by simp [Jdw] at hc
theorem Jk9 {ρ:Rn} {e:Env} {M:Mem} {a:Act} {w:World} {fn:Func} {rs:List Rs} (h:StR B N ρ e M a w) (hc:Jdw P rs fn.results.toList=true) (hk:rsC e M rs):
  ∃ v,(results fn a.tmps).run P w= .ok v w∧V2 ρ (Js (rsV e M rs)) v:=by
 obtain ⟨vs,h1,h2⟩:=JbL h rs fn.results.toList hc hk;refine ⟨if h:vs.toArray.size=1 then vs.toArray[0] else .tuple vs.toArray,?_,?_⟩
 ·rw [Jj9,Array.mapM_eq_mapM_toList]
  simp only [Sem.run_bind,Sem.run_map];rw [h1];rfl
 ·cases hr:rsV e M rs with
  | nil=>
   rw [hr] at h2;cases vs with
   | nil=>exact ⟨#[],rfl,trivial⟩
   | cons=>exact h2.elim
  | cons x l=>
   rw [hr] at h2;cases vs with
   | nil=>exact h2.elim
   | cons y m=>
    cases l with
    | nil=>
     cases m with
     | nil=>exact V2.of h2.1
     | cons=>exact h2.2.elim
    | cons x2 l=>
     cases m with
     | nil=>exact h2.2.elim
     | cons y2 m=>
      rw [dif_neg (by simp)]
      exact ⟨_,rfl,h2⟩
theorem Jd6 {ρ:Rn}: ∀ (vs:List AV) (i:Nat) (rv:List Value) (t:Nat),JO (V1 ρ) vs rv→look (args i vs) t= .u∨ ∃ v,i≤t∧rv[t-i]? =some v∧V1 ρ (look (args i vs) t) v
 | [],i,_,t,_=> .inl rfl
 | x::r,i,[],t,h=>h.elim
 | x::r,i,y::q,t,h=>by
  simp only [args,look];by_cases ht:i=t
  ·subst ht
   rw [if_pos rfl];exact .inr ⟨y,Nat.le_refl _,by simp,h.1⟩
  ·rw [if_neg ht]
   rcases Jd6 r (i+1) q t h.2 with h1 | ⟨v,h1,h2,h3⟩
   ·exact .inl h1
   ·refine .inr ⟨v,by omega,?_,h3⟩
    rw [show t-i=(t- (i+1))+1 by omega]
    simpa using h2
theorem Jp4 {F:Fn} {f:Nat} {vs:List AV} {H H':AH} {v:AV} (hC:Yj P C) (hmx:P.follows .mixedOrders=true) (hF:Qi P F f=true) (hx:exec C F.s (args 0 vs) ⟨[],0,H⟩ (fin F H v H')):
  ∀ ρ w rargs,J7 ρ H w→JeK ρ P.globals.size→JO (V1 ρ) vs rargs.toList→Calls P f rargs w (JgQ ρ w v H'):=by
 intro ρ w rargs hH hgl hv;unfold Qi at hF;split at hF
 ·rename_i fn hf
  unfold Jro at hF;split at hF
  ·rename_i c hb
   simp only [Bool.and_eq_true] at hF;obtain ⟨⟨-,hrs⟩,hcs⟩:=hF;refine calls_of_wp hf hb ?_
   let ρ1:Rn:={ρ with lo:=fun _ _=>none}
   have hle:ρ.Le ρ1:=⟨fun _ p h=>⟨p,h,rfl,rfl,rfl,rfl,rfl,Nat.le_refl _⟩,fun _ _ h=>h⟩
   have hH1:J7 ρ1 H w:=hH.of hle rfl rfl (Nat.le_refl _) (fun _ _ _=>⟨rfl,rfl⟩) hH.bnd fun _ _ h=>h
   let B:Base:=⟨P.globals.size,w,ρ1⟩
   have hM:Qt B ρ1 ⟨[],0,H⟩ w:=⟨hH1,fun t g k xs h=>(by cases h),fun _ _ _=>rfl,fun t g t' g' b z z' h=>(by cases h),fun t g b z h=>(by cases h),Rn.Le.refl _,fun _ _ _=>rfl,fun _ _=>rfl,Nat.le_refl _,rfl,rfl,rfl,hgl⟩
   refine JkK (B:=B) (N:=fn.ntmps) hC rfl hmx F.s c _ _ _ _ _ w hcs (fun x e M a' w' hk hx=> ?_) hx ⟨ρ1,fun t=> ?_,hM,rfl,by simp;omega⟩
   ·obtain ⟨k1,k2,k3⟩:=hk
    obtain ⟨ρ',hst⟩:=hx;obtain ⟨r,r1,r2⟩:=Jk9 (fn:=fn) hst hrs k2;have hm:=hst.mem;have hS:Stp ρ w ρ' w':=⟨hle.trans hm.le,hm.own,hm.frame,hm.sz,hm.os,hm.tape,hm.out⟩;have hB:JgQ ρ w v H' (.returned r) w':=k3.back hH hS r2 hm.heap;cases x with
    | nx=>exact ⟨hst.dfr,r,r1,hB⟩
    | rt=>exact ⟨hst.dfr,r,r1,hB⟩
    | ex _=>exact k1.elim
   ·rcases Jd6 vs 0 rargs.toList t hv with h | ⟨y,-,h2,h3⟩
    ·rw [h];trivial
    ·have hy:rargs[t]? =some y:=by simpa using h2
     have:(rargs++Array.replicate (fn.ntmps-rargs.size) undef).getD t undef=y:=by
      rw [Array.getD_eq_getD_getElem?,Array.getElem?_append_left (Array.getElem?_eq_some_iff.1 hy).1,hy];rfl
     show VE ρ1 _ ((rargs++Array.replicate (fn.ntmps-rargs.size) undef).getD t undef)
     rw [this];exact VE.of (V2.of (V1.mono hle h3))
  ·cases hF
 ·cases hF
def ext (C:Tab) (f:Nat) (m:List AV→AH→Option (AV×AH)):Tab:=fun g vs H=>if g=f then m vs H else C g vs H
theorem Yj.none:Yj P fun _ _ _=>Option.none:=fun _ _ _ _ _ h=>by cases h
theorem Yj.ext {F:Fn} {f:Nat} {m:List AV→AH→Option (AV×AH)} (hC:Yj P C) (hmx:P.follows .mixedOrders=true) (hF:Qi P F f=true)
  (hx: ∀ vs H v H',m vs H=some (v,H')→exec C F.s (args 0 vs) ⟨[],0,H⟩ (fin F H v H')):Yj P (ext C f m):=by
 intro g vs H v H' h;unfold Vm.ext at h;by_cases hg:g=f
 ·rw [if_pos hg] at h
  subst hg;refine .inl ⟨?_,Jp4 hC hmx hF (hx vs H v H' h)⟩
  unfold Qi at hF;split at hF
  ·rename_i fn hf
   unfold Jro at hF;split at hF
   ·rename_i c hb
    simp only [Bool.and_eq_true,Bool.not_eq_true'] at hF;exact ⟨fn,hf,hF.1.1,by rw [hb];rfl⟩
   ·cases hF
  ·cases hF
 ·rw [if_neg hg] at h
  exact hC g vs H v H' h
end
section
variable {C:Tab}
theorem Z0 {κ κ':Env→Mem→Prop} (h: ∀ e M,κ e M→κ' e M): ∀ (l:List O) (e:Env) (M:Mem),JN C l e M κ→JN C l e M κ'
 | [],e,M,hk=>h e M hk
 | x::l,e,M,hk=>by
  rcases Jkk x with ⟨t,b,y,rfl⟩ | ⟨d,y,rfl⟩ | hx
  ·simp only [JN] at hk ⊢
   exact ⟨hk.1,fun hb=>⟨(hk.2.1 hb).1,Z0 h l _ _ (hk.2.1 hb).2⟩,fun hb=>Z0 h l _ _ (hk.2.2 hb)⟩
  ·simp only [JN] at hk ⊢
   exact ⟨hk.1,fun j j1 j2=>Z0 h l _ _ (hk.2.1 j j1 j2),fun hb=>Z0 h l _ _ (hk.2.2 hb)⟩
  ·rw [Jv hx] at hk ⊢
   exact ⟨hk.1,Z0 h l _ _ hk.2⟩
theorem Jbf {κ κ':Env→Mem→Prop} (h: ∀ e M,κ e M→κ' e M): ∀ (l:List PO) (i:Nat) (lg:List Lg) (e:Env) (M:Mem),JZ C i lg l e M κ→JZ C i lg l e M κ'
 | [],i,lg,e,M,hk=>h e M hk
 | ⟨x,cf,kp⟩::l,i,lg,e,M,hk=>by
  rcases Jl0 x with ⟨t,b,y,rfl⟩ | hx
  ·simp only [JZ] at hk ⊢
   exact ⟨hk.1,fun hb=>⟨(hk.2.1 hb).1,(hk.2.1 hb).2.1,Jbf h l _ _ _ _ (hk.2.1 hb).2.2⟩,fun hb=>Jbf h l _ _ _ _ (hk.2.2 hb)⟩
  ·rw [Jw hx] at hk ⊢
   exact ⟨hk.1,hk.2.1,Jbf h l _ _ _ _ hk.2.2⟩
theorem J4: ∀ (s:S) {κ κ':Jaa},(∀ x e M,κ x e M→κ' x e M)→ ∀ (e:Env) (M:Mem),exec C s e M κ→exec C s e M κ':=by
 intro s;induction s with
 | k=>exact fun h e M hk=>h _ _ _ hk
 | o l=>exact fun h e M hk=>Z0 (fun e M=>h .nx e M) l e M hk
 | p l=>exact fun h e M hk=>Jbf (fun e M=>h .nx e M) l 0 [] e M hk
 | q a b iha ihb=>
  exact fun h e M hk=>iha (fun x e M hx=>by
   cases x with
   | nx=>exact ihb h e M hx
   | ex id=>exact h _ _ _ hx
   | rt=>exact h _ _ _ hx) e M hk
 | i c a b iha ihb=>exact fun h e M hk=>⟨hk.1,fun hc=>iha h e M (hk.2.1 hc),fun hc=>ihb h e M (hk.2.2 hc)⟩
 | b id s ih=>
  exact fun h e M hk=>ih (fun x e M hx=>by
   cases x with
   | nx=>exact h _ _ _ hx
   | ex j=>
    simp only [JgV] at hx ⊢;by_cases hj:j=id
    ·rw [if_pos hj] at hx ⊢;exact h _ _ _ hx
    ·rw [if_neg hj] at hx ⊢;exact h _ _ _ hx
   | rt=>exact h _ _ _ hx) e M hk
 | l live s ih=>
  intro κ κ' h e M hk;obtain ⟨n,hn⟩:=hk;refine ⟨n,?_⟩
  induction n generalizing e M with
  | zero=>exact hn
  | succ n ihn=>
   exact ih (fun x e M hx=>by
    cases x with
    | nx=>exact ihn e M hx
    | ex id=>exact h _ _ _ hx
    | rt=>exact h _ _ _ hx) _ _ hn
 | x id=>exact fun h e M hk=>h _ _ _ hk
 | r=>exact fun h e M hk=>h _ _ _ hk
theorem Ju6 {v:AV} (h:v.isB=true) (b:Bool):v= .b b∨v= .b (!b):=by
 cases v<;>try exact absurd h Bool.false_ne_true
 rename_i x
 cases b<;>cases x<;>simp
theorem Jvm (b:Bool):(AV.b b) ≠ .b (!b):=by cases b<;>simp
theorem Jt6 {v:AV} (h:v.isG=true) (b:Bool):v= .b b∨Jim b v:=by
 rcases Jkj h with h | h
 ·exact (Ju6 h b).imp id .inl
 ·exact .inr (.inr h)
theorem JiP {v:AV} {b:Bool} (h:v= .b b) (h':Jim b v):False:=by
 rcases h' with h' | h'
 ·exact Jvm b (h.symm.trans h')
 ·rw [h] at h';cases h'
def Jxd:O→Bool
 | .nxm .. =>false
 | _=>true
def Jmm:List O→Bool
 | []=>true
 | x::l=>Jxd x&&Jmm l
def JhS:S→Bool
 | .o l=>Jmm l
 | .q a b=>JhS a&&JhS b
 | .i _ a b=>JhS a&&JhS b
 | .b _ s=>JhS s
 | .l _ s=>JhS s
 | _=>true
theorem JdJ {κ:Env→Mem→Prop}: ∀ (l:List O) (e:Env) (M:Mem),Jmm l=true→JN C l e M κ→ ∃ e' M',κ e' M'∧JN C l e M fun e2 M2=>e2=e'∧M2=M'
 | [],e,M,_,hk=>⟨e,M,hk,rfl,rfl⟩
 | x::l,e,M,hd,hk=>by
  simp only [Jmm,Bool.and_eq_true] at hd;obtain ⟨hd0,hd⟩:=hd;rcases Jkk x with ⟨t,b,y,rfl⟩ | ⟨d,y,rfl⟩ | hx
  ·simp only [JN] at hk ⊢
   rcases Jt6 hk.1 b with hb | hb
   ·obtain ⟨e',M',h1,h2⟩:=JdJ l _ _ hd (hk.2.1 hb).2
    exact ⟨e',M',h1,hk.1,fun _=>⟨(hk.2.1 hb).1,h2⟩,fun hb'=>(JiP hb hb').elim⟩
   ·obtain ⟨e',M',h1,h2⟩:=JdJ l _ _ hd (hk.2.2 hb)
    exact ⟨e',M',h1,hk.1,fun hb'=>(JiP hb' hb).elim,fun _=>h2⟩
  ·cases hd0
  ·rw [Jv hx] at hk
   obtain ⟨e',M',h1,h2⟩:=JdJ l _ _ hd hk.2;exact ⟨e',M',h1,by rw [Jv hx];exact ⟨hk.1,h2⟩⟩
theorem JdF {κ:Env→Mem→Prop}: ∀ (l:List PO) (i:Nat) (lg:List Lg) (e:Env) (M:Mem),JZ C i lg l e M κ→ ∃ e' M',κ e' M'∧JZ C i lg l e M fun e2 M2=>e2=e'∧M2=M'
 | [],i,lg,e,M,hk=>⟨e,M,hk,rfl,rfl⟩
 | ⟨x,cf,kp⟩::l,i,lg,e,M,hk=>by
  rcases Jl0 x with ⟨t,b,y,rfl⟩ | hx
  ·simp only [JZ] at hk ⊢
   rcases Jt6 hk.1 b with hb | hb
   ·obtain ⟨e',M',h1,h2⟩:=JdF l _ _ _ _ (hk.2.1 hb).2.2
    exact ⟨e',M',h1,hk.1,fun _=>⟨(hk.2.1 hb).1,(hk.2.1 hb).2.1,h2⟩,fun hb'=>(JiP hb hb').elim⟩
   ·obtain ⟨e',M',h1,h2⟩:=JdF l _ _ _ _ (hk.2.2 hb)
    exact ⟨e',M',h1,hk.1,fun hb'=>(JiP hb' hb).elim,fun _=>h2⟩
  ·rw [Jw hx] at hk
   obtain ⟨e',M',h1,h2⟩:=JdF l _ _ _ _ hk.2.2;exact ⟨e',M',h1,by rw [Jw hx];exact ⟨hk.1,hk.2.1,h2⟩⟩
theorem JgY: ∀ (s:S) {κ:Jaa} (e:Env) (M:Mem),JhS s=true→exec C s e M κ→ ∃ x e' M',κ x e' M'∧exec C s e M fun x2 e2 M2=>x2=x∧e2=e'∧M2=M':=by
 intro s;induction s with
 | k=>exact fun e M _ hk=>⟨.nx,e,M,hk,rfl,rfl,rfl⟩
 | o l=>
  intro κ e M hd hk;obtain ⟨e',M',h1,h2⟩:=JdJ l e M hd hk;exact ⟨.nx,e',M',h1,Z0 (fun _ _ h=>⟨rfl,h⟩) l e M h2⟩
 | p l=>
  intro κ e M hd hk;obtain ⟨e',M',h1,h2⟩:=JdF l 0 [] e M hk;exact ⟨.nx,e',M',h1,Jbf (fun _ _ h=>⟨rfl,h⟩) l 0 [] e M h2⟩
 | q a b iha ihb=>
  intro κ e M hd hk;simp only [JhS,Bool.and_eq_true] at hd;obtain ⟨x,e1,M1,h1,h2⟩:=iha e M hd.1 hk;cases x with
  | nx=>
   obtain ⟨x2,e2,M2,g1,g2⟩:=ihb e1 M1 hd.2 h1;refine ⟨x2,e2,M2,g1,J4 a (fun x e M ⟨a1,a2,a3⟩=> ?_) e M h2⟩
   subst a1 a2 a3;exact g2
  | ex id=>
   refine ⟨.ex id,e1,M1,h1,J4 a (fun x e M ⟨a1,a2,a3⟩=> ?_) e M h2⟩
   subst a1 a2 a3;exact ⟨rfl,rfl,rfl⟩
  | rt=>
   refine ⟨.rt,e1,M1,h1,J4 a (fun x e M ⟨a1,a2,a3⟩=> ?_) e M h2⟩
   subst a1 a2 a3;exact ⟨rfl,rfl,rfl⟩
 | i c a b iha ihb=>
  intro κ e M hd hk;simp only [JhS,Bool.and_eq_true] at hd;rcases Ju6 hk.1 true with hb | hb
  ·obtain ⟨x,e1,M1,h1,h2⟩:=iha e M hd.1 (hk.2.1 hb)
   exact ⟨x,e1,M1,h1,hk.1,fun _=>h2,fun hb'=>absurd (hb.symm.trans hb') (Jvm true)⟩
  ·obtain ⟨x,e1,M1,h1,h2⟩:=ihb e M hd.2 (hk.2.2 hb)
   exact ⟨x,e1,M1,h1,hk.1,fun hb'=>absurd (hb'.symm.trans hb) (Jvm true),fun _=>h2⟩
 | b id s ih=>
  intro κ e M hd hk;obtain ⟨x,e1,M1,h1,h2⟩:=ih e M hd hk;cases x with
  | nx=>
   refine ⟨.nx,e1,M1,h1,J4 s (fun x e M ⟨a1,a2,a3⟩=> ?_) e M h2⟩
   subst a1 a2 a3;exact ⟨rfl,rfl,rfl⟩
  | ex j=>
   by_cases hj:j=id
   ·simp only [JgV,if_pos hj] at h1
    refine ⟨.nx,e1,M1,h1,J4 s (fun x e M ⟨a1,a2,a3⟩=> ?_) e M h2⟩
    subst a1 a2 a3;simp only [JgV,if_pos hj];simp
   ·simp only [JgV,if_neg hj] at h1
    refine ⟨.ex j,e1,M1,h1,J4 s (fun x e M ⟨a1,a2,a3⟩=> ?_) e M h2⟩
    subst a1 a2 a3;simp only [JgV,if_neg hj];simp
  | rt=>
   refine ⟨.rt,e1,M1,h1,J4 s (fun x e M ⟨a1,a2,a3⟩=> ?_) e M h2⟩
   subst a1 a2 a3;exact ⟨rfl,rfl,rfl⟩
 | l live s ih=>
  intro κ e M hd hk;obtain ⟨n,hn⟩:=hk
  have: ∃ x e' M',κ x e' M'∧JjL (exec C s) live (fun x2 e2 M2=>x2=x∧e2=e'∧M2=M') n e M:=by
   induction n generalizing e M with
   | zero=>exact hn.elim
   | succ n ihn=>
    obtain ⟨x,e1,M1,h1,h2⟩:=ih _ _ hd hn;cases x with
    | nx=>
     obtain ⟨x2,e2,M2,g1,g2⟩:=ihn e1 M1 h1;refine ⟨x2,e2,M2,g1,J4 s (fun x e M ⟨a1,a2,a3⟩=> ?_) _ _ h2⟩
     subst a1 a2 a3;exact g2
    | ex id=>
     refine ⟨.ex id,e1,M1,h1,J4 s (fun x e M ⟨a1,a2,a3⟩=> ?_) _ _ h2⟩
     subst a1 a2 a3;exact ⟨rfl,rfl,rfl⟩
    | rt=>
     refine ⟨.rt,e1,M1,h1,J4 s (fun x e M ⟨a1,a2,a3⟩=> ?_) _ _ h2⟩
     subst a1 a2 a3;exact ⟨rfl,rfl,rfl⟩
  obtain ⟨x,e',M',h1,h2⟩:=this;exact ⟨x,e',M',h1,n,h2⟩
 | x id=>exact fun e M _ hk=>⟨.ex id,e,M,hk,rfl,rfl,rfl⟩
 | r=>exact fun e M _ hk=>⟨.rt,e,M,hk,rfl,rfl,rfl⟩
theorem Jjw {live:List Nat} {s:S} {κ:Jaa}: ∀ {n m:Nat} {e:Env} {M:Mem},n≤m→JjL (exec C s) live κ n e M→JjL (exec C s) live κ m e M
 | 0,_,_,_,_,h=>h.elim
 | n+1,m,e,M,hm,h=>by
  obtain ⟨m',rfl⟩: ∃ m',m=m'+1:=⟨m-1,by omega⟩
  refine J4 s (fun x e M hx=> ?_) _ _ h
  cases x with
  | nx=>exact Jjw (by omega) hx
  | ex id=>exact hx
  | rt=>exact hx
theorem Jl {live:List Nat} {s:S} {κ:Jaa} (I:Nat→Env→Mem→Prop) (hs: ∀ n e M,I n e M→exec C s (JbT e live) (M.keep live) (JiM (fun e' M' _=> ∃ m,m < n∧I m e' M') κ)): ∀ {n:Nat} {e:Env} {M:Mem},I n e M→exec C (.l live s) e M κ:=by
 have main: ∀ (n:Nat) (e:Env) (M:Mem),I n e M→JjL (exec C s) live κ (n+1) e M:=by
  intro n;induction n using Nat.strongRecOn with
  | ind n ih=>
   intro e M hI;refine J4 s (fun x e M hx=> ?_) _ _ (hs n e M hI)
   cases x with
   | nx=>
    obtain ⟨m,hm,hI'⟩:=hx;exact Jjw (by omega) (ih m hm e M hI')
   | ex id=>exact hx
   | rt=>exact hx
 exact fun {n e M} hI=>⟨_,main n e M hI⟩
theorem Jbs {κ κ':Env→Mem→Prop}: ∀ (l:List O) (e:Env) (M:Mem),JN C l e M κ→JN C l e M κ'→ ∃ e' M',κ e' M'∧κ' e' M'
 | [],e,M,h,h'=>⟨e,M,h,h'⟩
 | x::l,e,M,h,h'=>by
  rcases Jkk x with ⟨t,b,y,rfl⟩ | ⟨d,y,rfl⟩ | hx
  ·simp only [JN] at h h'
   rcases Jt6 h.1 b with hb | hb
   ·exact Jbs l _ _ (h.2.1 hb).2 (h'.2.1 hb).2
   ·exact Jbs l _ _ (h.2.2 hb) (h'.2.2 hb)
  ·simp only [JN] at h h'
   by_cases hall: ∀ j,j < (Yq M.h (Jdd M (evT e y))).length→j∈ZC M (evT e y)
   ·exact Jbs l _ _ (h.2.2 hall) (h'.2.2 hall)
   ·simp only [Classical.not_forall] at hall
    obtain ⟨j,j1,j2⟩:=hall;exact Jbs l _ _ (h.2.1 j j1 j2) (h'.2.1 j j1 j2)
  ·rw [Jv hx] at h h'
   exact Jbs l _ _ h.2 h'.2
theorem Jdz {κ κ':Env→Mem→Prop}: ∀ (l:List PO) (i:Nat) (lg:List Lg) (e:Env) (M:Mem),JZ C i lg l e M κ→JZ C i lg l e M κ'→ ∃ e' M',κ e' M'∧κ' e' M'
 | [],i,lg,e,M,h,h'=>⟨e,M,h,h'⟩
 | ⟨x,cf,kp⟩::l,i,lg,e,M,h,h'=>by
  rcases Jl0 x with ⟨t,b,y,rfl⟩ | hx
  ·simp only [JZ] at h h'
   rcases Jt6 h.1 b with hb | hb
   ·exact Jdz l _ _ _ _ (h.2.1 hb).2.2 (h'.2.1 hb).2.2
   ·exact Jdz l _ _ _ _ (h.2.2 hb) (h'.2.2 hb)
  ·rw [Jw hx] at h h'
   exact Jdz l _ _ _ _ h.2.2 h'.2.2
theorem JgG: ∀ (s:S) {κ κ':Jaa} (e:Env) (M:Mem),exec C s e M κ→exec C s e M κ'→ ∃ x e' M',κ x e' M'∧κ' x e' M':=by
 intro s;induction s with
 | k=>exact fun e M h h'=>⟨_,_,_,h,h'⟩
 | o l=>exact fun e M h h'=>⟨.nx,Jbs l e M h h'⟩
 | p l=>exact fun e M h h'=>⟨.nx,Jdz l 0 [] e M h h'⟩
 | q a b iha ihb=>
  intro κ κ' e M h h';obtain ⟨x,e1,M1,h1,h2⟩:=iha e M h h';cases x with
  | nx=>exact ihb e1 M1 h1 h2
  | ex id=>exact ⟨_,_,_,h1,h2⟩
  | rt=>exact ⟨_,_,_,h1,h2⟩
 | i c a b iha ihb=>
  intro κ κ' e M h h';rcases Ju6 h.1 true with hb | hb
  ·exact iha e M (h.2.1 hb) (h'.2.1 hb)
  ·exact ihb e M (h.2.2 hb) (h'.2.2 hb)
 | b id s ih=>
  intro κ κ' e M h h';obtain ⟨x,e1,M1,h1,h2⟩:=ih e M h h';cases x with
  | nx=>exact ⟨_,_,_,h1,h2⟩
  | ex j=>
   simp only [JgV] at h1 h2;by_cases hj:j=id
   ·rw [if_pos hj] at h1 h2;exact ⟨_,_,_,h1,h2⟩
   ·rw [if_neg hj] at h1 h2;exact ⟨_,_,_,h1,h2⟩
  | rt=>exact ⟨_,_,_,h1,h2⟩
 | l live s ih=>
  intro κ κ' e M h h';obtain ⟨n,hn⟩:=h;obtain ⟨m,hm⟩:=h';induction n generalizing e M m with
  | zero=>exact hn.elim
  | succ n ihn=>
   cases m with
   | zero=>exact hm.elim
   | succ m=>
    obtain ⟨x,e1,M1,h1,h2⟩:=ih _ _ hn hm;cases x with
    | nx=>exact ihn e1 M1 h1 m h2
    | ex id=>exact ⟨_,_,_,h1,h2⟩
    | rt=>exact ⟨_,_,_,h1,h2⟩
 | x id=>exact fun e M h h'=>⟨_,_,_,h,h'⟩
 | r=>exact fun e M h h'=>⟨_,_,_,h,h'⟩
def Jr (rs:List Rs) (G:AV→AH→Prop):Jaa:=fun x e M=>(match x with | .ex _=>False | _=>True)∧rsC e M rs∧G (Js (rsV e M rs)) M.h
def Jt (C:Tab) (F:Fn) (vs:List AV) (H:AH) (G:AV→AH→Prop):Prop:=exec C F.s (args 0 vs) ⟨[],0,H⟩ (Jr F.rs G)
theorem Jt.mono {F:Fn} {vs:List AV} {H:AH} {G G':AV→AH→Prop} (h:Jt C F vs H G) (hg: ∀ v H',G v H'→G' v H'):Jt C F vs H G':=
 J4 _ (fun _ _ _ hk=>⟨hk.1,hk.2.1,hg _ _ hk.2.2⟩) _ _ h
theorem Jt.ex {F:Fn} {vs:List AV} {H:AH} {G:AV→AH→Prop} (h:Jt C F vs H G) (hd:JhS F.s=true): ∃ r:AV×AH,Jt C F vs H (fun v H'=>v=r.1∧H'=r.2):=by
 obtain ⟨x,e',M',⟨h1,h2,h3⟩,h5⟩:=JgY _ _ _ hd h;refine ⟨(Js (rsV e' M' F.rs),M'.h),J4 _ (fun x e M ⟨a1,a2,a3⟩=> ?_) _ _ h5⟩
 subst a1 a2 a3;exact ⟨h1,h2,rfl,rfl⟩
open Classical in
noncomputable def ent (C:Tab) (F:Fn) (vs:List AV) (H:AH):Option (AV×AH):=
 if h: ∃ r:AV×AH,Jt C F vs H (fun v H'=>v=r.1∧H'=r.2) then some h.choose else none
theorem JqZ {P:Program} {F:Fn} {f:Nat} (hC:Yj P C) (hmx:P.follows .mixedOrders=true) (hF:Qi P F f=true):Yj P (ext C f (ent C F)):=
 hC.ext hmx hF fun vs H v H' h=>by
  unfold ent at h;split at h
  ·rename_i hx
   have he:=Option.some.inj h;have h2:=hx.choose_spec;rw [he] at h2;exact J4 _ (fun x e M hk=>⟨hk.1,hk.2.1,.inl hk.2.2⟩) _ _ h2
  ·cases h
theorem Jn1 {F:Fn} {f:Nat} {G:AV→AH→Prop} {vs:List AV} {H:AH} (h:Jt C F vs H G) (hd:JhS F.s=true:=by rfl): ∃ v H',ext C f (ent C F) f vs H=some (v,H')∧G v H':=by
 have hx:=h.ex hd;refine ⟨hx.choose.1,hx.choose.2,?_,?_⟩
 ·unfold Vm.ext ent
  rw [if_pos rfl,dif_pos hx]
 ·obtain ⟨x,e,M,h1,h2⟩:=JgG _ _ _ h hx.choose_spec
  rw [←h2.2.2.1,←h2.2.2.2];exact h1.2.2
end
theorem Jdb {α:Type} {l:List α} {i:Nat} {z d:α} (h:i < l.length):(l.take i++List.replicate (l.length-i) z).set i (l.getD i d)=l.take (i+1)++List.replicate (l.length- (i+1)) z:=by
 have e1:(l.take i).length=i:=by simp;omega
 rw [List.set_append_right _ _ (by omega),e1,Nat.sub_self,show l.length-i=(l.length- (i+1))+1 by omega,List.replicate_succ,List.set_cons_zero]
 have e3:l.getD i d=l[i]:=by simp [List.getD,List.getElem?_eq_getElem h]
 rw [e3,←List.take_append_getElem h,List.append_assoc];rfl
theorem o_b (x:Bool):AV.outs (.b x)=true:=rfl
theorem q_b (x:Bool):AV.cells (.b x)=[(.b x)]:=rfl
theorem o_i (k:IntKind) (n:Int):AV.outs (.i k n)=true:=rfl
theorem q_i (k:IntKind) (n:Int):AV.cells (.i k n)=[(.i k n)]:=rfl
theorem o_s (l:List UInt8):AV.outs (.s l)=true:=rfl
theorem q_s (l:List UInt8):AV.cells (.s l)=[(.s l)]:=rfl
theorem JtQ:AV.outs .np=true:=rfl
theorem Jt1:AV.cells .np=[.np]:=rfl
theorem JtX (i o:Nat):AV.outs (.pv i o)=true:=rfl
theorem JtY (i o:Nat):AV.cells (.pv i o)=[(.pv i o)]:=rfl
theorem JtO (i x o e:Nat):AV.outs (.pe i x o e)=true:=rfl
theorem Jue (i x o e:Nat):AV.cells (.pe i x o e)=[(.pe i x o e)]:=rfl
theorem Jt5:AV.outs .ns=true:=rfl
theorem Jt3:AV.cells .ns=[.ns]:=rfl
theorem JtT (i x n:Nat):AV.outs (.sl i x n)=true:=rfl
theorem JtS (i x n:Nat):AV.cells (.sl i x n)=[(.sl i x n)]:=rfl
theorem Juc:AV.outs .nm=true:=rfl
theorem Jt9:AV.cells .nm=[.nm]:=rfl
theorem Jud (i:Nat):AV.outs (.mp i)=true:=rfl
theorem Jub (i:Nat):AV.cells (.mp i)=[(.mp i)]:=rfl
theorem JtV:AV.outs .nf=true:=rfl
theorem Jt4:AV.cells .nf=[.nf]:=rfl
theorem Jt0 (f:FuncId) (c:List AV):AV.outs (.fn f c)=true:=rfl
theorem JtW (f:FuncId) (c:List AV):AV.cells (.fn f c)=[(.fn f c)]:=rfl
theorem Jua (xs:List AV):AV.outs (.ag xs)=true:=rfl
theorem Jt7 (xs:List AV):AV.cells (.ag xs)=xs:=rfl
section
variable {C:Tab}
theorem x_k {e:Env} {M:Mem} {κ:Jaa}:exec C .k e M κ=κ .nx e M:=rfl
theorem x_o {l:List O} {e:Env} {M:Mem} {κ:Jaa}:exec C (.o l) e M κ=JN C l e M (JoP κ):=rfl
theorem x_p {l:List PO} {e:Env} {M:Mem} {κ:Jaa}:exec C (.p l) e M κ=JZ C 0 [] l e M (JoP κ):=rfl
theorem x_q {a b:S} {e:Env} {M:Mem} {κ:Jaa}:exec C (.q a b) e M κ=exec C a e M (JiM (exec C b) κ):=rfl
theorem x_i {c:Opd} {a b:S} {e:Env} {M:Mem} {κ:Jaa}:exec C (.i c a b) e M κ=((evT e c).isB=true∧(evT e c= .b true→exec C a e M κ)∧(evT e c= .b false→exec C b e M κ)):=rfl
theorem Jwn {c:Opd} {a b:S} {e:Env} {M:Mem} {κ:Jaa} (h:evT e c= .b true):exec C (.i c a b) e M κ=exec C a e M κ:=by rw [x_i,h];simp [AV.isB]
theorem JvC {c:Opd} {a b:S} {e:Env} {M:Mem} {κ:Jaa} (h:evT e c= .b false):exec C (.i c a b) e M κ=exec C b e M κ:=by rw [x_i,h];simp [AV.isB]
theorem Jr1 {e:Env} {M:Mem} {κ:Env→Mem→Prop}:JN C [] e M κ=κ e M:=rfl
theorem JvB {t:Nat} {b:Bool} {o:O} {l:List O} {e:Env} {M:Mem} {κ:Env→Mem→Prop} (h:look e t= .b b):JN C (.gd t b o::l) e M κ=(okO C e M o∧JN C l (J3 (dsO o) (vlO C e M o) e) (mmO C e M o) κ):=by
 simp only [JN,h];cases b<;>simp [AV.isG,Jim]
theorem JsN {t:Nat} {b:Bool} {o:O} {l:List O} {e:Env} {M:Mem} {κ:Env→Mem→Prop} (h:look e t= .b (!b)):JN C (.gd t b o::l) e M κ=JN C l (J3 (dsO o) (.tp []) e) M κ:=by
 simp only [JN,h];cases b<;>simp [AV.isG,Jim]
theorem JtD {t:Nat} {b:Bool} {o:O} {l:List O} {e:Env} {M:Mem} {κ:Env→Mem→Prop} (h:look e t= .tp []):JN C (.gd t b o::l) e M κ=JN C l (J3 (dsO o) (.tp []) e) M κ:=by
 simp only [JN,h];simp [AV.isG,Jim]
theorem JtM {t:Nat} {b:Bool} {o:O} {i:Nat} {lg:List Lg} {cf:List Nat} {kp:Bool} {l:List PO} {e:Env} {M:Mem} {κ:Env→Mem→Prop} (h:look e t= .tp []):JZ C i lg (⟨.gd t b o,cf,kp⟩::l) e M κ=JZ C (i+1) lg l (J3 (dsO o) (.tp []) e) M κ:=by
 simp only [JZ,h];simp [AV.isG,Jim]
theorem Js5 {i:Nat} {lg:List Lg} {e:Env} {M:Mem} {κ:Env→Mem→Prop}:JZ C i lg [] e M κ=κ e M:=rfl
theorem JvV {t:Nat} {b:Bool} {o:O} {i:Nat} {lg:List Lg} {cf:List Nat} {kp:Bool} {l:List PO} {e:Env} {M:Mem} {κ:Env→Mem→Prop} (h:look e t= .b b):
  JZ C i lg (⟨.gd t b o,cf,kp⟩::l) e M κ=(okO C e M o∧cfC C lg o e M cf∧JZ C (i+1) (Qb kp i o e M lg) l (J3 (dsO o) (vlO C e M o) e) (mmO C e M o) κ):=by
 simp only [JZ,h];cases b<;>simp [AV.isG,Jim]
theorem Jrj {t:Nat} {b:Bool} {o:O} {i:Nat} {lg:List Lg} {cf:List Nat} {kp:Bool} {l:List PO} {e:Env} {M:Mem} {κ:Env→Mem→Prop} (h:look e t= .b (!b)):JZ C i lg (⟨.gd t b o,cf,kp⟩::l) e M κ=JZ C (i+1) lg l (J3 (dsO o) (.tp []) e) M κ:=by
 simp only [JZ,h];cases b<;>simp [AV.isG,Jim]
theorem Jwl {l:List O} {e:Env} {M:Mem} {κ:Env→Mem→Prop} (v1:Nat) (v2:Opd):JN C (.mv v1 v2::l) e M κ=(okO C e M (.mv v1 v2)∧JN C l (J3 (dsO (.mv v1 v2)) (vlO C e M (.mv v1 v2)) e) (mmO C e M (.mv v1 v2)) κ):=Jv rfl
theorem Jv6 {i:Nat} {lg:List Lg} {cf:List Nat} {kp:Bool} {l:List PO} {e:Env} {M:Mem} {κ:Env→Mem→Prop} (v1:Nat) (v2:Opd):JZ C i lg (⟨.mv v1 v2,cf,kp⟩::l) e M κ=(okO C e M (.mv v1 v2)∧cfC C lg (.mv v1 v2) e M cf∧JZ C (i+1) (Qb kp i (.mv v1 v2) e M lg) l (J3 (dsO (.mv v1 v2)) (vlO C e M (.mv v1 v2)) e) (mmO C e M (.mv v1 v2)) κ):=Jw rfl
theorem JvA {l:List O} {e:Env} {M:Mem} {κ:Env→Mem→Prop} (v1:Nat) (v2:Opd) (v3:Opd) (v4:Opd):JN C (.pk v1 v2 v3 v4::l) e M κ=(okO C e M (.pk v1 v2 v3 v4)∧JN C l (J3 (dsO (.pk v1 v2 v3 v4)) (vlO C e M (.pk v1 v2 v3 v4)) e) (mmO C e M (.pk v1 v2 v3 v4)) κ):=Jv rfl
theorem JwC {i:Nat} {lg:List Lg} {cf:List Nat} {kp:Bool} {l:List PO} {e:Env} {M:Mem} {κ:Env→Mem→Prop} (v1:Nat) (v2:Opd) (v3:Opd) (v4:Opd):JZ C i lg (⟨.pk v1 v2 v3 v4,cf,kp⟩::l) e M κ=(okO C e M (.pk v1 v2 v3 v4)∧cfC C lg (.pk v1 v2 v3 v4) e M cf∧JZ C (i+1) (Qb kp i (.pk v1 v2 v3 v4) e M lg) l (J3 (dsO (.pk v1 v2 v3 v4)) (vlO C e M (.pk v1 v2 v3 v4)) e) (mmO C e M (.pk v1 v2 v3 v4)) κ):=Jw rfl
theorem JvS {l:List O} {e:Env} {M:Mem} {κ:Env→Mem→Prop} (v1:Nat) (v2:BinOp) (v3:Opd) (v4:Opd):JN C (.bn v1 v2 v3 v4::l) e M κ=(okO C e M (.bn v1 v2 v3 v4)∧JN C l (J3 (dsO (.bn v1 v2 v3 v4)) (vlO C e M (.bn v1 v2 v3 v4)) e) (mmO C e M (.bn v1 v2 v3 v4)) κ):=Jv rfl
theorem Jwh {i:Nat} {lg:List Lg} {cf:List Nat} {kp:Bool} {l:List PO} {e:Env} {M:Mem} {κ:Env→Mem→Prop} (v1:Nat) (v2:BinOp) (v3:Opd) (v4:Opd):JZ C i lg (⟨.bn v1 v2 v3 v4,cf,kp⟩::l) e M κ=(okO C e M (.bn v1 v2 v3 v4)∧cfC C lg (.bn v1 v2 v3 v4) e M cf∧JZ C (i+1) (Qb kp i (.bn v1 v2 v3 v4) e M lg) l (J3 (dsO (.bn v1 v2 v3 v4)) (vlO C e M (.bn v1 v2 v3 v4)) e) (mmO C e M (.bn v1 v2 v3 v4)) κ):=Jw rfl
theorem JvZ {l:List O} {e:Env} {M:Mem} {κ:Env→Mem→Prop} (v1:Nat) (v2:UnOp) (v3:Opd):JN C (.un v1 v2 v3::l) e M κ=(okO C e M (.un v1 v2 v3)∧JN C l (J3 (dsO (.un v1 v2 v3)) (vlO C e M (.un v1 v2 v3)) e) (mmO C e M (.un v1 v2 v3)) κ):=Jv rfl
theorem JvL {i:Nat} {lg:List Lg} {cf:List Nat} {kp:Bool} {l:List PO} {e:Env} {M:Mem} {κ:Env→Mem→Prop} (v1:Nat) (v2:UnOp) (v3:Opd):JZ C i lg (⟨.un v1 v2 v3,cf,kp⟩::l) e M κ=(okO C e M (.un v1 v2 v3)∧cfC C lg (.un v1 v2 v3) e M cf∧JZ C (i+1) (Qb kp i (.un v1 v2 v3) e M lg) l (J3 (dsO (.un v1 v2 v3)) (vlO C e M (.un v1 v2 v3)) e) (mmO C e M (.un v1 v2 v3)) κ):=Jw rfl
theorem Jwf {l:List O} {e:Env} {M:Mem} {κ:Env→Mem→Prop} (v1:Nat) (v2:Bool) (v3:Opd) (v4:Opd):JN C (.be v1 v2 v3 v4::l) e M κ=(okO C e M (.be v1 v2 v3 v4)∧JN C l (J3 (dsO (.be v1 v2 v3 v4)) (vlO C e M (.be v1 v2 v3 v4)) e) (mmO C e M (.be v1 v2 v3 v4)) κ):=Jv rfl
theorem Jv4 {i:Nat} {lg:List Lg} {cf:List Nat} {kp:Bool} {l:List PO} {e:Env} {M:Mem} {κ:Env→Mem→Prop} (v1:Nat) (v2:Bool) (v3:Opd) (v4:Opd):JZ C i lg (⟨.be v1 v2 v3 v4,cf,kp⟩::l) e M κ=(okO C e M (.be v1 v2 v3 v4)∧cfC C lg (.be v1 v2 v3 v4) e M cf∧JZ C (i+1) (Qb kp i (.be v1 v2 v3 v4) e M lg) l (J3 (dsO (.be v1 v2 v3 v4)) (vlO C e M (.be v1 v2 v3 v4)) e) (mmO C e M (.be v1 v2 v3 v4)) κ):=Jw rfl
theorem JvQ {l:List O} {e:Env} {M:Mem} {κ:Env→Mem→Prop} (v1:Nat) (v2:Nat) (v3:Bool) (v4:Opd):JN C (.nl v1 v2 v3 v4::l) e M κ=(okO C e M (.nl v1 v2 v3 v4)∧JN C l (J3 (dsO (.nl v1 v2 v3 v4)) (vlO C e M (.nl v1 v2 v3 v4)) e) (mmO C e M (.nl v1 v2 v3 v4)) κ):=Jv rfl
theorem Jwk {i:Nat} {lg:List Lg} {cf:List Nat} {kp:Bool} {l:List PO} {e:Env} {M:Mem} {κ:Env→Mem→Prop} (v1:Nat) (v2:Nat) (v3:Bool) (v4:Opd):JZ C i lg (⟨.nl v1 v2 v3 v4,cf,kp⟩::l) e M κ=(okO C e M (.nl v1 v2 v3 v4)∧cfC C lg (.nl v1 v2 v3 v4) e M cf∧JZ C (i+1) (Qb kp i (.nl v1 v2 v3 v4) e M lg) l (J3 (dsO (.nl v1 v2 v3 v4)) (vlO C e M (.nl v1 v2 v3 v4)) e) (mmO C e M (.nl v1 v2 v3 v4)) κ):=Jw rfl
theorem JsU {l:List O} {e:Env} {M:Mem} {κ:Env→Mem→Prop} (v1:Nat) (v2:Bool) (v3:List Ck) (v4:Opd) (v5:Opd):JN C (.eqa v1 v2 v3 v4 v5::l) e M κ=(okO C e M (.eqa v1 v2 v3 v4 v5)∧JN C l (J3 (dsO (.eqa v1 v2 v3 v4 v5)) (vlO C e M (.eqa v1 v2 v3 v4 v5)) e) (mmO C e M (.eqa v1 v2 v3 v4 v5)) κ):=Jv rfl
theorem Jr0 {i:Nat} {lg:List Lg} {cf:List Nat} {kp:Bool} {l:List PO} {e:Env} {M:Mem} {κ:Env→Mem→Prop} (v1:Nat) (v2:Bool) (v3:List Ck) (v4:Opd) (v5:Opd):JZ C i lg (⟨.eqa v1 v2 v3 v4 v5,cf,kp⟩::l) e M κ=(okO C e M (.eqa v1 v2 v3 v4 v5)∧cfC C lg (.eqa v1 v2 v3 v4 v5) e M cf∧JZ C (i+1) (Qb kp i (.eqa v1 v2 v3 v4 v5) e M lg) l (J3 (dsO (.eqa v1 v2 v3 v4 v5)) (vlO C e M (.eqa v1 v2 v3 v4 v5)) e) (mmO C e M (.eqa v1 v2 v3 v4 v5)) κ):=Jw rfl
theorem JvJ {l:List O} {e:Env} {M:Mem} {κ:Env→Mem→Prop} (v1:Nat) (v2:IntKind) (v3:Opd):JN C (.ci v1 v2 v3::l) e M κ=(okO C e M (.ci v1 v2 v3)∧JN C l (J3 (dsO (.ci v1 v2 v3)) (vlO C e M (.ci v1 v2 v3)) e) (mmO C e M (.ci v1 v2 v3)) κ):=Jv rfl
theorem JvT {i:Nat} {lg:List Lg} {cf:List Nat} {kp:Bool} {l:List PO} {e:Env} {M:Mem} {κ:Env→Mem→Prop} (v1:Nat) (v2:IntKind) (v3:Opd):JZ C i lg (⟨.ci v1 v2 v3,cf,kp⟩::l) e M κ=(okO C e M (.ci v1 v2 v3)∧cfC C lg (.ci v1 v2 v3) e M cf∧JZ C (i+1) (Qb kp i (.ci v1 v2 v3) e M lg) l (J3 (dsO (.ci v1 v2 v3)) (vlO C e M (.ci v1 v2 v3)) e) (mmO C e M (.ci v1 v2 v3)) κ):=Jw rfl
theorem JsM {l:List O} {e:Env} {M:Mem} {κ:Env→Mem→Prop} (v1:Nat) (v2:Opd):JN C (.cbs v1 v2::l) e M κ=(okO C e M (.cbs v1 v2)∧JN C l (J3 (dsO (.cbs v1 v2)) (vlO C e M (.cbs v1 v2)) e) (mmO C e M (.cbs v1 v2)) κ):=Jv rfl
theorem Jtk {i:Nat} {lg:List Lg} {cf:List Nat} {kp:Bool} {l:List PO} {e:Env} {M:Mem} {κ:Env→Mem→Prop} (v1:Nat) (v2:Opd):JZ C i lg (⟨.cbs v1 v2,cf,kp⟩::l) e M κ=(okO C e M (.cbs v1 v2)∧cfC C lg (.cbs v1 v2) e M cf∧JZ C (i+1) (Qb kp i (.cbs v1 v2) e M lg) l (J3 (dsO (.cbs v1 v2)) (vlO C e M (.cbs v1 v2)) e) (mmO C e M (.cbs v1 v2)) κ):=Jw rfl
theorem Js8 {l:List O} {e:Env} {M:Mem} {κ:Env→Mem→Prop} (v1:Nat) (v2:Opd):JN C (.csb v1 v2::l) e M κ=(okO C e M (.csb v1 v2)∧JN C l (J3 (dsO (.csb v1 v2)) (vlO C e M (.csb v1 v2)) e) (mmO C e M (.csb v1 v2)) κ):=Jv rfl
theorem Jse {i:Nat} {lg:List Lg} {cf:List Nat} {kp:Bool} {l:List PO} {e:Env} {M:Mem} {κ:Env→Mem→Prop} (v1:Nat) (v2:Opd):JZ C i lg (⟨.csb v1 v2,cf,kp⟩::l) e M κ=(okO C e M (.csb v1 v2)∧cfC C lg (.csb v1 v2) e M cf∧JZ C (i+1) (Qb kp i (.csb v1 v2) e M lg) l (J3 (dsO (.csb v1 v2)) (vlO C e M (.csb v1 v2)) e) (mmO C e M (.csb v1 v2)) κ):=Jw rfl
theorem Jv0 {l:List O} {e:Env} {M:Mem} {κ:Env→Mem→Prop} (v1:Nat) (v2:Opd) (v3:Nat):JN C (.ex v1 v2 v3::l) e M κ=(okO C e M (.ex v1 v2 v3)∧JN C l (J3 (dsO (.ex v1 v2 v3)) (vlO C e M (.ex v1 v2 v3)) e) (mmO C e M (.ex v1 v2 v3)) κ):=Jv rfl
theorem JvR {i:Nat} {lg:List Lg} {cf:List Nat} {kp:Bool} {l:List PO} {e:Env} {M:Mem} {κ:Env→Mem→Prop} (v1:Nat) (v2:Opd) (v3:Nat):JZ C i lg (⟨.ex v1 v2 v3,cf,kp⟩::l) e M κ=(okO C e M (.ex v1 v2 v3)∧cfC C lg (.ex v1 v2 v3) e M cf∧JZ C (i+1) (Qb kp i (.ex v1 v2 v3) e M lg) l (J3 (dsO (.ex v1 v2 v3)) (vlO C e M (.ex v1 v2 v3)) e) (mmO C e M (.ex v1 v2 v3)) κ):=Jw rfl
theorem Jv5 {l:List O} {e:Env} {M:Mem} {κ:Env→Mem→Prop} (v1:Nat) (v2:List AV) (v3:List (Nat×Nat×Opd)):JN C (.bd v1 v2 v3::l) e M κ=(okO C e M (.bd v1 v2 v3)∧JN C l (J3 (dsO (.bd v1 v2 v3)) (vlO C e M (.bd v1 v2 v3)) e) (mmO C e M (.bd v1 v2 v3)) κ):=Jv rfl
theorem JwD {i:Nat} {lg:List Lg} {cf:List Nat} {kp:Bool} {l:List PO} {e:Env} {M:Mem} {κ:Env→Mem→Prop} (v1:Nat) (v2:List AV) (v3:List (Nat×Nat×Opd)):JZ C i lg (⟨.bd v1 v2 v3,cf,kp⟩::l) e M κ=(okO C e M (.bd v1 v2 v3)∧cfC C lg (.bd v1 v2 v3) e M cf∧JZ C (i+1) (Qb kp i (.bd v1 v2 v3) e M lg) l (J3 (dsO (.bd v1 v2 v3)) (vlO C e M (.bd v1 v2 v3)) e) (mmO C e M (.bd v1 v2 v3)) κ):=Jw rfl
theorem Jwb {l:List O} {e:Env} {M:Mem} {κ:Env→Mem→Prop} (v1:Nat) (v2:Opd) (v3:Nat) (v4:Option Nat):JN C (.fd v1 v2 v3 v4::l) e M κ=(okO C e M (.fd v1 v2 v3 v4)∧JN C l (J3 (dsO (.fd v1 v2 v3 v4)) (vlO C e M (.fd v1 v2 v3 v4)) e) (mmO C e M (.fd v1 v2 v3 v4)) κ):=Jv rfl
theorem Jvw {i:Nat} {lg:List Lg} {cf:List Nat} {kp:Bool} {l:List PO} {e:Env} {M:Mem} {κ:Env→Mem→Prop} (v1:Nat) (v2:Opd) (v3:Nat) (v4:Option Nat):JZ C i lg (⟨.fd v1 v2 v3 v4,cf,kp⟩::l) e M κ=(okO C e M (.fd v1 v2 v3 v4)∧cfC C lg (.fd v1 v2 v3 v4) e M cf∧JZ C (i+1) (Qb kp i (.fd v1 v2 v3 v4) e M lg) l (J3 (dsO (.fd v1 v2 v3 v4)) (vlO C e M (.fd v1 v2 v3 v4)) e) (mmO C e M (.fd v1 v2 v3 v4)) κ):=Jw rfl
theorem Jwg {l:List O} {e:Env} {M:Mem} {κ:Env→Mem→Prop} (v1:Nat) (v2:Opd) (v3:Opd):JN C (.ix v1 v2 v3::l) e M κ=(okO C e M (.ix v1 v2 v3)∧JN C l (J3 (dsO (.ix v1 v2 v3)) (vlO C e M (.ix v1 v2 v3)) e) (mmO C e M (.ix v1 v2 v3)) κ):=Jv rfl
theorem Jwr {i:Nat} {lg:List Lg} {cf:List Nat} {kp:Bool} {l:List PO} {e:Env} {M:Mem} {κ:Env→Mem→Prop} (v1:Nat) (v2:Opd) (v3:Opd):JZ C i lg (⟨.ix v1 v2 v3,cf,kp⟩::l) e M κ=(okO C e M (.ix v1 v2 v3)∧cfC C lg (.ix v1 v2 v3) e M cf∧JZ C (i+1) (Qb kp i (.ix v1 v2 v3) e M lg) l (J3 (dsO (.ix v1 v2 v3)) (vlO C e M (.ix v1 v2 v3)) e) (mmO C e M (.ix v1 v2 v3)) κ):=Jw rfl
theorem Jso {l:List O} {e:Env} {M:Mem} {κ:Env→Mem→Prop} (v1:Nat) (v2:Opd) (v3:Opd) (v4:Nat) (v5:Nat) (v6:Option Nat):JN C (.ixa v1 v2 v3 v4 v5 v6::l) e M κ=(okO C e M (.ixa v1 v2 v3 v4 v5 v6)∧JN C l (J3 (dsO (.ixa v1 v2 v3 v4 v5 v6)) (vlO C e M (.ixa v1 v2 v3 v4 v5 v6)) e) (mmO C e M (.ixa v1 v2 v3 v4 v5 v6)) κ):=Jv rfl
theorem Jq7 {i:Nat} {lg:List Lg} {cf:List Nat} {kp:Bool} {l:List PO} {e:Env} {M:Mem} {κ:Env→Mem→Prop} (v1:Nat) (v2:Opd) (v3:Opd) (v4:Nat) (v5:Nat) (v6:Option Nat):JZ C i lg (⟨.ixa v1 v2 v3 v4 v5 v6,cf,kp⟩::l) e M κ=(okO C e M (.ixa v1 v2 v3 v4 v5 v6)∧cfC C lg (.ixa v1 v2 v3 v4 v5 v6) e M cf∧JZ C (i+1) (Qb kp i (.ixa v1 v2 v3 v4 v5 v6) e M lg) l (J3 (dsO (.ixa v1 v2 v3 v4 v5 v6)) (vlO C e M (.ixa v1 v2 v3 v4 v5 v6)) e) (mmO C e M (.ixa v1 v2 v3 v4 v5 v6)) κ):=Jw rfl
theorem Jwd {l:List O} {e:Env} {M:Mem} {κ:Env→Mem→Prop} (v1:Nat) (v2:Opd) (v3:Option Opd) (v4:Option Opd):JN C (.ss v1 v2 v3 v4::l) e M κ=(okO C e M (.ss v1 v2 v3 v4)∧JN C l (J3 (dsO (.ss v1 v2 v3 v4)) (vlO C e M (.ss v1 v2 v3 v4)) e) (mmO C e M (.ss v1 v2 v3 v4)) κ):=Jv rfl
theorem Jwq {i:Nat} {lg:List Lg} {cf:List Nat} {kp:Bool} {l:List PO} {e:Env} {M:Mem} {κ:Env→Mem→Prop} (v1:Nat) (v2:Opd) (v3:Option Opd) (v4:Option Opd):JZ C i lg (⟨.ss v1 v2 v3 v4,cf,kp⟩::l) e M κ=(okO C e M (.ss v1 v2 v3 v4)∧cfC C lg (.ss v1 v2 v3 v4) e M cf∧JZ C (i+1) (Qb kp i (.ss v1 v2 v3 v4) e M lg) l (J3 (dsO (.ss v1 v2 v3 v4)) (vlO C e M (.ss v1 v2 v3 v4)) e) (mmO C e M (.ss v1 v2 v3 v4)) κ):=Jw rfl
theorem JvE {l:List O} {e:Env} {M:Mem} {κ:Env→Mem→Prop} (v1:Nat) (v2:Opd) (v3:Option Opd) (v4:Option Opd) (v5:Nat):JN C (.sl v1 v2 v3 v4 v5::l) e M κ=(okO C e M (.sl v1 v2 v3 v4 v5)∧JN C l (J3 (dsO (.sl v1 v2 v3 v4 v5)) (vlO C e M (.sl v1 v2 v3 v4 v5)) e) (mmO C e M (.sl v1 v2 v3 v4 v5)) κ):=Jv rfl
theorem JwF {i:Nat} {lg:List Lg} {cf:List Nat} {kp:Bool} {l:List PO} {e:Env} {M:Mem} {κ:Env→Mem→Prop} (v1:Nat) (v2:Opd) (v3:Option Opd) (v4:Option Opd) (v5:Nat):JZ C i lg (⟨.sl v1 v2 v3 v4 v5,cf,kp⟩::l) e M κ=(okO C e M (.sl v1 v2 v3 v4 v5)∧cfC C lg (.sl v1 v2 v3 v4 v5) e M cf∧JZ C (i+1) (Qb kp i (.sl v1 v2 v3 v4 v5) e M lg) l (J3 (dsO (.sl v1 v2 v3 v4 v5)) (vlO C e M (.sl v1 v2 v3 v4 v5)) e) (mmO C e M (.sl v1 v2 v3 v4 v5)) κ):=Jw rfl
theorem Jsu {l:List O} {e:Env} {M:Mem} {κ:Env→Mem→Prop} (v1:Nat) (v2:Opd) (v3:Nat) (v4:Nat):JN C (.sla v1 v2 v3 v4::l) e M κ=(okO C e M (.sla v1 v2 v3 v4)∧JN C l (J3 (dsO (.sla v1 v2 v3 v4)) (vlO C e M (.sla v1 v2 v3 v4)) e) (mmO C e M (.sla v1 v2 v3 v4)) κ):=Jv rfl
theorem Jsx {i:Nat} {lg:List Lg} {cf:List Nat} {kp:Bool} {l:List PO} {e:Env} {M:Mem} {κ:Env→Mem→Prop} (v1:Nat) (v2:Opd) (v3:Nat) (v4:Nat):JZ C i lg (⟨.sla v1 v2 v3 v4,cf,kp⟩::l) e M κ=(okO C e M (.sla v1 v2 v3 v4)∧cfC C lg (.sla v1 v2 v3 v4) e M cf∧JZ C (i+1) (Qb kp i (.sla v1 v2 v3 v4) e M lg) l (J3 (dsO (.sla v1 v2 v3 v4)) (vlO C e M (.sla v1 v2 v3 v4)) e) (mmO C e M (.sla v1 v2 v3 v4)) κ):=Jw rfl
theorem JvY {l:List O} {e:Env} {M:Mem} {κ:Env→Mem→Prop} (v1:Nat) (v2:Opd):JN C (.ln v1 v2::l) e M κ=(okO C e M (.ln v1 v2)∧JN C l (J3 (dsO (.ln v1 v2)) (vlO C e M (.ln v1 v2)) e) (mmO C e M (.ln v1 v2)) κ):=Jv rfl
theorem Jwo {i:Nat} {lg:List Lg} {cf:List Nat} {kp:Bool} {l:List PO} {e:Env} {M:Mem} {κ:Env→Mem→Prop} (v1:Nat) (v2:Opd):JZ C i lg (⟨.ln v1 v2,cf,kp⟩::l) e M κ=(okO C e M (.ln v1 v2)∧cfC C lg (.ln v1 v2) e M cf∧JZ C (i+1) (Qb kp i (.ln v1 v2) e M lg) l (J3 (dsO (.ln v1 v2)) (vlO C e M (.ln v1 v2)) e) (mmO C e M (.ln v1 v2)) κ):=Jw rfl
theorem Jrc {l:List O} {e:Env} {M:Mem} {κ:Env→Mem→Prop} (v1:Nat) (v2:Opd):JN C (.lns v1 v2::l) e M κ=(okO C e M (.lns v1 v2)∧JN C l (J3 (dsO (.lns v1 v2)) (vlO C e M (.lns v1 v2)) e) (mmO C e M (.lns v1 v2)) κ):=Jv rfl
theorem Jtg {i:Nat} {lg:List Lg} {cf:List Nat} {kp:Bool} {l:List PO} {e:Env} {M:Mem} {κ:Env→Mem→Prop} (v1:Nat) (v2:Opd):JZ C i lg (⟨.lns v1 v2,cf,kp⟩::l) e M κ=(okO C e M (.lns v1 v2)∧cfC C lg (.lns v1 v2) e M cf∧JZ C (i+1) (Qb kp i (.lns v1 v2) e M lg) l (J3 (dsO (.lns v1 v2)) (vlO C e M (.lns v1 v2)) e) (mmO C e M (.lns v1 v2)) κ):=Jw rfl
theorem Jrl {l:List O} {e:Env} {M:Mem} {κ:Env→Mem→Prop} (v1:Nat) (v2:Opd):JN C (.lnm v1 v2::l) e M κ=(okO C e M (.lnm v1 v2)∧JN C l (J3 (dsO (.lnm v1 v2)) (vlO C e M (.lnm v1 v2)) e) (mmO C e M (.lnm v1 v2)) κ):=Jv rfl
theorem Jre {i:Nat} {lg:List Lg} {cf:List Nat} {kp:Bool} {l:List PO} {e:Env} {M:Mem} {κ:Env→Mem→Prop} (v1:Nat) (v2:Opd):JZ C i lg (⟨.lnm v1 v2,cf,kp⟩::l) e M κ=(okO C e M (.lnm v1 v2)∧cfC C lg (.lnm v1 v2) e M cf∧JZ C (i+1) (Qb kp i (.lnm v1 v2) e M lg) l (J3 (dsO (.lnm v1 v2)) (vlO C e M (.lnm v1 v2)) e) (mmO C e M (.lnm v1 v2)) κ):=Jw rfl
theorem Jws {l:List O} {e:Env} {M:Mem} {κ:Env→Mem→Prop} (v1:Nat) (v2:Nat) (v3:List AV):JN C (.al v1 v2 v3::l) e M κ=(okO C e M (.al v1 v2 v3)∧JN C l (J3 (dsO (.al v1 v2 v3)) (vlO C e M (.al v1 v2 v3)) e) (mmO C e M (.al v1 v2 v3)) κ):=Jv rfl
theorem Jwc {i:Nat} {lg:List Lg} {cf:List Nat} {kp:Bool} {l:List PO} {e:Env} {M:Mem} {κ:Env→Mem→Prop} (v1:Nat) (v2:Nat) (v3:List AV):JZ C i lg (⟨.al v1 v2 v3,cf,kp⟩::l) e M κ=(okO C e M (.al v1 v2 v3)∧cfC C lg (.al v1 v2 v3) e M cf∧JZ C (i+1) (Qb kp i (.al v1 v2 v3) e M lg) l (J3 (dsO (.al v1 v2 v3)) (vlO C e M (.al v1 v2 v3)) e) (mmO C e M (.al v1 v2 v3)) κ):=Jw rfl
theorem JwB {l:List O} {e:Env} {M:Mem} {κ:Env→Mem→Prop} (v1:Nat) (v2:Opd):JN C (.bx v1 v2::l) e M κ=(okO C e M (.bx v1 v2)∧JN C l (J3 (dsO (.bx v1 v2)) (vlO C e M (.bx v1 v2)) e) (mmO C e M (.bx v1 v2)) κ):=Jv rfl
theorem JvX {i:Nat} {lg:List Lg} {cf:List Nat} {kp:Bool} {l:List PO} {e:Env} {M:Mem} {κ:Env→Mem→Prop} (v1:Nat) (v2:Opd):JZ C i lg (⟨.bx v1 v2,cf,kp⟩::l) e M κ=(okO C e M (.bx v1 v2)∧cfC C lg (.bx v1 v2) e M cf∧JZ C (i+1) (Qb kp i (.bx v1 v2) e M lg) l (J3 (dsO (.bx v1 v2)) (vlO C e M (.bx v1 v2)) e) (mmO C e M (.bx v1 v2)) κ):=Jw rfl
theorem JrM {l:List O} {e:Env} {M:Mem} {κ:Env→Mem→Prop} (v1:Nat) (v2:AV):JN C (.lal v1 v2::l) e M κ=(okO C e M (.lal v1 v2)∧JN C l (J3 (dsO (.lal v1 v2)) (vlO C e M (.lal v1 v2)) e) (mmO C e M (.lal v1 v2)) κ):=Jv rfl
theorem Jtl {i:Nat} {lg:List Lg} {cf:List Nat} {kp:Bool} {l:List PO} {e:Env} {M:Mem} {κ:Env→Mem→Prop} (v1:Nat) (v2:AV):JZ C i lg (⟨.lal v1 v2,cf,kp⟩::l) e M κ=(okO C e M (.lal v1 v2)∧cfC C lg (.lal v1 v2) e M cf∧JZ C (i+1) (Qb kp i (.lal v1 v2) e M lg) l (J3 (dsO (.lal v1 v2)) (vlO C e M (.lal v1 v2)) e) (mmO C e M (.lal v1 v2)) κ):=Jw rfl
theorem Js9 {l:List O} {e:Env} {M:Mem} {κ:Env→Mem→Prop} (v1:Nat) (v2:Opd):JN C (.lbx v1 v2::l) e M κ=(okO C e M (.lbx v1 v2)∧JN C l (J3 (dsO (.lbx v1 v2)) (vlO C e M (.lbx v1 v2)) e) (mmO C e M (.lbx v1 v2)) κ):=Jv rfl
theorem Jsq {i:Nat} {lg:List Lg} {cf:List Nat} {kp:Bool} {l:List PO} {e:Env} {M:Mem} {κ:Env→Mem→Prop} (v1:Nat) (v2:Opd):JZ C i lg (⟨.lbx v1 v2,cf,kp⟩::l) e M κ=(okO C e M (.lbx v1 v2)∧cfC C lg (.lbx v1 v2) e M cf∧JZ C (i+1) (Qb kp i (.lbx v1 v2) e M lg) l (J3 (dsO (.lbx v1 v2)) (vlO C e M (.lbx v1 v2)) e) (mmO C e M (.lbx v1 v2)) κ):=Jw rfl
theorem Jv9 {l:List O} {e:Env} {M:Mem} {κ:Env→Mem→Prop} (v1:Nat) (v2:Opd) (v3:Option Nat):JN C (.ld v1 v2 v3::l) e M κ=(okO C e M (.ld v1 v2 v3)∧JN C l (J3 (dsO (.ld v1 v2 v3)) (vlO C e M (.ld v1 v2 v3)) e) (mmO C e M (.ld v1 v2 v3)) κ):=Jv rfl
theorem Jvs {i:Nat} {lg:List Lg} {cf:List Nat} {kp:Bool} {l:List PO} {e:Env} {M:Mem} {κ:Env→Mem→Prop} (v1:Nat) (v2:Opd) (v3:Option Nat):JZ C i lg (⟨.ld v1 v2 v3,cf,kp⟩::l) e M κ=(okO C e M (.ld v1 v2 v3)∧cfC C lg (.ld v1 v2 v3) e M cf∧JZ C (i+1) (Qb kp i (.ld v1 v2 v3) e M lg) l (J3 (dsO (.ld v1 v2 v3)) (vlO C e M (.ld v1 v2 v3)) e) (mmO C e M (.ld v1 v2 v3)) κ):=Jw rfl
theorem Jvr {l:List O} {e:Env} {M:Mem} {κ:Env→Mem→Prop} (v1:Opd) (v2:Opd) (v3:Nat):JN C (.st v1 v2 v3::l) e M κ=(okO C e M (.st v1 v2 v3)∧JN C l (J3 (dsO (.st v1 v2 v3)) (vlO C e M (.st v1 v2 v3)) e) (mmO C e M (.st v1 v2 v3)) κ):=Jv rfl
theorem Jvp {i:Nat} {lg:List Lg} {cf:List Nat} {kp:Bool} {l:List PO} {e:Env} {M:Mem} {κ:Env→Mem→Prop} (v1:Opd) (v2:Opd) (v3:Nat):JZ C i lg (⟨.st v1 v2 v3,cf,kp⟩::l) e M κ=(okO C e M (.st v1 v2 v3)∧cfC C lg (.st v1 v2 v3) e M cf∧JZ C (i+1) (Qb kp i (.st v1 v2 v3) e M lg) l (J3 (dsO (.st v1 v2 v3)) (vlO C e M (.st v1 v2 v3)) e) (mmO C e M (.st v1 v2 v3)) κ):=Jw rfl
theorem JvF {l:List O} {e:Env} {M:Mem} {κ:Env→Mem→Prop} (v1:Nat) (v2:Opd) (v3:Nat):JN C (.fa v1 v2 v3::l) e M κ=(okO C e M (.fa v1 v2 v3)∧JN C l (J3 (dsO (.fa v1 v2 v3)) (vlO C e M (.fa v1 v2 v3)) e) (mmO C e M (.fa v1 v2 v3)) κ):=Jv rfl
theorem JvD {i:Nat} {lg:List Lg} {cf:List Nat} {kp:Bool} {l:List PO} {e:Env} {M:Mem} {κ:Env→Mem→Prop} (v1:Nat) (v2:Opd) (v3:Nat):JZ C i lg (⟨.fa v1 v2 v3,cf,kp⟩::l) e M κ=(okO C e M (.fa v1 v2 v3)∧cfC C lg (.fa v1 v2 v3) e M cf∧JZ C (i+1) (Qb kp i (.fa v1 v2 v3) e M lg) l (J3 (dsO (.fa v1 v2 v3)) (vlO C e M (.fa v1 v2 v3)) e) (mmO C e M (.fa v1 v2 v3)) κ):=Jw rfl
theorem Jwu {l:List O} {e:Env} {M:Mem} {κ:Env→Mem→Prop} (v1:Nat) (v2:Opd) (v3:Opd) (v4:Nat):JN C (.ia v1 v2 v3 v4::l) e M κ=(okO C e M (.ia v1 v2 v3 v4)∧JN C l (J3 (dsO (.ia v1 v2 v3 v4)) (vlO C e M (.ia v1 v2 v3 v4)) e) (mmO C e M (.ia v1 v2 v3 v4)) κ):=Jv rfl
theorem Jv1 {i:Nat} {lg:List Lg} {cf:List Nat} {kp:Bool} {l:List PO} {e:Env} {M:Mem} {κ:Env→Mem→Prop} (v1:Nat) (v2:Opd) (v3:Opd) (v4:Nat):JZ C i lg (⟨.ia v1 v2 v3 v4,cf,kp⟩::l) e M κ=(okO C e M (.ia v1 v2 v3 v4)∧cfC C lg (.ia v1 v2 v3 v4) e M cf∧JZ C (i+1) (Qb kp i (.ia v1 v2 v3 v4) e M lg) l (J3 (dsO (.ia v1 v2 v3 v4)) (vlO C e M (.ia v1 v2 v3 v4)) e) (mmO C e M (.ia v1 v2 v3 v4)) κ):=Jw rfl
theorem Jtj {l:List O} {e:Env} {M:Mem} {κ:Env→Mem→Prop} (v1:Nat) (v2:Opd) (v3:Opd) (v4:Nat) (v5:Nat):JN C (.iaa v1 v2 v3 v4 v5::l) e M κ=(okO C e M (.iaa v1 v2 v3 v4 v5)∧JN C l (J3 (dsO (.iaa v1 v2 v3 v4 v5)) (vlO C e M (.iaa v1 v2 v3 v4 v5)) e) (mmO C e M (.iaa v1 v2 v3 v4 v5)) κ):=Jv rfl
theorem Jra {i:Nat} {lg:List Lg} {cf:List Nat} {kp:Bool} {l:List PO} {e:Env} {M:Mem} {κ:Env→Mem→Prop} (v1:Nat) (v2:Opd) (v3:Opd) (v4:Nat) (v5:Nat):JZ C i lg (⟨.iaa v1 v2 v3 v4 v5,cf,kp⟩::l) e M κ=(okO C e M (.iaa v1 v2 v3 v4 v5)∧cfC C lg (.iaa v1 v2 v3 v4 v5) e M cf∧JZ C (i+1) (Qb kp i (.iaa v1 v2 v3 v4 v5) e M lg) l (J3 (dsO (.iaa v1 v2 v3 v4 v5)) (vlO C e M (.iaa v1 v2 v3 v4 v5)) e) (mmO C e M (.iaa v1 v2 v3 v4 v5)) κ):=Jw rfl
theorem Jwz {l:List O} {e:Env} {M:Mem} {κ:Env→Mem→Prop} (v1:Nat) (v2:AV) (v3:Nat) (v4:Nat) (v5:List (Nat×Opd)):JN C (.bs v1 v2 v3 v4 v5::l) e M κ=(okO C e M (.bs v1 v2 v3 v4 v5)∧JN C l (J3 (dsO (.bs v1 v2 v3 v4 v5)) (vlO C e M (.bs v1 v2 v3 v4 v5)) e) (mmO C e M (.bs v1 v2 v3 v4 v5)) κ):=Jv rfl
theorem Jvo {i:Nat} {lg:List Lg} {cf:List Nat} {kp:Bool} {l:List PO} {e:Env} {M:Mem} {κ:Env→Mem→Prop} (v1:Nat) (v2:AV) (v3:Nat) (v4:Nat) (v5:List (Nat×Opd)):JZ C i lg (⟨.bs v1 v2 v3 v4 v5,cf,kp⟩::l) e M κ=(okO C e M (.bs v1 v2 v3 v4 v5)∧cfC C lg (.bs v1 v2 v3 v4 v5) e M cf∧JZ C (i+1) (Qb kp i (.bs v1 v2 v3 v4 v5) e M lg) l (J3 (dsO (.bs v1 v2 v3 v4 v5)) (vlO C e M (.bs v1 v2 v3 v4 v5)) e) (mmO C e M (.bs v1 v2 v3 v4 v5)) κ):=Jw rfl
theorem Jta {l:List O} {e:Env} {M:Mem} {κ:Env→Mem→Prop} (v1:Nat) (v2:AV) (v3:Nat) (v4:Nat) (v5:List (Nat×Opd)):JN C (.lbs v1 v2 v3 v4 v5::l) e M κ=(okO C e M (.lbs v1 v2 v3 v4 v5)∧JN C l (J3 (dsO (.lbs v1 v2 v3 v4 v5)) (vlO C e M (.lbs v1 v2 v3 v4 v5)) e) (mmO C e M (.lbs v1 v2 v3 v4 v5)) κ):=Jv rfl
theorem Jtd {i:Nat} {lg:List Lg} {cf:List Nat} {kp:Bool} {l:List PO} {e:Env} {M:Mem} {κ:Env→Mem→Prop} (v1:Nat) (v2:AV) (v3:Nat) (v4:Nat) (v5:List (Nat×Opd)):JZ C i lg (⟨.lbs v1 v2 v3 v4 v5,cf,kp⟩::l) e M κ=(okO C e M (.lbs v1 v2 v3 v4 v5)∧cfC C lg (.lbs v1 v2 v3 v4 v5) e M cf∧JZ C (i+1) (Qb kp i (.lbs v1 v2 v3 v4 v5) e M lg) l (J3 (dsO (.lbs v1 v2 v3 v4 v5)) (vlO C e M (.lbs v1 v2 v3 v4 v5)) e) (mmO C e M (.lbs v1 v2 v3 v4 v5)) κ):=Jw rfl
theorem JvM {l:List O} {e:Env} {M:Mem} {κ:Env→Mem→Prop} (v1:Nat) (v2:AV) (v3:Nat) (v4:Nat) (v5:Opd):JN C (.mk v1 v2 v3 v4 v5::l) e M κ=(okO C e M (.mk v1 v2 v3 v4 v5)∧JN C l (J3 (dsO (.mk v1 v2 v3 v4 v5)) (vlO C e M (.mk v1 v2 v3 v4 v5)) e) (mmO C e M (.mk v1 v2 v3 v4 v5)) κ):=Jv rfl
theorem Jwi {i:Nat} {lg:List Lg} {cf:List Nat} {kp:Bool} {l:List PO} {e:Env} {M:Mem} {κ:Env→Mem→Prop} (v1:Nat) (v2:AV) (v3:Nat) (v4:Nat) (v5:Opd):JZ C i lg (⟨.mk v1 v2 v3 v4 v5,cf,kp⟩::l) e M κ=(okO C e M (.mk v1 v2 v3 v4 v5)∧cfC C lg (.mk v1 v2 v3 v4 v5) e M cf∧JZ C (i+1) (Qb kp i (.mk v1 v2 v3 v4 v5) e M lg) l (J3 (dsO (.mk v1 v2 v3 v4 v5)) (vlO C e M (.mk v1 v2 v3 v4 v5)) e) (mmO C e M (.mk v1 v2 v3 v4 v5)) κ):=Jw rfl
theorem Jvv {l:List O} {e:Env} {M:Mem} {κ:Env→Mem→Prop} (v1:Nat) (v2:Opd) (v3:Opd) (v4:Nat) (v5:Nat):JN C (.ap v1 v2 v3 v4 v5::l) e M κ=(okO C e M (.ap v1 v2 v3 v4 v5)∧JN C l (J3 (dsO (.ap v1 v2 v3 v4 v5)) (vlO C e M (.ap v1 v2 v3 v4 v5)) e) (mmO C e M (.ap v1 v2 v3 v4 v5)) κ):=Jv rfl
theorem Jwe {i:Nat} {lg:List Lg} {cf:List Nat} {kp:Bool} {l:List PO} {e:Env} {M:Mem} {κ:Env→Mem→Prop} (v1:Nat) (v2:Opd) (v3:Opd) (v4:Nat) (v5:Nat):JZ C i lg (⟨.ap v1 v2 v3 v4 v5,cf,kp⟩::l) e M κ=(okO C e M (.ap v1 v2 v3 v4 v5)∧cfC C lg (.ap v1 v2 v3 v4 v5) e M cf∧JZ C (i+1) (Qb kp i (.ap v1 v2 v3 v4 v5) e M lg) l (J3 (dsO (.ap v1 v2 v3 v4 v5)) (vlO C e M (.ap v1 v2 v3 v4 v5)) e) (mmO C e M (.ap v1 v2 v3 v4 v5)) κ):=Jw rfl
theorem Jv2 {l:List O} {e:Env} {M:Mem} {κ:Env→Mem→Prop} (v1:Nat) (v2:Opd) (v3:Opd) (v4:Nat):JN C (.cp v1 v2 v3 v4::l) e M κ=(okO C e M (.cp v1 v2 v3 v4)∧JN C l (J3 (dsO (.cp v1 v2 v3 v4)) (vlO C e M (.cp v1 v2 v3 v4)) e) (mmO C e M (.cp v1 v2 v3 v4)) κ):=Jv rfl
theorem JvK {i:Nat} {lg:List Lg} {cf:List Nat} {kp:Bool} {l:List PO} {e:Env} {M:Mem} {κ:Env→Mem→Prop} (v1:Nat) (v2:Opd) (v3:Opd) (v4:Nat):JZ C i lg (⟨.cp v1 v2 v3 v4,cf,kp⟩::l) e M κ=(okO C e M (.cp v1 v2 v3 v4)∧cfC C lg (.cp v1 v2 v3 v4) e M cf∧JZ C (i+1) (Qb kp i (.cp v1 v2 v3 v4) e M lg) l (J3 (dsO (.cp v1 v2 v3 v4)) (vlO C e M (.cp v1 v2 v3 v4)) e) (mmO C e M (.cp v1 v2 v3 v4)) κ):=Jw rfl
theorem Jvy {l:List O} {e:Env} {M:Mem} {κ:Env→Mem→Prop} (v1:Option Nat) (v2:Nat) (v3:List Opd):JN C (.cl v1 v2 v3::l) e M κ=(okO C e M (.cl v1 v2 v3)∧JN C l (J3 (dsO (.cl v1 v2 v3)) (vlO C e M (.cl v1 v2 v3)) e) (mmO C e M (.cl v1 v2 v3)) κ):=Jv rfl
theorem Jv8 {i:Nat} {lg:List Lg} {cf:List Nat} {kp:Bool} {l:List PO} {e:Env} {M:Mem} {κ:Env→Mem→Prop} (v1:Option Nat) (v2:Nat) (v3:List Opd):JZ C i lg (⟨.cl v1 v2 v3,cf,kp⟩::l) e M κ=(okO C e M (.cl v1 v2 v3)∧cfC C lg (.cl v1 v2 v3) e M cf∧JZ C (i+1) (Qb kp i (.cl v1 v2 v3) e M lg) l (J3 (dsO (.cl v1 v2 v3)) (vlO C e M (.cl v1 v2 v3)) e) (mmO C e M (.cl v1 v2 v3)) κ):=Jw rfl
theorem Jwp {l:List O} {e:Env} {M:Mem} {κ:Env→Mem→Prop} (v1:Option Nat) (v2:Opd) (v3:List Opd):JN C (.cv v1 v2 v3::l) e M κ=(okO C e M (.cv v1 v2 v3)∧JN C l (J3 (dsO (.cv v1 v2 v3)) (vlO C e M (.cv v1 v2 v3)) e) (mmO C e M (.cv v1 v2 v3)) κ):=Jv rfl
theorem Jww {i:Nat} {lg:List Lg} {cf:List Nat} {kp:Bool} {l:List PO} {e:Env} {M:Mem} {κ:Env→Mem→Prop} (v1:Option Nat) (v2:Opd) (v3:List Opd):JZ C i lg (⟨.cv v1 v2 v3,cf,kp⟩::l) e M κ=(okO C e M (.cv v1 v2 v3)∧cfC C lg (.cv v1 v2 v3) e M cf∧JZ C (i+1) (Qb kp i (.cv v1 v2 v3) e M lg) l (J3 (dsO (.cv v1 v2 v3)) (vlO C e M (.cv v1 v2 v3)) e) (mmO C e M (.cv v1 v2 v3)) κ):=Jw rfl
theorem Jvt {l:List O} {e:Env} {M:Mem} {κ:Env→Mem→Prop} (v1:Nat) (v2:Nat) (v3:List Opd):JN C (.mf v1 v2 v3::l) e M κ=(okO C e M (.mf v1 v2 v3)∧JN C l (J3 (dsO (.mf v1 v2 v3)) (vlO C e M (.mf v1 v2 v3)) e) (mmO C e M (.mf v1 v2 v3)) κ):=Jv rfl
theorem JvN {i:Nat} {lg:List Lg} {cf:List Nat} {kp:Bool} {l:List PO} {e:Env} {M:Mem} {κ:Env→Mem→Prop} (v1:Nat) (v2:Nat) (v3:List Opd):JZ C i lg (⟨.mf v1 v2 v3,cf,kp⟩::l) e M κ=(okO C e M (.mf v1 v2 v3)∧cfC C lg (.mf v1 v2 v3) e M cf∧JZ C (i+1) (Qb kp i (.mf v1 v2 v3) e M lg) l (J3 (dsO (.mf v1 v2 v3)) (vlO C e M (.mf v1 v2 v3)) e) (mmO C e M (.mf v1 v2 v3)) κ):=Jw rfl
theorem JvH {l:List O} {e:Env} {M:Mem} {κ:Env→Mem→Prop} (v1:Nat) (v2:Opd):JN C (.nc v1 v2::l) e M κ=(okO C e M (.nc v1 v2)∧JN C l (J3 (dsO (.nc v1 v2)) (vlO C e M (.nc v1 v2)) e) (mmO C e M (.nc v1 v2)) κ):=Jv rfl
theorem Jvu {i:Nat} {lg:List Lg} {cf:List Nat} {kp:Bool} {l:List PO} {e:Env} {M:Mem} {κ:Env→Mem→Prop} (v1:Nat) (v2:Opd):JZ C i lg (⟨.nc v1 v2,cf,kp⟩::l) e M κ=(okO C e M (.nc v1 v2)∧cfC C lg (.nc v1 v2) e M cf∧JZ C (i+1) (Qb kp i (.nc v1 v2) e M lg) l (J3 (dsO (.nc v1 v2)) (vlO C e M (.nc v1 v2)) e) (mmO C e M (.nc v1 v2)) κ):=Jw rfl
theorem Jwx {l:List O} {e:Env} {M:Mem} {κ:Env→Mem→Prop} (v1:Nat) (v2:Bool) (v3:Opd) (v4:Opd):JN C (.mm v1 v2 v3 v4::l) e M κ=(okO C e M (.mm v1 v2 v3 v4)∧JN C l (J3 (dsO (.mm v1 v2 v3 v4)) (vlO C e M (.mm v1 v2 v3 v4)) e) (mmO C e M (.mm v1 v2 v3 v4)) κ):=Jv rfl
theorem JvW {i:Nat} {lg:List Lg} {cf:List Nat} {kp:Bool} {l:List PO} {e:Env} {M:Mem} {κ:Env→Mem→Prop} (v1:Nat) (v2:Bool) (v3:Opd) (v4:Opd):JZ C i lg (⟨.mm v1 v2 v3 v4,cf,kp⟩::l) e M κ=(okO C e M (.mm v1 v2 v3 v4)∧cfC C lg (.mm v1 v2 v3 v4) e M cf∧JZ C (i+1) (Qb kp i (.mm v1 v2 v3 v4) e M lg) l (J3 (dsO (.mm v1 v2 v3 v4)) (vlO C e M (.mm v1 v2 v3 v4)) e) (mmO C e M (.mm v1 v2 v3 v4)) κ):=Jw rfl
theorem Jry {l:List O} {e:Env} {M:Mem} {κ:Env→Mem→Prop} (v1:Nat):JN C (.mkm v1::l) e M κ=(okO C e M (.mkm v1)∧JN C l (J3 (dsO (.mkm v1)) (vlO C e M (.mkm v1)) e) (mmO C e M (.mkm v1)) κ):=Jv rfl
theorem Jrx {i:Nat} {lg:List Lg} {cf:List Nat} {kp:Bool} {l:List PO} {e:Env} {M:Mem} {κ:Env→Mem→Prop} (v1:Nat):JZ C i lg (⟨.mkm v1,cf,kp⟩::l) e M κ=(okO C e M (.mkm v1)∧cfC C lg (.mkm v1) e M cf∧JZ C (i+1) (Qb kp i (.mkm v1) e M lg) l (J3 (dsO (.mkm v1)) (vlO C e M (.mkm v1)) e) (mmO C e M (.mkm v1)) κ):=Jw rfl
theorem JvU {l:List O} {e:Env} {M:Mem} {κ:Env→Mem→Prop} (v1:Nat) (v2:Opd) (v3:Opd) (v4:AV) (v5:List Ck) (v6:Bool):JN C (.lk v1 v2 v3 v4 v5 v6::l) e M κ=(okO C e M (.lk v1 v2 v3 v4 v5 v6)∧JN C l (J3 (dsO (.lk v1 v2 v3 v4 v5 v6)) (vlO C e M (.lk v1 v2 v3 v4 v5 v6)) e) (mmO C e M (.lk v1 v2 v3 v4 v5 v6)) κ):=Jv rfl
theorem Jvx {i:Nat} {lg:List Lg} {cf:List Nat} {kp:Bool} {l:List PO} {e:Env} {M:Mem} {κ:Env→Mem→Prop} (v1:Nat) (v2:Opd) (v3:Opd) (v4:AV) (v5:List Ck) (v6:Bool):JZ C i lg (⟨.lk v1 v2 v3 v4 v5 v6,cf,kp⟩::l) e M κ=(okO C e M (.lk v1 v2 v3 v4 v5 v6)∧cfC C lg (.lk v1 v2 v3 v4 v5 v6) e M cf∧JZ C (i+1) (Qb kp i (.lk v1 v2 v3 v4 v5 v6) e M lg) l (J3 (dsO (.lk v1 v2 v3 v4 v5 v6)) (vlO C e M (.lk v1 v2 v3 v4 v5 v6)) e) (mmO C e M (.lk v1 v2 v3 v4 v5 v6)) κ):=Jw rfl
theorem Jwy {l:List O} {e:Env} {M:Mem} {κ:Env→Mem→Prop} (v1:Opd) (v2:Opd) (v3:Opd) (v4:List Ck):JN C (.mu v1 v2 v3 v4::l) e M κ=(okO C e M (.mu v1 v2 v3 v4)∧JN C l (J3 (dsO (.mu v1 v2 v3 v4)) (vlO C e M (.mu v1 v2 v3 v4)) e) (mmO C e M (.mu v1 v2 v3 v4)) κ):=Jv rfl
theorem Jv7 {i:Nat} {lg:List Lg} {cf:List Nat} {kp:Bool} {l:List PO} {e:Env} {M:Mem} {κ:Env→Mem→Prop} (v1:Opd) (v2:Opd) (v3:Opd) (v4:List Ck):JZ C i lg (⟨.mu v1 v2 v3 v4,cf,kp⟩::l) e M κ=(okO C e M (.mu v1 v2 v3 v4)∧cfC C lg (.mu v1 v2 v3 v4) e M cf∧JZ C (i+1) (Qb kp i (.mu v1 v2 v3 v4) e M lg) l (J3 (dsO (.mu v1 v2 v3 v4)) (vlO C e M (.mu v1 v2 v3 v4)) e) (mmO C e M (.mu v1 v2 v3 v4)) κ):=Jw rfl
theorem Jwj {l:List O} {e:Env} {M:Mem} {κ:Env→Mem→Prop} (v1:Opd) (v2:Opd) (v3:List Ck):JN C (.dl v1 v2 v3::l) e M κ=(okO C e M (.dl v1 v2 v3)∧JN C l (J3 (dsO (.dl v1 v2 v3)) (vlO C e M (.dl v1 v2 v3)) e) (mmO C e M (.dl v1 v2 v3)) κ):=Jv rfl
theorem JwA {i:Nat} {lg:List Lg} {cf:List Nat} {kp:Bool} {l:List PO} {e:Env} {M:Mem} {κ:Env→Mem→Prop} (v1:Opd) (v2:Opd) (v3:List Ck):JZ C i lg (⟨.dl v1 v2 v3,cf,kp⟩::l) e M κ=(okO C e M (.dl v1 v2 v3)∧cfC C lg (.dl v1 v2 v3) e M cf∧JZ C (i+1) (Qb kp i (.dl v1 v2 v3) e M lg) l (J3 (dsO (.dl v1 v2 v3)) (vlO C e M (.dl v1 v2 v3)) e) (mmO C e M (.dl v1 v2 v3)) κ):=Jw rfl
theorem JwE {l:List O} {e:Env} {M:Mem} {κ:Env→Mem→Prop} (v1:Nat) (v2:Opd):JN C (.rs v1 v2::l) e M κ=(okO C e M (.rs v1 v2)∧JN C l (J3 (dsO (.rs v1 v2)) (vlO C e M (.rs v1 v2)) e) (mmO C e M (.rs v1 v2)) κ):=Jv rfl
theorem Jwt {i:Nat} {lg:List Lg} {cf:List Nat} {kp:Bool} {l:List PO} {e:Env} {M:Mem} {κ:Env→Mem→Prop} (v1:Nat) (v2:Opd):JZ C i lg (⟨.rs v1 v2,cf,kp⟩::l) e M κ=(okO C e M (.rs v1 v2)∧cfC C lg (.rs v1 v2) e M cf∧JZ C (i+1) (Qb kp i (.rs v1 v2) e M lg) l (J3 (dsO (.rs v1 v2)) (vlO C e M (.rs v1 v2)) e) (mmO C e M (.rs v1 v2)) κ):=Jw rfl
theorem Jv3 {l:List O} {e:Env} {M:Mem} {κ:Env→Mem→Prop} (v1:Nat) (v2:Opd):JN C (.nx v1 v2::l) e M κ=(okO C e M (.nx v1 v2)∧JN C l (J3 (dsO (.nx v1 v2)) (vlO C e M (.nx v1 v2)) e) (mmO C e M (.nx v1 v2)) κ):=Jv rfl
theorem Jvz {i:Nat} {lg:List Lg} {cf:List Nat} {kp:Bool} {l:List PO} {e:Env} {M:Mem} {κ:Env→Mem→Prop} (v1:Nat) (v2:Opd):JZ C i lg (⟨.nx v1 v2,cf,kp⟩::l) e M κ=(okO C e M (.nx v1 v2)∧cfC C lg (.nx v1 v2) e M cf∧JZ C (i+1) (Qb kp i (.nx v1 v2) e M lg) l (J3 (dsO (.nx v1 v2)) (vlO C e M (.nx v1 v2)) e) (mmO C e M (.nx v1 v2)) κ):=Jw rfl
theorem JsF {l:List O} {e:Env} {M:Mem} {κ:Env→Mem→Prop} (v1:Nat) (v2:Opd):JN C (.rsm v1 v2::l) e M κ=(okO C e M (.rsm v1 v2)∧JN C l (J3 (dsO (.rsm v1 v2)) (vlO C e M (.rsm v1 v2)) e) (mmO C e M (.rsm v1 v2)) κ):=Jv rfl
theorem JvG {l:List O} {e:Env} {M:Mem} {κ:Env→Mem→Prop} (v1 v2:Nat) (v3:Opd):JN C (.mi v1 v2 v3::l) e M κ=(okO C e M (.mi v1 v2 v3)∧JN C l (J3 (dsO (.mi v1 v2 v3)) (vlO C e M (.mi v1 v2 v3)) e) (mmO C e M (.mi v1 v2 v3)) κ):=Jv rfl
theorem Jwm {i:Nat} {lg:List Lg} {cf:List Nat} {kp:Bool} {l:List PO} {e:Env} {M:Mem} {κ:Env→Mem→Prop} (v1 v2:Nat) (v3:Opd):JZ C i lg (⟨.mi v1 v2 v3,cf,kp⟩::l) e M κ=(okO C e M (.mi v1 v2 v3)∧cfC C lg (.mi v1 v2 v3) e M cf∧JZ C (i+1) (Qb kp i (.mi v1 v2 v3) e M lg) l (J3 (dsO (.mi v1 v2 v3)) (vlO C e M (.mi v1 v2 v3)) e) (mmO C e M (.mi v1 v2 v3)) κ):=Jw rfl
theorem JvI {l:List O} {e:Env} {M:Mem} {κ:Env→Mem→Prop} (v1:Nat) (v2:Opd):JN C (.en v1 v2::l) e M κ=(okO C e M (.en v1 v2)∧JN C l (J3 (dsO (.en v1 v2)) (vlO C e M (.en v1 v2)) e) (mmO C e M (.en v1 v2)) κ):=Jv rfl
theorem JvP {i:Nat} {lg:List Lg} {cf:List Nat} {kp:Bool} {l:List PO} {e:Env} {M:Mem} {κ:Env→Mem→Prop} (v1:Nat) (v2:Opd):JZ C i lg (⟨.en v1 v2,cf,kp⟩::l) e M κ=(okO C e M (.en v1 v2)∧cfC C lg (.en v1 v2) e M cf∧JZ C (i+1) (Qb kp i (.en v1 v2) e M lg) l (J3 (dsO (.en v1 v2)) (vlO C e M (.en v1 v2)) e) (mmO C e M (.en v1 v2)) κ):=Jw rfl
theorem JtE {l:List O} {e:Env} {M:Mem} {κ:Env→Mem→Prop} (d:Nat) (x:Opd):JN C (.nxm d x::l) e M κ=(nmC M (evT e x)∧
  (∀ j,j < (Yq M.h (Jdd M (evT e x))).length→ ¬ j∈ZC M (evT e x)→JN C l ((d,.tp [.b true,((Yq M.h (Jdd M (evT e x))).getD j (.u,.u)).1,((Yq M.h (Jdd M (evT e x))).getD j (.u,.u)).2])::e) (nmM M (evT e x) j) κ)∧
  ((∀ j,j < (Yq M.h (Jdd M (evT e x))).length→j∈ZC M (evT e x))→JN C l ((d,.tp [.b false])::e) M κ)):=by simp only [JN]
theorem x_b {id:Nat} {s:S} {e:Env} {M:Mem} {κ:Jaa}:exec C (.b id s) e M κ=exec C s e M (JgV id κ):=rfl
theorem x_x {id:Nat} {e:Env} {M:Mem} {κ:Jaa}:exec C (.x id) e M κ=κ (.ex id) e M:=rfl
theorem x_r {e:Env} {M:Mem} {κ:Jaa}:exec C .r e M κ=κ .rt e M:=rfl
end
theorem Jrk {a:List AV} {p:List AV→Prop}:(∃ xs,AV.tp a= .tp xs∧p xs)=p a:=propext ⟨fun ⟨_,h,k⟩=>by cases h;exact k,fun h=>⟨a,rfl,h⟩⟩
theorem Jsy {a:List AV} {p:List AV→Prop}:(∃ xs,AV.ag a= .ag xs∧p xs)=p a:=propext ⟨fun ⟨_,h,k⟩=>by cases h;exact k,fun h=>⟨a,rfl,h⟩⟩
theorem Jj (i:Nat):(i:Int).toNat=i:=rfl
theorem w64 {x:Int} (h1: -9223372036854775808≤x) (h2:x≤9223372036854775807):IntKind.i64.wrap x=x:=by rw [IntKind.wrap_i64];omega
structure Ext (H H':AH):Prop where
 n:H.n≤H'.n
 at': ∀ i,i < H.n→H'.at' i=H.at' i
theorem Ext.refl (H:AH):Ext H H:=⟨Nat.le_refl _,fun _ _=>rfl⟩
theorem Ext.trans {a b c:AH} (h:Ext a b) (k:Ext b c):Ext a c:=⟨Nat.le_trans h.n k.n,fun i hi=>by rw [k.at' i (Nat.lt_of_lt_of_le hi h.n),h.at' i hi]⟩
theorem Ext.new (H:AH) (o:Ob):Ext H (H.new o):=⟨Nat.le_succ _,fun i hi=>by simp only [AH.new];rw [if_neg (by omega)]⟩
theorem Ext.set {H H':AH} {id:Nat} {o:Ob} (h:Ext H H') (hi:H.n≤id):Ext H (H'.set id o):=⟨h.n,fun i hi'=>by simp only [AH.set];rw [if_neg (by omega)];exact h.at' i hi'⟩
@[simp] theorem Jw4 {H:AH} {o:Ob}:(H.new o).n=H.n+1:=rfl
@[simp] theorem JwH {H:AH} {id:Nat} {o:Ob}:(H.set id o).n=H.n:=rfl
@[simp] theorem QD {H:AH} {o:Ob}:(H.new o).at' H.n=o:=by simp [AH.new]
@[simp] theorem Z9 {H:AH} {id:Nat} {o:Ob}:(H.set id o).at' id=o:=by simp [AH.set]
theorem Jgu {H:AH} {o:Ob} {i:Nat} (h:i < H.n):(H.new o).at' i=H.at' i:=by simp only [AH.new];rw [if_neg (by omega)]
theorem XQ {H:AH} {id i:Nat} {o:Ob} (h:i≠id):(H.set id o).at' i=H.at' i:=by simp only [AH.set];rw [if_neg h]
theorem Jo8 {H:AH} {o o':Ob}:(H.new o).set H.n o'=H.new o':=by
 simp only [AH.set,AH.new];congr 1;funext i;by_cases h:i=H.n<;>simp [h]
def idA:AV→List Nat
 | .sl id _ _=>[id]
 | _=>[]
inductive Sl (H:AH) (z:Nat):AV→List AV→Prop
 | nil:Sl H z .ns []
 | sl {id ix st:Nat} {rw:Bool} {xs els:List AV}:id < H.n→H.at' id= .arr rw st z xs→ix+els.length≤xs.length→(xs.drop ix).take els.length=els→(st=2→ix+els.length=xs.length)→Sl H z (.sl id ix els.length) els
inductive Mn (H:AH) (z:Nat):AV→List AV→Prop
 | nil:Mn H z .ns []
 | own {id st:Nat} {xs:List AV}:id < H.n→H.at' id= .arr true st z xs→Mn H z (.sl id 0 xs.length) xs
section
variable {H H':AH} {a:AV} {els:List AV} {z:Nat}
theorem Sl.lt (h:Sl H z a els): ∀ i,i∈idA a→i < H.n:=by
 cases h with
 | nil=>intro i hi;cases hi
 | sl h1 h2 h3 h4 h5=>intro i hi;simp only [idA,List.mem_singleton] at hi;rw [hi];exact h1
theorem Sl.fr (h:Sl H z a els) (hn:H.n≤H'.n) (ha: ∀ i,i∈idA a→H'.at' i=H.at' i):Sl H' z a els:=by
 cases h with
 | nil=>exact .nil
 | sl h1 h2 h3 h4 h5=>exact .sl (Nat.lt_of_lt_of_le h1 hn) (by rw [ha _ (by simp [idA])];exact h2) h3 h4 h5
theorem Sl.ext (h:Sl H z a els) (he:Ext H H'):Sl H' z a els:=h.fr he.n fun i hi=>he.at' i (h.lt i hi)
theorem Sl.len (h:Sl H z a els):Jhx a= .i .i64 els.length∧JlE a:=by
 cases h with
 | nil=>exact ⟨rfl,trivial⟩
 | sl=>exact ⟨rfl,trivial⟩
theorem Sl.rd (h:Sl H z a els):Jid H a∧slZ H z a∧Yk H a=els:=by
 cases h with
 | nil=>exact ⟨trivial,trivial,rfl⟩
 | sl h1 h2 h3 h4 h5=>simp only [Jid,slZ,Yk,h2];exact ⟨⟨h3,h5⟩,trivial,h4⟩
theorem Sl.one (h:Sl H z a els):a.cells=[a]:=by cases h<;>rfl
theorem Sl.out (h:Sl H z a els):a.outs=true:=by cases h<;>rfl
theorem Sl.src (h:Sl H z a els) (L:List Lv) (g:Nat):QE ⟨L,g,H⟩ a=els∧Je7 ⟨L,g,H⟩ z a:=by
 obtain ⟨h1,h2,h3⟩:=h.rd;cases h<;>exact ⟨h3,h1,h2⟩
theorem Sl.ia (h:Sl H z a els) {j:Int} (h0:0≤j) (hj:j < els.length):slZ H z a∧iaC j a∧faC (iaV j.toNat a)∧
  ∀ (L:List Lv) (g off:Nat) (n:Option Nat),JF (els.getD j.toNat .u).cells off n→ldC ⟨L,g,H⟩ n (faV off (iaV j.toNat a))∧ldX ⟨L,g,H⟩ n (faV off (iaV j.toNat a))=partOf (els.getD j.toNat .u).cells off n:=by
 cases h with
 | nil=>simp at hj;omega
 | @sl id ix st rw xs els h1 h2 h3 h4 h5=>
  have hjn:j.toNat < els.length:=by omega
  have hx:xs[ix+j.toNat]? =some els[j.toNat]:=by
   have:=congrArg (·[j.toNat]?) h4;simp only [List.getElem?_take,if_pos hjn,List.getElem?_drop] at this;rw [this,List.getElem?_eq_getElem hjn]
  have hg:xs.getD (ix+j.toNat) .u=els.getD j.toNat .u:=by simp [List.getD,hx,List.getElem?_eq_getElem hjn]
  refine ⟨by simp only [slZ,h2],⟨h0,hj⟩,trivial,fun L g off n hp=>⟨?_,?_⟩⟩
  ·simp only [iaV,faV,ldC,h2,hg,Nat.zero_add]
   exact ⟨h5,by omega,hp⟩
  ·simp only [iaV,faV,ldX,ldV,h2,hg,Nat.zero_add]
theorem fa0 (j:Nat) (a:AV):faV 0 (iaV j a)=iaV j a:=by cases a<;>rfl
theorem Sl.ia1 (h:Sl H z a els) {j:Int} (h0:0≤j) (hj:j < els.length) {v:AV} (hv:(els.getD j.toNat .u).cells=[v]) (L:List Lv) (g:Nat):slZ H z a∧iaC j a∧ldC ⟨L,g,H⟩ none (iaV j.toNat a)∧ldX ⟨L,g,H⟩ none (iaV j.toNat a)=v:=by
 obtain ⟨h1,h2,-,h4⟩:=h.ia h0 hj;have:=h4 L g 0 none (by rw [hv];simp [JF])
 rw [fa0,hv] at this;exact ⟨h1,h2,this.1,this.2⟩
def Cl (H:AH) (a:AV):Prop:= ∀ i,i∈idA a→ ∀ rw st z xs,H.at' i= .arr rw st z xs→st≠2
theorem JlK (lo hi:Nat) (a:AV):idA (slV lo hi a)=idA a:=by cases a<;>rfl
theorem Sl.sub (h:Sl H z a els) (hst:Cl H a) {lo hi:Int} (h0:0≤lo) (h1:lo≤hi) (h2:hi≤els.length):slC lo hi a∧slZ H z a∧Sl H z (slV lo.toNat hi.toNat a) ((els.drop lo.toNat).take (hi.toNat-lo.toNat)):=by
 cases h with
 | nil=>
  have e1:lo=0:=by simp at h2;omega
  have e2:hi=0:=by simp at h2;omega
  subst e1 e2;exact ⟨⟨rfl,rfl⟩,trivial,by simpa [slV] using (Sl.nil:Sl H z .ns [])⟩
 | @sl id ix st rw xs els k1 k2 k3 k4 k5=>
  have hs:=hst id (by simp [idA]) rw st z xs k2
  refine ⟨⟨h0,h1,h2⟩,by simp only [slZ,k2],?_⟩
  have hl:((els.drop lo.toNat).take (hi.toNat-lo.toNat)).length=hi.toNat-lo.toNat:=by simp;omega
  simp only [slV]
  have:=Sl.sl (H:=H) (z:=z) (ix:=ix+lo.toNat) (els:=(els.drop lo.toNat).take (hi.toNat-lo.toNat)) k1 k2 (by rw [hl];omega) (by
   rw [hl];conv=>rhs;rw [←k4]
   rw [List.drop_take,List.take_take,List.drop_drop,Nat.min_eq_left (by omega)]) (fun e=>absurd e hs)
  rw [hl] at this;exact this
theorem Mn.sl (h:Mn H z a els):Sl H z a els:=by
 cases h with
 | nil=>exact .nil
 | own h1 h2=>exact .sl h1 h2 (by simp) (by simp) (by simp)
theorem Mn.lt (h:Mn H z a els): ∀ i,i∈idA a→i < H.n:=h.sl.lt
theorem Mn.fr (h:Mn H z a els) (hn:H.n≤H'.n) (ha: ∀ i,i∈idA a→H'.at' i=H.at' i):Mn H' z a els:=by
 cases h with
 | nil=>exact .nil
 | own h1 h2=>exact .own (Nat.lt_of_lt_of_le h1 hn) (by rw [ha _ (by simp [idA])];exact h2)
theorem Mn.ext (h:Mn H z a els) (he:Ext H H'):Mn H' z a els:=h.fr he.n fun i hi=>he.at' i (h.lt i hi)
theorem Mn.st (h:Mn H z a els) {j:Int} (h0:0≤j) (hj:j < els.length) {v:AV} {off:Nat} (hf:off+v.cells.length≤(els.getD j.toNat .u).cells.length) (L:List Lv) (g:Nat):
  stC ⟨L,g,H⟩ v (faV off (iaV j.toNat a))∧ ∃ H',stM ⟨L,g,H⟩ v (faV off (iaV j.toNat a))=⟨L,g,H'⟩∧Mn H' z a (els.set j.toNat (Wt (els.getD j.toNat .u) off v))∧H'.n=H.n∧ ∀ i,¬ i∈idA a→H'.at' i=H.at' i:=by
 cases h with
 | nil=>simp at hj;omega
 | @own id st xs h1 h2=>
  have hjn:j.toNat < els.length:=by omega
  refine ⟨?_,H.set id (.arr true (if st=0 then 0 else 2) z (els.set j.toNat (Wt (els.getD j.toNat .u) off v))),?_,?_,rfl,fun i hi=>XQ fun e=>hi (by simp [idA,e])⟩
  ·simp only [iaV,faV,stC,h2,Nat.zero_add]
   exact ⟨trivial,trivial,hjn,hf⟩
  ·simp only [iaV,faV,stM,h2,Nat.zero_add]
  ·have hl:(els.set j.toNat (Wt (els.getD j.toNat .u) off v)).length=els.length:=by simp
   rw [←hl];exact .own h1 Z9
theorem Jed {x v:AV} (hv:v.cells=[v]) (hx: ∀ cs,x≠ .ag cs):Wt x 0 v=v:=by
 cases x<;>first | exact absurd rfl (hx _) | simp [Wt,hv]
theorem Mn.ap (h:Mn H z a els) {y:AV} {ys:List AV} {L:List Lv} {g by':Nat} (hy:QE ⟨L,g,H⟩ y=ys∧Je7 ⟨L,g,H⟩ z y) (hb:(els.length+ys.length)*by'≤140737488355328):
  apC ⟨L,g,H⟩ z by' y a∧ ∃ a' H',apV ⟨L,g,H⟩ y a=a'∧apM ⟨L,g,H⟩ z y a=⟨L,g,H'⟩∧Mn H' z a' (els++ys)∧H.n≤H'.n∧(∀ i,i < H.n→ ¬ i∈idA a→H'.at' i=H.at' i)∧(∀ i,i∈idA a'→i∈idA a∨H.n≤i)∧(∀ i,i∈idA a→i∈idA a')∧(Cl H a→Cl H' a'):=by
 obtain ⟨hy1,hy2⟩:=hy;cases h with
 | nil=>
  refine ⟨⟨hy2,by rw [hy1];simpa using hb⟩,?_⟩
  by_cases hn:ys.length=0
  ·have:ys=[]:=List.eq_nil_of_length_eq_zero hn
   subst this;exact ⟨.ns,H,by simp only [apV,hy1];rfl,by simp only [apM,hy1];rfl,.nil,Nat.le_refl _,fun _ _ _=>rfl,fun i hi=>(by cases hi),fun i hi=>(by cases hi),fun _ i hi=>(by cases hi)⟩
  ·refine ⟨.sl H.n 0 ys.length,H.new (.arr true 0 z ys),by simp only [apV,hy1];rw [if_neg hn],by simp only [apM,hy1];rw [if_neg hn],.own (by simp) QD,by simp,fun i hi _=>Jgu hi,fun i hi=> .inr ?_,fun i hi=>(by cases hi),fun _ i hi rw st z' xs he=> ?_⟩
   ·simp only [idA,List.mem_singleton] at hi;omega
   ·simp only [idA,List.mem_singleton] at hi
    subst hi;rw [QD] at he;cases he;decide
 | @own id st xs h1 h2=>
  refine ⟨⟨by simp only [h2];exact ⟨trivial,trivial,by simp⟩,hy2,by rw [hy1];exact hb⟩,.sl id 0 (els.length+ys.length),?_⟩
  have hl:(els++ys).length=els.length+ys.length:=by simp
  by_cases hn:ys.length=0
  ·have:ys=[]:=List.eq_nil_of_length_eq_zero hn
   subst this;refine ⟨H,by simp only [apV,hy1],by simp only [apM,h2,hy1];rfl,?_,Nat.le_refl _,fun _ _ _=>rfl,fun i hi=> .inl hi,fun i hi=>hi,fun hc=>hc⟩
   rw [←hl,List.append_nil];exact .own h1 h2
  ·refine ⟨H.set id (.arr true (if st=2 then 2 else 1) z (els++ys)),by simp only [apV,hy1],by simp only [apM,h2,hy1];rw [if_neg hn],?_,Nat.le_refl _,fun i _ hi=>XQ fun e=>hi (by simp [idA,e]),fun i hi=> .inl hi,fun i hi=>hi,fun hc i hi rw st' z' xs' he=> ?_⟩
   ·rw [←hl];exact .own h1 Z9
   ·simp only [idA,List.mem_singleton] at hi
    subst hi;rw [Z9] at he;have:=hc i (by simp [idA]) _ _ _ _ h2
    cases he;rw [if_neg this];decide
end
theorem Ext.put {H H1 H2:AH} {l:List Nat} (h:Ext H H1) (hi: ∀ i,i∈l→H.n≤i) (hn:H1.n≤H2.n) (ha: ∀ i,i < H1.n→ ¬ i∈l→H2.at' i=H1.at' i):Ext H H2:=
 ⟨Nat.le_trans h.n hn,fun i hi'=>by rw [ha i (Nat.lt_of_lt_of_le hi' h.n) fun hm=>by have:=hi i hm;omega];exact h.at' i hi'⟩
theorem Jhc: ∀ l:List UInt8,JjY (XR l)
 | []=>trivial
 | _::r=>⟨⟨_,rfl⟩,Jhc r⟩
theorem Jla: ∀ l:List UInt8,Jmi (XR l)=l
 | []=>rfl
 | b::r=>by
  have:=Jla r;simp only [XR,List.map_cons,Jmi] at*;rw [this];simp [AV.toI]
@[simp] theorem JaP (l:List UInt8):(XR l).length=l.length:=by simp [XR]
theorem JiD (l m:List UInt8):XR (l++m)=XR l++XR m:=by simp [XR]
theorem JmC (l:List UInt8) (n:Nat):(XR l).take n=XR (l.take n):=by simp [XR,List.map_take]
theorem Jmz (l:List UInt8) (n:Nat):(XR l).drop n=XR (l.drop n):=by simp [XR,List.map_drop]
theorem Jlu {l:List UInt8} {i:Nat} (h:i < l.length):(XR l).getD i .u= .i .u8 (l.getD i 0).toNat:=by simp [List.getD,XR,h]
theorem Jpu {l:List UInt8} {i:Nat} {b:UInt8}:(XR l).set i (.i .u8 b.toNat)=XR (l.set i b):=by simp [XR,List.map_set]
theorem u8w (k:Nat):IntKind.u8.wrap (k:Int)=((UInt8.ofNat k).toNat:Int):=by
 rw [IntKind.wrap_u8];simp [UInt8.toNat_ofNat']
abbrev Byt (H:AH) (a:AV) (l:List UInt8):Prop:=Sl H 1 a (XR l)
abbrev Mb (H:AH) (a:AV) (l:List UInt8):Prop:=Mn H 1 a (XR l)
section
variable {H:AH} {a:AV} {l:List UInt8}
theorem Byt.len (h:Byt H a l):Jhx a= .i .i64 l.length∧JlE a:=by
 have:=Sl.len h;rwa [JaP] at this
theorem Byt.cbs (h:Byt H a l):(Jid H a∧slZ H 1 a∧JjY (Yk H a))∧AV.s (Jmi (Yk H a))= .s l:=by
 obtain ⟨h1,h2,h3⟩:=Sl.rd h;rw [h3,Jla];exact ⟨⟨h1,h2,Jhc l⟩,rfl⟩
theorem Byt.ia (h:Byt H a l) {j:Int} (h0:0≤j) (hj:j < l.length) (L:List Lv) (g:Nat):slZ H 1 a∧iaC j a∧ldC ⟨L,g,H⟩ none (iaV j.toNat a)∧ldX ⟨L,g,H⟩ none (iaV j.toNat a)= .i .u8 (l.getD j.toNat 0).toNat:=
 Sl.ia1 h h0 (by rw [JaP];exact hj) (by rw [Jlu (by omega)];rfl) L g
theorem Mb.st (h:Mb H a l) {j:Int} (h0:0≤j) (hj:j < l.length) (b:UInt8) (L:List Lv) (g:Nat):
  slZ H 1 a∧iaC j a∧stC ⟨L,g,H⟩ (.i .u8 b.toNat) (iaV j.toNat a)∧ ∃ H',stM ⟨L,g,H⟩ (.i .u8 b.toNat) (iaV j.toNat a)=⟨L,g,H'⟩∧Mb H' a (l.set j.toNat b)∧H'.n=H.n∧ ∀ i,¬ i∈idA a→H'.at' i=H.at' i:=by
 have hj':j < (XR l).length:=by rw [JaP];exact hj
 obtain ⟨h1,h2,-⟩:=(Mn.sl h).ia h0 hj';have hg:=Jlu (l:=l) (i:=j.toNat) (by omega)
 obtain ⟨h3,H',h4,h5,h6⟩:=Mn.st h h0 hj' (v:= .i .u8 b.toNat) (off:=0) (by rw [hg];exact Nat.le_refl _) L g
 rw [fa0] at h3 h4;rw [hg,Jed rfl (fun cs h=>by cases h),Jpu] at h5
 exact ⟨h1,h2,h3,H',h4,h5,h6⟩
end
section
variable {M:Mem} {t g ix off:Nat} {v:AV}
theorem JkT:faC (.la t g ix off):=trivial
theorem JlD {o:Nat}:faV o (.la t g ix off)= .la t g ix (off+o):=rfl
theorem Jkl {n:Option Nat}:ldC M n (.la t g ix off)=(M.hasL t g 0=true∧ix < (M.getL t g 0).length∧JF ((M.getL t g 0).getD ix .u).cells off n):=rfl
theorem Jkv {n:Option Nat}:ldX M n (.la t g ix off)=partOf ((M.getL t g 0).getD ix .u).cells off n:=by
 cases n with
 | none=>rfl
 | some n=>cases n<;>rfl
theorem Jl4:stC M v (.la t g ix off)=(M.hasL t g 0=true∧ix < (M.getL t g 0).length∧off+v.cells.length≤((M.getL t g 0).getD ix .u).cells.length):=rfl
theorem JkB:stM M v (.la t g ix off)=⟨Jhp M.l t ((M.getL t g 0).set ix (Wt ((M.getL t g 0).getD ix .u) off v)),M.g,M.h⟩:=rfl
end
end Go.Vm
