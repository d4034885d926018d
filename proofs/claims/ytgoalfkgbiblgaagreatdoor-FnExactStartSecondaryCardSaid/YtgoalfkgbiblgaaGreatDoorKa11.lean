import Derived.Test.YtgoalfkgbiblgaaGreatDoorKa4
import Derived.Test.YtgoalfkgbiblgaaGreatDoorKa10
import Derived.Test.YtgoalfkgbiblgaaGreatDoorKa9
import Derived.Test.YtgoalfkgbiblgaaGreatDoorKa3
import Derived.Test.YtgoalfkgbiblgaaGreatDoorProg
import Derived.KernelRfl
import Derived.Test.YtgoalfkgbiblgaaGreatDoorKa6
/- The program's zone out of records: grouping, the loop. -/
set_option linter.unusedVariables false
set_option linter.unusedSimpArgs false
set_option maxRecDepth 100000
open Nat renaming reduceAdd→Ja,reduceLT→Jb,reduceEqDiff→Jc,reduceSub→Je,reduceLeDiff→Jg
open Int renaming reduceToNat→Jd,reduceLE→Jf,reduceLT→Ji
namespace Go.Vm
def Kz (l:List Rr) (j:Nat):List Zi:=((Jn (l.map zi)).take j).map (itZ (l.map zi))
theorem JlT {l:List Rr} {j:Nat} (hj:j < (Jn (l.map zi)).length):Kz l (j+1)=Kz l j++[itZ (l.map zi) (Jn (l.map zi))[j]]:=by
 unfold Kz
 rw [List.take_succ_eq_append_getElem hj,List.map_append];rfl
theorem JsW (l:List Rr):Kz l (Jn (l.map zi)).length=J2 (l.map zi):=by unfold Kz;rw [List.take_length];rfl
theorem Jtb (l:List Rr) (j:Nat):(Kz l j).length≤j:=by simp [Kz];omega
theorem JtI {l:List Rr} {j:Nat} (hj:j < (Jn (l.map zi)).length):((Kz l (j+1)).find? fun y=>decide (y.f=(itZ (l.map zi) (Jn (l.map zi))[j]).f)).map (fun y=>y.r.o)=some (W9 (l.map zi) (itZ (l.map zi) (Jn (l.map zi))[j]).f):=by
 have hsp:J2 (l.map zi)=Kz l (j+1)++((Jn (l.map zi)).drop (j+1)).map (itZ (l.map zi)):=by
  unfold J2 Kz;rw [←List.map_append,List.take_append_drop]
 generalize hx:itZ (l.map zi) (Jn (l.map zi))[j]=x at*
 have hm:x∈Kz l (j+1):=by rw [JlT hj,hx];simp
 cases hf:(Kz l (j+1)).find? fun y=>decide (y.f=x.f) with
 | none=>exact absurd (by simp) (List.find?_eq_none.1 hf x hm)
 | some y=>
  have h1:(J2 (l.map zi)).find? (fun y=>decide (y.f=x.f))=some y:=by rw [hsp,List.find?_append,hf];rfl
  rw [Jhl] at h1
  unfold W9
  rw [h1]
  rfl
structure S8 (l:List Rr) (H0 H:AH) (apex:List UInt8) (j:Nat) (zs:AV) (ds:List AV) (lw:List (List UInt8×List UInt8)) (la:List (Jbj×Nat)):Prop where
 g8:G8 H0 H apex zs zs ((keysOf (Kz l j)).map (ZE (W9 (l.map zi)) (Kz l j))) ds lw la
 ow: ∀ f,Q8 lw f=((Kz l j).find? fun y=>decide (y.f=f)).map fun y=>y.r.o
 pl: ∀ k,Q8 la k=if k∈keysOf (Kz l j) then some ((keysOf (Kz l j)).idxOf k) else none
def J8 (l:List Rr) (a o:AV) (apex:List UInt8) (H0:AH) (m:Nat) (e:Env) (M:Mem):Prop:=
 ∃ (j:Nat) (L0:List Lv) (g:Nat) (H:AH) (zs:AV) (ds:List AV) (lw:List (List UInt8×List UInt8)) (la:List (Jbj×Nat)),j≤(Jn (l.map zi)).length∧m=(Jn (l.map zi)).length-j∧look e 0=a∧look e 4= .la 4 0 0 0∧look e 40= .pv H0.n 0∧look e 41= .mp (H0.n+1)∧look e 42= .mp (H0.n+2)∧look e 343=o∧look e 344= .i .i64 (Jn (l.map zi)).length∧look e 345= .i .i64 j∧M=⟨L0,g,H⟩∧JJ [0,4,40,41,42,343,344,345] L0=[⟨4,0,0,[z0V]⟩]∧S8 l H0 H apex j zs ds lw la
section
variable {C:Tab} {l:List Rr} {a o:AV} {apex:List UInt8} {H H0 H1:AH} {e:Env} {L0:List Lv} {g:Nat} {κ:Jaa}
set_option maxHeartbeats 4000000 in
theorem Juw (hK:KK l apex H a o) (hLow:Ja1 C Qc) (he:Ext H H0) {zs0:AV} {ds0:List AV} (hS:S8 l H0 H1 apex 0 zs0 ds0 [] [])
  (q0:look e 0=a) (q4:look e 4= .la 4 0 0 0) (q12:look e 12=o) (q40:look e 40= .pv H0.n 0) (q41:look e 41= .mp (H0.n+1)) (q42:look e 42= .mp (H0.n+2)) (hL0:JJ [0,4,40,41,42,343,344,345] L0=[⟨4,0,0,[z0V]⟩])
  (miss: ∀ e' g' H' zs ds lw la,look e' 4= .la 4 0 0 0→look e' 40= .pv H0.n 0→S8 l H0 H' apex (Jn (l.map zi)).length zs ds lw la→κ .nx e' ⟨[⟨4,0,0,[z0V]⟩],g',H'⟩):
  exec C (sAt Jk.s [1,1,1,1,1,1,1,1,1,1,1,1,1,1,1,1,1,1,1,1,1,0]) e ⟨L0,g,H1⟩ κ:=by
 have hput:=(JaY [1,2,2,1,1,0,2,1,1,1,1,1,1,0,1,3] (sAt Jk.s [1,1,1,1,1,1,1,1,1,1,1,1,1,1,1,1,1,1,1,1,1,0])).symm
 have hBB:sAt (sAt Jk.s [1,1,1,1,1,1,1,1,1,1,1,1,1,1,1,1,1,1,1,1,1,0]) [1,2,2,1,1,0,2,1,1,1,1,1,1,0,1,3]=sAt Jk.s [1,1,1,1,1,1,1,1,1,1,1,1,1,1,1,1,1,1,1,1,1,0,1,2,2,1,1,0,2,1,1,1,1,1,1,0,1,3]:=rfl
 rw [hBB] at hput
 generalize hB1:sAt Jk.s [1,1,1,1,1,1,1,1,1,1,1,1,1,1,1,1,1,1,1,1,1,0,1,2,2,1,1,0,2,1,1,1,1,1,1,0,1,3]=B1 at hput
 rw [hput]
 clear hput hBB
 have hput:=(JaY [1,2,2,1,1,0,2,1,1,1,1,1,1,1] (JaX (sAt Jk.s [1,1,1,1,1,1,1,1,1,1,1,1,1,1,1,1,1,1,1,1,1,0]) [1,2,2,1,1,0,2,1,1,1,1,1,1,0,1,3] B1)).symm
 have hBB:sAt (JaX (sAt Jk.s [1,1,1,1,1,1,1,1,1,1,1,1,1,1,1,1,1,1,1,1,1,0]) [1,2,2,1,1,0,2,1,1,1,1,1,1,0,1,3] B1) [1,2,2,1,1,0,2,1,1,1,1,1,1,1]=sAt Jk.s [1,1,1,1,1,1,1,1,1,1,1,1,1,1,1,1,1,1,1,1,1,0,1,2,2,1,1,0,2,1,1,1,1,1,1,1]:=rfl
 rw [hBB] at hput
 generalize hB2:sAt Jk.s [1,1,1,1,1,1,1,1,1,1,1,1,1,1,1,1,1,1,1,1,1,0,1,2,2,1,1,0,2,1,1,1,1,1,1,1]=B2 at hput
 rw [hput]
 clear hput hBB
 simp only [Jk,sAt,JaX]
 have hK0:=hK.ext he
 obtain ⟨l1,l2⟩:=Jfu (Sl.ext hK0.kp hS.g8.ext)
 have hks:=Jad (l:=l)
 have hln:=hK.ln
 simp -implicitDefEqProofs only [bU,reduceIte,Jc,reduceCtorEq,Ja,Jb,bT,Jd,Je,Jf,q12,l1,l2]
 refine Jl (J8 l a o apex H0) ?_ (n:=(Jn (l.map zi)).length)
  ⟨0,_,_,_,_,_,_,_,by omega,by omega,by simp -implicitDefEqProofs only [bU,reduceIte,Jc,reduceCtorEq,Ja,Jb,bT,Jd,Je,Jf,q0],by simp -implicitDefEqProofs only [bU,reduceIte,Jc,reduceCtorEq,Ja,Jb,bT,Jd,Je,Jf,q4],by simp -implicitDefEqProofs only [bU,reduceIte,Jc,reduceCtorEq,Ja,Jb,bT,Jd,Je,Jf,q40],by simp -implicitDefEqProofs only [bU,reduceIte,Jc,reduceCtorEq,Ja,Jb,bT,Jd,Je,Jf,q41],by simp -implicitDefEqProofs only [bU,reduceIte,Jc,reduceCtorEq,Ja,Jb,bT,Jd,Je,Jf,q42],rfl,rfl,rfl,rfl,hL0,hS⟩
 clear q0 q4 q12 q40 q41 q42 hL0 hS l1 l2
 rintro m e M ⟨j,L0,g,Hj,zs,ds,lw,la,hj,rfl,q0,q4,q40,q41,q42,q343,q344,q345,rfl,hL0,hS⟩
 by_cases h1:(j:Int) < (Jn (l.map zi)).length
 ·have hjl:j < (Jn (l.map zi)).length:=by omega
  have hKj:=hK0.ext hS.g8.ext
  obtain ⟨hi,hout,hit0,hone,z1,z2⟩:=hKj.get hjl
  obtain ⟨a1,a2,a3,a4⟩:=JjG hKj.kp hjl
  obtain ⟨z,c,f0,rc,rv,ld,v0,v1,v2,v3,v4⟩:=JgI hKj.rd hi
  have bd:(Jn (l.map zi)).length- (j+1) < (Jn (l.map zi)).length-j:=by omega
  have w9:IntKind.i64.wrap ((j:Int)+1)=((j+1:Nat):Int):=by rw [w64 (by omega) (by omega)];rfl
  have hz0:z0V= .ag [.s [],.ns]:=rfl
  have hown:=JtI hjl
  have hsucc:=JlT hjl
  rw [hit0] at hown hsucc
  have hKl:=Jtb l j
  obtain ⟨hG,hW,hA⟩:=hS
  obtain ⟨r1,r2⟩:=JfT (ow:=W9 (l.map zi)) (K:=Kz l j)
  generalize hii:(Jn (l.map zi))[j]=i at*
  have hp0:(0:Int)≤(i:Nat):=by omega
  rw [JcE] at rv
  obtain ⟨⟨ls,hn⟩,hcl,htt,hme,hty,hch,hun⟩:=Ze hone
  have hfz:(zi l[i]).f=Jq l[i].o:=rfl
  have hrz:(zi l[i]).r=l[i]:=rfl
  have hkz:(zi l[i]).k=(Jq l[i].o,l[i].t):=rfl
  have k1:=hLow l[i].o Hj z1
  rw [←Xh hn] at k1
  rw [hfz] at hown
  have hW1: ∀ (lw1:List (List UInt8×List UInt8)),(∀ f,Q8 lw1 f=if f=Jq l[i].o then some (W9 (l.map zi) (Jq l[i].o)) else Q8 lw f)→ ∀ f,Q8 lw1 f=((Kz l (j+1)).find? fun y=>decide (y.f=f)).map fun y=>y.r.o:=fun lw1 h f=>by
   rw [h]
   by_cases e1:f=Jq l[i].o
   ·rw [if_pos e1,e1,hown]
   ·rw [if_neg e1,hW,hsucc,List.find?_append]
    have hno: ¬ (zi l[i]).f=f:=fun h=>e1 h.symm
    cases hF:(Kz l j).find? fun y=>decide (y.f=f) with
    | some y=>rfl
    | none=>simp only [Option.none_or,List.find?_cons,List.find?_nil,decide_eq_false hno]
  have hA1: ¬ (zi l[i]).k∈keysOf (Kz l j)→ ∀ k,Q8 (Z4 la (Jq l[i].o,l[i].t) ((keysOf (Kz l j)).map (ZE (W9 (l.map zi)) (Kz l j))).length) k=if k∈keysOf (Kz l (j+1)) then some ((keysOf (Kz l (j+1))).idxOf k) else none:=fun h k=>by
   rw [JaI,hsucc,Q7,if_neg h,Jo6 h,hA,List.length_map,hkz]
  have hA2:(zi l[i]).k∈keysOf (Kz l j)→ ∀ k,Q8 la k=if k∈keysOf (Kz l (j+1)) then some ((keysOf (Kz l (j+1))).idxOf k) else none:=fun h k=>by
   rw [hsucc,Q7,if_pos h,hA]
  have hsl:((keysOf (Kz l j)).map (ZE (W9 (l.map zi)) (Kz l j))).length≤500:=by omega
  have hol:(keysOf (Kz l j)).length=((keysOf (Kz l j)).map (ZE (W9 (l.map zi)) (Kz l j))).length:=by simp
  have hOld: ∀ (h:(zi l[i]).k∈keysOf (Kz l j)) (hi:(keysOf (Kz l j)).idxOf (zi l[i]).k < ((keysOf (Kz l j)).map (ZE (W9 (l.map zi)) (Kz l j))).length),((keysOf (Kz l j)).map (ZE (W9 (l.map zi)) (Kz l j))).set ((keysOf (Kz l j)).idxOf (zi l[i]).k) (addD (((keysOf (Kz l j)).map (ZE (W9 (l.map zi)) (Kz l j)))[(keysOf (Kz l j)).idxOf (zi l[i]).k]) l[i].d)=(keysOf (Kz l (j+1))).map (ZE (W9 (l.map zi)) (Kz l (j+1))):=fun h hi=>by
   rw [hsucc];exact (Jn2 h hi).symm
  have hNew: ¬ (zi l[i]).k∈keysOf (Kz l j)→ ∀ (hk:((keysOf (Kz l j)).map (ZE (W9 (l.map zi)) (Kz l j))).length < (((keysOf (Kz l j)).map (ZE (W9 (l.map zi)) (Kz l j)))++[(⟨W9 (l.map zi) (Jq l[i].o),l[i].t,l[i].ttl,[]⟩:Qa)]).length),(((keysOf (Kz l j)).map (ZE (W9 (l.map zi)) (Kz l j)))++[(⟨W9 (l.map zi) (Jq l[i].o),l[i].t,l[i].ttl,[]⟩:Qa)]).set ((keysOf (Kz l j)).map (ZE (W9 (l.map zi)) (Kz l j))).length (addD ((((keysOf (Kz l j)).map (ZE (W9 (l.map zi)) (Kz l j)))++[(⟨W9 (l.map zi) (Jq l[i].o),l[i].t,l[i].ttl,[]⟩:Qa)])[((keysOf (Kz l j)).map (ZE (W9 (l.map zi)) (Kz l j))).length]) l[i].d)=(keysOf (Kz l (j+1))).map (ZE (W9 (l.map zi)) (Kz l (j+1))):=fun h hk=>by
   rw [hsucc,Jm9 h]
   simp only [List.getElem_concat_length]
   rw [List.set_append_right _ _ (Nat.le_refl _),Nat.sub_self]
   rfl
  generalize (keysOf (Kz l j)).map (ZE (W9 (l.map zi)) (Kz l j))=sets at*
  obtain ⟨w1,w2,w3⟩:=Jpj hG.mo (Jq l[i].o)
  obtain ⟨m1,m2,m3⟩:=JsD hG.mo (Jq l[i].o) l[i].o (v:= .s l[i].o) rfl
  have hWf:=hW (Jq l[i].o)
  cases hF:(Kz l j).find? fun y=>decide (y.f=Jq l[i].o) with
  | none=>
   rw [hF] at hWf
   rw [hWf] at w3
   simp only [Option.map_none] at w3
   have hO:W9 (l.map zi) (Jq l[i].o)=l[i].o:=by
    rw [hsucc,List.find?_append,hF] at hown
    simp only [Option.none_or,List.find?_cons,decide_eq_true hfz,Option.map_some,Option.some.injEq] at hown
    exact hown.symm
   have G1:=hG.setO (Z4 lw (Jq l[i].o) l[i].o)
   generalize Hj.set (H0.n+1) (.map true (JaM kS AV.s (Z4 lw (Jq l[i].o) l[i].o)))=Hx at m3 G1
   have wf: ∀ f,Q8 (Z4 lw (Jq l[i].o) l[i].o) f=if f=Jq l[i].o then some (W9 (l.map zi) (Jq l[i].o)) else Q8 lw f:=fun f=>by
    rw [JaI,hO]
    by_cases e1:Jq l[i].o=f
    ·rw [if_pos e1,if_pos e1.symm]
    ·rw [if_neg e1,if_neg fun h=>e1 h.symm]
   obtain ⟨t1,t2,t3⟩:=Jkx G1.ma (Jq l[i].o) l[i].t
   rw [hA] at t3
   by_cases hk:(zi l[i]).k∈keysOf (Kz l j)
   ·have hkd:(Jq l[i].o,l[i].t)∈keysOf (Kz l j):=hk
    rw [if_pos hkd] at t3
    simp only [Option.map_some] at t3
    have hil:(keysOf (Kz l j)).idxOf (zi l[i]).k < sets.length:=by rw [←hol];exact List.idxOf_lt_length_of_mem hk
    simp -implicitDefEqProofs only [bU,reduceIte,Jc,reduceCtorEq,Ja,Jb,bT,Jd,Je,Jf,bV,Ja,Jb,Jg,Qs,J6,q0,q4,q40,q41,q42,q343,q344,q345,h1,hL0,hz0,Jj,a1,a2,a3,a4,z,c,rc,rv,k1,w1,w2,w3,m1,m2,m3,t1,t2,t3,lkV,JG,JH]
    rw [←hB2]
    refine Ji6 (gr:=g) (gk:=g+1) (r:=l[i]) (k:=(keysOf (Kz l j)).idxOf (zi l[i]).k) G1 hil (by have:=r2 _ (List.getElem_mem hil);omega) (by omega) ?_ ?_ ?_ (.inl rfl) fun e' L' g' H' d' hl hKp hG'=> ?_
    ·simp -implicitDefEqProofs only [bU,reduceIte,Jc,reduceCtorEq,Ja,Jb,bT,Jd,Je,Jf]
    ·simp -implicitDefEqProofs only [bU,reduceIte,Jc,reduceCtorEq,Ja,Jb,bT,Jd,Je,Jf]
    ·simp -implicitDefEqProofs only [bU,reduceIte,Jc,reduceCtorEq,Ja,Jb,bT,Jd,Je,Jf];rfl
    rw [hOld hk hil] at hG'
    simp only [look,reduceIte,Jc] at hl
    obtain ⟨s0,s4,s12,s40,s41,s42,s343,s344,s345⟩:=hl
    simp -implicitDefEqProofs only [bU,reduceIte,Jc,reduceCtorEq,Ja,Jb,bT,Jd,Je,Jf,bV,Ja,Jb,Jg,s0,s4,s40,s41,s42,s343,s344,s345,w9]
    exact ⟨_,bd,j+1,_,_,_,_,_,_,_,hjl,rfl,by simp -implicitDefEqProofs only [bU,reduceIte,Jc,reduceCtorEq,Ja,Jb,bT,Jd,Je,Jf,s0],by simp -implicitDefEqProofs only [bU,reduceIte,Jc,reduceCtorEq,Ja,Jb,bT,Jd,Je,Jf,s4],by simp -implicitDefEqProofs only [bU,reduceIte,Jc,reduceCtorEq,Ja,Jb,bT,Jd,Je,Jf,s40],by simp -implicitDefEqProofs only [bU,reduceIte,Jc,reduceCtorEq,Ja,Jb,bT,Jd,Je,Jf,s41],by simp -implicitDefEqProofs only [bU,reduceIte,Jc,reduceCtorEq,Ja,Jb,bT,Jd,Je,Jf,s42],by simp -implicitDefEqProofs only [bU,reduceIte,Jc,reduceCtorEq,Ja,Jb,bT,Jd,Je,Jf,s343],by simp -implicitDefEqProofs only [bU,reduceIte,Jc,reduceCtorEq,Ja,Jb,bT,Jd,Je,Jf,s344],by simp -implicitDefEqProofs only [bU,reduceIte,Jc,reduceCtorEq,Ja,Jb,bT,Jd,Je,Jf],rfl,hKp,⟨hG',hW1 _ wf,hA2 hk⟩⟩
   ·have hkd: ¬ (Jq l[i].o,l[i].t)∈keysOf (Kz l j):=hk
    rw [if_neg hkd] at t3
    simp only [Option.map_none] at t3
    simp -implicitDefEqProofs only [bU,reduceIte,Jc,reduceCtorEq,Ja,Jb,bT,Jd,Je,Jf,bV,Ja,Jb,Jg,Qs,J6,q0,q4,q40,q41,q42,q343,q344,q345,h1,hL0,hz0,Jj,a1,a2,a3,a4,z,c,rc,rv,k1,w1,w2,w3,m1,m2,m3,t1,t2,t3,lkV,JG,JH]
    rw [←hB1]
    refine Jop (gr:=g) (gk:=g+1) (r:=l[i]) (f:=Jq l[i].o) (ow:=W9 (l.map zi) (Jq l[i].o)) G1 hsl (by rw [wf,if_pos rfl]) ?_ ?_ ?_ ?_ ?_ ?_ fun e1 g1 Hn zs' gg vv hl1 h50 hG1'=> ?_
    ·simp -implicitDefEqProofs only [bU,reduceIte,Jc,reduceCtorEq,Ja,Jb,bT,Jd,Je,Jf]
    ·simp -implicitDefEqProofs only [bU,reduceIte,Jc,reduceCtorEq,Ja,Jb,bT,Jd,Je,Jf]
    ·simp -implicitDefEqProofs only [bU,reduceIte,Jc,reduceCtorEq,Ja,Jb,bT,Jd,Je,Jf]
    ·simp -implicitDefEqProofs only [bU,reduceIte,Jc,reduceCtorEq,Ja,Jb,bT,Jd,Je,Jf]
    ·simp -implicitDefEqProofs only [bU,reduceIte,Jc,reduceCtorEq,Ja,Jb,bT,Jd,Je,Jf]
    ·simp -implicitDefEqProofs only [bU,reduceIte,Jc,reduceCtorEq,Ja,Jb,bT,Jd,Je,Jf]
    simp only [look,reduceIte,Jc] at hl1
    obtain ⟨o0,o4,o12,o40,o41,o42,o343,o344,o345,o45⟩:=hl1
    have hkn:sets.length < (sets++[(⟨W9 (l.map zi) (Jq l[i].o),l[i].t,l[i].ttl,[]⟩:Qa)]).length:=by simp
    simp -implicitDefEqProofs only [bU,reduceIte,Jc,reduceCtorEq,Ja,Jb,bT,Jd,Je,Jf,bV,Ja,Jb,Jg]
    rw [←hB2]
    refine Ji6 (gr:=g) (gk:=g+1) (r:=l[i]) (key:= .ag [.s (Jq l[i].o),.i .i64 l[i].t]) (k:=sets.length) hG1' hkn (by simp) (by simp;omega) o40 o45 h50 (.inr ⟨_,_,rfl⟩) fun e' L' g' H' d' hl hKp hG'=> ?_
    rw [hNew hk hkn] at hG'
    rw [o0,o4,o40,o41,o42,o343,o344,o345] at hl
    obtain ⟨s0,s4,s12,s40,s41,s42,s343,s344,s345⟩:=hl
    simp -implicitDefEqProofs only [bU,reduceIte,Jc,reduceCtorEq,Ja,Jb,bT,Jd,Je,Jf,bV,Ja,Jb,Jg,s0,s4,s40,s41,s42,s343,s344,s345,w9]
    exact ⟨_,bd,j+1,_,_,_,_,_,_,_,hjl,rfl,by simp -implicitDefEqProofs only [bU,reduceIte,Jc,reduceCtorEq,Ja,Jb,bT,Jd,Je,Jf,s0],by simp -implicitDefEqProofs only [bU,reduceIte,Jc,reduceCtorEq,Ja,Jb,bT,Jd,Je,Jf,s4],by simp -implicitDefEqProofs only [bU,reduceIte,Jc,reduceCtorEq,Ja,Jb,bT,Jd,Je,Jf,s40],by simp -implicitDefEqProofs only [bU,reduceIte,Jc,reduceCtorEq,Ja,Jb,bT,Jd,Je,Jf,s41],by simp -implicitDefEqProofs only [bU,reduceIte,Jc,reduceCtorEq,Ja,Jb,bT,Jd,Je,Jf,s42],by simp -implicitDefEqProofs only [bU,reduceIte,Jc,reduceCtorEq,Ja,Jb,bT,Jd,Je,Jf,s343],by simp -implicitDefEqProofs only [bU,reduceIte,Jc,reduceCtorEq,Ja,Jb,bT,Jd,Je,Jf,s344],by simp -implicitDefEqProofs only [bU,reduceIte,Jc,reduceCtorEq,Ja,Jb,bT,Jd,Je,Jf],rfl,hKp,⟨hG',hW1 _ wf,hA1 hk⟩⟩
  | some y=>
   have hO:some y.r.o=some (W9 (l.map zi) (Jq l[i].o)):=by
    rw [hsucc,List.find?_append,hF] at hown
    exact hown
   rw [hF] at hWf
   rw [hWf] at w3
   simp only [Option.map_some] at w3
   have wf: ∀ f,Q8 lw f=if f=Jq l[i].o then some (W9 (l.map zi) (Jq l[i].o)) else Q8 lw f:=fun f=>by
    by_cases e1:f=Jq l[i].o
    ·rw [if_pos e1,e1,hWf];exact hO
    ·rw [if_neg e1]
   obtain ⟨t1,t2,t3⟩:=Jkx hG.ma (Jq l[i].o) l[i].t
   rw [hA] at t3
   by_cases hk:(zi l[i]).k∈keysOf (Kz l j)
   ·have hkd:(Jq l[i].o,l[i].t)∈keysOf (Kz l j):=hk
    rw [if_pos hkd] at t3
    simp only [Option.map_some] at t3
    have hil:(keysOf (Kz l j)).idxOf (zi l[i]).k < sets.length:=by rw [←hol];exact List.idxOf_lt_length_of_mem hk
    simp -implicitDefEqProofs only [bU,reduceIte,Jc,reduceCtorEq,Ja,Jb,bT,Jd,Je,Jf,bV,Ja,Jb,Jg,Qs,J6,q0,q4,q40,q41,q42,q343,q344,q345,h1,hL0,hz0,Jj,a1,a2,a3,a4,z,c,rc,rv,k1,w1,w2,w3,t1,t2,t3,lkV,JG,JH]
    rw [←hB2]
    refine Ji6 (gr:=g) (gk:=g+1) (r:=l[i]) (k:=(keysOf (Kz l j)).idxOf (zi l[i]).k) hG hil (by have:=r2 _ (List.getElem_mem hil);omega) (by omega) ?_ ?_ ?_ (.inl rfl) fun e' L' g' H' d' hl hKp hG'=> ?_
    ·simp -implicitDefEqProofs only [bU,reduceIte,Jc,reduceCtorEq,Ja,Jb,bT,Jd,Je,Jf]
    ·simp -implicitDefEqProofs only [bU,reduceIte,Jc,reduceCtorEq,Ja,Jb,bT,Jd,Je,Jf]
    ·simp -implicitDefEqProofs only [bU,reduceIte,Jc,reduceCtorEq,Ja,Jb,bT,Jd,Je,Jf];rfl
    rw [hOld hk hil] at hG'
    simp only [look,reduceIte,Jc] at hl
    obtain ⟨s0,s4,s12,s40,s41,s42,s343,s344,s345⟩:=hl
    simp -implicitDefEqProofs only [bU,reduceIte,Jc,reduceCtorEq,Ja,Jb,bT,Jd,Je,Jf,bV,Ja,Jb,Jg,s0,s4,s40,s41,s42,s343,s344,s345,w9]
    exact ⟨_,bd,j+1,_,_,_,_,_,_,_,hjl,rfl,by simp -implicitDefEqProofs only [bU,reduceIte,Jc,reduceCtorEq,Ja,Jb,bT,Jd,Je,Jf,s0],by simp -implicitDefEqProofs only [bU,reduceIte,Jc,reduceCtorEq,Ja,Jb,bT,Jd,Je,Jf,s4],by simp -implicitDefEqProofs only [bU,reduceIte,Jc,reduceCtorEq,Ja,Jb,bT,Jd,Je,Jf,s40],by simp -implicitDefEqProofs only [bU,reduceIte,Jc,reduceCtorEq,Ja,Jb,bT,Jd,Je,Jf,s41],by simp -implicitDefEqProofs only [bU,reduceIte,Jc,reduceCtorEq,Ja,Jb,bT,Jd,Je,Jf,s42],by simp -implicitDefEqProofs only [bU,reduceIte,Jc,reduceCtorEq,Ja,Jb,bT,Jd,Je,Jf,s343],by simp -implicitDefEqProofs only [bU,reduceIte,Jc,reduceCtorEq,Ja,Jb,bT,Jd,Je,Jf,s344],by simp -implicitDefEqProofs only [bU,reduceIte,Jc,reduceCtorEq,Ja,Jb,bT,Jd,Je,Jf],rfl,hKp,⟨hG',hW1 _ wf,hA2 hk⟩⟩
   ·have hkd: ¬ (Jq l[i].o,l[i].t)∈keysOf (Kz l j):=hk
    rw [if_neg hkd] at t3
    simp only [Option.map_none] at t3
    simp -implicitDefEqProofs only [bU,reduceIte,Jc,reduceCtorEq,Ja,Jb,bT,Jd,Je,Jf,bV,Ja,Jb,Jg,Qs,J6,q0,q4,q40,q41,q42,q343,q344,q345,h1,hL0,hz0,Jj,a1,a2,a3,a4,z,c,rc,rv,k1,w1,w2,w3,t1,t2,t3,lkV,JG,JH]
    rw [←hB1]
    refine Jop (gr:=g) (gk:=g+1) (r:=l[i]) (f:=Jq l[i].o) (ow:=W9 (l.map zi) (Jq l[i].o)) hG hsl (by rw [wf,if_pos rfl]) ?_ ?_ ?_ ?_ ?_ ?_ fun e1 g1 Hn zs' gg vv hl1 h50 hG1'=> ?_
    ·simp -implicitDefEqProofs only [bU,reduceIte,Jc,reduceCtorEq,Ja,Jb,bT,Jd,Je,Jf]
    ·simp -implicitDefEqProofs only [bU,reduceIte,Jc,reduceCtorEq,Ja,Jb,bT,Jd,Je,Jf]
    ·simp -implicitDefEqProofs only [bU,reduceIte,Jc,reduceCtorEq,Ja,Jb,bT,Jd,Je,Jf]
    ·simp -implicitDefEqProofs only [bU,reduceIte,Jc,reduceCtorEq,Ja,Jb,bT,Jd,Je,Jf]
    ·simp -implicitDefEqProofs only [bU,reduceIte,Jc,reduceCtorEq,Ja,Jb,bT,Jd,Je,Jf]
    ·simp -implicitDefEqProofs only [bU,reduceIte,Jc,reduceCtorEq,Ja,Jb,bT,Jd,Je,Jf]
    simp only [look,reduceIte,Jc] at hl1
    obtain ⟨o0,o4,o12,o40,o41,o42,o343,o344,o345,o45⟩:=hl1
    have hkn:sets.length < (sets++[(⟨W9 (l.map zi) (Jq l[i].o),l[i].t,l[i].ttl,[]⟩:Qa)]).length:=by simp
    simp -implicitDefEqProofs only [bU,reduceIte,Jc,reduceCtorEq,Ja,Jb,bT,Jd,Je,Jf,bV,Ja,Jb,Jg]
    rw [←hB2]
    refine Ji6 (gr:=g) (gk:=g+1) (r:=l[i]) (key:= .ag [.s (Jq l[i].o),.i .i64 l[i].t]) (k:=sets.length) hG1' hkn (by simp) (by simp;omega) o40 o45 h50 (.inr ⟨_,_,rfl⟩) fun e' L' g' H' d' hl hKp hG'=> ?_
    rw [hNew hk hkn] at hG'
    rw [o0,o4,o40,o41,o42,o343,o344,o345] at hl
    obtain ⟨s0,s4,s12,s40,s41,s42,s343,s344,s345⟩:=hl
    simp -implicitDefEqProofs only [bU,reduceIte,Jc,reduceCtorEq,Ja,Jb,bT,Jd,Je,Jf,bV,Ja,Jb,Jg,s0,s4,s40,s41,s42,s343,s344,s345,w9]
    exact ⟨_,bd,j+1,_,_,_,_,_,_,_,hjl,rfl,by simp -implicitDefEqProofs only [bU,reduceIte,Jc,reduceCtorEq,Ja,Jb,bT,Jd,Je,Jf,s0],by simp -implicitDefEqProofs only [bU,reduceIte,Jc,reduceCtorEq,Ja,Jb,bT,Jd,Je,Jf,s4],by simp -implicitDefEqProofs only [bU,reduceIte,Jc,reduceCtorEq,Ja,Jb,bT,Jd,Je,Jf,s40],by simp -implicitDefEqProofs only [bU,reduceIte,Jc,reduceCtorEq,Ja,Jb,bT,Jd,Je,Jf,s41],by simp -implicitDefEqProofs only [bU,reduceIte,Jc,reduceCtorEq,Ja,Jb,bT,Jd,Je,Jf,s42],by simp -implicitDefEqProofs only [bU,reduceIte,Jc,reduceCtorEq,Ja,Jb,bT,Jd,Je,Jf,s343],by simp -implicitDefEqProofs only [bU,reduceIte,Jc,reduceCtorEq,Ja,Jb,bT,Jd,Je,Jf,s344],by simp -implicitDefEqProofs only [bU,reduceIte,Jc,reduceCtorEq,Ja,Jb,bT,Jd,Je,Jf],rfl,hKp,⟨hG',hW1 _ wf,hA1 hk⟩⟩
 ·have hil:j=(Jn (l.map zi)).length:=by omega
  subst hil
  simp -implicitDefEqProofs only [bU,reduceIte,Jc,reduceCtorEq,Ja,Jb,bT,Jd,Je,Jf,bV,Ja,Jb,Jg,q0,q4,q40,q41,q42,q343,q344,q345,h1,hL0]
  exact miss _ _ _ zs ds lw la (by simp -implicitDefEqProofs only [bU,reduceIte,Jc,reduceCtorEq,Ja,Jb,bT,Jd,Je,Jf,q4]) (by simp -implicitDefEqProofs only [bU,reduceIte,Jc,reduceCtorEq,Ja,Jb,bT,Jd,Je,Jf,q40]) hS
end
def Jes (C:Tab):Prop:= ∀ (H:AH) (id rid:Nat) (o:List UInt8) (t ttl:Int) (xs:List (List UInt8)),JbE H id [.s o,.i .i64 t,.i .i64 ttl,.sl rid 0 xs.length]→Mn H 1 (.sl rid 0 xs.length) (xs.map AV.s)→JR H→(∀ x,x∈xs→x.length≤1099511627776∧chk t x=0)→0 < xs.length→xs.length≤512→
 ∃ ys H',ys.Perm xs∧Srt (fun x y=>JdB Lib.compareBytes (XL t x) (XL t y)) ys∧C 138 [.fs 81 rid 0 xs.length,.fn 190 [.pv id 0]] H=some (.tp [],H')∧Mn H' 1 (.sl rid 0 xs.length) (ys.map AV.s)∧H'.n=H.n∧ ∀ i,i≠rid→H'.at' i=H.at' i
def Jgn (C:Tab):Prop:= ∀ (H:AH) (id rid:Nat) (apex:List UInt8) (sets:List Qa) (ds:List AV),JbE H id [.s apex,.sl rid 0 sets.length]→Mn H 4 (.sl rid 0 sets.length) (List.zipWith sV sets ds)→ds.length=sets.length→(∀ s,s∈sets→ ∃ x,JB s.o=some x)→0 < sets.length→sets.length≤512→
 ∃ ps H',ps.Perm (sets.zip ds)∧Srt (fun x y=>Jdk x.1 y.1) ps∧C 138 [.fs 26 rid 0 sets.length,.fn 192 [.pv id 0]] H=some (.tp [],H')∧Mn H' 4 (.sl rid 0 sets.length) (ps.map fun p=>sV p.1 p.2)∧H'.n=H.n∧ ∀ i,i≠rid→H'.at' i=H.at' i
theorem JbE.sts {H:AH} {id:Nat} {cs vs:List AV} (h:JbE H id cs) (hv:vs.length=cs.length):(∀ (L:List Lv) (g:Nat),stC ⟨L,g,H⟩ (.ag vs) (.pv id 0))∧(∀ (L:List Lv) (g:Nat),stM ⟨L,g,H⟩ (.ag vs) (.pv id 0)=⟨L,g,H.set id (.arr true 0 cs.length [.ag vs])⟩)∧JbE (H.set id (.arr true 0 cs.length [.ag vs])) id vs:=by
 refine ⟨fun L g=> ?_,fun L g=> ?_,⟨h.lt,by rw [Z9,hv]⟩⟩
 ·simp only [stC,h.at',AV.cells]
  exact ⟨trivial,trivial,trivial,by omega⟩
 ·simp only [stM,h.at',Wt,Wu,AV.cells,List.take_zero,List.nil_append,Nat.zero_add]
  rw [List.drop_eq_nil_of_le (by omega),List.append_nil]
section
variable (ow:List UInt8→List UInt8) (K:List Zi)
def sI (i:Nat):List Qa:=((keysOf K).take i).map (mkS ow K)++((keysOf K).drop i).map (ZE ow K)
theorem Jpz:sI ow K 0=(keysOf K).map (ZE ow K):=by simp [sI]
theorem Jtq:sI ow K (keysOf K).length=(keysOf K).map (mkS ow K):=by simp [sI]
theorem JlZ (i:Nat):(sI ow K i).length=(keysOf K).length:=by simp [sI];omega
variable {ow K}
theorem JsK {i:Nat} (hi:i < (keysOf K).length):(sI ow K i)[i]'(by rw [JlZ];exact hi)=ZE ow K (keysOf K)[i]:=by
 unfold sI
 rw [List.getElem_append_right (by simp;omega)]
 simp [Nat.min_eq_left (Nat.le_of_lt hi)]
theorem Jpw {i:Nat} (hi:i < (keysOf K).length) {ys:List (List UInt8)} (hy:ys=(mkS ow K (keysOf K)[i]).d):(sI ow K i).set i {(ZE ow K (keysOf K)[i]) with d:=ys}=sI ow K (i+1):=by
 subst hy
 unfold sI
 have hl:(((keysOf K).take i).map (mkS ow K)).length=i:=by simp;omega
 rw [List.drop_eq_getElem_cons hi,List.take_succ_eq_append_getElem hi,List.set_append_right _ _ (by rw [hl];exact Nat.le_refl _),hl,Nat.sub_self,List.map_cons,List.set_cons_zero,List.map_append,List.append_assoc]
 rfl
end
section
variable {H H':AH} {n0:Nat} {zs:AV} {sets:List Qa} {ds:List AV}
theorem ZM.resort (h:ZM H n0 zs sets ds) {k rid:Nat} (hk:k < sets.length) (hkd:k < ds.length) {len:Nat} (hd:ds[k]= .sl rid 0 len) {ys:List (List UInt8)} (hy:Mn H' 1 (.sl rid 0 len) (ys.map AV.s)) (hn:H.n≤H'.n) (ha: ∀ i,i < H.n→i≠rid→H'.at' i=H.at' i):ZM H' n0 zs (sets.set k {sets[k] with d:=ys}) ds where
 row:=by
  have e:List.zipWith sV (sets.set k {sets[k] with d:=ys}) ds=List.zipWith sV sets ds:=by
   apply List.ext_getElem (by simp)
   intro j h1 h2
   simp only [List.getElem_zipWith,List.getElem_set]
   by_cases e:k=j
   ·subst e;simp [sV]
   ·simp [e]
  rw [e]
  have hnd:=(List.nodup_append.1 h.nd).2.2
  refine h.row.fr hn fun i hi=>ha i (h.row.lt i hi) fun hr=> ?_
  subst hr
  exact hnd i hi i (List.mem_flatMap.2 ⟨_,List.getElem_mem hkd,by rw [hd];simp [idA]⟩) rfl
 len:=by simp [h.len]
 dat i h1 h2:=by
  simp only [List.length_set] at h1
  simp only [List.getElem_set]
  by_cases e:k=i
  ·subst e
   simp only [if_true]
   rw [hd];exact hy
  ·simp only [if_neg e]
   have hfm:=Jan.1 (List.nodup_append.1 h.nd).2.1
   refine (h.dat i h1 h2).fr hn fun j hj=>ha j ((h.dat i h1 h2).lt j hj) fun hr=> ?_
   subst hr
   exact hfm i h2 k hkd (fun h=>e h.symm) j hj (by rw [hd];simp [idA])
 nd:=h.nd
 ge:=h.ge
end
theorem KK.mem {l:List Rr} {apex:List UInt8} {H:AH} {a o:AV} (h:KK l apex H a o) {y:Zi} (hy:y∈J2 (l.map zi)): ∃ r,y=zi r∧(∃ ls,JB r.o=some ls)∧chk r.t r.d=0∧r.o.length≤1099511627776∧r.d.length≤1099511627776:=by
 unfold J2 at hy
 obtain ⟨i,hi,rfl⟩:=List.mem_map.1 hy
 obtain ⟨j,hj,rfl⟩:=List.mem_iff_getElem.1 hi
 obtain ⟨h1,-,h3,h4,h5,h6⟩:=h.get hj
 obtain ⟨hn,-,-,-,-,hc,-⟩:=Ze h4
 exact ⟨_,h3,hn,hc,h5,h6⟩
structure G9 (H0 H:AH) (apex:List UInt8) (zs:AV) (sets:List Qa) (ds:List AV):Prop where
 ext:Ext H0 H
 hn:H0.n+3≤H.n
 ob:JbE H H0.n [.s apex,zs]
 zm:ZM H (H0.n+3) zs sets ds
theorem G9.ldz {H0 H:AH} {apex:List UInt8} {zs:AV} {sets:List Qa} {ds:List AV} (h:G9 H0 H apex zs sets ds):(∀ (L:List Lv) (g:Nat),ldC ⟨L,g,H⟩ none (.pv H0.n 1))∧ ∀ (L:List Lv) (g:Nat),ldX ⟨L,g,H⟩ none (.pv H0.n 1)=zs:=h.ob.ld (off:=1) (by simp)
theorem Mn.slf {H:AH} {z:Nat} {a:AV} {xs:List AV} (h:Mn H z a xs) (hp:0 < xs.length): ∃ rid,a= .sl rid 0 xs.length∧rid∈idA a:=by
 cases h with
 | nil=>simp at hp
 | own h1 h2=>exact ⟨_,rfl,by simp [idA]⟩
def J9 (K:List Zi) (ow:List UInt8→List UInt8) (apex:List UInt8) (zs:AV) (ds:List AV) (H0:AH) (m:Nat) (e:Env) (M:Mem):Prop:=
 ∃ (j:Nat) (L0:List Lv) (g:Nat) (H:AH),j≤(keysOf K).length∧m=(keysOf K).length-j∧look e 4= .la 4 0 0 0∧look e 40= .pv H0.n 0∧look e 416=zs∧look e 417= .i .i64 (keysOf K).length∧look e 418= .i .i64 j∧M=⟨L0,g,H⟩∧JJ [4,40,416,417,418] L0=[⟨4,0,0,[z0V]⟩]∧G9 H0 H apex zs (sI ow K j) ds
section
variable {C:Tab} {l:List Rr} {a o:AV} {apex:List UInt8} {H H0 H1:AH} {e:Env} {L0:List Lv} {g:Nat} {κ:Jaa}
set_option maxHeartbeats 4000000 in
theorem Jve (hK:KK l apex H a o) (hkept:Kept (J2 (l.map zi))) (hFo:JR H0) (hSD:Jes C) {ow:List UInt8→List UInt8} {zs:AV} {ds:List AV} (hG:G9 H0 H1 apex zs ((keysOf (J2 (l.map zi))).map (ZE ow (J2 (l.map zi)))) ds)
  (q4:look e 4= .la 4 0 0 0) (q40:look e 40= .pv H0.n 0) (hL0:JJ [4,40,416,417,418] L0=[⟨4,0,0,[z0V]⟩])
  (miss: ∀ e' g' H',look e' 4= .la 4 0 0 0→look e' 40= .pv H0.n 0→G9 H0 H' apex zs ((keysOf (J2 (l.map zi))).map (mkS ow (J2 (l.map zi)))) ds→κ .nx e' ⟨[⟨4,0,0,[z0V]⟩],g',H'⟩):
  exec C (sAt Jk.s [1,1,1,1,1,1,1,1,1,1,1,1,1,1,1,1,1,1,1,1,1,1,0]) e ⟨L0,g,H1⟩ κ:=by
 simp only [Jk,sAt]
 have hKl:(J2 (l.map zi)).length≤500:=by
  have:=Jad (l:=l)
  have:=hK.ln
  unfold J2;rw [List.length_map];omega
 have hmem:=fun y hy=>hK.mem (y:=y) hy
 generalize hKK:J2 (l.map zi)=K at*
 rw [←Jpz] at hG
 obtain ⟨l1,l2⟩:=hG.zm.rd.row.len
 rw [QK hG.zm.len,JlZ] at l1
 obtain ⟨b1,b2⟩:=hG.ldz
 have hpf: ∀ {n:Nat},faC (.pv n 0):=trivial
 have zo:=hG.zm.rd.row.out
 simp -implicitDefEqProofs only [bU,reduceIte,Jc,reduceCtorEq,Ja,Jb,bT,Jd,Je,Jf,bV,Ja,Jb,Jg,q4,q40,pv1,hpf,b1,b2,l1,l2,zo]
 refine Jl (J9 K ow apex zs ds H0) ?_ (n:=(keysOf K).length)
  ⟨0,_,_,_,by omega,by omega,by simp -implicitDefEqProofs only [bU,reduceIte,Jc,reduceCtorEq,Ja,Jb,bT,Jd,Je,Jf,q4],by simp -implicitDefEqProofs only [bU,reduceIte,Jc,reduceCtorEq,Ja,Jb,bT,Jd,Je,Jf,q40],rfl,rfl,rfl,rfl,hL0,hG⟩
 clear q4 q40 hL0 hG l1 l2 b1 b2 zo
 rintro m e M ⟨j,L0,g,Hj,hj,rfl,q4,q40,q416,q417,q418,rfl,hL0,hG⟩
 by_cases h1:(j:Int) < (keysOf K).length
 ·have hjl:j < (keysOf K).length:=by omega
  have bd:(keysOf K).length- (j+1) < (keysOf K).length-j:=by omega
  have hz:=hG.zm
  have hk:j < (sI ow K j).length:=by rw [JlZ];exact hjl
  have hkd:j < ds.length:=by rw [hz.len];exact hk
  have hget:=JsK (ow:=ow) hjl
  obtain ⟨r1,r2⟩:=JfT (ow:=ow) (K:=K)
  have hkm:=List.getElem_mem hjl
  have hstep:=fun (ys:List (List UInt8)) (hy:ys=(mkS ow K (keysOf K)[j]).d)=>Jpw (ow:=ow) hjl hy
  have hrm:ZE ow K (keysOf K)[j]∈(keysOf K).map (ZE ow K):=List.mem_map.2 ⟨_,hkm,rfl⟩
  have hlen5:=r2 _ hrm
  have w9:IntKind.i64.wrap ((j:Int)+1)=((j+1:Nat):Int):=by
   have:(keysOf K).length≤500:=by have:=r1;rw [List.length_map] at this;omega
   rw [w64 (by omega) (by omega)];rfl
  obtain ⟨a1,a2,a3,a4,-,-,-,a8,a9,a10⟩:=hz.rd.at' hk hkd
  have hdat:=hz.dat j hk hkd
  rw [hget] at a10 hdat
  have hd0:0 < (ZE ow K (keysOf K)[j]).d.length:=by
   obtain ⟨y,hy,hyk⟩:=(Qe K).1 hkm
   simp only [ZE,List.length_map]
   exact List.length_pos_of_mem (List.mem_filter.2 ⟨hy,by simpa using hyk⟩)
  have hdx: ∀ x,x∈(ZE ow K (keysOf K)[j]).d→x.length≤1099511627776∧chk (ZE ow K (keysOf K)[j]).t x=0:=fun x hx=>by
   obtain ⟨y,hy,rfl⟩:=List.mem_map.1 hx
   obtain ⟨hy1,hy2⟩:=List.mem_filter.1 hy
   simp only [decide_eq_true_eq] at hy2
   obtain ⟨r,rfl,-,h3,-,h5⟩:=hmem y hy1
   refine ⟨h5,?_⟩
   have:(ZE ow K (keysOf K)[j]).t=r.t:=by show (keysOf K)[j].2=r.t;rw [←hy2];rfl
   rw [this];exact h3
  have hys: ∀ {ys:List (List UInt8)},ys.Perm (ZE ow K (keysOf K)[j]).d→Srt (fun x y=>JdB Lib.compareBytes (XL (ZE ow K (keysOf K)[j]).t x) (XL (ZE ow K (keysOf K)[j]).t y)) ys→ys=(mkS ow K (keysOf K)[j]).d:=fun hp hs=>JlP hkept (fun x hx=>by obtain ⟨r,rfl,-⟩:=hmem x hx;rfl) _ hp hs
  generalize hS:ZE ow K (keysOf K)[j]=S at*
  obtain ⟨rid,hrd,hri⟩:=hdat.slf (by simpa using hd0)
  rw [List.length_map] at hrd
  rw [hrd] at hdat a10 hri
  have hrge:H0.n+3≤rid:=hz.ge rid (List.mem_append_right _ (List.mem_flatMap.2 ⟨_,List.getElem_mem hkd,by rw [hrd];exact hri⟩))
  have hrlt:rid < Hj.n:=hdat.lt rid (by simp [idA])
  have ob0:JbE (Hj.new (.arr true 0 4 [.ag [.s [],.i .i64 0,.i .i64 0,.ns]])) Hj.n [.s [],.i .i64 0,.i .i64 0,.ns]:=JbE.new (cs:=[.s [],.i .i64 0,.i .i64 0,.ns])
  obtain ⟨s1,s2,s3⟩:=ob0.sts (vs:=[.s S.o,.i .i64 S.t,.i .i64 S.ttl,.sl rid 0 S.d.length]) rfl
  have e2:Ext Hj ((Hj.new (.arr true 0 4 [.ag [.s [],.i .i64 0,.i .i64 0,.ns]])).set Hj.n (.arr true 0 4 [.ag [.s S.o,.i .i64 S.t,.i .i64 S.ttl,.sl rid 0 S.d.length]])):=(Ext.new _ _).set (Nat.le_refl _)
  generalize hH2:(Hj.new (.arr true 0 4 [.ag [.s [],.i .i64 0,.i .i64 0,.ns]])).set Hj.n (.arr true 0 ([.s [],.i .i64 0,.i .i64 0,.ns]:List AV).length [.ag [.s S.o,.i .i64 S.t,.i .i64 S.ttl,.sl rid 0 S.d.length]])=H2 at s2 s3
  have hH2':(Hj.new (.arr true 0 4 [.ag [.s [],.i .i64 0,.i .i64 0,.ns]])).set Hj.n (.arr true 0 4 [.ag [.s S.o,.i .i64 S.t,.i .i64 S.ttl,.sl rid 0 S.d.length]])=H2:=hH2
  rw [hH2'] at e2
  obtain ⟨c1,c2⟩:=s3.ld (off:=3) (by simp)
  simp only [List.getD_cons_succ,List.getD_cons_zero] at c2
  obtain ⟨ys,H3,y1,y2,y3,y4,y5,y6⟩:=hSD H2 Hj.n rid S.o S.t S.ttl S.d s3 (hdat.fr e2.n fun i hi=>e2.at' i (hdat.lt i hi)) (hFo.ext (hG.ext.trans e2)) hdx hd0 (by omega)
  have hyy:=hys y1 y2
  have hfin:G9 H0 H3 apex zs (sI ow K (j+1)) ds:=by
   refine ⟨⟨by have:=hG.ext.n;have:=e2.n;omega,fun i hi=>by rw [y6 i (by omega),e2.at' i (by have:=hG.hn;omega)];exact hG.ext.at' i hi⟩,by have:=hG.hn;have:=e2.n;omega,hG.ob.fr (by have:=e2.n;omega) (by rw [y6 _ (by omega),e2.at' _ (by have:=hG.hn;omega)]),?_⟩
   have:=hz.resort hk hkd hrd y4 (by have:=e2.n;omega) fun i hi hr=>by rw [y6 i hr,e2.at' i hi]
   rw [hget] at this
   rw [←hstep ys hyy];exact this
  have hfa3: ∀ {n:Nat},faV 3 (.pv n 0)= .pv n 3:=rfl
  have zo:=hz.rd.row.out
  simp -implicitDefEqProofs only [bU,reduceIte,Jc,reduceCtorEq,Ja,Jb,bT,Jd,Je,Jf,bV,Ja,Jb,Jg,Qs,J6,q4,q40,q416,q417,q418,h1,hL0,Jj,a1,a2,a3,a9,a10,sV,s1,s2,hpf,hfa3,c1,c2,y3,zo,JG,JH,JE,JQ,List.replicate,List.set]
  rw [w9]
  exact ⟨rfl,rfl,_,bd,j+1,_,_,_,hjl,rfl,rfl,rfl,rfl,rfl,rfl,rfl,rfl,hfin⟩
 ·have hil:j=(keysOf K).length:=by omega
  subst hil
  rw [Jtq] at hG
  simp -implicitDefEqProofs only [bU,reduceIte,Jc,reduceCtorEq,Ja,Jb,bT,Jd,Je,Jf,bV,Ja,Jb,Jg,q4,q40,q416,q417,q418,h1,hL0]
  exact miss _ _ _ (by simp -implicitDefEqProofs only [bU,reduceIte,Jc,reduceCtorEq,Ja,Jb,bT,Jd,Je,Jf,q4]) (by simp -implicitDefEqProofs only [bU,reduceIte,Jc,reduceCtorEq,Ja,Jb,bT,Jd,Je,Jf,q40]) hG
end
theorem Jrm (ps:List (Qa×AV)):List.zipWith sV (ps.map Prod.fst) (ps.map Prod.snd)=ps.map fun p=>sV p.1 p.2:=by
 induction ps with
 | nil=>rfl
 | cons p r ih=>simp only [List.map_cons,List.zipWith_cons_cons,ih]
theorem ZM.sorted {H H':AH} {n0:Nat} {sets:List Qa} {ds:List AV} {rid:Nat} (h:ZM H n0 (.sl rid 0 sets.length) sets ds) {ps:List (Qa×AV)} (hp:ps.Perm (sets.zip ds)) (hr:Mn H' 4 (.sl rid 0 sets.length) (ps.map fun p=>sV p.1 p.2)) (hn:H.n≤H'.n) (ha: ∀ i,i≠rid→H'.at' i=H.at' i):ZM H' n0 (.sl rid 0 sets.length) (ps.map Prod.fst) (ps.map Prod.snd):=by
 have hs:(ps.map Prod.snd).Perm ds:=by
  have:=hp.map Prod.snd
  rwa [List.map_snd_zip (by rw [h.len];exact Nat.le_refl _)] at this
 have hf:(idA (.sl rid 0 sets.length)++(ps.map Prod.snd).flatMap idA).Perm (idA (.sl rid 0 sets.length)++ds.flatMap idA):=List.Perm.append_left _ (hs.flatMap_right _)
 have hnd:=(List.nodup_append.1 h.nd).2.2
 refine ⟨by rw [Jrm];exact hr,by simp,fun i h1 h2=> ?_,hf.nodup_iff.2 h.nd,fun i hi=>h.ge i (hf.mem_iff.1 hi)⟩
 have hi:i < ps.length:=by simpa using h1
 have hm:ps[i]∈sets.zip ds:=hp.mem_iff.1 (List.getElem_mem hi)
 obtain ⟨j,hj,he⟩:=List.mem_iff_getElem.1 hm
 have hj1:j < sets.length:=by simp at hj;omega
 have hj2:j < ds.length:=by rw [h.len];exact hj1
 rw [List.getElem_zip] at he
 simp only [List.getElem_map,←he]
 refine (h.dat j hj1 hj2).fr hn fun x hx=>ha x fun e=> ?_
 subst e
 exact hnd x (by simp [idA]) x (List.mem_flatMap.2 ⟨_,List.getElem_mem hj2,hx⟩) rfl
section
variable {C:Tab} {l:List Rr} {a o:AV} {apex:List UInt8} {H H0 H1:AH} {e:Env} {g:Nat}
theorem KK.how (hK:KK l apex H a o) (hkept:Kept (J2 (l.map zi))) {x:Zi} (hx:x∈J2 (l.map zi)):(∃ ls,JB (W9 (l.map zi) x.f)=some ls)∧rkN (W9 (l.map zi) x.f)=rkN x.f:=by
 rw [←JhD]
 obtain ⟨y,hy,hyf,ho⟩:=JkY hx
 rw [ho]
 obtain ⟨r,rfl,⟨ls,hn⟩,-⟩:=hK.mem hy
 obtain ⟨⟨b,hb⟩,hfx⟩:=hkept.nm x hx
 refine ⟨⟨ls,hn⟩,?_⟩
 show rkN r.o=_
 rw [Jld hn hb,hfx,←hyf]
 rfl
set_option maxHeartbeats 4000000 in
theorem Jq4 (hK:KK l apex H a o) (hkept:Kept (J2 (l.map zi))) (hne:J2 (l.map zi) ≠ []) (he:Ext H H1) (hFo:JR H1) (hLow:Ja1 C Qc) (hSD:Jes C) (hSS:Jgn C) (hbz:bz l apex=(⟨apex,Ja3 (l.map zi)⟩,0,0))
  (q0:look e 0=a) (q1:look e 1= .s apex) (q4:look e 4= .la 4 0 0 0) (q12:look e 12=o):
  exec C (sAt Jk.s [1,1,1,1,1,1,1,1,1,1,1,1,1,1,1,1,1,1]) e ⟨[⟨4,0,0,[z0V]⟩],g,H1⟩ (Jr Jk.rs (JbD (bz l apex) H)):=by
 have hc:sAt Jk.s [1,1,1,1,1,1,1,1,1,1,1,1,1,1,1,1,1,1]=JaX (JaX (sAt Jk.s [1,1,1,1,1,1,1,1,1,1,1,1,1,1,1,1,1,1]) [1,1,1,0] (sAt Jk.s [1,1,1,1,1,1,1,1,1,1,1,1,1,1,1,1,1,1,1,1,1,0])) [1,1,1,1,0] (sAt Jk.s [1,1,1,1,1,1,1,1,1,1,1,1,1,1,1,1,1,1,1,1,1,1,0]):=rfl
 have hR:Jk.rs=[.c 4 (some 2),.t 5,.t 6]:=rfl
 generalize hX8:sAt Jk.s [1,1,1,1,1,1,1,1,1,1,1,1,1,1,1,1,1,1,1,1,1,0]=X8 at hc
 generalize hX9:sAt Jk.s [1,1,1,1,1,1,1,1,1,1,1,1,1,1,1,1,1,1,1,1,1,1,0]=X9 at hc
 rw [hR,hc]
 clear hc hR
 simp only [Jk,sAt,JaX]
 have ob0:JbE (H1.new (.arr true 0 2 [.ag [.s [],.ns]])) H1.n [.s [],.ns]:=JbE.new (cs:=[.s [],.ns])
 obtain ⟨s1,s2,s3⟩:=ob0.sts (vs:=[.s apex,.ns]) rfl
 have ea:Ext H1 ((H1.new (.arr true 0 2 [.ag [.s [],.ns]])).set H1.n (.arr true 0 2 [.ag [.s apex,.ns]])):=(Ext.new _ _).set (Nat.le_refl _)
 have na:((H1.new (.arr true 0 2 [.ag [.s [],.ns]])).set H1.n (.arr true 0 2 [.ag [.s apex,.ns]])).n=H1.n+1:=rfl
 generalize hHa:(H1.new (.arr true 0 2 [.ag [.s [],.ns]])).set H1.n (.arr true 0 ([.s [],.ns]:List AV).length [.ag [.s apex,.ns]])=Ha at s2 s3
 have hHa':(H1.new (.arr true 0 2 [.ag [.s [],.ns]])).set H1.n (.arr true 0 2 [.ag [.s apex,.ns]])=Ha:=hHa
 rw [hHa'] at ea na
 have nb:(Ha.new (.map true [])).n=H1.n+2:=by rw [show (Ha.new (.map true [])).n=Ha.n+1 from rfl,na]
 have hG:G8 H1 ((Ha.new (.map true [])).new (.map true [])) apex .ns .ns [] [] [] []:=by
  refine ⟨(ea.trans (.new _ _)).trans (.new _ _),by show H1.n+3≤(Ha.new (.map true [])).n+1;omega,(s3.ext (.new _ _)).ext (.new _ _),?_,?_,.nil _ _⟩
  ·rw [(Ext.new (Ha.new (.map true [])) (.map true [])).at' (H1.n+1) (by omega),←na];exact QD
  ·rw [←nb];exact QD
 have hS:S8 l H1 ((Ha.new (.map true [])).new (.map true [])) apex 0 .ns [] [] []:=⟨hG,fun f=>rfl,fun k=>by simp [Kz,keysOf,Jef]⟩
 clear hG
 simp -implicitDefEqProofs only [bU,reduceIte,Jc,reduceCtorEq,Ja,Jb,bT,Jd,Je,Jf,bV,Ja,Jb,Jg,q0,q1,q4,q12,z0V,s1,s2,na,nb,List.set]
 rw [←hX8]
 refine Juw hK hLow he hS ?_ ?_ ?_ ?_ ?_ ?_ rfl ?_
 any_goals (simp -implicitDefEqProofs only [bU,reduceIte,Jc,reduceCtorEq,Ja,Jb,bT,Jd,Je,Jf,q0,q4,q12];done)
 intro e2 g2 H2 zs ds lw la u4 u40 hS2
 have hG2:=hS2.g8
 rw [JsW] at hG2
 simp -implicitDefEqProofs only [bU,reduceIte,Jc,reduceCtorEq,Ja,Jb,bT,Jd,Je,Jf,bV,Ja,Jb,Jg,u4,u40]
 rw [←hX9]
 refine Jve hK hkept hFo hSD (ow:=W9 (l.map zi)) (zs:=zs) (ds:=ds) ⟨hG2.ext,hG2.hn,hG2.ob,hG2.zm⟩ u4 u40 rfl ?_
 intro e3 g3 H3 t4 t40 hG3
 have hnk: ∀ s,s∈(keysOf (J2 (l.map zi))).map (mkS (W9 (l.map zi)) (J2 (l.map zi)))→ ∃ x,JB s.o=some x:=fun s hs=>by
  obtain ⟨k,hk,rfl⟩:=List.mem_map.1 hs
  obtain ⟨x,hx,rfl⟩:=hkept.key hk
  exact (hK.how hkept hx).1
 have hpos:0 < ((keysOf (J2 (l.map zi))).map (mkS (W9 (l.map zi)) (J2 (l.map zi)))).length:=by
  obtain ⟨x,hx⟩:=List.exists_mem_of_ne_nil _ hne
  rw [List.length_map]
  exact List.length_pos_of_mem ((Qe _).2 ⟨x,hx,rfl⟩)
 have hlen5:((keysOf (J2 (l.map zi))).map (mkS (W9 (l.map zi)) (J2 (l.map zi)))).length≤512:=by
  have h1:=(JfT (ow:=W9 (l.map zi)) (K:=J2 (l.map zi))).1
  rw [List.length_map] at h1 ⊢
  have h2:=Jad (l:=l)
  have h3:=hK.ln
  have h4:(J2 (l.map zi)).length=(Jn (l.map zi)).length:=by unfold J2;rw [List.length_map]
  omega
 have hzone: ∀ {M:List Qa},M.Perm ((keysOf (J2 (l.map zi))).map (mkS (W9 (l.map zi)) (J2 (l.map zi))))→Srt Jdk M→M=Ja3 (l.map zi):=fun hp hs=>JlM _ hkept (fun x hx=>(hK.how hkept hx).2) hp hs
 generalize (keysOf (J2 (l.map zi))).map (mkS (W9 (l.map zi)) (J2 (l.map zi)))=sets at*
 obtain ⟨b1,b2⟩:=hG3.ldz
 obtain ⟨e3x,hn3,ob3,zm3⟩:=hG3
 obtain ⟨rid,hrd,hri⟩:=zm3.row.slf (by rw [QK zm3.len];exact hpos)
 rw [QK zm3.len] at hrd
 subst hrd
 have hrge:H1.n+3≤rid:=zm3.ge rid (List.mem_append_left _ hri)
 obtain ⟨ps,H4,y1,y2,y3,y4,y5,y6⟩:=hSS H3 H1.n rid apex sets ds ob3 zm3.row zm3.len hnk hpos hlen5
 have hz4:=zm3.sorted y1 y4 (by omega) y6
 have hM:ps.map Prod.fst=Ja3 (l.map zi):=by
  refine hzone ?_ ?_
  ·have:=y1.map Prod.fst
   rwa [List.map_fst_zip (by rw [zm3.len];exact Nat.le_refl _)] at this
  ·unfold Srt
   rw [List.pairwise_map]
   exact y2
 rw [hM] at hz4
 have ob4:JbE H4 H1.n [.s apex,.sl rid 0 sets.length]:=ob3.fr (by omega) (y6 _ (by omega))
 obtain ⟨d1,d2⟩:=ob4.lds
 simp only [List.length_cons,List.length_nil,Nat.zero_add,Ja,Jc,if_false] at d1 d2
 have e4:Ext H H4:=⟨by have:=he.n;have:=e3x.n;omega,fun i hi=>by have:=he.n;rw [y6 i (by omega),e3x.at' i (by omega)];exact he.at' i hi⟩
 have hpf: ∀ {n:Nat},faC (.pv n 0):=trivial
 simp -implicitDefEqProofs only [bU,reduceIte,Jc,reduceCtorEq,Ja,Jb,bT,Jd,Je,Jf,bV,Ja,Jb,Jg,t4,t40,pv1,hpf,b1,b2,y3,d1,d2,z0V,Jr,rsC,rsV,Js]
 rw [hbz]
 exact ⟨rfl,rfl,e4,_,_,rfl,⟨hz4.row,hz4.len,hz4.dat,hz4.nd,fun i hi=>by have:=hz4.ge i hi;have:=he.n;omega⟩⟩
end
section
variable {C:Tab} {l:List Rr} {a:AV} {apex:List UInt8} {H:AH}
theorem One.mono {rs:List Rs} {G G':AV→AH→Prop} {s:S} {e:Env} {M:Mem} (hg: ∀ v H,G v H→G' v H) (h:One C rs G s e M):One C rs G' s e M:=by
 obtain ⟨r,h1,h2⟩:=h
 exact ⟨r,hg _ _ h1,h2⟩
theorem JbD.mono {R:Zn×Int×Int} {H H1 H':AH} {v:AV} (he:Ext H H1) (h:JbD R H1 v H'):JbD R H v H':=by
 obtain ⟨h1,zs,ds,h2,h3⟩:=h
 exact ⟨he.trans h1,zs,ds,h2,⟨h3.row,h3.len,h3.dat,h3.nd,fun i hi=>by have:=h3.ge i hi;have:=he.n;omega⟩⟩
set_option maxHeartbeats 4000000 in
theorem Ju2 (hN:Jb2 C XM) (hI:Jch C XP) (hM:JeC C YK) (hKI:Jc9 C Qg) (hU:JbI C WP) (hLow:Ja1 C Qc) (hP:Jnr C JaE) (hD:Jk4 C Wh) (hLab:JdA C Yy) (hStr:Jnt C XD) (hSD:Jes C) (hSS:Jgn C)
  (hFo:JR H) (hs:Sx H eR a l) (hl:l.length≤1099511627776) (hsz:szL l) (ha:apex.length≤1099511627776):One C Jk.rs (JbD (bz l apex) H) Jk.s (args 0 [a,.s apex]) ⟨[],0,H⟩:=by
 have hR:Jk.rs=[.c 4 (some 2),.t 5,.t 6]:=rfl
 rw [hR]
 clear hR
 obtain ⟨l1,l2⟩:=hs.len
 have k1:=hN apex H ha
 refine One.q (a:=sAt Jk.s [0]) (b:=sAt Jk.s [1]) rfl ?_
 generalize hT1:sAt Jk.s [1]=T1
 simp only [Jk,sAt]
 simp -implicitDefEqProofs only [bU,reduceIte,Jc,reduceCtorEq,Ja,Jb,bT,Jd,Je,Jf,bV,Ja,Jb,Jg,XI]
 rw [←hT1]
 clear hT1 T1
 refine One.q (a:=sAt Jk.s [1,0]) (b:=sAt Jk.s [1,1]) rfl ?_
 generalize hT2:sAt Jk.s [1,1]=T2
 simp only [Jk,sAt]
 cases hn:JB apex with
 | none=>
  rw [hn] at k1
  have hb:bz l apex=(zn0,32,-1):=by unfold bz;rw [if_pos hn]
  simp -implicitDefEqProofs only [bU,reduceIte,Jc,reduceCtorEq,Ja,Jb,bT,Jd,Je,Jf,bV,Ja,Jb,Jg,k1,Option.isSome_none,JG,JH,Jay,Jr,rsC,rsV,Js]
  exact ZB hb (.refl _) rfl
 | some ls=>
  rw [hn] at k1
  simp -implicitDefEqProofs only [bU,reduceIte,Jc,reduceCtorEq,Ja,Jb,bT,Jd,Je,Jf,bV,Ja,Jb,Jg,k1,Option.isSome_some,XI]
  rw [←hT2]
  clear hT2 T2
  refine One.q (a:=sAt Jk.s [1,1,0]) (b:=sAt Jk.s [1,1,1]) rfl ?_
  generalize hT3:sAt Jk.s [1,1,1]=T3
  simp only [Jk,sAt]
  by_cases h5:(500:Int) < l.length
  ·have hb:bz l apex=(zn0,12,-1):=by unfold bz;rw [if_neg (by rw [hn];simp),if_pos (by omega)]
   simp -implicitDefEqProofs only [bU,reduceIte,Jc,reduceCtorEq,Ja,Jb,bT,Jd,Je,Jf,bV,Ja,Jb,Jg,l1,l2,h5,JG,JH,Jay,Jr,rsC,rsV,Js]
   exact ZB hb (.refl _) rfl
  ·have h5':l.length≤500:=by omega
   have hbz:bz l apex=match JL l.length fun i=>decide (Jai (l.getD i rrZ) apex≠0) with
     | some i=>(zn0,Jai (l.getD i rrZ) apex,(i:Nat))
     | none=>match JL l.length (JaZ (l.map zi)) with
      | some i=>(zn0,24,(i:Nat))
      | none=>if (QL (l.map zi) (Jq apex)).1≠0 then (zn0,QL (l.map zi) (Jq apex)) else (⟨apex,Ja3 (l.map zi)⟩,0,0):=by
    unfold bz;rw [if_neg (by rw [hn];simp),if_neg (by omega)];rfl
   simp -implicitDefEqProofs only [bU,reduceIte,Jc,reduceCtorEq,Ja,Jb,bT,Jd,Je,Jf,bV,Ja,Jb,Jg,l1,l2,h5,XI]
   rw [←hT3]
   clear hT3 T3
   refine One.q (a:=sAt Jk.s [1,1,1,0]) (b:=sAt Jk.s [1,1,1,1]) rfl ?_
   generalize hT4:sAt Jk.s [1,1,1,1]=T4
   refine Jux hs h5' hFo hN hI hM hKI hU hsz ha ?_ ?_ ?_ rfl ?_ ?_
   any_goals (simp -implicitDefEqProofs only [bU,reduceIte,Jc,reduceCtorEq,Ja,Jb,bT,Jd,Je,Jf];done)
   ·intro i e' L' g' hfx hL q4 q5 q6
    have hb:bz l apex=(zn0,Jai (l.getD i rrZ) apex,((i:Nat):Int)):=by rw [hbz,hfx]
    simp -implicitDefEqProofs only [bU,reduceIte,Jc,reduceCtorEq,Ja,Jb,bT,Jd,Je,Jf,bV,Ja,Jb,Jg,Jay,Jr,rsC,rsV,Js,q4,q5,q6,hL,z0V]
    exact ZB hb (.refl _) rfl
   intro hone e1 g1 q0 q1 q4
   have hfx:JL l.length (fun i=>decide (Jai (l.getD i rrZ) apex≠0))=none:=Yn fun j hj=>decide_eq_false fun h=>h (hone j hj)
   rw [hfx] at hbz
   simp only at hbz
   rw [XI,←hT4]
   clear hT4 T4
   refine One.q (a:=sAt Jk.s [1,1,1,1,0]) (b:=sAt Jk.s [1,1,1,1,1]) rfl ?_
   generalize hT5:sAt Jk.s [1,1,1,1,1]=T5
   simp only [Jk,sAt]
   simp -implicitDefEqProofs only [bU,reduceIte,Jc,reduceCtorEq,Ja,Jb,bT,Jd,Je,Jf,bV,Ja,Jb,Jg,XI]
   rw [←hT5]
   clear hT5 T5
   refine One.q (a:=sAt Jk.s [1,1,1,1,1,0]) (b:=sAt Jk.s [1,1,1,1,1,1]) rfl ?_
   generalize hT6:sAt Jk.s [1,1,1,1,1,1]=T6
   simp only [Jk,sAt]
   simp -implicitDefEqProofs only [bU,reduceIte,Jc,reduceCtorEq,Ja,Jb,bT,Jd,Je,Jf,bV,Ja,Jb,Jg,XI]
   rw [←hT6]
   clear hT6 T6
   refine One.q (a:=sAt Jk.s [1,1,1,1,1,1,0]) (b:=sAt Jk.s [1,1,1,1,1,1,1]) rfl ?_
   generalize hT7:sAt Jk.s [1,1,1,1,1,1,1]=T7
   simp only [Jk,sAt]
   simp -implicitDefEqProofs only [bU,reduceIte,Jc,reduceCtorEq,Ja,Jb,bT,Jd,Je,Jf,bV,Ja,Jb,Jg,XI]
   rw [←hT7]
   clear hT7 T7
   have n1:(H.new (.map true [])).n=H.n+1:=rfl
   have hL2:L2 H ((H.new (.map true [])).new (.map true [])) (l.map zi) 0 .ns:=by
    refine ⟨(Ext.new _ _).trans (.new _ _),by show H.n+2≤(H.new (.map true [])).n+1;omega,⟨[],?_,fun k=>rfl⟩,⟨[],?_,fun k=>by simp [Jef]⟩,.nil,fun j hj=>by simp [idA] at hj⟩
    ·rw [(Ext.new (H.new (.map true [])) (.map true [])).at' H.n (by omega)];exact QD
    ·rw [←n1];exact QD
   refine One.q (a:=sAt Jk.s [1,1,1,1,1,1,1,0]) (b:=sAt Jk.s [1,1,1,1,1,1,1,1]) rfl ?_
   generalize hT8:sAt Jk.s [1,1,1,1,1,1,1,1]=T8
   refine Jvl hs h5' hFo hLow hP hD hsz hone hL2 ?_ ?_ ?_ ?_ ?_ ?_ rfl ?_ ?_
   any_goals (simp -implicitDefEqProofs only [bU,reduceIte,Jc,reduceCtorEq,Ja,Jb,bT,Jd,Je,Jf,q0,q1,q4,n1];done)
   ·intro i e' L' g' H' hmx he hL q4 q5 q6
    rw [hmx] at hbz
    have hb:bz l apex=(zn0,24,((i:Nat):Int)):=hbz
    simp -implicitDefEqProofs only [bU,reduceIte,Jc,reduceCtorEq,Ja,Jb,bT,Jd,Je,Jf,bV,Ja,Jb,Jg,Jay,Jr,rsC,rsV,Js,q4,q5,q6,hL,z0V]
    exact ZB hb he rfl
   clear q0 q1 q4 hL2
   intro hmx e2 g2 H2 o he2 hn2 ho hoid q0 q1 q4 q12
   rw [hmx] at hbz
   simp only at hbz
   have hK:KK l apex H2 a o:=⟨Sl.ext hs he2,ho.sl,h5',hsz,hone⟩
   have hok:ZOk (l.map zi):=JqO hone fun i hi=>Jbp hmx i hi
   have hkept:=hok.kept
   have kl:=hLow apex H2 ha
   rw [←Xh hn] at kl
   have hF2:=hFo.ext he2
   have hru:=Jeu (L:=l.map zi) (Jq apex)
   have hr0: ∀ {c:Int×Int},QL (l.map zi) (Jq apex)=c→c.1≠0→bz l apex=(zn0,c):=fun h1 h2=>by rw [hbz,h1,if_pos h2]
   rw [XI,←hT8]
   clear hT8 T8
   refine One.q (a:=sAt Jk.s [1,1,1,1,1,1,1,1,0]) (b:=sAt Jk.s [1,1,1,1,1,1,1,1,1]) rfl ?_
   generalize hT9:sAt Jk.s [1,1,1,1,1,1,1,1,1]=T9
   simp only [Jk,sAt]
   simp -implicitDefEqProofs only [bU,reduceIte,Jc,reduceCtorEq,Ja,Jb,bT,Jd,Je,Jf,bV,Ja,Jb,Jg,q0,q1,q4,q12,kl,XI]
   rw [←hT9]
   clear hT9 T9
   refine One.q (a:=sAt Jk.s [1,1,1,1,1,1,1,1,1,0]) (b:=sAt Jk.s [1,1,1,1,1,1,1,1,1,1]) rfl ?_
   generalize hT10:sAt Jk.s [1,1,1,1,1,1,1,1,1,1]=T10
   simp only [Jk,sAt]
   simp -implicitDefEqProofs only [bU,reduceIte,Jc,reduceCtorEq,Ja,Jb,bT,Jd,Je,Jf,bV,Ja,Jb,Jg,XI]
   rw [←hT10]
   clear hT10 T10
   refine One.q (a:=sAt Jk.s [1,1,1,1,1,1,1,1,1,1,0]) (b:=sAt Jk.s [1,1,1,1,1,1,1,1,1,1,1]) rfl ?_
   generalize hT11:sAt Jk.s [1,1,1,1,1,1,1,1,1,1,1]=T11
   refine Jui (top:=Jq apex) hK hLow ?_ ?_ ?_ ?_ ?_ ?_ ?_ rfl ?_ ?_
   any_goals (simp -implicitDefEqProofs only [bU,reduceIte,Jc,reduceCtorEq,Ja,Jb,bT,Jd,Je,Jf,q0,q1,q4,q12];done)
   ·intro i e' L' g' hf hL q4 q5 q6
    rw [hf] at hru
    have hb:=hr0 (c:=(20,((i:Nat):Int))) hru (by simp)
    simp -implicitDefEqProofs only [bU,reduceIte,Jc,reduceCtorEq,Ja,Jb,bT,Jd,Je,Jf,bV,Ja,Jb,Jg,Jay,Jr,rsC,rsV,Js,q4,q5,q6,hL,z0V]
    exact ZB hb he2 rfl
   clear q0 q1 q4 q12
   intro hf e3 g3 q0 q1 q4 q12 q20 q21
   rw [hf] at hru
   simp only at hru
   rw [XI,←hT11]
   clear hT11 T11
   refine One.q (a:=sAt Jk.s [1,1,1,1,1,1,1,1,1,1,1,0]) (b:=sAt Jk.s [1,1,1,1,1,1,1,1,1,1,1,1]) rfl ?_
   generalize hT12:sAt Jk.s [1,1,1,1,1,1,1,1,1,1,1,1]=T12
   simp only [Jk,sAt]
   cases h6:hasB (l.map zi) (l.map zi).length (Jq apex) 6 with
   | false=>
    rw [h6] at q20 hru
    have hb:=hr0 (c:=(20,-1)) hru (by simp)
    simp -implicitDefEqProofs only [bU,reduceIte,Jc,reduceCtorEq,Ja,Jb,bT,Jd,Je,Jf,bV,Ja,Jb,Jg,q0,q1,q4,q12,q20,q21,z0V,JG,JH,Jay,Jr,rsC,rsV,Js]
    exact ZB hb he2 rfl
   | true=>
   rw [h6,if_neg (show ¬ true=false by decide)] at hru
   rw [h6] at q20
   simp -implicitDefEqProofs only [bU,reduceIte,Jc,reduceCtorEq,Ja,Jb,bT,Jd,Je,Jf,bV,Ja,Jb,Jg,q0,q1,q4,q12,q20,q21,XI]
   rw [←hT12]
   clear hT12 T12
   refine One.q (a:=sAt Jk.s [1,1,1,1,1,1,1,1,1,1,1,1,0]) (b:=sAt Jk.s [1,1,1,1,1,1,1,1,1,1,1,1,1]) rfl ?_
   generalize hT13:sAt Jk.s [1,1,1,1,1,1,1,1,1,1,1,1,1]=T13
   simp only [Jk,sAt]
   cases h2:hasB (l.map zi) (l.map zi).length (Jq apex) 2 with
   | false=>
    rw [h2] at q21 hru
    have hb:=hr0 (c:=(21,-1)) hru (by simp)
    simp -implicitDefEqProofs only [bU,reduceIte,Jc,reduceCtorEq,Ja,Jb,bT,Jd,Je,Jf,bV,Ja,Jb,Jg,q0,q1,q4,q12,q20,q21,z0V,JG,JH,Jay,Jr,rsC,rsV,Js]
    exact ZB hb he2 rfl
   | true=>
   rw [h2,if_neg (show ¬ true=false by decide)] at hru
   rw [h2] at q21
   simp -implicitDefEqProofs only [bU,reduceIte,Jc,reduceCtorEq,Ja,Jb,bT,Jd,Je,Jf,bV,Ja,Jb,Jg,q0,q1,q4,q12,q20,q21,XI]
   rw [←hT13]
   clear hT13 T13
   refine One.q (a:=sAt Jk.s [1,1,1,1,1,1,1,1,1,1,1,1,1,0]) (b:=sAt Jk.s [1,1,1,1,1,1,1,1,1,1,1,1,1,1]) rfl ?_
   generalize hT14:sAt Jk.s [1,1,1,1,1,1,1,1,1,1,1,1,1,1]=T14
   refine JuP hK hLab (.refl _) ?_ ?_ ?_ ?_ rfl ?_ ?_
   any_goals (simp -implicitDefEqProofs only [bU,reduceIte,Jc,reduceCtorEq,Ja,Jb,bT,Jd,Je,Jf,q0,q1,q4,q12];done)
   ·intro i e' L' g' H' hf he hL q4 q5 q6
    rw [hf] at hru
    have hb:=hr0 (c:=(26,((i:Nat):Int))) hru (by simp)
    simp -implicitDefEqProofs only [bU,reduceIte,Jc,reduceCtorEq,Ja,Jb,bT,Jd,Je,Jf,bV,Ja,Jb,Jg,Jay,Jr,rsC,rsV,Js,q4,q5,q6,hL,z0V]
    exact ZB hb (he2.trans he) rfl
   clear q0 q1 q4 q12 q20 q21 hf
   intro hf e4 g4 H4 he4 q0 q1 q4 q12
   rw [hf] at hru
   simp only at hru
   have hK4:=hK.ext he4
   have he04:=he2.trans he4
   rw [XI,←hT14]
   clear hT14 T14
   refine One.q (a:=sAt Jk.s [1,1,1,1,1,1,1,1,1,1,1,1,1,1,0]) (b:=sAt Jk.s [1,1,1,1,1,1,1,1,1,1,1,1,1,1,1]) rfl ?_
   generalize hT15:sAt Jk.s [1,1,1,1,1,1,1,1,1,1,1,1,1,1,1]=T15
   simp only [Jk,sAt]
   simp -implicitDefEqProofs only [bU,reduceIte,Jc,reduceCtorEq,Ja,Jb,bT,Jd,Je,Jf,bV,Ja,Jb,Jg,q0,q1,q4,q12,XI]
   rw [←hT15]
   clear hT15 T15
   refine One.q (a:=sAt Jk.s [1,1,1,1,1,1,1,1,1,1,1,1,1,1,1,0]) (b:=sAt Jk.s [1,1,1,1,1,1,1,1,1,1,1,1,1,1,1,1]) rfl ?_
   generalize hT16:sAt Jk.s [1,1,1,1,1,1,1,1,1,1,1,1,1,1,1,1]=T16
   refine Ju0 hK4 hLow (.new _ _) (Nat.le_refl _) QD ?_ ?_ ?_ ?_ ?_ rfl ?_ ?_
   any_goals (simp -implicitDefEqProofs only [bU,reduceIte,Jc,reduceCtorEq,Ja,Jb,bT,Jd,Je,Jf,q0,q1,q4,q12];done)
   ·intro i e' L' g' H' hf he hL q4 q5 q6
    rw [hf] at hru
    have hb:=hr0 (c:=(23,((i:Nat):Int))) hru (by simp)
    simp -implicitDefEqProofs only [bU,reduceIte,Jc,reduceCtorEq,Ja,Jb,bT,Jd,Je,Jf,bV,Ja,Jb,Jg,Jay,Jr,rsC,rsV,Js,q4,q5,q6,hL,z0V]
    exact ZB hb (he04.trans he) rfl
   clear q0 q1 q4 q12 hf
   intro hf e5 g5 H5 he5 hn5 hlb q0 q1 q4 q12 q29
   rw [hf] at hru
   simp only at hru
   rw [XI,←hT16]
   clear hT16 T16
   refine One.q (a:=sAt Jk.s [1,1,1,1,1,1,1,1,1,1,1,1,1,1,1,1,0]) (b:=sAt Jk.s [1,1,1,1,1,1,1,1,1,1,1,1,1,1,1,1,1]) rfl ?_
   generalize hT17:sAt Jk.s [1,1,1,1,1,1,1,1,1,1,1,1,1,1,1,1,1]=T17
   refine JuO hK4 hLow hlb he5 q0 q1 q4 q12 q29 rfl ?_ ?_
   ·intro i e' L' g' H' hf he hL q4 q5 q6
    rw [hf] at hru
    have hb:=hr0 (c:=(23,((i:Nat):Int))) hru (by simp)
    simp -implicitDefEqProofs only [bU,reduceIte,Jc,reduceCtorEq,Ja,Jb,bT,Jd,Je,Jf,bV,Ja,Jb,Jg,Jay,Jr,rsC,rsV,Js,q4,q5,q6,hL,z0V]
    exact ZB hb (he04.trans he) rfl
   clear q0 q1 q4 q12 q29 hf
   intro hf e6 g6 H6 he6 h65 q0 q1 q4 q12 q29
   subst h65
   rw [hf] at hru
   simp only at hru
   obtain ⟨lb,lb1,lb2⟩:=hlb
   rw [XI,←hT17]
   clear hT17 T17
   have hq:sAt Jk.s [1,1,1,1,1,1,1,1,1,1,1,1,1,1,1,1,1]= .q (sAt Jk.s [1,1,1,1,1,1,1,1,1,1,1,1,1,1,1,1,1,0]) (sAt Jk.s [1,1,1,1,1,1,1,1,1,1,1,1,1,1,1,1,1,1]):=rfl
   rw [hq]
   clear hq
   cases hf7:(Jn (l.map zi)).find? (JdK (l.map zi)) with
   | some i=>
    rw [hf7] at hru
    have hb:=hr0 (c:=(25,((i:Nat):Int))) hru (by simp)
    refine One.ndr (v0:= .tp [z0V,.i .i64 25,.i .i64 ((i:Nat):Int)]) (H0:=H6) (Jrg hK4 hStr he6 lb1 lb2 q0 q1 q4 q12 q29 ?_ ?_) ?_
    ·intro i' e' L' g' hfi hL q4 q5 q6
     rw [hf7] at hfi
     injection hfi with hfi
     subst hfi
     simp -implicitDefEqProofs only [bU,reduceIte,Jc,reduceCtorEq,Ja,Jb,bT,Jd,Je,Jf,bV,Ja,Jb,Jg,rsC,rsV,Js,q4,q5,q6,hL,z0V]
    ·intro hf8;rw [hf7] at hf8;cases hf8
    ·exact ZB hb (he04.trans he6) rfl
   | none=>
    rw [hf7] at hru
    have hb:bz l apex=(⟨apex,Ja3 (l.map zi)⟩,0,0):=by rw [hbz,show QL (l.map zi) (Jq apex)=(0,0) from hru];rfl
    refine One.nd (e1:=[(314,.b false),(0,a),(1,.s apex),(4,.la 4 0 0 0),(12,o),(29,.mp H4.n),(311,o),(312,.i .i64 (Jn (l.map zi)).length),(313,.i .i64 (Jn (l.map zi)).length)]) (M1:=⟨[⟨4,0,0,[z0V]⟩],g6+(Jn (l.map zi)).length*(1+lb.length),H6⟩) (Jrg hK4 hStr he6 lb1 lb2 q0 q1 q4 q12 q29 ?_ ?_) ?_
    rotate_left 2
    ·refine One.mono (fun v H'=>JbD.mono he04) (One.det rfl (Jq4 hK4 hkept ?_ he6 ((hF2.ext he4).ext he6) hLow hSD hSS hb rfl rfl rfl rfl))
     intro hnil
     rw [JdD] at h6
     have:Jn (l.map zi)=[]:=by unfold J2 at hnil;exact List.map_eq_nil_iff.1 hnil
     rw [this] at h6
     cases h6
    ·intro i' e' L' g' hfi;rw [hf7] at hfi;cases hfi
    ·intro _;exact ⟨rfl,rfl,rfl⟩
end
theorem JhQ (l:List Qa):(l.flatMap JbC).length=Jam l:=by
 induction l with
 | nil=>rfl
 | cons s r ih=>
  rw [List.flatMap_cons,List.length_append,ih]
  simp [JbC,Jam]
section
variable {C:Tab}
theorem JqG {s:Qa} {d:AV} {H:AH} (h:Sl H 1 d (s.d.map AV.s)) (hl:s.d.length≤1048576):Jt C Q0 [sV s d] H fun v H'=>Ext H H'∧Mx H' eR v (JbC s)∧ ∀ i,i∈idA v→H.n≤i:=by
 unfold Jt Q0
 obtain ⟨l1,l2⟩:=h.len
 rw [List.length_map] at l1
 have dO:=h.out
 have dc:=h.one
 have hm0:Mx H eR .ns []:= .nil
 simp -implicitDefEqProofs only [bU,reduceIte,Jc,reduceCtorEq,Ja,Jb,bT,Jd,Je,Jf,bV,Ja,Jb,Jg,sV,l1,l2,JE,JQ,List.replicate]
 refine Jl (fun m e M=> ∃ (i:Nat) (o:AV) (H':AH) (L0:List Lv) (g:Nat),i≤s.d.length∧m=s.d.length-i∧look e 1= .la 1 0 0 0∧look e 3=o∧look e 7=d∧look e 8= .i .i64 s.d.length∧look e 9= .i .i64 i∧M=⟨L0,g,H'⟩∧JJ [1,3,7,8,9] L0=[⟨1,0,0,[.ag [.s s.o,.i .i64 s.t,.i .i64 s.ttl,d]]⟩]∧Ext H H'∧
   Mx H' eR o ((s.d.take i).map fun x=>(⟨s.o,s.t,1,s.ttl,x⟩:Rr))∧ ∀ j,j∈idA o→H.n≤j) ?_ (n:=s.d.length)
  ⟨0,.ns,_,_,_,by omega,by omega,rfl,rfl,rfl,rfl,rfl,rfl,rfl,.refl _,by simpa using hm0,fun j hj=>by simp [idA] at hj⟩
 rintro m e M ⟨i,o,H',L0,g,hi,rfl,q1,q3,q7,q8,q9,rfl,hL0,he,hm,hid⟩
 by_cases h1:(i:Int) < s.d.length
 ·have hil:i < s.d.length:=by omega
  have hg:(s.d.map AV.s).getD i .u= .s s.d[i]:=by simp [List.getD,hil]
  have ia:=fun (L:List Lv) (g:Nat)=>(Sl.ext h he).ia1 (j:=i) (v:= .s s.d[i]) (by omega) (by rw [List.length_map];omega) (by rw [Jj,hg];rfl) L g
  rw [Jj] at ia
  obtain ⟨z1,z2,-⟩:=ia [] 0
  have w4:IntKind.i64.wrap ((i:Int)+1)=((i+1:Nat):Int):=by rw [w64 (by omega) (by omega)];rfl
  obtain ⟨p1,o',H2,p2,p3,p4,p5,p6,p7,-,-⟩:=Mn.ap (by':=56) hm (Qk (t:=22) (g:=g) (x:=eR.v ⟨s.o,s.t,1,s.ttl,s.d[i]⟩) (L:=[⟨1,0,0,[.ag [.s s.o,.i .i64 s.t,.i .i64 s.ttl,d]]⟩]) (H:=H')) (by simp;omega)
  rw [show eR.z=5 from rfl,JcE] at p1 p2 p3
  simp -implicitDefEqProofs only [bU,reduceIte,Jc,reduceCtorEq,Ja,Jb,bT,Jd,Je,Jf,bV,Ja,Jb,Jg,Qs,J6,q1,q3,q7,q8,q9,hL0,h1,z1,z2,ia,dO,dc,Jj,JG,JH,JE,JQ,List.replicate,List.set]
  simp -implicitDefEqProofs only [bU,reduceIte,Jc,reduceCtorEq,Ja,Jb,bT,Jd,Je,Jf,bV,Ja,Jb,Jg,p1,p2,p3,w4]
  refine ⟨_,by omega,i+1,o',H2,_,_,hil,rfl,rfl,rfl,rfl,rfl,⟨Nat.le_trans he.n p5,fun j hj=>by rw [p6 j (Nat.lt_of_lt_of_le hj he.n) fun hh=>by have:=hid j hh;omega];exact he.at' j hj⟩,?_,fun j hj=>(p7 j hj).elim (hid j) fun h=>Nat.le_trans he.n h⟩
  rw [List.take_succ_eq_append_getElem hil,List.map_append]
  show Mn H2 eR.z o' _
  rw [List.map_append]
  exact p4
 ·have hil:i=s.d.length:=by omega
  subst hil
  rw [List.take_length] at hm
  have ho:=(Mn.sl hm).out
  simp -implicitDefEqProofs only [bU,reduceIte,Jc,reduceCtorEq,Ja,Jb,bT,Jd,Je,Jf,bV,Ja,Jb,Jg,q1,q3,q7,q8,q9,hL0,h1,ho,Jr,rsC,rsV,Js]
  exact ⟨he,hm,hid⟩
theorem Jnz {z:Zn} {zs:AV} {ds:List AV} {H:AH} (hR:Je1 C WS) (h:ZS H zs z.s ds) (hz:SzZ z):
  Jt C QN [.ag [.s z.a,zs]] H fun v H'=>Ext H H'∧Mx H' eR v (JeT z)∧ ∀ i,i∈idA v→H.n≤i:=by
 unfold Jt QN
 obtain ⟨l1,l2⟩:=h.row.len
 rw [QK h.len] at l1
 have zo:=h.row.out
 have zc:=h.row.one
 have hm0:Mx H eR .ns []:= .nil
 have hid0: ∀ j,j∈idA AV.ns→H.n≤j:=fun j hj=>by simp [idA] at hj
 unfold JeT
 by_cases h5:(500:Int) < z.s.length
 ·simp -implicitDefEqProofs only [bU,reduceIte,Jc,reduceCtorEq,Ja,Jb,bT,Jd,Je,Jf,bV,Ja,Jb,Jg,l1,l2,h5,zo,zc,JG,JH,Jr,rsC,rsV,Js]
  rw [if_pos (.inl (by omega))]
  exact ⟨.refl _,hm0,hid0⟩
 ·simp -implicitDefEqProofs only [bU,reduceIte,Jc,reduceCtorEq,Ja,Jb,bT,Jd,Je,Jf,bV,Ja,Jb,Jg,l1,l2,h5,zo,zc]
  refine Jl (fun m e M=> ∃ (i:Nat) (o:AV) (H':AH) (L0:List Lv) (g:Nat),i≤z.s.length∧m=z.s.length-i∧look e 3=o∧look e 11=zs∧look e 12= .i .i64 z.s.length∧look e 13= .i .i64 i∧M=⟨L0,g,H'⟩∧JJ [3,11,12,13] L0=[]∧Jam (z.s.take i)≤500∧Ext H H'∧Mx H' eR o ((z.s.take i).flatMap JbC)∧ ∀ j,j∈idA o→H.n≤j) ?_ (n:=z.s.length)
   ⟨0,.ns,_,_,_,by omega,by omega,rfl,rfl,rfl,rfl,rfl,rfl,by simp [Jam],.refl _,by simpa using hm0,hid0⟩
  rintro m e M ⟨i,o,H',L0,g,hi,rfl,q3,q11,q12,q13,rfl,hL0,hc,he,hm,hid⟩
  by_cases h1:(i:Int) < z.s.length
  ·have hil:i < z.s.length:=by omega
   have hidd:i < ds.length:=by rw [h.len];exact hil
   obtain ⟨a1,a2,a3,-,-,-,-,-,a9,a10⟩:=(h.ext he).at' hil hidd
   have hmem:=List.getElem_mem hil
   have hdl:z.s[i].d.length≤1048576:=Nat.le_trans (Jah hmem) hz.c
   obtain ⟨d1,d2⟩:=((h.ext he).dat i hil hidd).len
   rw [List.length_map] at d1
   obtain ⟨v1,H1,k1,e1,m1,i1⟩:=hR z.s[i] ds[i] H' ((h.ext he).dat i hil hidd) hdl
   have hm':=hm.ext e1
   obtain ⟨o1,o2⟩:=(Mn.sl hm).len
   rw [List.length_map,JhQ] at o1
   have hcs:=Jaz hil
   have htl:=Ja6 z.s (i+1)
   have w4:IntKind.i64.wrap ((i:Int)+1)=((i+1:Nat):Int):=by rw [w64 (by omega) (by omega)];rfl
   have w5:IntKind.i64.wrap ((Jam (z.s.take i):Int)+(z.s[i].d.length:Int))=((Jam (z.s.take (i+1)):Nat):Int):=by rw [w64 (by omega) (by omega)];omega
   have bd:z.s.length- (i+1) < z.s.length-i:=by omega
   have oo:=(Mn.sl hm).out
   have v1o:=(Mn.sl m1).out
   have so:(sV z.s[i] ds[i]).outs=true:=rfl
   have hsv:sV z.s[i] ds[i]= .ag [.s z.s[i].o,.i .i64 z.s[i].t,.i .i64 z.s[i].ttl,ds[i]]:=rfl
   rw [hsv] at k1 a10
   by_cases h6:(500:Int) < (Jam (z.s.take (i+1)):Nat)
   ·simp -implicitDefEqProofs only [bU,reduceIte,Jc,reduceCtorEq,Ja,Jb,bT,Jd,Je,Jf,bV,Ja,Jb,Jg,Qs,J6,q3,q11,q12,q13,hL0,h1,Jj,a1,a2,a3,a9,a10,d1,d2,o1,o2,w5,h6,JG,JH,Jr,rsC,rsV,Js]
    rw [if_pos (.inr (by omega))]
    exact ⟨he,.nil,hid0⟩
   ·obtain ⟨p1,o',H2,p2,p3,p4,p5,p6,p7,-,-⟩:=Mn.ap (by':=56) hm' ((Mn.sl m1).src [⟨5,g,0,[.ag [.s z.s[i].o,.i .i64 z.s[i].t,.i .i64 z.s[i].ttl,ds[i]]]⟩] (g+1)) (by rw [List.length_map,List.length_map,JhQ];simp only [JbC,List.length_map];omega)
    rw [show eR.z=5 from rfl] at p1 p3
    simp -implicitDefEqProofs only [bU,reduceIte,Jc,reduceCtorEq,Ja,Jb,bT,Jd,Je,Jf,bV,Ja,Jb,Jg,Qs,J6,q3,q11,q12,q13,hL0,h1,Jj,a1,a2,a3,a9,a10,d1,d2,o1,o2,w5,h6,k1,oo,v1o,JG,JH,JE,JQ,List.replicate,List.set]
    simp -implicitDefEqProofs only [bU,reduceIte,Jc,reduceCtorEq,Ja,Jb,bT,Jd,Je,Jf,bV,Ja,Jb,Jg,p1,p2,p3,w4]
    refine ⟨_,bd,i+1,o',H2,_,_,hil,rfl,rfl,rfl,rfl,rfl,by omega,⟨by have:=he.n;have:=e1.n;omega,fun j hj=>by
     have:=he.n
     have:=e1.n
     rw [p6 j (by omega) fun hh=>by have:=hid j hh;omega,e1.at' j (by omega)];exact he.at' j hj⟩,?_,fun j hj=>(p7 j hj).elim (hid j) fun h=>by have:=he.n;have:=e1.n;omega⟩
    rw [List.take_succ_eq_append_getElem hil,List.flatMap_append]
    show Mn H2 eR.z o' _
    rw [List.map_append]
    simpa using p4
  ·have hil:i=z.s.length:=by omega
   subst hil
   rw [List.take_length] at hm hc
   have oo:=(Mn.sl hm).out
   simp -implicitDefEqProofs only [bU,reduceIte,Jc,reduceCtorEq,Ja,Jb,bT,Jd,Je,Jf,bV,Ja,Jb,Jg,q3,q11,q12,q13,hL0,h1,oo,Jr,rsC,rsV,Js]
   rw [if_neg (by omega)]
   exact ⟨he,hm,hid⟩
end
section
variable {C:Tab}
set_option maxHeartbeats 4000000 in
theorem Jh5 {z w:Zn} {zs ws:AV} {ds es:List AV} {H:AH} (h:ZS H zs z.s ds) (h':ZS H ws w.s es) (hl:z.s.length≤1048576) (hl':w.s.length≤1048576) (hd: ∀ s,s∈z.s→s.d.length≤1048576) (hd': ∀ s,s∈w.s→s.d.length≤1048576):
  Jt C XB [.ag [.s z.a,zs],.ag [.s w.a,ws]] H fun v H'=>v= .b (decide (z=w))∧QA H H':=by
 unfold Jt XB
 have hk:=JA H
 obtain ⟨l1,l2⟩:=h.row.len
 obtain ⟨l3,l4⟩:=h'.row.len
 rw [QK h.len] at l1
 rw [QK h'.len] at l3
 have zo:=h.row.out
 have wo:=h'.row.out
 have no:z≠w→false=decide (z=w):=fun hne=>(decide_eq_false hne).symm
 by_cases h1:z.a=w.a
 ·by_cases h4:z.s.length=w.s.length
  ·have h4':((z.s.length:Int)=(w.s.length:Int))=True:=eq_true (by omega)
   simp -implicitDefEqProofs only [bU,reduceIte,Jc,reduceCtorEq,Ja,Jb,bT,Jd,Je,Jf,bV,Ja,Jb,Jg,h1,h4',l1,l2,l3,l4,zo,wo]
   refine Jl (fun m e M=> ∃ (i:Nat) (L0:List Lv) (g:Nat),i≤z.s.length∧m=z.s.length-i∧look e 3= .la 3 1 0 0∧look e 24=zs∧look e 25= .i .i64 z.s.length∧look e 26= .i .i64 i∧M=⟨L0,g,H⟩∧JJ [3,24,25,26] L0=[⟨3,1,0,[.ag [.s w.a,ws]]⟩]∧ ∀ j (h1:j < z.s.length) (h2:j < w.s.length),j < i→z.s[j]=w.s[j]) ?_ (n:=z.s.length)
    ⟨0,_,_,by omega,by omega,rfl,rfl,by simp -implicitDefEqProofs only [bU,reduceIte,Jc,reduceCtorEq,Ja,Jb,bT,Jd,Je,Jf,h4'],rfl,rfl,rfl,fun j _ _ hj=>by omega⟩
   rintro m e M ⟨i,L0,g,hi,rfl,q3,q24,q25,q26,rfl,hL0,hp⟩
   by_cases h5:(i:Int) < z.s.length
   ·have hil:i < z.s.length:=by omega
    have hil':i < w.s.length:=by omega
    have hid:i < ds.length:=by rw [h.len];exact hil
    have hid':i < es.length:=by rw [h'.len];exact hil'
    obtain ⟨a1,a2,a3,-,-,-,-,-,a9,a10⟩:=h.at' hil hid
    obtain ⟨b1,b2,b3,-,-,-,-,-,b9,b10⟩:=h'.at' hil' hid'
    have ha:=h.dat i hil hid
    have hb:=h'.dat i hil' hid'
    have bl:=hd _ (List.getElem_mem hil)
    have bl':=hd' _ (List.getElem_mem hil')
    have hne:z.s[i] ≠w.s[i]→z≠w:=fun hn e=>hn (by subst e;rfl)
    have w5:IntKind.i64.wrap ((i:Int)+1)=((i+1:Nat):Int):=by rw [w64 (by omega) (by omega)];rfl
    have bd:z.s.length- (i+1) < z.s.length-i:=by omega
    have h5':(i:Int) < w.s.length:=by omega
    have nx:z.s[i]=w.s[i]→ ∀ j (h1:j < z.s.length) (h2:j < w.s.length),j < i+1→z.s[j]=w.s[j]:=fun he j j1 j2 hj=>by
     by_cases e:j=i
     ·subst e;exact he
     ·exact hp j j1 j2 (by omega)
    generalize z.s[i]=s at*
    generalize w.s[i]=t at*
    obtain ⟨l5,l6⟩:=ha.len
    obtain ⟨l7,l8⟩:=hb.len
    rw [List.length_map] at l5 l7
    generalize ds[i]=d at*
    generalize es[i]=d' at*
    have hs:sV s d= .ag [.s s.o,.i .i64 s.t,.i .i64 s.ttl,d]:=rfl
    have ht:sV t d'= .ag [.s t.o,.i .i64 t.t,.i .i64 t.ttl,d']:=rfl
    rw [hs] at a10
    rw [ht] at b10
    have so:s≠t→QA H H→(false=decide (z=w))∧QA H H:=fun hn hk=>⟨no (hne hn),hk⟩
    by_cases e1:s.o=t.o
    ·by_cases e2:s.t=t.t
     ·by_cases e3:s.ttl=t.ttl
      ·by_cases e4:s.d.length=t.d.length
       ·have e4':((s.d.length:Int)=(t.d.length:Int))=True:=eq_true (by omega)
        simp -implicitDefEqProofs only [bU,reduceIte,Jc,reduceCtorEq,Ja,Jb,bT,Jd,Je,Jf,bV,Ja,Jb,Jg,Qs,J6,q3,q24,q25,q26,hL0,h5,h5',Jj,l1,l2,l3,l4,a1,a2,a3,a9,a10,b1,b2,b3,b9,b10,e1,e2,e3,e4',l5,l6,l7,l8,JG,JH]
        refine Jl (fun m e M=> ∃ (k:Nat) (L0:List Lv) (g':Nat),k≤s.d.length∧m=s.d.length-k∧look e 3= .la 3 1 0 0∧look e 6= .la 6 g 0 0∧look e 7= .la 7 (g+1) 0 0∧look e 24=zs∧look e 25= .i .i64 z.s.length∧look e 26= .i .i64 i∧look e 66= .i .i64 s.d.length∧look e 67= .i .i64 k∧M=⟨L0,g',H⟩∧JJ [3,6,7,24,25,26,66,67] L0=[⟨7,g+1,0,[.ag [.s t.o,.i .i64 t.t,.i .i64 t.ttl,d']]⟩,⟨6,g,0,[.ag [.s t.o,.i .i64 t.t,.i .i64 t.ttl,d]]⟩,⟨3,1,0,[.ag [.s w.a,ws]]⟩]∧ ∀ j (h1:j < s.d.length) (h2:j < t.d.length),j < k→s.d[j]=t.d[j]) ?_ (n:=s.d.length)
         ⟨0,_,_,by omega,by omega,by first | rfl | (simp -implicitDefEqProofs only [bU,reduceIte,Jc,reduceCtorEq,Ja,Jb,bT,Jd,Je,Jf,e4'];done),by first | rfl | (simp -implicitDefEqProofs only [bU,reduceIte,Jc,reduceCtorEq,Ja,Jb,bT,Jd,Je,Jf,e4'];done),by first | rfl | (simp -implicitDefEqProofs only [bU,reduceIte,Jc,reduceCtorEq,Ja,Jb,bT,Jd,Je,Jf,e4'];done),by first | rfl | (simp -implicitDefEqProofs only [bU,reduceIte,Jc,reduceCtorEq,Ja,Jb,bT,Jd,Je,Jf,e4'];done),by first | rfl | (simp -implicitDefEqProofs only [bU,reduceIte,Jc,reduceCtorEq,Ja,Jb,bT,Jd,Je,Jf,e4'];done),by first | rfl | (simp -implicitDefEqProofs only [bU,reduceIte,Jc,reduceCtorEq,Ja,Jb,bT,Jd,Je,Jf,e4'];done),by first | rfl | (simp -implicitDefEqProofs only [bU,reduceIte,Jc,reduceCtorEq,Ja,Jb,bT,Jd,Je,Jf,e4'];done),by first | rfl | (simp -implicitDefEqProofs only [bU,reduceIte,Jc,reduceCtorEq,Ja,Jb,bT,Jd,Je,Jf,e4'];done),rfl,by first | rfl | (simp -implicitDefEqProofs only [bU,reduceIte,Jc,reduceCtorEq,Ja,Jb,bT,Jd,Je,Jf,e4'];done),fun j _ _ hj=>by omega⟩
        rintro m e M ⟨k,L1,g',hk2,rfl,r3,r6,r7,r24,r25,r26,r66,r67,rfl,hL1,hq⟩
        by_cases h6:(k:Int) < s.d.length
        ·have hkl:k < s.d.length:=by omega
         have hkl':k < t.d.length:=by omega
         have hg:(s.d.map AV.s).getD k .u= .s s.d[k]:=by simp [List.getD,hkl]
         have hg':(t.d.map AV.s).getD k .u= .s t.d[k]:=by simp [List.getD,hkl']
         have ia:=fun (L:List Lv) (g:Nat)=>ha.ia1 (j:=k) (v:= .s s.d[k]) (by omega) (by rw [List.length_map];omega) (by rw [Jj,hg];rfl) L g
         have ib:=fun (L:List Lv) (g:Nat)=>hb.ia1 (j:=k) (v:= .s t.d[k]) (by omega) (by rw [List.length_map];omega) (by rw [Jj,hg'];rfl) L g
         rw [Jj] at ia ib
         obtain ⟨z1,z2,-⟩:=ia [] 0
         obtain ⟨z3,z4,-⟩:=ib [] 0
         have w6:IntKind.i64.wrap ((k:Int)+1)=((k+1:Nat):Int):=by rw [w64 (by omega) (by omega)];rfl
         have bd2:s.d.length- (k+1) < s.d.length-k:=by omega
         by_cases he:s.d[k]=t.d[k]
         ·simp -implicitDefEqProofs only [bU,reduceIte,Jc,reduceCtorEq,Ja,Jb,bT,Jd,Je,Jf,bV,Ja,Jb,Jg,Qs,J6,r3,r6,r7,r24,r25,r26,r66,r67,hL1,h6,Jj,z1,z2,z3,z4,ia,ib,he,w6]
          exact ⟨_,bd2,k+1,_,_,hkl,rfl,rfl,rfl,rfl,fun j j1 j2 hj=>by
           by_cases e:j=k
           ·subst e;exact he
           ·exact hq j j1 j2 (by omega)⟩
         ·simp -implicitDefEqProofs only [bU,reduceIte,Jc,reduceCtorEq,Ja,Jb,bT,Jd,Je,Jf,bV,Ja,Jb,Jg,Qs,J6,r3,r6,r7,r24,r25,r26,r66,r67,hL1,h6,Jj,z1,z2,z3,z4,ia,ib,he,Jr,rsC,rsV,Js]
          exact so (fun e=>he (by subst e;rfl)) hk
        ·have hie:k=s.d.length:=by omega
         have heq:s=t:=(Qa.eq_iff s t).2 ⟨e1,e2,e3,JcA e4 fun j j1 j2=>hq j j1 j2 (by omega)⟩
         simp -implicitDefEqProofs only [bU,reduceIte,Jc,reduceCtorEq,Ja,Jb,bT,Jd,Je,Jf,bV,Ja,Jb,Jg,r3,r6,r7,r24,r25,r26,r66,r67,hL1,h6,w5]
         exact ⟨_,bd,i+1,_,_,hil,rfl,rfl,rfl,rfl,nx heq⟩
       ·have e4': ¬ (s.d.length:Int)=(t.d.length:Int):=by omega
        simp -implicitDefEqProofs only [bU,reduceIte,Jc,reduceCtorEq,Ja,Jb,bT,Jd,Je,Jf,bV,Ja,Jb,Jg,Qs,J6,q3,q24,q25,q26,hL0,h5,h5',Jj,l1,l2,l3,l4,a1,a2,a3,a9,a10,b1,b2,b3,b9,b10,e1,e2,e3,e4',l5,l6,l7,l8,JG,JH,Jr,rsC,rsV,Js]
        exact so (fun e=>e4 (by rw [e])) hk
      ·simp -implicitDefEqProofs only [bU,reduceIte,Jc,reduceCtorEq,Ja,Jb,bT,Jd,Je,Jf,bV,Ja,Jb,Jg,Qs,J6,q3,q24,q25,q26,hL0,h5,h5',Jj,l1,l2,l3,l4,a1,a2,a3,a9,a10,b1,b2,b3,b9,b10,e1,e2,e3,l5,l6,l7,l8,JG,JH,Jr,rsC,rsV,Js]
       exact so (fun e=>e3 (by rw [e])) hk
     ·simp -implicitDefEqProofs only [bU,reduceIte,Jc,reduceCtorEq,Ja,Jb,bT,Jd,Je,Jf,bV,Ja,Jb,Jg,Qs,J6,q3,q24,q25,q26,hL0,h5,h5',Jj,l1,l2,l3,l4,a1,a2,a3,a9,a10,b1,b2,b3,b9,b10,e1,e2,l5,l6,l7,l8,JG,JH,Jr,rsC,rsV,Js]
      exact so (fun e=>e2 (by rw [e])) hk
    ·simp -implicitDefEqProofs only [bU,reduceIte,Jc,reduceCtorEq,Ja,Jb,bT,Jd,Je,Jf,bV,Ja,Jb,Jg,Qs,J6,q3,q24,q25,q26,hL0,h5,h5',Jj,l1,l2,l3,l4,a1,a2,a3,a9,a10,b1,b2,b3,b9,b10,e1,l5,l6,l7,l8,JG,JH,Jr,rsC,rsV,Js]
     exact so (fun e=>e1 (by rw [e])) hk
   ·have hie:i=z.s.length:=by omega
    simp -implicitDefEqProofs only [bU,reduceIte,Jc,reduceCtorEq,Ja,Jb,bT,Jd,Je,Jf,bV,Ja,Jb,Jg,q3,q24,q25,q26,hL0,l1,l2,l3,l4,h5,Jr,rsC,rsV,Js]
    have:z=w:=(Zn.eq_iff z w).2 ⟨h1,JcA h4 fun j j1 j2=>hp j j1 j2 (by omega)⟩
    exact ⟨by rw [decide_eq_true this],hk⟩
  ·have h4': ¬ (z.s.length:Int)=(w.s.length:Int):=by omega
   simp -implicitDefEqProofs only [bU,reduceIte,Jc,reduceCtorEq,Ja,Jb,bT,Jd,Je,Jf,bV,Ja,Jb,Jg,h1,h4',l1,l2,l3,l4,zo,wo,Jr,rsC,rsV,Js]
   exact ⟨no (fun e=>h4 (by rw [e])),hk⟩
 ·simp -implicitDefEqProofs only [bU,reduceIte,Jc,reduceCtorEq,Ja,Jb,bT,Jd,Je,Jf,bV,Ja,Jb,Jg,h1,l1,l2,l3,l4,zo,wo,Jr,rsC,rsV,Js]
  exact ⟨no (fun e=>h1 (by rw [e])),hk⟩
end
def JqX (C:Tab) (f:Nat):Prop:= ∀ (a:AV) (l:List Rr) (apex:List UInt8) (H:AH),JR H→Sx H eR a l→l.length≤1099511627776→szL l→apex.length≤1099511627776→ ∃ v H',C f [a,.s apex] H=some (v,H')∧JbD (bz l apex) H v H'
def Jou (C:Tab) (f:Nat):Prop:= ∀ (z:Zn) (zs:AV) (ds:List AV) (H:AH),JR H→ZS H zs z.s ds→SzZ z→C f [.ag [.s z.a,zs]] H=some (.i .i64 (ckz z),H)
section
variable {C:Tab}
set_option maxHeartbeats 4000000 in
theorem Jq1 {z:Zn} {zs:AV} {ds:List AV} {H:AH} (hR:JbM C QV) (hB:JqX C Yc) (hS:ZU C YX) (hFo:JR H) (h:ZS H zs z.s ds) (hz:SzZ z):
  Jt C WH [.ag [.s z.a,zs]] H fun v H'=>v= .i .i64 (ckz z)∧QA H H':=by
 unfold Jt WH
 have hk:=JA H
 obtain ⟨l1,l2⟩:=h.row.len
 rw [QK h.len] at l1
 have zo:=h.row.out
 have zc:=h.row.one
 have hcz:JkI z=Jam z.s:=rfl
 simp -implicitDefEqProofs only [bU,reduceIte,Jc,reduceCtorEq,Ja,Jb,bT,Jd,Je,Jf,bV,Ja,Jb,Jg,l1,l2]
 refine Jl (fun m e M=> ∃ (i:Nat) (L0:List Lv) (g:Nat),i≤z.s.length∧m=z.s.length-i∧look e 1= .la 1 0 0 0∧look e 3= .i .i64 (Jam (z.s.take i):Nat)∧look e 10=zs∧look e 11= .i .i64 z.s.length∧look e 12= .i .i64 i∧M=⟨L0,g,H⟩∧JJ [1,3,10,11,12] L0=[⟨1,0,0,[.ag [.s z.a,zs]]⟩]∧ ∀ j (h1:j < z.s.length),j < i→z.s[j].d≠ []) ?_ (n:=z.s.length)
  ⟨0,_,_,by omega,by omega,rfl,rfl,rfl,rfl,rfl,rfl,rfl,fun j _ hj=>by omega⟩
 rintro m e M ⟨i,L0,g,hi,rfl,q1,q3,q10,q11,q12,rfl,hL0,hp⟩
 by_cases h1:(i:Int) < z.s.length
 ·have hil:i < z.s.length:=by omega
  have hidd:i < ds.length:=by rw [h.len];exact hil
  obtain ⟨a1,a2,a3,-,-,-,-,-,a9,a10⟩:=h.at' hil hidd
  have hmem:=List.getElem_mem hil
  obtain ⟨d1,d2⟩:=(h.dat i hil hidd).len
  rw [List.length_map] at d1
  have e1:=Jaz hil
  have e2:=Ja6 z.s (i+1)
  have hzc:=hz.c
  have w3:IntKind.i64.wrap ((Jam (z.s.take i):Int)+(z.s[i].d.length:Int))=((Jam (z.s.take (i+1)):Nat):Int):=by rw [w64 (by omega) (by omega)];omega
  have hsl:=hz.s
  have w4:IntKind.i64.wrap ((i:Int)+1)=((i+1:Nat):Int):=by rw [w64 (by omega) (by omega)];rfl
  have bd:z.s.length- (i+1) < z.s.length-i:=by omega
  have hsv:sV z.s[i] ds[i]= .ag [.s z.s[i].o,.i .i64 z.s[i].t,.i .i64 z.s[i].ttl,ds[i]]:=rfl
  rw [hsv] at a10
  by_cases h0:(z.s[i].d.length:Int)=0
  ·have h0':((z.s[i].d.length:Int)=0)=True:=eq_true h0
   simp -implicitDefEqProofs only [bU,reduceIte,Jc,reduceCtorEq,Ja,Jb,bT,Jd,Je,Jf,bV,Ja,Jb,Jg,q1,q3,q10,q11,q12,hL0,h1,Jj,a1,a2,a3,a9,a10,d1,d2,h0',JG,JH,Jr,rsC,rsV,Js]
   exact ⟨by rw [Jlh hmem (List.eq_nil_of_length_eq_zero (by omega))],hk⟩
  ·simp -implicitDefEqProofs only [bU,reduceIte,Jc,reduceCtorEq,Ja,Jb,bT,Jd,Je,Jf,bV,Ja,Jb,Jg,q1,q3,q10,q11,q12,hL0,h1,Jj,a1,a2,a3,a9,a10,d1,d2,h0,w3,w4,JG,JH]
   exact ⟨_,bd,i+1,_,_,hil,rfl,rfl,rfl,rfl,rfl,fun j j1 hj=>by
    by_cases e:j=i
    ·subst e;intro hd;rw [hd] at h0;exact h0 rfl
    ·exact hp j j1 (by omega)⟩
 ·have hil:i=z.s.length:=by omega
  subst hil
  rw [List.take_length] at q3
  have hcg:z.s.length≤JkI z:=Js3 fun s hs=>by
   obtain ⟨j,hj,rfl⟩:=List.mem_iff_getElem.1 hs
   exact hp j hj hj
  rw [hcz] at hcg
  unfold ckz
  rw [hcz]
  by_cases h6:(500:Int) < (Jam z.s:Nat)
  ·rw [if_pos (.inr (by omega))]
   simp -implicitDefEqProofs only [bU,reduceIte,Jc,reduceCtorEq,Ja,Jb,bT,Jd,Je,Jf,bV,Ja,Jb,Jg,q1,q3,q10,q11,q12,hL0,h1,h6,Jr,rsC,rsV,Js]
   exact hk
  ·rw [if_neg (by omega)]
   obtain ⟨v1,H1,k2,e1,m1,i1⟩:=hR z zs ds H h hz
   have hzr:JeT z=WQ z:=by unfold JeT;rw [if_neg (by omega)]
   rw [hzr] at m1
   have hrl:(WQ z).length≤500:=by rw [Jcq,hcz];omega
   obtain ⟨v2,H2,k3,e2,ws,es,rfl,hw⟩:=hB v1 (WQ z) z.a H1 (hFo.ext e1) m1.sl (by omega) (JiF hz) (by have:=hz.a;omega)
   have v1o:=(Mn.sl m1).out
   have wo:=hw.rd.row.out
   have wc:=hw.rd.row.one
   obtain ⟨b1,b2⟩:=Joo (WQ z) z.a
   have kS:=hS z (bz (WQ z) z.a).1 zs ws ds es H2 (h.ext (e1.trans e2)) hw.rd hz.s (by omega) (fun s hs=>Nat.le_trans (Jah hs) hz.c) fun s hs=>by have:=b2 s hs;omega
   generalize bz (WQ z) z.a=R at k3 kS ⊢
   generalize hg:(if R.2.1=0∧R.1=z then (0:Int) else 32)=res
   by_cases hc:R.2.1=0
   ·have hc':(R.2.1=0)=True:=eq_true hc
    by_cases he:R.1=z
    ·rw [decide_eq_true he.symm] at kS
     simp -implicitDefEqProofs only [bU,reduceIte,Jc,reduceCtorEq,Ja,Jb,bT,Jd,Je,Jf,bV,Ja,Jb,Jg,Qs,J6,q1,q3,q10,q11,q12,hL0,h1,h6,k2,k3,v1o,wo,wc,zo,zc,hc',kS,JG,JH,Jr,rsC,rsV,Js]
     rw [if_pos ⟨hc,he⟩] at hg
     exact ⟨by rw [hg],.of (e1.trans e2)⟩
    ·rw [decide_eq_false fun h=>he h.symm] at kS
     simp -implicitDefEqProofs only [bU,reduceIte,Jc,reduceCtorEq,Ja,Jb,bT,Jd,Je,Jf,bV,Ja,Jb,Jg,Qs,J6,q1,q3,q10,q11,q12,hL0,h1,h6,k2,k3,v1o,wo,wc,zo,zc,hc',kS,JG,JH,Jr,rsC,rsV,Js]
     rw [if_neg fun h=>he h.2] at hg
     exact ⟨by rw [hg],.of (e1.trans e2)⟩
   ·simp -implicitDefEqProofs only [bU,reduceIte,Jc,reduceCtorEq,Ja,Jb,bT,Jd,Je,Jf,bV,Ja,Jb,Jg,Qs,J6,q1,q3,q10,q11,q12,hL0,h1,h6,k2,k3,v1o,wo,wc,zo,zc,hc,JG,JH,Jr,rsC,rsV,Js]
    rw [if_neg fun h=>hc h.1] at hg
    exact ⟨by rw [hg],.of (e1.trans e2)⟩
end
theorem Jsb {H:AH} {zs:AV} {ps:List (Qa×AV)} (h:Sl H 4 zs (ps.map fun p=>sV p.1 p.2)) {i:Nat} (hi:i < ps.length):slZ H 4 zs∧iaC (i:Int) zs∧faC (iaV i zs)∧(∀ (o:Nat) (L:List Lv) (g:Nat),o < 4→ldC ⟨L,g,H⟩ none (faV o (iaV i zs)))∧(∀ (L:List Lv) (g:Nat),ldX ⟨L,g,H⟩ none (faV 0 (iaV i zs))= .s ps[i].1.o)∧
  (∀ (L:List Lv) (g:Nat),ldX ⟨L,g,H⟩ none (faV 1 (iaV i zs))= .i .i64 ps[i].1.t):=by
 obtain ⟨h1,h2,h3,h4⟩:=h.ia (j:=i) (by omega) (by rw [List.length_map];omega)
 have hg:(ps.map fun p=>sV p.1 p.2).getD i .u=sV ps[i].1 ps[i].2:=by simp [List.getD,hi]
 rw [Jj] at h3 h4
 rw [hg] at h4
 have c:=fun (o:Nat) (ho:o < 4) (L:List Lv) (g:Nat)=>h4 L g o none (by simp only [JF,JaN];exact ho)
 exact ⟨h1,h2,h3,fun o L g ho=>(c o ho L g).1,fun L g=>(c 0 (by decide) L g).2,fun L g=>(c 1 (by decide) L g).2⟩
section
variable {C:Tab} {H:AH} {id:Nat}
theorem Jqh {o:List UInt8} {t ttl:Int} {a:AV} {l:List (List UInt8)} {i j:Nat} (hC:JkX C WT) (hFo:JR H) (ho:JbE H id [.s o,.i .i64 t,.i .i64 ttl,a]) (h:Sl H 1 a (l.map AV.s)) (hi:i < l.length) (hj:j < l.length) (hl: ∀ x,x∈l→x.length≤1099511627776):
  Jt C Q5 [.i .i64 i,.i .i64 j,.pv id 0] H fun v H'=>v= .b (decide (Jqz t l[i] l[j] < 0))∧QA H H':=by
 unfold Jt Q5
 have hk:=JA H
 have hg: ∀ k (hk:k < l.length),slZ H 1 a∧iaC (k:Int) a∧(∀ (L:List Lv) (g:Nat),ldC ⟨L,g,H⟩ none (iaV k a))∧ ∀ (L:List Lv) (g:Nat),ldX ⟨L,g,H⟩ none (iaV k a)= .s l[k]:=fun k hk=>by
  have hgk:(l.map AV.s).getD k .u= .s l[k]:=by simp [List.getD,hk]
  have ia:=fun (L:List Lv) (g:Nat)=>h.ia1 (j:=k) (v:= .s l[k]) (by omega) (by rw [List.length_map];omega) (by rw [Jj,hgk];rfl) L g
  rw [Jj] at ia
  exact ⟨(ia [] 0).1,(ia [] 0).2.1,fun L g=>(ia L g).2.2.1,fun L g=>(ia L g).2.2.2⟩
 obtain ⟨a1,a2,a3,a4⟩:=hg i hi
 obtain ⟨b1,b2,b3,b4⟩:=hg j hj
 obtain ⟨t1,t2⟩:=ho.ld (off:=1) (by simp)
 obtain ⟨d1,d2⟩:=ho.ld (off:=3) (by simp)
 simp only [List.getD_cons_succ,List.getD_cons_zero] at t2 d2
 have k1:=hC t l[i] l[j] H hFo (hl _ (List.getElem_mem hi)) (hl _ (List.getElem_mem hj))
 have hpf: ∀ {n:Nat},faC (.pv n 0):=trivial
 have f1: ∀ {n:Nat},faV 1 (.pv n 0)= .pv n 1:=rfl
 have f3: ∀ {n:Nat},faV 3 (.pv n 0)= .pv n 3:=rfl
 simp -implicitDefEqProofs only [bU,reduceIte,Jc,reduceCtorEq,Ja,Jb,bT,Jd,Je,Jf,bV,Ja,Jb,Jg,Qs,J6,hpf,f1,f3,t1,t2,d1,d2,a1,a2,a3,a4,b1,b2,b3,b4,Jj,k1,Jr,rsC,rsV,Js]
 exact hk
theorem JoU {apex:List UInt8} {a:AV} {ps:List (Qa×AV)} {i j:Nat} (hC:Jfx C Ww) (ho:JbE H id [.s apex,a]) (h:Sl H 4 a (ps.map fun p=>sV p.1 p.2)) (hi:i < ps.length) (hj:j < ps.length) (hl: ∀ p,p∈ps→ ∃ x,JB p.1.o=some x):
  Jt C Q4 [.i .i64 i,.i .i64 j,.pv id 0] H fun v H'=>v= .b (Jdk ps[i].1 ps[j].1)∧QA H H':=by
 unfold Jt Q4
 have hk:=JA H
 obtain ⟨a1,a2,a3,a4,a5,a6⟩:=Jsb h hi
 obtain ⟨b1,b2,b3,b4,b5,b6⟩:=Jsb h hj
 obtain ⟨d1,d2⟩:=ho.ld (off:=1) (by simp)
 simp only [List.getD_cons_succ,List.getD_cons_zero] at d2
 have n1:=hl _ (List.getElem_mem hi)
 have n2:=hl _ (List.getElem_mem hj)
 rw [Jnd n1 n2]
 obtain ⟨x,hx⟩:=n1
 obtain ⟨y,hy⟩:=n2
 have k1:=hC ps[i].1.o ps[j].1.o H (by have:=(Q9 hx).2.2;omega) (by have:=(Q9 hy).2.2;omega)
 have hpf: ∀ {n:Nat},faC (.pv n 0):=trivial
 have f1: ∀ {n:Nat},faV 1 (.pv n 0)= .pv n 1:=rfl
 by_cases h1:Jhn ps[i].1.o ps[j].1.o < 0
 ·have h1':(Jhn ps[i].1.o ps[j].1.o < 0)=True:=eq_true h1
  simp -implicitDefEqProofs only [bU,reduceIte,Jc,reduceCtorEq,Ja,Jb,bT,Jd,Je,Jf,bV,Ja,Jb,Jg,Qs,J6,hpf,f1,d1,d2,a1,a2,a3,a4,a5,a6,b1,b2,b3,b4,b5,b6,Jj,k1,h1',Jr,rsC,rsV,Js]
  exact ⟨by simp,hk⟩
 ·by_cases h2:Jhn ps[i].1.o ps[j].1.o=0
  ·rw [h2] at k1 ⊢
   simp -implicitDefEqProofs only [bU,reduceIte,Jc,reduceCtorEq,Ja,Jb,bT,Jd,Je,Jf,bV,Ja,Jb,Jg,Qs,J6,hpf,f1,d1,d2,a1,a2,a3,a4,a5,a6,b1,b2,b3,b4,b5,b6,Jj,k1,Jr,rsC,rsV,Js,Ji]
   exact ⟨by simp,hk⟩
  ·simp -implicitDefEqProofs only [bU,reduceIte,Jc,reduceCtorEq,Ja,Jb,bT,Jd,Je,Jf,bV,Ja,Jb,Jg,Qs,J6,hpf,f1,d1,d2,a1,a2,a3,a4,a5,a6,b1,b2,b3,b4,b5,b6,Jj,k1,h1,h2,Jr,rsC,rsV,Js]
   exact ⟨by simp,hk⟩
end
def QU:Fn:=⟨2,[],
  .q (.o [.lbx 2 (.t 0)])
  (.q (.o [.mv 4 (.c (.i .i64 20))])
  (.q (.o [.mv 8 (.t 4),
   .mv 5 (.c (.i .i64 0)),
   .mv 6 (.t 8)])
  (.q (.b 0 (.l [1,2,4,5,6] (.q (.q (.o [.mv 9 (.t 6),
   .mv 10 (.t 1),
   .bn 11 .leq (.t 9) (.t 10)])
  (.i (.t 11) (.k)
  (.x 0)))
  (.b 1 (.q (.o [.ld 12 (.t 2) (some 2),
   .mv 13 (.t 5),
   .mv 14 (.t 6),
   .cl (some 15) 272 [(.t 12),(.t 13),(.t 14)]])
  (.q (.o [.mv 16 (.t 6),
   .mv 5 (.t 16)])
  (.o [.mv 17 (.t 6),
   .mv 18 (.t 4),
   .bn 19 .add (.t 17) (.t 18),
   .mv 6 (.t 19)])))))))
  (.q (.o [.ld 20 (.t 2) (some 2),
   .mv 21 (.t 5),
   .mv 22 (.t 1),
   .cl (some 23) 272 [(.t 20),(.t 21),(.t 22)]])
  (.b 2 (.l [1,2,4] (.q (.q (.o [.mv 24 (.t 4),
   .mv 25 (.t 1),
   .bn 26 .lss (.t 24) (.t 25)])
  (.i (.t 26) (.k)
  (.x 2)))
  (.b 3 (.q (.o [.mv 27 (.t 4),
   .bn 28 .mul (.c (.i .i64 2)) (.t 27),
   .mv 5 (.c (.i .i64 0)),
   .mv 6 (.t 28)])
  (.q (.b 4 (.l [1,2,4,5,6] (.q (.q (.o [.mv 29 (.t 6),
   .mv 30 (.t 1),
   .bn 31 .leq (.t 29) (.t 30)])
  (.i (.t 31) (.k)
  (.x 4)))
  (.b 5 (.q (.o [.ld 32 (.t 2) (some 2),
   .mv 33 (.t 5),
   .mv 34 (.t 5),
   .mv 35 (.t 4),
   .bn 36 .add (.t 34) (.t 35),
   .mv 37 (.t 6),
   .cl (some 38) 289 [(.t 32),(.t 33),(.t 36),(.t 37)]])
  (.q (.o [.mv 39 (.t 6),
   .mv 5 (.t 39)])
  (.o [.mv 40 (.t 6),
   .mv 41 (.t 4),
   .bn 42 .mul (.c (.i .i64 2)) (.t 41),
   .bn 43 .add (.t 40) (.t 42),
   .mv 6 (.t 43)])))))))
  (.q (.q (.o [.mv 44 (.t 5),
   .mv 45 (.t 4),
   .bn 46 .add (.t 44) (.t 45),
   .mv 7 (.t 46)])
  (.q (.o [.mv 47 (.t 7),
   .mv 48 (.t 1),
   .bn 49 .lss (.t 47) (.t 48)])
  (.i (.t 49) (.o [.ld 50 (.t 2) (some 2),
   .mv 51 (.t 5),
   .mv 52 (.t 7),
   .mv 53 (.t 1),
   .cl (some 54) 289 [(.t 50),(.t 51),(.t 52),(.t 53)]])
  (.k))))
  (.o [.mv 55 (.t 4),
   .bn 56 .mul (.t 55) (.c (.i .i64 2)),
   .mv 4 (.t 56)]))))))))))))⟩
abbrev WY:Nat:=220
theorem Jcr:Qi Go.Proofs.Tryz.prog QU 220=true:=by kernel_rfl
def JY:Fn:=⟨3,[],
  .q (.o [.lbx 3 (.t 0)])
  (.q (.o [.mv 8 (.t 1),
   .bn 9 .add (.t 8) (.c (.i .i64 1)),
   .mv 6 (.t 9)])
  (.b 0 (.l [1,2,3,6] (.q (.q (.o [.mv 10 (.t 6),
   .mv 11 (.t 2),
   .bn 12 .lss (.t 10) (.t 11)])
  (.i (.t 12) (.k)
  (.x 0)))
  (.q (.b 1 (.q (.o [.mv 15 (.t 6),
   .mv 7 (.t 15)])
  (.b 2 (.l [1,2,3,6,7] (.q (.q (.o [.mv 16 (.t 7),
   .mv 17 (.t 1),
   .bn 18 .gtr (.t 16) (.t 17),
   .mv 19 (.t 18),
   .gd 19 true (.fa 20 (.t 3) 0),
   .gd 19 true (.ld 21 (.t 20) none),
   .gd 19 true (.mv 22 (.t 7)),
   .gd 19 true (.mv 23 (.t 7)),
   .gd 19 true (.bn 24 .sub (.t 23) (.c (.i .i64 1))),
   .gd 19 true (.cv (some 25) (.t 21) [(.t 22),(.t 24)]),
   .pk 26 (.t 19) (.t 25) (.c (.b false))])
  (.i (.t 26) (.k)
  (.x 2)))
  (.q (.b 3 (.o [.fa 29 (.t 3) 1,
   .ld 30 (.t 29) none,
   .mv 31 (.t 7),
   .mv 32 (.t 7),
   .bn 33 .sub (.t 32) (.c (.i .i64 1)),
   .cv (some 34) (.t 30) [(.t 31),(.t 33)]]))
  (.o [.mv 27 (.t 7),
   .bn 28 .sub (.t 27) (.c (.i .i64 1)),
   .mv 7 (.t 28)])))))))
  (.o [.mv 13 (.t 6),
   .bn 14 .add (.t 13) (.c (.i .i64 1)),
   .mv 6 (.t 14)]))))))⟩
abbrev JX:Nat:=272
theorem Jav:Qi Go.Proofs.Tryz.prog JY 272=true:=by kernel_rfl
def Jm:Fn:=⟨4,[],
  .q (.o [.lbx 4 (.t 0)])
  (.q (.q (.o [.mv 23 (.t 2),
   .mv 24 (.t 1),
   .bn 25 .sub (.t 23) (.t 24),
   .bn 26 .eql (.t 25) (.c (.i .i64 1))])
  (.i (.t 26) (.q (.o [.mv 27 (.t 2),
   .mv 8 (.t 27)])
  (.q (.o [.mv 28 (.t 3),
   .mv 9 (.t 28)])
  (.q (.b 0 (.l [1,4,8,9] (.q (.q (.o [.mv 29 (.t 8),
   .mv 30 (.t 9),
   .bn 31 .lss (.t 29) (.t 30)])
  (.i (.t 31) (.k)
  (.x 0)))
  (.b 1 (.q (.o [.mv 32 (.t 8),
   .mv 33 (.t 9),
   .bn 34 .add (.t 32) (.t 33),
   .ci 35 .u64 (.t 34),
   .bn 36 .shr (.t 35) (.c (.i .u64 1)),
   .ci 37 .i64 (.t 36),
   .mv 10 (.t 37)])
  (.q (.o [.fa 38 (.t 4) 0,
   .ld 39 (.t 38) none,
   .mv 40 (.t 10),
   .mv 41 (.t 1),
   .cv (some 42) (.t 39) [(.t 40),(.t 41)]])
  (.i (.t 42) (.o [.mv 43 (.t 10),
   .bn 44 .add (.t 43) (.c (.i .i64 1)),
   .mv 8 (.t 44)])
  (.o [.mv 45 (.t 10),
   .mv 9 (.t 45)]))))))))
  (.q (.q (.o [.mv 46 (.t 1),
   .mv 11 (.t 46)])
  (.b 2 (.l [4,8,11] (.q (.q (.o [.mv 47 (.t 11),
   .mv 48 (.t 8),
   .bn 49 .sub (.t 48) (.c (.i .i64 1)),
   .bn 50 .lss (.t 47) (.t 49)])
  (.i (.t 50) (.k)
  (.x 2)))
  (.q (.b 3 (.o [.fa 53 (.t 4) 1,
   .ld 54 (.t 53) none,
   .mv 55 (.t 11),
   .mv 56 (.t 11),
   .bn 57 .add (.t 56) (.c (.i .i64 1)),
   .cv (some 58) (.t 54) [(.t 55),(.t 57)]]))
  (.o [.mv 51 (.t 11),
   .bn 52 .add (.t 51) (.c (.i .i64 1)),
   .mv 11 (.t 52)]))))))
  (.r)))))
  (.k)))
  (.q (.q (.o [.mv 59 (.t 3),
   .mv 60 (.t 2),
   .bn 61 .sub (.t 59) (.t 60),
   .bn 62 .eql (.t 61) (.c (.i .i64 1))])
  (.i (.t 62) (.q (.o [.mv 63 (.t 1),
   .mv 12 (.t 63)])
  (.q (.o [.mv 64 (.t 2),
   .mv 13 (.t 64)])
  (.q (.b 4 (.l [2,4,12,13] (.q (.q (.o [.mv 65 (.t 12),
   .mv 66 (.t 13),
   .bn 67 .lss (.t 65) (.t 66)])
  (.i (.t 67) (.k)
  (.x 4)))
  (.b 5 (.q (.o [.mv 68 (.t 12),
   .mv 69 (.t 13),
   .bn 70 .add (.t 68) (.t 69),
   .ci 71 .u64 (.t 70),
   .bn 72 .shr (.t 71) (.c (.i .u64 1)),
   .ci 73 .i64 (.t 72),
   .mv 14 (.t 73)])
  (.q (.o [.fa 74 (.t 4) 0,
   .ld 75 (.t 74) none,
   .mv 76 (.t 2),
   .mv 77 (.t 14),
   .cv (some 78) (.t 75) [(.t 76),(.t 77)],
   .un 79 .not (.t 78)])
  (.i (.t 79) (.o [.mv 80 (.t 14),
   .bn 81 .add (.t 80) (.c (.i .i64 1)),
   .mv 12 (.t 81)])
  (.o [.mv 82 (.t 14),
   .mv 13 (.t 82)]))))))))
  (.q (.q (.o [.mv 83 (.t 2),
   .mv 15 (.t 83)])
  (.b 6 (.l [4,12,15] (.q (.q (.o [.mv 84 (.t 15),
   .mv 85 (.t 12),
   .bn 86 .gtr (.t 84) (.t 85)])
  (.i (.t 86) (.k)
  (.x 6)))
  (.q (.b 7 (.o [.fa 89 (.t 4) 1,
   .ld 90 (.t 89) none,
   .mv 91 (.t 15),
   .mv 92 (.t 15),
   .bn 93 .sub (.t 92) (.c (.i .i64 1)),
   .cv (some 94) (.t 90) [(.t 91),(.t 93)]]))
  (.o [.mv 87 (.t 15),
   .bn 88 .sub (.t 87) (.c (.i .i64 1)),
   .mv 15 (.t 88)]))))))
  (.r)))))
  (.k)))
  (.q (.o [.mv 95 (.t 1),
   .mv 96 (.t 3),
   .bn 97 .add (.t 95) (.t 96),
   .ci 98 .u64 (.t 97),
   .bn 99 .shr (.t 98) (.c (.i .u64 1)),
   .ci 100 .i64 (.t 99),
   .mv 16 (.t 100)])
  (.q (.o [.mv 101 (.t 16),
   .mv 102 (.t 2),
   .bn 103 .add (.t 101) (.t 102),
   .mv 17 (.t 103)])
  (.q (.o [.mv 18 (.c (.i .i64 0)),
   .mv 19 (.c (.i .i64 0))])
  (.q (.q (.o [.mv 104 (.t 2),
   .mv 105 (.t 16),
   .bn 106 .gtr (.t 104) (.t 105)])
  (.i (.t 106) (.q (.o [.mv 107 (.t 17),
   .mv 108 (.t 3),
   .bn 109 .sub (.t 107) (.t 108),
   .mv 18 (.t 109)])
  (.o [.mv 110 (.t 16),
   .mv 19 (.t 110)]))
  (.q (.o [.mv 111 (.t 1),
   .mv 18 (.t 111)])
  (.o [.mv 112 (.t 2),
   .mv 19 (.t 112)]))))
  (.q (.o [.mv 113 (.t 17),
   .bn 114 .sub (.t 113) (.c (.i .i64 1)),
   .mv 20 (.t 114)])
  (.q (.b 8 (.l [1,2,3,4,16,17,18,19,20] (.q (.q (.o [.mv 115 (.t 18),
   .mv 116 (.t 19),
   .bn 117 .lss (.t 115) (.t 116)])
  (.i (.t 117) (.k)
  (.x 8)))
  (.b 9 (.q (.o [.mv 118 (.t 18),
   .mv 119 (.t 19),
   .bn 120 .add (.t 118) (.t 119),
   .ci 121 .u64 (.t 120),
   .bn 122 .shr (.t 121) (.c (.i .u64 1)),
   .ci 123 .i64 (.t 122),
   .mv 21 (.t 123)])
  (.q (.o [.fa 124 (.t 4) 0,
   .ld 125 (.t 124) none,
   .mv 126 (.t 20),
   .mv 127 (.t 21),
   .bn 128 .sub (.t 126) (.t 127),
   .mv 129 (.t 21),
   .cv (some 130) (.t 125) [(.t 128),(.t 129)],
   .un 131 .not (.t 130)])
  (.i (.t 131) (.o [.mv 132 (.t 21),
   .bn 133 .add (.t 132) (.c (.i .i64 1)),
   .mv 18 (.t 133)])
  (.o [.mv 134 (.t 21),
   .mv 19 (.t 134)]))))))))
  (.q (.o [.mv 135 (.t 17),
   .mv 136 (.t 18),
   .bn 137 .sub (.t 135) (.t 136),
   .mv 22 (.t 137)])
  (.q (.q (.o [.mv 138 (.t 18),
   .mv 139 (.t 2),
   .bn 140 .lss (.t 138) (.t 139),
   .mv 141 (.t 140),
   .gd 141 true (.mv 142 (.t 2)),
   .gd 141 true (.mv 143 (.t 22)),
   .gd 141 true (.bn 144 .lss (.t 142) (.t 143)),
   .pk 145 (.t 141) (.t 144) (.c (.b false))])
  (.i (.t 145) (.o [.ld 146 (.t 4) (some 2),
   .mv 147 (.t 18),
   .mv 148 (.t 2),
   .mv 149 (.t 22),
   .cl (some 150) 317 [(.t 146),(.t 147),(.t 148),(.t 149)]])
  (.k)))
  (.q (.q (.o [.mv 151 (.t 1),
   .mv 152 (.t 18),
   .bn 153 .lss (.t 151) (.t 152),
   .mv 154 (.t 153),
   .gd 154 true (.mv 155 (.t 18)),
   .gd 154 true (.mv 156 (.t 16)),
   .gd 154 true (.bn 157 .lss (.t 155) (.t 156)),
   .pk 158 (.t 154) (.t 157) (.c (.b false))])
  (.i (.t 158) (.o [.ld 159 (.t 4) (some 2),
   .mv 160 (.t 1),
   .mv 161 (.t 18),
   .mv 162 (.t 16),
   .cl (some 163) 289 [(.t 159),(.t 160),(.t 161),(.t 162)]])
  (.k)))
  (.q (.o [.mv 164 (.t 16),
   .mv 165 (.t 22),
   .bn 166 .lss (.t 164) (.t 165),
   .mv 167 (.t 166),
   .gd 167 true (.mv 168 (.t 22)),
   .gd 167 true (.mv 169 (.t 3)),
   .gd 167 true (.bn 170 .lss (.t 168) (.t 169)),
   .pk 171 (.t 167) (.t 170) (.c (.b false))])
  (.i (.t 171) (.o [.ld 172 (.t 4) (some 2),
   .mv 173 (.t 16),
   .mv 174 (.t 22),
   .mv 175 (.t 3),
   .cl (some 176) 289 [(.t 172),(.t 173),(.t 174),(.t 175)]])
  (.k))))))))))))))⟩
abbrev JI:Nat:=289
theorem JbA:Qi Go.Proofs.Tryz.prog Jm 289=true:=by kernel_rfl
def QT:Fn:=⟨4,[],
  .q (.o [.lbx 4 (.t 0)])
  (.q (.o [.mv 10 (.t 2),
   .mv 11 (.t 1),
   .bn 12 .sub (.t 10) (.t 11),
   .mv 8 (.t 12)])
  (.q (.o [.mv 13 (.t 3),
   .mv 14 (.t 2),
   .bn 15 .sub (.t 13) (.t 14),
   .mv 9 (.t 15)])
  (.q (.b 0 (.l [2,4,8,9] (.q (.q (.o [.mv 16 (.t 8),
   .mv 17 (.t 9),
   .bn 18 .neq (.t 16) (.t 17)])
  (.i (.t 18) (.k)
  (.x 0)))
  (.b 1 (.q (.o [.mv 19 (.t 8),
   .mv 20 (.t 9),
   .bn 21 .gtr (.t 19) (.t 20)])
  (.i (.t 21) (.q (.o [.ld 22 (.t 4) (some 2),
   .mv 23 (.t 2),
   .mv 24 (.t 8),
   .bn 25 .sub (.t 23) (.t 24),
   .mv 26 (.t 2),
   .mv 27 (.t 9),
   .cl (some 28) 326 [(.t 22),(.t 25),(.t 26),(.t 27)]])
  (.o [.mv 29 (.t 8),
   .mv 30 (.t 9),
   .bn 31 .sub (.t 29) (.t 30),
   .mv 8 (.t 31)]))
  (.q (.o [.ld 32 (.t 4) (some 2),
   .mv 33 (.t 2),
   .mv 34 (.t 8),
   .bn 35 .sub (.t 33) (.t 34),
   .mv 36 (.t 2),
   .mv 37 (.t 9),
   .bn 38 .add (.t 36) (.t 37),
   .mv 39 (.t 8),
   .bn 40 .sub (.t 38) (.t 39),
   .mv 41 (.t 8),
   .cl (some 42) 326 [(.t 32),(.t 35),(.t 40),(.t 41)]])
  (.o [.mv 43 (.t 9),
   .mv 44 (.t 8),
   .bn 45 .sub (.t 43) (.t 44),
   .mv 9 (.t 45)]))))))))
  (.o [.ld 46 (.t 4) (some 2),
   .mv 47 (.t 2),
   .mv 48 (.t 8),
   .bn 49 .sub (.t 47) (.t 48),
   .mv 50 (.t 2),
   .mv 51 (.t 8),
   .cl (some 52) 326 [(.t 46),(.t 49),(.t 50),(.t 51)]]))))⟩
abbrev JS:Nat:=317
theorem Jcl:Qi Go.Proofs.Tryz.prog QT 317=true:=by kernel_rfl
def Qo:Fn:=⟨4,[],
  .q (.o [.lbx 4 (.t 0)])
  (.q (.o [.mv 8 (.c (.i .i64 0))])
  (.b 0 (.l [1,2,3,4,8] (.q (.q (.o [.mv 9 (.t 8),
   .mv 10 (.t 3),
   .bn 11 .lss (.t 9) (.t 10)])
  (.i (.t 11) (.k)
  (.x 0)))
  (.q (.b 1 (.o [.fa 14 (.t 4) 1,
   .ld 15 (.t 14) none,
   .mv 16 (.t 1),
   .mv 17 (.t 8),
   .bn 18 .add (.t 16) (.t 17),
   .mv 19 (.t 2),
   .mv 20 (.t 8),
   .bn 21 .add (.t 19) (.t 20),
   .cv (some 22) (.t 15) [(.t 18),(.t 21)]]))
  (.o [.mv 12 (.t 8),
   .bn 13 .add (.t 12) (.c (.i .i64 1)),
   .mv 8 (.t 13)]))))))⟩
abbrev QQ:Nat:=326
theorem Jbh:Qi Go.Proofs.Tryz.prog Qo 326=true:=by kernel_rfl
section
variable {α:Type}
def swp [Inhabited α] (l:List α) (i j:Nat):List α:=(l.set i (l.getD j default)).set j (l.getD i default)
theorem JkZ [Inhabited α] (A:List α) (x:α) (B:List α):(A++x::B).getD A.length default=x:=by simp [List.getD]
theorem JaS [Inhabited α] {l A B:List α} {x:α} {i:Nat} (h:l=A++x::B) (hi:A.length=i):l.getD i default=x:=by subst h hi;exact JkZ A x B
theorem Job (A:List α) (x y:α) (B:List α):(A++x::B).set A.length y=A++y::B:=by simp [List.set_append]
theorem JgS {l A B:List α} {x y:α} {i:Nat} (h:l=A++x::B) (hi:A.length=i):l.set i y=A++y::B:=by subst h hi;exact Job A x y B
theorem JoB [Inhabited α] {l A B D:List α} {x y:α} {i j:Nat} (h:l=A++x::(B++y::D)) (hi:A.length=i) (hj:A.length+1+B.length=j):swp l i j=A++y::(B++x::D):=by
 have h2:l=(A++x::B)++y::D:=by rw [h];simp
 unfold swp
 rw [JaS (i:=j) h2 (by simp;omega),JaS (i:=i) h hi,JgS h hi]
 exact (JgS (l:=A++y::(B++y::D)) (A:=A++y::B) (x:=y) (B:=D) (by simp) (by simp;omega)).trans (by simp)
theorem Jkw [Inhabited α] {l A B D:List α} {x y:α} {i j:Nat} (h:l=A++x::(B++y::D)) (hi:A.length=i) (hj:A.length+1+B.length=j):swp l j i=A++y::(B++x::D):=by
 have h2:l=(A++x::B)++y::D:=by rw [h];simp
 unfold swp
 rw [JaS (i:=j) h2 (by simp;omega),JaS (i:=i) h hi,JgS (i:=j) h2 (by simp;omega)]
 exact JgS (l:=(A++x::B)++x::D) (A:=A) (x:=x) (B:=B++x::D) (by simp) hi
def exK (P X M Y Q:List α) (k:Nat):List α:=P++(Y.take k++(X.drop k++(M++(X.take k++(Y.drop k++Q)))))
theorem JoY {P X M Y Q:List α} (h:X.length=Y.length) (k:Nat):(exK P X M Y Q k).length=(P++(X++(M++(Y++Q)))).length:=by
 simp only [exK,List.length_append,List.length_take,List.length_drop];omega
theorem JnA (P X M Y Q:List α):exK P X M Y Q 0=P++(X++(M++(Y++Q))):=by simp [exK]
theorem Jqm {P X M Y Q:List α} {n:Nat} (hx:X.length=n) (hy:Y.length=n):exK P X M Y Q n=P++(Y++(M++(X++Q))):=by
 simp [exK,List.take_of_length_le (Nat.le_of_eq hx),List.take_of_length_le (Nat.le_of_eq hy),List.drop_of_length_le (Nat.le_of_eq hx),List.drop_of_length_le (Nat.le_of_eq hy)]
theorem Jnc [Inhabited α] {P X M Y Q:List α} {k a b:Nat} (h:X.length=Y.length) (hk:k < X.length) (ha:P.length=a) (hb:P.length+X.length+M.length=b):
  swp (exK P X M Y Q k) (a+k) (b+k)=exK P X M Y Q (k+1):=by
 have hx:X.drop k=X[k]::X.drop (k+1):=List.drop_eq_getElem_cons hk
 have hy:Y.drop k=Y[k]::Y.drop (k+1):=List.drop_eq_getElem_cons (by omega)
 have h1:exK P X M Y Q k=(P++Y.take k)++X[k]::((X.drop (k+1)++(M++X.take k))++Y[k]::(Y.drop (k+1)++Q)):=by
  simp only [exK];rw [hx,hy];simp only [List.append_assoc,List.cons_append]
 rw [JoB h1 (by simp;omega) (by simp;omega)]
 simp only [exK]
 rw [List.take_succ_eq_append_getElem hk,List.take_succ_eq_append_getElem (l:=Y) (by omega)]
 simp only [List.append_assoc,List.cons_append,List.nil_append]
def Jvq (lt:α→α→Bool) (l:List α) (a b:Nat) (l':List α):Prop:= ∃ M,l'=l.take a++(M++l.drop b)∧M.Perm ((l.drop a).take (b-a))∧Srt lt M
variable {lt:α→α→Bool}
theorem JnC (hO:Jb0 lt) {S1 S2:List α} {x:α} (h:Srt lt (S1++S2)) (h2: ∀ s,s∈S2→lt x s=true) (h1:S1=[]∨ ∃ A y,S1=A++[y]∧lt x y=false):Srt lt (S1++x::S2):=by
 obtain ⟨s1,s2,s12⟩:=Srt.app.1 h
 refine Srt.app.2 ⟨s1,List.pairwise_cons.2 ⟨fun s hs=>hO.asy _ _ (h2 s hs),s2⟩,fun s hs y hy=> ?_⟩
 rcases List.mem_cons.1 hy with rfl | hy
 ·rcases h1 with rfl | ⟨A,z,rfl,hz⟩
  ·cases hs
  ·rcases List.mem_append.1 hs with hs | hs
   ·exact hO.tr _ _ _ ((Srt.app.1 s1).2.2 s hs z (by simp)) hz
   ·rw [List.mem_singleton.1 hs];exact hz
 ·exact s12 s hs y hy
end
end Go.Vm
