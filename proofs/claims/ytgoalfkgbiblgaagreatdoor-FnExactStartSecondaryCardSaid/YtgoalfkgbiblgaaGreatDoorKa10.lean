import Derived.Test.YtgoalfkgbiblgaaGreatDoorKa4
import Derived.Test.YtgoalfkgbiblgaaGreatDoorKa9
/- The program's zone out of records: one end alone; records alone. -/
set_option linter.unusedVariables false
set_option linter.unusedSimpArgs false
set_option maxRecDepth 100000
open Nat renaming reduceAdd→Ja,reduceLT→Jb,reduceEqDiff→Jc,reduceSub→Je,reduceLeDiff→Jg
open Int renaming reduceToNat→Jd,reduceLE→Jf,reduceEq→Jh,reduceLT→Ji
namespace Go.Vm
section
variable {C:Tab} {rs:List Rs} {G:AV→AH→Prop}
def One (C:Tab) (rs:List Rs) (G:AV→AH→Prop) (s:S) (e:Env) (M:Mem):Prop:= ∃ r:AV×AH,G r.1 r.2∧exec C s e M (Jr rs fun v H'=>v=r.1∧H'=r.2)
def Jum (C:Tab) (rs:List Rs) (G:AV→AH→Prop) (b:S):Jaa:=fun x e M=>match x with
 | .nx=>One C rs G b e M
 | .ex id=>Jr rs G (.ex id) e M
 | .rt=>Jr rs G .rt e M
theorem XI {b:S} {e:Env} {M:Mem}:Jum C rs G b .nx e M=One C rs G b e M:=rfl
theorem Jay {b:S} {e:Env} {M:Mem}:Jum C rs G b .rt e M=Jr rs G .rt e M:=rfl
theorem One.q {a b:S} {e:Env} {M:Mem} (ha:JhS a=true) (h:exec C a e M (Jum C rs G b)):One C rs G (.q a b) e M:=by
 obtain ⟨x,e',M',h1,h2⟩:=JgY a e M ha h
 cases x with
 | nx=>
  obtain ⟨r,r1,r2⟩:=h1
  refine ⟨r,r1,J4 a (fun x e2 M2 ⟨a1,a2,a3⟩=> ?_) e M h2⟩
  subst a1 a2 a3
  exact r2
 | ex id=>exact h1.1.elim
 | rt=>
  obtain ⟨h3,h4,h5⟩:=h1
  refine ⟨(Js (rsV e' M' rs),M'.h),h5,J4 a (fun x e2 M2 ⟨a1,a2,a3⟩=> ?_) e M h2⟩
  subst a1 a2 a3
  exact ⟨trivial,h4,rfl,rfl⟩
theorem One.nd {a b:S} {e e1:Env} {M M1:Mem} (h:exec C a e M fun x e' M'=>x= .nx∧e'=e1∧M'=M1) (hb:One C rs G b e1 M1):One C rs G (.q a b) e M:=by
 obtain ⟨r,r1,r2⟩:=hb
 refine ⟨r,r1,J4 a (fun x e2 M2 ⟨a1,a2,a3⟩=> ?_) e M h⟩
 subst a1 a2 a3
 exact r2
theorem One.ndr {a b:S} {e:Env} {M:Mem} {v0:AV} {H0:AH} (h:exec C a e M fun x e' M'=>x= .rt∧rsC e' M' rs∧Js (rsV e' M' rs)=v0∧M'.h=H0) (hg:G v0 H0):One C rs G (.q a b) e M:=by
 refine ⟨(v0,H0),hg,J4 a (fun x e2 M2 ⟨a1,a2,a3,a4⟩=> ?_) e M h⟩
 subst a1
 exact ⟨trivial,a2,a3,a4⟩
theorem One.det {s:S} {e:Env} {M:Mem} (hs:JhS s=true) (h:exec C s e M (Jr rs G)):One C rs G s e M:=by
 obtain ⟨x,e',M',⟨h3,h4,h5⟩,h2⟩:=JgY s e M hs h
 refine ⟨(Js (rsV e' M' rs),M'.h),h5,J4 s (fun x e2 M2 ⟨a1,a2,a3⟩=> ?_) e M h2⟩
 subst a1 a2 a3
 exact ⟨h3,h4,rfl,rfl⟩
theorem One.entry {F:Fn} {vs:List AV} {H:AH} (h:One C F.rs G F.s (args 0 vs) ⟨[],0,H⟩): ∃ r:AV×AH,G r.1 r.2∧Jt C F vs H fun v H'=>v=r.1∧H'=r.2:=h
end
section
variable {C:Tab} {l:List Rr} {a:AV} {apex:List UInt8} {H:AH} {e:Env} {L0:List Lv} {g:Nat} {κ:Jaa}
set_option maxHeartbeats 4000000 in
theorem Jux (hs:Sx H eR a l) (hl:l.length≤500) (hFo:JR H) (hN:Jb2 C XM) (hI:Jch C XP) (hM:JeC C YK) (hK:Jc9 C Qg) (hU:JbI C WP) (hsz:szL l) (ha:apex.length≤1099511627776)
  (q0:look e 0=a) (q1:look e 1= .s apex) (q4:look e 4= .la 4 0 0 0) (hL0:JJ [0,1,4,62,63,64] L0=[⟨4,0,0,[z0V]⟩])
  (hit: ∀ i e' L' g',JL l.length (fun i=>decide (Jai (l.getD i rrZ) apex≠0))=some i→Qx L' 4 0 0=some [z0V]→look e' 4= .la 4 0 0 0→look e' 5= .i .i64 (Jai (l.getD i rrZ) apex)→look e' 6= .i .i64 (i:Nat)→κ .rt e' ⟨L',g',H⟩)
  (miss:(∀ i,i < l.length→Jai (l.getD i rrZ) apex=0)→ ∀ e' g',look e' 0=a→look e' 1= .s apex→look e' 4= .la 4 0 0 0→κ .nx e' ⟨[⟨4,0,0,[z0V]⟩],g',H⟩):
  exec C (sAt Jk.s [1,1,1,0]) e ⟨L0,g,H⟩ κ:=by
 simp only [Jk,sAt]
 obtain ⟨l1,l2⟩:=hs.len
 simp -implicitDefEqProofs only [bU,reduceIte,Jc,reduceCtorEq,Ja,Jb,bT,Jd,Je,Jf,q0,l1,l2]
 refine Jl (fun m e M=> ∃ (i:Nat) (L0:List Lv) (g:Nat),i≤l.length∧m=l.length-i∧look e 0=a∧look e 1= .s apex∧look e 4= .la 4 0 0 0∧look e 62=a∧look e 63= .i .i64 l.length∧look e 64= .i .i64 i∧M=⟨L0,g,H⟩∧JJ [0,1,4,62,63,64] L0=[⟨4,0,0,[z0V]⟩]∧ ∀ j,j < i→Jai (l.getD j rrZ) apex=0) ?_ (n:=l.length)
  ⟨0,_,_,by omega,by omega,by simp -implicitDefEqProofs only [bU,reduceIte,Jc,reduceCtorEq,Ja,Jb,bT,Jd,Je,Jf,q0],by simp -implicitDefEqProofs only [bU,reduceIte,Jc,reduceCtorEq,Ja,Jb,bT,Jd,Je,Jf,q1],by simp -implicitDefEqProofs only [bU,reduceIte,Jc,reduceCtorEq,Ja,Jb,bT,Jd,Je,Jf,q4],rfl,rfl,rfl,rfl,hL0,fun j hj=>by omega⟩
 clear q0 q1 q4 hL0
 rintro m e M ⟨i,L0,g,hi,rfl,q0,q1,q4,q62,q63,q64,rfl,hL0,hp⟩
 by_cases h1:(i:Int) < l.length
 ·have hil:i < l.length:=by omega
  obtain ⟨z,c,f0,rc,rv,ld,v0,v1,v2,v3,v4⟩:=JgI hs hil
  obtain ⟨s1,s2⟩:=hsz _ (List.getElem_mem hil)
  have hgd:l.getD i rrZ=l[i]:=by simp [List.getD,hil]
  have k1:=hN l[i].o H s1
  have k2:=hI l[i].ttl 0 2147483647 H
  have k3:=hM l[i].t H
  have k3b:=hI l[i].t 1 65535 H
  have k4:=hK l[i].t l[i].d H hFo s2
  have k5:=hU l[i].o apex H s1 ha
  have w9:IntKind.i64.wrap ((i:Int)+1)=((i+1:Nat):Int):=by rw [w64 (by omega) (by omega)];rfl
  have bd:l.length- (i+1) < l.length-i:=by omega
  have hfx:Jai l[i] apex≠0→JL l.length (fun i=>decide (Jai (l.getD i rrZ) apex≠0))=some i:=fun h=>Ym hil (decide_eq_true (by rw [hgd];exact h)) fun j hj=>decide_eq_false fun h=>h (hp j hj)
  have hh: ∀ {c:Int} {e':Env} {L':List Lv} {g':Nat},Jai l[i] apex=c→c≠0→Qx L' 4 0 0=some [z0V]→look e' 4= .la 4 0 0 0→look e' 5= .i .i64 c→look e' 6= .i .i64 (i:Nat)→κ .rt e' ⟨L',g',H⟩:=fun hc hne h1 h2 h3 h4=>hit i _ _ _ (hfx (by rw [hc];exact hne)) h1 h2 (by rw [hgd,hc];exact h3) h4
  have hz0:z0V= .ag [.s [],.ns]:=rfl
  rw [JcE] at rv
  cases hn:JB l[i].o with
  | none=>
   rw [hn] at k1
   simp -implicitDefEqProofs only [bU,reduceIte,Jc,reduceCtorEq,Ja,Jb,bT,Jd,Je,Jf,bV,Ja,Jb,Jg,q0,q1,q4,q62,q63,q64,h1,hL0,hz0,Jj,z,c,rc,rv,k1,Option.isSome_none,JG,JH,Jh]
   exact hh (c:=1) (by unfold Jai;rw [if_pos hn]) (by decide) rfl rfl rfl rfl
  | some ls=>
   rw [hn] at k1
   have n0:JB l[i].o≠none:=by rw [hn];simp
   by_cases hc:l[i].c=1
   ·have hc':(l[i].c=1)=True:=eq_true hc
    by_cases ht:0≤l[i].ttl∧l[i].ttl≤2147483647
    ·rw [decide_eq_true ht] at k2
     cases hm:Jd5 l[i].t with
     | true=>
      rw [hm] at k3
      simp -implicitDefEqProofs only [bU,reduceIte,Jc,reduceCtorEq,Ja,Jb,bT,Jd,Je,Jf,bV,Ja,Jb,Jg,q0,q1,q4,q62,q63,q64,h1,hL0,hz0,Jj,z,c,rc,rv,k1,k2,k3,hc',Option.isSome_some,JG,JH,Jh]
      exact hh (c:=6) (by unfold Jai;rw [if_neg n0,if_neg (by simp [hc]),if_neg (by simpa using ht),if_pos (.inl hm)]) (by decide) rfl rfl rfl rfl
     | false=>
      rw [hm] at k3
      have ht0:l[i].t≠0:=fun h=>by rw [h] at hm;simp [Jd5] at hm
      by_cases hr:1≤l[i].t∧l[i].t≤65535
      ·rw [decide_eq_true hr] at k3b
       by_cases hch:chk l[i].t l[i].d=0
       ·rw [hch] at k4
        cases hu:JfH l[i].o apex with
        | true=>
         rw [hu] at k5
         have hone:Jai l[i] apex=0:=by
          unfold Jai
          rw [if_neg n0,if_neg (by simp [hc]),if_neg (by simpa using ht),if_neg (by rw [hm];simp;omega),if_neg (by simpa using hch),if_neg (by rw [hu];simp)]
         simp -implicitDefEqProofs only [bU,reduceIte,Jc,reduceCtorEq,Ja,Jb,bT,Jd,Je,Jf,bV,Ja,Jb,Jg,q0,q1,q4,q62,q63,q64,h1,hL0,hz0,Jj,z,c,rc,rv,k1,k2,k3,k3b,k4,k5,hc',Option.isSome_some,w9]
         exact ⟨_,bd,i+1,_,_,hil,rfl,rfl,rfl,rfl,fun j hj=>by
          by_cases e:j=i
          ·subst e;rw [hgd];exact hone
          ·exact hp j (by omega)⟩
        | false=>
         rw [hu] at k5
         simp -implicitDefEqProofs only [bU,reduceIte,Jc,reduceCtorEq,Ja,Jb,bT,Jd,Je,Jf,bV,Ja,Jb,Jg,q0,q1,q4,q62,q63,q64,h1,hL0,hz0,Jj,z,c,rc,rv,k1,k2,k3,k3b,k4,k5,hc',Option.isSome_some,JG,JH,Jh]
         exact hh (c:=22) (by
          unfold Jai
          rw [if_neg n0,if_neg (by simp [hc]),if_neg (by simpa using ht),if_neg (by rw [hm];simp;omega),if_neg (by simpa using hch),if_pos hu]) (by decide) rfl rfl rfl rfl
       ·simp -implicitDefEqProofs only [bU,reduceIte,Jc,reduceCtorEq,Ja,Jb,bT,Jd,Je,Jf,bV,Ja,Jb,Jg,q0,q1,q4,q62,q63,q64,h1,hL0,hz0,Jj,z,c,rc,rv,k1,k2,k3,k3b,k4,hch,hc',Option.isSome_some,JG,JH,Jh]
        exact hh (c:=7) (by
          unfold Jai
          rw [if_neg n0,if_neg (by simp [hc]),if_neg (by simpa using ht),if_neg (by rw [hm];simp;omega),if_pos (by simpa using hch)]) (by decide) rfl rfl rfl rfl
      ·rw [decide_eq_false hr] at k3b
       simp -implicitDefEqProofs only [bU,reduceIte,Jc,reduceCtorEq,Ja,Jb,bT,Jd,Je,Jf,bV,Ja,Jb,Jg,q0,q1,q4,q62,q63,q64,h1,hL0,hz0,Jj,z,c,rc,rv,k1,k2,k3,k3b,hc',Option.isSome_some,JG,JH,Jh]
       exact hh (c:=6) (by
          unfold Jai
          rw [if_neg n0,if_neg (by simp [hc]),if_neg (by simpa using ht),if_pos (by rw [hm];simp;omega)]) (by decide) rfl rfl rfl rfl
    ·rw [decide_eq_false ht] at k2
     simp -implicitDefEqProofs only [bU,reduceIte,Jc,reduceCtorEq,Ja,Jb,bT,Jd,Je,Jf,bV,Ja,Jb,Jg,q0,q1,q4,q62,q63,q64,h1,hL0,hz0,Jj,z,c,rc,rv,k1,k2,hc',Option.isSome_some,JG,JH,Jh]
     exact hh (c:=18) (by unfold Jai;rw [if_neg n0,if_neg (by simp [hc]),if_pos ht]) (by decide) rfl rfl rfl rfl
   ·simp -implicitDefEqProofs only [bU,reduceIte,Jc,reduceCtorEq,Ja,Jb,bT,Jd,Je,Jf,bV,Ja,Jb,Jg,q0,q1,q4,q62,q63,q64,h1,hL0,hz0,Jj,z,c,rc,rv,k1,hc,Option.isSome_some,JG,JH,Jh]
    exact hh (c:=19) (by unfold Jai;rw [if_neg n0,if_pos hc]) (by decide) rfl rfl rfl rfl
 ·have hil:i=l.length:=by omega
  subst hil
  simp -implicitDefEqProofs only [bU,reduceIte,Jc,reduceCtorEq,Ja,Jb,bT,Jd,Je,Jf,bV,Ja,Jb,Jg,q0,q1,q4,q62,q63,q64,h1,hL0]
  exact miss hp _ _ (by simp -implicitDefEqProofs only [bU,reduceIte,Jc,reduceCtorEq,Ja,Jb,bT,Jd,Je,Jf,q0]) (by simp -implicitDefEqProofs only [bU,reduceIte,Jc,reduceCtorEq,Ja,Jb,bT,Jd,Je,Jf,q1]) (by simp -implicitDefEqProofs only [bU,reduceIte,Jc,reduceCtorEq,Ja,Jb,bT,Jd,Je,Jf,q4])
end
def Jnr (C:Tab) (f:Nat):Prop:= ∀ (n:Nat) (H:AH),n≤65535→C f [.i .i64 n] H=some (.s (JnB n),H)
abbrev Jdn (l:List Nat):List AV:=l.map fun (n:Nat)=>AV.i .i64 (n:Int)
section
variable {β:Type} {ev:β→AV} {H:AH} {id:Nat}
theorem Jkx {l:List (Jbj×β)} {rw:Bool} (h:H.at' id= .map rw (JaM kK ev l)) (f:List UInt8) (t:Int):JfI H (.mp id)∧Jby [.s,.i .i64] (Yq H (.mp id)) (.ag [.s f,.i .i64 t])∧Qf (Yq H (.mp id)) (.ag [.s f,.i .i64 t])=(Q8 l (f,t)).map ev:=Jqs (E:=kK) h (f,t)
theorem Jpj {l:List (List UInt8×β)} {rw:Bool} (h:H.at' id= .map rw (JaM kS ev l)) (s:List UInt8):JfI H (.mp id)∧Jby [.s] (Yq H (.mp id)) (.s s)∧Qf (Yq H (.mp id)) (.s s)=(Q8 l s).map ev:=Jqs (E:=kS) h s
theorem Jpr {l:List (Jbj×β)} (h:H.at' id= .map true (JaM kK ev l)) (f:List UInt8) (t:Int) {v:AV} (b:β) (hv:v=ev b):Jfp H (.mp id)∧Jby [.s,.i .i64] (Yq H (.mp id)) (.ag [.s f,.i .i64 t])∧ ∀ (L:List Lv) (g:Nat),Jfd ⟨L,g,H⟩ (Jax (Yq H (.mp id)) (.ag [.s f,.i .i64 t]) v) (.mp id)=⟨L,g,H.set id (.map true (JaM kK ev (Z4 l (f,t) b)))⟩:=by
 subst hv;exact JtA (E:=kK) h (f,t) b
theorem JsD {l:List (List UInt8×β)} (h:H.at' id= .map true (JaM kS ev l)) (s:List UInt8) {v:AV} (b:β) (hv:v=ev b):Jfp H (.mp id)∧Jby [.s] (Yq H (.mp id)) (.s s)∧ ∀ (L:List Lv) (g:Nat),Jfd ⟨L,g,H⟩ (Jax (Yq H (.mp id)) (.s s) v) (.mp id)=⟨L,g,H.set id (.map true (JaM kS ev (Z4 l s b)))⟩:=by
 subst hv;exact JtA (E:=kS) h s b
end
structure L2 (H H':AH) (Z:List Zi) (i:Nat) (o:AV):Prop where
 ext:Ext H H'
 n:H.n+2≤H'.n
 tm: ∃ lt:List (Jbj×Int),H'.at' H.n= .map true (JaM kK (.i .i64) lt)∧ ∀ k,Q8 lt k=((Z.take i).find? fun y=>decide (y.k=k)).map fun y=>y.r.ttl
 sn: ∃ ls:List (List UInt8×Bool),H'.at' (H.n+1)= .map true (JaM kS .b ls)∧ ∀ s,Q8 ls s=if s∈(Z.take i).map idZ then some true else none
 kp:Mn H' 1 o (Jdn ((List.range i).filter fun i=> !WN Z i))
 id: ∀ j,j∈idA o→H.n+2≤j
section
variable {C:Tab} {l:List Rr} {a:AV} {apex:List UInt8} {H:AH} {e:Env} {L0:List Lv} {g:Nat} {κ:Jaa}
theorem Jht {α β:Type} {f:α→β} {l:List α} {i:Nat} {y:β} (hi:i≤l.length):y∈(l.take i).map f↔ ∃ j,∃ (h:j < l.length),j < i∧f l[j]=y:=by
 rw [List.mem_map]
 constructor
 ·rintro ⟨x,hx,e⟩
  obtain ⟨j,hj,rfl⟩:=List.mem_take_iff_getElem.1 hx
  exact ⟨j,by omega,by omega,e⟩
 ·rintro ⟨j,h,hj,e⟩
  exact ⟨l[j],List.mem_take_iff_getElem.2 ⟨j,by omega,rfl⟩,e⟩
set_option maxHeartbeats 4000000 in
theorem Jvl (hs:Sx H eR a l) (hl:l.length≤500) (hFo:JR H) (hLow:Ja1 C Qc) (hP:Jnr C JaE) (hD:Jk4 C Wh) (hsz:szL l) (hone: ∀ i,i < l.length→Jai (l.getD i rrZ) apex=0) {H1:AH} {o:AV} (hI:L2 H H1 (l.map zi) 0 o)
  (q0:look e 0=a) (q1:look e 1= .s apex) (q4:look e 4= .la 4 0 0 0) (q10:look e 10= .mp H.n) (q11:look e 11= .mp (H.n+1)) (q12:look e 12=o) (hL0:JJ [0,1,4,10,11,12,114,115,116] L0=[⟨4,0,0,[z0V]⟩])
  (hit: ∀ i e' L' g' H',JL l.length (JaZ (l.map zi))=some i→Ext H H'→Qx L' 4 0 0=some [z0V]→look e' 4= .la 4 0 0 0→look e' 5= .i .i64 24→look e' 6= .i .i64 (i:Nat)→κ .rt e' ⟨L',g',H'⟩)
  (miss:JL l.length (JaZ (l.map zi))=none→ ∀ e' g' H' o,Ext H H'→H.n+2≤H'.n→Mn H' 1 o (Jdn (Jn (l.map zi)))→(∀ j,j∈idA o→H.n+2≤j)→look e' 0=a→look e' 1= .s apex→look e' 4= .la 4 0 0 0→look e' 12=o→κ .nx e' ⟨[⟨4,0,0,[z0V]⟩],g',H'⟩):
  exec C (sAt Jk.s [1,1,1,1,1,1,1,0]) e ⟨L0,g,H1⟩ κ:=by
 simp only [Jk,sAt]
 obtain ⟨l1,l2⟩:=hs.len
 have hZl:(l.map zi).length=l.length:=List.length_map _
 simp -implicitDefEqProofs only [bU,reduceIte,Jc,reduceCtorEq,Ja,Jb,bT,Jd,Je,Jf,q0,l1,l2]
 refine Jl (fun m e M=> ∃ (i:Nat) (o:AV) (H':AH) (L0:List Lv) (g:Nat),i≤l.length∧m=l.length-i∧look e 0=a∧look e 1= .s apex∧look e 4= .la 4 0 0 0∧look e 10= .mp H.n∧look e 11= .mp (H.n+1)∧look e 12=o∧look e 114=a∧look e 115= .i .i64 l.length∧look e 116= .i .i64 i∧M=⟨L0,g,H'⟩∧JJ [0,1,4,10,11,12,114,115,116] L0=[⟨4,0,0,[z0V]⟩]∧L2 H H' (l.map zi) i o∧ ∀ j,j < i→JaZ (l.map zi) j=false) ?_ (n:=l.length)
  ⟨0,o,H1,_,_,by omega,by omega,by simp -implicitDefEqProofs only [bU,reduceIte,Jc,reduceCtorEq,Ja,Jb,bT,Jd,Je,Jf,q0],by simp -implicitDefEqProofs only [bU,reduceIte,Jc,reduceCtorEq,Ja,Jb,bT,Jd,Je,Jf,q1],by simp -implicitDefEqProofs only [bU,reduceIte,Jc,reduceCtorEq,Ja,Jb,bT,Jd,Je,Jf,q4],by simp -implicitDefEqProofs only [bU,reduceIte,Jc,reduceCtorEq,Ja,Jb,bT,Jd,Je,Jf,q10],by simp -implicitDefEqProofs only [bU,reduceIte,Jc,reduceCtorEq,Ja,Jb,bT,Jd,Je,Jf,q11],by simp -implicitDefEqProofs only [bU,reduceIte,Jc,reduceCtorEq,Ja,Jb,bT,Jd,Je,Jf,q12],rfl,rfl,rfl,rfl,hL0,hI,fun j hj=>by omega⟩
 clear q0 q1 q4 q10 q11 q12 hL0 hI
 rintro m e M ⟨i,o,H',L0,g,hi,rfl,q0,q1,q4,q10,q11,q12,q114,q115,q116,rfl,hL0,⟨he,hn2,⟨lt,t1,t2⟩,⟨ls,s1,s2⟩,hkp,hid⟩,hp⟩
 by_cases h1:(i:Int) < l.length
 ·have hil:i < l.length:=by omega
  obtain ⟨z,c,f0,rc,rv,ld,v0,v1,v2,v3,v4⟩:=JgI (Sl.ext hs he) hil
  obtain ⟨z1,z2⟩:=hsz _ (List.getElem_mem hil)
  have hgd:l.getD i rrZ=l[i]:=by simp [List.getD,hil]
  have ho:=hone i hil
  rw [hgd] at ho
  obtain ⟨⟨ls',hn'⟩,hcl,htt,hme,hty,hch,hun⟩:=Ze ho
  have hil':i < (l.map zi).length:=by rw [hZl];exact hil
  have hit':itZ (l.map zi) i=zi l[i]:=by rw [Z5 hil'];simp
  have hall: ∀ j (hj:j < (l.map zi).length),((∃ b,JB (l.map zi)[j].f=some b)∧Jq (l.map zi)[j].f=(l.map zi)[j].f)∧(0≤(l.map zi)[j].r.t∧(l.map zi)[j].r.t≤65535):=fun j hj=>by
   have hjl:j < l.length:=by rw [hZl] at hj;exact hj
   have h2:=hone j hjl
   rw [show l.getD j rrZ=l[j] by simp [List.getD,hjl]] at h2
   obtain ⟨⟨b,hb⟩,-,-,-,hty,-⟩:=Ze h2
   simp only [List.getElem_map]
   exact ⟨⟨⟨_,ZX hb⟩,JcO hb⟩,hty⟩
  have k1:=hLow l[i].o H' z1
  rw [←Xh hn'] at k1
  have htn:l[i].t=((l[i].t.toNat:Nat):Int):=by omega
  have k4:JaZ (l.map zi) i=match ((l.map zi).take i).find? (fun y=>decide (y.k=(zi l[i]).k)) with
    | some y=>decide (y.r.ttl≠l[i].ttl)
    | none=>false:=by unfold JaZ;rw [hit'];rfl
  have kt:=Jkx t1 (Jq l[i].o) l[i].t
  rw [t2] at kt
  obtain ⟨u1,u2,u3⟩:=kt
  have w9:IntKind.i64.wrap ((i:Int)+1)=((i+1:Nat):Int):=by rw [w64 (by omega) (by omega)];rfl
  have bd:l.length- (i+1) < l.length-i:=by omega
  have hz0:z0V= .ag [.s [],.ns]:=rfl
  rw [JcE] at rv
  have hfk:(fun y:Zi=>decide (y.k=(Jq l[i].o,l[i].t)))=fun y=>decide (y.k=(zi l[i]).k):=rfl
  rw [hfk] at u3
  have nxm:JaZ (l.map zi) i=false→ ∀ j,j < i+1→JaZ (l.map zi) j=false:=Y8 hp
  obtain ⟨m1,m2,m3⟩:=Jpr t1 (Jq l[i].o) l[i].t l[i].ttl (v:= .i .i64 l[i].ttl) rfl
  have hp16:=fun (Hx:AH)=>hP l[i].t.toNat Hx (by omega)
  rw [←htn] at hp16
  have hbe:JnB l[i].t.toNat=[UInt8.ofNat (l[i].t.toNat / 256),UInt8.ofNat l[i].t.toNat]:=rfl
  have hidz:idZ (zi l[i])=(Jq l[i].o++JnB l[i].t.toNat)++XL l[i].t l[i].d:=by unfold idZ;rw [hbe];rfl
  have hlen:(Jq l[i].o++JnB l[i].t.toNat).length+(XL l[i].t l[i].d).length≤9223372036854775807:=by
   have a1:=Jkt l[i].o
   have a2:=JkM l[i].t l[i].d
   simp only [List.length_append,hbe,List.length_cons,List.length_nil];omega
  have hlen1:(Jq l[i].o).length+(JnB l[i].t.toNat).length≤9223372036854775807:=by
   simp only [List.length_append] at hlen;omega
  generalize hH2:H'.set H.n (.map true (JaM kK (AV.i .i64) (Z4 lt (Jq l[i].o,l[i].t) l[i].ttl)))=H2 at m3
  have e2:Ext H H2:=by subst hH2;exact he.set (Nat.le_refl _)
  have n2:H2.n=H'.n:=by subst hH2;rfl
  have at2: ∀ j,j≠H.n→H2.at' j=H'.at' j:=fun j hj=>by subst hH2;exact XQ hj
  have t12:H2.at' H.n= .map true (JaM kK (.i .i64) (Z4 lt (Jq l[i].o,l[i].t) l[i].ttl)):=by subst hH2;exact Z9
  have s12:H2.at' (H.n+1)= .map true (JaM kS .b ls):=by rw [at2 _ (by omega)];exact s1
  have kp2:Mn H2 1 o (Jdn ((List.range i).filter fun i=> !WN (l.map zi) i)):=hkp.fr (by omega) fun j hj=>at2 j (by have:=hid j hj;omega)
  have hD2:=hD l[i].t l[i].d H2 (hFo.ext e2) z2
  obtain ⟨b1,b2,b3⟩:=Jpj s12 (idZ (zi l[i]))
  rw [s2] at b3
  have hinm:idZ (zi l[i])∈((l.map zi).take i).map idZ↔WN (l.map zi) i=true:=by
   rw [Jht (Nat.le_of_lt hil'),JdS (Nat.le_of_lt hil'),hit']
   have hme:=hall i hil'
   rw [show (l.map zi)[i]=zi l[i] by simp] at hme
   constructor
   ·rintro ⟨j,hj,hji,hjj⟩
    have hjx:=hall j hj
    have:=(JlV hjx.1 hme.1 hjx.2 hme.2).1 hjj
    exact ⟨j,hji,by rw [Z5 hj];exact this⟩
   ·rintro ⟨j,hji,hjj⟩
    have hj:j < (l.map zi).length:=by omega
    have hjx:=hall j hj
    rw [Z5 hj] at hjj
    exact ⟨j,hj,hji,(JlV hjx.1 hme.1 hjx.2 hme.2).2 hjj⟩
  have hsn:(l.map zi).take (i+1)=(l.map zi).take i++[zi l[i]]:=by rw [List.take_succ_eq_append_getElem hil'];simp
  have T2:(∀ y,((l.map zi).take i).find? (fun y=>decide (y.k=(zi l[i]).k))=some y→y.r.ttl=l[i].ttl)→ ∀ k,Q8 (Z4 lt (Jq l[i].o,l[i].t) l[i].ttl) k=(((l.map zi).take (i+1)).find? fun y=>decide (y.k=k)).map fun y=>y.r.ttl:=fun hy k=>by
   rw [JaI,hsn,List.find?_append,t2]
   by_cases hk:(Jq l[i].o,l[i].t)=k
   ·subst hk
    rw [if_pos rfl]
    cases hF:((l.map zi).take i).find? fun y=>decide (y.k=(Jq l[i].o,l[i].t)) with
    | some y=>have:=hy y hF;simp [this]
    | none=>simp [zi]
   ·rw [if_neg hk]
    have hk': ¬ (zi l[i]).k=k:=hk
    cases hF:((l.map zi).take i).find? fun y=>decide (y.k=k) with
    | some y=>rfl
    | none=>simp only [Option.none_or,List.find?_cons,List.find?_nil,decide_eq_false hk']
  have S2: ∀ (ls':List (List UInt8×Bool)),(∀ s,Q8 ls' s=if s=idZ (zi l[i]) then some true else Q8 ls s)→ ∀ s,Q8 ls' s=if s∈((l.map zi).take (i+1)).map idZ then some true else none:=fun ls' h s=>by
   rw [h,s2,hsn,List.map_append]
   by_cases e1:s=idZ (zi l[i])
   ·rw [if_pos e1,if_pos (by rw [e1];simp)]
   ·rw [if_neg e1]
    by_cases e2:s∈((l.map zi).take i).map idZ
    ·rw [if_pos e2,if_pos (List.mem_append_left _ e2)]
    ·rw [if_neg e2,if_neg (by rw [List.mem_append,not_or];exact ⟨e2,by simpa using e1⟩)]
  obtain ⟨c1,c2,c3⟩:=JsD s12 (idZ (zi l[i])) true (v:= .b true) rfl
  generalize hH3:H2.set (H.n+1) (.map true (JaM kS AV.b (Z4 ls (idZ (zi l[i])) true)))=H3 at c3
  have n3:H3.n=H'.n:=by subst hH3;exact n2
  have at3: ∀ j,j≠H.n+1→H3.at' j=H2.at' j:=fun j hj=>by subst hH3;exact XQ hj
  have s13:H3.at' (H.n+1)= .map true (JaM kS .b (Z4 ls (idZ (zi l[i])) true)):=by subst hH3;exact Z9
  have e3:Ext H H3:=by subst hH3;exact e2.set (by omega)
  have kp3:Mn H3 1 o (Jdn ((List.range i).filter fun i=> !WN (l.map zi) i)):=kp2.fr (by omega) fun j hj=>at3 j (by have:=hid j hj;omega)
  obtain ⟨p1,o',H4,p2,p3,p4,p5,p6,p7,-,-⟩:=Mn.ap (by':=8) kp3 (Qk (t:=166) (g:=g+2) (z:=1) (x:= .i .i64 (i:Nat)) (L:=[⟨15,g+1,0,[.ag [.s (Jq l[i].o),.i .i64 l[i].t]]⟩,⟨14,g,0,[.ag [.s l[i].o,.i .i64 l[i].t,.i .i64 l[i].c,.i .i64 l[i].ttl,.s l[i].d]]⟩,⟨4,0,0,[.ag [.s [],.ns]]⟩]) (H:=H3)) (by
   have:((List.range i).filter fun i=> !WN (l.map zi) i).length≤i:=Nat.le_trans (List.length_filter_le _ _) (by simp)
   simp;omega)
  have oo:=kp3.sl.out
  have rflt:((List.range (i+1)).filter fun i=> !WN (l.map zi) i)=if WN (l.map zi) i=true then ((List.range i).filter fun i=> !WN (l.map zi) i) else ((List.range i).filter fun i=> !WN (l.map zi) i)++[i]:=by
   rw [List.range_succ,List.filter_append]
   cases h:WN (l.map zi) i<;>simp [h]
  rw [hidz] at b2 b3 c2 c3
  cases hF:((l.map zi).take i).find? fun y=>decide (y.k=(zi l[i]).k) with
  | some y=>
   rw [hF] at k4 u3
   simp only [Option.map_some] at k4 u3
   by_cases hyt:y.r.ttl=l[i].ttl
   ·rw [hyt] at u3
    have hmx:JaZ (l.map zi) i=false:=by rw [k4,hyt];simp
    cases hout:WN (l.map zi) i with
    | true=>
     rw [if_pos (by rw [←hidz];exact hinm.2 hout)] at b3
     simp only [Option.map_some] at b3
     simp -implicitDefEqProofs only [bU,reduceIte,Jc,reduceCtorEq,Ja,Jb,bT,Jd,Je,Jf,bV,Ja,Jb,Jg,Qs,J6,q0,q1,q4,q10,q11,q12,q114,q115,q116,h1,hL0,hz0,Jj,z,c,rc,rv,k1,u1,u2,u3,lkV,hyt,m1,m2,m3,hp16,hD2,hlen,hlen1,b1,b2,b3,JG,JH,w9]
     exact ⟨_,bd,i+1,o,H2,_,_,hil,rfl,rfl,rfl,rfl,rfl,⟨e2,by omega,⟨_,t12,T2 (fun y' h=>by rw [hF] at h;injection h with h;rw [←h];exact hyt)⟩,⟨_,s12,S2 ls fun s=>by
      by_cases e:s=idZ (zi l[i])
      ·rw [if_pos e,s2,e,if_pos (hinm.2 hout)]
      ·rw [if_neg e]⟩,by rw [rflt,if_pos hout];exact kp2,hid⟩,nxm hmx⟩
    | false=>
     rw [if_neg (by rw [←hidz];exact fun h=>by have:=hinm.1 h;rw [hout] at this;cases this)] at b3
     simp only [Option.map_none] at b3
     simp -implicitDefEqProofs only [bU,reduceIte,Jc,reduceCtorEq,Ja,Jb,bT,Jd,Je,Jf,bV,Ja,Jb,Jg,Qs,J6,q0,q1,q4,q10,q11,q12,q114,q115,q116,h1,hL0,hz0,Jj,z,c,rc,rv,k1,u1,u2,u3,lkV,hyt,m1,m2,m3,hp16,hD2,hlen,hlen1,b1,b2,b3,c1,c2,c3,oo,JG,JH,JE,JQ,List.replicate,List.set]
     simp -implicitDefEqProofs only [bU,reduceIte,Jc,reduceCtorEq,Ja,Jb,bT,Jd,Je,Jf,bV,Ja,Jb,Jg,p1,p2,p3,w9]
     refine ⟨_,bd,i+1,o',H4,_,_,hil,rfl,rfl,rfl,rfl,rfl,⟨⟨by have:=e3.n;omega,fun j hj=>by rw [p6 j (by have:=e3.n;omega) fun hh=>by have:=hid j hh;omega];exact e3.at' j hj⟩,by omega,⟨_,by rw [p6 _ (by omega) fun hh=>by have:=hid _ hh;omega,at3 _ (by omega)];exact t12,T2 (fun y' h=>by rw [hF] at h;injection h with h;rw [←h];exact hyt)⟩,⟨_,by rw [p6 _ (by omega) fun hh=>by have:=hid _ hh;omega];exact s13,S2 _ fun s=>by
      rw [JaI]
      by_cases e:s=idZ (zi l[i])
      ·rw [if_pos e,if_pos e.symm]
      ·rw [if_neg e,if_neg fun h=>e h.symm]⟩,by rw [rflt,if_neg (by rw [hout];decide)];show Mn H4 1 o' _;rw [Jdn,List.map_append];exact p4,fun j hj=>(p7 j hj).elim (hid j) fun h=>by omega⟩,nxm hmx⟩
   ·have hmx:JaZ (l.map zi) i=true:=by rw [k4];simp [hyt]
    have hfx:JL l.length (JaZ (l.map zi))=some i:=Ym hil hmx hp
    simp -implicitDefEqProofs only [bU,reduceIte,Jc,reduceCtorEq,Ja,Jb,bT,Jd,Je,Jf,bV,Ja,Jb,Jg,Qs,J6,q0,q1,q4,q10,q11,q12,q114,q115,q116,h1,hL0,hz0,Jj,z,c,rc,rv,k1,u1,u2,u3,lkV,hyt,JG,JH]
    exact hit i _ _ _ _ hfx he rfl rfl rfl rfl
  | none=>
   rw [hF] at k4 u3
   simp only [Option.map_none] at k4 u3
   cases hout:WN (l.map zi) i with
   | true=>
    rw [if_pos (by rw [←hidz];exact hinm.2 hout)] at b3
    simp only [Option.map_some] at b3
    simp -implicitDefEqProofs only [bU,reduceIte,Jc,reduceCtorEq,Ja,Jb,bT,Jd,Je,Jf,bV,Ja,Jb,Jg,Qs,J6,q0,q1,q4,q10,q11,q12,q114,q115,q116,h1,hL0,hz0,Jj,z,c,rc,rv,k1,u1,u2,u3,lkV,k1,m1,m2,m3,hp16,hD2,hlen,hlen1,b1,b2,b3,JG,JH,w9]
    exact ⟨_,bd,i+1,o,H2,_,_,hil,rfl,rfl,rfl,rfl,rfl,⟨e2,by omega,⟨_,t12,T2 (fun y' h=>by rw [hF] at h;cases h)⟩,⟨_,s12,S2 ls fun s=>by
     by_cases e:s=idZ (zi l[i])
     ·rw [if_pos e,s2,e,if_pos (hinm.2 hout)]
     ·rw [if_neg e]⟩,by rw [rflt,if_pos hout];exact kp2,hid⟩,nxm k4⟩
   | false=>
    rw [if_neg (by rw [←hidz];exact fun h=>by have:=hinm.1 h;rw [hout] at this;cases this)] at b3
    simp only [Option.map_none] at b3
    simp -implicitDefEqProofs only [bU,reduceIte,Jc,reduceCtorEq,Ja,Jb,bT,Jd,Je,Jf,bV,Ja,Jb,Jg,Qs,J6,q0,q1,q4,q10,q11,q12,q114,q115,q116,h1,hL0,hz0,Jj,z,c,rc,rv,k1,u1,u2,u3,lkV,k1,m1,m2,m3,hp16,hD2,hlen,hlen1,b1,b2,b3,c1,c2,c3,oo,JG,JH,JE,JQ,List.replicate,List.set]
    simp -implicitDefEqProofs only [bU,reduceIte,Jc,reduceCtorEq,Ja,Jb,bT,Jd,Je,Jf,bV,Ja,Jb,Jg,p1,p2,p3,w9]
    refine ⟨_,bd,i+1,o',H4,_,_,hil,rfl,rfl,rfl,rfl,rfl,⟨⟨by have:=e3.n;omega,fun j hj=>by rw [p6 j (by have:=e3.n;omega) fun hh=>by have:=hid j hh;omega];exact e3.at' j hj⟩,by omega,⟨_,by rw [p6 _ (by omega) fun hh=>by have:=hid _ hh;omega,at3 _ (by omega)];exact t12,T2 (fun y' h=>by rw [hF] at h;cases h)⟩,⟨_,by rw [p6 _ (by omega) fun hh=>by have:=hid _ hh;omega];exact s13,S2 _ fun s=>by
     rw [JaI]
     by_cases e:s=idZ (zi l[i])
     ·rw [if_pos e,if_pos e.symm]
     ·rw [if_neg e,if_neg fun h=>e h.symm]⟩,by rw [rflt,if_neg (by rw [hout];decide)];show Mn H4 1 o' _;rw [Jdn,List.map_append];exact p4,fun j hj=>(p7 j hj).elim (hid j) fun h=>by omega⟩,nxm k4⟩
 ·have hil:i=l.length:=by omega
  subst hil
  have hno:=Yn hp
  simp -implicitDefEqProofs only [bU,reduceIte,Jc,reduceCtorEq,Ja,Jb,bT,Jd,Je,Jf,bV,Ja,Jb,Jg,q0,q1,q4,q10,q11,q12,q114,q115,q116,h1,hL0]
  exact miss hno _ _ _ o he hn2 (by unfold Jn;rw [hZl];exact hkp) hid (by simp -implicitDefEqProofs only [bU,reduceIte,Jc,reduceCtorEq,Ja,Jb,bT,Jd,Je,Jf,q0]) (by simp -implicitDefEqProofs only [bU,reduceIte,Jc,reduceCtorEq,Ja,Jb,bT,Jd,Je,Jf,q1]) (by simp -implicitDefEqProofs only [bU,reduceIte,Jc,reduceCtorEq,Ja,Jb,bT,Jd,Je,Jf,q4]) (by simp -implicitDefEqProofs only [bU,reduceIte,Jc,reduceCtorEq,Ja,Jb,bT,Jd,Je,Jf,q12])
end
theorem JjG {H:AH} {o:AV} {K:List Nat} (h:Sl H 1 o (Jdn K)) {j:Nat} (hj:j < K.length):slZ H 1 o∧iaC (j:Int) o∧(∀ (L:List Lv) (g:Nat),ldC ⟨L,g,H⟩ none (iaV j o))∧ ∀ (L:List Lv) (g:Nat),ldX ⟨L,g,H⟩ none (iaV j o)= .i .i64 (K[j]:Nat):=by
 have hg:(Jdn K).getD j .u= .i .i64 (K[j]:Nat):=by simp [Jdn,List.getD,hj]
 have ia:=fun (L:List Lv) (g:Nat)=>h.ia1 (j:=j) (v:= .i .i64 (K[j]:Nat)) (by omega) (by simp [Jdn];omega) (by rw [Jj,hg];rfl) L g
 rw [Jj] at ia
 exact ⟨(ia [] 0).1,(ia [] 0).2.1,fun L g=>(ia L g).2.2.1,fun L g=>(ia L g).2.2.2⟩
theorem Jfu {H:AH} {o:AV} {K:List Nat} (h:Sl H 1 o (Jdn K)):Jhx o= .i .i64 (K.length:Nat)∧JlE o:=by
 have:=h.len
 rwa [List.length_map] at this
structure KK (l:List Rr) (apex:List UInt8) (H:AH) (a o:AV):Prop where
 rd:Sx H eR a l
 kp:Sl H 1 o (Jdn (Jn (l.map zi)))
 ln:l.length≤500
 sz:szL l
 one: ∀ i,i < l.length→Jai (l.getD i rrZ) apex=0
theorem KK.get {l:List Rr} {apex:List UInt8} {H:AH} {a o:AV} (h:KK l apex H a o) {j:Nat} (hj:j < (Jn (l.map zi)).length): ∃ hi:(Jn (l.map zi))[j] < l.length,WN (l.map zi) (Jn (l.map zi))[j]=false∧itZ (l.map zi) (Jn (l.map zi))[j]=zi (l[(Jn (l.map zi))[j]])∧Jai (l[(Jn (l.map zi))[j]]) apex=0∧
  (l[(Jn (l.map zi))[j]]).o.length≤1099511627776∧(l[(Jn (l.map zi))[j]]).d.length≤1099511627776:=by
 obtain ⟨h1,h2⟩:=Jjx hj
 have h1':(Jn (l.map zi))[j] < l.length:=by rw [List.length_map] at h1;exact h1
 have ho:=h.one _ h1'
 obtain ⟨s1,s2⟩:=h.sz _ (List.getElem_mem h1')
 refine ⟨h1',h2,by rw [Z5 h1];simp,?_,s1,s2⟩
 rwa [show l.getD (Jn (l.map zi))[j] rrZ=l[(Jn (l.map zi))[j]] by simp [List.getD,h1']] at ho
theorem Jad {l:List Rr}:(Jn (l.map zi)).length≤l.length:=by
 unfold Jn
 exact Nat.le_trans (List.length_filter_le _ _) (by simp)
section
variable {C:Tab} {l:List Rr} {a o:AV} {apex top:List UInt8} {H:AH} {e:Env} {L0:List Lv} {g:Nat} {κ:Jaa}
set_option maxHeartbeats 4000000 in
theorem Jui (hK:KK l apex H a o) (hLow:Ja1 C Qc)
  (q0:look e 0=a) (q1:look e 1= .s apex) (q4:look e 4= .la 4 0 0 0) (q12:look e 12=o) (q19:look e 19= .s top) (q20:look e 20= .b false) (q21:look e 21= .b false) (hL0:JJ [0,1,4,12,19,20,21,171,172,173] L0=[⟨4,0,0,[z0V]⟩])
  (hit: ∀ i e' L' g',(Jn (l.map zi)).find? (Jb6 (l.map zi) top)=some i→Qx L' 4 0 0=some [z0V]→look e' 4= .la 4 0 0 0→look e' 5= .i .i64 20→look e' 6= .i .i64 (i:Nat)→κ .rt e' ⟨L',g',H⟩)
  (miss:(Jn (l.map zi)).find? (Jb6 (l.map zi) top)=none→ ∀ e' g',look e' 0=a→look e' 1= .s apex→look e' 4= .la 4 0 0 0→look e' 12=o→look e' 20= .b (hasB (l.map zi) (l.map zi).length top 6)→look e' 21= .b (hasB (l.map zi) (l.map zi).length top 2)→κ .nx e' ⟨[⟨4,0,0,[z0V]⟩],g',H⟩):
  exec C (sAt Jk.s [1,1,1,1,1,1,1,1,1,1,0]) e ⟨L0,g,H⟩ κ:=by
 simp only [Jk,sAt]
 obtain ⟨l1,l2⟩:=Jfu hK.kp
 have hks:=Jad (l:=l)
 have hln:=hK.ln
 simp -implicitDefEqProofs only [bU,reduceIte,Jc,reduceCtorEq,Ja,Jb,bT,Jd,Je,Jf,q12,l1,l2]
 refine Jl (fun m e M=> ∃ (j:Nat) (L0:List Lv) (g:Nat),j≤(Jn (l.map zi)).length∧m=(Jn (l.map zi)).length-j∧look e 0=a∧look e 1= .s apex∧look e 4= .la 4 0 0 0∧look e 12=o∧look e 171=o∧look e 172= .i .i64 (Jn (l.map zi)).length∧look e 173= .i .i64 j∧M=⟨L0,g,H⟩∧JJ [0,1,4,12,19,20,21,171,172,173] L0=[⟨4,0,0,[z0V]⟩]∧(∀ i (hi:i < (Jn (l.map zi)).length),i < j→Jb6 (l.map zi) top (Jn (l.map zi))[i]=false)∧look e 19= .s top∧look e 20= .b (((Jn (l.map zi)).take j).any fun i=>decide ((itZ (l.map zi) i).f=top∧(itZ (l.map zi) i).r.t=6))∧look e 21= .b (((Jn (l.map zi)).take j).any fun i=>decide ((itZ (l.map zi) i).f=top∧(itZ (l.map zi) i).r.t=2))) ?_ (n:=(Jn (l.map zi)).length)
  ⟨0,_,_,by omega,by omega,by simp -implicitDefEqProofs only [bU,reduceIte,Jc,reduceCtorEq,Ja,Jb,bT,Jd,Je,Jf,q0],by simp -implicitDefEqProofs only [bU,reduceIte,Jc,reduceCtorEq,Ja,Jb,bT,Jd,Je,Jf,q1],by simp -implicitDefEqProofs only [bU,reduceIte,Jc,reduceCtorEq,Ja,Jb,bT,Jd,Je,Jf,q4],by simp -implicitDefEqProofs only [bU,reduceIte,Jc,reduceCtorEq,Ja,Jb,bT,Jd,Je,Jf,q12],rfl,rfl,rfl,rfl,hL0,fun i _ hj=>by omega,by simp -implicitDefEqProofs only [bU,reduceIte,Jc,reduceCtorEq,Ja,Jb,bT,Jd,Je,Jf,q19],by simp -implicitDefEqProofs only [bU,reduceIte,Jc,reduceCtorEq,Ja,Jb,bT,Jd,Je,Jf,q20];rfl,by simp -implicitDefEqProofs only [bU,reduceIte,Jc,reduceCtorEq,Ja,Jb,bT,Jd,Je,Jf,q21];rfl⟩
 clear q0 q1 q4 q12 hL0 q19 q20 q21
 rintro m e M ⟨j,L0,g,hj,rfl,q0,q1,q4,q12,qs,ql,qx,rfl,hL0,hp,q19,q20,q21⟩
 by_cases h1:(j:Int) < (Jn (l.map zi)).length
 ·have hjl:j < (Jn (l.map zi)).length:=by omega
  obtain ⟨hi,hout,hit0,hone,z1,z2⟩:=hK.get hjl
  obtain ⟨a1,a2,a3,a4⟩:=JjG hK.kp hjl
  obtain ⟨z,c,f0,rc,rv,ld,v0,v1,v2,v3,v4⟩:=JgI hK.rd hi
  have hfa:=fun h=>JcX (q:=Jb6 (l.map zi) top) hjl h fun i hi=>hp i (by omega) hi
  have hha:=fun (f:List UInt8) (t:Int)=>JgU (L:=l.map zi) hjl f t
  have hts:=fun (p:Nat→Bool)=>any_take_succ hjl p
  have bd:(Jn (l.map zi)).length- (j+1) < (Jn (l.map zi)).length-j:=by omega
  have w9:IntKind.i64.wrap ((j:Int)+1)=((j+1:Nat):Int):=by rw [w64 (by omega) (by omega)];rfl
  have hz0:z0V= .ag [.s [],.ns]:=rfl
  have nx:Jb6 (l.map zi) top (Jn (l.map zi))[j]=false→ ∀ i (hi:i < (Jn (l.map zi)).length),i < j+1→Jb6 (l.map zi) top (Jn (l.map zi))[i]=false:=fun h i hi hij=>by
   by_cases e:i=j
   ·subst e;exact h
   ·exact hp i hi (by omega)
  generalize hii:(Jn (l.map zi))[j]=i at*
  have hp0:(0:Int)≤(i:Nat):=by omega
  rw [JcE] at rv
  obtain ⟨⟨ls,hn⟩,hcl,htt,hme,hty,hch,hun⟩:=Ze hone
  have hfz:(zi l[i]).f=Jq l[i].o:=rfl
  have htz:(zi l[i]).r.t=l[i].t:=rfl
  have k1:=hLow l[i].o H z1
  rw [←Xh hn] at k1
  have hb:Jb6 (l.map zi) top i=(decide (l[i].t=6) && (decide (Jq l[i].o≠top) || ((Jn (l.map zi)).take j).any fun i=>decide ((itZ (l.map zi) i).f=top∧(itZ (l.map zi) i).r.t=6))):=by
   unfold Jb6;rw [hout,hit0,hha];rfl
  have hS:=hts fun i=>decide ((itZ (l.map zi) i).f=top∧(itZ (l.map zi) i).r.t=6)
  have hN:=hts fun i=>decide ((itZ (l.map zi) i).f=top∧(itZ (l.map zi) i).r.t=2)
  simp only [hii,hit0,hfz,htz] at hS hN
  generalize ((Jn (l.map zi)).take j).any (fun i=>decide ((itZ (l.map zi) i).f=top∧(itZ (l.map zi) i).r.t=6))=sB at*
  generalize ((Jn (l.map zi)).take j).any (fun i=>decide ((itZ (l.map zi) i).f=top∧(itZ (l.map zi) i).r.t=2))=nB at*
  by_cases h6:l[i].t=6
  ·have h6':(l[i].t=6)=True:=eq_true h6
   have h62: ¬ l[i].t=2:=by omega
   by_cases hf:Jq l[i].o=top
   ·have hf':(Jq l[i].o=top)=True:=eq_true hf
    cases sB with
    | true=>
     simp -implicitDefEqProofs only [bU,reduceIte,Jc,reduceCtorEq,Ja,Jb,bT,Jd,Je,Jf,bV,Ja,Jb,Jg,q0,q1,q4,q12,qs,ql,qx,h1,hL0,hz0,Jj,a1,a2,a3,a4,z,c,rc,rv,q19,q20,q21,k1,h6',hf',JG,JH]
     exact hit i _ _ _ (hfa (by rw [hb,h6];simp)) rfl rfl rfl rfl
    | false=>
     have hS':(((Jn (l.map zi)).take (j+1)).any fun i=>decide ((itZ (l.map zi) i).f=top∧(itZ (l.map zi) i).r.t=6))=true:=by rw [hS];simp [hf,h6]
     have hN':(((Jn (l.map zi)).take (j+1)).any fun i=>decide ((itZ (l.map zi) i).f=top∧(itZ (l.map zi) i).r.t=2))=nB:=by rw [hN];simp [h62]
     cases nB with
     | true=>
      simp -implicitDefEqProofs only [bU,reduceIte,Jc,reduceCtorEq,Ja,Jb,bT,Jd,Je,Jf,bV,Ja,Jb,Jg,q0,q1,q4,q12,qs,ql,qx,h1,hL0,hz0,Jj,a1,a2,a3,a4,z,c,rc,rv,q19,q20,q21,k1,h6',hf',w9]
      exact ⟨_,bd,j+1,_,_,hjl,rfl,rfl,rfl,rfl,nx (by rw [hb,h6,hf];simp),by rw [hS'],by rw [hN']⟩
     | false=>
      simp -implicitDefEqProofs only [bU,reduceIte,Jc,reduceCtorEq,Ja,Jb,bT,Jd,Je,Jf,bV,Ja,Jb,Jg,q0,q1,q4,q12,qs,ql,qx,h1,hL0,hz0,Jj,a1,a2,a3,a4,z,c,rc,rv,q19,q20,q21,k1,h6',h62,hf',w9]
      exact ⟨_,bd,j+1,_,_,hjl,rfl,rfl,rfl,rfl,nx (by rw [hb,h6,hf];simp),by rw [hS'],by rw [hN']⟩
   ·simp -implicitDefEqProofs only [bU,reduceIte,Jc,reduceCtorEq,Ja,Jb,bT,Jd,Je,Jf,bV,Ja,Jb,Jg,q0,q1,q4,q12,qs,ql,qx,h1,hL0,hz0,Jj,a1,a2,a3,a4,z,c,rc,rv,q19,q20,q21,k1,h6',hf,JG,JH]
    exact hit i _ _ _ (hfa (by rw [hb,h6];simp [hf])) rfl rfl rfl rfl
  ·have hS':(((Jn (l.map zi)).take (j+1)).any fun i=>decide ((itZ (l.map zi) i).f=top∧(itZ (l.map zi) i).r.t=6))=sB:=by rw [hS];simp [h6]
   have hnb:Jb6 (l.map zi) top i=false:=by rw [hb];simp [h6]
   cases nB with
   | true=>
    simp -implicitDefEqProofs only [bU,reduceIte,Jc,reduceCtorEq,Ja,Jb,bT,Jd,Je,Jf,bV,Ja,Jb,Jg,q0,q1,q4,q12,qs,ql,qx,h1,hL0,hz0,Jj,a1,a2,a3,a4,z,c,rc,rv,q19,q20,q21,k1,h6,w9]
    exact ⟨_,bd,j+1,_,_,hjl,rfl,rfl,rfl,rfl,nx hnb,by rw [hS'],by rw [hN];simp⟩
   | false=>
    by_cases h2:l[i].t=2
    ·have h2':(l[i].t=2)=True:=eq_true h2
     by_cases hf:Jq l[i].o=top
     ·have hf':(Jq l[i].o=top)=True:=eq_true hf
      simp -implicitDefEqProofs only [bU,reduceIte,Jc,reduceCtorEq,Ja,Jb,bT,Jd,Je,Jf,bV,Ja,Jb,Jg,q0,q1,q4,q12,qs,ql,qx,h1,hL0,hz0,Jj,a1,a2,a3,a4,z,c,rc,rv,q19,q20,q21,k1,h6,h2',hf',w9]
      exact ⟨_,bd,j+1,_,_,hjl,rfl,rfl,rfl,rfl,nx hnb,by rw [hS'],by rw [hN];simp [h2,hf]⟩
     ·simp -implicitDefEqProofs only [bU,reduceIte,Jc,reduceCtorEq,Ja,Jb,bT,Jd,Je,Jf,bV,Ja,Jb,Jg,q0,q1,q4,q12,qs,ql,qx,h1,hL0,hz0,Jj,a1,a2,a3,a4,z,c,rc,rv,q19,q20,q21,k1,h6,h2',hf,w9]
      exact ⟨_,bd,j+1,_,_,hjl,rfl,rfl,rfl,rfl,nx hnb,by rw [hS'],by rw [hN];simp [hf]⟩
    ·simp -implicitDefEqProofs only [bU,reduceIte,Jc,reduceCtorEq,Ja,Jb,bT,Jd,Je,Jf,bV,Ja,Jb,Jg,q0,q1,q4,q12,qs,ql,qx,h1,hL0,hz0,Jj,a1,a2,a3,a4,z,c,rc,rv,q19,q20,q21,k1,h6,h2,w9]
     exact ⟨_,bd,j+1,_,_,hjl,rfl,rfl,rfl,rfl,nx hnb,by rw [hS'],by rw [hN];simp [h2]⟩
 ·have hil:j=(Jn (l.map zi)).length:=by omega
  subst hil
  have hno:=JcV (q:=Jb6 (l.map zi) top) fun i hi=>hp i hi hi
  rw [List.take_length,←JdD] at q20 q21
  simp -implicitDefEqProofs only [bU,reduceIte,Jc,reduceCtorEq,Ja,Jb,bT,Jd,Je,Jf,bV,Ja,Jb,Jg,q0,q1,q4,q12,qs,ql,qx,q19,q20,q21,h1,hL0]
  exact miss hno _ _ (by simp -implicitDefEqProofs only [bU,reduceIte,Jc,reduceCtorEq,Ja,Jb,bT,Jd,Je,Jf,q0]) (by simp -implicitDefEqProofs only [bU,reduceIte,Jc,reduceCtorEq,Ja,Jb,bT,Jd,Je,Jf,q1]) (by simp -implicitDefEqProofs only [bU,reduceIte,Jc,reduceCtorEq,Ja,Jb,bT,Jd,Je,Jf,q4]) (by simp -implicitDefEqProofs only [bU,reduceIte,Jc,reduceCtorEq,Ja,Jb,bT,Jd,Je,Jf,q12]) (by simp -implicitDefEqProofs only [bU,reduceIte,Jc,reduceCtorEq,Ja,Jb,bT,Jd,Je,Jf,q20]) (by simp -implicitDefEqProofs only [bU,reduceIte,Jc,reduceCtorEq,Ja,Jb,bT,Jd,Je,Jf,q21])
end
theorem KK.ext {l:List Rr} {apex:List UInt8} {H H':AH} {a o:AV} (h:KK l apex H a o) (he:Ext H H'):KK l apex H' a o:=⟨Sl.ext h.rd he,Sl.ext h.kp he,h.ln,h.sz,h.one⟩
theorem JuE {b:UInt8}:low b=42↔b=42:=by
 unfold low
 by_cases h:65≤b.toNat∧b.toNat≤90
 ·rw [if_pos h]
  have e:(b+32).toNat=b.toNat+32:=by rw [UInt8.toNat_add];show (b.toNat+32) % 256=_;omega
  constructor
  ·intro h2
   have:=congrArg UInt8.toNat h2
   rw [e] at this
   have h42:(42:UInt8).toNat=42:=rfl
   omega
  ·intro h2
   subst h2
   have h42:(42:UInt8).toNat=42:=rfl
   omega
 ·rw [if_neg h]
theorem JmH {s:List UInt8} {ls:List (List UInt8)} (h:JB s=some ls):Jh7 (Jq s)=decide (ls.head?=some [42]):=by
 rw [Zd h]
 cases ls with
 | nil=>rfl
 | cons x r=>
  have hx:=(Q9 h).1 x (by simp)
  unfold Jh7
  rw [Bool.eq_iff_iff]
  simp only [decide_eq_true_eq,List.map_cons,joinL,joinP,List.head?_cons,Option.some.injEq,List.cons_append,List.length_cons,List.length_append]
  constructor
  ·rintro ⟨-,h2⟩
   match x,hx with
   | [],hx=>simp at hx
   | [b],_=>simp [Zz,JuE] at h2;rw [h2]
   | b::c::t,hx=>
    simp only [Zz,List.map_cons,List.length_cons,List.length_map,List.cons_append,List.take_succ_cons,List.take_zero,List.cons.injEq] at h2
    have:=congrArg UInt8.toNat h2.1
    simp only [List.length_cons] at hx
    simp at this
    omega
  ·intro h2
   subst h2
   refine ⟨by simp,?_⟩
   rfl
section
variable {C:Tab} {l:List Rr} {a o:AV} {apex top:List UInt8} {H H1:AH} {e:Env} {L0:List Lv} {g:Nat} {κ:Jaa}
set_option maxHeartbeats 4000000 in
theorem JuP (hK:KK l apex H a o) (hLab:JdA C Yy)
  (he1:Ext H H1) (q0:look e 0=a) (q1:look e 1= .s apex) (q4:look e 4= .la 4 0 0 0) (q12:look e 12=o) (hL0:JJ [0,1,4,12,214,215,216] L0=[⟨4,0,0,[z0V]⟩])
  (hit: ∀ i e' L' g' H',(Jn (l.map zi)).find? (YU (l.map zi))=some i→Ext H H'→Qx L' 4 0 0=some [z0V]→look e' 4= .la 4 0 0 0→look e' 5= .i .i64 26→look e' 6= .i .i64 (i:Nat)→κ .rt e' ⟨L',g',H'⟩)
  (miss:(Jn (l.map zi)).find? (YU (l.map zi))=none→ ∀ e' g' H',Ext H H'→look e' 0=a→look e' 1= .s apex→look e' 4= .la 4 0 0 0→look e' 12=o→κ .nx e' ⟨[⟨4,0,0,[z0V]⟩],g',H'⟩):
  exec C (sAt Jk.s [1,1,1,1,1,1,1,1,1,1,1,1,1,0]) e ⟨L0,g,H1⟩ κ:=by
 simp only [Jk,sAt]
 obtain ⟨l1,l2⟩:=Jfu hK.kp
 have hks:=Jad (l:=l)
 have hln:=hK.ln
 simp -implicitDefEqProofs only [bU,reduceIte,Jc,reduceCtorEq,Ja,Jb,bT,Jd,Je,Jf,q12,l1,l2]
 refine Jl (fun m e M=> ∃ (j:Nat) (L0:List Lv) (g:Nat) (H':AH),j≤(Jn (l.map zi)).length∧m=(Jn (l.map zi)).length-j∧look e 0=a∧look e 1= .s apex∧look e 4= .la 4 0 0 0∧look e 12=o∧look e 214=o∧look e 215= .i .i64 (Jn (l.map zi)).length∧look e 216= .i .i64 j∧M=⟨L0,g,H'⟩∧JJ [0,1,4,12,214,215,216] L0=[⟨4,0,0,[z0V]⟩]∧Ext H H'∧(∀ i (hi:i < (Jn (l.map zi)).length),i < j→YU (l.map zi) (Jn (l.map zi))[i]=false)) ?_ (n:=(Jn (l.map zi)).length)
  ⟨0,_,_,H1,by omega,by omega,by simp -implicitDefEqProofs only [bU,reduceIte,Jc,reduceCtorEq,Ja,Jb,bT,Jd,Je,Jf,q0],by simp -implicitDefEqProofs only [bU,reduceIte,Jc,reduceCtorEq,Ja,Jb,bT,Jd,Je,Jf,q1],by simp -implicitDefEqProofs only [bU,reduceIte,Jc,reduceCtorEq,Ja,Jb,bT,Jd,Je,Jf,q4],by simp -implicitDefEqProofs only [bU,reduceIte,Jc,reduceCtorEq,Ja,Jb,bT,Jd,Je,Jf,q12],rfl,rfl,rfl,rfl,hL0,he1,fun i _ hj=>by omega⟩
 clear q0 q1 q4 q12 hL0 he1
 rintro m e M ⟨j,L0,g,H',hj,rfl,q0,q1,q4,q12,qs,ql,qx,rfl,hL0,he,hp⟩
 have hKe:=hK.ext he
 by_cases h1:(j:Int) < (Jn (l.map zi)).length
 ·have hjl:j < (Jn (l.map zi)).length:=by omega
  obtain ⟨hi,hout,hit0,hone,z1,z2⟩:=hK.get hjl
  obtain ⟨a1,a2,a3,a4⟩:=JjG hKe.kp hjl
  obtain ⟨z,c,f0,rc,rv,ld,v0,v1,v2,v3,v4⟩:=JgI hKe.rd hi
  have hfa:=fun h=>JcX (q:=YU (l.map zi)) hjl h fun i hi=>hp i (by omega) hi
  have hha:=fun (f:List UInt8) (t:Int)=>JgU (L:=l.map zi) hjl f t
  have hts:=fun (p:Nat→Bool)=>any_take_succ hjl p
  have bd:(Jn (l.map zi)).length- (j+1) < (Jn (l.map zi)).length-j:=by omega
  have w9:IntKind.i64.wrap ((j:Int)+1)=((j+1:Nat):Int):=by rw [w64 (by omega) (by omega)];rfl
  have hz0:z0V= .ag [.s [],.ns]:=rfl
  have nx:YU (l.map zi) (Jn (l.map zi))[j]=false→ ∀ i (hi:i < (Jn (l.map zi)).length),i < j+1→YU (l.map zi) (Jn (l.map zi))[i]=false:=fun h i hi hij=>by
   by_cases e:i=j
   ·subst e;exact h
   ·exact hp i hi (by omega)
  generalize hii:(Jn (l.map zi))[j]=i at*
  have hp0:(0:Int)≤(i:Nat):=by omega
  rw [JcE] at rv
  obtain ⟨⟨ls,hn⟩,hcl,htt,hme,hty,hch,hun⟩:=Ze hone
  have hfz:(zi l[i]).f=Jq l[i].o:=rfl
  have htz:(zi l[i]).r.t=l[i].t:=rfl
  obtain ⟨v,H2,k1,e2,m2,i2⟩:=hLab l[i].o H' z1
  rw [hn] at m2
  simp only [Option.getD_some] at m2
  obtain ⟨n1,n2⟩:=m2.sl.len
  rw [List.length_map] at n1
  have hst:=JmH hn
  have hb:YU (l.map zi) i=(decide (ls.head?=some [42]) &&decide (l[i].t=2∨l[i].t=39)):=by
   unfold YU;rw [hout,hit0,hfz,hst,htz];rfl
  by_cases ht:l[i].t=2∨l[i].t=39
  ·have c2:(l[i].t=2)=True∨((l[i].t=2)=False∧(l[i].t=39)=True):=by
    by_cases h2:l[i].t=2
    ·exact .inl (eq_true h2)
    ·exact .inr ⟨eq_false h2,eq_true (ht.resolve_left h2)⟩
   cases hls:ls with
   | nil=>
    rw [hls] at n1
    have n1':Jhx v= .i .i64 0:=n1
    have hw:YU (l.map zi) i=false:=by rw [hb,hls];rfl
    rcases c2 with c2 | ⟨c2,c3⟩
    ·simp -implicitDefEqProofs only [bU,reduceIte,Jc,reduceCtorEq,Ja,Jb,bT,Jd,Je,Jf,bV,Ja,Jb,Jg,q0,q1,q4,q12,qs,ql,qx,h1,hL0,hz0,Jj,a1,a2,a3,a4,z,c,rc,rv,k1,n1',n2,c2,Ji,w9]
     exact ⟨_,bd,j+1,_,_,H2,hjl,rfl,rfl,rfl,rfl,he.trans e2,nx hw⟩
    ·simp -implicitDefEqProofs only [bU,reduceIte,Jc,reduceCtorEq,Ja,Jb,bT,Jd,Je,Jf,bV,Ja,Jb,Jg,q0,q1,q4,q12,qs,ql,qx,h1,hL0,hz0,Jj,a1,a2,a3,a4,z,c,rc,rv,k1,n1',n2,c2,c3,Ji,w9]
     exact ⟨_,bd,j+1,_,_,H2,hjl,rfl,rfl,rfl,rfl,he.trans e2,nx hw⟩
   | cons x r=>
    rw [hls] at n1 m2
    have n3:(0:Int) < ((x::r).length:Nat):=by simp <;>omega
    have hg:((x::r).map AV.s).getD 0 .u= .s x:=rfl
    have ia:=fun (L:List Lv) (g:Nat)=>m2.sl.ia1 (j:=0) (v:= .s x) (by omega) (by simp <;>omega) (by rw [Int.toNat_zero,hg];rfl) L g
    rw [Int.toNat_zero] at ia
    obtain ⟨y1,y2,-⟩:=ia [] 0
    by_cases hx:x=[42]
    ·have hx':(x=[42])=True:=eq_true hx
     have hw:YU (l.map zi) i=true:=by rw [hb,hls,hx];simpa using ht
     rcases c2 with c2 | ⟨c2,c3⟩
     ·simp -implicitDefEqProofs only [bU,reduceIte,Jc,reduceCtorEq,Ja,Jb,bT,Jd,Je,Jf,bV,Ja,Jb,Jg,q0,q1,q4,q12,qs,ql,qx,h1,hL0,hz0,Jj,a1,a2,a3,a4,z,c,rc,rv,k1,n1,n2,n3,c2,y1,y2,ia,hx',Int.toNat_zero,JG,JH]
      exact hit i _ _ _ _ (hfa hw) (he.trans e2) rfl rfl rfl rfl
     ·simp -implicitDefEqProofs only [bU,reduceIte,Jc,reduceCtorEq,Ja,Jb,bT,Jd,Je,Jf,bV,Ja,Jb,Jg,q0,q1,q4,q12,qs,ql,qx,h1,hL0,hz0,Jj,a1,a2,a3,a4,z,c,rc,rv,k1,n1,n2,n3,c2,c3,y1,y2,ia,hx',Int.toNat_zero,JG,JH]
      exact hit i _ _ _ _ (hfa hw) (he.trans e2) rfl rfl rfl rfl
    ·have hw:YU (l.map zi) i=false:=by rw [hb,hls];simp [hx]
     rcases c2 with c2 | ⟨c2,c3⟩
     ·simp -implicitDefEqProofs only [bU,reduceIte,Jc,reduceCtorEq,Ja,Jb,bT,Jd,Je,Jf,bV,Ja,Jb,Jg,q0,q1,q4,q12,qs,ql,qx,h1,hL0,hz0,Jj,a1,a2,a3,a4,z,c,rc,rv,k1,n1,n2,n3,c2,y1,y2,ia,hx,Int.toNat_zero,w9]
      exact ⟨_,bd,j+1,_,_,H2,hjl,rfl,rfl,rfl,rfl,he.trans e2,nx hw⟩
     ·simp -implicitDefEqProofs only [bU,reduceIte,Jc,reduceCtorEq,Ja,Jb,bT,Jd,Je,Jf,bV,Ja,Jb,Jg,q0,q1,q4,q12,qs,ql,qx,h1,hL0,hz0,Jj,a1,a2,a3,a4,z,c,rc,rv,k1,n1,n2,n3,c2,c3,y1,y2,ia,hx,Int.toNat_zero,w9]
      exact ⟨_,bd,j+1,_,_,H2,hjl,rfl,rfl,rfl,rfl,he.trans e2,nx hw⟩
  ·have h2: ¬ l[i].t=2:=fun h=>ht (.inl h)
   have h39: ¬ l[i].t=39:=fun h=>ht (.inr h)
   have hw:YU (l.map zi) i=false:=by rw [hb];simp [h2,h39]
   simp -implicitDefEqProofs only [bU,reduceIte,Jc,reduceCtorEq,Ja,Jb,bT,Jd,Je,Jf,bV,Ja,Jb,Jg,q0,q1,q4,q12,qs,ql,qx,h1,hL0,hz0,Jj,a1,a2,a3,a4,z,c,rc,rv,k1,h2,h39,w9]
   exact ⟨_,bd,j+1,_,_,H2,hjl,rfl,rfl,rfl,rfl,he.trans e2,nx hw⟩
 ·have hil:j=(Jn (l.map zi)).length:=by omega
  subst hil
  have hno:=JcV (q:=YU (l.map zi)) fun i hi=>hp i hi hi
  simp -implicitDefEqProofs only [bU,reduceIte,Jc,reduceCtorEq,Ja,Jb,bT,Jd,Je,Jf,bV,Ja,Jb,Jg,q0,q1,q4,q12,qs,ql,qx,h1,hL0]
  exact miss hno _ _ H' he (by simp -implicitDefEqProofs only [bU,reduceIte,Jc,reduceCtorEq,Ja,Jb,bT,Jd,Je,Jf,q0]) (by simp -implicitDefEqProofs only [bU,reduceIte,Jc,reduceCtorEq,Ja,Jb,bT,Jd,Je,Jf,q1]) (by simp -implicitDefEqProofs only [bU,reduceIte,Jc,reduceCtorEq,Ja,Jb,bT,Jd,Je,Jf,q4]) (by simp -implicitDefEqProofs only [bU,reduceIte,Jc,reduceCtorEq,Ja,Jb,bT,Jd,Je,Jf,q12])
set_option maxHeartbeats 4000000 in
theorem Ju0 (hK:KK l apex H a o) (hLow:Ja1 C Qc)
  (he1:Ext H H1) (hn1:H.n+1≤H1.n) (hx1:H1.at' H.n= .map true []) (q0:look e 0=a) (q1:look e 1= .s apex) (q4:look e 4= .la 4 0 0 0) (q12:look e 12=o) (q29:look e 29= .mp H.n) (hL0:JJ [0,1,4,12,29,250,251,252] L0=[⟨4,0,0,[z0V]⟩])
  (hit: ∀ i e' L' g' H',(Jn (l.map zi)).find? (YB (l.map zi))=some i→Ext H H'→Qx L' 4 0 0=some [z0V]→look e' 4= .la 4 0 0 0→look e' 5= .i .i64 23→look e' 6= .i .i64 (i:Nat)→κ .rt e' ⟨L',g',H'⟩)
  (miss:(Jn (l.map zi)).find? (YB (l.map zi))=none→ ∀ e' g' H',Ext H H'→H.n+1≤H'.n→(∃ lb:List (Jbj×Bool),H'.at' H.n= .map true (JaM kK .b lb)∧ ∀ k,Q8 lb k=if (k.2=5∨k.2=39)∧((Jn (l.map zi)).any fun i=>decide ((itZ (l.map zi) i).f=k.1∧(itZ (l.map zi) i).r.t=k.2))=true then some true else none)→look e' 0=a→look e' 1= .s apex→look e' 4= .la 4 0 0 0→look e' 12=o→look e' 29= .mp H.n→κ .nx e' ⟨[⟨4,0,0,[z0V]⟩],g',H'⟩):
  exec C (sAt Jk.s [1,1,1,1,1,1,1,1,1,1,1,1,1,1,1,0]) e ⟨L0,g,H1⟩ κ:=by
 simp only [Jk,sAt]
 obtain ⟨l1,l2⟩:=Jfu hK.kp
 have hks:=Jad (l:=l)
 have hln:=hK.ln
 simp -implicitDefEqProofs only [bU,reduceIte,Jc,reduceCtorEq,Ja,Jb,bT,Jd,Je,Jf,q12,l1,l2]
 refine Jl (fun m e M=> ∃ (j:Nat) (L0:List Lv) (g:Nat) (H':AH),j≤(Jn (l.map zi)).length∧m=(Jn (l.map zi)).length-j∧look e 0=a∧look e 1= .s apex∧look e 4= .la 4 0 0 0∧look e 12=o∧look e 250=o∧look e 251= .i .i64 (Jn (l.map zi)).length∧look e 252= .i .i64 j∧M=⟨L0,g,H'⟩∧JJ [0,1,4,12,29,250,251,252] L0=[⟨4,0,0,[z0V]⟩]∧Ext H H'∧(∀ i (hi:i < (Jn (l.map zi)).length),i < j→YB (l.map zi) (Jn (l.map zi))[i]=false)∧H.n+1≤H'.n∧(∃ lb:List (Jbj×Bool),H'.at' H.n= .map true (JaM kK .b lb)∧ ∀ k,Q8 lb k=if (k.2=5∨k.2=39)∧(((Jn (l.map zi)).take j).any fun i=>decide ((itZ (l.map zi) i).f=k.1∧(itZ (l.map zi) i).r.t=k.2))=true then some true else none)∧look e 29= .mp H.n) ?_ (n:=(Jn (l.map zi)).length)
  ⟨0,_,_,H1,by omega,by omega,by simp -implicitDefEqProofs only [bU,reduceIte,Jc,reduceCtorEq,Ja,Jb,bT,Jd,Je,Jf,q0],by simp -implicitDefEqProofs only [bU,reduceIte,Jc,reduceCtorEq,Ja,Jb,bT,Jd,Je,Jf,q1],by simp -implicitDefEqProofs only [bU,reduceIte,Jc,reduceCtorEq,Ja,Jb,bT,Jd,Je,Jf,q4],by simp -implicitDefEqProofs only [bU,reduceIte,Jc,reduceCtorEq,Ja,Jb,bT,Jd,Je,Jf,q12],rfl,rfl,rfl,rfl,hL0,he1,fun i _ hj=>by omega,hn1,⟨[],hx1,fun k=>by simp [Q8]⟩,by simp -implicitDefEqProofs only [bU,reduceIte,Jc,reduceCtorEq,Ja,Jb,bT,Jd,Je,Jf,q29]⟩
 clear q0 q1 q4 q12 hL0 he1 q29 hn1 hx1
 rintro m e M ⟨j,L0,g,H',hj,rfl,q0,q1,q4,q12,qs,ql,qx,rfl,hL0,he,hp,hn1,hx,q29⟩
 have hKe:=hK.ext he
 by_cases h1:(j:Int) < (Jn (l.map zi)).length
 ·have hjl:j < (Jn (l.map zi)).length:=by omega
  obtain ⟨hi,hout,hit0,hone,z1,z2⟩:=hK.get hjl
  obtain ⟨a1,a2,a3,a4⟩:=JjG hKe.kp hjl
  obtain ⟨z,c,f0,rc,rv,ld,v0,v1,v2,v3,v4⟩:=JgI hKe.rd hi
  have hfa:=fun h=>JcX (q:=YB (l.map zi)) hjl h fun i hi=>hp i (by omega) hi
  have hha:=fun (f:List UInt8) (t:Int)=>JgU (L:=l.map zi) hjl f t
  have hts:=fun (p:Nat→Bool)=>any_take_succ hjl p
  have bd:(Jn (l.map zi)).length- (j+1) < (Jn (l.map zi)).length-j:=by omega
  have w9:IntKind.i64.wrap ((j:Int)+1)=((j+1:Nat):Int):=by rw [w64 (by omega) (by omega)];rfl
  have hz0:z0V= .ag [.s [],.ns]:=rfl
  have nx:YB (l.map zi) (Jn (l.map zi))[j]=false→ ∀ i (hi:i < (Jn (l.map zi)).length),i < j+1→YB (l.map zi) (Jn (l.map zi))[i]=false:=fun h i hi hij=>by
   by_cases e:i=j
   ·subst e;exact h
   ·exact hp i hi (by omega)
  generalize hii:(Jn (l.map zi))[j]=i at*
  have hp0:(0:Int)≤(i:Nat):=by omega
  rw [JcE] at rv
  obtain ⟨⟨ls,hn⟩,hcl,htt,hme,hty,hch,hun⟩:=Ze hone
  have hfz:(zi l[i]).f=Jq l[i].o:=rfl
  have htz:(zi l[i]).r.t=l[i].t:=rfl
  have k1:=hLow l[i].o H' z1
  rw [←Xh hn] at k1
  have hb:YB (l.map zi) i=(decide (l[i].t=5∨l[i].t=39) && ((Jn (l.map zi)).take j).any fun i'=>decide ((itZ (l.map zi) i').f=Jq l[i].o∧(itZ (l.map zi) i').r.t=l[i].t)):=by
   unfold YB;rw [hout,hit0,hha];rfl
  obtain ⟨lb,b1,b2⟩:=hx
  obtain ⟨u1,u2,u3⟩:=Jkx b1 (Jq l[i].o) l[i].t
  rw [b2] at u3
  obtain ⟨m1,m2,m3⟩:=Jpr b1 (Jq l[i].o) l[i].t true (v:= .b true) rfl
  have hnx: ∀ (lb':List (Jbj×Bool)),(∀ k,Q8 lb' k=if (l[i].t=5∨l[i].t=39)∧k=(Jq l[i].o,l[i].t) then some true else Q8 lb k)→ ∀ k,Q8 lb' k=if (k.2=5∨k.2=39)∧(((Jn (l.map zi)).take (j+1)).any fun i=>decide ((itZ (l.map zi) i).f=k.1∧(itZ (l.map zi) i).r.t=k.2))=true then some true else none:=fun lb' h k=>by
   rw [h,b2,hts]
   simp only [hii,hit0,hfz,htz,Bool.or_eq_true,decide_eq_true_eq]
   by_cases e1:k=(Jq l[i].o,l[i].t)
   ·subst e1
    simp only [and_self,or_true,and_true]
    by_cases e2:l[i].t=5∨l[i].t=39
    ·rw [if_pos e2,if_pos e2]
    ·rw [if_neg e2,if_neg (fun hh=>e2 hh.1),if_neg e2]
   ·have e3: ¬ (Jq l[i].o=k.1∧l[i].t=k.2):=fun hh=>e1 (Prod.ext hh.1.symm hh.2.symm)
    rw [if_neg fun hh=>e1 hh.2]
    simp only [e3,or_false]
  have hid:Ext H (H'.set H.n (.map true (JaM kK AV.b (Z4 lb (Jq l[i].o,l[i].t) true)))):=he.set (Nat.le_refl _)
  by_cases ht:l[i].t=5∨l[i].t=39
  ·have c2:(l[i].t=5)=True∨((l[i].t=5)=False∧(l[i].t=39)=True):=by
    by_cases h2:l[i].t=5
    ·exact .inl (eq_true h2)
    ·exact .inr ⟨eq_false h2,eq_true (ht.resolve_left h2)⟩
   simp only [ht,true_and] at u3
   cases hany:((Jn (l.map zi)).take j).any fun i'=>decide ((itZ (l.map zi) i').f=Jq l[i].o∧(itZ (l.map zi) i').r.t=l[i].t) with
   | true=>
    rw [hany] at hb
    rw [if_pos hany] at u3
    simp only [Option.map_some] at u3
    have hw:YB (l.map zi) i=true:=by rw [hb,decide_eq_true ht];rfl
    rcases c2 with c2 | ⟨c2,c3⟩
    ·simp -implicitDefEqProofs only [bU,reduceIte,Jc,reduceCtorEq,Ja,Jb,bT,Jd,Je,Jf,bV,Ja,Jb,Jg,Qs,J6,q0,q1,q4,q12,qs,ql,qx,h1,hL0,hz0,Jj,a1,a2,a3,a4,z,c,rc,rv,q29,k1,c2,u1,u2,u3,lkV,JG,JH]
     exact hit i _ _ _ _ (hfa hw) he rfl rfl rfl rfl
    ·simp -implicitDefEqProofs only [bU,reduceIte,Jc,reduceCtorEq,Ja,Jb,bT,Jd,Je,Jf,bV,Ja,Jb,Jg,Qs,J6,q0,q1,q4,q12,qs,ql,qx,h1,hL0,hz0,Jj,a1,a2,a3,a4,z,c,rc,rv,q29,k1,c2,c3,u1,u2,u3,lkV,JG,JH]
     exact hit i _ _ _ _ (hfa hw) he rfl rfl rfl rfl
   | false=>
    rw [hany] at hb
    rw [if_neg (by rw [hany];decide)] at u3
    simp only [Option.map_none] at u3
    have hw:YB (l.map zi) i=false:=by rw [hb];simp
    have fin:=hnx (Z4 lb (Jq l[i].o,l[i].t) true) fun k=>by
     rw [JaI]
     by_cases e1:(Jq l[i].o,l[i].t)=k
     ·rw [if_pos e1,if_pos ⟨ht,e1.symm⟩]
     ·rw [if_neg e1,if_neg fun hh=>e1 hh.2.symm]
    rcases c2 with c2 | ⟨c2,c3⟩
    ·simp -implicitDefEqProofs only [bU,reduceIte,Jc,reduceCtorEq,Ja,Jb,bT,Jd,Je,Jf,bV,Ja,Jb,Jg,Qs,J6,q0,q1,q4,q12,qs,ql,qx,h1,hL0,hz0,Jj,a1,a2,a3,a4,z,c,rc,rv,q29,k1,c2,u1,u2,u3,m1,m2,m3,lkV,JG,JH,w9]
     exact ⟨_,bd,j+1,_,_,_,hjl,rfl,rfl,rfl,rfl,hid,nx hw,hn1,⟨_,Z9,fin⟩⟩
    ·simp -implicitDefEqProofs only [bU,reduceIte,Jc,reduceCtorEq,Ja,Jb,bT,Jd,Je,Jf,bV,Ja,Jb,Jg,Qs,J6,q0,q1,q4,q12,qs,ql,qx,h1,hL0,hz0,Jj,a1,a2,a3,a4,z,c,rc,rv,q29,k1,c2,c3,u1,u2,u3,m1,m2,m3,lkV,JG,JH,w9]
     exact ⟨_,bd,j+1,_,_,_,hjl,rfl,rfl,rfl,rfl,hid,nx hw,hn1,⟨_,Z9,fin⟩⟩
  ·have h2: ¬ l[i].t=5:=fun h=>ht (.inl h)
   have h39: ¬ l[i].t=39:=fun h=>ht (.inr h)
   have hw:YB (l.map zi) i=false:=by rw [hb];simp [h2,h39]
   simp -implicitDefEqProofs only [bU,reduceIte,Jc,reduceCtorEq,Ja,Jb,bT,Jd,Je,Jf,bV,Ja,Jb,Jg,Qs,J6,q0,q1,q4,q12,qs,ql,qx,h1,hL0,hz0,Jj,a1,a2,a3,a4,z,c,rc,rv,q29,k1,h2,h39,w9]
   exact ⟨_,bd,j+1,_,_,H',hjl,rfl,rfl,rfl,rfl,he,nx hw,hn1,⟨lb,b1,hnx lb fun k=>by rw [if_neg fun hh=>ht hh.1]⟩⟩
 ·have hil:j=(Jn (l.map zi)).length:=by omega
  subst hil
  have hno:=JcV (q:=YB (l.map zi)) fun i hi=>hp i hi hi
  rw [List.take_length] at hx
  simp -implicitDefEqProofs only [bU,reduceIte,Jc,reduceCtorEq,Ja,Jb,bT,Jd,Je,Jf,bV,Ja,Jb,Jg,q0,q1,q4,q12,q29,qs,ql,qx,h1,hL0]
  exact miss hno _ _ H' he hn1 hx (by simp -implicitDefEqProofs only [bU,reduceIte,Jc,reduceCtorEq,Ja,Jb,bT,Jd,Je,Jf,q0]) (by simp -implicitDefEqProofs only [bU,reduceIte,Jc,reduceCtorEq,Ja,Jb,bT,Jd,Je,Jf,q1]) (by simp -implicitDefEqProofs only [bU,reduceIte,Jc,reduceCtorEq,Ja,Jb,bT,Jd,Je,Jf,q4]) (by simp -implicitDefEqProofs only [bU,reduceIte,Jc,reduceCtorEq,Ja,Jb,bT,Jd,Je,Jf,q12]) (by simp -implicitDefEqProofs only [bU,reduceIte,Jc,reduceCtorEq,Ja,Jb,bT,Jd,Je,Jf,q29])
end
section
variable {C:Tab} {l:List Rr} {a o:AV} {apex top:List UInt8} {H H1:AH} {e:Env} {L0:List Lv} {g:Nat} {κ:Jaa}
set_option maxHeartbeats 4000000 in
theorem JuO (hK:KK l apex H a o) (hLow:Ja1 C Qc) (hS:(∃ lb:List (Jbj×Bool),H1.at' H.n= .map true (JaM kK .b lb)∧ ∀ k,Q8 lb k=if (k.2=5∨k.2=39)∧((Jn (l.map zi)).any fun i=>decide ((itZ (l.map zi) i).f=k.1∧(itZ (l.map zi) i).r.t=k.2))=true then some true else none))
  (he1:Ext H H1) (q0:look e 0=a) (q1:look e 1= .s apex) (q4:look e 4= .la 4 0 0 0) (q12:look e 12=o) (q29:look e 29= .mp H.n) (hL0:JJ [0,1,4,12,29,282,283,284] L0=[⟨4,0,0,[z0V]⟩])
  (hit: ∀ i e' L' g' H',(Jn (l.map zi)).find? (cnB (l.map zi))=some i→Ext H H'→Qx L' 4 0 0=some [z0V]→look e' 4= .la 4 0 0 0→look e' 5= .i .i64 23→look e' 6= .i .i64 (i:Nat)→κ .rt e' ⟨L',g',H'⟩)
  (miss:(Jn (l.map zi)).find? (cnB (l.map zi))=none→ ∀ e' g' H',Ext H H'→H'=H1→look e' 0=a→look e' 1= .s apex→look e' 4= .la 4 0 0 0→look e' 12=o→look e' 29= .mp H.n→κ .nx e' ⟨[⟨4,0,0,[z0V]⟩],g',H'⟩):
  exec C (sAt Jk.s [1,1,1,1,1,1,1,1,1,1,1,1,1,1,1,1,0]) e ⟨L0,g,H1⟩ κ:=by
 simp only [Jk,sAt]
 obtain ⟨l1,l2⟩:=Jfu hK.kp
 have hks:=Jad (l:=l)
 have hln:=hK.ln
 simp -implicitDefEqProofs only [bU,reduceIte,Jc,reduceCtorEq,Ja,Jb,bT,Jd,Je,Jf,q12,l1,l2]
 refine Jl (fun m e M=> ∃ (j:Nat) (L0:List Lv) (g:Nat) (H':AH),j≤(Jn (l.map zi)).length∧m=(Jn (l.map zi)).length-j∧look e 0=a∧look e 1= .s apex∧look e 4= .la 4 0 0 0∧look e 12=o∧look e 282=o∧look e 283= .i .i64 (Jn (l.map zi)).length∧look e 284= .i .i64 j∧M=⟨L0,g,H'⟩∧JJ [0,1,4,12,29,282,283,284] L0=[⟨4,0,0,[z0V]⟩]∧Ext H H'∧(∀ i (hi:i < (Jn (l.map zi)).length),i < j→cnB (l.map zi) (Jn (l.map zi))[i]=false)∧H'=H1∧look e 29= .mp H.n) ?_ (n:=(Jn (l.map zi)).length)
  ⟨0,_,_,H1,by omega,by omega,by simp -implicitDefEqProofs only [bU,reduceIte,Jc,reduceCtorEq,Ja,Jb,bT,Jd,Je,Jf,q0],by simp -implicitDefEqProofs only [bU,reduceIte,Jc,reduceCtorEq,Ja,Jb,bT,Jd,Je,Jf,q1],by simp -implicitDefEqProofs only [bU,reduceIte,Jc,reduceCtorEq,Ja,Jb,bT,Jd,Je,Jf,q4],by simp -implicitDefEqProofs only [bU,reduceIte,Jc,reduceCtorEq,Ja,Jb,bT,Jd,Je,Jf,q12],rfl,rfl,rfl,rfl,hL0,he1,fun i _ hj=>by omega,rfl,by simp -implicitDefEqProofs only [bU,reduceIte,Jc,reduceCtorEq,Ja,Jb,bT,Jd,Je,Jf,q29]⟩
 clear q0 q1 q4 q12 hL0 he1 q29
 rintro m e M ⟨j,L0,g,H',hj,rfl,q0,q1,q4,q12,qs,ql,qx,rfl,hL0,he,hp,hH,q29⟩
 have hKe:=hK.ext he
 by_cases h1:(j:Int) < (Jn (l.map zi)).length
 ·have hjl:j < (Jn (l.map zi)).length:=by omega
  obtain ⟨hi,hout,hit0,hone,z1,z2⟩:=hK.get hjl
  obtain ⟨a1,a2,a3,a4⟩:=JjG hKe.kp hjl
  obtain ⟨z,c,f0,rc,rv,ld,v0,v1,v2,v3,v4⟩:=JgI hKe.rd hi
  have hfa:=fun h=>JcX (q:=cnB (l.map zi)) hjl h fun i hi=>hp i (by omega) hi
  have hha:=fun (f:List UInt8) (t:Int)=>JgU (L:=l.map zi) hjl f t
  have hts:=fun (p:Nat→Bool)=>any_take_succ hjl p
  have bd:(Jn (l.map zi)).length- (j+1) < (Jn (l.map zi)).length-j:=by omega
  have w9:IntKind.i64.wrap ((j:Int)+1)=((j+1:Nat):Int):=by rw [w64 (by omega) (by omega)];rfl
  have hz0:z0V= .ag [.s [],.ns]:=rfl
  have nx:cnB (l.map zi) (Jn (l.map zi))[j]=false→ ∀ i (hi:i < (Jn (l.map zi)).length),i < j+1→cnB (l.map zi) (Jn (l.map zi))[i]=false:=fun h i hi hij=>by
   by_cases e:i=j
   ·subst e;exact h
   ·exact hp i hi (by omega)
  generalize hii:(Jn (l.map zi))[j]=i at*
  have hp0:(0:Int)≤(i:Nat):=by omega
  rw [JcE] at rv
  obtain ⟨⟨ls,hn⟩,hcl,htt,hme,hty,hch,hun⟩:=Ze hone
  have hfz:(zi l[i]).f=Jq l[i].o:=rfl
  have htz:(zi l[i]).r.t=l[i].t:=rfl
  subst hH
  have k1:=hLow l[i].o H' z1
  rw [←Xh hn] at k1
  have hb:cnB (l.map zi) i=(decide (l[i].t≠5) &&decide (l[i].t≠47) && (Jn (l.map zi)).any fun i'=>decide ((itZ (l.map zi) i').f=Jq l[i].o∧(itZ (l.map zi) i').r.t=5)):=by
   unfold cnB;rw [hout,hit0,JdD];rfl
  obtain ⟨lb,b1,b2⟩:=hS
  obtain ⟨u1,u2,u3⟩:=Jkx b1 (Jq l[i].o) 5
  rw [b2] at u3
  simp only [true_or,true_and] at u3
  cases hany:(Jn (l.map zi)).any fun i'=>decide ((itZ (l.map zi) i').f=Jq l[i].o∧(itZ (l.map zi) i').r.t=5) with
  | true=>
   rw [hany] at hb
   rw [if_pos hany] at u3
   simp only [Option.map_some] at u3
   by_cases h5:l[i].t=5
   ·have h5':(l[i].t=5)=True:=eq_true h5
    have hw:cnB (l.map zi) i=false:=by rw [hb];simp [h5]
    simp -implicitDefEqProofs only [bU,reduceIte,Jc,reduceCtorEq,Ja,Jb,bT,Jd,Je,Jf,bV,Ja,Jb,Jg,q0,q1,q4,q12,qs,ql,qx,h1,hL0,hz0,Jj,a1,a2,a3,a4,z,c,rc,rv,q29,k1,u1,u2,u3,lkV,h5',JG,JH,w9]
    exact ⟨_,bd,j+1,_,_,_,hjl,rfl,rfl,rfl,rfl,he,nx hw,rfl⟩
   ·by_cases h47:l[i].t=47
    ·have h47':(l[i].t=47)=True:=eq_true h47
     have hw:cnB (l.map zi) i=false:=by rw [hb];simp [h47]
     simp -implicitDefEqProofs only [bU,reduceIte,Jc,reduceCtorEq,Ja,Jb,bT,Jd,Je,Jf,bV,Ja,Jb,Jg,q0,q1,q4,q12,qs,ql,qx,h1,hL0,hz0,Jj,a1,a2,a3,a4,z,c,rc,rv,q29,k1,u1,u2,u3,lkV,h5,h47',JG,JH,w9]
     exact ⟨_,bd,j+1,_,_,_,hjl,rfl,rfl,rfl,rfl,he,nx hw,rfl⟩
    ·have hw:cnB (l.map zi) i=true:=by rw [hb];simp [h5,h47]
     simp -implicitDefEqProofs only [bU,reduceIte,Jc,reduceCtorEq,Ja,Jb,bT,Jd,Je,Jf,bV,Ja,Jb,Jg,q0,q1,q4,q12,qs,ql,qx,h1,hL0,hz0,Jj,a1,a2,a3,a4,z,c,rc,rv,q29,k1,u1,u2,u3,lkV,h5,h47,JG,JH]
     exact hit i _ _ _ _ (hfa hw) he rfl rfl rfl rfl
  | false=>
   rw [hany] at hb
   rw [if_neg (by rw [hany];decide)] at u3
   simp only [Option.map_none] at u3
   have hw:cnB (l.map zi) i=false:=by rw [hb];simp
   simp -implicitDefEqProofs only [bU,reduceIte,Jc,reduceCtorEq,Ja,Jb,bT,Jd,Je,Jf,bV,Ja,Jb,Jg,q0,q1,q4,q12,qs,ql,qx,h1,hL0,hz0,Jj,a1,a2,a3,a4,z,c,rc,rv,q29,k1,u1,u2,u3,lkV,JG,JH,w9]
   exact ⟨_,bd,j+1,_,_,_,hjl,rfl,rfl,rfl,rfl,he,nx hw,rfl⟩
 ·have hil:j=(Jn (l.map zi)).length:=by omega
  subst hil
  have hno:=JcV (q:=cnB (l.map zi)) fun i hi=>hp i hi hi
  subst hH
  simp -implicitDefEqProofs only [bU,reduceIte,Jc,reduceCtorEq,Ja,Jb,bT,Jd,Je,Jf,bV,Ja,Jb,Jg,q0,q1,q4,q12,q29,qs,ql,qx,h1,hL0]
  exact miss hno _ _ _ he rfl (by simp -implicitDefEqProofs only [bU,reduceIte,Jc,reduceCtorEq,Ja,Jb,bT,Jd,Je,Jf,q0]) (by simp -implicitDefEqProofs only [bU,reduceIte,Jc,reduceCtorEq,Ja,Jb,bT,Jd,Je,Jf,q1]) (by simp -implicitDefEqProofs only [bU,reduceIte,Jc,reduceCtorEq,Ja,Jb,bT,Jd,Je,Jf,q4]) (by simp -implicitDefEqProofs only [bU,reduceIte,Jc,reduceCtorEq,Ja,Jb,bT,Jd,Je,Jf,q12]) (by simp -implicitDefEqProofs only [bU,reduceIte,Jc,reduceCtorEq,Ja,Jb,bT,Jd,Je,Jf,q29])
end
theorem Jke {x y:List UInt8} {a b:List (List UInt8)} (hx:JB x=some a) (hy:JB y=some b):JfH x (Jq y)=JfH (Jq x) (Jq y):=by
 rw [Bool.eq_iff_iff,Jjk hx (ZX hy),Jjk (ZX hx) (ZX hy)]
 simp only [List.length_map,List.map_map]
 have e: ∀ l:List (List UInt8),l.map (Zz∘Zz)=l.map Zz:=fun l=>by congr 1;funext x;exact Jhs x
 rw [e,e]
theorem JiG {x y:List UInt8} {a b:List (List UInt8)} (hx:JB x=some a) (hy:JB y=some b):JqF x (Jq y)=(decide (Jq y≠Jq x) &&JfH (Jq x) (Jq y)):=by
 unfold JqF Jdg
 rw [Jke hx hy,JcO hy]
 by_cases h:Jq x=Jq y
 ·simp [h,Jcx hy]
 ·have h2: ¬ Jq y=Jq x:=fun e=>h e.symm
  simp [h,h2]
theorem Jml {s:List Nat} {n:Nat} (h:s.Nodup) (hs: ∀ x,x∈s→x < n):s.length≤n:=by
 have hp:s.Perm ((List.range n).filter fun x=>decide (x∈s)):=(List.perm_ext_iff_of_nodup h (List.Pairwise.filter _ List.nodup_range)).2 fun x=>by
  rw [List.mem_filter,List.mem_range]
  exact ⟨fun hx=>⟨hs x hx,by simpa using hx⟩,fun hx=>by simpa using hx.2⟩
 rw [hp.length_eq]
 exact Nat.le_trans (List.length_filter_le _ _) (by simp)
theorem Jrt {κ β:Type} [DecidableEq κ] {E:JrV κ} {ev:β→AV} {l:List (κ×β)} {j:Nat} (hj:j < l.length):(JaM E ev l).getD j (.u,.u)=(E.ek l[j].1,ev l[j].2):=by
 simp [JaM,List.getD,hj]
section
variable {C:Tab} {l:List Rr} {a o:AV} {apex top:List UInt8} {H H1:AH} {e:Env} {L0:List Lv} {g:Nat} {κ:Jaa}
abbrev Jew (s:List Nat):List AV:=s.map fun (n:Nat)=>AV.i .i64 (n:Int)
theorem JnJ (s:List Nat):((AV.ag (Jew s)).cells.map fun x=>x.toI.toNat)=s:=by
 show (Jew s).map _=s
 rw [List.map_map]
 conv=>rhs;rw [←List.map_id s]
 refine List.map_congr_left fun n _=> ?_
 simp [AV.toI]
theorem Jja {id gi N:Nat} {s:List Nat} {L:List Lv} {g:Nat} {H:AH} {es:List (AV×AV)} {t:Nat} (hL:Qx L t gi 2=some [.mp id,.i .i64 (N:Nat),.ag (Jew s)]) (hH:H.at' id= .map true es) (hN:es.length=N):
  nmC ⟨L,g,H⟩ (.li t gi)∧Jdd ⟨L,g,H⟩ (.li t gi)= .mp id∧ZC ⟨L,g,H⟩ (.li t gi)=s∧Jfz ⟨L,g,H⟩ (.li t gi)=s.getLastD 0∧Yq H (.mp id)=es∧ ∀ j,nmM ⟨L,g,H⟩ (.li t gi) j=⟨Jhp L t [.mp id,.i .i64 (N:Nat),.ag (Jew (s++[j]))],g,H⟩:=by
 have hX:nmX ⟨L,g,H⟩ (.li t gi)=[.mp id,.i .i64 (N:Nat),.ag (Jew s)]:=by simp only [nmX,Mem.getL,hL];rfl
 have hI:Jdd ⟨L,g,H⟩ (.li t gi)= .mp id:=by simp only [Jdd,hX];rfl
 have hS:ZC ⟨L,g,H⟩ (.li t gi)=s:=by
  simp only [ZC,hX]
  exact JnJ s
 have hE:Yq H (.mp id)=es:=JkV hH
 refine ⟨⟨⟨t,gi,id,(N:Int),Jew s,rfl,hL,by rw [hE,hN]⟩,?_⟩,hI,hS,?_,hE,fun j=> ?_⟩
 ·rw [hI];simp only [Jfp,hH]
 ·simp only [Jfz,hS]
 ·simp only [nmM,hX,hI]
  simp [AV.cells,Jew]
set_option maxHeartbeats 4000000 in
theorem Jrg (hK:KK l apex H a o) (hU:Jnt C XD) (he:Ext H H1) {lb:List (Jbj×Bool)} (hlb:H1.at' H.n= .map true (JaM kK .b lb)) (hS:(∀ k,Q8 lb k=if (k.2=5∨k.2=39)∧((Jn (l.map zi)).any fun i=>decide ((itZ (l.map zi) i).f=k.1∧(itZ (l.map zi) i).r.t=k.2))=true then some true else none))
  (q0:look e 0=a) (q1:look e 1= .s apex) (q4:look e 4= .la 4 0 0 0) (q12:look e 12=o) (q29:look e 29= .mp H.n)
  (hit: ∀ i e' L' g',(Jn (l.map zi)).find? (JdK (l.map zi))=some i→Qx L' 4 0 0=some [z0V]→look e' 4= .la 4 0 0 0→look e' 5= .i .i64 25→look e' 6= .i .i64 (i:Nat)→κ .rt e' ⟨L',g',H1⟩)
  (miss:(Jn (l.map zi)).find? (JdK (l.map zi))=none→κ .nx [(314,.b false),(0,a),(1,.s apex),(4,.la 4 0 0 0),(12,o),(29,.mp H.n),(311,o),(312,.i .i64 (Jn (l.map zi)).length),(313,.i .i64 (Jn (l.map zi)).length)] ⟨[⟨4,0,0,[z0V]⟩],g+(Jn (l.map zi)).length*(1+lb.length),H1⟩):
  exec C (sAt Jk.s [1,1,1,1,1,1,1,1,1,1,1,1,1,1,1,1,1,0]) e ⟨[⟨4,0,0,[z0V]⟩],g,H1⟩ κ:=by
 have hput:=(JaY [1,2,2,1,1,0,2,1,1,2,2,1,1] (sAt Jk.s [1,1,1,1,1,1,1,1,1,1,1,1,1,1,1,1,1,0])).symm
 generalize hB:sAt (sAt Jk.s [1,1,1,1,1,1,1,1,1,1,1,1,1,1,1,1,1,0]) [1,2,2,1,1,0,2,1,1,2,2,1,1]=B at hput
 rw [hput]
 clear hput
 simp only [Jk,sAt] at hB
 simp only [Jk,sAt,JaX]
 have hKe:=hK.ext he
 obtain ⟨l1,l2⟩:=Jfu hKe.kp
 have hks:=Jad (l:=l)
 have hln:=hK.ln
 have hNl:(JaM kK AV.b lb).length=lb.length:=by simp [JaM]
 simp -implicitDefEqProofs only [bU,reduceIte,Jc,reduceCtorEq,Ja,Jb,bT,Jd,Je,Jf,q12,l1,l2]
 refine Jl (fun m e M=> ∃ (j:Nat) (L0:List Lv),j≤(Jn (l.map zi)).length∧m=(Jn (l.map zi)).length-j∧look e 0=a∧look e 1= .s apex∧look e 4= .la 4 0 0 0∧look e 12=o∧look e 29= .mp H.n∧look e 311=o∧look e 312= .i .i64 (Jn (l.map zi)).length∧look e 313= .i .i64 j∧M=⟨L0,g+j*(1+lb.length),H1⟩∧JJ [0,1,4,12,29,311,312,313] L0=[⟨4,0,0,[z0V]⟩]∧(∀ i (hi:i < (Jn (l.map zi)).length),i < j→JdK (l.map zi) (Jn (l.map zi))[i]=false)) ?_ (n:=(Jn (l.map zi)).length)
  ⟨0,_,by omega,by omega,by simp -implicitDefEqProofs only [bU,reduceIte,Jc,reduceCtorEq,Ja,Jb,bT,Jd,Je,Jf,q0],by simp -implicitDefEqProofs only [bU,reduceIte,Jc,reduceCtorEq,Ja,Jb,bT,Jd,Je,Jf,q1],by simp -implicitDefEqProofs only [bU,reduceIte,Jc,reduceCtorEq,Ja,Jb,bT,Jd,Je,Jf,q4],by simp -implicitDefEqProofs only [bU,reduceIte,Jc,reduceCtorEq,Ja,Jb,bT,Jd,Je,Jf,q12],by simp -implicitDefEqProofs only [bU,reduceIte,Jc,reduceCtorEq,Ja,Jb,bT,Jd,Je,Jf,q29],rfl,rfl,rfl,by simp;rfl,rfl,fun i _ hj=>by omega⟩
 clear q0 q1 q4 q12 q29
 rintro m e M ⟨j,L0,hj,rfl,q0,q1,q4,q12,q29,qs,ql,qx,rfl,hL0,hp⟩
 by_cases h1:(j:Int) < (Jn (l.map zi)).length
 ·have hjl:j < (Jn (l.map zi)).length:=by omega
  obtain ⟨hi,hout,hit0,hone,z1,z2⟩:=hK.get hjl
  obtain ⟨a1,a2,a3,a4⟩:=JjG hKe.kp hjl
  obtain ⟨z,c,f0,rc,rv,ld,v0,v1,v2,v3,v4⟩:=JgI hKe.rd hi
  have hfa:=fun h=>JcX (q:=JdK (l.map zi)) hjl h fun i hi=>hp i (by omega) hi
  have bd:(Jn (l.map zi)).length- (j+1) < (Jn (l.map zi)).length-j:=by omega
  have w9:IntKind.i64.wrap ((j:Int)+1)=((j+1:Nat):Int):=by rw [w64 (by omega) (by omega)];rfl
  have hz0:z0V= .ag [.s [],.ns]:=rfl
  have nx:JdK (l.map zi) (Jn (l.map zi))[j]=false→ ∀ i (hi:i < (Jn (l.map zi)).length),i < j+1→JdK (l.map zi) (Jn (l.map zi))[i]=false:=fun h i hi hij=>by
   by_cases e:i=j
   ·subst e;exact h
   ·exact hp i hi (by omega)
  have hbk:=Jlk (L:=l.map zi) hout
  generalize hii:(Jn (l.map zi))[j]=i at*
  have hp0:(0:Int)≤(i:Nat):=by omega
  obtain ⟨⟨ls,hn⟩,hcl,htt,hme,hty,hch,hun⟩:=Ze hone
  rw [hit0] at hbk
  have hfz:(zi l[i]).f=Jq l[i].o:=rfl
  rw [hfz] at hbk
  let bad:Nat→Bool:=fun k=>decide ((lb.getD k (([],0),false)).1.2=39) &&JqF l[i].o (lb.getD k (([],0),false)).1.1
  have hkn: ∀ k (hk:k < lb.length),lb[k].1.1.length≤1099511627776∧(bad k=true→JdK (l.map zi) i=true):=fun k hk=>by
   have hmem:Q8 lb lb[k].1≠none:=fun h=>JjS.1 h lb[k] (List.getElem_mem hk) rfl
   rw [hS] at hmem
   split at hmem
   ·rename_i hh
    obtain ⟨h2,h3⟩:=hh
    obtain ⟨i',hi',h4⟩:=List.any_eq_true.1 h3
    simp only [decide_eq_true_eq] at h4
    obtain ⟨j',hj',rfl⟩:=List.mem_iff_getElem.1 hi'
    obtain ⟨g1,g2,g3,g4,g5,g6⟩:=hK.get hj'
    obtain ⟨⟨ls',hn'⟩,-⟩:=Ze g4
    rw [g3] at h4
    have hf':Jq (l[(Jn (l.map zi))[j']]).o=lb[k].1.1:=h4.1
    refine ⟨by rw [←hf'];exact Nat.le_trans (Jkt _) g5,fun hb=> ?_⟩
    have hg:lb.getD k (([],0),false)=lb[k]:=by simp [List.getD,hk]
    simp only [bad,hg,Bool.and_eq_true,decide_eq_true_eq] at hb
    rw [←hf',JiG hn hn'] at hb
    rw [hbk,List.any_eq_true]
    refine ⟨_,hi',?_⟩
    rw [g3]
    have ht39:(zi l[(Jn (l.map zi))[j']]).r.t=39:=by rw [h4.2];exact hb.1
    have hfz':(zi l[(Jn (l.map zi))[j']]).f=Jq (l[(Jn (l.map zi))[j']]).o:=rfl
    rw [ht39,hfz']
    simpa using hb.2
   ·exact absurd rfl hmem
  have hsome:JdK (l.map zi) i=true→ ∃ k,k < lb.length∧bad k=true:=fun hb=>by
   rw [hbk,List.any_eq_true] at hb
   obtain ⟨i',hi',hh⟩:=hb
   obtain ⟨j',hj',rfl⟩:=List.mem_iff_getElem.1 hi'
   obtain ⟨g1,g2,g3,g4,g5,g6⟩:=hK.get hj'
   obtain ⟨⟨ls',hn'⟩,-⟩:=Ze g4
   rw [g3] at hh
   have hfz':(zi l[(Jn (l.map zi))[j']]).f=Jq (l[(Jn (l.map zi))[j']]).o:=rfl
   rw [hfz'] at hh
   simp only [Bool.and_eq_true,decide_eq_true_eq] at hh
   have hget:Q8 lb (Jq (l[(Jn (l.map zi))[j']]).o,39)=some true:=by
    rw [hS,if_pos]
    refine ⟨.inr rfl,List.any_eq_true.2 ⟨_,hi',?_⟩⟩
    rw [g3]
    simp only [decide_eq_true_eq]
    exact ⟨rfl,hh.1.1⟩
   obtain ⟨k,hk,hke⟩:=List.mem_iff_getElem.1 (JlL hget)
   refine ⟨k,hk,?_⟩
   have hg:lb.getD k (([],0),false)=lb[k]:=by simp [List.getD,hk]
   simp only [bad,hg,hke,Bool.and_eq_true,decide_eq_true_eq]
   refine ⟨trivial,?_⟩
   rw [JiG hn hn']
   simpa using ⟨hh.1.2,hh.2⟩
  obtain ⟨m1,m2⟩:Jfp H1 (.mp H.n)∧Yq H1 (.mp H.n)=JaM kK AV.b lb:=⟨by simp only [Jfp,hlb],JkV hlb⟩
  simp -implicitDefEqProofs only [bU,reduceIte,Jc,reduceCtorEq,Ja,Jb,bT,Jd,Je,Jf,bV,Ja,Jb,Jg,q0,q1,q4,q12,q29,qs,ql,qx,h1,hL0,hz0,Jj,a1,a2,a3,a4,m1,m2,hNl]
  refine Jl (fun m e M=> ∃ (seen:List Nat) (L0:List Lv),m=lb.length-seen.length∧seen.Nodup∧(∀ k,k∈seen→k < lb.length∧bad k=false)∧look e 0=a∧look e 1= .s apex∧look e 4= .la 4 0 0 0∧look e 12=o∧look e 29= .mp H.n∧look e 38= .i .i64 i∧look e 311=o∧look e 312= .i .i64 (Jn (l.map zi)).length∧look e 313= .i .i64 j∧look e 318= .li 318 (g+j*(1+lb.length))∧M=⟨L0,g+j*(1+lb.length)+1+seen.length,H1⟩∧JJ [0,1,4,12,29,38,311,312,313,318] L0=[⟨318,g+j*(1+lb.length),2,[.mp H.n,.i .i64 (lb.length:Nat),.ag (Jew seen)]⟩,⟨4,0,0,[.ag [.s [],.ns]]⟩]) ?_ (n:=lb.length)
   ⟨[],_,rfl,by simp,(fun k hk=>by cases hk),rfl,rfl,rfl,rfl,rfl,rfl,rfl,rfl,rfl,rfl,rfl,rfl⟩
  clear q0 q1 q4 q12 q29 qs ql qx hL0 L0
  rintro m e M ⟨seen,L0,rfl,hnd,hsn,q0,q1,q4,q12,q29,q38,qs,ql,qx,q318,rfl,hL0⟩
  have hlk: ∀ (s:List Nat),Qx [⟨318,g+j*(1+lb.length),2,[.mp H.n,.i .i64 (lb.length:Nat),.ag (Jew s)]⟩,⟨4,0,0,[.ag [.s [],.ns]]⟩] 318 (g+j*(1+lb.length)) 2=some [.mp H.n,.i .i64 (lb.length:Nat),.ag (Jew s)]:=fun s=>by simp [Qx]
  obtain ⟨i1,i2,i3,i4,i5,i6⟩:=Jja (g:=g+j*(1+lb.length)+1+seen.length) (hlk seen) hlb hNl
  have mem_i:=fun k=>hsn k
  by_cases hall: ∀ k,k < lb.length→k∈seen
  ·
   have hno: ∀ k,k < lb.length→ ¬ k∈seen→False:=fun k h h2=>h2 (hall k h)
   have hlen:seen.length=lb.length:=by
    have h1:seen.Perm (List.range lb.length):=(List.perm_ext_iff_of_nodup hnd List.nodup_range).2 fun k=>by
     rw [List.mem_range];exact ⟨fun h=>(hsn k h).1,fun h=>hall k h⟩
    rw [h1.length_eq,List.length_range]
   have hw:JdK (l.map zi) i=false:=by
    rw [←Bool.not_eq_true]
    intro hb
    obtain ⟨k,hk,hbk⟩:=hsome hb
    have:=(hsn k (hall k hk)).2
    rw [hbk] at this
    cases this
   simp -implicitDefEqProofs only [bU,reduceIte,Jc,reduceCtorEq,Ja,Jb,bT,Jd,Je,Jf,bV,Ja,Jb,Jg,q0,q1,q4,q12,q29,q38,qs,ql,qx,q318,hL0,i1,i2,i3,i4,i5,hNl]
   refine ⟨fun k hk hns=>absurd (hall k hk) hns,fun _=> ?_⟩
   simp -implicitDefEqProofs only [bU,reduceIte,Jc,reduceCtorEq,Ja,Jb,bT,Jd,Je,Jf,bV,Ja,Jb,Jg,q0,q1,q4,q12,q29,q38,qs,ql,qx,q318,hL0,w9]
   refine ⟨_,bd,j+1,[⟨318,g+j*(1+lb.length),2,[.mp H.n,.i .i64 (lb.length:Nat),.ag (Jew seen)]⟩,⟨4,0,0,[.ag [.s [],.ns]]⟩],hjl,rfl,rfl,?_,rfl,nx hw⟩
   have:g+j*(1+lb.length)+1+seen.length=g+(j+1)*(1+lb.length):=by rw [hlen,Nat.succ_mul];omega
   rw [this]
  ·
   simp -implicitDefEqProofs only [bU,reduceIte,Jc,reduceCtorEq,Ja,Jb,bT,Jd,Je,Jf,bV,Ja,Jb,Jg,q0,q1,q4,q12,q29,q38,qs,ql,qx,q318,hL0,i1,i2,i3,i4,i5,i6,hNl]
   refine ⟨fun k hk hns=> ?_,fun h=>absurd h hall⟩
   rw [←hB]
   obtain ⟨j1,j2,j3,j4,j5,-⟩:=Jja (g:=g+j*(1+lb.length)+1+seen.length) (hlk (seen++[k])) hlb hNl
   rw [List.getLastD_eq_getLast?,List.getLast?_concat,Option.getD_some] at j4
   have hne:(seen++[k]=[])=False:=eq_false (by simp)
   have hgk:(JaM kK AV.b lb).getD k (.u,.u)=(.ag [.s lb[k].1.1,.i .i64 lb[k].1.2],.b lb[k].2):=Jrt hk
   obtain ⟨hfl,hbd⟩:=hkn k hk
   have hlg:lb.getD k (([],0),false)=lb[k]:=by simp [List.getD,hk]
   have ks:=hU l[i].o lb[k].1.1 H1 z1 hfl
   have hnd2:(seen++[k]).Nodup:=List.nodup_append.2 ⟨hnd,by simp,fun x hx y hy hxy=>by rw [List.mem_singleton] at hy;subst hy;subst hxy;exact hns hx⟩
   have bs:lb.length- (seen++[k]).length < lb.length-seen.length:=by
    have h1:seen.length < lb.length:=by
     have:=Jml hnd2 fun x hx=>by
      rcases List.mem_append.1 hx with h | h
      ·exact (hsn x h).1
      ·rw [List.mem_singleton] at h;subst h;exact hk
     simp at this;omega
    simp;omega
   have hcont:bad k=false→ ∀ x,x∈seen++[k]→x < lb.length∧bad x=false:=fun hb x hx=>by
    rcases List.mem_append.1 hx with h | h
    ·exact hsn x h
    ·rw [List.mem_singleton] at h;subst h;exact ⟨hk,hb⟩
   have gg:g+j*(1+lb.length)+1+seen.length+1=g+j*(1+lb.length)+1+(seen++[k]).length:=by simp;omega
   by_cases h39:lb[k].1.2=39
   ·have h39':(lb[k].1.2=39)=True:=eq_true h39
    cases hst:JqF l[i].o lb[k].1.1 with
    | true=>
     rw [hst] at ks
     have hb:bad k=true:=by simp only [bad,hlg,hst,h39,decide_true,Bool.and_self]
     simp -implicitDefEqProofs only [bU,reduceIte,Jc,reduceCtorEq,Ja,Jb,bT,Jd,Je,Jf,bV,Ja,Jb,Jg,Qs,J6,z,c,f0,ld,v0,Jj,j1,j2,j3,j4,j5,hne,hgk,hNl,hk,h39',ks,not_false_eq_true,ne_eq,JG,JH]
     exact hit i _ _ _ (hfa (hbd hb)) rfl rfl rfl rfl
    | false=>
     rw [hst] at ks
     have hb:bad k=false:=by simp only [bad,hlg,hst,Bool.and_false]
     simp -implicitDefEqProofs only [bU,reduceIte,Jc,reduceCtorEq,Ja,Jb,bT,Jd,Je,Jf,bV,Ja,Jb,Jg,Qs,J6,z,c,f0,ld,v0,Jj,j1,j2,j3,j4,j5,hne,hgk,hNl,hk,h39',ks,not_false_eq_true,ne_eq]
     rw [gg]
     exact ⟨_,bs,seen++[k],_,rfl,hnd2,hcont hb,rfl,rfl⟩
   ·have hb:bad k=false:=by simp only [bad,hlg,decide_eq_false h39,Bool.false_and]
    simp -implicitDefEqProofs only [bU,reduceIte,Jc,reduceCtorEq,Ja,Jb,bT,Jd,Je,Jf,bV,Ja,Jb,Jg,Qs,J6,z,c,f0,ld,v0,Jj,j1,j2,j3,j4,j5,hne,hgk,hNl,hk,h39,not_false_eq_true,ne_eq]
    rw [gg]
    exact ⟨_,bs,seen++[k],_,rfl,hnd2,hcont hb,rfl,rfl⟩
 ·have hil:j=(Jn (l.map zi)).length:=by omega
  subst hil
  have hno:=JcV (q:=JdK (l.map zi)) fun i hi=>hp i hi hi
  simp -implicitDefEqProofs only [bU,reduceIte,Jc,reduceCtorEq,Ja,Jb,bT,Jd,Je,Jf,bV,Ja,Jb,Jg,q0,q1,q4,q12,q29,qs,ql,qx,h1,hL0]
  exact miss hno
end
abbrev iN (n:Nat):AV:= .i .i64 (n:Int)
theorem Jo6 {l:List Jbj} {k:Jbj} (h: ¬ k∈l) (k':Jbj):(if k'∈l++[k] then some ((l++[k]).idxOf k') else none)=if k=k' then some l.length else if k'∈l then some (l.idxOf k') else none:=by
 by_cases e:k=k'
 ·subst e
  rw [if_pos (by simp),if_pos rfl,List.idxOf_append,if_neg h]
  simp
 ·rw [if_neg e]
  by_cases h2:k'∈l
  ·rw [if_pos (List.mem_append_left _ h2),if_pos h2,List.idxOf_append,if_pos h2]
  ·rw [if_neg (by rw [List.mem_append,not_or];exact ⟨h2,by simpa using fun h=>e h.symm⟩),if_neg h2]
theorem Jm9 {ow:List UInt8→List UInt8} {K:List Zi} {x:Zi} (h: ¬ x.k∈keysOf K):(keysOf (K++[x])).map (ZE ow (K++[x]))=(keysOf K).map (ZE ow K)++[⟨ow x.f,x.r.t,x.r.ttl,[x.r.d]⟩]:=by
 rw [Q7,if_neg h,List.map_append]
 have hno: ∀ y,y∈K→y.k≠x.k:=fun y hy e=>h ((Qe K).2 ⟨y,hy,e⟩)
 congr 1
 ·exact List.map_congr_left fun k hk=>JgW fun e=>h (by rw [e];exact hk)
 ·have h1:(K++[x]).filter (fun y=>decide (y.k=x.k))=[x]:=by
   rw [List.filter_append,List.filter_eq_nil_iff.2 fun y hy=>by simpa using hno y hy];simp
  have h2:(K++[x]).find? (fun y=>decide (y.k=x.k))=some x:=by
   rw [List.find?_append,List.find?_eq_none.2 fun y hy=>by simpa using hno y hy];simp
  simp only [List.map_cons,List.map_nil,ZE,h1,h2]
  rfl
theorem Jn2 {ow:List UInt8→List UInt8} {K:List Zi} {x:Zi} (h:x.k∈keysOf K) (hi:(keysOf K).idxOf x.k < ((keysOf K).map (ZE ow K)).length):
  (keysOf (K++[x])).map (ZE ow (K++[x]))=((keysOf K).map (ZE ow K)).set ((keysOf K).idxOf x.k) (addD (((keysOf K).map (ZE ow K))[(keysOf K).idxOf x.k]) x.r.d):=by
 rw [Q7,if_pos h]
 have hi':(keysOf K).idxOf x.k < (keysOf K).length:=by simpa using hi
 have hk:(keysOf K)[(keysOf K).idxOf x.k]=x.k:=List.getElem_idxOf hi'
 apply List.ext_getElem (by simp)
 intro j h1 h2
 rw [List.getElem_set]
 simp only [List.getElem_map]
 by_cases e:(keysOf K).idxOf x.k=j
 ·subst e
  rw [if_pos rfl,hk]
  obtain ⟨y,hy,hyk⟩:=(Qe K).1 h
  have h3: ∃ z,K.find? (fun y=>decide (y.k=x.k))=some z:=by
   cases hf:K.find? fun y=>decide (y.k=x.k) with
   | none=>exact absurd (by simpa using hyk) (List.find?_eq_none.1 hf y hy)
   | some z=>exact ⟨z,rfl⟩
  obtain ⟨z,h3⟩:=h3
  simp only [ZE,addD,List.find?_append,h3,List.filter_append,Option.some_or]
  simp
 ·rw [if_neg e]
  refine JgW fun h4=>e ?_
  have hj:j < (keysOf K).length:=by simpa using h1
  rw [h4]
  exact (Yl K).idxOf_getElem j hj
theorem JfT {ow:List UInt8→List UInt8} {K:List Zi}:((keysOf K).map (ZE ow K)).length≤K.length∧ ∀ s,s∈(keysOf K).map (ZE ow K)→s.d.length≤K.length:=by
 refine ⟨?_,fun s hs=> ?_⟩
 ·rw [List.length_map]
  induction K using Jaj with
  | h0=>simp [keysOf]
  | h1 R x ih=>
   rw [Q7]
   split
   ·simp;omega
   ·simp;omega
 ·obtain ⟨k,-,rfl⟩:=List.mem_map.1 hs
  simp only [ZE,List.length_map]
  exact List.length_filter_le _ _
structure G8 (H0 H:AH) (apex:List UInt8) (oz zs:AV) (sets:List Qa) (ds:List AV) (lw:List (List UInt8×List UInt8)) (la:List (Jbj×Nat)):Prop where
 ext:Ext H0 H
 hn:H0.n+3≤H.n
 ob:JbE H H0.n [.s apex,oz]
 mo:H.at' (H0.n+1)= .map true (JaM kS .s lw)
 ma:H.at' (H0.n+2)= .map true (JaM kK iN la)
 zm:ZM H (H0.n+3) zs sets ds
section
variable {H0 H H':AH} {apex:List UInt8} {oz zs:AV} {sets:List Qa} {ds:List AV} {lw:List (List UInt8×List UInt8)} {la:List (Jbj×Nat)}
theorem G8.setO (h:G8 H0 H apex oz zs sets ds lw la) (lw':List (List UInt8×List UInt8)):G8 H0 (H.set (H0.n+1) (.map true (JaM kS .s lw'))) apex oz zs sets ds lw' la where
 ext:=h.ext.set (by omega)
 hn:=h.hn
 ob:=h.ob.fr (Nat.le_refl _) (XQ (by omega))
 mo:=Z9
 ma:=by rw [XQ (by omega)];exact h.ma
 zm:=h.zm.fr (Nat.le_refl _) fun i hi=>XQ (by have:=h.zm.ge i hi;omega)
theorem G8.setA (h:G8 H0 H apex oz zs sets ds lw la) (la':List (Jbj×Nat)):G8 H0 (H.set (H0.n+2) (.map true (JaM kK iN la'))) apex oz zs sets ds lw la' where
 ext:=h.ext.set (by omega)
 hn:=h.hn
 ob:=h.ob.fr (Nat.le_refl _) (XQ (by omega))
 mo:=by rw [XQ (by omega)];exact h.mo
 ma:=Z9
 zm:=h.zm.fr (Nat.le_refl _) fun i hi=>XQ (by have:=h.zm.ge i hi;omega)
theorem G8.mv (h:G8 H0 H apex oz zs sets ds lw la) {zs':AV} {sets':List Qa} {ds':List AV} (hz:ZM H' (H0.n+3) zs' sets' ds') (hn:H.n≤H'.n) (ha: ∀ i,i < H.n→ ¬ i∈idA zs++ds.flatMap idA→H'.at' i=H.at' i):G8 H0 H' apex oz zs' sets' ds' lw la:=by
 have hb: ∀ i,i < H0.n+3→H'.at' i=H.at' i:=fun i hi=>ha i (by have:=h.hn;omega) fun hm=>by have:=h.zm.ge i hm;omega
 exact ⟨⟨Nat.le_trans h.ext.n hn,fun i hi=>by rw [hb i (by omega)];exact h.ext.at' i hi⟩,Nat.le_trans h.hn hn,h.ob.fr hn (hb _ (by omega)),by rw [hb _ (by omega)];exact h.mo,by rw [hb _ (by omega)];exact h.ma,hz⟩
theorem G8.stz (h:G8 H0 H apex oz zs sets ds lw la):(∀ (L:List Lv) (g:Nat),stC ⟨L,g,H⟩ zs (.pv H0.n 1))∧ ∃ H',(∀ (L:List Lv) (g:Nat),stM ⟨L,g,H⟩ zs (.pv H0.n 1)=⟨L,g,H'⟩)∧G8 H0 H' apex zs zs sets ds lw la∧H'.n=H.n:=by
 obtain ⟨c1,H',c2,c3,c4,c5⟩:=h.ob.st (off:=1) (v:=zs) (by simp) h.zm.rd.row.one
 refine ⟨c1,H',c2,⟨?_,by rw [c4];exact h.hn,c3,?_,?_,?_⟩,c4⟩
 ·exact ⟨by rw [c4];exact h.ext.n,fun i hi=>by rw [c5 i (by simp;omega)];exact h.ext.at' i hi⟩
 ·rw [c5 _ (by simp)];exact h.mo
 ·rw [c5 _ (by simp)];exact h.ma
 ·exact h.zm.fr (by omega) fun i hi=>c5 i (by have:=h.zm.ge i hi;simp;omega)
theorem G8.ldz (h:G8 H0 H apex oz zs sets ds lw la):(∀ (L:List Lv) (g:Nat),ldC ⟨L,g,H⟩ none (.pv H0.n 1))∧ ∀ (L:List Lv) (g:Nat),ldX ⟨L,g,H⟩ none (.pv H0.n 1)=oz:=h.ob.ld (off:=1) (by simp)
end
section
variable {C:Tab} {apex:List UInt8} {H0 H:AH} {e:Env} {L0:List Lv} {g:Nat} {κ:Jaa} {oz zs:AV} {sets:List Qa} {ds:List AV} {lw:List (List UInt8×List UInt8)} {la:List (Jbj×Nat)}
def lvI (gr gk:Nat) (r:Rr) (key:AV):List Lv:=[⟨49,gk,0,[key]⟩,⟨45,gr,0,[eR.v r]⟩,⟨4,0,0,[z0V]⟩]
theorem pv1 {n:Nat}:faV 1 (.pv n 0)= .pv n 1:=rfl
theorem ZM.ap_fr {n0:Nat} (h:ZM H n0 zs sets ds) {k:Nat} (hk:k < sets.length) (hkd:k < ds.length) {y:AV} {x:List UInt8} {L:List Lv} {H1:AH} (hy:QE ⟨L,g,H⟩ y=[AV.s x]∧Je7 ⟨L,g,H⟩ 1 y) (hb:sets[k].d.length≤1000) (he:apM ⟨L,g,H⟩ 1 y ds[k]=⟨L,g,H1⟩):H.n≤H1.n∧ ∀ i,i < n0→i < H.n→H1.at' i=H.at' i:=by
 obtain ⟨p1,d',H2,p2,p3,p4,p5,p6,p7,-,-⟩:=Mn.ap (by':=16) (h.dat k hk hkd) hy (by simp;omega)
 have e:H2=H1:=by
  have:=congrArg Mem.h (p3.symm.trans he)
  exact this
 subst e
 exact ⟨p5,fun i hi h1=>p6 i h1 fun hm=>by have:=h.ge i (List.mem_append_right _ (List.mem_flatMap.2 ⟨_,List.getElem_mem hkd,hm⟩));omega⟩
set_option maxHeartbeats 4000000 in
theorem Ji6 {gr gk:Nat} {r:Rr} {key:AV} {k:Nat} (hG:G8 H0 H apex zs zs sets ds lw la) (hk:k < sets.length) (hb:sets[k].d.length≤1000) (hsl:sets.length≤1000)
  (q40:look e 40= .pv H0.n 0) (q45:look e 45= .la 45 gr 0 0) (q50:look e 50= .i .i64 (k:Nat)) (hL:L0=lvI gr gk r key∨ ∃ g1 v,L0=⟨396,g1,0,[v]⟩::lvI gr gk r key)
  (fin: ∀ e' L' g' H' d',(look e' 0=look e 0∧look e' 4=look e 4∧look e' 12=look e 12∧look e' 40=look e 40∧look e' 41=look e 41∧look e' 42=look e 42∧look e' 343=look e 343∧look e' 344=look e 344∧look e' 345=look e 345)→JJ [0,4,40,41,42,343,344,345] L'=[⟨4,0,0,[z0V]⟩]→
   G8 H0 H' apex zs zs (sets.set k (addD sets[k] r.d)) (ds.set k d') lw la→κ .nx e' ⟨L',g',H'⟩):
  exec C (sAt Jk.s [1,1,1,1,1,1,1,1,1,1,1,1,1,1,1,1,1,1,1,1,1,0,1,2,2,1,1,0,2,1,1,1,1,1,1,1]) e ⟨L0,g,H⟩ κ:=by
 simp only [Jk,sAt]
 have hz:=hG.zm
 have hkd:k < ds.length:=by rw [hz.len];exact hk
 obtain ⟨l1,l2⟩:=hz.rd.row.len
 rw [QK hz.len] at l1
 obtain ⟨a1,a2,a3,a4,a5,a6,a7,a8,-,-⟩:=hz.rd.at' hk hkd
 obtain ⟨b1,b2⟩:=hG.ldz
 have zo:=hz.rd.row.out
 have zc:=hz.rd.row.one
 have hpf: ∀ {n:Nat},faC (.pv n 0):=trivial
 rcases hL with rfl | ⟨g1,v,rfl⟩
 ·obtain ⟨p1,d',H1,p2,p3,p4,p5,p6,p7,p8,p9,H2,p10,p11,p12,p13,p14⟩:=hz.addD hG.hn hk hkd (Qk (t:=410) (g:=g) (z:=1) (x:= .s r.d) (L:=lvI gr gk r key) (H:=H)) hb
  obtain ⟨f1,f2⟩:=hz.ap_fr hk hkd Qk hb p5
  obtain ⟨c1,c2⟩:=(hG.ob.fr f1 (f2 _ (by omega) (by have:=hG.hn;omega))).ld (off:=1) (by simp)
  simp only [List.getD_cons_succ,List.getD_cons_zero] at c2
  simp only [lvI,JcE,z0V] at p1 p2 p5 fin ⊢
  simp -implicitDefEqProofs only [bU,reduceIte,Jc,reduceCtorEq,Ja,Jb,bT,Jd,Je,Jf,bV,Ja,Jb,Jg,Qs,J6,q40,q45,q50,pv1,hpf,b1,b2,l1,l2,a1,a2,a3,a4,a8,Jj,zo,zc,JE,JQ,List.replicate,List.set]
  simp -implicitDefEqProofs only [bU,reduceIte,Jc,reduceCtorEq,Ja,Jb,bT,Jd,Je,Jf,bV,Ja,Jb,Jg,p1,p2,p3,p4,p5,p6,p7,p8,p9,p10,c1,c2]
  exact fin _ _ _ H2 d' ⟨rfl,rfl,rfl,rfl,rfl,rfl,rfl,rfl,rfl⟩ rfl (hG.mv p11 p12 p13)
 ·obtain ⟨p1,d',H1,p2,p3,p4,p5,p6,p7,p8,p9,H2,p10,p11,p12,p13,p14⟩:=hz.addD hG.hn hk hkd (Qk (t:=410) (g:=g) (z:=1) (x:= .s r.d) (L:=⟨396,g1,0,[v]⟩::lvI gr gk r key) (H:=H)) hb
  obtain ⟨f1,f2⟩:=hz.ap_fr hk hkd Qk hb p5
  obtain ⟨c1,c2⟩:=(hG.ob.fr f1 (f2 _ (by omega) (by have:=hG.hn;omega))).ld (off:=1) (by simp)
  simp only [List.getD_cons_succ,List.getD_cons_zero] at c2
  simp only [lvI,JcE,z0V] at p1 p2 p5 fin ⊢
  simp -implicitDefEqProofs only [bU,reduceIte,Jc,reduceCtorEq,Ja,Jb,bT,Jd,Je,Jf,bV,Ja,Jb,Jg,Qs,J6,q40,q45,q50,pv1,hpf,b1,b2,l1,l2,a1,a2,a3,a4,a8,Jj,zo,zc,JE,JQ,List.replicate,List.set]
  simp -implicitDefEqProofs only [bU,reduceIte,Jc,reduceCtorEq,Ja,Jb,bT,Jd,Je,Jf,bV,Ja,Jb,Jg,p1,p2,p3,p4,p5,p6,p7,p8,p9,p10,c1,c2]
  exact fin _ _ _ H2 d' ⟨rfl,rfl,rfl,rfl,rfl,rfl,rfl,rfl,rfl⟩ rfl (hG.mv p11 p12 p13)
end
section
variable {C:Tab} {apex:List UInt8} {H0 H:AH} {e:Env} {L0:List Lv} {g:Nat} {κ:Jaa} {oz zs:AV} {sets:List Qa} {ds:List AV} {lw:List (List UInt8×List UInt8)} {la:List (Jbj×Nat)}
set_option maxHeartbeats 4000000 in
theorem Jop {gr gk:Nat} {r:Rr} {f ow:List UInt8} (hG:G8 H0 H apex zs zs sets ds lw la) (hsl:sets.length≤500) (how:Q8 lw f=some ow)
  (q40:look e 40= .pv H0.n 0) (q41:look e 41= .mp (H0.n+1)) (q42:look e 42= .mp (H0.n+2)) (q45:look e 45= .la 45 gr 0 0) (q46:look e 46= .s f) (q49:look e 49= .la 49 gk 0 0)
  (fin: ∀ e' g' H' zs' g1 v,(look e' 0=look e 0∧look e' 4=look e 4∧look e' 12=look e 12∧look e' 40=look e 40∧look e' 41=look e 41∧look e' 42=look e 42∧look e' 343=look e 343∧look e' 344=look e 344∧look e' 345=look e 345∧look e' 45=look e 45)→look e' 50= .i .i64 (sets.length:Nat)→
   G8 H0 H' apex zs' zs' (sets++[⟨ow,r.t,r.ttl,[]⟩]) (ds++[.ns]) lw (Z4 la (f,r.t) sets.length)→κ .nx e' ⟨⟨396,g1,0,[v]⟩::lvI gr gk r (.ag [.s f,.i .i64 r.t]),g',H'⟩):
  exec C (sAt Jk.s [1,1,1,1,1,1,1,1,1,1,1,1,1,1,1,1,1,1,1,1,1,0,1,2,2,1,1,0,2,1,1,1,1,1,1,0,1,3]) e ⟨lvI gr gk r (.ag [.s f,.i .i64 r.t]),g,H⟩ κ:=by
 simp only [Jk,sAt]
 obtain ⟨l1,l2⟩:=hG.zm.rd.row.len
 rw [QK hG.zm.len] at l1
 obtain ⟨b1,b2⟩:=hG.ldz
 obtain ⟨m1,m2,m3⟩:=Jpr hG.ma f r.t sets.length (v:= .i .i64 (sets.length:Nat)) rfl
 have G2:=hG.setA (Z4 la (f,r.t) sets.length)
 generalize H.set (H0.n+2) (.map true (JaM kK iN (Z4 la (f,r.t) sets.length)))=H2 at m3 G2
 obtain ⟨d1,d2⟩:=G2.ldz
 obtain ⟨u1,u2,u3⟩:=Jpj G2.mo f
 rw [how] at u3
 simp only [Option.map_some] at u3
 obtain ⟨p1,zs',H3,p2,p3,p4,p5,p6,p7⟩:=G2.zm.push G2.hn (s:=⟨ow,r.t,r.ttl,[]⟩) rfl (Qk (t:=396) (g:=g) (z:=4) (x:=sV ⟨ow,r.t,r.ttl,[]⟩ .ns) (L:=lvI gr gk r (.ag [.s f,.i .i64 r.t])) (H:=H2)) (by omega)
 have G3:=G2.mv p4 p5 fun i hi hm=>p6 i hi fun hz=>hm (List.mem_append_left _ hz)
 obtain ⟨s1,H4,s2,G4,s4⟩:=G3.stz
 have zo:=hG.zm.rd.row.out
 have zc:=hG.zm.rd.row.one
 have zo':=p4.rd.row.out
 have zc':=p4.rd.row.one
 have hpf: ∀ {n:Nat},faC (.pv n 0):=trivial
 simp only [lvI,JcE,z0V,sV] at p1 p2 p3 fin ⊢
 simp -implicitDefEqProofs only [bU,reduceIte,Jc,reduceCtorEq,Ja,Jb,bT,Jd,Je,Jf,bV,Ja,Jb,Jg,Qs,J6,q40,q41,q42,q45,q46,q49,pv1,hpf,b1,b2,l1,l2,m1,m2,m3,d1,d2,u1,u2,u3,lkV,Jj,zo,zc,JG,JH,JE,JQ,List.replicate,List.set]
 simp -implicitDefEqProofs only [bU,reduceIte,Jc,reduceCtorEq,Ja,Jb,bT,Jd,Je,Jf,bV,Ja,Jb,Jg,p1,p2,p3,zo',zc',s1,s2]
 exact fin _ _ H4 zs' _ _ ⟨rfl,rfl,rfl,rfl,rfl,rfl,rfl,rfl,rfl,rfl⟩ rfl G4
end
end Go.Vm
