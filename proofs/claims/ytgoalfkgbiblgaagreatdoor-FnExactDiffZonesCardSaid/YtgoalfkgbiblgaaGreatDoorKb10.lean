import Derived.Test.YtgoalfkgbiblgaaGreatDoorKb4
import Derived.Test.YtgoalfkgbiblgaaGreatDoorKb9
/- The program's zone out of records: aliases alone at their names. -/
set_option linter.unusedVariables false
set_option linter.unusedSimpArgs false
set_option maxRecDepth 100000
open Nat renaming reduceEqDiff→Jc,reduceAdd→Ja,reduceLT→Jb,reduceLeDiff→Jg,reduceSub→Je
open Int renaming reduceToNat→Jd,reduceLE→Jf,reduceLT→Ji
namespace Go.Vm
section
variable {C:Tab} {l:List Rr} {a o:AV} {apex top:List UInt8} {H H1:AH} {e:Env} {L0:List Lv} {g:Nat} {κ:Jaa}
set_option maxHeartbeats 4000000 in
theorem JuO (hK:KK l apex H a o) (hLow:Ja1 C Qc) (hS:(∃ lb:List (Jbj×Bool),H1.at' H.n= .map true (JaM kK .b lb)∧ ∀ k,Q8 lb k=if (k.2=5∨k.2=39)∧((Jn (l.map zi)).any fun i=>decide ((itZ (l.map zi) i).f=k.1∧(itZ (l.map zi) i).r.t=k.2))=true then some true else none))
  (he1:Ext H H1) (q0:look e 0=a) (q1:look e 1= .s apex) (q4:look e 4= .la 4 0 0 0) (q12:look e 12=o) (q29:look e 29= .mp H.n) (hL0:JJ [0,1,4,12,29,282,283,284] L0=[⟨4,0,0,[z0V]⟩])
  (hit: ∀ i e' L' g' H',(Jn (l.map zi)).find? (cnB (l.map zi))=some i→Ext H H'→Qx L' 4 0 0=some [z0V]→look e' 4= .la 4 0 0 0→look e' 5= .i .i64 23→look e' 6= .i .i64 (i:Nat)→κ .rt e' ⟨L',g',H'⟩)
  (miss:(Jn (l.map zi)).find? (cnB (l.map zi))=none→ ∀ e' g' H',Ext H H'→H'=H1→look e' 0=a→look e' 1= .s apex→look e' 4= .la 4 0 0 0→look e' 12=o→look e' 29= .mp H.n→κ .nx e' ⟨[⟨4,0,0,[z0V]⟩],g',H'⟩):
  exec C (sAt Jk.s [1,1,1,1,1,1,1,1,1,1,1,1,1,1,1,1,0]) e ⟨L0,g,H1⟩ κ:=by
 simp only [Jk,sAt];obtain ⟨l1,l2⟩:=Jfu hK.kp;have hks:=Jad (l:=l);have hln:=hK.ln;simp -implicitDefEqProofs only [bU,bT,q12,l1,l2]
 refine Jl (fun m e M=> ∃ (j:Nat) (L0:List Lv) (g:Nat) (H':AH),j≤(Jn (l.map zi)).length∧m=(Jn (l.map zi)).length-j∧look e 0=a∧look e 1= .s apex∧look e 4= .la 4 0 0 0∧look e 12=o∧look e 282=o∧look e 283= .i .i64 (Jn (l.map zi)).length∧look e 284= .i .i64 j∧M=⟨L0,g,H'⟩∧JJ [0,1,4,12,29,282,283,284] L0=[⟨4,0,0,[z0V]⟩]∧Ext H H'∧(∀ i (hi:i < (Jn (l.map zi)).length),i < j→cnB (l.map zi) (Jn (l.map zi))[i]=false)∧H'=H1∧look e 29= .mp H.n) ?_ (n:=(Jn (l.map zi)).length)
  ⟨0,_,_,H1,by omega,by omega,by simp -implicitDefEqProofs only [bU,reduceCtorEq,bT,q0],by simp -implicitDefEqProofs only [bU,Jc,bT,q1],by simp -implicitDefEqProofs only [bU,Jc,bT,q4],by simp -implicitDefEqProofs only [bU,Jc,bT,q12],rfl,rfl,rfl,rfl,hL0,he1,fun i _ hj=>by omega,rfl,by simp -implicitDefEqProofs only [bU,Jc,bT,q29]⟩
 clear q0 q1 q4 q12 hL0 he1 q29;rintro m e M ⟨j,L0,g,H',hj,rfl,q0,q1,q4,q12,qs,ql,qx,rfl,hL0,he,hp,hH,q29⟩;have hKe:=hK.ext he;by_cases h1:(j:Int) < (Jn (l.map zi)).length
 ·have hjl:j < (Jn (l.map zi)).length:=by omega
  obtain ⟨hi,hout,hit0,hone,z1,z2⟩:=hK.get hjl;obtain ⟨a1,a2,a3,a4⟩:=JjG hKe.kp hjl;obtain ⟨z,c,f0,rc,rv,ld,v0,v1,v2,v3,v4⟩:=JgI hKe.rd hi;have hfa:=fun h=>JcX (q:=cnB (l.map zi)) hjl h fun i hi=>hp i (by omega) hi
  have hha:=fun (f:List UInt8) (t:Int)=>JgU (L:=l.map zi) hjl f t
  have hts:=fun (p:Nat→Bool)=>any_take_succ hjl p
  have bd:(Jn (l.map zi)).length- (j+1) < (Jn (l.map zi)).length-j:=by omega
  have w9:IntKind.i64.wrap ((j:Int)+1)=((j+1:Nat):Int):=by rw [w64 (by omega) (by omega)];rfl
  have hz0:z0V= .ag [.s [],.ns]:=rfl
  have nx:cnB (l.map zi) (Jn (l.map zi))[j]=false→ ∀ i (hi:i < (Jn (l.map zi)).length),i < j+1→cnB (l.map zi) (Jn (l.map zi))[i]=false:=fun h i hi hij=>by
   by_cases e:i=j
   ·subst e;exact h
   ·exact hp i hi (by omega)
  generalize hii:(Jn (l.map zi))[j]=i at*;have hp0:(0:Int)≤(i:Nat):=by omega
  rw [JcE] at rv;obtain ⟨⟨ls,hn⟩,hcl,htt,hme,hty,hch,hun⟩:=Ze hone;have hfz:(zi l[i]).f=Jq l[i].o:=rfl;have htz:(zi l[i]).r.t=l[i].t:=rfl;subst hH;have k1:=hLow l[i].o H' z1;rw [←Xh hn] at k1
  have hb:cnB (l.map zi) i=(decide (l[i].t≠5) &&decide (l[i].t≠47) && (Jn (l.map zi)).any fun i'=>decide ((itZ (l.map zi) i').f=Jq l[i].o∧(itZ (l.map zi) i').r.t=5)):=by
   unfold cnB;rw [hout,hit0,JdD];rfl
  obtain ⟨lb,b1,b2⟩:=hS;obtain ⟨u1,u2,u3⟩:=Jkx b1 (Jq l[i].o) 5;rw [b2] at u3;simp only [true_or,true_and] at u3;cases hany:(Jn (l.map zi)).any fun i'=>decide ((itZ (l.map zi) i').f=Jq l[i].o∧(itZ (l.map zi) i').r.t=5) with
  | true=>
   rw [hany] at hb;rw [if_pos hany] at u3;simp only [Option.map_some] at u3;by_cases h5:l[i].t=5
   ·have h5':(l[i].t=5)=True:=eq_true h5
    have hw:cnB (l.map zi) i=false:=by rw [hb];simp [h5]
    simp -implicitDefEqProofs only [bU,Jc,reduceCtorEq,Ja,Jb,bT,bV,Ja,Jb,Jg,q0,q1,q4,q12,qs,ql,qx,h1,hL0,hz0,Jj,a1,a2,a3,a4,z,c,rc,rv,q29,k1,u1,u2,u3,lkV,h5',JG,JH,w9];exact ⟨_,bd,j+1,_,_,_,hjl,rfl,rfl,rfl,rfl,he,nx hw,rfl⟩
   ·by_cases h47:l[i].t=47
    ·have h47':(l[i].t=47)=True:=eq_true h47
     have hw:cnB (l.map zi) i=false:=by rw [hb];simp [h47]
     simp -implicitDefEqProofs only [bU,Jc,reduceCtorEq,Ja,Jb,bT,bV,Ja,Jb,Jg,q0,q1,q4,q12,qs,ql,qx,h1,hL0,hz0,Jj,a1,a2,a3,a4,z,c,rc,rv,q29,k1,u1,u2,u3,lkV,h5,h47',JG,JH,w9];exact ⟨_,bd,j+1,_,_,_,hjl,rfl,rfl,rfl,rfl,he,nx hw,rfl⟩
    ·have hw:cnB (l.map zi) i=true:=by rw [hb];simp [h5,h47]
     simp -implicitDefEqProofs only [bU,Jc,reduceCtorEq,Ja,Jb,bT,bV,Ja,Jb,Jg,q0,q1,q4,q12,qs,ql,qx,h1,hL0,hz0,Jj,a1,a2,a3,a4,z,c,rc,rv,q29,k1,u1,u2,u3,lkV,h5,h47,JG,JH];exact hit i _ _ _ _ (hfa hw) he rfl rfl rfl rfl
  | false=>
   rw [hany] at hb;rw [if_neg (by rw [hany];decide)] at u3
   simp only [Option.map_none] at u3;have hw:cnB (l.map zi) i=false:=by rw [hb];simp
   simp -implicitDefEqProofs only [bU,Jc,reduceCtorEq,Ja,bT,bV,Ja,Jg,q0,q1,q4,q12,qs,ql,qx,h1,hL0,hz0,Jj,a1,a2,a3,a4,z,c,rc,rv,q29,k1,u1,u2,u3,lkV,JG,JH,w9];exact ⟨_,bd,j+1,_,_,_,hjl,rfl,rfl,rfl,rfl,he,nx hw,rfl⟩
 ·have hil:j=(Jn (l.map zi)).length:=by omega
  subst hil;have hno:=JcV (q:=cnB (l.map zi)) fun i hi=>hp i hi hi
  subst hH;simp -implicitDefEqProofs only [bU,Jc,reduceCtorEq,bT,q0,q1,q4,q12,q29,qs,ql,qx,h1,hL0];exact miss hno _ _ _ he rfl (by simp -implicitDefEqProofs only [bU,reduceCtorEq,bT]) (by simp -implicitDefEqProofs only [bU,Jc,reduceCtorEq,bT]) (by simp -implicitDefEqProofs only [bU,Jc,reduceCtorEq,bT]) (by simp -implicitDefEqProofs only [bU,Jc,reduceCtorEq,bT]) (by simp -implicitDefEqProofs only [bU,Jc,reduceCtorEq,bT])
end
theorem Jke {x y:List UInt8} {a b:List (List UInt8)} (hx:JB x=some a) (hy:JB y=some b):JfH x (Jq y)=JfH (Jq x) (Jq y):=by
 rw [Bool.eq_iff_iff,Jjk hx (ZX hy),Jjk (ZX hx) (ZX hy)];simp only [List.length_map,List.map_map];have e: ∀ l:List (List UInt8),l.map (Zz∘Zz)=l.map Zz:=fun l=>by congr 1;funext x;exact Jhs x
 rw [e,e]
theorem JiG {x y:List UInt8} {a b:List (List UInt8)} (hx:JB x=some a) (hy:JB y=some b):JqF x (Jq y)=(decide (Jq y≠Jq x) &&JfH (Jq x) (Jq y)):=by
 unfold JqF Jdg;rw [Jke hx hy,JcO hy];by_cases h:Jq x=Jq y
 ·simp [h,Jcx hy]
 ·have h2: ¬ Jq y=Jq x:=fun e=>h e.symm
  simp [h,h2]
theorem Jml {s:List Nat} {n:Nat} (h:s.Nodup) (hs: ∀ x,x∈s→x < n):s.length≤n:=by
 have hp:s.Perm ((List.range n).filter fun x=>decide (x∈s)):=(List.perm_ext_iff_of_nodup h (List.Pairwise.filter _ List.nodup_range)).2 fun x=>by
  rw [List.mem_filter,List.mem_range];exact ⟨fun hx=>⟨hs x hx,by simpa using hx⟩,fun hx=>by simpa using hx.2⟩
 rw [hp.length_eq];exact Nat.le_trans (List.length_filter_le _ _) (by simp)
theorem Jrt {κ β:Type} [DecidableEq κ] {E:JrV κ} {ev:β→AV} {l:List (κ×β)} {j:Nat} (hj:j < l.length):(JaM E ev l).getD j (.u,.u)=(E.ek l[j].1,ev l[j].2):=by
 simp [JaM,List.getD,hj]
section
variable {C:Tab} {l:List Rr} {a o:AV} {apex top:List UInt8} {H H1:AH} {e:Env} {L0:List Lv} {g:Nat} {κ:Jaa}
abbrev Jew (s:List Nat):List AV:=s.map fun (n:Nat)=>AV.i .i64 (n:Int)
theorem JnJ (s:List Nat):((AV.ag (Jew s)).cells.map fun x=>x.toI.toNat)=s:=by
 show (Jew s).map _=s
 rw [List.map_map];conv=>rhs;rw [←List.map_id s]
 refine List.map_congr_left fun n _=> ?_
 simp [AV.toI]
theorem Jja {id gi N:Nat} {s:List Nat} {L:List Lv} {g:Nat} {H:AH} {es:List (AV×AV)} {t:Nat} (hL:Qx L t gi 2=some [.mp id,.i .i64 (N:Nat),.ag (Jew s)]) (hH:H.at' id= .map true es) (hN:es.length=N):
  nmC ⟨L,g,H⟩ (.li t gi)∧Jdd ⟨L,g,H⟩ (.li t gi)= .mp id∧ZC ⟨L,g,H⟩ (.li t gi)=s∧Jfz ⟨L,g,H⟩ (.li t gi)=s.getLastD 0∧Yq H (.mp id)=es∧ ∀ j,nmM ⟨L,g,H⟩ (.li t gi) j=⟨Jhp L t [.mp id,.i .i64 (N:Nat),.ag (Jew (s++[j]))],g,H⟩:=by
 have hX:nmX ⟨L,g,H⟩ (.li t gi)=[.mp id,.i .i64 (N:Nat),.ag (Jew s)]:=by simp only [nmX,Mem.getL,hL];rfl
 have hI:Jdd ⟨L,g,H⟩ (.li t gi)= .mp id:=by simp only [Jdd,hX];rfl
 have hS:ZC ⟨L,g,H⟩ (.li t gi)=s:=by
  simp only [ZC,hX];exact JnJ s
 have hE:Yq H (.mp id)=es:=JkV hH;refine ⟨⟨⟨t,gi,id,(N:Int),Jew s,rfl,hL,by rw [hE,hN]⟩,?_⟩,hI,hS,?_,hE,fun j=> ?_⟩
 ·rw [hI];simp only [Jfp,hH]
 ·simp only [Jfz,hS]
 ·simp only [nmM,hX,hI]
  simp [AV.cells,Jew]
set_option maxHeartbeats 4000000 in
theorem Jrg (hK:KK l apex H a o) (hU:Jnt C XD) (he:Ext H H1) {lb:List (Jbj×Bool)} (hlb:H1.at' H.n= .map true (JaM kK .b lb)) (hS:(∀ k,Q8 lb k=if (k.2=5∨k.2=39)∧((Jn (l.map zi)).any fun i=>decide ((itZ (l.map zi) i).f=k.1∧(itZ (l.map zi) i).r.t=k.2))=true then some true else none))
  (q0:look e 0=a) (q1:look e 1= .s apex) (q4:look e 4= .la 4 0 0 0) (q12:look e 12=o) (q29:look e 29= .mp H.n)
  (hit: ∀ i e' L' g',(Jn (l.map zi)).find? (JdK (l.map zi))=some i→Qx L' 4 0 0=some [z0V]→look e' 4= .la 4 0 0 0→look e' 5= .i .i64 25→look e' 6= .i .i64 (i:Nat)→κ .rt e' ⟨L',g',H1⟩)
  (miss:(Jn (l.map zi)).find? (JdK (l.map zi))=none→κ .nx [(314,.b false),(0,a),(1,.s apex),(4,.la 4 0 0 0),(12,o),(29,.mp H.n),(311,o),(312,.i .i64 (Jn (l.map zi)).length),(313,.i .i64 (Jn (l.map zi)).length)] ⟨[⟨4,0,0,[z0V]⟩],g+(Jn (l.map zi)).length*(1+lb.length),H1⟩):
  exec C (sAt Jk.s [1,1,1,1,1,1,1,1,1,1,1,1,1,1,1,1,1,0]) e ⟨[⟨4,0,0,[z0V]⟩],g,H1⟩ κ:=by
 have hput:=(JaY [1,2,2,1,1,0,2,1,1,2,2,1,1] (sAt Jk.s [1,1,1,1,1,1,1,1,1,1,1,1,1,1,1,1,1,0])).symm;generalize hB:sAt (sAt Jk.s [1,1,1,1,1,1,1,1,1,1,1,1,1,1,1,1,1,0]) [1,2,2,1,1,0,2,1,1,2,2,1,1]=B at hput;rw [hput];clear hput;simp only [Jk,sAt] at hB;simp only [Jk,sAt,JaX];have hKe:=hK.ext he;obtain ⟨l1,l2⟩:=Jfu hKe.kp;have hks:=Jad (l:=l);have hln:=hK.ln;have hNl:(JaM kK AV.b lb).length=lb.length:=by simp [JaM]
 simp -implicitDefEqProofs only [bU,bT,q12,l1,l2]
 refine Jl (fun m e M=> ∃ (j:Nat) (L0:List Lv),j≤(Jn (l.map zi)).length∧m=(Jn (l.map zi)).length-j∧look e 0=a∧look e 1= .s apex∧look e 4= .la 4 0 0 0∧look e 12=o∧look e 29= .mp H.n∧look e 311=o∧look e 312= .i .i64 (Jn (l.map zi)).length∧look e 313= .i .i64 j∧M=⟨L0,g+j*(1+lb.length),H1⟩∧JJ [0,1,4,12,29,311,312,313] L0=[⟨4,0,0,[z0V]⟩]∧(∀ i (hi:i < (Jn (l.map zi)).length),i < j→JdK (l.map zi) (Jn (l.map zi))[i]=false)) ?_ (n:=(Jn (l.map zi)).length)
  ⟨0,_,by omega,by omega,by simp -implicitDefEqProofs only [bU,reduceCtorEq,bT,q0],by simp -implicitDefEqProofs only [bU,Jc,bT,q1],by simp -implicitDefEqProofs only [bU,Jc,bT,q4],by simp -implicitDefEqProofs only [bU,Jc,bT,q12],by simp -implicitDefEqProofs only [bU,Jc,bT,q29],rfl,rfl,rfl,by simp;rfl,rfl,fun i _ hj=>by omega⟩
 clear q0 q1 q4 q12 q29;rintro m e M ⟨j,L0,hj,rfl,q0,q1,q4,q12,q29,qs,ql,qx,rfl,hL0,hp⟩;by_cases h1:(j:Int) < (Jn (l.map zi)).length
 ·have hjl:j < (Jn (l.map zi)).length:=by omega
  obtain ⟨hi,hout,hit0,hone,z1,z2⟩:=hK.get hjl;obtain ⟨a1,a2,a3,a4⟩:=JjG hKe.kp hjl;obtain ⟨z,c,f0,rc,rv,ld,v0,v1,v2,v3,v4⟩:=JgI hKe.rd hi;have hfa:=fun h=>JcX (q:=JdK (l.map zi)) hjl h fun i hi=>hp i (by omega) hi
  have bd:(Jn (l.map zi)).length- (j+1) < (Jn (l.map zi)).length-j:=by omega
  have w9:IntKind.i64.wrap ((j:Int)+1)=((j+1:Nat):Int):=by rw [w64 (by omega) (by omega)];rfl
  have hz0:z0V= .ag [.s [],.ns]:=rfl
  have nx:JdK (l.map zi) (Jn (l.map zi))[j]=false→ ∀ i (hi:i < (Jn (l.map zi)).length),i < j+1→JdK (l.map zi) (Jn (l.map zi))[i]=false:=fun h i hi hij=>by
   by_cases e:i=j
   ·subst e;exact h
   ·exact hp i hi (by omega)
  have hbk:=Jlk (L:=l.map zi) hout;generalize hii:(Jn (l.map zi))[j]=i at*;have hp0:(0:Int)≤(i:Nat):=by omega
  obtain ⟨⟨ls,hn⟩,hcl,htt,hme,hty,hch,hun⟩:=Ze hone;rw [hit0] at hbk;have hfz:(zi l[i]).f=Jq l[i].o:=rfl;rw [hfz] at hbk;let bad:Nat→Bool:=fun k=>decide ((lb.getD k (([],0),false)).1.2=39) &&JqF l[i].o (lb.getD k (([],0),false)).1.1
  have hkn: ∀ k (hk:k < lb.length),lb[k].1.1.length≤1099511627776∧(bad k=true→JdK (l.map zi) i=true):=fun k hk=>by
   have hmem:Q8 lb lb[k].1≠none:=fun h=>JjS.1 h lb[k] (List.getElem_mem hk) rfl
   rw [hS] at hmem;split at hmem
   ·rename_i hh
    obtain ⟨h2,h3⟩:=hh;obtain ⟨i',hi',h4⟩:=List.any_eq_true.1 h3;simp only [decide_eq_true_eq] at h4;obtain ⟨j',hj',rfl⟩:=List.mem_iff_getElem.1 hi';obtain ⟨g1,g2,g3,g4,g5,g6⟩:=hK.get hj';obtain ⟨⟨ls',hn'⟩,-⟩:=Ze g4;rw [g3] at h4;have hf':Jq (l[(Jn (l.map zi))[j']]).o=lb[k].1.1:=h4.1;refine ⟨by rw [←hf'];exact Nat.le_trans (Jkt _) g5,fun hb=> ?_⟩
    have hg:lb.getD k (([],0),false)=lb[k]:=by simp [List.getD,hk]
    simp only [bad,hg,Bool.and_eq_true,decide_eq_true_eq] at hb;rw [←hf',JiG hn hn'] at hb;rw [hbk,List.any_eq_true];refine ⟨_,hi',?_⟩
    rw [g3];have ht39:(zi l[(Jn (l.map zi))[j']]).r.t=39:=by rw [h4.2];exact hb.1
    have hfz':(zi l[(Jn (l.map zi))[j']]).f=Jq (l[(Jn (l.map zi))[j']]).o:=rfl;rw [ht39,hfz'];simpa using hb.2
   ·exact absurd rfl hmem
  have hsome:JdK (l.map zi) i=true→ ∃ k,k < lb.length∧bad k=true:=fun hb=>by
   rw [hbk,List.any_eq_true] at hb;obtain ⟨i',hi',hh⟩:=hb;obtain ⟨j',hj',rfl⟩:=List.mem_iff_getElem.1 hi';obtain ⟨g1,g2,g3,g4,g5,g6⟩:=hK.get hj';obtain ⟨⟨ls',hn'⟩,-⟩:=Ze g4;rw [g3] at hh;have hfz':(zi l[(Jn (l.map zi))[j']]).f=Jq (l[(Jn (l.map zi))[j']]).o:=rfl;rw [hfz'] at hh;simp only [Bool.and_eq_true,decide_eq_true_eq] at hh
   have hget:Q8 lb (Jq (l[(Jn (l.map zi))[j']]).o,39)=some true:=by
    rw [hS,if_pos];refine ⟨.inr rfl,List.any_eq_true.2 ⟨_,hi',?_⟩⟩
    rw [g3];simp only [decide_eq_true_eq];exact ⟨rfl,hh.1.1⟩
   obtain ⟨k,hk,hke⟩:=List.mem_iff_getElem.1 (JlL hget);refine ⟨k,hk,?_⟩
   have hg:lb.getD k (([],0),false)=lb[k]:=by simp [List.getD,hk]
   simp only [bad,hg,hke,Bool.and_eq_true,decide_eq_true_eq];refine ⟨trivial,?_⟩
   rw [JiG hn hn'];simpa using ⟨hh.1.2,hh.2⟩
  obtain ⟨m1,m2⟩:Jfp H1 (.mp H.n)∧Yq H1 (.mp H.n)=JaM kK AV.b lb:=⟨by simp only [Jfp,hlb],JkV hlb⟩
  simp -implicitDefEqProofs only [bU,Jc,reduceCtorEq,bT,bV,q0,q1,q4,q12,q29,qs,ql,qx,h1,hL0,hz0,Jj,a1,a2,a3,a4,m1,m2,hNl]
  refine Jl (fun m e M=> ∃ (seen:List Nat) (L0:List Lv),m=lb.length-seen.length∧seen.Nodup∧(∀ k,k∈seen→k < lb.length∧bad k=false)∧look e 0=a∧look e 1= .s apex∧look e 4= .la 4 0 0 0∧look e 12=o∧look e 29= .mp H.n∧look e 38= .i .i64 i∧look e 311=o∧look e 312= .i .i64 (Jn (l.map zi)).length∧look e 313= .i .i64 j∧look e 318= .li 318 (g+j*(1+lb.length))∧M=⟨L0,g+j*(1+lb.length)+1+seen.length,H1⟩∧JJ [0,1,4,12,29,38,311,312,313,318] L0=[⟨318,g+j*(1+lb.length),2,[.mp H.n,.i .i64 (lb.length:Nat),.ag (Jew seen)]⟩,⟨4,0,0,[.ag [.s [],.ns]]⟩]) ?_ (n:=lb.length)
   ⟨[],_,rfl,by simp,(fun k hk=>by cases hk),rfl,rfl,rfl,rfl,rfl,rfl,rfl,rfl,rfl,rfl,rfl,rfl⟩
  clear q0 q1 q4 q12 q29 qs ql qx hL0 L0;rintro m e M ⟨seen,L0,rfl,hnd,hsn,q0,q1,q4,q12,q29,q38,qs,ql,qx,q318,rfl,hL0⟩;have hlk: ∀ (s:List Nat),Qx [⟨318,g+j*(1+lb.length),2,[.mp H.n,.i .i64 (lb.length:Nat),.ag (Jew s)]⟩,⟨4,0,0,[.ag [.s [],.ns]]⟩] 318 (g+j*(1+lb.length)) 2=some [.mp H.n,.i .i64 (lb.length:Nat),.ag (Jew s)]:=fun s=>by simp [Qx]
  obtain ⟨i1,i2,i3,i4,i5,i6⟩:=Jja (g:=g+j*(1+lb.length)+1+seen.length) (hlk seen) hlb hNl;have mem_i:=fun k=>hsn k
  by_cases hall: ∀ k,k < lb.length→k∈seen
  ·
   have hno: ∀ k,k < lb.length→ ¬ k∈seen→False:=fun k h h2=>h2 (hall k h)
   have hlen:seen.length=lb.length:=by
    have h1:seen.Perm (List.range lb.length):=(List.perm_ext_iff_of_nodup hnd List.nodup_range).2 fun k=>by
     rw [List.mem_range];exact ⟨fun h=>(hsn k h).1,fun h=>hall k h⟩
    rw [h1.length_eq,List.length_range]
   have hw:JdK (l.map zi) i=false:=by
    rw [←Bool.not_eq_true];intro hb;obtain ⟨k,hk,hbk⟩:=hsome hb;have:=(hsn k (hall k hk)).2;rw [hbk] at this;cases this
   simp -implicitDefEqProofs only [bU,Jc,reduceCtorEq,Ja,bT,bV,Ja,q0,q1,q4,q12,q29,q38,qs,ql,qx,q318,hL0,i1,i2,i3,i5,hNl];refine ⟨fun k hk hns=>absurd (hall k hk) hns,fun _=> ?_⟩
   simp -implicitDefEqProofs only [w9];refine ⟨_,bd,j+1,[⟨318,g+j*(1+lb.length),2,[.mp H.n,.i .i64 (lb.length:Nat),.ag (Jew seen)]⟩,⟨4,0,0,[.ag [.s [],.ns]]⟩],hjl,rfl,rfl,?_,rfl,nx hw⟩
   have:g+j*(1+lb.length)+1+seen.length=g+(j+1)*(1+lb.length):=by rw [hlen,Nat.succ_mul];omega
   rw [this]
  ·
   simp -implicitDefEqProofs only [bU,Jc,reduceCtorEq,Ja,bT,bV,Ja,q0,q1,q4,q12,q29,q38,qs,ql,qx,q318,hL0,i1,i2,i3,i5,i6,hNl];refine ⟨fun k hk hns=> ?_,fun h=>absurd h hall⟩
   rw [←hB];obtain ⟨j1,j2,j3,j4,j5,-⟩:=Jja (g:=g+j*(1+lb.length)+1+seen.length) (hlk (seen++[k])) hlb hNl;rw [List.getLastD_eq_getLast?,List.getLast?_concat,Option.getD_some] at j4;have hne:(seen++[k]=[])=False:=eq_false (by simp)
   have hgk:(JaM kK AV.b lb).getD k (.u,.u)=(.ag [.s lb[k].1.1,.i .i64 lb[k].1.2],.b lb[k].2):=Jrt hk;obtain ⟨hfl,hbd⟩:=hkn k hk;have hlg:lb.getD k (([],0),false)=lb[k]:=by simp [List.getD,hk]
   have ks:=hU l[i].o lb[k].1.1 H1 z1 hfl;have hnd2:(seen++[k]).Nodup:=List.nodup_append.2 ⟨hnd,by simp,fun x hx y hy hxy=>by rw [List.mem_singleton] at hy;subst hy;subst hxy;exact hns hx⟩
   have bs:lb.length- (seen++[k]).length < lb.length-seen.length:=by
    have h1:seen.length < lb.length:=by
     have:=Jml hnd2 fun x hx=>by
      rcases List.mem_append.1 hx with h | h
      ·exact (hsn x h).1
      ·rw [List.mem_singleton] at h;subst h;exact hk
     simp at this;omega
    simp;omega
   have hcont:bad k=false→ ∀ x,x∈seen++[k]→x < lb.length∧bad x=false:=fun hb x hx=>by
    rcases List.mem_append.1 hx with h | h
    ·exact hsn x h
    ·rw [List.mem_singleton] at h;subst h;exact ⟨hk,hb⟩
   have gg:g+j*(1+lb.length)+1+seen.length+1=g+j*(1+lb.length)+1+(seen++[k]).length:=by simp;omega
   by_cases h39:lb[k].1.2=39
   ·have h39':(lb[k].1.2=39)=True:=eq_true h39
    cases hst:JqF l[i].o lb[k].1.1 with
    | true=>
     rw [hst] at ks;have hb:bad k=true:=by simp only [bad,hlg,hst,h39,decide_true,Bool.and_self]
     simp -implicitDefEqProofs only [bU,Jc,reduceCtorEq,Ja,bT,bV,Ja,z,c,f0,ld,v0,Jj,j1,j2,j3,j4,j5,hne,hgk,hNl,hk,h39',ks,ne_eq,JG,JH];exact hit i _ _ _ (hfa (hbd hb)) rfl rfl rfl rfl
    | false=>
     rw [hst] at ks;have hb:bad k=false:=by simp only [bad,hlg,hst,Bool.and_false]
     simp -implicitDefEqProofs only [bU,Jc,reduceCtorEq,Ja,bT,bV,Ja,z,c,f0,ld,v0,Jj,j1,j2,j3,j4,j5,hne,hgk,hNl,hk,h39',ks,ne_eq];rw [gg];exact ⟨_,bs,seen++[k],_,rfl,hnd2,hcont hb,rfl,rfl⟩
   ·have hb:bad k=false:=by simp only [bad,hlg,decide_eq_false h39,Bool.false_and]
    simp -implicitDefEqProofs only [bU,Jc,reduceCtorEq,Ja,bT,bV,Ja,j1,j2,j3,j4,j5,hne,hgk,hNl,hk,h39,ne_eq];rw [gg];exact ⟨_,bs,seen++[k],_,rfl,hnd2,hcont hb,rfl,rfl⟩
 ·have hil:j=(Jn (l.map zi)).length:=by omega
  subst hil;have hno:=JcV (q:=JdK (l.map zi)) fun i hi=>hp i hi hi
  simp -implicitDefEqProofs only [bU,Jc,reduceCtorEq,bT,q0,q1,q4,q12,q29,qs,ql,qx,h1,hL0];exact miss hno
end
abbrev iN (n:Nat):AV:= .i .i64 (n:Int)
theorem Jo6 {l:List Jbj} {k:Jbj} (h: ¬ k∈l) (k':Jbj):(if k'∈l++[k] then some ((l++[k]).idxOf k') else none)=if k=k' then some l.length else if k'∈l then some (l.idxOf k') else none:=by
 by_cases e:k=k'
 ·subst e
  rw [if_pos (by simp),if_pos rfl,List.idxOf_append,if_neg h]
  simp
 ·rw [if_neg e]
  by_cases h2:k'∈l
  ·rw [if_pos (List.mem_append_left _ h2),if_pos h2,List.idxOf_append,if_pos h2]
  ·rw [if_neg (by rw [List.mem_append,not_or];exact ⟨h2,by simpa using fun h=>e h.symm⟩),if_neg h2]
theorem Jm9 {ow:List UInt8→List UInt8} {K:List Zi} {x:Zi} (h: ¬ x.k∈keysOf K):(keysOf (K++[x])).map (ZE ow (K++[x]))=(keysOf K).map (ZE ow K)++[⟨ow x.f,x.r.t,x.r.ttl,[x.r.d]⟩]:=by
 rw [Q7,if_neg h,List.map_append];have hno: ∀ y,y∈K→y.k≠x.k:=fun y hy e=>h ((Qe K).2 ⟨y,hy,e⟩)
 congr 1
 ·exact List.map_congr_left fun k hk=>JgW fun e=>h (by rw [e];exact hk)
 ·have h1:(K++[x]).filter (fun y=>decide (y.k=x.k))=[x]:=by
   rw [List.filter_append,List.filter_eq_nil_iff.2 fun y hy=>by simpa using hno y hy];simp
  have h2:(K++[x]).find? (fun y=>decide (y.k=x.k))=some x:=by
   rw [List.find?_append,List.find?_eq_none.2 fun y hy=>by simpa using hno y hy];simp
  simp only [List.map_cons,List.map_nil,ZE,h1,h2];rfl
theorem Jn2 {ow:List UInt8→List UInt8} {K:List Zi} {x:Zi} (h:x.k∈keysOf K) (hi:(keysOf K).idxOf x.k < ((keysOf K).map (ZE ow K)).length):
  (keysOf (K++[x])).map (ZE ow (K++[x]))=((keysOf K).map (ZE ow K)).set ((keysOf K).idxOf x.k) (addD (((keysOf K).map (ZE ow K))[(keysOf K).idxOf x.k]) x.r.d):=by
 rw [Q7,if_pos h];have hi':(keysOf K).idxOf x.k < (keysOf K).length:=by simpa using hi
 have hk:(keysOf K)[(keysOf K).idxOf x.k]=x.k:=List.getElem_idxOf hi';apply List.ext_getElem (by simp)
 intro j h1 h2;rw [List.getElem_set];simp only [List.getElem_map];by_cases e:(keysOf K).idxOf x.k=j
 ·subst e
  rw [if_pos rfl,hk];obtain ⟨y,hy,hyk⟩:=(Qe K).1 h
  have h3: ∃ z,K.find? (fun y=>decide (y.k=x.k))=some z:=by
   cases hf:K.find? fun y=>decide (y.k=x.k) with
   | none=>exact absurd (by simpa using hyk) (List.find?_eq_none.1 hf y hy)
   | some z=>exact ⟨z,rfl⟩
  obtain ⟨z,h3⟩:=h3;simp only [ZE,addD,List.find?_append,h3,List.filter_append,Option.some_or];simp
 ·rw [if_neg e]
  refine JgW fun h4=>e ?_
  have hj:j < (keysOf K).length:=by simpa using h1
  rw [h4];exact (Yl K).idxOf_getElem j hj
theorem JfT {ow:List UInt8→List UInt8} {K:List Zi}:((keysOf K).map (ZE ow K)).length≤K.length∧ ∀ s,s∈(keysOf K).map (ZE ow K)→s.d.length≤K.length:=by
 refine ⟨?_,fun s hs=> ?_⟩
 ·rw [List.length_map]
  induction K using Jaj with
  | h0=>simp [keysOf]
  | h1 R x ih=>
   rw [Q7];split
   ·simp;omega
   ·simp;omega
 ·obtain ⟨k,-,rfl⟩:=List.mem_map.1 hs
  simp only [ZE,List.length_map];exact List.length_filter_le _ _
structure G8 (H0 H:AH) (apex:List UInt8) (oz zs:AV) (sets:List Qa) (ds:List AV) (lw:List (List UInt8×List UInt8)) (la:List (Jbj×Nat)):Prop where
 ext:Ext H0 H
 hn:H0.n+3≤H.n
 ob:JbE H H0.n [.s apex,oz]
 mo:H.at' (H0.n+1)= .map true (JaM kS .s lw)
 ma:H.at' (H0.n+2)= .map true (JaM kK iN la)
 zm:ZM H (H0.n+3) zs sets ds
section
variable {H0 H H':AH} {apex:List UInt8} {oz zs:AV} {sets:List Qa} {ds:List AV} {lw:List (List UInt8×List UInt8)} {la:List (Jbj×Nat)}
theorem G8.setO (h:G8 H0 H apex oz zs sets ds lw la) (lw':List (List UInt8×List UInt8)):G8 H0 (H.set (H0.n+1) (.map true (JaM kS .s lw'))) apex oz zs sets ds lw' la where
 ext:=h.ext.set (by omega)
 hn:=h.hn
 ob:=h.ob.fr (Nat.le_refl _) (XQ (by omega))
 mo:=Z9
 ma:=by rw [XQ (by omega)];exact h.ma
 zm:=h.zm.fr (Nat.le_refl _) fun i hi=>XQ (by have:=h.zm.ge i hi;omega)
theorem G8.setA (h:G8 H0 H apex oz zs sets ds lw la) (la':List (Jbj×Nat)):G8 H0 (H.set (H0.n+2) (.map true (JaM kK iN la'))) apex oz zs sets ds lw la' where
 ext:=h.ext.set (by omega)
 hn:=h.hn
 ob:=h.ob.fr (Nat.le_refl _) (XQ (by omega))
 mo:=by rw [XQ (by omega)];exact h.mo
 ma:=Z9
 zm:=h.zm.fr (Nat.le_refl _) fun i hi=>XQ (by have:=h.zm.ge i hi;omega)
theorem G8.mv (h:G8 H0 H apex oz zs sets ds lw la) {zs':AV} {sets':List Qa} {ds':List AV} (hz:ZM H' (H0.n+3) zs' sets' ds') (hn:H.n≤H'.n) (ha: ∀ i,i < H.n→ ¬ i∈idA zs++ds.flatMap idA→H'.at' i=H.at' i):G8 H0 H' apex oz zs' sets' ds' lw la:=by
 have hb: ∀ i,i < H0.n+3→H'.at' i=H.at' i:=fun i hi=>ha i (by have:=h.hn;omega) fun hm=>by have:=h.zm.ge i hm;omega
 exact ⟨⟨Nat.le_trans h.ext.n hn,fun i hi=>by rw [hb i (by omega)];exact h.ext.at' i hi⟩,Nat.le_trans h.hn hn,h.ob.fr hn (hb _ (by omega)),by rw [hb _ (by omega)];exact h.mo,by rw [hb _ (by omega)];exact h.ma,hz⟩
theorem G8.stz (h:G8 H0 H apex oz zs sets ds lw la):(∀ (L:List Lv) (g:Nat),stC ⟨L,g,H⟩ zs (.pv H0.n 1))∧ ∃ H',(∀ (L:List Lv) (g:Nat),stM ⟨L,g,H⟩ zs (.pv H0.n 1)=⟨L,g,H'⟩)∧G8 H0 H' apex zs zs sets ds lw la∧H'.n=H.n:=by
 obtain ⟨c1,H',c2,c3,c4,c5⟩:=h.ob.st (off:=1) (v:=zs) (by simp) h.zm.rd.row.one
 refine ⟨c1,H',c2,⟨?_,by rw [c4];exact h.hn,c3,?_,?_,?_⟩,c4⟩
 ·exact ⟨by rw [c4];exact h.ext.n,fun i hi=>by rw [c5 i (by simp;omega)];exact h.ext.at' i hi⟩
 ·rw [c5 _ (by simp)];exact h.mo
 ·rw [c5 _ (by simp)];exact h.ma
 ·exact h.zm.fr (by omega) fun i hi=>c5 i (by have:=h.zm.ge i hi;simp;omega)
theorem G8.ldz (h:G8 H0 H apex oz zs sets ds lw la):(∀ (L:List Lv) (g:Nat),ldC ⟨L,g,H⟩ none (.pv H0.n 1))∧ ∀ (L:List Lv) (g:Nat),ldX ⟨L,g,H⟩ none (.pv H0.n 1)=oz:=h.ob.ld (off:=1) (by simp)
end
section
variable {C:Tab} {apex:List UInt8} {H0 H:AH} {e:Env} {L0:List Lv} {g:Nat} {κ:Jaa} {oz zs:AV} {sets:List Qa} {ds:List AV} {lw:List (List UInt8×List UInt8)} {la:List (Jbj×Nat)}
def lvI (gr gk:Nat) (r:Rr) (key:AV):List Lv:=[⟨49,gk,0,[key]⟩,⟨45,gr,0,[eR.v r]⟩,⟨4,0,0,[z0V]⟩]
theorem pv1 {n:Nat}:faV 1 (.pv n 0)= .pv n 1:=rfl
theorem ZM.ap_fr {n0:Nat} (h:ZM H n0 zs sets ds) {k:Nat} (hk:k < sets.length) (hkd:k < ds.length) {y:AV} {x:List UInt8} {L:List Lv} {H1:AH} (hy:QE ⟨L,g,H⟩ y=[AV.s x]∧Je7 ⟨L,g,H⟩ 1 y) (hb:sets[k].d.length≤1000) (he:apM ⟨L,g,H⟩ 1 y ds[k]=⟨L,g,H1⟩):H.n≤H1.n∧ ∀ i,i < n0→i < H.n→H1.at' i=H.at' i:=by
 obtain ⟨p1,d',H2,p2,p3,p4,p5,p6,p7,-,-⟩:=Mn.ap (by':=16) (h.dat k hk hkd) hy (by simp;omega)
 have e:H2=H1:=by
  have:=congrArg Mem.h (p3.symm.trans he);exact this
 subst e;exact ⟨p5,fun i hi h1=>p6 i h1 fun hm=>by have:=h.ge i (List.mem_append_right _ (List.mem_flatMap.2 ⟨_,List.getElem_mem hkd,hm⟩));omega⟩
set_option maxHeartbeats 4000000 in
theorem Ji6 {gr gk:Nat} {r:Rr} {key:AV} {k:Nat} (hG:G8 H0 H apex zs zs sets ds lw la) (hk:k < sets.length) (hb:sets[k].d.length≤1000) (hsl:sets.length≤1000)
  (q40:look e 40= .pv H0.n 0) (q45:look e 45= .la 45 gr 0 0) (q50:look e 50= .i .i64 (k:Nat)) (hL:L0=lvI gr gk r key∨ ∃ g1 v,L0=⟨396,g1,0,[v]⟩::lvI gr gk r key)
  (fin: ∀ e' L' g' H' d',(look e' 0=look e 0∧look e' 4=look e 4∧look e' 12=look e 12∧look e' 40=look e 40∧look e' 41=look e 41∧look e' 42=look e 42∧look e' 343=look e 343∧look e' 344=look e 344∧look e' 345=look e 345)→JJ [0,4,40,41,42,343,344,345] L'=[⟨4,0,0,[z0V]⟩]→
   G8 H0 H' apex zs zs (sets.set k (addD sets[k] r.d)) (ds.set k d') lw la→κ .nx e' ⟨L',g',H'⟩):
  exec C (sAt Jk.s [1,1,1,1,1,1,1,1,1,1,1,1,1,1,1,1,1,1,1,1,1,0,1,2,2,1,1,0,2,1,1,1,1,1,1,1]) e ⟨L0,g,H⟩ κ:=by
 simp only [Jk,sAt];have hz:=hG.zm;have hkd:k < ds.length:=by rw [hz.len];exact hk
 obtain ⟨l1,l2⟩:=hz.rd.row.len;rw [QK hz.len] at l1;obtain ⟨a1,a2,a3,a4,a5,a6,a7,a8,-,-⟩:=hz.rd.at' hk hkd;obtain ⟨b1,b2⟩:=hG.ldz;have zo:=hz.rd.row.out;have zc:=hz.rd.row.one;have hpf: ∀ {n:Nat},faC (.pv n 0):=trivial;rcases hL with rfl | ⟨g1,v,rfl⟩
 ·obtain ⟨p1,d',H1,p2,p3,p4,p5,p6,p7,p8,p9,H2,p10,p11,p12,p13,p14⟩:=hz.addD hG.hn hk hkd (Qk (t:=410) (g:=g) (z:=1) (x:= .s r.d) (L:=lvI gr gk r key) (H:=H)) hb
  obtain ⟨f1,f2⟩:=hz.ap_fr hk hkd Qk hb p5;obtain ⟨c1,c2⟩:=(hG.ob.fr f1 (f2 _ (by omega) (by have:=hG.hn;omega))).ld (off:=1) (by simp)
  simp only [List.getD_cons_succ,List.getD_cons_zero] at c2;simp only [lvI,JcE,z0V] at p1 p2 p5 fin ⊢;simp -implicitDefEqProofs only [bU,Jc,Ja,bT,bV,Ja,Qs,J6,q40,q45,q50,pv1,hpf,b1,b2,a1,a2,a3,a4,a8,Jj,JE,JQ,List.replicate];simp -implicitDefEqProofs only [bU,bV,p1,p2,p3,p4,p5,p6,p9,p10,c1,c2];exact fin _ _ _ H2 d' ⟨rfl,rfl,rfl,rfl,rfl,rfl,rfl,rfl,rfl⟩ rfl (hG.mv p11 p12 p13)
 ·obtain ⟨p1,d',H1,p2,p3,p4,p5,p6,p7,p8,p9,H2,p10,p11,p12,p13,p14⟩:=hz.addD hG.hn hk hkd (Qk (t:=410) (g:=g) (z:=1) (x:= .s r.d) (L:=⟨396,g1,0,[v]⟩::lvI gr gk r key) (H:=H)) hb
  obtain ⟨f1,f2⟩:=hz.ap_fr hk hkd Qk hb p5;obtain ⟨c1,c2⟩:=(hG.ob.fr f1 (f2 _ (by omega) (by have:=hG.hn;omega))).ld (off:=1) (by simp)
  simp only [List.getD_cons_succ,List.getD_cons_zero] at c2;simp only [lvI,JcE,z0V] at p1 p2 p5 fin ⊢;simp -implicitDefEqProofs only [bU,Jc,Ja,bT,bV,Ja,Qs,J6,q40,q45,q50,pv1,hpf,b1,b2,a1,a2,a3,a4,a8,Jj,JE,JQ,List.replicate];simp -implicitDefEqProofs only [bU,bV,p1,p2,p3,p4,p5,p6,p9,p10,c1,c2];exact fin _ _ _ H2 d' ⟨rfl,rfl,rfl,rfl,rfl,rfl,rfl,rfl,rfl⟩ rfl (hG.mv p11 p12 p13)
end
section
variable {C:Tab} {apex:List UInt8} {H0 H:AH} {e:Env} {L0:List Lv} {g:Nat} {κ:Jaa} {oz zs:AV} {sets:List Qa} {ds:List AV} {lw:List (List UInt8×List UInt8)} {la:List (Jbj×Nat)}
set_option maxHeartbeats 4000000 in
theorem Jop {gr gk:Nat} {r:Rr} {f ow:List UInt8} (hG:G8 H0 H apex zs zs sets ds lw la) (hsl:sets.length≤500) (how:Q8 lw f=some ow)
  (q40:look e 40= .pv H0.n 0) (q41:look e 41= .mp (H0.n+1)) (q42:look e 42= .mp (H0.n+2)) (q45:look e 45= .la 45 gr 0 0) (q46:look e 46= .s f) (q49:look e 49= .la 49 gk 0 0)
  (fin: ∀ e' g' H' zs' g1 v,(look e' 0=look e 0∧look e' 4=look e 4∧look e' 12=look e 12∧look e' 40=look e 40∧look e' 41=look e 41∧look e' 42=look e 42∧look e' 343=look e 343∧look e' 344=look e 344∧look e' 345=look e 345∧look e' 45=look e 45)→look e' 50= .i .i64 (sets.length:Nat)→
   G8 H0 H' apex zs' zs' (sets++[⟨ow,r.t,r.ttl,[]⟩]) (ds++[.ns]) lw (Z4 la (f,r.t) sets.length)→κ .nx e' ⟨⟨396,g1,0,[v]⟩::lvI gr gk r (.ag [.s f,.i .i64 r.t]),g',H'⟩):
  exec C (sAt Jk.s [1,1,1,1,1,1,1,1,1,1,1,1,1,1,1,1,1,1,1,1,1,0,1,2,2,1,1,0,2,1,1,1,1,1,1,0,1,3]) e ⟨lvI gr gk r (.ag [.s f,.i .i64 r.t]),g,H⟩ κ:=by
 simp only [Jk,sAt];obtain ⟨l1,l2⟩:=hG.zm.rd.row.len;rw [QK hG.zm.len] at l1;obtain ⟨b1,b2⟩:=hG.ldz;obtain ⟨m1,m2,m3⟩:=Jpr hG.ma f r.t sets.length (v:= .i .i64 (sets.length:Nat)) rfl;have G2:=hG.setA (Z4 la (f,r.t) sets.length);generalize H.set (H0.n+2) (.map true (JaM kK iN (Z4 la (f,r.t) sets.length)))=H2 at m3 G2;obtain ⟨d1,d2⟩:=G2.ldz;obtain ⟨u1,u2,u3⟩:=Jpj G2.mo f;rw [how] at u3;simp only [Option.map_some] at u3;obtain ⟨p1,zs',H3,p2,p3,p4,p5,p6,p7⟩:=G2.zm.push G2.hn (s:=⟨ow,r.t,r.ttl,[]⟩) rfl (Qk (t:=396) (g:=g) (z:=4) (x:=sV ⟨ow,r.t,r.ttl,[]⟩ .ns) (L:=lvI gr gk r (.ag [.s f,.i .i64 r.t])) (H:=H2)) (by omega)
 have G3:=G2.mv p4 p5 fun i hi hm=>p6 i hi fun hz=>hm (List.mem_append_left _ hz)
 obtain ⟨s1,H4,s2,G4,s4⟩:=G3.stz;have zo:=hG.zm.rd.row.out;have zc:=hG.zm.rd.row.one;have zo':=p4.rd.row.out;have zc':=p4.rd.row.one;have hpf: ∀ {n:Nat},faC (.pv n 0):=trivial;simp only [lvI,JcE,z0V,sV] at p1 p2 p3 fin ⊢;simp -implicitDefEqProofs only [bU,Jc,Ja,Jb,bT,bV,Ja,Jb,Jg,q40,q41,q42,q45,q46,q49,pv1,hpf,b1,b2,l1,l2,m1,m2,m3,d1,d2,u1,u2,u3,lkV,JG,JH,JE,JQ,List.replicate];simp -implicitDefEqProofs only [bU,bV,p1,p2,p3,zo',zc',s1,s2];exact fin _ _ H4 zs' _ _ ⟨rfl,rfl,rfl,rfl,rfl,rfl,rfl,rfl,rfl,rfl⟩ rfl G4
end
def Kz (l:List Rr) (j:Nat):List Zi:=((Jn (l.map zi)).take j).map (itZ (l.map zi))
theorem JlT {l:List Rr} {j:Nat} (hj:j < (Jn (l.map zi)).length):Kz l (j+1)=Kz l j++[itZ (l.map zi) (Jn (l.map zi))[j]]:=by
 unfold Kz;rw [List.take_succ_eq_append_getElem hj,List.map_append];rfl
theorem JsW (l:List Rr):Kz l (Jn (l.map zi)).length=J2 (l.map zi):=by unfold Kz;rw [List.take_length];rfl
theorem Jtb (l:List Rr) (j:Nat):(Kz l j).length≤j:=by simp [Kz];omega
theorem JtI {l:List Rr} {j:Nat} (hj:j < (Jn (l.map zi)).length):((Kz l (j+1)).find? fun y=>decide (y.f=(itZ (l.map zi) (Jn (l.map zi))[j]).f)).map (fun y=>y.r.o)=some (W9 (l.map zi) (itZ (l.map zi) (Jn (l.map zi))[j]).f):=by
 have hsp:J2 (l.map zi)=Kz l (j+1)++((Jn (l.map zi)).drop (j+1)).map (itZ (l.map zi)):=by
  unfold J2 Kz;rw [←List.map_append,List.take_append_drop]
 generalize hx:itZ (l.map zi) (Jn (l.map zi))[j]=x at*;have hm:x∈Kz l (j+1):=by rw [JlT hj,hx];simp
 cases hf:(Kz l (j+1)).find? fun y=>decide (y.f=x.f) with
 | none=>exact absurd (by simp) (List.find?_eq_none.1 hf x hm)
 | some y=>
  have h1:(J2 (l.map zi)).find? (fun y=>decide (y.f=x.f))=some y:=by rw [hsp,List.find?_append,hf];rfl
  rw [Jhl] at h1;unfold W9;rw [h1];rfl
structure S8 (l:List Rr) (H0 H:AH) (apex:List UInt8) (j:Nat) (zs:AV) (ds:List AV) (lw:List (List UInt8×List UInt8)) (la:List (Jbj×Nat)):Prop where
 g8:G8 H0 H apex zs zs ((keysOf (Kz l j)).map (ZE (W9 (l.map zi)) (Kz l j))) ds lw la
 ow: ∀ f,Q8 lw f=((Kz l j).find? fun y=>decide (y.f=f)).map fun y=>y.r.o
 pl: ∀ k,Q8 la k=if k∈keysOf (Kz l j) then some ((keysOf (Kz l j)).idxOf k) else none
def J8 (l:List Rr) (a o:AV) (apex:List UInt8) (H0:AH) (m:Nat) (e:Env) (M:Mem):Prop:=
 ∃ (j:Nat) (L0:List Lv) (g:Nat) (H:AH) (zs:AV) (ds:List AV) (lw:List (List UInt8×List UInt8)) (la:List (Jbj×Nat)),j≤(Jn (l.map zi)).length∧m=(Jn (l.map zi)).length-j∧look e 0=a∧look e 4= .la 4 0 0 0∧look e 40= .pv H0.n 0∧look e 41= .mp (H0.n+1)∧look e 42= .mp (H0.n+2)∧look e 343=o∧look e 344= .i .i64 (Jn (l.map zi)).length∧look e 345= .i .i64 j∧M=⟨L0,g,H⟩∧JJ [0,4,40,41,42,343,344,345] L0=[⟨4,0,0,[z0V]⟩]∧S8 l H0 H apex j zs ds lw la
section
variable {C:Tab} {l:List Rr} {a o:AV} {apex:List UInt8} {H H0 H1:AH} {e:Env} {L0:List Lv} {g:Nat} {κ:Jaa}
set_option maxHeartbeats 4000000 in
theorem Juw (hK:KK l apex H a o) (hLow:Ja1 C Qc) (he:Ext H H0) {zs0:AV} {ds0:List AV} (hS:S8 l H0 H1 apex 0 zs0 ds0 [] [])
  (q0:look e 0=a) (q4:look e 4= .la 4 0 0 0) (q12:look e 12=o) (q40:look e 40= .pv H0.n 0) (q41:look e 41= .mp (H0.n+1)) (q42:look e 42= .mp (H0.n+2)) (hL0:JJ [0,4,40,41,42,343,344,345] L0=[⟨4,0,0,[z0V]⟩])
  (miss: ∀ e' g' H' zs ds lw la,look e' 4= .la 4 0 0 0→look e' 40= .pv H0.n 0→S8 l H0 H' apex (Jn (l.map zi)).length zs ds lw la→κ .nx e' ⟨[⟨4,0,0,[z0V]⟩],g',H'⟩):
  exec C (sAt Jk.s [1,1,1,1,1,1,1,1,1,1,1,1,1,1,1,1,1,1,1,1,1,0]) e ⟨L0,g,H1⟩ κ:=by
 have hput:=(JaY [1,2,2,1,1,0,2,1,1,1,1,1,1,0,1,3] (sAt Jk.s [1,1,1,1,1,1,1,1,1,1,1,1,1,1,1,1,1,1,1,1,1,0])).symm;have hBB:sAt (sAt Jk.s [1,1,1,1,1,1,1,1,1,1,1,1,1,1,1,1,1,1,1,1,1,0]) [1,2,2,1,1,0,2,1,1,1,1,1,1,0,1,3]=sAt Jk.s [1,1,1,1,1,1,1,1,1,1,1,1,1,1,1,1,1,1,1,1,1,0,1,2,2,1,1,0,2,1,1,1,1,1,1,0,1,3]:=rfl;rw [hBB] at hput;generalize hB1:sAt Jk.s [1,1,1,1,1,1,1,1,1,1,1,1,1,1,1,1,1,1,1,1,1,0,1,2,2,1,1,0,2,1,1,1,1,1,1,0,1,3]=B1 at hput;rw [hput];clear hput hBB;have hput:=(JaY [1,2,2,1,1,0,2,1,1,1,1,1,1,1] (JaX (sAt Jk.s [1,1,1,1,1,1,1,1,1,1,1,1,1,1,1,1,1,1,1,1,1,0]) [1,2,2,1,1,0,2,1,1,1,1,1,1,0,1,3] B1)).symm;have hBB:sAt (JaX (sAt Jk.s [1,1,1,1,1,1,1,1,1,1,1,1,1,1,1,1,1,1,1,1,1,0]) [1,2,2,1,1,0,2,1,1,1,1,1,1,0,1,3] B1) [1,2,2,1,1,0,2,1,1,1,1,1,1,1]=sAt Jk.s [1,1,1,1,1,1,1,1,1,1,1,1,1,1,1,1,1,1,1,1,1,0,1,2,2,1,1,0,2,1,1,1,1,1,1,1]:=rfl;rw [hBB] at hput;generalize hB2:sAt Jk.s [1,1,1,1,1,1,1,1,1,1,1,1,1,1,1,1,1,1,1,1,1,0,1,2,2,1,1,0,2,1,1,1,1,1,1,1]=B2 at hput;rw [hput];clear hput hBB;simp only [Jk,sAt,JaX];have hK0:=hK.ext he;obtain ⟨l1,l2⟩:=Jfu (Sl.ext hK0.kp hS.g8.ext);have hks:=Jad (l:=l);have hln:=hK.ln;simp -implicitDefEqProofs only [bU,bT,q12,l1,l2]
 refine Jl (J8 l a o apex H0) ?_ (n:=(Jn (l.map zi)).length)
  ⟨0,_,_,_,_,_,_,_,by omega,by omega,by simp -implicitDefEqProofs only [bU,reduceCtorEq,bT,q0],by simp -implicitDefEqProofs only [bU,Jc,bT,q4],by simp -implicitDefEqProofs only [bU,Jc,bT,q40],by simp -implicitDefEqProofs only [bU,Jc,bT,q41],by simp -implicitDefEqProofs only [bU,Jc,bT,q42],rfl,rfl,rfl,rfl,hL0,hS⟩
 clear q0 q4 q12 q40 q41 q42 hL0 hS l1 l2;rintro m e M ⟨j,L0,g,Hj,zs,ds,lw,la,hj,rfl,q0,q4,q40,q41,q42,q343,q344,q345,rfl,hL0,hS⟩;by_cases h1:(j:Int) < (Jn (l.map zi)).length
 ·have hjl:j < (Jn (l.map zi)).length:=by omega
  have hKj:=hK0.ext hS.g8.ext;obtain ⟨hi,hout,hit0,hone,z1,z2⟩:=hKj.get hjl;obtain ⟨a1,a2,a3,a4⟩:=JjG hKj.kp hjl;obtain ⟨z,c,f0,rc,rv,ld,v0,v1,v2,v3,v4⟩:=JgI hKj.rd hi;have bd:(Jn (l.map zi)).length- (j+1) < (Jn (l.map zi)).length-j:=by omega
  have w9:IntKind.i64.wrap ((j:Int)+1)=((j+1:Nat):Int):=by rw [w64 (by omega) (by omega)];rfl
  have hz0:z0V= .ag [.s [],.ns]:=rfl;have hown:=JtI hjl;have hsucc:=JlT hjl;rw [hit0] at hown hsucc;have hKl:=Jtb l j;obtain ⟨hG,hW,hA⟩:=hS;obtain ⟨r1,r2⟩:=JfT (ow:=W9 (l.map zi)) (K:=Kz l j);generalize hii:(Jn (l.map zi))[j]=i at*;have hp0:(0:Int)≤(i:Nat):=by omega
  rw [JcE] at rv;obtain ⟨⟨ls,hn⟩,hcl,htt,hme,hty,hch,hun⟩:=Ze hone;have hfz:(zi l[i]).f=Jq l[i].o:=rfl;have hrz:(zi l[i]).r=l[i]:=rfl;have hkz:(zi l[i]).k=(Jq l[i].o,l[i].t):=rfl;have k1:=hLow l[i].o Hj z1;rw [←Xh hn] at k1;rw [hfz] at hown
  have hW1: ∀ (lw1:List (List UInt8×List UInt8)),(∀ f,Q8 lw1 f=if f=Jq l[i].o then some (W9 (l.map zi) (Jq l[i].o)) else Q8 lw f)→ ∀ f,Q8 lw1 f=((Kz l (j+1)).find? fun y=>decide (y.f=f)).map fun y=>y.r.o:=fun lw1 h f=>by
   rw [h];by_cases e1:f=Jq l[i].o
   ·rw [if_pos e1,e1,hown]
   ·rw [if_neg e1,hW,hsucc,List.find?_append]
    have hno: ¬ (zi l[i]).f=f:=fun h=>e1 h.symm
    cases hF:(Kz l j).find? fun y=>decide (y.f=f) with
    | some y=>rfl
    | none=>simp only [Option.none_or,List.find?_cons,List.find?_nil,decide_eq_false hno]
  have hA1: ¬ (zi l[i]).k∈keysOf (Kz l j)→ ∀ k,Q8 (Z4 la (Jq l[i].o,l[i].t) ((keysOf (Kz l j)).map (ZE (W9 (l.map zi)) (Kz l j))).length) k=if k∈keysOf (Kz l (j+1)) then some ((keysOf (Kz l (j+1))).idxOf k) else none:=fun h k=>by
   rw [JaI,hsucc,Q7,if_neg h,Jo6 h,hA,List.length_map,hkz]
  have hA2:(zi l[i]).k∈keysOf (Kz l j)→ ∀ k,Q8 la k=if k∈keysOf (Kz l (j+1)) then some ((keysOf (Kz l (j+1))).idxOf k) else none:=fun h k=>by
   rw [hsucc,Q7,if_pos h,hA]
  have hsl:((keysOf (Kz l j)).map (ZE (W9 (l.map zi)) (Kz l j))).length≤500:=by omega
  have hol:(keysOf (Kz l j)).length=((keysOf (Kz l j)).map (ZE (W9 (l.map zi)) (Kz l j))).length:=by simp
  have hOld: ∀ (h:(zi l[i]).k∈keysOf (Kz l j)) (hi:(keysOf (Kz l j)).idxOf (zi l[i]).k < ((keysOf (Kz l j)).map (ZE (W9 (l.map zi)) (Kz l j))).length),((keysOf (Kz l j)).map (ZE (W9 (l.map zi)) (Kz l j))).set ((keysOf (Kz l j)).idxOf (zi l[i]).k) (addD (((keysOf (Kz l j)).map (ZE (W9 (l.map zi)) (Kz l j)))[(keysOf (Kz l j)).idxOf (zi l[i]).k]) l[i].d)=(keysOf (Kz l (j+1))).map (ZE (W9 (l.map zi)) (Kz l (j+1))):=fun h hi=>by
   rw [hsucc];exact (Jn2 h hi).symm
  have hNew: ¬ (zi l[i]).k∈keysOf (Kz l j)→ ∀ (hk:((keysOf (Kz l j)).map (ZE (W9 (l.map zi)) (Kz l j))).length < (((keysOf (Kz l j)).map (ZE (W9 (l.map zi)) (Kz l j)))++[(⟨W9 (l.map zi) (Jq l[i].o),l[i].t,l[i].ttl,[]⟩:Qa)]).length),(((keysOf (Kz l j)).map (ZE (W9 (l.map zi)) (Kz l j)))++[(⟨W9 (l.map zi) (Jq l[i].o),l[i].t,l[i].ttl,[]⟩:Qa)]).set ((keysOf (Kz l j)).map (ZE (W9 (l.map zi)) (Kz l j))).length (addD ((((keysOf (Kz l j)).map (ZE (W9 (l.map zi)) (Kz l j)))++[(⟨W9 (l.map zi) (Jq l[i].o),l[i].t,l[i].ttl,[]⟩:Qa)])[((keysOf (Kz l j)).map (ZE (W9 (l.map zi)) (Kz l j))).length]) l[i].d)=(keysOf (Kz l (j+1))).map (ZE (W9 (l.map zi)) (Kz l (j+1))):=fun h hk=>by
   rw [hsucc,Jm9 h];simp only [List.getElem_concat_length];rw [List.set_append_right _ _ (Nat.le_refl _),Nat.sub_self];rfl
  generalize (keysOf (Kz l j)).map (ZE (W9 (l.map zi)) (Kz l j))=sets at*;obtain ⟨w1,w2,w3⟩:=Jpj hG.mo (Jq l[i].o);obtain ⟨m1,m2,m3⟩:=JsD hG.mo (Jq l[i].o) l[i].o (v:= .s l[i].o) rfl;have hWf:=hW (Jq l[i].o);cases hF:(Kz l j).find? fun y=>decide (y.f=Jq l[i].o) with
  | none=>
   rw [hF] at hWf;rw [hWf] at w3;simp only [Option.map_none] at w3
   have hO:W9 (l.map zi) (Jq l[i].o)=l[i].o:=by
    rw [hsucc,List.find?_append,hF] at hown;simp only [Option.none_or,List.find?_cons,decide_eq_true hfz,Option.map_some,Option.some.injEq] at hown;exact hown.symm
   have G1:=hG.setO (Z4 lw (Jq l[i].o) l[i].o);generalize Hj.set (H0.n+1) (.map true (JaM kS AV.s (Z4 lw (Jq l[i].o) l[i].o)))=Hx at m3 G1
   have wf: ∀ f,Q8 (Z4 lw (Jq l[i].o) l[i].o) f=if f=Jq l[i].o then some (W9 (l.map zi) (Jq l[i].o)) else Q8 lw f:=fun f=>by
    rw [JaI,hO];by_cases e1:Jq l[i].o=f
    ·rw [if_pos e1,if_pos e1.symm]
    ·rw [if_neg e1,if_neg fun h=>e1 h.symm]
   obtain ⟨t1,t2,t3⟩:=Jkx G1.ma (Jq l[i].o) l[i].t;rw [hA] at t3;by_cases hk:(zi l[i]).k∈keysOf (Kz l j)
   ·have hkd:(Jq l[i].o,l[i].t)∈keysOf (Kz l j):=hk
    rw [if_pos hkd] at t3;simp only [Option.map_some] at t3;have hil:(keysOf (Kz l j)).idxOf (zi l[i]).k < sets.length:=by rw [←hol];exact List.idxOf_lt_length_of_mem hk
    simp -implicitDefEqProofs only [bU,Jc,reduceCtorEq,Ja,Jb,bT,bV,Ja,Jb,Jg,q0,q4,q40,q41,q42,q343,q344,q345,h1,hL0,hz0,Jj,a1,a2,a3,a4,z,c,rc,rv,k1,w1,w2,w3,m1,m3,t1,t2,t3,lkV,JG,JH];rw [←hB2];refine Ji6 (gr:=g) (gk:=g+1) (r:=l[i]) (k:=(keysOf (Kz l j)).idxOf (zi l[i]).k) G1 hil (by have:=r2 _ (List.getElem_mem hil);omega) (by omega) ?_ ?_ ?_ (.inl rfl) fun e' L' g' H' d' hl hKp hG'=> ?_
    ·simp -implicitDefEqProofs only [bU,Jc,reduceCtorEq,bT]
    ·simp -implicitDefEqProofs only [bU,Jc,reduceCtorEq,bT]
    ·simp -implicitDefEqProofs only [bU,Jc,reduceCtorEq,bT];rfl
    rw [hOld hk hil] at hG';simp only [look,reduceIte,Jc] at hl;obtain ⟨s0,s4,s12,s40,s41,s42,s343,s344,s345⟩:=hl;simp -implicitDefEqProofs only [bU,bT,s345,w9];exact ⟨_,bd,j+1,_,_,_,_,_,_,_,hjl,rfl,by simp -implicitDefEqProofs only [bU,reduceCtorEq,bT,s0],by simp -implicitDefEqProofs only [bU,Jc,bT,s4],by simp -implicitDefEqProofs only [bU,Jc,bT,s40],by simp -implicitDefEqProofs only [bU,Jc,bT,s41],by simp -implicitDefEqProofs only [bU,Jc,bT,s42],by simp -implicitDefEqProofs only [bU,Jc,bT,s343],by simp -implicitDefEqProofs only [bU,Jc,bT,s344],by simp -implicitDefEqProofs only [bU,Jc,bT],rfl,hKp,⟨hG',hW1 _ wf,hA2 hk⟩⟩
   ·have hkd: ¬ (Jq l[i].o,l[i].t)∈keysOf (Kz l j):=hk
    rw [if_neg hkd] at t3;simp only [Option.map_none] at t3;simp -implicitDefEqProofs only [bU,Jc,reduceCtorEq,Ja,Jb,bT,bV,Ja,Jb,Jg,q0,q4,q40,q41,q42,q343,q344,q345,h1,hL0,hz0,Jj,a1,a2,a3,a4,z,c,rc,rv,k1,w1,w2,w3,m1,m3,t1,t2,t3,lkV,JG,JH];rw [←hB1];refine Jop (gr:=g) (gk:=g+1) (r:=l[i]) (f:=Jq l[i].o) (ow:=W9 (l.map zi) (Jq l[i].o)) G1 hsl (by rw [wf,if_pos rfl]) ?_ ?_ ?_ ?_ ?_ ?_ fun e1 g1 Hn zs' gg vv hl1 h50 hG1'=> ?_
    ·simp -implicitDefEqProofs only [bU,Jc,reduceCtorEq,bT]
    ·simp -implicitDefEqProofs only [bU,Jc,reduceCtorEq,bT]
    ·simp -implicitDefEqProofs only [bU,Jc,reduceCtorEq,bT]
    ·simp -implicitDefEqProofs only [bU,Jc,reduceCtorEq,bT]
    ·simp -implicitDefEqProofs only [bU,Jc,reduceCtorEq,bT]
    ·simp -implicitDefEqProofs only [bU,Jc,reduceCtorEq,bT]
    simp only [look,reduceIte,Jc] at hl1;obtain ⟨o0,o4,o12,o40,o41,o42,o343,o344,o345,o45⟩:=hl1;have hkn:sets.length < (sets++[(⟨W9 (l.map zi) (Jq l[i].o),l[i].t,l[i].ttl,[]⟩:Qa)]).length:=by simp
    simp -implicitDefEqProofs only [bU];rw [←hB2];refine Ji6 (gr:=g) (gk:=g+1) (r:=l[i]) (key:= .ag [.s (Jq l[i].o),.i .i64 l[i].t]) (k:=sets.length) hG1' hkn (by simp) (by simp;omega) o40 o45 h50 (.inr ⟨_,_,rfl⟩) fun e' L' g' H' d' hl hKp hG'=> ?_
    rw [hNew hk hkn] at hG';rw [o0,o4,o40,o41,o42,o343,o344,o345] at hl;obtain ⟨s0,s4,s12,s40,s41,s42,s343,s344,s345⟩:=hl;simp -implicitDefEqProofs only [bU,bT,s345,w9];exact ⟨_,bd,j+1,_,_,_,_,_,_,_,hjl,rfl,by simp -implicitDefEqProofs only [bU,reduceCtorEq,bT,s0],by simp -implicitDefEqProofs only [bU,Jc,bT,s4],by simp -implicitDefEqProofs only [bU,Jc,bT,s40],by simp -implicitDefEqProofs only [bU,Jc,bT,s41],by simp -implicitDefEqProofs only [bU,Jc,bT,s42],by simp -implicitDefEqProofs only [bU,Jc,bT,s343],by simp -implicitDefEqProofs only [bU,Jc,bT,s344],by simp -implicitDefEqProofs only [bU,Jc,bT],rfl,hKp,⟨hG',hW1 _ wf,hA1 hk⟩⟩
  | some y=>
   have hO:some y.r.o=some (W9 (l.map zi) (Jq l[i].o)):=by
    rw [hsucc,List.find?_append,hF] at hown;exact hown
   rw [hF] at hWf;rw [hWf] at w3;simp only [Option.map_some] at w3
   have wf: ∀ f,Q8 lw f=if f=Jq l[i].o then some (W9 (l.map zi) (Jq l[i].o)) else Q8 lw f:=fun f=>by
    by_cases e1:f=Jq l[i].o
    ·rw [if_pos e1,e1,hWf];exact hO
    ·rw [if_neg e1]
   obtain ⟨t1,t2,t3⟩:=Jkx hG.ma (Jq l[i].o) l[i].t;rw [hA] at t3;by_cases hk:(zi l[i]).k∈keysOf (Kz l j)
   ·have hkd:(Jq l[i].o,l[i].t)∈keysOf (Kz l j):=hk
    rw [if_pos hkd] at t3;simp only [Option.map_some] at t3;have hil:(keysOf (Kz l j)).idxOf (zi l[i]).k < sets.length:=by rw [←hol];exact List.idxOf_lt_length_of_mem hk
    simp -implicitDefEqProofs only [bU,Jc,reduceCtorEq,Ja,Jb,bT,bV,Ja,Jb,Jg,q0,q4,q40,q41,q42,q343,q344,q345,h1,hL0,hz0,Jj,a1,a2,a3,a4,z,c,rc,rv,k1,w1,w2,w3,t1,t2,t3,lkV,JG,JH];rw [←hB2];refine Ji6 (gr:=g) (gk:=g+1) (r:=l[i]) (k:=(keysOf (Kz l j)).idxOf (zi l[i]).k) hG hil (by have:=r2 _ (List.getElem_mem hil);omega) (by omega) ?_ ?_ ?_ (.inl rfl) fun e' L' g' H' d' hl hKp hG'=> ?_
    ·simp -implicitDefEqProofs only [bU,Jc,reduceCtorEq,bT]
    ·simp -implicitDefEqProofs only [bU,Jc,reduceCtorEq,bT]
    ·simp -implicitDefEqProofs only [bU,Jc,reduceCtorEq,bT];rfl
    rw [hOld hk hil] at hG';simp only [look,reduceIte,Jc] at hl;obtain ⟨s0,s4,s12,s40,s41,s42,s343,s344,s345⟩:=hl;simp -implicitDefEqProofs only [bU,bT,s345,w9];exact ⟨_,bd,j+1,_,_,_,_,_,_,_,hjl,rfl,by simp -implicitDefEqProofs only [bU,reduceCtorEq,bT,s0],by simp -implicitDefEqProofs only [bU,Jc,bT,s4],by simp -implicitDefEqProofs only [bU,Jc,bT,s40],by simp -implicitDefEqProofs only [bU,Jc,bT,s41],by simp -implicitDefEqProofs only [bU,Jc,bT,s42],by simp -implicitDefEqProofs only [bU,Jc,bT,s343],by simp -implicitDefEqProofs only [bU,Jc,bT,s344],by simp -implicitDefEqProofs only [bU,Jc,bT],rfl,hKp,⟨hG',hW1 _ wf,hA2 hk⟩⟩
   ·have hkd: ¬ (Jq l[i].o,l[i].t)∈keysOf (Kz l j):=hk
    rw [if_neg hkd] at t3;simp only [Option.map_none] at t3;simp -implicitDefEqProofs only [bU,Jc,reduceCtorEq,Ja,Jb,bT,bV,Ja,Jb,Jg,q0,q4,q40,q41,q42,q343,q344,q345,h1,hL0,hz0,Jj,a1,a2,a3,a4,z,c,rc,rv,k1,w1,w2,w3,t1,t2,t3,lkV,JG,JH];rw [←hB1];refine Jop (gr:=g) (gk:=g+1) (r:=l[i]) (f:=Jq l[i].o) (ow:=W9 (l.map zi) (Jq l[i].o)) hG hsl (by rw [wf,if_pos rfl]) ?_ ?_ ?_ ?_ ?_ ?_ fun e1 g1 Hn zs' gg vv hl1 h50 hG1'=> ?_
    ·simp -implicitDefEqProofs only [bU,Jc,reduceCtorEq,bT]
    ·simp -implicitDefEqProofs only [bU,Jc,reduceCtorEq,bT]
    ·simp -implicitDefEqProofs only [bU,Jc,reduceCtorEq,bT]
    ·simp -implicitDefEqProofs only [bU,Jc,reduceCtorEq,bT]
    ·simp -implicitDefEqProofs only [bU,Jc,reduceCtorEq,bT]
    ·simp -implicitDefEqProofs only [bU,Jc,reduceCtorEq,bT]
    simp only [look,reduceIte,Jc] at hl1;obtain ⟨o0,o4,o12,o40,o41,o42,o343,o344,o345,o45⟩:=hl1;have hkn:sets.length < (sets++[(⟨W9 (l.map zi) (Jq l[i].o),l[i].t,l[i].ttl,[]⟩:Qa)]).length:=by simp
    simp -implicitDefEqProofs only [bU];rw [←hB2];refine Ji6 (gr:=g) (gk:=g+1) (r:=l[i]) (key:= .ag [.s (Jq l[i].o),.i .i64 l[i].t]) (k:=sets.length) hG1' hkn (by simp) (by simp;omega) o40 o45 h50 (.inr ⟨_,_,rfl⟩) fun e' L' g' H' d' hl hKp hG'=> ?_
    rw [hNew hk hkn] at hG';rw [o0,o4,o40,o41,o42,o343,o344,o345] at hl;obtain ⟨s0,s4,s12,s40,s41,s42,s343,s344,s345⟩:=hl;simp -implicitDefEqProofs only [bU,bT,s345,w9];exact ⟨_,bd,j+1,_,_,_,_,_,_,_,hjl,rfl,by simp -implicitDefEqProofs only [bU,reduceCtorEq,bT,s0],by simp -implicitDefEqProofs only [bU,Jc,bT,s4],by simp -implicitDefEqProofs only [bU,Jc,bT,s40],by simp -implicitDefEqProofs only [bU,Jc,bT,s41],by simp -implicitDefEqProofs only [bU,Jc,bT,s42],by simp -implicitDefEqProofs only [bU,Jc,bT,s343],by simp -implicitDefEqProofs only [bU,Jc,bT,s344],by simp -implicitDefEqProofs only [bU,Jc,bT],rfl,hKp,⟨hG',hW1 _ wf,hA1 hk⟩⟩
 ·have hil:j=(Jn (l.map zi)).length:=by omega
  subst hil;simp -implicitDefEqProofs only [bU,Jc,reduceCtorEq,bT,q0,q4,q40,q41,q42,q343,q344,q345,h1,hL0];exact miss _ _ _ zs ds lw la (by simp -implicitDefEqProofs only [bU,Jc,reduceCtorEq,bT]) (by simp -implicitDefEqProofs only [bU,Jc,reduceCtorEq,bT]) hS
end
def Jes (C:Tab):Prop:= ∀ (H:AH) (id rid:Nat) (o:List UInt8) (t ttl:Int) (xs:List (List UInt8)),JbE H id [.s o,.i .i64 t,.i .i64 ttl,.sl rid 0 xs.length]→Mn H 1 (.sl rid 0 xs.length) (xs.map AV.s)→JR H→(∀ x,x∈xs→x.length≤1099511627776∧chk t x=0)→0 < xs.length→xs.length≤512→
 ∃ ys H',ys.Perm xs∧Srt (fun x y=>JdB Lib.compareBytes (XL t x) (XL t y)) ys∧C 138 [.fs 81 rid 0 xs.length,.fn 190 [.pv id 0]] H=some (.tp [],H')∧Mn H' 1 (.sl rid 0 xs.length) (ys.map AV.s)∧H'.n=H.n∧ ∀ i,i≠rid→H'.at' i=H.at' i
def Jgn (C:Tab):Prop:= ∀ (H:AH) (id rid:Nat) (apex:List UInt8) (sets:List Qa) (ds:List AV),JbE H id [.s apex,.sl rid 0 sets.length]→Mn H 4 (.sl rid 0 sets.length) (List.zipWith sV sets ds)→ds.length=sets.length→(∀ s,s∈sets→ ∃ x,JB s.o=some x)→0 < sets.length→sets.length≤512→
 ∃ ps H',ps.Perm (sets.zip ds)∧Srt (fun x y=>Jdk x.1 y.1) ps∧C 138 [.fs 26 rid 0 sets.length,.fn 192 [.pv id 0]] H=some (.tp [],H')∧Mn H' 4 (.sl rid 0 sets.length) (ps.map fun p=>sV p.1 p.2)∧H'.n=H.n∧ ∀ i,i≠rid→H'.at' i=H.at' i
theorem JbE.sts {H:AH} {id:Nat} {cs vs:List AV} (h:JbE H id cs) (hv:vs.length=cs.length):(∀ (L:List Lv) (g:Nat),stC ⟨L,g,H⟩ (.ag vs) (.pv id 0))∧(∀ (L:List Lv) (g:Nat),stM ⟨L,g,H⟩ (.ag vs) (.pv id 0)=⟨L,g,H.set id (.arr true 0 cs.length [.ag vs])⟩)∧JbE (H.set id (.arr true 0 cs.length [.ag vs])) id vs:=by
 refine ⟨fun L g=> ?_,fun L g=> ?_,⟨h.lt,by rw [Z9,hv]⟩⟩
 ·simp only [stC,h.at',AV.cells]
  exact ⟨trivial,trivial,trivial,by omega⟩
 ·simp only [stM,h.at',Wt,Wu,AV.cells,List.take_zero,List.nil_append,Nat.zero_add]
  rw [List.drop_eq_nil_of_le (by omega),List.append_nil]
section
variable (ow:List UInt8→List UInt8) (K:List Zi)
def sI (i:Nat):List Qa:=((keysOf K).take i).map (mkS ow K)++((keysOf K).drop i).map (ZE ow K)
theorem Jpz:sI ow K 0=(keysOf K).map (ZE ow K):=by simp [sI]
theorem Jtq:sI ow K (keysOf K).length=(keysOf K).map (mkS ow K):=by simp [sI]
theorem JlZ (i:Nat):(sI ow K i).length=(keysOf K).length:=by simp [sI];omega
variable {ow K}
theorem JsK {i:Nat} (hi:i < (keysOf K).length):(sI ow K i)[i]'(by rw [JlZ];exact hi)=ZE ow K (keysOf K)[i]:=by
 unfold sI;rw [List.getElem_append_right (by simp;omega)]
 simp [Nat.min_eq_left (Nat.le_of_lt hi)]
theorem Jpw {i:Nat} (hi:i < (keysOf K).length) {ys:List (List UInt8)} (hy:ys=(mkS ow K (keysOf K)[i]).d):(sI ow K i).set i {(ZE ow K (keysOf K)[i]) with d:=ys}=sI ow K (i+1):=by
 subst hy;unfold sI;have hl:(((keysOf K).take i).map (mkS ow K)).length=i:=by simp;omega
 rw [List.drop_eq_getElem_cons hi,List.take_succ_eq_append_getElem hi,List.set_append_right _ _ (by rw [hl];exact Nat.le_refl _),hl,Nat.sub_self,List.map_cons,List.set_cons_zero,List.map_append,List.append_assoc]
 rfl
end
section
variable {H H':AH} {n0:Nat} {zs:AV} {sets:List Qa} {ds:List AV}
theorem ZM.resort (h:ZM H n0 zs sets ds) {k rid:Nat} (hk:k < sets.length) (hkd:k < ds.length) {len:Nat} (hd:ds[k]= .sl rid 0 len) {ys:List (List UInt8)} (hy:Mn H' 1 (.sl rid 0 len) (ys.map AV.s)) (hn:H.n≤H'.n) (ha: ∀ i,i < H.n→i≠rid→H'.at' i=H.at' i):ZM H' n0 zs (sets.set k {sets[k] with d:=ys}) ds where
 row:=by
  have e:List.zipWith sV (sets.set k {sets[k] with d:=ys}) ds=List.zipWith sV sets ds:=by
   apply List.ext_getElem (by simp)
   intro j h1 h2;simp only [List.getElem_zipWith,List.getElem_set];by_cases e:k=j
   ·subst e;simp [sV]
   ·simp [e]
  rw [e];have hnd:=(List.nodup_append.1 h.nd).2.2;refine h.row.fr hn fun i hi=>ha i (h.row.lt i hi) fun hr=> ?_
  subst hr;exact hnd i hi i (List.mem_flatMap.2 ⟨_,List.getElem_mem hkd,by rw [hd];simp [idA]⟩) rfl
 len:=by simp [h.len]
 dat i h1 h2:=by
  simp only [List.length_set] at h1;simp only [List.getElem_set];by_cases e:k=i
  ·subst e
   simp only [if_true];rw [hd];exact hy
  ·simp only [if_neg e]
   have hfm:=Jan.1 (List.nodup_append.1 h.nd).2.1;refine (h.dat i h1 h2).fr hn fun j hj=>ha j ((h.dat i h1 h2).lt j hj) fun hr=> ?_
   subst hr;exact hfm i h2 k hkd (fun h=>e h.symm) j hj (by rw [hd];simp [idA])
 nd:=h.nd
 ge:=h.ge
end
theorem KK.mem {l:List Rr} {apex:List UInt8} {H:AH} {a o:AV} (h:KK l apex H a o) {y:Zi} (hy:y∈J2 (l.map zi)): ∃ r,y=zi r∧(∃ ls,JB r.o=some ls)∧chk r.t r.d=0∧r.o.length≤1099511627776∧r.d.length≤1099511627776:=by
 unfold J2 at hy;obtain ⟨i,hi,rfl⟩:=List.mem_map.1 hy;obtain ⟨j,hj,rfl⟩:=List.mem_iff_getElem.1 hi;obtain ⟨h1,-,h3,h4,h5,h6⟩:=h.get hj;obtain ⟨hn,-,-,-,-,hc,-⟩:=Ze h4;exact ⟨_,h3,hn,hc,h5,h6⟩
structure G9 (H0 H:AH) (apex:List UInt8) (zs:AV) (sets:List Qa) (ds:List AV):Prop where
 ext:Ext H0 H
 hn:H0.n+3≤H.n
 ob:JbE H H0.n [.s apex,zs]
 zm:ZM H (H0.n+3) zs sets ds
theorem G9.ldz {H0 H:AH} {apex:List UInt8} {zs:AV} {sets:List Qa} {ds:List AV} (h:G9 H0 H apex zs sets ds):(∀ (L:List Lv) (g:Nat),ldC ⟨L,g,H⟩ none (.pv H0.n 1))∧ ∀ (L:List Lv) (g:Nat),ldX ⟨L,g,H⟩ none (.pv H0.n 1)=zs:=h.ob.ld (off:=1) (by simp)
theorem Mn.slf {H:AH} {z:Nat} {a:AV} {xs:List AV} (h:Mn H z a xs) (hp:0 < xs.length): ∃ rid,a= .sl rid 0 xs.length∧rid∈idA a:=by
 cases h with
 | nil=>simp at hp
 | own h1 h2=>exact ⟨_,rfl,by simp [idA]⟩
def J9 (K:List Zi) (ow:List UInt8→List UInt8) (apex:List UInt8) (zs:AV) (ds:List AV) (H0:AH) (m:Nat) (e:Env) (M:Mem):Prop:=
 ∃ (j:Nat) (L0:List Lv) (g:Nat) (H:AH),j≤(keysOf K).length∧m=(keysOf K).length-j∧look e 4= .la 4 0 0 0∧look e 40= .pv H0.n 0∧look e 416=zs∧look e 417= .i .i64 (keysOf K).length∧look e 418= .i .i64 j∧M=⟨L0,g,H⟩∧JJ [4,40,416,417,418] L0=[⟨4,0,0,[z0V]⟩]∧G9 H0 H apex zs (sI ow K j) ds
section
variable {C:Tab} {l:List Rr} {a o:AV} {apex:List UInt8} {H H0 H1:AH} {e:Env} {L0:List Lv} {g:Nat} {κ:Jaa}
set_option maxHeartbeats 4000000 in
theorem Jve (hK:KK l apex H a o) (hkept:Kept (J2 (l.map zi))) (hFo:JR H0) (hSD:Jes C) {ow:List UInt8→List UInt8} {zs:AV} {ds:List AV} (hG:G9 H0 H1 apex zs ((keysOf (J2 (l.map zi))).map (ZE ow (J2 (l.map zi)))) ds)
  (q4:look e 4= .la 4 0 0 0) (q40:look e 40= .pv H0.n 0) (hL0:JJ [4,40,416,417,418] L0=[⟨4,0,0,[z0V]⟩])
  (miss: ∀ e' g' H',look e' 4= .la 4 0 0 0→look e' 40= .pv H0.n 0→G9 H0 H' apex zs ((keysOf (J2 (l.map zi))).map (mkS ow (J2 (l.map zi)))) ds→κ .nx e' ⟨[⟨4,0,0,[z0V]⟩],g',H'⟩):
  exec C (sAt Jk.s [1,1,1,1,1,1,1,1,1,1,1,1,1,1,1,1,1,1,1,1,1,1,0]) e ⟨L0,g,H1⟩ κ:=by
 simp only [Jk,sAt]
 have hKl:(J2 (l.map zi)).length≤500:=by
  have:=Jad (l:=l);have:=hK.ln;unfold J2;rw [List.length_map];omega
 have hmem:=fun y hy=>hK.mem (y:=y) hy
 generalize hKK:J2 (l.map zi)=K at*;rw [←Jpz] at hG;obtain ⟨l1,l2⟩:=hG.zm.rd.row.len;rw [QK hG.zm.len,JlZ] at l1;obtain ⟨b1,b2⟩:=hG.ldz;have hpf: ∀ {n:Nat},faC (.pv n 0):=trivial;have zo:=hG.zm.rd.row.out;simp -implicitDefEqProofs only [bU,Jc,bT,q40,pv1,hpf,b1,b2,l1,l2]
 refine Jl (J9 K ow apex zs ds H0) ?_ (n:=(keysOf K).length)
  ⟨0,_,_,_,by omega,by omega,by simp -implicitDefEqProofs only [bU,Jc,bT,q4],by simp -implicitDefEqProofs only [bU,Jc,bT,q40],rfl,rfl,rfl,rfl,hL0,hG⟩
 clear q4 q40 hL0 hG l1 l2 b1 b2 zo;rintro m e M ⟨j,L0,g,Hj,hj,rfl,q4,q40,q416,q417,q418,rfl,hL0,hG⟩;by_cases h1:(j:Int) < (keysOf K).length
 ·have hjl:j < (keysOf K).length:=by omega
  have bd:(keysOf K).length- (j+1) < (keysOf K).length-j:=by omega
  have hz:=hG.zm;have hk:j < (sI ow K j).length:=by rw [JlZ];exact hjl
  have hkd:j < ds.length:=by rw [hz.len];exact hk
  have hget:=JsK (ow:=ow) hjl;obtain ⟨r1,r2⟩:=JfT (ow:=ow) (K:=K);have hkm:=List.getElem_mem hjl;have hstep:=fun (ys:List (List UInt8)) (hy:ys=(mkS ow K (keysOf K)[j]).d)=>Jpw (ow:=ow) hjl hy
  have hrm:ZE ow K (keysOf K)[j]∈(keysOf K).map (ZE ow K):=List.mem_map.2 ⟨_,hkm,rfl⟩;have hlen5:=r2 _ hrm
  have w9:IntKind.i64.wrap ((j:Int)+1)=((j+1:Nat):Int):=by
   have:(keysOf K).length≤500:=by have:=r1;rw [List.length_map] at this;omega
   rw [w64 (by omega) (by omega)];rfl
  obtain ⟨a1,a2,a3,a4,-,-,-,a8,a9,a10⟩:=hz.rd.at' hk hkd;have hdat:=hz.dat j hk hkd;rw [hget] at a10 hdat
  have hd0:0 < (ZE ow K (keysOf K)[j]).d.length:=by
   obtain ⟨y,hy,hyk⟩:=(Qe K).1 hkm;simp only [ZE,List.length_map];exact List.length_pos_of_mem (List.mem_filter.2 ⟨hy,by simpa using hyk⟩)
  have hdx: ∀ x,x∈(ZE ow K (keysOf K)[j]).d→x.length≤1099511627776∧chk (ZE ow K (keysOf K)[j]).t x=0:=fun x hx=>by
   obtain ⟨y,hy,rfl⟩:=List.mem_map.1 hx;obtain ⟨hy1,hy2⟩:=List.mem_filter.1 hy;simp only [decide_eq_true_eq] at hy2;obtain ⟨r,rfl,-,h3,-,h5⟩:=hmem y hy1;refine ⟨h5,?_⟩
   have:(ZE ow K (keysOf K)[j]).t=r.t:=by show (keysOf K)[j].2=r.t;rw [←hy2];rfl
   rw [this];exact h3
  have hys: ∀ {ys:List (List UInt8)},ys.Perm (ZE ow K (keysOf K)[j]).d→Srt (fun x y=>JdB Lib.compareBytes (XL (ZE ow K (keysOf K)[j]).t x) (XL (ZE ow K (keysOf K)[j]).t y)) ys→ys=(mkS ow K (keysOf K)[j]).d:=fun hp hs=>JlP hkept (fun x hx=>by obtain ⟨r,rfl,-⟩:=hmem x hx;rfl) _ hp hs
  generalize hS:ZE ow K (keysOf K)[j]=S at*;obtain ⟨rid,hrd,hri⟩:=hdat.slf (by simpa using hd0)
  rw [List.length_map] at hrd;rw [hrd] at hdat a10 hri;have hrge:H0.n+3≤rid:=hz.ge rid (List.mem_append_right _ (List.mem_flatMap.2 ⟨_,List.getElem_mem hkd,by rw [hrd];exact hri⟩))
  have hrlt:rid < Hj.n:=hdat.lt rid (by simp [idA])
  have ob0:JbE (Hj.new (.arr true 0 4 [.ag [.s [],.i .i64 0,.i .i64 0,.ns]])) Hj.n [.s [],.i .i64 0,.i .i64 0,.ns]:=JbE.new (cs:=[.s [],.i .i64 0,.i .i64 0,.ns]);obtain ⟨s1,s2,s3⟩:=ob0.sts (vs:=[.s S.o,.i .i64 S.t,.i .i64 S.ttl,.sl rid 0 S.d.length]) rfl;have e2:Ext Hj ((Hj.new (.arr true 0 4 [.ag [.s [],.i .i64 0,.i .i64 0,.ns]])).set Hj.n (.arr true 0 4 [.ag [.s S.o,.i .i64 S.t,.i .i64 S.ttl,.sl rid 0 S.d.length]])):=(Ext.new _ _).set (Nat.le_refl _);generalize hH2:(Hj.new (.arr true 0 4 [.ag [.s [],.i .i64 0,.i .i64 0,.ns]])).set Hj.n (.arr true 0 ([.s [],.i .i64 0,.i .i64 0,.ns]:List AV).length [.ag [.s S.o,.i .i64 S.t,.i .i64 S.ttl,.sl rid 0 S.d.length]])=H2 at s2 s3;have hH2':(Hj.new (.arr true 0 4 [.ag [.s [],.i .i64 0,.i .i64 0,.ns]])).set Hj.n (.arr true 0 4 [.ag [.s S.o,.i .i64 S.t,.i .i64 S.ttl,.sl rid 0 S.d.length]])=H2:=hH2;rw [hH2'] at e2;obtain ⟨c1,c2⟩:=s3.ld (off:=3) (by simp)
  simp only [List.getD_cons_succ,List.getD_cons_zero] at c2;obtain ⟨ys,H3,y1,y2,y3,y4,y5,y6⟩:=hSD H2 Hj.n rid S.o S.t S.ttl S.d s3 (hdat.fr e2.n fun i hi=>e2.at' i (hdat.lt i hi)) (hFo.ext (hG.ext.trans e2)) hdx hd0 (by omega)
  have hyy:=hys y1 y2
  have hfin:G9 H0 H3 apex zs (sI ow K (j+1)) ds:=by
   refine ⟨⟨by have:=hG.ext.n;have:=e2.n;omega,fun i hi=>by rw [y6 i (by omega),e2.at' i (by have:=hG.hn;omega)];exact hG.ext.at' i hi⟩,by have:=hG.hn;have:=e2.n;omega,hG.ob.fr (by have:=e2.n;omega) (by rw [y6 _ (by omega),e2.at' _ (by have:=hG.hn;omega)]),?_⟩
   have:=hz.resort hk hkd hrd y4 (by have:=e2.n;omega) fun i hi hr=>by rw [y6 i hr,e2.at' i hi]
   rw [hget] at this;rw [←hstep ys hyy];exact this
  have hfa3: ∀ {n:Nat},faV 3 (.pv n 0)= .pv n 3:=rfl;have zo:=hz.rd.row.out;simp -implicitDefEqProofs only [bU,Jc,Ja,bT,bV,Ja,q4,q40,q416,q417,q418,h1,hL0,Jj,a1,a2,a9,a10,sV,s1,s2,hpf,hfa3,c1,c2,y3];rw [w9];exact ⟨rfl,rfl,_,bd,j+1,_,_,_,hjl,rfl,rfl,rfl,rfl,rfl,rfl,rfl,rfl,hfin⟩
 ·have hil:j=(keysOf K).length:=by omega
  subst hil;rw [Jtq] at hG;simp -implicitDefEqProofs only [bU,Jc,bT,q4,q40,q416,q417,q418,h1,hL0];exact miss _ _ _ (by simp -implicitDefEqProofs only [bU,Jc,bT]) (by simp -implicitDefEqProofs only [bU,Jc,bT]) hG
end
theorem Jrm (ps:List (Qa×AV)):List.zipWith sV (ps.map Prod.fst) (ps.map Prod.snd)=ps.map fun p=>sV p.1 p.2:=by
 induction ps with
 | nil=>rfl
 | cons p r ih=>simp only [List.map_cons,List.zipWith_cons_cons,ih]
theorem ZM.sorted {H H':AH} {n0:Nat} {sets:List Qa} {ds:List AV} {rid:Nat} (h:ZM H n0 (.sl rid 0 sets.length) sets ds) {ps:List (Qa×AV)} (hp:ps.Perm (sets.zip ds)) (hr:Mn H' 4 (.sl rid 0 sets.length) (ps.map fun p=>sV p.1 p.2)) (hn:H.n≤H'.n) (ha: ∀ i,i≠rid→H'.at' i=H.at' i):ZM H' n0 (.sl rid 0 sets.length) (ps.map Prod.fst) (ps.map Prod.snd):=by
 have hs:(ps.map Prod.snd).Perm ds:=by
  have:=hp.map Prod.snd;rwa [List.map_snd_zip (by rw [h.len];exact Nat.le_refl _)] at this
 have hf:(idA (.sl rid 0 sets.length)++(ps.map Prod.snd).flatMap idA).Perm (idA (.sl rid 0 sets.length)++ds.flatMap idA):=List.Perm.append_left _ (hs.flatMap_right _);have hnd:=(List.nodup_append.1 h.nd).2.2;refine ⟨by rw [Jrm];exact hr,by simp,fun i h1 h2=> ?_,hf.nodup_iff.2 h.nd,fun i hi=>h.ge i (hf.mem_iff.1 hi)⟩
 have hi:i < ps.length:=by simpa using h1
 have hm:ps[i]∈sets.zip ds:=hp.mem_iff.1 (List.getElem_mem hi);obtain ⟨j,hj,he⟩:=List.mem_iff_getElem.1 hm;have hj1:j < sets.length:=by simp at hj;omega
 have hj2:j < ds.length:=by rw [h.len];exact hj1
 rw [List.getElem_zip] at he;simp only [List.getElem_map,←he];refine (h.dat j hj1 hj2).fr hn fun x hx=>ha x fun e=> ?_
 subst e;exact hnd x (by simp [idA]) x (List.mem_flatMap.2 ⟨_,List.getElem_mem hj2,hx⟩) rfl
section
variable {C:Tab} {l:List Rr} {a o:AV} {apex:List UInt8} {H H0 H1:AH} {e:Env} {g:Nat}
theorem KK.how (hK:KK l apex H a o) (hkept:Kept (J2 (l.map zi))) {x:Zi} (hx:x∈J2 (l.map zi)):(∃ ls,JB (W9 (l.map zi) x.f)=some ls)∧rkN (W9 (l.map zi) x.f)=rkN x.f:=by
 rw [←JhD];obtain ⟨y,hy,hyf,ho⟩:=JkY hx;rw [ho];obtain ⟨r,rfl,⟨ls,hn⟩,-⟩:=hK.mem hy;obtain ⟨⟨b,hb⟩,hfx⟩:=hkept.nm x hx;refine ⟨⟨ls,hn⟩,?_⟩
 show rkN r.o=_
 rw [Jld hn hb,hfx,←hyf];rfl
set_option maxHeartbeats 4000000 in
theorem Jq4 (hK:KK l apex H a o) (hkept:Kept (J2 (l.map zi))) (hne:J2 (l.map zi) ≠ []) (he:Ext H H1) (hFo:JR H1) (hLow:Ja1 C Qc) (hSD:Jes C) (hSS:Jgn C) (hbz:bz l apex=(⟨apex,Ja3 (l.map zi)⟩,0,0))
  (q0:look e 0=a) (q1:look e 1= .s apex) (q4:look e 4= .la 4 0 0 0) (q12:look e 12=o):
  exec C (sAt Jk.s [1,1,1,1,1,1,1,1,1,1,1,1,1,1,1,1,1,1]) e ⟨[⟨4,0,0,[z0V]⟩],g,H1⟩ (Jr Jk.rs (JbD (bz l apex) H)):=by
 have hc:sAt Jk.s [1,1,1,1,1,1,1,1,1,1,1,1,1,1,1,1,1,1]=JaX (JaX (sAt Jk.s [1,1,1,1,1,1,1,1,1,1,1,1,1,1,1,1,1,1]) [1,1,1,0] (sAt Jk.s [1,1,1,1,1,1,1,1,1,1,1,1,1,1,1,1,1,1,1,1,1,0])) [1,1,1,1,0] (sAt Jk.s [1,1,1,1,1,1,1,1,1,1,1,1,1,1,1,1,1,1,1,1,1,1,0]):=rfl;have hR:Jk.rs=[.c 4 (some 2),.t 5,.t 6]:=rfl;generalize hX8:sAt Jk.s [1,1,1,1,1,1,1,1,1,1,1,1,1,1,1,1,1,1,1,1,1,0]=X8 at hc;generalize hX9:sAt Jk.s [1,1,1,1,1,1,1,1,1,1,1,1,1,1,1,1,1,1,1,1,1,1,0]=X9 at hc;rw [hR,hc];clear hc hR;simp only [Jk,sAt,JaX];have ob0:JbE (H1.new (.arr true 0 2 [.ag [.s [],.ns]])) H1.n [.s [],.ns]:=JbE.new (cs:=[.s [],.ns]);obtain ⟨s1,s2,s3⟩:=ob0.sts (vs:=[.s apex,.ns]) rfl;have ea:Ext H1 ((H1.new (.arr true 0 2 [.ag [.s [],.ns]])).set H1.n (.arr true 0 2 [.ag [.s apex,.ns]])):=(Ext.new _ _).set (Nat.le_refl _);have na:((H1.new (.arr true 0 2 [.ag [.s [],.ns]])).set H1.n (.arr true 0 2 [.ag [.s apex,.ns]])).n=H1.n+1:=rfl;generalize hHa:(H1.new (.arr true 0 2 [.ag [.s [],.ns]])).set H1.n (.arr true 0 ([.s [],.ns]:List AV).length [.ag [.s apex,.ns]])=Ha at s2 s3;have hHa':(H1.new (.arr true 0 2 [.ag [.s [],.ns]])).set H1.n (.arr true 0 2 [.ag [.s apex,.ns]])=Ha:=hHa;rw [hHa'] at ea na;have nb:(Ha.new (.map true [])).n=H1.n+2:=by rw [show (Ha.new (.map true [])).n=Ha.n+1 from rfl,na]
 have hG:G8 H1 ((Ha.new (.map true [])).new (.map true [])) apex .ns .ns [] [] [] []:=by
  refine ⟨(ea.trans (.new _ _)).trans (.new _ _),by show H1.n+3≤(Ha.new (.map true [])).n+1;omega,(s3.ext (.new _ _)).ext (.new _ _),?_,?_,.nil _ _⟩
  ·rw [(Ext.new (Ha.new (.map true [])) (.map true [])).at' (H1.n+1) (by omega),←na];exact QD
  ·rw [←nb];exact QD
 have hS:S8 l H1 ((Ha.new (.map true [])).new (.map true [])) apex 0 .ns [] [] []:=⟨hG,fun f=>rfl,fun k=>by simp [Kz,keysOf,Jef]⟩
 clear hG;simp -implicitDefEqProofs only [bU,Jc,Ja,bT,bV,Ja,Jg,q1,z0V,s1,s2,na,nb];rw [←hX8];refine Juw hK hLow he hS ?_ ?_ ?_ ?_ ?_ ?_ rfl ?_
 any_goals (simp -implicitDefEqProofs only [bU,Jc,reduceCtorEq,bT,q0,q4,q12];done)
 intro e2 g2 H2 zs ds lw la u4 u40 hS2;have hG2:=hS2.g8;rw [JsW] at hG2;simp -implicitDefEqProofs only [bU];rw [←hX9];refine Jve hK hkept hFo hSD (ow:=W9 (l.map zi)) (zs:=zs) (ds:=ds) ⟨hG2.ext,hG2.hn,hG2.ob,hG2.zm⟩ u4 u40 rfl ?_
 intro e3 g3 H3 t4 t40 hG3
 have hnk: ∀ s,s∈(keysOf (J2 (l.map zi))).map (mkS (W9 (l.map zi)) (J2 (l.map zi)))→ ∃ x,JB s.o=some x:=fun s hs=>by
  obtain ⟨k,hk,rfl⟩:=List.mem_map.1 hs;obtain ⟨x,hx,rfl⟩:=hkept.key hk;exact (hK.how hkept hx).1
 have hpos:0 < ((keysOf (J2 (l.map zi))).map (mkS (W9 (l.map zi)) (J2 (l.map zi)))).length:=by
  obtain ⟨x,hx⟩:=List.exists_mem_of_ne_nil _ hne;rw [List.length_map];exact List.length_pos_of_mem ((Qe _).2 ⟨x,hx,rfl⟩)
 have hlen5:((keysOf (J2 (l.map zi))).map (mkS (W9 (l.map zi)) (J2 (l.map zi)))).length≤512:=by
  have h1:=(JfT (ow:=W9 (l.map zi)) (K:=J2 (l.map zi))).1;rw [List.length_map] at h1 ⊢;have h2:=Jad (l:=l);have h3:=hK.ln;have h4:(J2 (l.map zi)).length=(Jn (l.map zi)).length:=by unfold J2;rw [List.length_map]
  omega
 have hzone: ∀ {M:List Qa},M.Perm ((keysOf (J2 (l.map zi))).map (mkS (W9 (l.map zi)) (J2 (l.map zi))))→Srt Jdk M→M=Ja3 (l.map zi):=fun hp hs=>JlM _ hkept (fun x hx=>(hK.how hkept hx).2) hp hs
 generalize (keysOf (J2 (l.map zi))).map (mkS (W9 (l.map zi)) (J2 (l.map zi)))=sets at*;obtain ⟨b1,b2⟩:=hG3.ldz;obtain ⟨e3x,hn3,ob3,zm3⟩:=hG3;obtain ⟨rid,hrd,hri⟩:=zm3.row.slf (by rw [QK zm3.len];exact hpos)
 rw [QK zm3.len] at hrd;subst hrd;have hrge:H1.n+3≤rid:=zm3.ge rid (List.mem_append_left _ hri);obtain ⟨ps,H4,y1,y2,y3,y4,y5,y6⟩:=hSS H3 H1.n rid apex sets ds ob3 zm3.row zm3.len hnk hpos hlen5;have hz4:=zm3.sorted y1 y4 (by omega) y6
 have hM:ps.map Prod.fst=Ja3 (l.map zi):=by
  refine hzone ?_ ?_
  ·have:=y1.map Prod.fst
   rwa [List.map_fst_zip (by rw [zm3.len];exact Nat.le_refl _)] at this
  ·unfold Srt
   rw [List.pairwise_map];exact y2
 rw [hM] at hz4;have ob4:JbE H4 H1.n [.s apex,.sl rid 0 sets.length]:=ob3.fr (by omega) (y6 _ (by omega))
 obtain ⟨d1,d2⟩:=ob4.lds;simp only [List.length_cons,List.length_nil,Nat.zero_add,Ja,Jc,if_false] at d1 d2;have e4:Ext H H4:=⟨by have:=he.n;have:=e3x.n;omega,fun i hi=>by have:=he.n;rw [y6 i (by omega),e3x.at' i (by omega)];exact he.at' i hi⟩
 have hpf: ∀ {n:Nat},faC (.pv n 0):=trivial;simp -implicitDefEqProofs only [bU,Jc,Ja,bT,bV,Ja,t4,t40,pv1,hpf,b1,b2,y3,d1,d2,z0V,Jr,rsC,rsV,Js];rw [hbz];exact ⟨rfl,rfl,e4,_,_,rfl,⟨hz4.row,hz4.len,hz4.dat,hz4.nd,fun i hi=>by have:=hz4.ge i hi;have:=he.n;omega⟩⟩
end
section
variable {C:Tab} {l:List Rr} {a:AV} {apex:List UInt8} {H:AH}
theorem One.mono {rs:List Rs} {G G':AV→AH→Prop} {s:S} {e:Env} {M:Mem} (hg: ∀ v H,G v H→G' v H) (h:One C rs G s e M):One C rs G' s e M:=by
 obtain ⟨r,h1,h2⟩:=h;exact ⟨r,hg _ _ h1,h2⟩
theorem JbD.mono {R:Zn×Int×Int} {H H1 H':AH} {v:AV} (he:Ext H H1) (h:JbD R H1 v H'):JbD R H v H':=by
 obtain ⟨h1,zs,ds,h2,h3⟩:=h;exact ⟨he.trans h1,zs,ds,h2,⟨h3.row,h3.len,h3.dat,h3.nd,fun i hi=>by have:=h3.ge i hi;have:=he.n;omega⟩⟩
set_option maxHeartbeats 4000000 in
theorem Ju2 (hN:Jb2 C XM) (hI:Jch C XP) (hM:JeC C YK) (hKI:Jc9 C Qg) (hU:JbI C WP) (hLow:Ja1 C Qc) (hP:Jnr C JaE) (hD:Jk4 C Wh) (hLab:JdA C Yy) (hStr:Jnt C XD) (hSD:Jes C) (hSS:Jgn C)
  (hFo:JR H) (hs:Sx H eR a l) (hl:l.length≤1099511627776) (hsz:szL l) (ha:apex.length≤1099511627776):One C Jk.rs (JbD (bz l apex) H) Jk.s (args 0 [a,.s apex]) ⟨[],0,H⟩:=by
 have hR:Jk.rs=[.c 4 (some 2),.t 5,.t 6]:=rfl;rw [hR];clear hR;obtain ⟨l1,l2⟩:=hs.len;have k1:=hN apex H ha;refine One.q (a:=sAt Jk.s [0]) (b:=sAt Jk.s [1]) rfl ?_
 generalize hT1:sAt Jk.s [1]=T1;simp only [Jk,sAt];simp -implicitDefEqProofs only [bU,Ja,bV,Ja,XI];rw [←hT1];clear hT1 T1;refine One.q (a:=sAt Jk.s [1,0]) (b:=sAt Jk.s [1,1]) rfl ?_
 generalize hT2:sAt Jk.s [1,1]=T2;simp only [Jk,sAt];cases hn:JB apex with
 | none=>
  rw [hn] at k1;have hb:bz l apex=(zn0,32,-1):=by unfold bz;rw [if_pos hn]
  simp -implicitDefEqProofs only [bU,Jc,reduceCtorEq,Ja,bT,bV,Ja,k1,Option.isSome_none,JG,JH,Jay,Jr,rsC,rsV,Js];exact ZB hb (.refl _) rfl
 | some ls=>
  rw [hn] at k1;simp -implicitDefEqProofs only [bU,Jc,reduceCtorEq,bT,k1,Option.isSome_some,XI];rw [←hT2];clear hT2 T2;refine One.q (a:=sAt Jk.s [1,1,0]) (b:=sAt Jk.s [1,1,1]) rfl ?_
  generalize hT3:sAt Jk.s [1,1,1]=T3;simp only [Jk,sAt];by_cases h5:(500:Int) < l.length
  ·have hb:bz l apex=(zn0,12,-1):=by unfold bz;rw [if_neg (by rw [hn];simp),if_pos (by omega)]
   simp -implicitDefEqProofs only [bU,Jc,reduceCtorEq,Ja,bT,bV,Ja,l1,l2,h5,JG,JH,Jay,Jr,rsC,rsV,Js];exact ZB hb (.refl _) rfl
  ·have h5':l.length≤500:=by omega
   have hbz:bz l apex=match JL l.length fun i=>decide (Jai (l.getD i rrZ) apex≠0) with
     | some i=>(zn0,Jai (l.getD i rrZ) apex,(i:Nat))
     | none=>match JL l.length (JaZ (l.map zi)) with
      | some i=>(zn0,24,(i:Nat))
      | none=>if (QL (l.map zi) (Jq apex)).1≠0 then (zn0,QL (l.map zi) (Jq apex)) else (⟨apex,Ja3 (l.map zi)⟩,0,0):=by
    unfold bz;rw [if_neg (by rw [hn];simp),if_neg (by omega)];rfl
   simp -implicitDefEqProofs only [bU,Jc,reduceCtorEq,bT,l1,l2,h5,XI];rw [←hT3];clear hT3 T3;refine One.q (a:=sAt Jk.s [1,1,1,0]) (b:=sAt Jk.s [1,1,1,1]) rfl ?_
   generalize hT4:sAt Jk.s [1,1,1,1]=T4;refine Jux hs h5' hFo hN hI hM hKI hU hsz ha ?_ ?_ ?_ rfl ?_ ?_
   any_goals (simp -implicitDefEqProofs only [bU,Jc,reduceCtorEq,bT];done)
   ·intro i e' L' g' hfx hL q4 q5 q6
    have hb:bz l apex=(zn0,Jai (l.getD i rrZ) apex,((i:Nat):Int)):=by rw [hbz,hfx]
    simp -implicitDefEqProofs only [bU,Ja,bV,Ja,Jay,Jr,rsC,rsV,Js,q4,q5,q6,hL,z0V];exact ZB hb (.refl _) rfl
   intro hone e1 g1 q0 q1 q4;have hfx:JL l.length (fun i=>decide (Jai (l.getD i rrZ) apex≠0))=none:=Yn fun j hj=>decide_eq_false fun h=>h (hone j hj)
   rw [hfx] at hbz;simp only at hbz;rw [XI,←hT4];clear hT4 T4;refine One.q (a:=sAt Jk.s [1,1,1,1,0]) (b:=sAt Jk.s [1,1,1,1,1]) rfl ?_
   generalize hT5:sAt Jk.s [1,1,1,1,1]=T5;simp only [Jk,sAt];simp -implicitDefEqProofs only [bU,bT,XI];rw [←hT5];clear hT5 T5;refine One.q (a:=sAt Jk.s [1,1,1,1,1,0]) (b:=sAt Jk.s [1,1,1,1,1,1]) rfl ?_
   generalize hT6:sAt Jk.s [1,1,1,1,1,1]=T6;simp only [Jk,sAt];simp -implicitDefEqProofs only [bU,Jc,bT,XI];rw [←hT6];clear hT6 T6;refine One.q (a:=sAt Jk.s [1,1,1,1,1,1,0]) (b:=sAt Jk.s [1,1,1,1,1,1,1]) rfl ?_
   generalize hT7:sAt Jk.s [1,1,1,1,1,1,1]=T7;simp only [Jk,sAt];simp -implicitDefEqProofs only [bU,XI];rw [←hT7];clear hT7 T7;have n1:(H.new (.map true [])).n=H.n+1:=rfl
   have hL2:L2 H ((H.new (.map true [])).new (.map true [])) (l.map zi) 0 .ns:=by
    refine ⟨(Ext.new _ _).trans (.new _ _),by show H.n+2≤(H.new (.map true [])).n+1;omega,⟨[],?_,fun k=>rfl⟩,⟨[],?_,fun k=>by simp [Jef]⟩,.nil,fun j hj=>by simp [idA] at hj⟩
    ·rw [(Ext.new (H.new (.map true [])) (.map true [])).at' H.n (by omega)];exact QD
    ·rw [←n1];exact QD
   refine One.q (a:=sAt Jk.s [1,1,1,1,1,1,1,0]) (b:=sAt Jk.s [1,1,1,1,1,1,1,1]) rfl ?_
   generalize hT8:sAt Jk.s [1,1,1,1,1,1,1,1]=T8;refine Jvl hs h5' hFo hLow hP hD hsz hone hL2 ?_ ?_ ?_ ?_ ?_ ?_ rfl ?_ ?_
   any_goals (simp -implicitDefEqProofs only [bU,Jc,reduceCtorEq,bT,q0,q1,q4,n1];done)
   ·intro i e' L' g' H' hmx he hL q4 q5 q6
    rw [hmx] at hbz;have hb:bz l apex=(zn0,24,((i:Nat):Int)):=hbz;simp -implicitDefEqProofs only [bU,Ja,bV,Ja,Jay,Jr,rsC,rsV,Js,q4,q5,q6,hL,z0V];exact ZB hb he rfl
   clear q0 q1 q4 hL2;intro hmx e2 g2 H2 o he2 hn2 ho hoid q0 q1 q4 q12;rw [hmx] at hbz;simp only at hbz;have hK:KK l apex H2 a o:=⟨Sl.ext hs he2,ho.sl,h5',hsz,hone⟩;have hok:ZOk (l.map zi):=JqO hone fun i hi=>Jbp hmx i hi
   have hkept:=hok.kept;have kl:=hLow apex H2 ha;rw [←Xh hn] at kl;have hF2:=hFo.ext he2;have hru:=Jeu (L:=l.map zi) (Jq apex);have hr0: ∀ {c:Int×Int},QL (l.map zi) (Jq apex)=c→c.1≠0→bz l apex=(zn0,c):=fun h1 h2=>by rw [hbz,h1,if_pos h2]
   rw [XI,←hT8];clear hT8 T8;refine One.q (a:=sAt Jk.s [1,1,1,1,1,1,1,1,0]) (b:=sAt Jk.s [1,1,1,1,1,1,1,1,1]) rfl ?_
   generalize hT9:sAt Jk.s [1,1,1,1,1,1,1,1,1]=T9;simp only [Jk,sAt];simp -implicitDefEqProofs only [bU,Jc,bT,q1,kl,XI];rw [←hT9];clear hT9 T9;refine One.q (a:=sAt Jk.s [1,1,1,1,1,1,1,1,1,0]) (b:=sAt Jk.s [1,1,1,1,1,1,1,1,1,1]) rfl ?_
   generalize hT10:sAt Jk.s [1,1,1,1,1,1,1,1,1,1]=T10;simp only [Jk,sAt];simp -implicitDefEqProofs only [bU,XI];rw [←hT10];clear hT10 T10;refine One.q (a:=sAt Jk.s [1,1,1,1,1,1,1,1,1,1,0]) (b:=sAt Jk.s [1,1,1,1,1,1,1,1,1,1,1]) rfl ?_
   generalize hT11:sAt Jk.s [1,1,1,1,1,1,1,1,1,1,1]=T11;refine Jui (top:=Jq apex) hK hLow ?_ ?_ ?_ ?_ ?_ ?_ ?_ rfl ?_ ?_
   any_goals (simp -implicitDefEqProofs only [bU,Jc,reduceCtorEq,bT,q0,q1,q4,q12];done)
   ·intro i e' L' g' hf hL q4 q5 q6
    rw [hf] at hru;have hb:=hr0 (c:=(20,((i:Nat):Int))) hru (by simp)
    simp -implicitDefEqProofs only [bU,Ja,bV,Ja,Jay,Jr,rsC,rsV,Js,q4,q5,q6,hL,z0V];exact ZB hb he2 rfl
   clear q0 q1 q4 q12;intro hf e3 g3 q0 q1 q4 q12 q20 q21;rw [hf] at hru;simp only at hru;rw [XI,←hT11];clear hT11 T11;refine One.q (a:=sAt Jk.s [1,1,1,1,1,1,1,1,1,1,1,0]) (b:=sAt Jk.s [1,1,1,1,1,1,1,1,1,1,1,1]) rfl ?_
   generalize hT12:sAt Jk.s [1,1,1,1,1,1,1,1,1,1,1,1]=T12;simp only [Jk,sAt];cases h6:hasB (l.map zi) (l.map zi).length (Jq apex) 6 with
   | false=>
    rw [h6] at q20 hru;have hb:=hr0 (c:=(20,-1)) hru (by simp)
    simp -implicitDefEqProofs only [bU,Jc,Ja,bT,bV,Ja,q4,q20,z0V,JG,JH,Jay,Jr,rsC,rsV,Js];exact ZB hb he2 rfl
   | true=>
   rw [h6,if_neg (show ¬ true=false by decide)] at hru
   rw [h6] at q20;simp -implicitDefEqProofs only [bU,Jc,bT,q20,XI];rw [←hT12];clear hT12 T12;refine One.q (a:=sAt Jk.s [1,1,1,1,1,1,1,1,1,1,1,1,0]) (b:=sAt Jk.s [1,1,1,1,1,1,1,1,1,1,1,1,1]) rfl ?_
   generalize hT13:sAt Jk.s [1,1,1,1,1,1,1,1,1,1,1,1,1]=T13;simp only [Jk,sAt];cases h2:hasB (l.map zi) (l.map zi).length (Jq apex) 2 with
   | false=>
    rw [h2] at q21 hru;have hb:=hr0 (c:=(21,-1)) hru (by simp)
    simp -implicitDefEqProofs only [bU,Jc,Ja,bT,bV,Ja,q4,q21,z0V,JG,JH,Jay,Jr,rsC,rsV,Js];exact ZB hb he2 rfl
   | true=>
   rw [h2,if_neg (show ¬ true=false by decide)] at hru
   rw [h2] at q21;simp -implicitDefEqProofs only [bU,Jc,bT,q21,XI];rw [←hT13];clear hT13 T13;refine One.q (a:=sAt Jk.s [1,1,1,1,1,1,1,1,1,1,1,1,1,0]) (b:=sAt Jk.s [1,1,1,1,1,1,1,1,1,1,1,1,1,1]) rfl ?_
   generalize hT14:sAt Jk.s [1,1,1,1,1,1,1,1,1,1,1,1,1,1]=T14;refine JuP hK hLab (.refl _) ?_ ?_ ?_ ?_ rfl ?_ ?_
   any_goals (simp -implicitDefEqProofs only [bU,Jc,reduceCtorEq,bT,q0,q1,q4,q12];done)
   ·intro i e' L' g' H' hf he hL q4 q5 q6
    rw [hf] at hru;have hb:=hr0 (c:=(26,((i:Nat):Int))) hru (by simp)
    simp -implicitDefEqProofs only [bU,Ja,bV,Ja,Jay,Jr,rsC,rsV,Js,q4,q5,q6,hL,z0V];exact ZB hb (he2.trans he) rfl
   clear q0 q1 q4 q12 q20 q21 hf;intro hf e4 g4 H4 he4 q0 q1 q4 q12;rw [hf] at hru;simp only at hru;have hK4:=hK.ext he4;have he04:=he2.trans he4;rw [XI,←hT14];clear hT14 T14;refine One.q (a:=sAt Jk.s [1,1,1,1,1,1,1,1,1,1,1,1,1,1,0]) (b:=sAt Jk.s [1,1,1,1,1,1,1,1,1,1,1,1,1,1,1]) rfl ?_
   generalize hT15:sAt Jk.s [1,1,1,1,1,1,1,1,1,1,1,1,1,1,1]=T15;simp only [Jk,sAt];simp -implicitDefEqProofs only [bU,bT,XI];rw [←hT15];clear hT15 T15;refine One.q (a:=sAt Jk.s [1,1,1,1,1,1,1,1,1,1,1,1,1,1,1,0]) (b:=sAt Jk.s [1,1,1,1,1,1,1,1,1,1,1,1,1,1,1,1]) rfl ?_
   generalize hT16:sAt Jk.s [1,1,1,1,1,1,1,1,1,1,1,1,1,1,1,1]=T16;refine Ju0 hK4 hLow (.new _ _) (Nat.le_refl _) QD ?_ ?_ ?_ ?_ ?_ rfl ?_ ?_
   any_goals (simp -implicitDefEqProofs only [bU,Jc,reduceCtorEq,bT,q0,q1,q4,q12];done)
   ·intro i e' L' g' H' hf he hL q4 q5 q6
    rw [hf] at hru;have hb:=hr0 (c:=(23,((i:Nat):Int))) hru (by simp)
    simp -implicitDefEqProofs only [bU,Ja,bV,Ja,Jay,Jr,rsC,rsV,Js,q4,q5,q6,hL,z0V];exact ZB hb (he04.trans he) rfl
   clear q0 q1 q4 q12 hf;intro hf e5 g5 H5 he5 hn5 hlb q0 q1 q4 q12 q29;rw [hf] at hru;simp only at hru;rw [XI,←hT16];clear hT16 T16;refine One.q (a:=sAt Jk.s [1,1,1,1,1,1,1,1,1,1,1,1,1,1,1,1,0]) (b:=sAt Jk.s [1,1,1,1,1,1,1,1,1,1,1,1,1,1,1,1,1]) rfl ?_
   generalize hT17:sAt Jk.s [1,1,1,1,1,1,1,1,1,1,1,1,1,1,1,1,1]=T17;refine JuO hK4 hLow hlb he5 q0 q1 q4 q12 q29 rfl ?_ ?_
   ·intro i e' L' g' H' hf he hL q4 q5 q6
    rw [hf] at hru;have hb:=hr0 (c:=(23,((i:Nat):Int))) hru (by simp)
    simp -implicitDefEqProofs only [bU,Ja,bV,Ja,Jay,Jr,rsC,rsV,Js,q4,q5,q6,hL,z0V];exact ZB hb (he04.trans he) rfl
   clear q0 q1 q4 q12 q29 hf;intro hf e6 g6 H6 he6 h65 q0 q1 q4 q12 q29;subst h65;rw [hf] at hru;simp only at hru;obtain ⟨lb,lb1,lb2⟩:=hlb;rw [XI,←hT17];clear hT17 T17;have hq:sAt Jk.s [1,1,1,1,1,1,1,1,1,1,1,1,1,1,1,1,1]= .q (sAt Jk.s [1,1,1,1,1,1,1,1,1,1,1,1,1,1,1,1,1,0]) (sAt Jk.s [1,1,1,1,1,1,1,1,1,1,1,1,1,1,1,1,1,1]):=rfl;rw [hq];clear hq;cases hf7:(Jn (l.map zi)).find? (JdK (l.map zi)) with
   | some i=>
    rw [hf7] at hru;have hb:=hr0 (c:=(25,((i:Nat):Int))) hru (by simp)
    refine One.ndr (v0:= .tp [z0V,.i .i64 25,.i .i64 ((i:Nat):Int)]) (H0:=H6) (Jrg hK4 hStr he6 lb1 lb2 q0 q1 q4 q12 q29 ?_ ?_) ?_
    ·intro i' e' L' g' hfi hL q4 q5 q6
     rw [hf7] at hfi;injection hfi with hfi
     subst hfi;simp -implicitDefEqProofs only [bU,Ja,bV,Ja,rsC,rsV,Js,q4,q5,q6,hL,z0V]
    ·intro hf8;rw [hf7] at hf8;cases hf8
    ·exact ZB hb (he04.trans he6) rfl
   | none=>
    rw [hf7] at hru;have hb:bz l apex=(⟨apex,Ja3 (l.map zi)⟩,0,0):=by rw [hbz,show QL (l.map zi) (Jq apex)=(0,0) from hru];rfl
    refine One.nd (e1:=[(314,.b false),(0,a),(1,.s apex),(4,.la 4 0 0 0),(12,o),(29,.mp H4.n),(311,o),(312,.i .i64 (Jn (l.map zi)).length),(313,.i .i64 (Jn (l.map zi)).length)]) (M1:=⟨[⟨4,0,0,[z0V]⟩],g6+(Jn (l.map zi)).length*(1+lb.length),H6⟩) (Jrg hK4 hStr he6 lb1 lb2 q0 q1 q4 q12 q29 ?_ ?_) ?_
    rotate_left 2
    ·refine One.mono (fun v H'=>JbD.mono he04) (One.det rfl (Jq4 hK4 hkept ?_ he6 ((hF2.ext he4).ext he6) hLow hSD hSS hb rfl rfl rfl rfl))
     intro hnil;rw [JdD] at h6;have:Jn (l.map zi)=[]:=by unfold J2 at hnil;exact List.map_eq_nil_iff.1 hnil
     rw [this] at h6;cases h6
    ·intro i' e' L' g' hfi;rw [hf7] at hfi;cases hfi
    ·intro _;exact ⟨rfl,rfl,rfl⟩
end
theorem JhQ (l:List Qa):(l.flatMap JbC).length=Jam l:=by
 induction l with
 | nil=>rfl
 | cons s r ih=>
  rw [List.flatMap_cons,List.length_append,ih];simp [JbC,Jam]
section
variable {C:Tab}
theorem JqG {s:Qa} {d:AV} {H:AH} (h:Sl H 1 d (s.d.map AV.s)) (hl:s.d.length≤1048576):Jt C Q0 [sV s d] H fun v H'=>Ext H H'∧Mx H' eR v (JbC s)∧ ∀ i,i∈idA v→H.n≤i:=by
 unfold Jt Q0;obtain ⟨l1,l2⟩:=h.len;rw [List.length_map] at l1;have dO:=h.out;have dc:=h.one;have hm0:Mx H eR .ns []:= .nil;simp -implicitDefEqProofs only [bU,Jc,reduceCtorEq,Ja,bT,bV,Ja,sV,l1,l2]
 refine Jl (fun m e M=> ∃ (i:Nat) (o:AV) (H':AH) (L0:List Lv) (g:Nat),i≤s.d.length∧m=s.d.length-i∧look e 1= .la 1 0 0 0∧look e 3=o∧look e 7=d∧look e 8= .i .i64 s.d.length∧look e 9= .i .i64 i∧M=⟨L0,g,H'⟩∧JJ [1,3,7,8,9] L0=[⟨1,0,0,[.ag [.s s.o,.i .i64 s.t,.i .i64 s.ttl,d]]⟩]∧Ext H H'∧
   Mx H' eR o ((s.d.take i).map fun x=>(⟨s.o,s.t,1,s.ttl,x⟩:Rr))∧ ∀ j,j∈idA o→H.n≤j) ?_ (n:=s.d.length)
  ⟨0,.ns,_,_,_,by omega,by omega,rfl,rfl,rfl,rfl,rfl,rfl,rfl,.refl _,by simpa using hm0,fun j hj=>by simp [idA] at hj⟩
 rintro m e M ⟨i,o,H',L0,g,hi,rfl,q1,q3,q7,q8,q9,rfl,hL0,he,hm,hid⟩;by_cases h1:(i:Int) < s.d.length
 ·have hil:i < s.d.length:=by omega
  have hg:(s.d.map AV.s).getD i .u= .s s.d[i]:=by simp [List.getD,hil]
  have ia:=fun (L:List Lv) (g:Nat)=>(Sl.ext h he).ia1 (j:=i) (v:= .s s.d[i]) (by omega) (by rw [List.length_map];omega) (by rw [Jj,hg];rfl) L g
  rw [Jj] at ia;obtain ⟨z1,z2,-⟩:=ia [] 0;have w4:IntKind.i64.wrap ((i:Int)+1)=((i+1:Nat):Int):=by rw [w64 (by omega) (by omega)];rfl
  obtain ⟨p1,o',H2,p2,p3,p4,p5,p6,p7,-,-⟩:=Mn.ap (by':=56) hm (Qk (t:=22) (g:=g) (x:=eR.v ⟨s.o,s.t,1,s.ttl,s.d[i]⟩) (L:=[⟨1,0,0,[.ag [.s s.o,.i .i64 s.t,.i .i64 s.ttl,d]]⟩]) (H:=H')) (by simp;omega)
  rw [show eR.z=5 from rfl,JcE] at p1 p2 p3
  simp -implicitDefEqProofs only [bU,Jc,Ja,Jb,bT,bV,Ja,Jb,Jg,q1,q3,q7,q8,q9,hL0,h1,z1,z2,ia,Jj,JG,JH,JE,JQ,List.replicate];simp -implicitDefEqProofs only [bU,p1,p2,p3,w4];refine ⟨_,by omega,i+1,o',H2,_,_,hil,rfl,rfl,rfl,rfl,rfl,⟨Nat.le_trans he.n p5,fun j hj=>by rw [p6 j (Nat.lt_of_lt_of_le hj he.n) fun hh=>by have:=hid j hh;omega];exact he.at' j hj⟩,?_,fun j hj=>(p7 j hj).elim (hid j) fun h=>Nat.le_trans he.n h⟩
  rw [List.take_succ_eq_append_getElem hil,List.map_append];show Mn H2 eR.z o' _
  rw [List.map_append];exact p4
 ·have hil:i=s.d.length:=by omega
  subst hil;rw [List.take_length] at hm;have ho:=(Mn.sl hm).out;simp -implicitDefEqProofs only [bU,Jc,bT,q1,q3,q7,q8,q9,hL0,h1,ho,Jr,rsC,rsV,Js];exact ⟨he,hm,hid⟩
theorem Jnz {z:Zn} {zs:AV} {ds:List AV} {H:AH} (hR:Je1 C WS) (h:ZS H zs z.s ds) (hz:SzZ z):
  Jt C QN [.ag [.s z.a,zs]] H fun v H'=>Ext H H'∧Mx H' eR v (JeT z)∧ ∀ i,i∈idA v→H.n≤i:=by
 unfold Jt QN;obtain ⟨l1,l2⟩:=h.row.len;rw [QK h.len] at l1;have zo:=h.row.out;have zc:=h.row.one;have hm0:Mx H eR .ns []:= .nil;have hid0: ∀ j,j∈idA AV.ns→H.n≤j:=fun j hj=>by simp [idA] at hj
 unfold JeT;by_cases h5:(500:Int) < z.s.length
 ·simp -implicitDefEqProofs only [bU,Jc,reduceCtorEq,Ja,bT,bV,Ja,l1,l2,h5,Jr,rsC,rsV,Js]
  rw [if_pos (.inl (by omega))]
  exact ⟨.refl _,hm0,hid0⟩
 ·simp -implicitDefEqProofs only [bU,Jc,reduceCtorEq,Ja,bT,bV,Ja,l1,l2,h5]
  refine Jl (fun m e M=> ∃ (i:Nat) (o:AV) (H':AH) (L0:List Lv) (g:Nat),i≤z.s.length∧m=z.s.length-i∧look e 3=o∧look e 11=zs∧look e 12= .i .i64 z.s.length∧look e 13= .i .i64 i∧M=⟨L0,g,H'⟩∧JJ [3,11,12,13] L0=[]∧Jam (z.s.take i)≤500∧Ext H H'∧Mx H' eR o ((z.s.take i).flatMap JbC)∧ ∀ j,j∈idA o→H.n≤j) ?_ (n:=z.s.length)
   ⟨0,.ns,_,_,_,by omega,by omega,rfl,rfl,rfl,rfl,rfl,rfl,by simp [Jam],.refl _,by simpa using hm0,hid0⟩
  rintro m e M ⟨i,o,H',L0,g,hi,rfl,q3,q11,q12,q13,rfl,hL0,hc,he,hm,hid⟩;by_cases h1:(i:Int) < z.s.length
  ·have hil:i < z.s.length:=by omega
   have hidd:i < ds.length:=by rw [h.len];exact hil
   obtain ⟨a1,a2,a3,-,-,-,-,-,a9,a10⟩:=(h.ext he).at' hil hidd;have hmem:=List.getElem_mem hil;have hdl:z.s[i].d.length≤1048576:=Nat.le_trans (Jah hmem) hz.c;obtain ⟨d1,d2⟩:=((h.ext he).dat i hil hidd).len;rw [List.length_map] at d1;obtain ⟨v1,H1,k1,e1,m1,i1⟩:=hR z.s[i] ds[i] H' ((h.ext he).dat i hil hidd) hdl;have hm':=hm.ext e1;obtain ⟨o1,o2⟩:=(Mn.sl hm).len;rw [List.length_map,JhQ] at o1;have hcs:=Jaz hil;have htl:=Ja6 z.s (i+1);have w4:IntKind.i64.wrap ((i:Int)+1)=((i+1:Nat):Int):=by rw [w64 (by omega) (by omega)];rfl
   have w5:IntKind.i64.wrap ((Jam (z.s.take i):Int)+(z.s[i].d.length:Int))=((Jam (z.s.take (i+1)):Nat):Int):=by rw [w64 (by omega) (by omega)];omega
   have bd:z.s.length- (i+1) < z.s.length-i:=by omega
   have oo:=(Mn.sl hm).out;have v1o:=(Mn.sl m1).out;have so:(sV z.s[i] ds[i]).outs=true:=rfl;have hsv:sV z.s[i] ds[i]= .ag [.s z.s[i].o,.i .i64 z.s[i].t,.i .i64 z.s[i].ttl,ds[i]]:=rfl;rw [hsv] at k1 a10;by_cases h6:(500:Int) < (Jam (z.s.take (i+1)):Nat)
   ·simp -implicitDefEqProofs only [bU,Jc,Ja,bT,bV,Ja,q3,q11,q12,q13,hL0,h1,Jj,a1,a2,a9,a10,d1,d2,o1,o2,w5,h6,Jr,rsC,rsV,Js]
    rw [if_pos (.inr (by omega))]
    exact ⟨he,.nil,hid0⟩
   ·obtain ⟨p1,o',H2,p2,p3,p4,p5,p6,p7,-,-⟩:=Mn.ap (by':=56) hm' ((Mn.sl m1).src [⟨5,g,0,[.ag [.s z.s[i].o,.i .i64 z.s[i].t,.i .i64 z.s[i].ttl,ds[i]]]⟩] (g+1)) (by rw [List.length_map,List.length_map,JhQ];simp only [JbC,List.length_map];omega)
    rw [show eR.z=5 from rfl] at p1 p3
    simp -implicitDefEqProofs only [bU,Jc,Ja,bT,bV,Ja,q3,q11,q12,q13,hL0,h1,Jj,a1,a2,a9,a10,d1,d2,o1,o2,w5,h6,k1];simp -implicitDefEqProofs only [bU,p1,p2,p3,w4]
    refine ⟨_,bd,i+1,o',H2,_,_,hil,rfl,rfl,rfl,rfl,rfl,by omega,⟨by have:=he.n;have:=e1.n;omega,fun j hj=>by
     have:=he.n;have:=e1.n;rw [p6 j (by omega) fun hh=>by have:=hid j hh;omega,e1.at' j (by omega)];exact he.at' j hj⟩,?_,fun j hj=>(p7 j hj).elim (hid j) fun h=>by have:=he.n;have:=e1.n;omega⟩
    rw [List.take_succ_eq_append_getElem hil,List.flatMap_append];show Mn H2 eR.z o' _
    rw [List.map_append];simpa using p4
  ·have hil:i=z.s.length:=by omega
   subst hil;rw [List.take_length] at hm hc;have oo:=(Mn.sl hm).out;simp -implicitDefEqProofs only [bU,Jc,bT,q3,q11,q12,q13,hL0,h1,oo,Jr,rsC,rsV,Js];rw [if_neg (by omega)]
   exact ⟨he,hm,hid⟩
end
section
variable {C:Tab}
set_option maxHeartbeats 4000000 in
theorem Jh5 {z w:Zn} {zs ws:AV} {ds es:List AV} {H:AH} (h:ZS H zs z.s ds) (h':ZS H ws w.s es) (hl:z.s.length≤1048576) (hl':w.s.length≤1048576) (hd: ∀ s,s∈z.s→s.d.length≤1048576) (hd': ∀ s,s∈w.s→s.d.length≤1048576):
  Jt C XB [.ag [.s z.a,zs],.ag [.s w.a,ws]] H fun v H'=>v= .b (decide (z=w))∧QA H H':=by
 unfold Jt XB;have hk:=JA H;obtain ⟨l1,l2⟩:=h.row.len;obtain ⟨l3,l4⟩:=h'.row.len;rw [QK h.len] at l1;rw [QK h'.len] at l3;have zo:=h.row.out;have wo:=h'.row.out;have no:z≠w→false=decide (z=w):=fun hne=>(decide_eq_false hne).symm
 by_cases h1:z.a=w.a
 ·by_cases h4:z.s.length=w.s.length
  ·have h4':((z.s.length:Int)=(w.s.length:Int))=True:=eq_true (by omega)
   simp -implicitDefEqProofs only [bU,Jc,reduceCtorEq,Ja,bT,bV,Ja,h1,h4',l1,l2,l3,l4]
   refine Jl (fun m e M=> ∃ (i:Nat) (L0:List Lv) (g:Nat),i≤z.s.length∧m=z.s.length-i∧look e 3= .la 3 1 0 0∧look e 24=zs∧look e 25= .i .i64 z.s.length∧look e 26= .i .i64 i∧M=⟨L0,g,H⟩∧JJ [3,24,25,26] L0=[⟨3,1,0,[.ag [.s w.a,ws]]⟩]∧ ∀ j (h1:j < z.s.length) (h2:j < w.s.length),j < i→z.s[j]=w.s[j]) ?_ (n:=z.s.length)
    ⟨0,_,_,by omega,by omega,rfl,rfl,by simp -implicitDefEqProofs only [bU,Jc,reduceCtorEq,bT],rfl,rfl,rfl,fun j _ _ hj=>by omega⟩
   rintro m e M ⟨i,L0,g,hi,rfl,q3,q24,q25,q26,rfl,hL0,hp⟩;by_cases h5:(i:Int) < z.s.length
   ·have hil:i < z.s.length:=by omega
    have hil':i < w.s.length:=by omega
    have hid:i < ds.length:=by rw [h.len];exact hil
    have hid':i < es.length:=by rw [h'.len];exact hil'
    obtain ⟨a1,a2,a3,-,-,-,-,-,a9,a10⟩:=h.at' hil hid;obtain ⟨b1,b2,b3,-,-,-,-,-,b9,b10⟩:=h'.at' hil' hid';have ha:=h.dat i hil hid;have hb:=h'.dat i hil' hid';have bl:=hd _ (List.getElem_mem hil);have bl':=hd' _ (List.getElem_mem hil');have hne:z.s[i] ≠w.s[i]→z≠w:=fun hn e=>hn (by subst e;rfl)
    have w5:IntKind.i64.wrap ((i:Int)+1)=((i+1:Nat):Int):=by rw [w64 (by omega) (by omega)];rfl
    have bd:z.s.length- (i+1) < z.s.length-i:=by omega
    have h5':(i:Int) < w.s.length:=by omega
    have nx:z.s[i]=w.s[i]→ ∀ j (h1:j < z.s.length) (h2:j < w.s.length),j < i+1→z.s[j]=w.s[j]:=fun he j j1 j2 hj=>by
     by_cases e:j=i
     ·subst e;exact he
     ·exact hp j j1 j2 (by omega)
    generalize z.s[i]=s at*;generalize w.s[i]=t at*;obtain ⟨l5,l6⟩:=ha.len;obtain ⟨l7,l8⟩:=hb.len;rw [List.length_map] at l5 l7;generalize ds[i]=d at*;generalize es[i]=d' at*;have hs:sV s d= .ag [.s s.o,.i .i64 s.t,.i .i64 s.ttl,d]:=rfl;have ht:sV t d'= .ag [.s t.o,.i .i64 t.t,.i .i64 t.ttl,d']:=rfl;rw [hs] at a10;rw [ht] at b10;have so:s≠t→QA H H→(false=decide (z=w))∧QA H H:=fun hn hk=>⟨no (hne hn),hk⟩
    by_cases e1:s.o=t.o
    ·by_cases e2:s.t=t.t
     ·by_cases e3:s.ttl=t.ttl
      ·by_cases e4:s.d.length=t.d.length
       ·have e4':((s.d.length:Int)=(t.d.length:Int))=True:=eq_true (by omega)
        simp -implicitDefEqProofs only [bU,Jc,Ja,Jb,bT,bV,Ja,Jb,q3,q24,q25,q26,hL0,h5,Jj,a1,a2,a9,a10,b1,b2,b9,b10,e1,e2,e3,e4',l5,l6,l7,l8]
        refine Jl (fun m e M=> ∃ (k:Nat) (L0:List Lv) (g':Nat),k≤s.d.length∧m=s.d.length-k∧look e 3= .la 3 1 0 0∧look e 6= .la 6 g 0 0∧look e 7= .la 7 (g+1) 0 0∧look e 24=zs∧look e 25= .i .i64 z.s.length∧look e 26= .i .i64 i∧look e 66= .i .i64 s.d.length∧look e 67= .i .i64 k∧M=⟨L0,g',H⟩∧JJ [3,6,7,24,25,26,66,67] L0=[⟨7,g+1,0,[.ag [.s t.o,.i .i64 t.t,.i .i64 t.ttl,d']]⟩,⟨6,g,0,[.ag [.s t.o,.i .i64 t.t,.i .i64 t.ttl,d]]⟩,⟨3,1,0,[.ag [.s w.a,ws]]⟩]∧ ∀ j (h1:j < s.d.length) (h2:j < t.d.length),j < k→s.d[j]=t.d[j]) ?_ (n:=s.d.length)
         ⟨0,_,_,by omega,by omega,by first | rfl | (simp -implicitDefEqProofs only [bU,reduceIte,Jc,reduceCtorEq,Ja,Jb,bT,Jd,Je,Jf,e4'];done),by first | rfl | (simp -implicitDefEqProofs only [bU,reduceIte,Jc,reduceCtorEq,Ja,Jb,bT,Jd,Je,Jf,e4'];done),by first | rfl | (simp -implicitDefEqProofs only [bU,reduceIte,Jc,reduceCtorEq,Ja,Jb,bT,Jd,Je,Jf,e4'];done),by first | rfl | (simp -implicitDefEqProofs only [bU,reduceIte,Jc,reduceCtorEq,Ja,Jb,bT,Jd,Je,Jf,e4'];done),by first | rfl | (simp -implicitDefEqProofs only [bU,reduceIte,Jc,reduceCtorEq,Ja,Jb,bT,Jd,Je,Jf,e4'];done),by first | rfl | (simp -implicitDefEqProofs only [bU,reduceIte,Jc,reduceCtorEq,Ja,Jb,bT,Jd,Je,Jf,e4'];done),by first | rfl | (simp -implicitDefEqProofs only [bU,reduceIte,Jc,reduceCtorEq,Ja,Jb,bT,Jd,Je,Jf,e4'];done),by first | rfl | (simp -implicitDefEqProofs only [bU,reduceIte,Jc,reduceCtorEq,Ja,Jb,bT,Jd,Je,Jf,e4'];done),rfl,by first | rfl | (simp -implicitDefEqProofs only [bU,reduceIte,Jc,reduceCtorEq,Ja,Jb,bT,Jd,Je,Jf,e4'];done),fun j _ _ hj=>by omega⟩
        rintro m e M ⟨k,L1,g',hk2,rfl,r3,r6,r7,r24,r25,r26,r66,r67,rfl,hL1,hq⟩;by_cases h6:(k:Int) < s.d.length
        ·have hkl:k < s.d.length:=by omega
         have hkl':k < t.d.length:=by omega
         have hg:(s.d.map AV.s).getD k .u= .s s.d[k]:=by simp [List.getD,hkl]
         have hg':(t.d.map AV.s).getD k .u= .s t.d[k]:=by simp [List.getD,hkl']
         have ia:=fun (L:List Lv) (g:Nat)=>ha.ia1 (j:=k) (v:= .s s.d[k]) (by omega) (by rw [List.length_map];omega) (by rw [Jj,hg];rfl) L g
         have ib:=fun (L:List Lv) (g:Nat)=>hb.ia1 (j:=k) (v:= .s t.d[k]) (by omega) (by rw [List.length_map];omega) (by rw [Jj,hg'];rfl) L g
         rw [Jj] at ia ib;obtain ⟨z1,z2,-⟩:=ia [] 0;obtain ⟨z3,z4,-⟩:=ib [] 0;have w6:IntKind.i64.wrap ((k:Int)+1)=((k+1:Nat):Int):=by rw [w64 (by omega) (by omega)];rfl
         have bd2:s.d.length- (k+1) < s.d.length-k:=by omega
         by_cases he:s.d[k]=t.d[k]
         ·simp -implicitDefEqProofs only [bU,Jc,Ja,bT,bV,Ja,r3,r6,r7,r24,r25,r26,r66,r67,hL1,h6,Jj,z1,z2,z3,z4,ia,ib,he,w6]
          exact ⟨_,bd2,k+1,_,_,hkl,rfl,rfl,rfl,rfl,fun j j1 j2 hj=>by
           by_cases e:j=k
           ·subst e;exact he
           ·exact hq j j1 j2 (by omega)⟩
         ·simp -implicitDefEqProofs only [bU,Jc,Ja,bT,bV,Ja,r3,r6,r7,r24,r25,r26,r66,r67,hL1,h6,Jj,z1,z2,z3,z4,ia,ib,he,Jr,rsC,rsV,Js]
          exact so (fun e=>he (by subst e;rfl)) hk
        ·have hie:k=s.d.length:=by omega
         have heq:s=t:=(Qa.eq_iff s t).2 ⟨e1,e2,e3,JcA e4 fun j j1 j2=>hq j j1 j2 (by omega)⟩
         simp -implicitDefEqProofs only [bU,Jc,reduceCtorEq,bT,r3,r6,r7,r24,r25,r26,r66,r67,hL1,h6,w5];exact ⟨_,bd,i+1,_,_,hil,rfl,rfl,rfl,rfl,nx heq⟩
       ·have e4': ¬ (s.d.length:Int)=(t.d.length:Int):=by omega
        simp -implicitDefEqProofs only [bU,Jc,Ja,Jb,bT,bV,Ja,Jb,q3,q24,q25,q26,hL0,h5,Jj,a1,a2,a9,a10,b1,b2,b9,b10,e1,e2,e3,e4',l5,l6,l7,l8,Jr,rsC,rsV,Js];exact so (fun e=>e4 (by rw [e])) hk
      ·simp -implicitDefEqProofs only [bU,Jc,Ja,Jb,bT,bV,Ja,Jb,q3,q24,q25,q26,hL0,h5,Jj,a1,a2,a9,a10,b1,b2,b9,b10,e1,e2,e3,Jr,rsC,rsV,Js]
       exact so (fun e=>e3 (by rw [e])) hk
     ·simp -implicitDefEqProofs only [bU,Jc,Ja,Jb,bT,bV,Ja,Jb,q3,q24,q25,q26,hL0,h5,Jj,a1,a2,a9,a10,b1,b2,b9,b10,e1,e2,Jr,rsC,rsV,Js]
      exact so (fun e=>e2 (by rw [e])) hk
    ·simp -implicitDefEqProofs only [bU,Jc,Ja,bT,bV,Ja,q3,q24,q25,q26,hL0,h5,Jj,a1,a2,a9,a10,b1,b2,b9,b10,e1,Jr,rsC,rsV,Js]
     exact so (fun e=>e1 (by rw [e])) hk
   ·have hie:i=z.s.length:=by omega
    simp -implicitDefEqProofs only [bU,Jc,reduceCtorEq,bT,q3,q24,q25,q26,hL0,h5,Jr,rsC,rsV,Js];have:z=w:=(Zn.eq_iff z w).2 ⟨h1,JcA h4 fun j j1 j2=>hp j j1 j2 (by omega)⟩
    exact ⟨by rw [decide_eq_true this],hk⟩
  ·have h4': ¬ (z.s.length:Int)=(w.s.length:Int):=by omega
   simp -implicitDefEqProofs only [bU,Jc,reduceCtorEq,Ja,bT,bV,Ja,h1,h4',l1,l2,l3,l4,Jr,rsC,rsV,Js];exact ⟨no (fun e=>h4 (by rw [e])),hk⟩
 ·simp -implicitDefEqProofs only [bU,Jc,reduceCtorEq,Ja,bT,bV,Ja,h1,Jr,rsC,rsV,Js]
  exact ⟨no (fun e=>h1 (by rw [e])),hk⟩
end
def JqX (C:Tab) (f:Nat):Prop:= ∀ (a:AV) (l:List Rr) (apex:List UInt8) (H:AH),JR H→Sx H eR a l→l.length≤1099511627776→szL l→apex.length≤1099511627776→ ∃ v H',C f [a,.s apex] H=some (v,H')∧JbD (bz l apex) H v H'
def Jou (C:Tab) (f:Nat):Prop:= ∀ (z:Zn) (zs:AV) (ds:List AV) (H:AH),JR H→ZS H zs z.s ds→SzZ z→C f [.ag [.s z.a,zs]] H=some (.i .i64 (ckz z),H)
section
variable {C:Tab}
set_option maxHeartbeats 4000000 in
theorem Jq1 {z:Zn} {zs:AV} {ds:List AV} {H:AH} (hR:JbM C QV) (hB:JqX C Yc) (hS:ZU C YX) (hFo:JR H) (h:ZS H zs z.s ds) (hz:SzZ z):
  Jt C WH [.ag [.s z.a,zs]] H fun v H'=>v= .i .i64 (ckz z)∧QA H H':=by
 unfold Jt WH;have hk:=JA H;obtain ⟨l1,l2⟩:=h.row.len;rw [QK h.len] at l1;have zo:=h.row.out;have zc:=h.row.one;have hcz:JkI z=Jam z.s:=rfl;simp -implicitDefEqProofs only [bU,Jc,reduceCtorEq,Ja,bT,bV,Ja,l1,l2]
 refine Jl (fun m e M=> ∃ (i:Nat) (L0:List Lv) (g:Nat),i≤z.s.length∧m=z.s.length-i∧look e 1= .la 1 0 0 0∧look e 3= .i .i64 (Jam (z.s.take i):Nat)∧look e 10=zs∧look e 11= .i .i64 z.s.length∧look e 12= .i .i64 i∧M=⟨L0,g,H⟩∧JJ [1,3,10,11,12] L0=[⟨1,0,0,[.ag [.s z.a,zs]]⟩]∧ ∀ j (h1:j < z.s.length),j < i→z.s[j].d≠ []) ?_ (n:=z.s.length)
  ⟨0,_,_,by omega,by omega,rfl,rfl,rfl,rfl,rfl,rfl,rfl,fun j _ hj=>by omega⟩
 rintro m e M ⟨i,L0,g,hi,rfl,q1,q3,q10,q11,q12,rfl,hL0,hp⟩;by_cases h1:(i:Int) < z.s.length
 ·have hil:i < z.s.length:=by omega
  have hidd:i < ds.length:=by rw [h.len];exact hil
  obtain ⟨a1,a2,a3,-,-,-,-,-,a9,a10⟩:=h.at' hil hidd;have hmem:=List.getElem_mem hil;obtain ⟨d1,d2⟩:=(h.dat i hil hidd).len;rw [List.length_map] at d1;have e1:=Jaz hil;have e2:=Ja6 z.s (i+1);have hzc:=hz.c;have w3:IntKind.i64.wrap ((Jam (z.s.take i):Int)+(z.s[i].d.length:Int))=((Jam (z.s.take (i+1)):Nat):Int):=by rw [w64 (by omega) (by omega)];omega
  have hsl:=hz.s;have w4:IntKind.i64.wrap ((i:Int)+1)=((i+1:Nat):Int):=by rw [w64 (by omega) (by omega)];rfl
  have bd:z.s.length- (i+1) < z.s.length-i:=by omega
  have hsv:sV z.s[i] ds[i]= .ag [.s z.s[i].o,.i .i64 z.s[i].t,.i .i64 z.s[i].ttl,ds[i]]:=rfl;rw [hsv] at a10;by_cases h0:(z.s[i].d.length:Int)=0
  ·have h0':((z.s[i].d.length:Int)=0)=True:=eq_true h0
   simp -implicitDefEqProofs only [bU,Jc,Ja,bT,bV,Ja,q1,q3,q10,q11,q12,hL0,h1,Jj,a1,a2,a9,a10,d1,d2,h0',Jr,rsC,rsV,Js];exact ⟨by rw [Jlh hmem (List.eq_nil_of_length_eq_zero (by omega))],hk⟩
  ·simp -implicitDefEqProofs only [bU,Jc,Ja,bT,bV,Ja,q1,q3,q10,q11,q12,hL0,h1,Jj,a1,a2,a9,a10,d1,d2,h0,w3,w4]
   exact ⟨_,bd,i+1,_,_,hil,rfl,rfl,rfl,rfl,rfl,fun j j1 hj=>by
    by_cases e:j=i
    ·subst e;intro hd;rw [hd] at h0;exact h0 rfl
    ·exact hp j j1 (by omega)⟩
 ·have hil:i=z.s.length:=by omega
  subst hil;rw [List.take_length] at q3
  have hcg:z.s.length≤JkI z:=Js3 fun s hs=>by
   obtain ⟨j,hj,rfl⟩:=List.mem_iff_getElem.1 hs;exact hp j hj hj
  rw [hcz] at hcg;unfold ckz;rw [hcz];by_cases h6:(500:Int) < (Jam z.s:Nat)
  ·rw [if_pos (.inr (by omega))]
   simp -implicitDefEqProofs only [bU,Jc,reduceCtorEq,bT,q1,q3,q10,q11,q12,hL0,h1,h6,Jr,rsC,rsV,Js];exact hk
  ·rw [if_neg (by omega)]
   obtain ⟨v1,H1,k2,e1,m1,i1⟩:=hR z zs ds H h hz;have hzr:JeT z=WQ z:=by unfold JeT;rw [if_neg (by omega)]
   rw [hzr] at m1;have hrl:(WQ z).length≤500:=by rw [Jcq,hcz];omega
   obtain ⟨v2,H2,k3,e2,ws,es,rfl,hw⟩:=hB v1 (WQ z) z.a H1 (hFo.ext e1) m1.sl (by omega) (JiF hz) (by have:=hz.a;omega)
   have v1o:=(Mn.sl m1).out;have wo:=hw.rd.row.out;have wc:=hw.rd.row.one;obtain ⟨b1,b2⟩:=Joo (WQ z) z.a;have kS:=hS z (bz (WQ z) z.a).1 zs ws ds es H2 (h.ext (e1.trans e2)) hw.rd hz.s (by omega) (fun s hs=>Nat.le_trans (Jah hs) hz.c) fun s hs=>by have:=b2 s hs;omega
   generalize bz (WQ z) z.a=R at k3 kS ⊢;generalize hg:(if R.2.1=0∧R.1=z then (0:Int) else 32)=res
   by_cases hc:R.2.1=0
   ·have hc':(R.2.1=0)=True:=eq_true hc
    by_cases he:R.1=z
    ·rw [decide_eq_true he.symm] at kS
     simp -implicitDefEqProofs only [bU,Jc,reduceCtorEq,Ja,Jb,bT,bV,Ja,Jb,Qs,J6,q1,q3,q10,q11,q12,hL0,h1,h6,k2,k3,v1o,hc',kS,Jr,rsC,rsV,Js];rw [if_pos ⟨hc,he⟩] at hg;exact ⟨by rw [hg],.of (e1.trans e2)⟩
    ·rw [decide_eq_false fun h=>he h.symm] at kS
     simp -implicitDefEqProofs only [bU,Jc,reduceCtorEq,Ja,Jb,bT,bV,Ja,Jb,Qs,J6,q1,q3,q10,q11,q12,hL0,h1,h6,k2,k3,v1o,hc',kS,Jr,rsC,rsV,Js];rw [if_neg fun h=>he h.2] at hg
     exact ⟨by rw [hg],.of (e1.trans e2)⟩
   ·simp -implicitDefEqProofs only [bU,Jc,reduceCtorEq,Ja,Jb,bT,bV,Ja,Jb,Qs,J6,q1,q3,q10,q11,q12,hL0,h1,h6,k2,k3,v1o,hc,Jr,rsC,rsV,Js]
    rw [if_neg fun h=>hc h.1] at hg
    exact ⟨by rw [hg],.of (e1.trans e2)⟩
end
theorem Jsb {H:AH} {zs:AV} {ps:List (Qa×AV)} (h:Sl H 4 zs (ps.map fun p=>sV p.1 p.2)) {i:Nat} (hi:i < ps.length):slZ H 4 zs∧iaC (i:Int) zs∧faC (iaV i zs)∧(∀ (o:Nat) (L:List Lv) (g:Nat),o < 4→ldC ⟨L,g,H⟩ none (faV o (iaV i zs)))∧(∀ (L:List Lv) (g:Nat),ldX ⟨L,g,H⟩ none (faV 0 (iaV i zs))= .s ps[i].1.o)∧
  (∀ (L:List Lv) (g:Nat),ldX ⟨L,g,H⟩ none (faV 1 (iaV i zs))= .i .i64 ps[i].1.t):=by
 obtain ⟨h1,h2,h3,h4⟩:=h.ia (j:=i) (by omega) (by rw [List.length_map];omega)
 have hg:(ps.map fun p=>sV p.1 p.2).getD i .u=sV ps[i].1 ps[i].2:=by simp [List.getD,hi]
 rw [Jj] at h3 h4;rw [hg] at h4;have c:=fun (o:Nat) (ho:o < 4) (L:List Lv) (g:Nat)=>h4 L g o none (by simp only [JF,JaN];exact ho)
 exact ⟨h1,h2,h3,fun o L g ho=>(c o ho L g).1,fun L g=>(c 0 (by decide) L g).2,fun L g=>(c 1 (by decide) L g).2⟩
section
variable {C:Tab} {H:AH} {id:Nat}
theorem Jqh {o:List UInt8} {t ttl:Int} {a:AV} {l:List (List UInt8)} {i j:Nat} (hC:JkX C WT) (hFo:JR H) (ho:JbE H id [.s o,.i .i64 t,.i .i64 ttl,a]) (h:Sl H 1 a (l.map AV.s)) (hi:i < l.length) (hj:j < l.length) (hl: ∀ x,x∈l→x.length≤1099511627776):
  Jt C Q5 [.i .i64 i,.i .i64 j,.pv id 0] H fun v H'=>v= .b (decide (Jqz t l[i] l[j] < 0))∧QA H H':=by
 unfold Jt Q5;have hk:=JA H
 have hg: ∀ k (hk:k < l.length),slZ H 1 a∧iaC (k:Int) a∧(∀ (L:List Lv) (g:Nat),ldC ⟨L,g,H⟩ none (iaV k a))∧ ∀ (L:List Lv) (g:Nat),ldX ⟨L,g,H⟩ none (iaV k a)= .s l[k]:=fun k hk=>by
  have hgk:(l.map AV.s).getD k .u= .s l[k]:=by simp [List.getD,hk]
  have ia:=fun (L:List Lv) (g:Nat)=>h.ia1 (j:=k) (v:= .s l[k]) (by omega) (by rw [List.length_map];omega) (by rw [Jj,hgk];rfl) L g
  rw [Jj] at ia;exact ⟨(ia [] 0).1,(ia [] 0).2.1,fun L g=>(ia L g).2.2.1,fun L g=>(ia L g).2.2.2⟩
 obtain ⟨a1,a2,a3,a4⟩:=hg i hi;obtain ⟨b1,b2,b3,b4⟩:=hg j hj;obtain ⟨t1,t2⟩:=ho.ld (off:=1) (by simp)
 obtain ⟨d1,d2⟩:=ho.ld (off:=3) (by simp)
 simp only [List.getD_cons_succ,List.getD_cons_zero] at t2 d2;have k1:=hC t l[i] l[j] H hFo (hl _ (List.getElem_mem hi)) (hl _ (List.getElem_mem hj));have hpf: ∀ {n:Nat},faC (.pv n 0):=trivial;have f1: ∀ {n:Nat},faV 1 (.pv n 0)= .pv n 1:=rfl;have f3: ∀ {n:Nat},faV 3 (.pv n 0)= .pv n 3:=rfl;simp -implicitDefEqProofs only [bU,Jc,reduceCtorEq,Ja,bT,bV,Ja,hpf,f1,f3,t1,t2,d1,d2,a1,a2,a3,a4,b2,b3,b4,Jj,k1,Jr,rsC,rsV,Js];exact hk
theorem JoU {apex:List UInt8} {a:AV} {ps:List (Qa×AV)} {i j:Nat} (hC:Jfx C Ww) (ho:JbE H id [.s apex,a]) (h:Sl H 4 a (ps.map fun p=>sV p.1 p.2)) (hi:i < ps.length) (hj:j < ps.length) (hl: ∀ p,p∈ps→ ∃ x,JB p.1.o=some x):
  Jt C Q4 [.i .i64 i,.i .i64 j,.pv id 0] H fun v H'=>v= .b (Jdk ps[i].1 ps[j].1)∧QA H H':=by
 unfold Jt Q4;have hk:=JA H;obtain ⟨a1,a2,a3,a4,a5,a6⟩:=Jsb h hi;obtain ⟨b1,b2,b3,b4,b5,b6⟩:=Jsb h hj;obtain ⟨d1,d2⟩:=ho.ld (off:=1) (by simp)
 simp only [List.getD_cons_succ,List.getD_cons_zero] at d2;have n1:=hl _ (List.getElem_mem hi);have n2:=hl _ (List.getElem_mem hj);rw [Jnd n1 n2];obtain ⟨x,hx⟩:=n1;obtain ⟨y,hy⟩:=n2;have k1:=hC ps[i].1.o ps[j].1.o H (by have:=(Q9 hx).2.2;omega) (by have:=(Q9 hy).2.2;omega)
 have hpf: ∀ {n:Nat},faC (.pv n 0):=trivial;have f1: ∀ {n:Nat},faV 1 (.pv n 0)= .pv n 1:=rfl;by_cases h1:Jhn ps[i].1.o ps[j].1.o < 0
 ·have h1':(Jhn ps[i].1.o ps[j].1.o < 0)=True:=eq_true h1
  simp -implicitDefEqProofs only [bU,Jc,reduceCtorEq,Ja,bT,bV,Ja,hpf,f1,d1,d2,a1,a2,a3,a4,a5,b2,b3,b4,b5,Jj,k1,h1',Jr,rsC,rsV,Js];exact ⟨by simp,hk⟩
 ·by_cases h2:Jhn ps[i].1.o ps[j].1.o=0
  ·rw [h2] at k1 ⊢
   simp -implicitDefEqProofs only [bU,Jc,reduceCtorEq,Ja,Jb,bT,bV,Ja,Jb,hpf,f1,d1,d2,a1,a2,a3,a4,a5,a6,b2,b3,b4,b5,b6,Jj,k1,Jr,rsC,rsV,Js,Ji];exact ⟨by simp,hk⟩
  ·simp -implicitDefEqProofs only [bU,Jc,reduceCtorEq,Ja,bT,bV,Ja,hpf,f1,d1,d2,a1,a2,a3,a4,a5,b2,b3,b4,b5,Jj,k1,h1,h2,Jr,rsC,rsV,Js]
   exact ⟨by simp,hk⟩
end
end Go.Vm
