import Derived.Test.YtgoalfkgbiblgaaGreatDoorKb4
import Derived.Test.YtgoalfkgbiblgaaGreatDoorKb3
import Derived.Below
import Derived.ChangeSame
import Derived.ChangeArms
import Derived.WideKeyArgs
import Derived.LaidMore
import Derived.OpenShut
import Derived.Stop.Joined
import Derived.Maps.Range
import Derived.Test.YtgoalfkgbiblgaaGreatDoorProg
import Derived.KernelRfl
/- Data of records: the runs of what looks at names, texts, maps, forms. -/
set_option linter.unusedVariables false
set_option linter.unusedSimpArgs false
set_option maxRecDepth 100000
open Nat renaming reduceEqDiff→Jc,reduceAdd→Ja,reduceLT→Jb,reduceLeDiff→Jg,reduceSub→Je
open Int renaming reduceEq→Jh,reduceToNat→Jd,reduceLE→Jf,reduceLT→Ji
namespace Go.Vm
theorem Jkm (b:UInt8):IntKind.i64.wrap (b.toNat:Int)=(b.toNat:Int):=by have:=b.toNat_lt;exact w64 (by omega) (by omega)
theorem getD_drop (s:List UInt8) (i k:Nat):(s.drop i).getD k 0=s.getD (i+k) 0:=by simp [List.getD,List.getElem?_drop]
theorem JiZ {s:List UInt8} {last:Int} (h:2≤s.length):YF s last=if ((s.getD 0 0).toNat:Int)≤last∨(s.getD 1 0).toNat < 1∨32 < (s.getD 1 0).toNat∨s.length < (s.getD 1 0).toNat+2∨(s.getD ((s.getD 1 0).toNat+1) 0).toNat=0 then false else YF (s.drop ((s.getD 1 0).toNat+2)) (s.getD 0 0).toNat:=by
 match s,h with
 | w::n::r,_=>
  rw [YF];simp only [List.getD_cons_zero,List.getD_cons_succ,List.length_cons,Joi];by_cases hn:n.toNat < 1
  ·simp [hn]
  ·obtain ⟨k,hk⟩: ∃ k,n.toNat=k+1:=⟨n.toNat-1,by omega⟩
   simp only [hk,Nat.add_sub_cancel,List.getD_cons_succ,show k+1+2=(k+1)+1+1 from rfl,List.drop_succ_cons]
   congr 1
   simp only [Bool.or_eq_true,decide_eq_true_eq,eq_iff_iff];omega
theorem JeX {s:List UInt8} {last:Int} (h:s.length < 2):YF s last=decide (s=[]):=by
 match s,h with
 | [],_=>rw [YF];rfl
 | [x],_=>rw [YF];simp
def Jgg (C:Tab) (f:Nat):Prop:= ∀ (c:UInt8) (H:AH),C f [.i .u8 c.toNat] H=some (.b (Zc c),H)
def Jms (C:Tab) (f:Nat):Prop:= ∀ (s:List UInt8) (H:AH),s.length≤1099511627776→C f [.s s] H=some (.s (txt s),H)
def Jmt (C:Tab) (f:Nat):Prop:= ∀ (s:List UInt8) (H:AH),s.length≤1099511627776→C f [.s s] H=some (.s (s.take (Jbc s)),H)
def Jnj (C:Tab) (f:Nat):Prop:= ∀ (s:List UInt8) (H:AH),s.length≤1099511627776→C f [.s s] H=some (.b (YF s (-1)),H)
def JiI (C:Tab) (f:Nat):Prop:= ∀ (t:Int) (H:AH),C f [.i .i64 t] H=some (.s (JU t),H)
def JnM (C:Tab) (f:Nat):Prop:= ∀ (s:List UInt8) (H:AH),s.length≤1099511627776→C f [.s s] H=some (.i .i64 (Jbc s:Nat),H)
theorem Jlt {s:List UInt8} (h:s=[]∨s.length < (s.getD 0 0).toNat+1):txt s=[]:=by
 cases s with
 | nil=>rfl
 | cons c r=>
  simp only [List.getD_cons_zero,List.length_cons] at h;simp only [txt];rw [if_pos (by simp at h;omega)]
theorem Jtn {s:List UInt8} (h:s≠ []) (h2: ¬ s.length < (s.getD 0 0).toNat+1):txt s=s.take ((s.getD 0 0).toNat+1):=by
 cases s with
 | nil=>exact absurd rfl h
 | cons c r=>
  simp only [List.getD_cons_zero,List.length_cons] at h2 ⊢;simp only [txt,List.take_succ_cons];rw [if_neg (by omega)]
section
variable {C:Tab}
set_option maxHeartbeats 1000000 in
theorem JpE {c:UInt8} {H:AH}:Jt C XE [.i .u8 c.toNat] H fun v H'=>H'=H∧v= .b (Zc c):=by
 unfold Jt XE
 have e:Zc c=((decide ((48:Int)≤c.toNat) &&decide ((c.toNat:Int)≤57)) || (decide ((97:Int)≤c.toNat) &&decide ((c.toNat:Int)≤122)) || (decide ((65:Int)≤c.toNat) &&decide ((c.toNat:Int)≤90))):=by
  unfold Zc;rw [Bool.eq_iff_iff];simp only [Bool.or_eq_true,Bool.and_eq_true,decide_eq_true_eq];omega
 rw [e];by_cases h1:(48:Int)≤c.toNat<;>by_cases h2:(c.toNat:Int)≤57<;>by_cases h3:(97:Int)≤c.toNat<;>by_cases h4:(c.toNat:Int)≤122<;>by_cases h5:(65:Int)≤c.toNat<;>by_cases h6:(c.toNat:Int)≤90<;>
 first
 | (exfalso;omega)
 | simp -implicitDefEqProofs only [bU,Jc,reduceCtorEq,bT,h1,h2,h3,h4,h5,h6,Bool.and_false,Bool.or_false,Bool.or_true,Jr,rsC,rsV,Js]
theorem JuR {s:List UInt8} {H:AH} (hs:s.length≤1099511627776):Jt C X6 [.s s] H fun v H'=>H'=H∧v= .s (txt s):=by
 unfold Jt X6;by_cases h0:s=[]
 ·rw [Jlt (.inl h0)]
  have h0':(s=[])=True:=eq_true h0;simp -implicitDefEqProofs only [bU,Jc,reduceCtorEq,bT,h0',Jr,rsC,rsV,Js]
 ·have hl:=List.length_pos_iff.2 h0
  have hp:(0:Int) < s.length:=by omega
  have hb:=(s.getD 0 0).toNat_lt;have w0:=Jkm (s.getD 0 0);have w1:IntKind.i64.wrap (((s.getD 0 0).toNat:Int)+1)=(((s.getD 0 0).toNat+1:Nat):Int):=by rw [w64 (by omega) (by omega)];rfl
  have z:(0:Int)≤(((s.getD 0 0).toNat+1:Nat):Int):=by omega
  by_cases h1:(s.length:Int) < (((s.getD 0 0).toNat+1:Nat):Int)
  ·rw [Jlt (.inr (by omega))]
   simp -implicitDefEqProofs only [bU,Jc,reduceCtorEq,bT,Jd,h0,hp,w0,w1,h1,Jr,rsC,rsV,Js]
  ·rw [Jtn h0 (by omega)]
   have h2:(((s.getD 0 0).toNat+1:Nat):Int)≤s.length:=by omega
   simp -implicitDefEqProofs only [bU,Jc,reduceCtorEq,bT,Jd,h0,hp,w0,w1,h1,h2,z,Jj,Jr,rsC,rsV,Js]
theorem JuS {s:List UInt8} {H:AH} (hs:s.length≤1099511627776):Jt C Wx [.s s] H fun v H'=>H'=H∧v= .s (s.take (Jbc s)):=by
 unfold Jt Wx;simp -implicitDefEqProofs only [bU];refine Jl (fun n e M=> ∃ (i:Nat),i≤s.length+64∧n=s.length+64-i∧look e 0= .s s∧look e 3= .i .i64 i∧(∃ L g,M=⟨L,g,H⟩)∧Jbc s=Je8 (s.drop i) i) ?_ (n:=s.length+64) ⟨0,by omega,by omega,rfl,rfl,⟨_,_,rfl⟩,rfl⟩
 rintro n e M ⟨i,hi,rfl,q0,q3,⟨L,g,rfl⟩,hn⟩;by_cases h1:(i:Int) < s.length
 ·have hil:i < s.length:=by omega
  by_cases h2:(i:Int) < 255
  ·have hp:(0:Int)≤i:=by omega
   have hb:=(s.getD i 0).toNat_lt;have w0:=Jkm (s.getD i 0);have w1:IntKind.i64.wrap ((i:Int)+1)=((i+1:Nat):Int):=by rw [w64 (by omega) (by omega)];rfl
   rw [JlR hil] at hn;by_cases h3:(s.getD i 0).toNat=0
   ·rw [if_pos h3,if_neg (by omega)] at hn
    have h3':(((s.getD i 0).toNat:Int)=0)=True:=eq_true (by omega)
    have z1:(0:Int)≤((i+1:Nat):Int):=by omega
    have z2:((i+1:Nat):Int)≤s.length:=by omega
    simp -implicitDefEqProofs only [bU,Jc,reduceCtorEq,bT,Jd,q0,q3,h1,h2,hp,w0,w1,Jj,h3',z1,z2,hn,Jr,rsC,rsV,Js]
   ·rw [if_neg h3] at hn
    have h3': ¬ ((s.getD i 0).toNat:Int)=0:=by omega
    by_cases h4:63 < (s.getD i 0).toNat
    ·rw [if_pos h4] at hn
     have h4':(63:Int) < (s.getD i 0).toNat:=by omega
     simp -implicitDefEqProofs only [bU,Jc,reduceCtorEq,bT,q0,q3,h1,h2,hp,w0,Jj,h3',h4',hn,List.take_zero,Jr,rsC,rsV,Js]
    ·rw [if_neg h4] at hn
     have h4': ¬ (63:Int) < (s.getD i 0).toNat:=by omega
     have w2:IntKind.i64.wrap ((i:Int)+((s.getD i 0).toNat:Int))=((i+(s.getD i 0).toNat:Nat):Int):=by rw [w64 (by omega) (by omega)];omega
     have w3:IntKind.i64.wrap (((i+(s.getD i 0).toNat:Nat):Int)+1)=((i+1+(s.getD i 0).toNat:Nat):Int):=by rw [w64 (by omega) (by omega)];omega
     simp -implicitDefEqProofs only [bU,Jc,reduceCtorEq,bT,q0,q3,h1,h2,hp,w0,w2,w3,Jj,h3',h4'];exact ⟨s.length+64- (i+1+(s.getD i 0).toNat),by omega,i+1+(s.getD i 0).toNat,by omega,rfl,rfl,⟨_,_,rfl⟩,hn⟩
  ·rw [JjE _ _ _ (Nat.le_refl _) (by omega)] at hn
   simp -implicitDefEqProofs only [bU,Jc,reduceCtorEq,bT,q0,q3,h1,h2,hn,List.take_zero,Jr,rsC,rsV,Js]
 ·rw [List.drop_of_length_le (by omega),ZP] at hn
  simp -implicitDefEqProofs only [bU,Jc,reduceCtorEq,bT,q0,q3,h1,hn,List.take_zero,Jr,rsC,rsV,Js]
theorem Jvi {s:List UInt8} {H:AH} (hs:s.length≤1099511627776):Jt C YW [.s s] H fun v H'=>H'=H∧v= .i .i64 (Jbc s:Nat):=by
 unfold Jt YW;simp -implicitDefEqProofs only [bU];refine Jl (fun n e M=> ∃ (i:Nat),i≤s.length+64∧n=s.length+64-i∧look e 0= .s s∧look e 3= .i .i64 i∧(∃ L g,M=⟨L,g,H⟩)∧Jbc s=Je8 (s.drop i) i) ?_ (n:=s.length+64) ⟨0,by omega,by omega,rfl,rfl,⟨_,_,rfl⟩,rfl⟩
 rintro n e M ⟨i,hi,rfl,q0,q3,⟨L,g,rfl⟩,hn⟩;have z0:((0:Nat):Int)=0:=rfl;by_cases h1:(i:Int) < s.length
 ·have hil:i < s.length:=by omega
  have hp:(0:Int)≤i:=by omega
  have hb:=(s.getD i 0).toNat_lt;have w0:=Jkm (s.getD i 0);have w1:IntKind.i64.wrap ((i:Int)+1)=((i+1:Nat):Int):=by rw [w64 (by omega) (by omega)];rfl
  rw [JlR hil] at hn;by_cases h3:(s.getD i 0).toNat=0
  ·rw [if_pos h3] at hn
   have h3':(((s.getD i 0).toNat:Int)=0)=True:=eq_true (by omega)
   by_cases h5:255 < i+1
   ·rw [if_pos h5] at hn
    have h5':(255:Int) < ((i+1:Nat):Int):=by omega
    simp -implicitDefEqProofs only [bU,Jc,reduceCtorEq,bT,q0,q3,h1,hp,w0,w1,Jj,h3',h5',hn,z0,Jr,rsC,rsV,Js]
   ·rw [if_neg h5] at hn
    have h5': ¬ (255:Int) < ((i+1:Nat):Int):=by omega
    simp -implicitDefEqProofs only [bU,Jc,reduceCtorEq,bT,q0,q3,h1,hp,w0,w1,Jj,h3',h5',hn,Jr,rsC,rsV,Js]
  ·rw [if_neg h3] at hn
   have h3': ¬ ((s.getD i 0).toNat:Int)=0:=by omega
   by_cases h4:63 < (s.getD i 0).toNat
   ·rw [if_pos h4] at hn
    have h4':(63:Int) < (s.getD i 0).toNat:=by omega
    simp -implicitDefEqProofs only [bU,Jc,reduceCtorEq,bT,q0,q3,h1,hp,w0,Jj,h3',h4',hn,z0,Jr,rsC,rsV,Js]
   ·rw [if_neg h4] at hn
    have h4': ¬ (63:Int) < (s.getD i 0).toNat:=by omega
    have w2:IntKind.i64.wrap (1+((s.getD i 0).toNat:Int))=((1+(s.getD i 0).toNat:Nat):Int):=by rw [w64 (by omega) (by omega)];omega
    have w3:IntKind.i64.wrap ((i:Int)+((1+(s.getD i 0).toNat:Nat):Int))=((i+1+(s.getD i 0).toNat:Nat):Int):=by rw [w64 (by omega) (by omega)];omega
    simp -implicitDefEqProofs only [bU,Jc,reduceCtorEq,bT,q0,q3,h1,hp,w0,w2,w3,Jj,h3',h4'];exact ⟨s.length+64- (i+1+(s.getD i 0).toNat),by omega,i+1+(s.getD i 0).toNat,by omega,rfl,rfl,⟨_,_,rfl⟩,hn⟩
 ·rw [List.drop_of_length_le (by omega),ZP] at hn
  simp -implicitDefEqProofs only [bU,Jc,reduceCtorEq,bT,q0,q3,h1,hn,z0,Jr,rsC,rsV,Js]
theorem JuH {s0:List UInt8} {H:AH} (hs:s0.length≤1099511627776):Jt C Y9 [.s s0] H fun v H'=>H'=H∧v= .b (YF s0 (-1)):=by
 unfold Jt Y9;simp -implicitDefEqProofs only [bU];refine Jl (fun n e M=> ∃ (s:List UInt8) (last:Int),s.length≤s0.length∧n=s.length∧look e 0= .s s∧look e 3= .i .i64 last∧(∃ L g,M=⟨L,g,H⟩)∧YF s0 (-1)=YF s last) ?_ (n:=s0.length) ⟨s0,-1,by omega,by omega,rfl,rfl,⟨_,_,rfl⟩,rfl⟩
 rintro n e M ⟨s,last,hi,rfl,q0,q3,⟨L,g,rfl⟩,hn⟩;by_cases h0:s=[]
 ·have h0':(s=[])=True:=eq_true h0
  rw [h0,show YF [] last=true by rw [YF]] at hn
  simp -implicitDefEqProofs only [bU,Jc,reduceCtorEq,bT,q0,q3,h0',hn,Jr,rsC,rsV,Js]
 by_cases h1:(s.length:Int) < 2
 ·rw [JeX (s:=s) (last:=last) (by omega),decide_eq_false h0] at hn
  simp -implicitDefEqProofs only [bU,Jc,reduceCtorEq,bT,q0,q3,h0,h1,hn,Jr,rsC,rsV,Js]
 rw [JiZ (s:=s) (last:=last) (by omega)] at hn
 have p0:(0:Int) < s.length:=by omega
 have p1:(1:Int) < s.length:=by omega
 have w0:=Jkm (s.getD 0 0);have w1:=Jkm (s.getD 1 0);have hb:=(s.getD 1 0).toNat_lt;have w2:IntKind.i64.wrap (((s.getD 1 0).toNat:Int)+2)=(((s.getD 1 0).toNat+2:Nat):Int):=by rw [w64 (by omega) (by omega)];rfl
 have w3:IntKind.i64.wrap (((s.getD 1 0).toNat:Int)+1)=(((s.getD 1 0).toNat+1:Nat):Int):=by rw [w64 (by omega) (by omega)];rfl
 by_cases a1:((s.getD 0 0).toNat:Int)≤last
 ·rw [if_pos (.inl a1)] at hn
  simp -implicitDefEqProofs only [bU,Jc,reduceCtorEq,bT,Jd,Jf,q0,q3,h0,h1,p0,p1,w0,w1,a1,hn,Jr,rsC,rsV,Js]
 by_cases a2:((s.getD 1 0).toNat:Int) < 1
 ·rw [if_pos (.inr (.inl (by omega)))] at hn
  simp -implicitDefEqProofs only [bU,Jc,reduceCtorEq,bT,Jd,Jf,q0,q3,h0,h1,p0,p1,w0,w1,a1,a2,hn,Jr,rsC,rsV,Js]
 by_cases a3:(32:Int) < ((s.getD 1 0).toNat:Int)
 ·rw [if_pos (.inr (.inr (.inl (by omega))))] at hn
  simp -implicitDefEqProofs only [bU,Jc,reduceCtorEq,bT,Jd,Jf,q0,q3,h0,h1,p0,p1,w0,w1,a1,a2,a3,hn,Jr,rsC,rsV,Js]
 by_cases a4:(s.length:Int) < (((s.getD 1 0).toNat+2:Nat):Int)
 ·rw [if_pos (.inr (.inr (.inr (.inl (by omega)))))] at hn
  simp -implicitDefEqProofs only [bU,Jc,reduceCtorEq,bT,Jd,Jf,q0,q3,h0,h1,p0,p1,w0,w1,w2,a1,a2,a3,a4,hn,Jr,rsC,rsV,Js]
 have p2:(0:Int)≤(((s.getD 1 0).toNat+1:Nat):Int):=by omega
 have p3:(((s.getD 1 0).toNat+1:Nat):Int) < s.length:=by omega
 by_cases a5:((s.getD ((s.getD 1 0).toNat+1) 0).toNat:Int)=0
 ·rw [if_pos (.inr (.inr (.inr (.inr (by omega)))))] at hn
  have a5':(((s.getD ((s.getD 1 0).toNat+1) 0).toNat:Int)=0)=True:=eq_true a5;simp -implicitDefEqProofs only [bU,Jc,reduceCtorEq,bT,Jd,Jf,q0,q3,h0,h1,p0,p1,p2,p3,w0,w1,w2,w3,Jj,a1,a2,a3,a4,a5',hn,Jr,rsC,rsV,Js]
 rw [if_neg (by omega)] at hn
 have p4:(0:Int)≤(((s.getD 1 0).toNat+2:Nat):Int):=by omega
 have p5:(((s.getD 1 0).toNat+2:Nat):Int)≤s.length:=by omega
 have e:(s.drop ((s.getD 1 0).toNat+2)).take (s.length- ((s.getD 1 0).toNat+2))=s.drop ((s.getD 1 0).toNat+2):=List.take_of_length_le (by simp)
 have hll:(s.drop ((s.getD 1 0).toNat+2)).length < s.length:=by simp;omega
 simp -implicitDefEqProofs only [bU,Jc,reduceCtorEq,bT,Jd,Jf,q0,q3,h0,h1,p0,p1,p2,p3,p4,p5,w0,w1,w2,w3,Jj,a1,a2,a3,a4,a5,e,Int.le_refl];exact ⟨_,hll,s.drop ((s.getD 1 0).toNat+2),_,by omega,rfl,rfl,rfl,⟨_,_,rfl⟩,hn⟩
end
section
variable {C:Tab}
theorem Jr8 {t:Int} {H:AH}:Jt C X5 [.i .i64 t] H fun v H'=>H'=H∧v= .s (JU t):=by
 unfold Jt X5;by_cases h1:t=1
 ·subst h1
  simp -implicitDefEqProofs only [bU,Jc,reduceCtorEq,bT,Jr,rsC,rsV,Js];rfl
 by_cases h2:t=2
 ·subst h2
  simp -implicitDefEqProofs only [bU,Jc,reduceCtorEq,bT,Jh,Jr,rsC,rsV,Js];rfl
 by_cases h5:t=5
 ·subst h5
  simp -implicitDefEqProofs only [bU,Jc,reduceCtorEq,bT,Jh,Jr,rsC,rsV,Js];rfl
 by_cases h12:t=12
 ·subst h12
  simp -implicitDefEqProofs only [bU,Jc,reduceCtorEq,bT,Jh,Jr,rsC,rsV,Js];rfl
 by_cases h39:t=39
 ·subst h39
  simp -implicitDefEqProofs only [bU,Jc,reduceCtorEq,bT,Jh,Jr,rsC,rsV,Js];rfl
 by_cases h6:t=6
 ·subst h6
  simp -implicitDefEqProofs only [bU,Jc,reduceCtorEq,bT,Jh,Jr,rsC,rsV,Js];rfl
 by_cases h13:t=13
 ·subst h13
  simp -implicitDefEqProofs only [bU,Jc,reduceCtorEq,bT,Jh,Jr,rsC,rsV,Js];rfl
 by_cases h15:t=15
 ·subst h15
  simp -implicitDefEqProofs only [bU,Jc,reduceCtorEq,bT,Jh,Jr,rsC,rsV,Js];rfl
 by_cases h16:t=16
 ·subst h16
  simp -implicitDefEqProofs only [bU,Jc,reduceCtorEq,bT,Jh,Jr,rsC,rsV,Js];rfl
 by_cases h28:t=28
 ·subst h28
  simp -implicitDefEqProofs only [bU,Jc,reduceCtorEq,bT,Jh,Jr,rsC,rsV,Js];rfl
 by_cases h33:t=33
 ·subst h33
  simp -implicitDefEqProofs only [bU,Jc,reduceCtorEq,bT,Jh,Jr,rsC,rsV,Js];rfl
 by_cases h35:t=35
 ·subst h35
  simp -implicitDefEqProofs only [bU,Jc,reduceCtorEq,bT,Jh,Jr,rsC,rsV,Js];rfl
 by_cases h47:t=47
 ·subst h47
  simp -implicitDefEqProofs only [bU,Jc,reduceCtorEq,bT,Jh,Jr,rsC,rsV,Js];rfl
 by_cases h257:t=257
 ·subst h257
  simp -implicitDefEqProofs only [bU,Jc,reduceCtorEq,bT,Jh,Jr,rsC,rsV,Js];rfl
 have e:JU t=[42]:=by simp [JU,h1,h2,h5,h12,h39,h6,h13,h15,h16,h28,h33,h35,h47,h257]
 rw [e];simp -implicitDefEqProofs only [bU,Jc,reduceCtorEq,bT,h1,h2,h5,h12,h39,h6,h13,h15,h16,h28,h33,h35,h47,h257,Jr,rsC,rsV,Js]
theorem Jqa {s:List UInt8} {H:AH} (hs:s.length≤1099511627776):Jt C Xp [.s s] H (Jc5 (JB s) H):=by
 unfold Jt Xp;by_cases h0:s=[]
 ·subst h0
  have e:JB []=none:=by rw [JB,if_neg (by simp),Wz]
  rw [e];simp -implicitDefEqProofs only [bU,Jc,reduceCtorEq,bT,Ji,Int.natCast_zero,Jr,rsC,rsV,Js];exact ⟨.new _ _,.ns,rfl,rfl⟩
 have hl:=List.length_pos_iff.2 h0;have g1: ¬ (s.length:Int) < 1:=by omega
 by_cases g2:(255:Int) < s.length
 ·simp -implicitDefEqProofs only [bU,Jc,reduceCtorEq,bT,g1,g2,Jr,rsC,rsV,Js]
  rw [JB,if_pos (by omega)]
  exact ⟨.new _ _,.ns,rfl,rfl⟩
 have hnm:JB s=Wz s:=by rw [JB,if_neg (by omega)]
 rw [hnm];simp -implicitDefEqProofs only [bU,Jc,reduceCtorEq,bT,g1,g2,JE,JQ,List.replicate]
 refine Jl (fun n e M=> ∃ (r:List UInt8) (acc:List (List UInt8)) (o:AV) (H':AH) (L:List Lv) (g:Nat),r.length≤s.length∧n=r.length∧look e 5= .s r∧look e 4=o∧M=⟨L,g,H'⟩∧acc.length+r.length≤s.length∧Mn H' 1 o (acc.map AV.s)∧Ext H H'∧(∀ j,j∈idA o→H.n≤j)∧Wz s=(Wz r).map fun q=>acc++q) ?_ (n:=s.length)
  ⟨s,[],.sl H.n 0 0,H.new (.arr true 0 1 []),_,_,by omega,by omega,rfl,rfl,rfl,by simp,?_,.new _ _,by simp [idA],by simp⟩
 ·rintro n e M ⟨r,acc,o,H',L,g,hi,rfl,q5,q4,rfl,hacc,hm,he,hid,hg⟩
  have ho:=hm.sl.out;cases r with
  | nil=>
   rw [show Wz []=none by rw [Wz]] at hg
   rw [hg];simp -implicitDefEqProofs only [bU,Jc,bT,q4,q5,Jr,rsC,rsV,Js];exact ⟨he,.ns,rfl,rfl⟩
  | cons b q=>
   have hb:=b.toNat_lt;have w0:=Jkm b;have hp:(0:Int) < ((q.length+1:Nat):Int):=by omega
   simp only [List.length_cons] at hi hacc;rw [Wz] at hg;by_cases h0:b.toNat=0
   ·have h0':((b.toNat:Int)=0)=True:=eq_true (by omega)
    rw [if_pos h0] at hg;by_cases hq:q=[]
    ·subst hq
     rw [if_pos rfl,Option.map_some,List.append_nil] at hg;rw [hg];simp -implicitDefEqProofs only [bU,Jc,reduceCtorEq,bT,Jd,q4,q5,w0,h0',ho,Ji,show ((1:Nat):Int)=1 from rfl,Jr,rsC,rsV,Js]
     exact ⟨he,o,rfl,hm,hid⟩
    ·rw [if_neg hq,Option.map_none] at hg
     rw [hg];have hq1: ¬ ((q.length+1:Nat):Int)=1:=by have:=List.length_pos_iff.2 hq;omega
     simp -implicitDefEqProofs only [bU,Jc,reduceCtorEq,bT,Jd,q4,q5,hp,w0,h0',hq1,Jr,rsC,rsV,Js];exact ⟨he,.ns,rfl,rfl⟩
   ·have h0': ¬ (b.toNat:Int)=0:=by omega
    rw [if_neg h0] at hg;by_cases h1:63 < b.toNat
    ·rw [dif_pos (.inl h1),Option.map_none] at hg
     rw [hg];have h1':(63:Int) < b.toNat:=by omega
     simp -implicitDefEqProofs only [bU,Jc,reduceCtorEq,bT,Jd,q4,q5,hp,w0,h0',h1',Jr,rsC,rsV,Js];exact ⟨he,.ns,rfl,rfl⟩
    ·have h1': ¬ (63:Int) < b.toNat:=by omega
     have w1:IntKind.i64.wrap ((b.toNat:Int)+1)=((b.toNat+1:Nat):Int):=by rw [w64 (by omega) (by omega)];rfl
     by_cases h2:q.length < b.toNat
     ·rw [dif_pos (.inr h2),Option.map_none] at hg
      rw [hg];have h2':((q.length+1:Nat):Int) < ((b.toNat+1:Nat):Int):=by omega
      simp -implicitDefEqProofs only [bU,Jc,reduceCtorEq,bT,Jd,q4,q5,hp,w0,w1,h0',h1',h2',Jr,rsC,rsV,Js];exact ⟨he,.ns,rfl,rfl⟩
     ·rw [dif_neg (by omega)] at hg
      have h2': ¬ ((q.length+1:Nat):Int) < ((b.toNat+1:Nat):Int):=by omega
      have z1:(1:Int)≤((b.toNat+1:Nat):Int):=by omega
      have z2:(0:Int)≤((b.toNat+1:Nat):Int):=by omega
      have z3:((b.toNat+1:Nat):Int)≤((q.length+1:Nat):Int):=by omega
      have e1:List.take (b.toNat+1-1) q=q.take b.toNat:=by rw [Nat.add_sub_cancel]
      have e2:List.take (q.length+1- (b.toNat+1)) (List.drop b.toNat q)=q.drop b.toNat:=List.take_of_length_le (by simp <;>omega)
      obtain ⟨p1,o',H2,p2,p3,p4,p5,p6,p7,-⟩:=Mn.ap (by':=16) hm (Jg2 (t:=42) (g:=g) (x:=q.take b.toNat) (L:=ZK (JJ [4,5] L) 42) (H:=H')) (by simp <;>omega)
      simp -implicitDefEqProofs only [bU,Jc,reduceCtorEq,Jb,bT,Jd,Jf,q4,q5,hp,w0,w1,h0',h1',h2',z1,z2,z3,Jj,e1,e2,Int.le_refl,List.drop_succ_cons,List.drop_zero,JE,JQ,List.replicate];simp -implicitDefEqProofs only [bU,p1,p2,p3];refine ⟨(q.drop b.toNat).length,by simp <;>omega,q.drop b.toNat,acc++[q.take b.toNat],o',H2,_,_,by simp <;>omega,rfl,rfl,rfl,rfl,by simp <;>omega,?_,he.put hid p5 p6,fun j hj=> ?_,?_⟩
      ·rw [List.map_append];exact p4
      ·rcases p7 j hj with h | h
       ·exact hid j h
       ·have:=he.n;omega
      ·rw [hg,Option.map_map]
       cases Wz (q.drop b.toNat)<;>simp
 ·exact Mn.own (xs:=[]) (by simp) QD
def JcQ (C:Tab) (f:Nat):Prop:= ∀ (s:List UInt8) (H:AH),s.length≤1099511627776→ ∃ v H',C f [.s s] H=some (v,H')∧Jc5 (JB s) H v H'
theorem Jlw {s:List UInt8} {H:AH} (hL:JcQ C QI) (hs:s.length≤1099511627776):Jt C YY [.s s] H fun v H'=>v= .b (JB s).isSome∧Ext H H':=by
 unfold Jt YY;obtain ⟨v,H',k1,k2,k3⟩:=hL s H hs;cases hn:JB s with
 | none=>
  rw [hn] at k3;obtain ⟨o,rfl,ho⟩:=k3;simp -implicitDefEqProofs only [bU,Jc,reduceCtorEq,Ja,Jb,bT,k1,Jr,rsC,rsV,Js];exact ⟨rfl,k2⟩
 | some ls=>
  rw [hn] at k3;obtain ⟨o,rfl,hm,-⟩:=k3;have ho:=hm.sl.out;simp -implicitDefEqProofs only [bU,Jc,reduceCtorEq,Ja,Jb,bT,k1,Jr,rsC,rsV,Js];exact ⟨rfl,k2⟩
end
def sAt:S→List Nat→S
 | s,[]=>s
 | .q a _,0::p=>sAt a p
 | .q _ b,1::p=>sAt b p
 | .b _ s,2::p=>sAt s p
 | .l _ s,2::p=>sAt s p
 | .i _ a _,3::p=>sAt a p
 | .i _ _ b,4::p=>sAt b p
 | s,_::_=>s
def JaX:S→List Nat→S→S
 | _,[],x=>x
 | .q a b,0::p,x=> .q (JaX a p x) b
 | .q a b,1::p,x=> .q a (JaX b p x)
 | .b i s,2::p,x=> .b i (JaX s p x)
 | .l v s,2::p,x=> .l v (JaX s p x)
 | .i c a b,3::p,x=> .i c (JaX a p x) b
 | .i c a b,4::p,x=> .i c a (JaX b p x)
 | s,_::_,_=>s
theorem JaY: ∀ (p:List Nat) (s:S),JaX s p (sAt s p)=s
 | [],s=>by cases s<;>rfl
 | n::p,s=>by
  cases s
  case q a b=>match n with
   | 0=>simp only [sAt,JaX,JaY p]
   | 1=>simp only [sAt,JaX,JaY p]
   | n+2=>simp only [sAt,JaX]
  case b i a=>match n with
   | 2=>simp only [sAt,JaX,JaY p]
   | 0 | 1=>simp only [sAt,JaX]
   | n+3=>simp only [sAt,JaX]
  case l v a=>match n with
   | 2=>simp only [sAt,JaX,JaY p]
   | 0 | 1=>simp only [sAt,JaX]
   | n+3=>simp only [sAt,JaX]
  case i c a b=>match n with
   | 3=>simp only [sAt,JaX,JaY p]
   | 4=>simp only [sAt,JaX,JaY p]
   | 0 | 1 | 2=>simp only [sAt,JaX]
   | n+5=>simp only [sAt,JaX]
  all_goals simp only [sAt,JaX]
theorem Jof (F:Fn) (p:List Nat): ∃ B,B=sAt F.s p∧F.s=JaX F.s p B:=⟨_,rfl,(JaY p F.s).symm⟩
def JfZ:S:=sAt Qp.s [1,1,0,1,2,2,1,0,2,1,0,1]
theorem u8n {f:UInt8} {n:Nat} (h:f≠UInt8.ofNat n) (hn:n < 256): ¬ (f.toNat:Int)=(n:Int):=fun e=>h (UInt8.toNat_inj.1 (by rw [UInt8.toNat_ofNat'];omega))
def JhJ (r:Option (List (UInt8×List UInt8))) (H:AH) (v:AV) (H':AH):Prop:=Ext H H'∧match r with
 | none=> ∃ o,v= .tp [o,.b false]∧o.outs=true
 | some ps=> ∃ o,v= .tp [o,.b true]∧Mn H' 1 o (ps.map fun p=>AV.s p.2)∧ ∀ i,i∈idA o→H.n≤i
def Jgl (C:Tab) (f:Nat):Prop:= ∀ (form d:List UInt8) (H:AH),form.length≤1000→d.length≤1099511627776→ ∃ v H',C f [.s form,.s d] H=some (v,H')∧JhJ (prs form d) H v H'
theorem JrA {p:List UInt8} (h: ∀ j,1≤j→j < p.length→Zc (p.getD j 0)=true):(p.drop 1).all Zc=true:=by
 rw [List.all_eq_true];intro x hx;obtain ⟨i,hi,rfl⟩:=List.getElem_of_mem hx;simp only [List.length_drop] at hi;have:=h (i+1) (by omega) (by omega)
 simpa [List.getD,List.getElem?_eq_getElem (show i+1 < p.length by omega),Nat.add_comm] using this
theorem Jpg {p:List UInt8} {k:Nat} (h1:1≤k) (h2:k < p.length) (h:Zc (p.getD k 0)=false):(p.drop 1).all Zc=false:=by
 rw [←Bool.not_eq_true,List.all_eq_true];intro hh
 have hm:p.getD k 0∈p.drop 1:=by
  obtain ⟨j,rfl⟩: ∃ j,k=j+1:=⟨k-1,by omega⟩
  have e:p.getD (j+1) 0=(p.drop 1)[j]'(by simp;omega):=by
   simp [List.getD,List.getElem?_eq_getElem h2]
  rw [e];exact List.getElem_mem _
 rw [hh _ hm] at h;cases h
section
variable {C:Tab}
theorem blk {f:UInt8} {d:List UInt8} {e:Env} {L:List Lv} {g:Nat} {H:AH} {κ:Jaa} (hN:Jmt C WL) (hT:Jms C XZ) (hA:Jgg C Xo) (hM:Jnj C Y4)
  (q1:look e 1= .s d) (q8:look e 8= .s []) (q19:look e 19= .i .u8 f.toNat) (hd:d.length≤1099511627776)
  (hκ1: ∀ e' L' g' p,(∀ t,t=0∨t=6∨t=7→look e' t=look e t)→look e' 1= .s d→look e' 8= .s p→(part f d=some p∨(p=[]∧part f d=none∧f≠109∧f≠42))→κ .nx e' ⟨L',g',H⟩)
  (hκ2: ∀ e' L' g',look e' 4= .ns→look e' 5= .b false→part f d=none→κ .rt e' ⟨L',g',H⟩):exec C JfZ e ⟨L,g,H⟩ κ:=by
 simp only [JfZ,Qp,sAt];have kN:=fun H=>hN d H hd
 have kT:=fun H=>hT d H hd
 have kM:=fun H=>hM d H hd
 have htl:=JdW d;by_cases f1:f=110
 ·subst f1
  have c0:((110:UInt8).toNat:Int)=110:=rfl;simp -implicitDefEqProofs only [bU,Jc,bT,q1,q19,c0,kN];refine hκ1 _ _ _ (d.take (Jbc d)) (fun t ht=>by rcases ht with rfl | rfl | rfl<;>rfl) q1 rfl ?_
  rw [Z8,if_pos rfl];by_cases h0:Jbc d=0
  ·exact .inr ⟨by rw [h0];rfl,by rw [if_pos h0],by decide,by decide⟩
  ·exact .inl (by rw [if_neg h0])
 have g1:=u8n (n:=110) f1 (by omega)
 by_cases f2:f=98
 ·subst f2
  have c0:((98:UInt8).toNat:Int)=98:=rfl;by_cases h0:d=[]
  ·have h0':(d=[])=True:=eq_true h0
   simp -implicitDefEqProofs only [bU,Jc,bT,q1,q19,c0,Jh,h0'];refine hκ1 _ _ _ [] (fun t ht=>by rcases ht with rfl | rfl | rfl<;>rfl) q1 q8 (.inr ⟨rfl,?_,by decide,by decide⟩)
   rw [Z8,if_neg (by decide),if_pos rfl,if_pos h0]
  ·have hl:=List.length_pos_iff.2 h0
   have hl':(1:Int)≤d.length:=by omega
   simp -implicitDefEqProofs only [bU,Jc,bT,Jd,Jf,q1,q19,c0,Jh,h0,hl'];refine hκ1 _ _ _ (d.take 1) (fun t ht=>by rcases ht with rfl | rfl | rfl<;>rfl) q1 rfl (.inl ?_)
   rw [Z8,if_neg (by decide),if_pos rfl,if_neg h0]
 have g2:=u8n (n:=98) f2 (by omega)
 by_cases f3:f=116
 ·subst f3
  have c0:((116:UInt8).toNat:Int)=116:=rfl;simp -implicitDefEqProofs only [bU,Jc,bT,q1,q19,c0,Jh,kT];refine hκ1 _ _ _ (txt d) (fun t ht=>by rcases ht with rfl | rfl | rfl<;>rfl) q1 rfl ?_
  rw [Z8,if_neg (by decide),if_neg (by decide),if_pos rfl]
  by_cases h0:txt d=[]
  ·exact .inr ⟨h0,by rw [if_pos h0],by decide,by decide⟩
  ·exact .inl (by rw [if_neg h0])
 have g3:=u8n (n:=116) f3 (by omega)
 by_cases f4:f=115
 ·subst f4
  have c0:((115:UInt8).toNat:Int)=115:=rfl;simp -implicitDefEqProofs only [bU,Jc,bT,q19,c0,Jh]
  refine Jl (fun n e' M=> ∃ (p:List UInt8) (L:List Lv) (g:Nat),p.length≤d.length∧n=d.length-p.length∧look e' 0=look e 0∧look e' 6=look e 6∧look e' 7=look e 7∧look e' 1= .s d∧look e' 8= .s p∧M=⟨L,g,H⟩∧JdC d=p++JdC (d.drop p.length)) ?_ (n:=d.length)
   ⟨[],_,_,by simp,by simp,rfl,rfl,rfl,q1,q8,rfl,by simp⟩
  rintro n e1 M ⟨p,L,g,hp,rfl,r0,r6,r7,r1,r8,rfl,hx⟩;have e1':(d.drop p.length).take (d.length-p.length)=d.drop p.length:=List.take_of_length_le (by simp)
  have kT':=fun H=>hT (d.drop p.length) H (by simp;omega)
  have z1:(0:Int)≤p.length:=by omega
  have z2:((p.length:Nat):Int)≤d.length:=by omega
  have hl2:=JdW (d.drop p.length);simp only [List.length_drop] at hl2;by_cases h0:txt (d.drop p.length)=[]
  ·rw [Zl h0,List.append_nil] at hx
   have h0':(txt (d.drop p.length)=[])=True:=eq_true h0;simp -implicitDefEqProofs only [bU,Jc,reduceCtorEq,bT,r0,r6,r7,r1,r8,z1,z2,Jj,e1',kT',h0',Int.le_refl];refine hκ1 _ _ _ p (fun t ht=>by rcases ht with rfl | rfl | rfl<;>rfl) rfl rfl ?_
   ·rw [Z8,if_neg (by decide),if_neg (by decide),if_neg (by decide),if_pos rfl,hx]
    by_cases hp0:p=[]
    ·exact .inr ⟨hp0,by rw [if_pos hp0],by decide,by decide⟩
    ·exact .inl (by rw [if_neg hp0])
  ·have hpos:=List.length_pos_iff.2 h0
   have hcap:p.length+(txt (d.drop p.length)).length≤9223372036854775807:=by omega
   simp -implicitDefEqProofs only [bU,Jc,reduceCtorEq,bT,r0,r6,r7,r1,r8,z1,z2,Jj,e1',kT',h0,hcap,Int.le_refl];refine ⟨d.length- (p++txt (d.drop p.length)).length,by simp;omega,p++txt (d.drop p.length),_,_,by simp;omega,rfl,rfl,rfl,?_⟩
   rw [Ja8 h0,←List.append_assoc,List.drop_drop,←List.length_append] at hx;exact hx
 have g4:=u8n (n:=115) f4 (by omega)
 by_cases f5:f=99
 ·subst f5
  have c0:((99:UInt8).toNat:Int)=99:=rfl
  have hpart:part 99 d=if 2≤(txt d).length∧(txt d).length≤16∧((txt d).drop 1).all Zc=true then some d else none:=by
   rw [Z8,if_neg (by decide),if_neg (by decide),if_neg (by decide),if_neg (by decide),if_pos rfl]
  by_cases h2:((txt d).length:Int) < 2
  ·simp -implicitDefEqProofs only [bU,Jc,bT,q1,q8,q19,c0,Jh,kT,h2]
   exact hκ2 _ _ _ rfl rfl (by rw [hpart,if_neg (by omega)])
  by_cases h16:(16:Int) < ((txt d).length:Int)
  ·simp -implicitDefEqProofs only [bU,Jc,bT,q1,q8,q19,c0,Jh,kT,h2,h16]
   exact hκ2 _ _ _ rfl rfl (by rw [hpart,if_neg (by omega)])
  simp -implicitDefEqProofs only [bU,Jc,bT,q1,q8,q19,c0,Jh,kT,h2,h16]
  refine Jl (fun n e' M=> ∃ (k:Nat) (L:List Lv) (g:Nat),1≤k∧k≤(txt d).length∧n=(txt d).length-k∧look e' 0=look e 0∧look e' 6=look e 6∧look e' 7=look e 7∧look e' 1= .s d∧look e' 8= .s (txt d)∧look e' 9= .i .i64 k∧M=⟨L,g,H⟩∧ ∀ j,1≤j→j < k→Zc ((txt d).getD j 0)=true) ?_ (n:=(txt d).length-1)
   ⟨1,_,_,by omega,by omega,rfl,rfl,rfl,rfl,q1,rfl,rfl,rfl,fun j h1 h2=>by omega⟩
  rintro n e1 M ⟨k,L,g,hk1,hk,rfl,r0,r6,r7,r1,r8,r9,rfl,hall⟩;have z1:(0:Int)≤k:=by omega
  have w1:IntKind.i64.wrap ((k:Int)+1)=((k+1:Nat):Int):=by rw [w64 (by omega) (by omega)];rfl
  have kA:=hA ((txt d).getD k 0);by_cases hlt:(k:Int) < (txt d).length
  ·cases ha:Zc ((txt d).getD k 0) with
   | false=>
    rw [ha] at kA;simp -implicitDefEqProofs only [bU,Jc,reduceCtorEq,bT,r0,r6,r7,r1,r8,r9,z1,hlt,Jj,kA];exact hκ2 _ _ _ rfl rfl (by rw [hpart,if_neg (by rw [Jpg hk1 (by omega) ha];simp)])
   | true=>
    rw [ha] at kA;simp -implicitDefEqProofs only [bU,Jc,reduceCtorEq,bT,r0,r6,r7,r1,r8,r9,z1,hlt,Jj,kA,w1];refine ⟨(txt d).length- (k+1),by omega,k+1,_,_,by omega,by omega,rfl,rfl,rfl,fun j h1 h2=> ?_⟩
    by_cases hj:j=k
    ·rw [hj];exact ha
    ·exact hall j h1 (by omega)
  ·simp -implicitDefEqProofs only [bU,Jc,reduceCtorEq,bT,r0,r6,r7,r1,r8,r9,hlt]
   refine hκ1 _ _ _ d (fun t ht=>by rcases ht with rfl | rfl | rfl<;>rfl) rfl rfl (.inl ?_)
   ·rw [hpart,if_pos ⟨by omega,by omega,JrA fun j h1 h2=>hall j h1 (by omega)⟩]
 have g5:=u8n (n:=99) f5 (by omega)
 by_cases f6:f=109
 ·subst f6
  have c0:((109:UInt8).toNat:Int)=109:=rfl
  have hpart:part 109 d=if YF d (-1) then some d else none:=by
   rw [Z8,if_neg (by decide),if_neg (by decide),if_neg (by decide),if_neg (by decide),if_neg (by decide),if_pos rfl]
  cases hm:YF d (-1) with
  | false=>
   rw [hm] at kM;simp -implicitDefEqProofs only [bU,Jc,bT,q1,q19,c0,Jh,kM];exact hκ2 _ _ _ rfl rfl (by rw [hpart,hm];rfl)
  | true=>
   rw [hm] at kM;simp -implicitDefEqProofs only [bU,Jc,bT,q1,q19,c0,Jh,kM];exact hκ1 _ _ _ d (fun t ht=>by rcases ht with rfl | rfl | rfl<;>rfl) q1 rfl (.inl (by rw [hpart,hm];rfl))
 have g6:=u8n (n:=109) f6 (by omega)
 by_cases f7:f=42
 ·subst f7
  have c0:((42:UInt8).toNat:Int)=42:=rfl;simp -implicitDefEqProofs only [bU,Jc,bT,q1,q19,c0,Jh];exact hκ1 _ _ _ d (fun t ht=>by rcases ht with rfl | rfl | rfl<;>rfl) q1 rfl (.inl rfl)
 have g7:=u8n (n:=42) f7 (by omega)
 simp only [show ((110:Nat):Int)=110 from rfl,show ((98:Nat):Int)=98 from rfl,show ((116:Nat):Int)=116 from rfl,show ((115:Nat):Int)=115 from rfl,show ((99:Nat):Int)=99 from rfl,show ((109:Nat):Int)=109 from rfl,show ((42:Nat):Int)=42 from rfl] at g1 g2 g3 g4 g5 g6 g7
 simp -implicitDefEqProofs only [bU,Jc,bT,q19,g1,g2,g3,g4,g5,g6,g7];exact hκ1 _ _ _ [] (fun t ht=>by rcases ht with rfl | rfl | rfl<;>rfl) q1 q8 (.inr ⟨rfl,by rw [Z8,if_neg f1,if_neg f2,if_neg f3,if_neg f4,if_neg f5,if_neg f6,if_neg f7],f6,f7⟩)
end
section
variable {C:Tab}
theorem Jqg {form d:List UInt8} {H:AH} (hN:Jmt C WL) (hT:Jms C XZ) (hA:Jgg C Xo) (hM:Jnj C Y4) (hf:form.length≤1000) (hd:d.length≤1099511627776):
  Jt C Qp [.s form,.s d] H (JhJ (prs form d) H):=by
 unfold Jt;obtain ⟨B,hB,hs⟩:=Jof Qp [1,1,0,1,2,2,1,0,2,1,0,1];rw [hs];simp only [Qp,JaX];have hB':B=JfZ:=hB;simp -implicitDefEqProofs only [bU,Jc,reduceCtorEq,Ja,bT,JE,JQ,List.replicate]
 refine Jl (fun n e M=> ∃ (i:Nat) (d':List UInt8) (acc:List (UInt8×List UInt8)) (o:AV) (H':AH) (L:List Lv) (g:Nat),i≤form.length∧n=form.length-i∧d'.length≤d.length∧look e 0= .s form∧look e 1= .s d'∧look e 6=o∧look e 7= .i .i64 i∧M=⟨L,g,H'⟩∧acc.length=i∧Mn H' 1 o (acc.map fun p=>AV.s p.2)∧Ext H H'∧(∀ j,j∈idA o→H.n≤j)∧prs form d=(prs (form.drop i) d').map fun q=>acc++q) ?_ (n:=form.length)
  ⟨0,d,[],.sl H.n 0 0,H.new (.arr true 0 1 []),_,_,by omega,by omega,by omega,rfl,rfl,rfl,rfl,rfl,rfl,Mn.own (xs:=[]) (by simp) QD,.new _ _,by simp [idA],by simp⟩
 rintro n e M ⟨i,d',acc,o,H',L,g,hi,rfl,hdl,q0,q1,q6,q7,rfl,hacc,hm,he,hid,hg⟩;have ho:=hm.sl.out;have z1:(0:Int)≤i:=by omega
 by_cases hlt:(i:Int) < form.length
 ·have hil:i < form.length:=by omega
  obtain ⟨f,hff⟩: ∃ f,form.getD i 0=f:=⟨_,rfl⟩;have hdr:form.drop i=f::form.drop (i+1):=by rw [List.drop_eq_getElem_cons hil,←hff];simp [List.getD,hil]
  rw [hdr,prs] at hg;simp -implicitDefEqProofs only [bU,Jc,reduceCtorEq,bT,q0,q1,q6,q7,z1,hlt,Jj,hff];rw [hB'];refine blk (d:=d') (f:=f) hN hT hA hM rfl rfl rfl (by omega) (fun e' L' g' p hk k1 k8 hp=> ?_) (fun e' L' g' k4 k5 hp=> ?_)
  ·have k0:=hk 0 (.inl rfl)
   have k6:=hk 6 (.inr (.inl rfl));have k7:=hk 7 (.inr (.inr rfl));simp only [bU,reduceIte,Jc,reduceCtorEq] at k0 k6 k7;rcases hp with hp | ⟨rfl,hp,hn9,hn2⟩
   ·rw [hp] at hg
    have hpl:=JnS hp;simp only at hg;have w9:IntKind.i64.wrap ((i:Int)+1)=((i+1:Nat):Int):=by rw [w64 (by omega) (by omega)];rfl
    have y1:(0:Int)≤p.length:=by omega
    have y2:(p.length:Int)≤d'.length:=by omega
    have y3:(d'.drop p.length).take (d'.length-p.length)=d'.drop p.length:=List.take_of_length_le (by simp)
    have hz:p=[]→f≠109→f≠42→False:=fun h0 h9 h2=>by
     subst h0;rw [Z8] at hp;by_cases c1:f=110
     ·rw [if_pos c1] at hp
      by_cases c2:Jbc d'=0
      ·rw [if_pos c2] at hp;cases hp
      ·rw [if_neg c2] at hp
       injection hp with hp
       have hh:=congrArg List.length hp;have:=Jc2 d';rw [List.length_take,List.length_nil] at hh;omega
     rw [if_neg c1] at hp;by_cases c2:f=98
     ·rw [if_pos c2] at hp
      cases d'<;>simp at hp
     rw [if_neg c2] at hp;by_cases c3:f=116
     ·rw [if_pos c3] at hp
      by_cases c4:txt d'=[]
      ·rw [if_pos c4] at hp;cases hp
      ·rw [if_neg c4] at hp
       injection hp with hp
       exact c4 hp
     rw [if_neg c3] at hp;by_cases c5:f=115
     ·rw [if_pos c5] at hp
      by_cases c4:JdC d'=[]
      ·rw [if_pos c4] at hp;cases hp
      ·rw [if_neg c4] at hp
       injection hp with hp
       exact c4 hp
     rw [if_neg c5] at hp;by_cases c6:f=99
     ·rw [if_pos c6] at hp
      split at hp
      ·rename_i hh
       injection hp with hp
       rw [hp] at hh;simp [txt] at hh
      ·cases hp
     rw [if_neg c6,if_neg h9,if_neg h2] at hp;cases hp
    obtain ⟨p1,o',H2,p2,p3,p4,p5,p6,p7,-⟩:=Mn.ap (by':=16) hm (Jg2 (t:=98) (g:=g') (x:=p) (L:=ZK L' 98) (H:=H')) (by simp;omega)
    have hfin:(acc++[(f,p)]).length=i+1∧Mn H2 1 o' ((acc++[(f,p)]).map fun p=>AV.s p.2)∧Ext H H2∧(∀ j,j∈idA o'→H.n≤j)∧prs form d=(prs (form.drop (i+1)) (d'.drop p.length)).map fun q=>(acc++[(f,p)])++q:=by
     refine ⟨by simp [hacc],by rw [List.map_append];exact p4,he.put hid p5 p6,fun j hj=> ?_,?_⟩
     ·rcases p7 j hj with h | h
      ·exact hid j h
      ·have:=he.n;omega
     ·rw [hg,Option.map_map]
      cases prs (form.drop (i+1)) (d'.drop p.length)<;>simp
    by_cases hp0:p=[]
    ·subst hp0
     have hp0':(([]:List UInt8)=[])=True:=eq_self _;have y4:((0:Nat):Int)≤((0:Nat):Int):=Int.le_refl _;have y5:(0:Int)≤((0:Nat):Int):=Int.le_refl _;have y6:((0:Nat):Int)≤(d'.length:Int):=by omega
     have y7:d'.take d'.length=d':=List.take_length;by_cases h9:f=109
     ·subst h9
      have c0:((109:UInt8).toNat:Int)=109:=rfl;simp -implicitDefEqProofs only [bU,Jc,reduceCtorEq,Jb,bT,k0,k1,k6,k7,k8,z1,hlt,Jj,hff,c0,w9,Int.le_refl,JE,JQ,List.replicate];simp -implicitDefEqProofs only [bU,p1,p2,p3,y5,y6,y7];exact ⟨form.length- (i+1),by omega,i+1,d',_,o',H2,_,_,by omega,rfl,hdl,rfl,rfl,rfl,rfl,hfin⟩
     ·have g9:=u8n (n:=109) h9 (by omega)
      have h2:f=42:=Classical.byContradiction fun h2=>hz rfl h9 h2
      subst h2;have c0:((42:UInt8).toNat:Int)=42:=rfl;simp -implicitDefEqProofs only [bU,Jc,reduceCtorEq,Jb,bT,k0,k1,k6,k7,k8,z1,hlt,Jj,hff,c0,Jh,w9,Int.le_refl,JE,JQ,List.replicate];simp -implicitDefEqProofs only [bU,p1,p2,p3,y5,y6,y7];exact ⟨form.length- (i+1),by omega,i+1,d',_,o',H2,_,_,by omega,rfl,hdl,rfl,rfl,rfl,rfl,hfin⟩
    ·simp -implicitDefEqProofs only [bU,Jc,reduceCtorEq,Jb,bT,k0,k1,k6,k7,k8,hp0,w9,JE,JQ,List.replicate]
     simp -implicitDefEqProofs only [bU,p1,p2,p3,y1,y2,y3,Jj];exact ⟨form.length- (i+1),by omega,i+1,d'.drop p.length,_,o',H2,_,_,by omega,rfl,by simp;omega,rfl,rfl,rfl,rfl,hfin⟩
   ·rw [hp] at hg
    simp only [Option.map_none] at hg;rw [hg];have g9:=u8n (n:=109) hn9 (by omega)
    have g2:=u8n (n:=42) hn2 (by omega)
    simp only [show ((109:Nat):Int)=109 from rfl,show ((42:Nat):Int)=42 from rfl] at g9 g2
    have hp0':(([]:List UInt8)=[])=True:=eq_self _;simp -implicitDefEqProofs only [bU,Jc,reduceCtorEq,bT,k0,k7,k8,z1,hlt,Jj,hff,g9,g2,Jr,rsC,rsV,Js];exact ⟨he,.ns,rfl,rfl⟩
  ·rw [hp] at hg
   simp only [Option.map_none] at hg;rw [hg];simp -implicitDefEqProofs only [bU,k4,k5,Jr,rsC,rsV,Js];exact ⟨he,.ns,rfl,rfl⟩
 ·have hil:i=form.length:=by omega
  rw [hil,List.drop_length,prs] at hg;by_cases h0:d'=[]
  ·rw [if_pos h0,Option.map_some,List.append_nil] at hg
   rw [hg];have h0':(d'=[])=True:=eq_true h0;simp -implicitDefEqProofs only [bU,Jc,reduceCtorEq,bT,q0,q1,q6,q7,hlt,ho,h0',Jr,rsC,rsV,Js];exact ⟨he,o,rfl,hm,hid⟩
  ·rw [if_neg h0,Option.map_none] at hg
   rw [hg];simp -implicitDefEqProofs only [bU,Jc,reduceCtorEq,bT,q0,q1,q6,q7,hlt,ho,h0,Jr,rsC,rsV,Js];exact ⟨he,o,rfl,ho⟩
theorem Jg7 (t:Int):(JU t).length≤1000:=by
 unfold JU;repeat' split
 all_goals decide
theorem JnI {t:Int} {d:List UInt8} {H:AH} (hF:JiI C X4) (hP:Jgl C XC) (hd:d.length≤1099511627776):Jt C WI [.i .i64 t,.s d] H fun v H'=>v= .i .i64 (chk t d)∧Ext H H':=by
 unfold Jt WI;by_cases h1:t < 0
 ·rw [chk,if_pos (.inl h1)]
  simp -implicitDefEqProofs only [bU,Jc,reduceCtorEq,Ja,bT,h1,Jr,rsC,rsV,Js];exact .refl _
 by_cases h2:65535 < t
 ·rw [chk,if_pos (.inr h2)]
  simp -implicitDefEqProofs only [bU,Jc,reduceCtorEq,Ja,bT,h1,h2,Jr,rsC,rsV,Js];exact .refl _
 rw [chk,if_neg (by omega)]
 by_cases h3:(65535:Int) < d.length
 ·rw [if_pos (.inl (by omega))]
  simp -implicitDefEqProofs only [bU,Jc,reduceCtorEq,Ja,bT,h1,h2,h3,Jr,rsC,rsV,Js];exact .refl _
 have k1:=hF t;obtain ⟨v,H',k2,k3,k4⟩:=hP (JU t) d H (Jg7 t) hd;cases hp:prs (JU t) d with
 | none=>
  rw [if_pos (.inr rfl)];rw [hp] at k4;obtain ⟨o,rfl,ho⟩:=k4;simp -implicitDefEqProofs only [bU,Jc,reduceCtorEq,Ja,Jb,bT,h1,h2,h3,k1,k2,Jr,rsC,rsV,Js];exact k3
 | some ps=>
  rw [if_neg (by simp;omega)]
  rw [hp] at k4;obtain ⟨o,rfl,hm,-⟩:=k4;have ho:=hm.sl.out;simp -implicitDefEqProofs only [bU,Jc,reduceCtorEq,Ja,Jb,bT,h1,h2,h3,k1,k2,Jr,rsC,rsV,Js];exact k3
end
def JtZ:List Nat→List Nat→Bool
 | [],_=>true
 | t::r,l=>JdN l t&&JtZ r l
theorem Jjs: ∀ {a b:List Nat},JtZ a b=true→ ∀ t,t∈a→JdN b t=true
 | [],_,_,t,h=>by cases h
 | m::r,b,h,t,ht=>by
  simp only [JtZ,Bool.and_eq_true] at h;rcases List.mem_cons.1 ht with rfl | ht
  ·exact h.1
  ·exact Jjs h.2 t ht
theorem JaK {a b:List Nat} (h:JtZ a b=true): ∀ L:List Lv,JJ a (JJ b L)=JJ a L
 | []=>rfl
 | v::r=>by
  simp only [JJ];by_cases hb:JdN b v.t=true
  ·rw [if_pos hb]
   simp only [JJ,JaK h r]
  ·rw [if_neg hb,JaK h r]
   have: ¬ JdN a v.t=true:=fun ha=>hb (Jjs h _ (Jg0.1 ha))
   rw [if_neg this]
theorem JeH {a:List Nat} {t:Nat} (h:JdN a t=false): ∀ L:List Lv,JJ a (ZK L t)=JJ a L
 | []=>rfl
 | v::r=>by
  simp only [ZK];by_cases hb:v.t=t
  ·rw [if_pos hb,JeH h r]
   simp only [JJ,hb,h];rfl
  ·rw [if_neg hb]
   simp only [JJ,JeH h r]
theorem Jn9 {a:List Nat} {t g k:Nat} {xs:List AV} (h:JdN a t=false) (L:List Lv):JJ a (⟨t,g,k,xs⟩::L)=JJ a L:=by
 simp only [JJ,h];rfl
theorem JwP {l:List UInt8} {i:Nat} (hi:i < l.length) (h:(l.getD i 0).toNat < 128):Utf8.decode ⟨l.toArray⟩ i=((l.getD i 0).toNat,1):=by
 have e:(ByteArray.mk l.toArray).get! (i+0)=l.getD i 0:=by
  rw [Nat.add_zero];show l.toArray[i]! =_
  simp [List.getD,List.getElem?_eq_getElem hi]
 unfold Utf8.decode;simp only [e];rw [if_pos h]
def YI (t:Int):Option (List UInt8):=if t=1 then some [52] else if t=2∨t=5∨t=12∨t=39 then some [110] else if t=6 then some [110,110,103,103,103,103,113] else if t=13 then some [116,116] else if t=15 then some [50,110] else if t=16 then some [84] else
 if t=28 then some [103,103,103,103] else if t=33 then some [50,50,50,110] else if t=35 then some [50,50,116,116,116,110] else if t=47 then some [110,109] else if t=257 then some [49,99,42] else none
theorem JjF (t:Int):Qf Jau (.i .i64 t)=(YI t).map AV.s:=by
 have h: ∀ (a:Int) (s:List UInt8) (r:List (AV×AV)),Qf ((.i .i64 a,.s s)::r) (.i .i64 t)=if t=a then some (.s s) else Qf r (.i .i64 t):=fun a s r=>by
  simp only [Qf,AV.cells,JW,ZF,Bool.and_true,decide_eq_true_eq]
 have h0:Qf [] (.i .i64 t)=none:=rfl;simp only [Jau,JfA,List.map_cons,List.map_nil,h,h0,YI];by_cases h1:t=1<;>by_cases h2:t=2<;>by_cases h5:t=5<;>by_cases h6:t=6<;>by_cases h12:t=12<;>by_cases h39:t=39<;>first | (exfalso;omega) | skip
 all_goals simp only [h1,h2,h5,h6,h12,h39,if_true,if_false,Jh,or_true,or_false,Option.map_some]
 by_cases h13:t=13
 ·simp [h13]
 by_cases h15:t=15
 ·simp [h15]
 by_cases h16:t=16
 ·simp [h16]
 by_cases h28:t=28
 ·simp [h28]
 by_cases h33:t=33
 ·simp [h33]
 by_cases h35:t=35
 ·simp [h35]
 by_cases h47:t=47
 ·simp [h47]
 by_cases h257:t=257
 ·simp [h257]
 simp [h13,h15,h16,h28,h33,h35,h47,h257]
def tGo (s:List UInt8):Nat:=match s with
 | []=>0
 | c::r=>1+c.toNat+tGo (r.drop c.toNat)
termination_by s.length
decreasing_by simp;omega
theorem JoN: ∀ (n:Nat) (s:List UInt8),s.length≤n→s.length≤tGo s
 | n,[],_=>by simp
 | 0,_::_,h=>by simp at h
 | n+1,c::r,h=>by
  rw [tGo];simp only [List.length_cons] at h ⊢;have:=JoN n (r.drop c.toNat) (by simp;omega)
  simp only [List.length_drop] at this;omega
theorem Ji5: ∀ (n:Nat) (s:List UInt8),s.length≤n→(tGo s≤s.length↔JdC s=s)
 | n,[],_=>by simp [tGo,Zl (s:=[]) rfl]
 | 0,_::_,h=>by simp at h
 | n+1,c::r,h=>by
  rw [tGo];simp only [List.length_cons] at h ⊢;by_cases hc:r.length < c.toNat
  ·have e:txt (c::r)=[]:=by simp only [txt];rw [if_pos hc]
   rw [Zl e];constructor
   ·intro;omega
   ·intro h;cases h
  ·have e:txt (c::r)=c::r.take c.toNat:=by simp only [txt];rw [if_neg hc]
   have ih:=Ji5 n (r.drop c.toNat) (by simp;omega)
   rw [Ja8 (by rw [e];simp),e]
   have hl:(c::r.take c.toNat).length=c.toNat+1:=by simp;omega
   rw [hl,List.drop_succ_cons];simp only [List.length_drop] at ih;constructor
   ·intro hh
    rw [ih.1 (by omega)]
    simp
   ·intro hh
    have:JdC (r.drop c.toNat)=r.drop c.toNat:=by
     simp only [List.cons_append,List.cons.injEq,true_and] at hh;have h2:=hh.trans (List.take_append_drop c.toNat r).symm;exact List.append_cancel_left h2
    have:=ih.2 this;omega
def Jgf (f:UInt8) (r:List UInt8):Option Nat:=
 if f=49 then some 1 else if f=50 then some 2 else if f=52∨f=103∨f=113 then some 4
 else if f=110 then (if Jbc r=0 then none else some (Jbc r))
 else if f=116 then (if r=[] then none else some ((r.getD 0 0).toNat+1))
 else if f=99 then (if r=[]∨(r.getD 0 0).toNat+1 < 2∨16 < (r.getD 0 0).toNat+1∨r.length < (r.getD 0 0).toNat+1∨(((r.drop 1).take (r.getD 0 0).toNat).all Zc)=false then none else some ((r.getD 0 0).toNat+1))
 else if f=84 then (if tGo r=0 then none else some (tGo r))
 else if f=109 then (if YF r (-1) then some r.length else none)
 else if f=42 then some r.length else none
def Je6:List UInt8→List UInt8→Nat→Option (List (Nat×Nat))
 | [],d,_=>if d=[] then some [] else none
 | f::fs,d,at'=>match Jgf f d with
  | none=>none
  | some n=>if d.length < n then none else (Je6 fs (d.drop n) (at'+n)).map fun q=>if f=110 then (at',at'+n)::q else q
def spans:List (UInt8×List UInt8)→Nat→List (Nat×Nat)
 | [],_=>[]
 | (f,p)::r,at'=>if f=110 then (at',at'+p.length)::spans r (at'+p.length) else spans r (at'+p.length)
theorem JuQ {fs d:List UInt8}:prs (98::fs) d=if d=[] then none else (prs fs (d.drop 1)).map fun r=>(98,d.take 1)::r:=by
 have e:part 98 d=if d=[] then none else some (d.take 1):=rfl
 rw [prs,e];by_cases h:d=[]
 ·rw [if_pos h,if_pos h]
 ·rw [if_neg h,if_neg h]
  have:=List.length_pos_iff.2 h;simp only [List.length_take,Nat.min_eq_left this]
theorem Jom (fs:List UInt8): ∀ (k:Nat) (d:List UInt8) (at':Nat),(prs (List.replicate k 98++fs) d).map (fun r=>spans r at')=if d.length < k then none else (prs fs (d.drop k)).map fun r=>spans r (at'+k)
 | 0,d,at'=>by simp
 | k+1,d,at'=>by
  rw [List.replicate_succ,List.cons_append,JuQ];by_cases h:d=[]
  ·subst h;simp
  ·have hl:=List.length_pos_iff.2 h
   rw [if_neg h,Option.map_map]
   have e:((fun r=>spans r at') ∘fun r=>((98:UInt8),d.take 1)::r)=fun r=>spans r (at'+1):=by
    funext r
    simp only [Function.comp,spans];rw [if_neg (by decide)]
    simp only [List.length_take,Nat.min_eq_left hl]
   rw [e,Jom fs k,List.length_drop,List.drop_drop,Nat.add_comm 1 k,show at'+1+k=at'+(k+1) by omega]
   by_cases h2:d.length < k+1
   ·rw [if_pos (by omega),if_pos h2]
   ·rw [if_neg (by omega),if_neg h2]
def Same (p q:List UInt8):Prop:= ∀ d at',Je6 p d at'=(prs q d).map fun r=>spans r at'
theorem Jae:Same [] []:=fun d at'=>by
 simp only [Je6,prs];by_cases h:d=[]<;>simp [h,spans]
theorem JhL {p q:List UInt8} (h:Same p q) {f:UInt8} {k:Nat} (hf:f≠110) (hk: ∀ d,Jgf f d=some k):Same (f::p) (List.replicate k 98++q):=fun d at'=>by
 rw [Jom,Je6,hk];simp only [if_neg hf];by_cases h2:d.length < k
 ·rw [if_pos h2,if_pos h2]
 ·rw [if_neg h2,if_neg h2,h,Option.map_map]
  rfl
theorem Jei {p q:List UInt8} (h:Same p q):Same (110::p) (110::q):=fun d at'=>by
 have e1:Jgf 110 d=if Jbc d=0 then none else some (Jbc d):=rfl
 have e2:part 110 d=if Jbc d=0 then none else some (d.take (Jbc d)):=rfl
 rw [Je6,prs,e1,e2];have hl:=Jc2 d;by_cases h0:Jbc d=0
 ·simp [h0]
 ·simp only [if_neg h0,List.length_take,Nat.min_eq_left hl]
  rw [if_neg (by omega),h,Option.map_map,Option.map_map]
  congr 1
  funext r
  simp [spans,Nat.min_eq_left hl]
theorem JhC {p q:List UInt8} (h:Same p q):Same (116::p) (116::q):=fun d at'=>by
 have e1:Jgf 116 d=if d=[] then none else some ((d.getD 0 0).toNat+1):=rfl
 have e2:part 116 d=if txt d=[] then none else some (txt d):=rfl
 rw [Je6,prs,e1,e2];cases d with
 | nil=>simp [txt]
 | cons c r=>
  simp only [List.getD_cons_zero,txt];by_cases hc:r.length < c.toNat
  ·simp [hc]
  ·have hl:(c::r.take c.toNat).length=c.toNat+1:=by simp;omega
   simp only [if_neg hc];rw [if_neg (by simp),if_neg (by simp)]
   simp only [hl,List.length_cons];rw [if_neg (by omega),h,Option.map_map,Option.map_map]
   congr 1
   funext x
   simp only [Function.comp,spans,hl,if_neg (show (116:UInt8) ≠110 by decide)]
theorem Jrs:Same [84] [115]:=fun d at'=>by
 have e1:Jgf 84 d=if tGo d=0 then none else some (tGo d):=rfl
 have e2:part 115 d=if JdC d=[] then none else some (JdC d):=rfl
 rw [Je6,prs,e1,e2];have g1:=Ji5 _ d (Nat.le_refl _);have g2:=JoN _ d (Nat.le_refl _);have g3:=JgE _ d (Nat.le_refl _);cases d with
 | nil=>simp [tGo,Zl (s:=[]) rfl]
 | cons c r=>
  have hpos:tGo (c::r) ≠0:=by simp only [List.length_cons] at g2;omega
  simp only [if_neg hpos];by_cases h:tGo (c::r)≤(c::r).length
  ·have e:=g1.1 h
   have e':tGo (c::r)=(c::r).length:=by omega
   rw [e,e'];simp [Je6,prs,spans]
  ·rw [if_pos (by omega)]
   have hne:JdC (c::r) ≠c::r:=fun e=>h (g1.2 e)
   by_cases h0:JdC (c::r)=[]
   ·simp [h0]
   ·simp only [if_neg h0]
    rw [prs,if_neg]
    ·rfl
    ·intro hd
     have hl:(JdC (c::r)).length=(c::r).length:=by
      have:=congrArg List.length hd;simp only [List.length_drop,List.length_nil] at this;omega
     have hp: ∀ (n:Nat) (s:List UInt8),s.length≤n→ ∃ q,s=JdC s++q:=fun n=>by
      induction n with
      | zero=>
       intro s hs;have e0:s=[]:=List.eq_nil_of_length_eq_zero (by omega)
       subst e0;exact ⟨[],by rw [Zl rfl];rfl⟩
      | succ n ih=>
       intro s hs;by_cases ht:txt s=[]
       ·exact ⟨s,by rw [Zl ht];rfl⟩
       ·have h1:=List.length_pos_iff.2 ht
        obtain ⟨q,hq⟩:=ih (s.drop (txt s).length) (by simp;omega)
        refine ⟨q,?_⟩
        rw [Ja8 ht,List.append_assoc,←hq]
        have:s.take (txt s).length=txt s:=by
         cases s with
         | nil=>rfl
         | cons c r=>
          simp only [txt];split
          ·rfl
          ·simp <;>omega
        conv=>lhs;rw [←List.take_append_drop (txt s).length s,this]
     obtain ⟨q,hq⟩:=hp _ (c::r) (Nat.le_refl _)
     have:q=[]:=by
      have h3:=congrArg List.length hq;simp only [List.length_append] at h3;exact List.eq_nil_of_length_eq_zero (by omega)
     rw [this,List.append_nil] at hq;exact hne hq.symm
theorem Jsk:Same [109] [109]:=fun d at'=>by
 have e1:Jgf 109 d=if YF d (-1) then some d.length else none:=rfl
 have e2:part 109 d=if YF d (-1) then some d else none:=rfl
 rw [Je6,prs,e1,e2];cases YF d (-1)<;>simp [Je6,prs,spans]
theorem JsP:Same [99,42] [99]:=fun d at'=>by
 have e1:Jgf 99 d=if d=[]∨(d.getD 0 0).toNat+1 < 2∨16 < (d.getD 0 0).toNat+1∨d.length < (d.getD 0 0).toNat+1∨(((d.drop 1).take (d.getD 0 0).toNat).all Zc)=false then none else some ((d.getD 0 0).toNat+1):=rfl
 have e2:part 99 d=if 2≤(txt d).length∧(txt d).length≤16∧((txt d).drop 1).all Zc=true then some d else none:=rfl
 have e3: ∀ x,Jgf 42 x=some x.length:=fun x=>rfl
 rw [Je6,prs,e1,e2]
 have key:(d=[]∨(d.getD 0 0).toNat+1 < 2∨16 < (d.getD 0 0).toNat+1∨d.length < (d.getD 0 0).toNat+1∨(((d.drop 1).take (d.getD 0 0).toNat).all Zc)=false)↔ ¬ (2≤(txt d).length∧(txt d).length≤16∧((txt d).drop 1).all Zc=true):=by
  cases d with
  | nil=>simp [txt]
  | cons c r=>
   simp only [List.getD_cons_zero,txt,List.drop_succ_cons,List.drop_zero,List.length_cons];by_cases hc:r.length < c.toNat
   ·simp [hc]
   ·simp only [if_neg hc,List.length_cons,List.length_take,Nat.min_eq_left (show c.toNat≤r.length by omega),List.drop_succ_cons,List.drop_zero]
    cases (r.take c.toNat).all Zc
    ·simp
    ·simp
     omega
 by_cases h:2≤(txt d).length∧(txt d).length≤16∧((txt d).drop 1).all Zc=true
 ·have h':=(fun hh=>key.1 hh h: ¬ (d=[]∨(d.getD 0 0).toNat+1 < 2∨16 < (d.getD 0 0).toNat+1∨d.length < (d.getD 0 0).toNat+1∨(((d.drop 1).take (d.getD 0 0).toNat).all Zc)=false))
  rw [if_neg h',if_pos h];simp only [Je6,e3];rw [if_neg (fun hh=>h' (.inr (.inr (.inr (.inl hh)))))]
  simp [prs,spans];omega
 ·rw [if_pos (key.2 h),if_neg h]
  rfl
theorem Jlm:Same [42] [42]:=fun d at'=>by
 have e1:Jgf 42 d=some d.length:=rfl;have e2:part 42 d=some d:=rfl;rw [Je6,prs,e1,e2];simp [Je6,prs,spans]
theorem Jk2 {t:Int} {p:List UInt8} (h:YI t=some p):Same p (JU t):=by
 have s1: ∀ {p q:List UInt8},Same p q→Same (49::p) (98::q):=fun h=>JhL h (f:=49) (k:=1) (by decide) fun _=>rfl
 have s2: ∀ {p q:List UInt8},Same p q→Same (50::p) (98::98::q):=fun h=>JhL h (f:=50) (k:=2) (by decide) fun _=>rfl
 have s4: ∀ {p q:List UInt8},Same p q→Same (52::p) (98::98::98::98::q):=fun h=>JhL h (f:=52) (k:=4) (by decide) fun _=>rfl
 have sg: ∀ {p q:List UInt8},Same p q→Same (103::p) (98::98::98::98::q):=fun h=>JhL h (f:=103) (k:=4) (by decide) fun _=>rfl
 have sq: ∀ {p q:List UInt8},Same p q→Same (113::p) (98::98::98::98::q):=fun h=>JhL h (f:=113) (k:=4) (by decide) fun _=>rfl
 unfold YI at h;unfold JU;by_cases h1:t=1
 ·rw [if_pos h1] at h ⊢;cases h;exact s4 Jae
 rw [if_neg h1] at h ⊢;by_cases h2:t=2∨t=5∨t=12∨t=39
 ·rw [if_pos h2] at h ⊢;cases h;exact Jei Jae
 rw [if_neg h2] at h ⊢;by_cases h6:t=6
 ·rw [if_pos h6] at h ⊢;cases h;exact Jei (Jei (sg (sg (sg (sg (sq Jae))))))
 rw [if_neg h6] at h ⊢;by_cases h13:t=13
 ·rw [if_pos h13] at h ⊢;cases h;exact JhC (JhC Jae)
 rw [if_neg h13] at h ⊢;by_cases h15:t=15
 ·rw [if_pos h15] at h ⊢;cases h;exact s2 (Jei Jae)
 rw [if_neg h15] at h ⊢;by_cases h16:t=16
 ·rw [if_pos h16] at h ⊢;cases h;exact Jrs
 rw [if_neg h16] at h ⊢;by_cases h28:t=28
 ·rw [if_pos h28] at h ⊢;cases h;exact sg (sg (sg (sg Jae)))
 rw [if_neg h28] at h ⊢;by_cases h33:t=33
 ·rw [if_pos h33] at h ⊢;cases h;exact s2 (s2 (s2 (Jei Jae)))
 rw [if_neg h33] at h ⊢;by_cases h35:t=35
 ·rw [if_pos h35] at h ⊢;cases h;exact s2 (s2 (JhC (JhC (JhC (Jei Jae)))))
 rw [if_neg h35] at h ⊢;by_cases h47:t=47
 ·rw [if_pos h47] at h ⊢;cases h;exact Jei Jsk
 rw [if_neg h47] at h ⊢;by_cases h257:t=257
 ·rw [if_pos h257] at h ⊢;cases h;exact s1 JsP
 rw [if_neg h257] at h;cases h
theorem JsG {t:Int} (h:YI t=none):JU t=[42]:=by
 unfold YI at h;unfold JU;repeat' split at h
 all_goals first | (cases h;done) | skip
 simp only [*,if_false]
def Jjm (t:Int) (d:List UInt8):Option (List (Nat×Nat)):=(prs (JU t) d).map fun r=>spans r 0
theorem Jl7 {t:Int} {d:List UInt8} (h:YI t=none):Jjm t d=some []:=by
 unfold Jjm;rw [JsG h,←Jlm];simp [Je6,Jgf]
theorem JlQ {t:Int} {d p:List UInt8} (h:YI t=some p):Jjm t d=Je6 p d 0:=(Jk2 h d 0).symm
theorem JkD (t:Int) (d:List UInt8):chk t d=if t < 0∨65535 < t then 6 else if 65535 < d.length∨(Jjm t d).isNone then 7 else 0:=by
 unfold chk Jjm;rw [Option.isNone_map]
structure Fst (P:Program) (ρ:Rn) (H:AH) (w:World):Prop where
 heap:J7 ρ H w
 own: ∀ b,ρ.own b= .no
 glob:JeK ρ P.globals.size
section
variable {P:Program} {w:World}
def Rn.addP (ρ:Rn) (id:Nat) (p:Pl):Rn:={ρ with pl:=fun i=>if i=id then [p] else ρ.pl i}
theorem Fst.row {ρ:Rn} {H:AH} (h:Fst P ρ H w) {b o z:Nat} {c:Array Value} {ty:TypeId} {fz:Nat×Nat} {xs:List AV} (hb:w.heap[b]? =some (.cells c ty fz)) (hz: ∀ x,x∈xs→x.cells.length=z) (hc:o+xs.length*z≤c.size)
  (hxs:JO (VA ρ) (flat xs) ((c.toList.drop o).take (xs.length*z))):
  Fst P (ρ.addP H.n ⟨b,o,z,0,xs.length,c.size⟩) (H.new (.arr false 0 z xs)) w∧ρ.Le (ρ.addP H.n ⟨b,o,z,0,xs.length,c.size⟩):=by
 have hnil:=(h.heap.fr H.n (Nat.le_refl _)).1
 have hle:ρ.Le (ρ.addP H.n ⟨b,o,z,0,xs.length,c.size⟩):=⟨fun i q hq=>⟨q,by
  simp only [Rn.addP];by_cases e:i=H.n
  ·rw [e,hnil] at hq;cases hq
  ·rwa [if_neg e],rfl,rfl,rfl,rfl,rfl,Nat.le_refl _⟩,fun _ _ h=>h⟩
 refine ⟨⟨⟨fun i hi=> ?_,fun i hi=> ?_,h.heap.bnd,fun b' i hb'=>absurd ((h.own b').symm.trans hb') (by simp)⟩,h.own,fun g hg=> ?_⟩,hle⟩
 ·by_cases e:i=H.n
  ·subst e
   rw [QD];refine ⟨hz,⟨b,o,z,0,xs.length,c.size⟩,[],⟨by simp [Rn.addP],rfl,Nat.zero_le _,rfl,⟨c,ty,fz,hb,rfl,fun h=>Bool.noConfusion h,by simpa using hc,?_⟩,fun q hq=> ?_,fun _=>⟨rfl,rfl⟩,fun q hq=>(by cases hq),fun x hx=>(hxs.ex x hx).imp fun _=>VA.mono hle⟩⟩
   ·simp only [told,List.take_length,List.drop_zero,Nat.sub_zero]
    exact hxs.mono fun _ _=>VA.mono hle
   ·simp only [List.mem_singleton] at hq
    subst hq;exact ⟨(Array.getElem?_eq_some_iff.1 hb).1,h.own b⟩
  ·have hlt:i < H.n:=by simp at hi;omega
   rw [Jgu hlt];exact (h.heap.rep i hlt).of hle (by simp [Rn.addP,e]) (Nat.le_refl _) fun _ _ _=>⟨rfl,rfl⟩
 ·have hi':H.n+1≤i:=hi
  simp only [Rn.addP];rw [if_neg (by omega)]
  exact h.heap.fr i (by omega)
 ·obtain ⟨p,p1,p2,p3,p4⟩:=h.glob g hg
  obtain ⟨p',k1,k2,k3,k4,k5,-⟩:=hle.pl g p p1;exact ⟨p',k1,k2.trans p2,k3.trans p3,k5.trans p4⟩
theorem Stp.below {ρ ρ':Rn} {H:AH} {w':World} (h:Stp ρ w ρ' w') (hf:Fst P ρ H w):RowKit.Below w.heap.size w w':=⟨h.os,h.tape,h.out,h.sz,fun k hk=>h.frame k hk (.inl (hf.own k))⟩
variable {H:Type} {enc:TypeId×Value→H}
theorem trodAll_stays (hl:laidOutB P=true) {W W':World} (hb:RowKit.Below W.heap.size W W') {sp:Nat→Bool}: ∀ {ts:List TypeId} {vs:List Value} {ds:List (DataW H)} {ps:List MemPlace},(∀ t,t∈ts→P.readableRec t=true∧t < P.types.size)→
  DataW.TrodAll enc P W 0 (fun _=>true) true ts vs ds ps→(∀ p,p∈ps→p.block < W.heap.size)→(∀ p,p∈ps→sp p.block=true)→DataW.TrodAll enc P W' 0 sp true ts vs ds ps
 | [],[],[],_,_,h,_,_=>h
 | t::ts,v::vs,d::ds,ps,hr,h,hlt,hsp=>by
  obtain ⟨p,q,h1,h2,rfl⟩:=h;obtain ⟨r1,r2⟩:=hr t (by simp)
  exact ⟨p,q,WideElems.Trod_stays hl r1 r2 h1 (fun x hx=>hb.same (hlt x (List.mem_append_left _ hx))) (fun x hx=>hsp x (List.mem_append_left _ hx)),
   trodAll_stays hl hb (fun t ht=>hr t (by simp [ht])) h2 (fun x hx=>hlt x (List.mem_append_right _ hx)) (fun x hx=>hsp x (List.mem_append_right _ hx)),rfl⟩
 | [],_::_,_,_,_,h,_,_=>h.elim
 | [],[],_::_,_,_,h,_,_=>h.elim
 | _::_,[],_,_,_,h,_,_=>h.elim
 | _::_,_::_,[],_,_,h,_,_=>h.elim
open Go.ChangeShapes in
theorem post_below {f:Func} {s:ChangeSpec} {apart fresh handsOn again:Bool} {W W':World} {args:Array Value} {v:Value} {ds gs:List (DataW H)} {before pa pv:List MemPlace}
  (hW:DataW.Whole enc P f.params.toList s.vars apart W args.toList ds gs before)
  (hres: ∀ (b:Nat) (sp:Nat→Bool) (hd:Bool),DataW.TrodAll enc P W' b sp hd f.resultTypes.toList (v.resultList f.resultTypes.size) (s.fn H (ds++gs)).results [])
  (hargs: ∀ sp:Nat→Bool,(∀ p∈before,sp p.block=true)→DataW.TrodAll enc P W' 0 sp true f.params.toList args.toList (s.fn H (ds++gs)).args pa)
  (hvars: ∀ sp:Nat→Bool,(∀ p∈before,sp p.block=true)→DataW.TrodVars enc P W' sp s.vars (s.fn H (ds++gs)).vars pv)
  (hps:before=pa++pv) (hb:RowKit.Below W.heap.size W W')
  (hok: ∀ (j:Nat) (t:TypeId) (r:Value),f.resultTypes[j]? =some t→(v.resultList f.resultTypes.size)[j]? =some r→Value.okWide P W' .any 0 t r):
  s.post enc P f apart fresh handsOn again W args v W':=by
 have hlt:=hW.lt;have hold: ∀ p∈before,(fun b=>decide (b < W.heap.size)) p.block=true:=fun p hp=>by simpa using hlt p hp
 refine ⟨ds,gs,before,[],pa,pv,hW,hres _ _ _,hargs _ hold,hvars _ hold,World.keptBut_mono (fun p hp=>⟨hp,?_⟩) (hb.frame (·∈before)),fun _=> ?_⟩
 ·rw [hps,List.mem_append] at hp
  exact Or.inr hp
 ·obtain ⟨_,_,_,_,_,hz,hn⟩:=hW
  refine ⟨hok,_,_,([]++pa)++pv,⟨[]++pa,pv,trodAll_append (hargs _ (fun _ _=>rfl)) (hres _ _ _),hvars _ (fun _ _=>rfl),rfl,?_,?_⟩,?_⟩
  ·intro b off hp
   have hp':MemPlace.cell b off∈before:=by rw [hps];simpa using hp
   rw [hb.frozen (p:=⟨b,off,none⟩) (hlt _ hp')];exact hz b off hp'
  ·intro ha
   have:=hn ha;rw [hps] at this;simpa using this
  ·intro p hp _
   rw [hps];simpa using hp
end
def lkF:List (Nat×Fn)→Nat→Option Fn
 | [],_=>none
 | p::r,n=>if p.1=n then some p.2 else lkF r n
def Jow (P:Program):List (Nat×Fn)→Prop
 | []=>True
 | p::r=>Qi P p.2 p.1=true∧Jow P r
theorem Jow.lk {P:Program} {n:Nat} {F:Fn}: ∀ {l:List (Nat×Fn)},Jow P l→lkF l n=some F→Qi P F n=true
 | [],_,h=>by cases h
 | p::r,⟨h1,h2⟩,h=>by
  unfold lkF at h;split at h
  ·rename_i e
   cases h;subst e;exact h1
  ·exact Jow.lk h2 h
section
variable {H:Type} {enc:TypeId×Value→H} {P:Program} {w:World}
theorem Jn7 {b o n:Nat} {vals:List Value} {c:Array Value} {ty:TypeId} {fz:Nat×Nat} (hb:w.heap[b]? =some (.cells c ty fz)) (h:w.cells? 0 ⟨b,o,none⟩ n=some vals) (hn:0 < n):vals=(c.toList.drop o).take n∧o+n≤c.size:=by
 obtain ⟨-,h1,h2⟩:=World.cells?_some h
 have hs:o+n≤c.size:=by
  have h3:=h2 (n-1) (by omega)
  rw [Jba,JdO hb,List.getElem?_eq_getElem (by omega)] at h3
  have:=(Array.getElem?_eq_some_iff.1 h3).1;omega
 refine ⟨List.ext_getElem? fun i=> ?_,hs⟩
 by_cases hi:i < n
 ·have h3:=h2 i hi
  rw [Jba,JdO hb] at h3;rw [←h3,List.getElem?_take,if_pos hi,List.getElem?_drop];simp
 ·rw [List.getElem?_eq_none (by omega),List.getElem?_eq_none (by simp;omega)]
end
section
variable {P:Program} {w:World}
def rn1 (cs:Nat→Nat) (G:Nat):Rn:=⟨fun i=>if i < G then [⟨i,0,1,0,0,cs i⟩] else [],fun _=>none,fun _=> .no,fun _ _=>none⟩
theorem Fst.first1 (cs:Nat→Nat):Fst P (rn1 cs P.globals.size) ⟨P.globals.size,fun _=> .no⟩ w:=
 ⟨⟨fun _ _=>trivial,fun i hi=>⟨by simp only [rn1];rw [if_neg (by simpa using hi)],rfl⟩,fun _ _=>rfl,fun _ _ h=>by cases h⟩,fun _=>rfl,
  fun g hg=>⟨⟨g,0,1,0,0,cs g⟩,by simp only [rn1];rw [if_pos hg];simp,rfl,rfl,rfl⟩⟩
def Rn.addO (ρ:Rn) (id b:Nat):Rn:={ρ with ob:=fun i=>if i=id then some b else ρ.ob i}
theorem Fst.map {ρ:Rn} {H:AH} (h:Fst P ρ H w) {b:Nat} {ents:Array MapEntry} {clk:Nat} {es:List (AV×AV)} (hb:w.heap[b]? =some (.map ents clk)) (hes:JO (JhU ρ) es ents.toList):
  Fst P (ρ.addO H.n b) (H.new (.map false es)) w∧ρ.Le (ρ.addO H.n b):=by
 have hnil:=(h.heap.fr H.n (Nat.le_refl _)).2
 have hle:ρ.Le (ρ.addO H.n b):=⟨fun i q hq=>⟨q,hq,rfl,rfl,rfl,rfl,rfl,Nat.le_refl _⟩,fun i b' hb'=>by
  simp only [Rn.addO];by_cases e:i=H.n
  ·rw [e,hnil] at hb';cases hb'
  ·rwa [if_neg e]⟩
 refine ⟨⟨⟨fun i hi=> ?_,fun i hi=> ?_,h.heap.bnd,fun b' i hb'=>absurd ((h.own b').symm.trans hb') (by simp)⟩,h.own,fun g hg=> ?_⟩,hle⟩
 ·by_cases e:i=H.n
  ·subst e
   rw [QD];exact ⟨b,by simp [Rn.addO],h.own b,ents,clk,hb,hes.mono fun _ _=>JhU.mono hle,fun h=>by cases h⟩
  ·have hlt:i < H.n:=by simp at hi;omega
   rw [Jgu hlt];exact (h.heap.rep i hlt).of hle rfl (Nat.le_refl _) fun _ _ _=>⟨rfl,rfl⟩
 ·have hi':H.n+1≤i:=hi
  have:=h.heap.fr i (by omega)
  refine ⟨this.1,?_⟩
  simp only [Rn.addO];rw [if_neg (by omega)]
  exact this.2
 ·exact h.glob g hg
theorem Fst.glob1 {ρ:Rn} {H:AH} (h:Fst P ρ H w) {g:Nat} {c:Array Value} {ty:TypeId} {fz:Nat×Nat} {x:AV} {v:Value} (hg:g < H.n) (hpl:ρ.pl g=[⟨g,0,1,0,0,c.size⟩]) (hb:w.heap[g]? =some (.cells c ty fz)) (hc:c.toList=[v]) (hx:VA ρ x v):
  Fst P (ρ.addP g ⟨g,0,1,0,1,c.size⟩) (H.set g (.arr false 0 1 [x])) w∧ρ.Le (ρ.addP g ⟨g,0,1,0,1,c.size⟩):=by
 have hsz:c.size=1:=by rw [←Array.length_toList,hc];rfl
 have hle:ρ.Le (ρ.addP g ⟨g,0,1,0,1,c.size⟩):=⟨fun i q hq=>by
  by_cases e:i=g
  ·rw [e,hpl,List.mem_singleton] at hq
   subst hq;exact ⟨⟨g,0,1,0,1,c.size⟩,by simp [Rn.addP,e],rfl,rfl,rfl,rfl,rfl,Nat.zero_le _⟩
  ·exact ⟨q,by simp only [Rn.addP];rwa [if_neg e],rfl,rfl,rfl,rfl,rfl,Nat.le_refl _⟩,fun _ _ h=>h⟩
 have hcx:=hx.one.2.2;refine ⟨⟨⟨fun i hi=> ?_,fun i hi=> ?_,h.heap.bnd,fun b' i hb'=>absurd ((h.own b').symm.trans hb') (by simp)⟩,h.own,fun g hg=> ?_⟩,hle⟩
 ·by_cases e:i=g
  ·subst e
   rw [Z9];have hfl:flat [x]=[x]:=by simp [flat,hcx]
   refine ⟨fun y hy=> ?_,⟨i,0,1,0,1,c.size⟩,[],⟨by simp [Rn.addP],rfl,Nat.zero_le _,rfl,⟨c,ty,fz,hb,rfl,fun h=>Bool.noConfusion h,by simp [hsz],?_⟩,fun q hq=> ?_,fun _=>⟨rfl,rfl⟩,fun q hq=>(by cases hq),fun y hy=> ?_⟩⟩
   ·rw [List.mem_singleton] at hy
    rw [hy,hcx];rfl
   ·simp only [told,List.take_succ_cons,List.take_zero,List.drop_zero,hfl,hc]
    exact ⟨hx.mono hle,trivial⟩
   ·simp only [List.mem_singleton] at hq
    subst hq;exact ⟨(Array.getElem?_eq_some_iff.1 hb).1,h.own i⟩
   ·rw [hfl,List.mem_singleton] at hy
    subst hy;exact ⟨v,hx.mono hle⟩
  ·rw [XQ e]
   exact (h.heap.rep i hi).of hle (by simp [Rn.addP,e]) (Nat.le_refl _) fun _ _ _=>⟨rfl,rfl⟩
 ·have:=h.heap.fr i hi
  simp only [Rn.addP];have hne:i≠g:=by have:H.n≤i:=hi;omega
  rw [if_neg hne];exact this
 ·obtain ⟨p,p1,p2,p3,p4⟩:=h.glob g hg
  obtain ⟨p',k1,k2,k3,k4,k5,-⟩:=hle.pl g p p1;exact ⟨p',k1,k2.trans p2,k3.trans p3,k5.trans p4⟩
theorem JbV {es:List (AV×AV)} {k v:AV}:Qf es k=some v→ ∃ e,e∈es∧JW k.cells e.1.cells=true∧e.2=v:=by
 induction es with
 | nil=>intro h;cases h
 | cons e r ih=>
  intro h;simp only [Qf] at h;split at h
  ·rename_i hk
   exact ⟨e,by simp,hk,Option.some.inj h⟩
  ·obtain ⟨e',h1,h2⟩:=ih h
   exact ⟨e',by simp [h1],h2⟩
theorem JdY {es:List (AV×AV)} {k:AV}:Qf es k=none→ ∀ e,e∈es→JW k.cells e.1.cells=false:=by
 induction es with
 | nil=>intro _ e he;cases he
 | cons e r ih=>
  intro h e' he';simp only [Qf] at h;split at h
  ·cases h
  ·rename_i hk
   rcases List.mem_cons.1 he' with e1 | e1
   ·rw [e1];simpa using hk
   ·exact ih h e' e1
theorem Jh8 {es fs:List (AV×AV)} {k:AV} (h1: ∀ e,e∈es→e∈fs) (h2: ∀ e,e∈fs→e∈es) (hf: ∀ e e',e∈fs→e'∈fs→JW k.cells e.1.cells=true→JW k.cells e'.1.cells=true→e.2=e'.2):Qf es k=Qf fs k:=by
 cases he:Qf es k with
 | none=>
  cases hf':Qf fs k with
  | none=>rfl
  | some v=>
   obtain ⟨e,g1,g2,-⟩:=JbV hf';have:=JdY he e (h2 e g1);rw [g2] at this;cases this
 | some v=>
  obtain ⟨e,g1,g2,g3⟩:=JbV he;cases hf':Qf fs k with
  | none=>
   have:=JdY hf' e (h1 e g1);rw [g2] at this;cases this
  | some v'=>
   obtain ⟨e',k1,k2,k3⟩:=JbV hf';rw [←g3,←k3,hf e e' (h1 e g1) k1 g2 k2]
end
def hd0:Hd:=⟨0,false,0,false,false,false,false,false,false,false,0⟩
def JaL:Fn:=⟨1,[(.t 2)],
  .q (.o [.mv 2 (.c (.i .i64 0))])
  (.q (.p [⟨.ld 3 (.g 0) (some 0),[],true⟩,
   ⟨.mv 4 (.t 0),[],false⟩,
   ⟨.ss 5 (.t 4) none (some (.c (.i .i64 4))),[],false⟩,
   ⟨.csb 6 (.t 5),[0],false⟩,
   ⟨.cl (some 7) 247 [(.t 3),(.t 6)],[],false⟩,
   ⟨.ci 8 .i64 (.t 7),[],false⟩,
   ⟨.mv 2 (.t 8),[],false⟩])
  (.r))⟩
abbrev Jbn:Nat:=173
theorem Jj1:Qi Go.Proofs.Tryz.prog JaL 173=true:=by kernel_rfl
def JV:Fn:=⟨2,[(.t 4)],
  .q (.o [.lbx 2 (.t 0),
   .mv 4 (.c (.i .u32 0))])
  (.q (.o [.mv 5 (.t 1),
   .ia 6 (.t 5) (.c (.i .i64 3)) 1,
   .ld 7 (.t 6) none])
  (.q (.p [⟨.mv 8 (.t 1),[],false⟩,
   ⟨.ia 9 (.t 8) (.c (.i .i64 3)) 1,[],false⟩,
   ⟨.ld 10 (.t 9) none,[],false⟩,
   ⟨.ci 11 .u32 (.t 10),[],false⟩,
   ⟨.mv 12 (.t 1),[],false⟩,
   ⟨.ia 13 (.t 12) (.c (.i .i64 2)) 1,[],false⟩,
   ⟨.ld 14 (.t 13) none,[],false⟩,
   ⟨.ci 15 .u32 (.t 14),[],false⟩,
   ⟨.bn 16 .shl (.t 15) (.c (.i .u64 8)),[],false⟩,
   ⟨.bn 17 .or (.t 11) (.t 16),[],false⟩,
   ⟨.mv 18 (.t 1),[],false⟩,
   ⟨.ia 19 (.t 18) (.c (.i .i64 1)) 1,[],false⟩,
   ⟨.ld 20 (.t 19) none,[],false⟩,
   ⟨.ci 21 .u32 (.t 20),[],false⟩,
   ⟨.bn 22 .shl (.t 21) (.c (.i .u64 16)),[],false⟩,
   ⟨.bn 23 .or (.t 17) (.t 22),[],false⟩,
   ⟨.mv 24 (.t 1),[],false⟩,
   ⟨.ia 25 (.t 24) (.c (.i .i64 0)) 1,[],false⟩,
   ⟨.ld 26 (.t 25) none,[],false⟩,
   ⟨.ci 27 .u32 (.t 26),[],false⟩,
   ⟨.bn 28 .shl (.t 27) (.c (.i .u64 24)),[],false⟩,
   ⟨.bn 29 .or (.t 23) (.t 28),[],false⟩,
   ⟨.mv 4 (.t 29),[],false⟩])
  (.r)))⟩
abbrev Ql:Nat:=247
theorem JaB:Qi Go.Proofs.Tryz.prog JV 247=true:=by kernel_rfl
theorem Jl1 {x y k:Nat} (hy:y < 2 ^ k) (h:x*2 ^ k+y < 4294967296):Jqk .or .u32 (y:Int) ((x*2 ^ k:Nat):Int)=((x*2 ^ k+y:Nat):Int):=by
 have e2:y||| x*2 ^ k=x*2 ^ k+y:=by
  have:=Nat.two_pow_add_eq_or_of_lt (i:=k) (b:=y) hy x;rw [Nat.mul_comm,Nat.or_comm];exact this.symm
 unfold Jqk;simp only;rw [show IntKind.u32.bits=32 from rfl,BitVec.ofInt_natCast,BitVec.ofInt_natCast,BitVec.toNat_or,BitVec.toNat_ofNat,BitVec.toNat_ofNat,Nat.mod_eq_of_lt (by omega),Nat.mod_eq_of_lt (by omega),e2,IntKind.wrap_u32]
 omega
theorem JvO {a b c d:UInt8}:num [a,b,c,d] 0=((a.toNat*256+b.toNat)*256+c.toNat)*256+d.toNat:=by simp [num]
theorem be4 (a b c d:Nat):a*2 ^ 24+(b*2 ^ 16+(c*2 ^ 8+d))=((a*256+b)*256+c)*256+d:=by omega
def Jgv (C:Tab) (f:Nat):Prop:= ∀ (x a:AV) (l:List UInt8) (H:AH),x.outs=true→Byt H a l→l.length=4→C f [x,a] H=some (.i .u32 (num l 0:Nat),H)
def JpO (C:Tab) (f:Nat):Prop:= ∀ (d:List UInt8) (H:AH),4≤d.length→ ∃ v H',C f [.s d] H=some (v,H')∧v= .i .i64 (num (d.take 4) 0:Nat)∧Ext H H'
section
variable {C:Tab}
theorem Jod {x a:AV} {l:List UInt8} {H:AH} (hx:x.outs=true) (h:Byt H a l) (hl:l.length=4):Jt C JV [x,a] H fun v H'=>H'=H∧v= .i .u32 (num l 0:Nat):=by
 unfold Jt JV
 obtain ⟨b0,b1,b2,b3,rfl⟩: ∃ b0 b1 b2 b3,l=[b0,b1,b2,b3]:=by
  match l,hl with
  | [b0,b1,b2,b3],_=>exact ⟨b0,b1,b2,b3,rfl⟩
 have oo:=h.out;have i3:=fun (L:List Lv) (g:Nat)=>h.ia (j:=3) (by omega) (by simp) L g
 have i2:=fun (L:List Lv) (g:Nat)=>h.ia (j:=2) (by omega) (by simp) L g
 have i1:=fun (L:List Lv) (g:Nat)=>h.ia (j:=1) (by omega) (by simp) L g
 have i0:=fun (L:List Lv) (g:Nat)=>h.ia (j:=0) (by omega) (by simp) L g
 simp only [List.getD_cons_succ,List.getD_cons_zero,Jd] at i3 i2 i1 i0;obtain ⟨z1,z3,-⟩:=i3 [] 0;obtain ⟨-,z2,-⟩:=i2 [] 0;obtain ⟨-,zb,-⟩:=i1 [] 0;obtain ⟨-,za,-⟩:=i0 [] 0;have l0:=b0.toNat_lt;have l1:=b1.toNat_lt;have l2:=b2.toNat_lt;have l3:=b3.toNat_lt;have w0:IntKind.u32.wrap (b0.toNat:Int)=b0.toNat:=by rw [IntKind.wrap_u32];omega
 have w1:IntKind.u32.wrap (b1.toNat:Int)=b1.toNat:=by rw [IntKind.wrap_u32];omega
 have w2:IntKind.u32.wrap (b2.toNat:Int)=b2.toNat:=by rw [IntKind.wrap_u32];omega
 have w3:IntKind.u32.wrap (b3.toNat:Int)=b3.toNat:=by rw [IntKind.wrap_u32];omega
 have v2:IntKind.u32.wrap ((b2.toNat:Int)*2 ^ (min 8 IntKind.u32.bits))=((b2.toNat*2 ^ 8:Nat):Int):=by rw [IntKind.wrap_u32,show (2:Int) ^ (min 8 IntKind.u32.bits)=256 from by decide];omega
 have v1:IntKind.u32.wrap ((b1.toNat:Int)*2 ^ (min 16 IntKind.u32.bits))=((b1.toNat*2 ^ 16:Nat):Int):=by rw [IntKind.wrap_u32,show (2:Int) ^ (min 16 IntKind.u32.bits)=65536 from by decide];omega
 have v0:IntKind.u32.wrap ((b0.toNat:Int)*2 ^ (min 24 IntKind.u32.bits))=((b0.toNat*2 ^ 24:Nat):Int):=by rw [IntKind.wrap_u32,show (2:Int) ^ (min 24 IntKind.u32.bits)=16777216 from by decide];omega
 have o2:=Jl1 (x:=b2.toNat) (y:=b3.toNat) (k:=8) (by omega) (by omega)
 have o1:=Jl1 (x:=b1.toNat) (y:=b2.toNat*2 ^ 8+b3.toNat) (k:=16) (by omega) (by omega)
 have o0:=Jl1 (x:=b0.toNat) (y:=b1.toNat*2 ^ 16+(b2.toNat*2 ^ 8+b3.toNat)) (k:=24) (by omega) (by omega)
 simp -implicitDefEqProofs only [bU,Jc,reduceCtorEq,Ja,bT,Jd,Jf,bV,Ja,hx,z1,z2,z3,za,zb,i3,i2,i1,i0,w0,w1,w2,w3,v0,v1,v2,o2,o1,o0,Jr,rsC,rsV,Js];rw [JvO];rw [be4]
theorem Juj {d:List UInt8} {H:AH} (hU:Jgv C Ql) (hd:4≤d.length):Jt C JaL [.s d] H fun v H'=>v= .i .i64 (num (d.take 4) 0:Nat)∧Ext H H':=by
 unfold Jt JaL;have h4:(4:Int)≤d.length:=by omega
 have hb:Byt (H.new (.arr true 0 1 (XR (d.take 4)))) (.sl H.n 0 (d.take 4).length) (d.take 4):=by have:=Mb.new2 (H:=H) (l:=d.take 4) rfl;exact this.sl
 have hk:=hU (.ag []) (.sl H.n 0 (d.take 4).length) (d.take 4) _ rfl hb (by simp;omega)
 obtain ⟨a,b,c,e,hl⟩: ∃ a b c e,d.take 4=[a,b,c,e]:=by
  match d,hd with
  | a::b::c::e::r,_=>exact ⟨a,b,c,e,rfl⟩
 have hn:num (d.take 4) 0 < 4294967296:=by
  rw [hl,JvO];have l0:=a.toNat_lt;have l1:=b.toNat_lt;have l2:=c.toNat_lt;have l3:=e.toNat_lt;omega
 have w:IntKind.i64.wrap ((num (d.take 4) 0:Nat):Int)=(num (d.take 4) 0:Nat):=w64 (by omega) (by omega)
 simp -implicitDefEqProofs only [bU,Jc,reduceCtorEq,Ja,bT,Jd,Jf,Qs,J6,Jpe,Jpn,h4,Jd,hk,w,Jr,rsC,rsV,Js];exact .new _ _
end
def Jlx (base:Nat) (b:UInt8) (j:Nat):List Nat:=if b.toNat / 2 ^ (7-j) % 2=1 then [base+j] else []
def Jcj (base:Nat) (b:UInt8) (n:Nat):List Nat:=(List.range n).flatMap (Jlx base b)
def Jf8 (w:Nat) (r:List UInt8) (n:Nat):List Nat:=(List.range n).flatMap fun k=>Jcj (256*w+8*k) (r.getD k 0) 8
def Jfb (s:List UInt8):List Nat:=match s with
 | []=>[]
 | [_]=>[]
 | w::n::r=>Jf8 w.toNat r n.toNat++Jfb (r.drop n.toNat)
termination_by s.length
decreasing_by simp;omega
theorem JbX (base:Nat) (b:UInt8) (n:Nat):Jcj base b (n+1)=Jcj base b n++Jlx base b n:=by simp [Jcj,List.range_succ]
theorem JfK (w:Nat) (r:List UInt8) (n:Nat):Jf8 w r (n+1)=Jf8 w r n++Jcj (256*w+8*n) (r.getD n 0) 8:=by simp [Jf8,List.range_succ]
theorem JcN (base:Nat) (b:UInt8): ∀ n,(Jcj base b n).length≤n
 | 0=>by simp [Jcj]
 | n+1=>by
  have:=JcN base b n;rw [JbX,List.length_append];unfold Jlx;split<;>simp <;>omega
theorem Jhd (w:Nat) (r:List UInt8): ∀ n,(Jf8 w r n).length≤8*n
 | 0=>by simp [Jf8]
 | n+1=>by
  have:=Jhd w r n;have:=JcN (256*w+8*n) (r.getD n 0) 8;rw [JfK,List.length_append];omega
theorem Jn4 {s:List UInt8} (h:2≤s.length):Jfb s=Jf8 (s.getD 0 0).toNat (s.drop 2) (s.getD 1 0).toNat++Jfb (s.drop ((s.getD 1 0).toNat+2)):=by
 match s,h with
 | w::n::r,_=>
  rw [Jfb];rfl
abbrev ints (l:List Nat):List AV:=l.map fun (n:Nat)=>AV.i .i64 (n:Int)
def Jkr (s:List UInt8) (H:AH) (v:AV) (H':AH):Prop:=Ext H H'∧if YF s (-1) then ∃ o,v= .tp [o,.i .i64 0]∧Mn H' 1 o (ints (Jfb s))∧ ∀ i,i∈idA o→H.n≤i else v= .tp [.ns,.i .i64 7]
def Jbw (C:Tab) (f:Nat):Prop:= ∀ (s:List UInt8) (H:AH),s.length≤1099511627776→ ∃ v H',C f [.s s] H=some (v,H')∧Jkr s H v H'
theorem Jmu {t g:Nat} {x:Int} {L:List Lv} {H:AH}:QE ⟨⟨t,g,0,[.i .i64 x]⟩::L,g+1,H⟩ (.ll t g 1 1)=[AV.i .i64 x]∧Je7 ⟨⟨t,g,0,[.i .i64 x]⟩::L,g+1,H⟩ 1 (.ll t g 1 1):=Je0
theorem Jrq {n:Nat} (h:n < 256):Jqk .and .u8 (n:Int) 1=((n % 2:Nat):Int):=by
 unfold Jqk;simp only;rw [show IntKind.u8.bits=8 from rfl,show (1:Int)=((1:Nat):Int) from rfl,BitVec.ofInt_natCast,BitVec.ofInt_natCast,BitVec.toNat_and,BitVec.toNat_ofNat,BitVec.toNat_ofNat,Nat.mod_eq_of_lt (by omega),Nat.mod_eq_of_lt (by omega),Nat.and_one_is_mod,IntKind.wrap_u8]
 omega
section
variable {C:Tab}
set_option maxHeartbeats 1000000 in
theorem JjU {s:List UInt8} {H:AH} (hs:s.length≤1099511627776):Jt C Xg [.s s] H (Jkr s H):=by
 unfold Jt Xg;simp -implicitDefEqProofs only [bU]
 refine Jl (fun n e M=> ∃ (i:Nat) (last:Int) (acc:List Nat) (o:AV) (H':AH) (L:List Lv) (g:Nat),i≤s.length∧n=s.length-i∧look e 0= .s s∧look e 4=o∧look e 5= .i .i64 last∧look e 6= .i .i64 i∧M=⟨L,g,H'⟩∧acc.length≤8*i∧Mn H' 1 o (ints acc)∧Ext H H'∧(∀ j,j∈idA o→H.n≤j)∧YF s (-1)=YF (s.drop i) last∧(Jfb s=acc++Jfb (s.drop i))) ?_ (n:=s.length)
  ⟨0,-1,[],.ns,H,_,_,by omega,by omega,rfl,rfl,rfl,rfl,rfl,by simp,.nil,.refl _,by simp [idA],rfl,rfl⟩
 rintro n e M ⟨i,last,acc,o,H',L,g,hi,rfl,q0,q4,q5,q6,rfl,hacc,hm,he,hid,hok,hts⟩;have ho:=hm.sl.out;by_cases hlt:(i:Int) < s.length
 ·have w2:IntKind.i64.wrap ((i:Int)+2)=((i+2:Nat):Int):=by rw [w64 (by omega) (by omega)];rfl
  by_cases h2:(s.length:Int) < ((i+2:Nat):Int)
  ·have hf:YF (s.drop i) last=false:=by
    rw [JeX (by rw [List.length_drop];omega)]
    exact decide_eq_false fun h=>by
     have:=congrArg List.length h;simp at this;omega
   rw [hf] at hok;simp -implicitDefEqProofs only [bU,Jc,reduceCtorEq,bT,q0,q4,q5,q6,hlt,w2,h2,Jr,rsC,rsV,Js];exact ⟨he,by simp [hok]⟩
  ·have hl2:2≤(s.drop i).length:=by simp;omega
   rw [JiZ hl2] at hok;rw [Jn4 hl2] at hts;have p0:(0:Int)≤i:=by omega
   have p1:(0:Int)≤((i+1:Nat):Int):=by omega
   have p2:((i+1:Nat):Int) < s.length:=by omega
   have w1:IntKind.i64.wrap ((i:Int)+1)=((i+1:Nat):Int):=by rw [w64 (by omega) (by omega)];rfl
   simp only [getD_drop,Nat.add_zero,List.length_drop,List.drop_drop] at hok hts;obtain ⟨w,hw⟩: ∃ w,s.getD i 0=w:=⟨_,rfl⟩;obtain ⟨n,hn⟩: ∃ n,s.getD (i+1) 0=n:=⟨_,rfl⟩;simp only [hw,hn] at hok hts;have hwb:=w.toNat_lt;have hnb:=n.toNat_lt;have ww:=Jkm w;have wn:=Jkm n;by_cases a1:(w.toNat:Int)≤last
   ·rw [if_pos (.inl a1)] at hok
    simp -implicitDefEqProofs only [bU,Jc,reduceCtorEq,Ja,bT,q0,q4,q5,q6,hlt,w1,w2,h2,p0,p1,p2,Jj,hw,hn,ww,wn,a1,Jr,rsC,rsV,Js];exact ⟨he,by simp [hok]⟩
   by_cases a2:(n.toNat:Int) < 1
   ·rw [if_pos (.inr (.inl (by omega)))] at hok
    simp -implicitDefEqProofs only [bU,Jc,reduceCtorEq,Ja,bT,q0,q4,q5,q6,hlt,w1,w2,h2,p0,p1,p2,Jj,hw,hn,ww,wn,a1,a2,Jr,rsC,rsV,Js];exact ⟨he,by simp [hok]⟩
   by_cases a3:(32:Int) < (n.toNat:Int)
   ·rw [if_pos (.inr (.inr (.inl (by omega))))] at hok
    simp -implicitDefEqProofs only [bU,Jc,reduceCtorEq,Ja,bT,q0,q4,q5,q6,hlt,w1,w2,h2,p0,p1,p2,Jj,hw,hn,ww,wn,a1,a2,a3,Jr,rsC,rsV,Js];exact ⟨he,by simp [hok]⟩
   have w3:IntKind.i64.wrap (((i+2:Nat):Int)+(n.toNat:Int))=((i+2+n.toNat:Nat):Int):=by rw [w64 (by omega) (by omega)];omega
   by_cases a4:(s.length:Int) < ((i+2+n.toNat:Nat):Int)
   ·rw [if_pos (.inr (.inr (.inr (.inl (by omega)))))] at hok
    simp -implicitDefEqProofs only [bU,Jc,reduceCtorEq,Ja,bT,q0,q4,q5,q6,hlt,w1,w2,w3,h2,p0,p1,p2,Jj,hw,hn,ww,wn,a1,a2,a3,a4,Jr,rsC,rsV,Js];exact ⟨he,by simp [hok]⟩
   have w4:IntKind.i64.wrap (((i+1:Nat):Int)+(n.toNat:Int))=((i+1+n.toNat:Nat):Int):=by rw [w64 (by omega) (by omega)];omega
   have p3:(0:Int)≤((i+1+n.toNat:Nat):Int):=by omega
   have p4:((i+1+n.toNat:Nat):Int) < s.length:=by omega
   rw [show i+(n.toNat+1)=i+1+n.toNat by omega] at hok
   by_cases a5:(((s.getD (i+1+n.toNat) 0).toNat:Nat):Int)=0
   ·rw [if_pos (.inr (.inr (.inr (.inr (by omega)))))] at hok
    have a5':=eq_true a5;simp -implicitDefEqProofs only [bU,Jc,reduceCtorEq,Ja,bT,q0,q4,q5,q6,hlt,w1,w2,w3,w4,h2,p0,p1,p2,p3,p4,Jj,hw,hn,ww,wn,a1,a2,a3,a4,a5',Jr,rsC,rsV,Js];exact ⟨he,by simp [hok]⟩
   rw [if_neg (by omega),show i+(n.toNat+2)=i+2+n.toNat by omega] at hok
   rw [show i+(n.toNat+2)=i+2+n.toNat by omega] at hts
   simp -implicitDefEqProofs only [bU,Jc,reduceCtorEq,Ja,bT,q0,q4,q5,q6,hlt,w1,w2,w3,w4,h2,p0,p1,p2,p3,p4,Jj,hw,hn,ww,wn,a1,a2,a3,a4,a5]
   refine Jl (fun m e M=> ∃ (k:Nat) (acc':List Nat) (o:AV) (H':AH) (L:List Lv) (g:Nat),k≤n.toNat∧m=n.toNat-k∧look e 0= .s s∧look e 4=o∧look e 5= .i .i64 w.toNat∧look e 6= .i .i64 i∧look e 7= .i .i64 w.toNat∧look e 8= .i .i64 n.toNat∧look e 9= .i .i64 k∧M=⟨L,g,H'⟩∧acc'=acc++Jf8 w.toNat (s.drop (i+2)) k∧Mn H' 1 o (ints acc')∧Ext H H'∧(∀ j,j∈idA o→H.n≤j)) ?_ (n:=n.toNat)
    ⟨0,acc,o,H',_,_,by omega,by omega,rfl,rfl,rfl,rfl,rfl,rfl,rfl,rfl,by simp [Jf8],hm,he,hid⟩
   clear hm he hid ho q0 q4 q5 q6;rintro m e M ⟨k,acc',o,H',L,g,hk,rfl,q0,q4,q5,q6,q7,q8,q9,rfl,hac,hm,he,hid⟩;have hwl:=Jhd w.toNat (s.drop (i+2)) k;by_cases hkn:(k:Int) < n.toNat
   ·simp -implicitDefEqProofs only [bU,Jc,reduceCtorEq,bT,q0,q4,q5,q6,q7,q8,q9,hkn]
    refine Jl (fun m e M=> ∃ (j:Nat) (o:AV) (H':AH) (L:List Lv) (g:Nat),j≤8∧m=8-j∧look e 0= .s s∧look e 4=o∧look e 5= .i .i64 w.toNat∧look e 6= .i .i64 i∧look e 7= .i .i64 w.toNat∧look e 8= .i .i64 n.toNat∧look e 9= .i .i64 k∧look e 10= .i .i64 j∧M=⟨L,g,H'⟩∧Mn H' 1 o (ints (acc'++Jcj (256*w.toNat+8*k) (s.getD (i+2+k) 0) j))∧Ext H H'∧(∀ j,j∈idA o→H.n≤j)) ?_ (n:=8)
     ⟨0,o,H',_,_,by omega,by omega,rfl,rfl,rfl,rfl,rfl,rfl,rfl,rfl,rfl,by simpa [Jcj] using hm,he,hid⟩
    clear hm he hid q0 q4 q5 q6 q7 q8 q9;rintro m e M ⟨j,o,H',L,g,hj,rfl,q0,q4,q5,q6,q7,q8,q9,q10,rfl,hm,he,hid⟩;have hbl:=JcN (256*w.toNat+8*k) (s.getD (i+2+k) 0) j;by_cases hj8:(j:Int) < 8
    ·have u1:IntKind.i64.wrap (((i+2:Nat):Int)+(k:Int))=((i+2+k:Nat):Int):=by rw [w64 (by omega) (by omega)];omega
     have u2:(0:Int)≤((i+2+k:Nat):Int):=by omega
     have u3:((i+2+k:Nat):Int) < s.length:=by omega
     have u4:IntKind.i64.wrap (7- (j:Int))=((7-j:Nat):Int):=by rw [w64 (by omega) (by omega)];omega
     have u5:(0:Int)≤((7-j:Nat):Int):=by omega
     have hb:=(s.getD (i+2+k) 0).toNat_lt
     have u6:((s.getD (i+2+k) 0).toNat:Int).fdiv (2 ^ (min (7-j) IntKind.u8.bits))=(((s.getD (i+2+k) 0).toNat / 2 ^ (7-j):Nat):Int):=by
      rw [show IntKind.u8.bits=8 from rfl,Nat.min_eq_left (by omega)]
      exact JmW _ _
     have hdl:(s.getD (i+2+k) 0).toNat / 2 ^ (7-j)≤(s.getD (i+2+k) 0).toNat:=Nat.div_le_self _ _;have u7:=Jrq (n:=(s.getD (i+2+k) 0).toNat / 2 ^ (7-j)) (by omega)
     have u8:IntKind.i64.wrap ((j:Int)+1)=((j+1:Nat):Int):=by rw [w64 (by omega) (by omega)];rfl
     by_cases hbit:(((s.getD (i+2+k) 0).toNat / 2 ^ (7-j) % 2:Nat):Int)=1
     ·have hbit':=eq_true hbit
      have v1:IntKind.i64.wrap (256*(w.toNat:Int))=((256*w.toNat:Nat):Int):=by rw [w64 (by omega) (by omega)];omega
      have v2:IntKind.i64.wrap (8*(k:Int))=((8*k:Nat):Int):=by rw [w64 (by omega) (by omega)];omega
      have v3:IntKind.i64.wrap (((256*w.toNat:Nat):Int)+((8*k:Nat):Int))=((256*w.toNat+8*k:Nat):Int):=by rw [w64 (by omega) (by omega)];omega
      have v4:IntKind.i64.wrap (((256*w.toNat+8*k:Nat):Int)+(j:Int))=((256*w.toNat+8*k+j:Nat):Int):=by rw [w64 (by omega) (by omega)];omega
      obtain ⟨p1',o',H2,p2',p3',p4',p5',p6',p7',-⟩:=Mn.ap (by':=8) hm (Jmu (t:=87) (g:=g) (x:=((256*w.toNat+8*k+j:Nat):Int)) (L:=ZK (JJ [0,4,5,6,7,8,9,10] L) 87) (H:=H')) (by rw [List.length_map,List.length_append,hac,List.length_append];simp only [List.length_singleton];omega)
      simp -implicitDefEqProofs only [bU,Jc,reduceCtorEq,Jb,bT,q0,q4,q5,q6,q7,q8,q9,q10,hj8,w2,u1,u2,u3,u4,u5,u6,u7,u8,Jj,hbit',v1,v2,v3,v4,JE,JQ,List.replicate];simp -implicitDefEqProofs only [bU,p1',p2',p3'];refine ⟨8- (j+1),by omega,j+1,o',H2,_,_,by omega,rfl,rfl,rfl,rfl,?_,he.put hid p5' p6',fun x hx=> ?_⟩
      ·rw [JbX,Jlx,if_pos (by omega),←List.append_assoc,ints,List.map_append]
       exact p4'
      ·rcases p7' x hx with h | h
       ·exact hid x h
       ·have:=he.n;omega
     ·simp -implicitDefEqProofs only [bU,Jc,reduceCtorEq,bT,q0,q4,q5,q6,q7,q8,q9,q10,hj8,w2,u1,u2,u3,u4,u5,u6,u7,u8,Jj,hbit]
      exact ⟨8- (j+1),by omega,j+1,o,H',_,_,by omega,rfl,rfl,rfl,rfl,by rw [JbX,Jlx,if_neg (by omega),List.append_nil];exact hm,he,hid⟩
    ·have hje:j=8:=by omega
     subst hje;have w9:IntKind.i64.wrap ((k:Int)+1)=((k+1:Nat):Int):=by rw [w64 (by omega) (by omega)];rfl
     simp -implicitDefEqProofs only [bU,Jc,reduceCtorEq,bT,Je,q0,q4,q5,q6,q7,q8,q9,q10,hj8,w9];refine ⟨n.toNat- (k+1),by omega,k+1,_,o,H',_,_,by omega,rfl,rfl,rfl,rfl,?_,hm,he,hid⟩
     rw [JfK,hac,List.append_assoc,getD_drop]
   ·have hke:k=n.toNat:=by omega
    subst hke;have w5:IntKind.i64.wrap (2+(n.toNat:Int))=((2+n.toNat:Nat):Int):=by rw [w64 (by omega) (by omega)];omega
    have w6:IntKind.i64.wrap ((i:Int)+((2+n.toNat:Nat):Int))=((i+2+n.toNat:Nat):Int):=by rw [w64 (by omega) (by omega)];omega
    simp -implicitDefEqProofs only [bU,Jc,reduceCtorEq,bT,q0,q4,q5,q6,q7,q8,q9,hkn,w5,w6];refine ⟨s.length- (i+2+n.toNat),by omega,i+2+n.toNat,_,acc',o,H',_,_,by omega,rfl,rfl,rfl,rfl,rfl,?_,hm,he,hid,?_,?_⟩
    ·rw [hac,List.length_append];omega
    ·exact hok
    ·rw [hts,hac,List.append_assoc]
 ·have hil:i=s.length:=by omega
  rw [hil,List.drop_length] at hok hts;rw [show YF [] last=true by rw [YF]] at hok
  rw [show Jfb []=[] by rw [Jfb],List.append_nil] at hts
  simp -implicitDefEqProofs only [bU,Jc,reduceCtorEq,bT,q0,q4,q5,q6,hlt,ho,Jr,rsC,rsV,Js];refine ⟨he,?_⟩
  rw [if_pos hok,hts];exact ⟨o,rfl,hm,hid⟩
end
theorem JaT {H:AH} {id:Nat} {rw:Bool} {v:AV} (h:H.at' id= .arr rw 0 1 [v]) (hv:v.cells=[v]):(∀ (L:List Lv) (g:Nat),ldC ⟨L,g,H⟩ none (.pv id 0))∧ ∀ (L:List Lv) (g:Nat),ldX ⟨L,g,H⟩ none (.pv id 0)=v:=by
 refine ⟨fun L g=> ?_,fun L g=> ?_⟩
 ·simp only [ldC,h]
  exact .inr ⟨trivial,by simp [JF,flat,hv]⟩
 ·show ldV ⟨L,g,H⟩ none (.pv id 0)=_
  simp only [ldV,h,partOf,flat,hv];rfl
theorem JkG {H:AH} {id:Nat} {v w:AV} (h:H.at' id= .arr true 0 1 [v]) (hv:v.cells=[v]) (hw:w.cells=[w]) (ha: ∀ cs,v≠ .ag cs):(∀ (L:List Lv) (g:Nat),stC ⟨L,g,H⟩ w (.pv id 0))∧ ∀ (L:List Lv) (g:Nat),stM ⟨L,g,H⟩ w (.pv id 0)=⟨L,g,H.set id (.arr true 0 1 [w])⟩:=by
 refine ⟨fun L g=> ?_,fun L g=> ?_⟩
 ·simp only [stC,h,hv,hw]
  exact ⟨trivial,trivial,rfl,Nat.le_refl _⟩
 ·simp only [stM,h]
  rw [Jed hw ha]
def eSp:Enc (Nat×Nat):=⟨2,fun p=>[.i .i64 (p.1:Nat),.i .i64 (p.2:Nat)],fun _=>rfl⟩
def Jjb (C:Tab) (f:Nat):Prop:= ∀ (i3 i9 at':Nat) (d:List UInt8) (H:AH),H.at' i3= .arr true 0 1 [.s d]→H.at' i9= .arr true 0 1 [.i .i64 (at':Nat)]→at'≤d.length→C f [.pv i3 0,.pv i9 0] H=some (.s (d.drop at'),H)
def Ju3:S:=sAt Jz.s [1,1,1,1,1,1,0,1,2,2,1,1,2,1,1,0,1,2,1,4,1,4,1,4,1,4,1,3,1,1,1,3,1,1,2,2,1,1,0,2,1,0]
def swP:S:=sAt Jz.s [1,1,1,1,1,1,0,1,2,2,1,1,2,1,1,0,1]
structure PS (H0 H:AH) (d:List UInt8) (at':Nat) (o:AV) (sp:List (Nat×Nat)):Prop where
 d3:H.at' H0.n= .arr true 0 1 [.s d]
 a9:H.at' (H0.n+1)= .arr true 0 1 [.i .i64 (at':Nat)]
 m:Mx H eSp o sp
 e:Ext H0 H
 i: ∀ j,j∈idA o→H0.n+1 < j
 n:H0.n+1 < H.n
section
variable {C:Tab}
theorem Jrw {i3 i9 at':Nat} {d:List UInt8} {H:AH} (h3:H.at' i3= .arr true 0 1 [.s d]) (h9:H.at' i9= .arr true 0 1 [.i .i64 (at':Nat)]) (hd:at'≤d.length):Jt C Xb [.pv i3 0,.pv i9 0] H fun v H'=>H'=H∧v= .s (d.drop at'):=by
 unfold Jt Xb;obtain ⟨a1,a2⟩:=JaT h3 rfl;obtain ⟨b1,b2⟩:=JaT h9 rfl;have z1:(0:Int)≤at':=by omega
 have z2:(at':Int)≤d.length:=by omega
 have e:(d.drop at').take (d.length-at')=d.drop at':=List.take_of_length_le (by simp)
 simp -implicitDefEqProofs only [bU,Jc,reduceCtorEq,Ja,bT,a1,a2,b1,b2,z1,z2,e,Jj,Int.le_refl,Jr,rsC,rsV,Js]
theorem PS.ext {H0 H H':AH} {d:List UInt8} {at':Nat} {o:AV} {sp:List (Nat×Nat)} (h:PS H0 H d at' o sp) (he:Ext H H'):PS H0 H' d at' o sp:=
 ⟨(he.at' _ (by have:=h.n;omega)).trans h.d3,(he.at' _ h.n).trans h.a9,Mn.ext h.m he,h.e.trans he,h.i,Nat.lt_of_lt_of_le h.n he.n⟩
set_option maxHeartbeats 4000000 in
theorem Jmw {c:UInt8} {e:Env} {M:Mem} {κ:Jaa} (q15:look e 15= .i .u8 c.toNat) (hκ: ∀ e',(∀ t,t∈[3,8,9,10,13,29,92,93,94]→look e' t=look e t)→look e' 120= .b (!Zc c)→κ .nx e' M):exec C Ju3 e M κ:=by
 simp only [Ju3,Jz,sAt]
 have ha:Zc c=((decide ((48:Int)≤c.toNat) &&decide ((c.toNat:Int)≤57)) || (decide ((97:Int)≤c.toNat) &&decide ((c.toNat:Int)≤122)) || (decide ((65:Int)≤c.toNat) &&decide ((c.toNat:Int)≤90))):=by
  unfold Zc;rw [Bool.eq_iff_iff];simp only [Bool.or_eq_true,Bool.and_eq_true,decide_eq_true_eq];omega
 rw [ha] at hκ;have hl: ∀ e',(∀ t,t∈[3,8,9,10,13,29,92,93,94]→look e' t=look e t)↔(look e' 3=look e 3∧look e' 8=look e 8∧look e' 9=look e 9∧look e' 10=look e 10∧look e' 13=look e 13∧look e' 29=look e 29∧look e' 92=look e 92∧look e' 93=look e 93∧look e' 94=look e 94):=fun e'=>by simp
 simp only [hl] at hκ;by_cases h1:(48:Int)≤c.toNat<;>by_cases h2:(c.toNat:Int)≤57<;>by_cases h3:(97:Int)≤c.toNat<;>by_cases h4:(c.toNat:Int)≤122<;>by_cases h5:(65:Int)≤c.toNat<;>by_cases h6:(c.toNat:Int)≤90<;>
 first
 | (exfalso;omega)
 | (simp -implicitDefEqProofs only [h1,h2,h3,h4,h5,h6,decide_true,decide_false,Bool.false_and,Bool.and_false,Bool.or_false,Bool.or_true,Bool.and_self,Bool.not_true,Bool.not_false] at hκ
    simp -implicitDefEqProofs only [bU,Jc,bT,q15,h1,h2,h3,h4,h5,h6];exact hκ _ ⟨rfl,rfl,rfl,rfl,rfl,rfl,rfl,rfl,rfl⟩ rfl)
end
theorem Jn6 {t g:Nat} {x:Nat×Nat} {L:List Lv} {H:AH}:QE ⟨⟨t,g,0,[.ag [.i .i64 (x.1:Nat),.i .i64 (x.2:Nat)]]⟩::L,g+1,H⟩ (.ll t g 2 1)=[eSp.v x]∧Je7 ⟨⟨t,g,0,[.ag [.i .i64 (x.1:Nat),.i .i64 (x.2:Nat)]]⟩::L,g+1,H⟩ 2 (.ll t g 2 1):=by
 simp [QE,Je7,Mem.getL,Mem.hasL,Qx,eSp,Enc.v]
theorem Jo9 {p:UInt8→Bool} {q:List UInt8} (h: ∀ j,j < q.length→p (q.getD j 0)=true):q.all p=true:=by
 rw [List.all_eq_true];intro x hx;obtain ⟨i,hi,rfl⟩:=List.getElem_of_mem hx;have:=h i hi;simpa [List.getD,List.getElem?_eq_getElem hi] using this
theorem Jpy {p:UInt8→Bool} {q:List UInt8} {j:Nat} (hj:j < q.length) (h:p (q.getD j 0)=false):q.all p=false:=by
 rw [←Bool.not_eq_true,List.all_eq_true];intro hh;have:=hh (q.getD j 0) (by simp [List.getD,List.getElem?_eq_getElem hj])
 rw [this] at h;cases h
theorem JrE {s:List UInt8} {i:Nat} (hi:i < s.length):tGo (s.drop i)=1+(s.getD i 0).toNat+tGo (s.drop (i+1+(s.getD i 0).toNat)):=by
 have e:s.getD i 0=s[i]:=by simp [List.getD,List.getElem?_eq_getElem hi]
 rw [List.drop_eq_getElem_cons hi,tGo,e,List.drop_drop]
section
variable {C:Tab}
set_option maxHeartbeats 4000000 in
theorem JpY {f:UInt8} {d:List UInt8} {at':Nat} {o:AV} {sp:List (Nat×Nat)} {e:Env} {L:List Lv} {g:Nat} {H0 H:AH} {κ:Jaa} (hR:Jjb C Qq) (hN:JnM C YL) (hM:Jbw C XJ)
  (hf:f∈([49,50,52,103,113,110,116,99,84,109,42]:List UInt8)) (q3:look e 3= .pv H0.n 0) (q8:look e 8=o) (q9:look e 9= .pv (H0.n+1) 0) (q10:look e 10= .fn Qq [.pv H0.n 0,.pv (H0.n+1) 0])
  (q12:look e 12= .i .i32 f.toNat) (q13:look e 13= .i .i64 (-1)) (q33:look e 33= .i .i32 f.toNat) (hd:d.length≤1099511627776) (hp:at'≤d.length) (hsp:sp.length≤1000) (hS:PS H0 H d at' o sp)
  (hκ1: ∀ e' L' g' H2 o' n,(look e' 3=look e 3∧look e' 9=look e 9∧look e' 10=look e 10∧look e' 29=look e 29)→look e' 8=o'→look e' 13= .i .i64 ((n:Nat):Int)→JJ [3,8,9,10,29] L'=JJ [3,8,9,10,29] L→Jgf f (d.drop at')=some n→PS H0 H2 d at' o' (if f=110 then sp++[(at',at'+n)] else sp)→κ .nx e' ⟨L',g',H2⟩)
  (hκ2: ∀ e' L' g' H2,look e' 4= .ns→look e' 5= .b false→Ext H0 H2→(Jgf f (d.drop at')=none∨ ∃ n,Jgf f (d.drop at')=some n∧d.length-at' < n)→κ .rt e' ⟨L',g',H2⟩):exec C swP e ⟨L,g,H⟩ κ:=by
 obtain ⟨a1,a2⟩:=JaT hS.a9 rfl;obtain ⟨b1,b2⟩:=JaT hS.d3 rfl;have hrl:(d.drop at').length=d.length-at':=List.length_drop;have hfn:(∃ f' cs,AV.fn Qq [.pv H0.n 0,.pv (H0.n+1) 0]=AV.fn f' cs):=⟨_,_,rfl⟩;have kR:=hR _ _ _ _ _ hS.d3 hS.a9 hp;have hnn: ∀ l:List AV,[]++l=l:=fun _=>rfl
 simp only [List.mem_cons,List.not_mem_nil,or_false] at hf;rcases hf with rfl | rfl | rfl | rfl | rfl | rfl | rfl | rfl | rfl | rfl | rfl
 ·have c0:((49:UInt8).toNat:Int)=49:=rfl
  rw [c0] at q33;simp only [swP,Jz,sAt];simp -implicitDefEqProofs only [bU,Jc,bT,q33];exact hκ1 _ _ _ _ o 1 ⟨rfl,rfl,rfl,rfl⟩ q8 rfl rfl rfl hS
 ·have c0:((50:UInt8).toNat:Int)=50:=rfl
  rw [c0] at q33;simp only [swP,Jz,sAt];simp -implicitDefEqProofs only [bU,Jc,bT,q33,Jh];exact hκ1 _ _ _ _ o 2 ⟨rfl,rfl,rfl,rfl⟩ q8 rfl rfl rfl hS
 ·have c0:((52:UInt8).toNat:Int)=52:=rfl
  rw [c0] at q33;simp only [swP,Jz,sAt];simp -implicitDefEqProofs only [bU,Jc,bT,q33,Jh];exact hκ1 _ _ _ _ o 4 ⟨rfl,rfl,rfl,rfl⟩ q8 rfl rfl rfl hS
 ·have c0:((103:UInt8).toNat:Int)=103:=rfl
  rw [c0] at q33;simp only [swP,Jz,sAt];simp -implicitDefEqProofs only [bU,Jc,bT,q33,Jh];exact hκ1 _ _ _ _ o 4 ⟨rfl,rfl,rfl,rfl⟩ q8 rfl rfl rfl hS
 ·have c0:((113:UInt8).toNat:Int)=113:=rfl
  rw [c0] at q33;simp only [swP,Jz,sAt];simp -implicitDefEqProofs only [bU,Jc,bT,q33,Jh];exact hκ1 _ _ _ _ o 4 ⟨rfl,rfl,rfl,rfl⟩ q8 rfl rfl rfl hS
 ·have c0:((110:UInt8).toNat:Int)=110:=rfl
  rw [c0] at q33;have kN:=fun H=>hN (d.drop at') H (by omega)
  have e1:Jgf 110 (d.drop at')=if Jbc (d.drop at')=0 then none else some (Jbc (d.drop at')):=rfl
  have hle:=Jc2 (d.drop at');simp only [swP,Jz,sAt];by_cases h0:Jbc (d.drop at')=0
  ·have h0':((Jbc (d.drop at'):Nat):Int)=0:=by omega
   simp -implicitDefEqProofs only [bU,Jc,bT,q10,q33,Jh,hfn,hnn,kR,kN,h0'];exact hκ2 _ _ _ _ rfl rfl hS.e (.inl (by rw [e1,if_pos h0]))
  ·have h0': ¬ ((Jbc (d.drop at'):Nat):Int)=0:=by omega
   have w1:IntKind.i64.wrap ((at':Int)+((Jbc (d.drop at'):Nat):Int))=((at'+Jbc (d.drop at'):Nat):Int):=by rw [w64 (by omega) (by omega)];rfl
   have ho:=(Mn.sl hS.m).out;obtain ⟨p1,o',H2,p2,p3,p4,p5,p6,p7,-⟩:=Mn.ap (by':=16) hS.m (Jn6 (t:=55) (g:=g) (x:=(at',at'+Jbc (d.drop at'))) (L:=ZK L 55) (H:=H)) (by simp;omega)
   simp only [show eSp.z=2 from rfl] at p1 p3
   simp -implicitDefEqProofs only [bU,Jc,Ja,bT,bV,Ja,Jg,q8,q9,q10,q33,Jh,hfn,hnn,kR,kN,h0',a1,a2,w1,JE,JQ,List.replicate];simp -implicitDefEqProofs only [bU,p1,p2,p3];refine hκ1 _ _ _ _ o' (Jbc (d.drop at')) ⟨rfl,rfl,rfl,rfl⟩ rfl rfl ?_ (by rw [e1,if_neg h0]) ?_
   ·rw [Jn9 rfl,JeH rfl]
   ·rw [if_pos rfl]
    have he2: ∀ j,j≤H0.n+1→H2.at' j=H.at' j:=fun j hj=>p6 j (by have:=hS.n;omega) fun hh=>by have:=hS.i j hh;omega
    refine ⟨(he2 _ (by omega)).trans hS.d3,(he2 _ (by omega)).trans hS.a9,?_,hS.e.put (fun j hj=>by have:=hS.i j hj;omega) p5 p6,fun j hj=> ?_,Nat.lt_of_lt_of_le hS.n p5⟩
    ·show Mn H2 eSp.z o' _
     rw [List.map_append];exact p4
    ·rcases p7 j hj with h | h
     ·exact hS.i j h
     ·have:=hS.n;omega
 ·have c0:((116:UInt8).toNat:Int)=116:=rfl
  rw [c0] at q33 q12;have e1:Jgf 116 (d.drop at')=if (d.drop at')=[] then none else some (((d.drop at').getD 0 0).toNat+1):=rfl
  simp only [swP,Jz,sAt];by_cases h0:(d.length:Int)≤at'
  ·simp -implicitDefEqProofs only [bU,Jc,bT,q3,q9,q33,Jh,a1,a2,b1,b2,h0]
   exact hκ2 _ _ _ _ rfl rfl hS.e (.inl (by rw [e1,if_pos (List.drop_of_length_le (by omega))]))
  ·have z1:(0:Int)≤at':=by omega
   have z2:(at':Int) < d.length:=by omega
   have hb:=(d.getD at' 0).toNat_lt;have w0:=Jkm (d.getD at' 0);have w1:IntKind.i64.wrap (1+((d.getD at' 0).toNat:Int))=(((d.getD at' 0).toNat+1:Nat):Int):=by rw [w64 (by omega) (by omega)];omega
   simp -implicitDefEqProofs only [bU,Jc,bT,q3,q9,q12,q33,Jh,a1,a2,b1,b2,h0,z1,z2,w0,w1,Jj];refine hκ1 _ _ _ _ o _ ⟨rfl,rfl,rfl,rfl⟩ q8 rfl rfl ?_ hS
   rw [e1,if_neg (fun hh=>by have:=congrArg List.length hh;simp at this;omega)]
   simp only [getD_drop,Nat.add_zero]
 ·have c0:((99:UInt8).toNat:Int)=99:=rfl
  rw [c0] at q33 q12;have e1:Jgf 99 (d.drop at')=if (d.drop at')=[]∨((d.drop at').getD 0 0).toNat+1 < 2∨16 < ((d.drop at').getD 0 0).toNat+1∨(d.drop at').length < ((d.drop at').getD 0 0).toNat+1∨((((d.drop at').drop 1).take ((d.drop at').getD 0 0).toNat).all Zc)=false then none else some (((d.drop at').getD 0 0).toNat+1):=rfl
  simp only [getD_drop,Nat.add_zero,hrl,List.drop_drop] at e1;obtain ⟨B,hB,hs⟩: ∃ B,B=sAt swP [2,1,4,1,4,1,4,1,4,1,3,1,1,1,3,1,1,2,2,1,1,0,2,1,0]∧swP=JaX swP [2,1,4,1,4,1,4,1,4,1,3,1,1,1,3,1,1,2,2,1,1,0,2,1,0] B:=⟨_,rfl,(JaY _ _).symm⟩;have hB':B=Ju3:=hB.trans rfl;rw [hs];simp only [swP,Jz,sAt,JaX];by_cases h0:(d.length:Int)≤at'
  ·simp -implicitDefEqProofs only [bU,Jc,bT,q3,q9,q33,Jh,a1,a2,b1,b2,h0]
   exact hκ2 _ _ _ _ rfl rfl hS.e (.inl (by rw [e1,if_pos (.inl (List.drop_of_length_le (by omega)))]))
  ·have z1:(0:Int)≤at':=by omega
   have z2:(at':Int) < d.length:=by omega
   have hb:=(d.getD at' 0).toNat_lt;have w0:=Jkm (d.getD at' 0);obtain ⟨b,hbb⟩: ∃ b,(d.getD at' 0).toNat=b:=⟨_,rfl⟩;rw [hbb] at e1 w0 hb;have w1:IntKind.i64.wrap (1+(b:Int))=((b+1:Nat):Int):=by rw [w64 (by omega) (by omega)];omega
   by_cases h1:((b+1:Nat):Int) < 2
   ·simp -implicitDefEqProofs only [bU,Jc,bT,q3,q9,q12,q33,Jh,a1,a2,b1,b2,h0,z1,z2,hbb,w0,w1,Jj,h1]
    exact hκ2 _ _ _ _ rfl rfl hS.e (.inl (by rw [e1,if_pos (.inr (.inl (by omega)))]))
   by_cases h2:(16:Int) < ((b+1:Nat):Int)
   ·simp -implicitDefEqProofs only [bU,Jc,bT,q3,q9,q12,q33,Jh,a1,a2,b1,b2,h0,z1,z2,hbb,w0,w1,Jj,h1,h2]
    exact hκ2 _ _ _ _ rfl rfl hS.e (.inl (by rw [e1,if_pos (.inr (.inr (.inl (by omega))))]))
   have w2:IntKind.i64.wrap ((at':Int)+((b+1:Nat):Int))=((at'+(b+1):Nat):Int):=by rw [w64 (by omega) (by omega)];rfl
   by_cases h3:(d.length:Int) < ((at'+(b+1):Nat):Int)
   ·simp -implicitDefEqProofs only [bU,Jc,bT,q3,q9,q12,q33,Jh,a1,a2,b1,b2,h0,z1,z2,hbb,w0,w1,w2,Jj,h1,h2,h3]
    exact hκ2 _ _ _ _ rfl rfl hS.e (.inl (by rw [e1,if_pos (.inr (.inr (.inr (.inl (by omega)))))]))
   have w3:IntKind.i64.wrap ((at':Int)+1)=((at'+1:Nat):Int):=by rw [w64 (by omega) (by omega)];rfl
   have z3:(0:Int)≤((at'+1:Nat):Int):=by omega
   have z4:((at'+1:Nat):Int)≤((at'+(b+1):Nat):Int):=by omega
   have z5:((at'+(b+1):Nat):Int)≤d.length:=by omega
   have z6:at'+(b+1)- (at'+1)=b:=by omega
   obtain ⟨q,hq⟩: ∃ q,(d.drop (at'+1)).take b=q:=⟨_,rfl⟩;have hql:q.length=b:=by rw [←hq];simp;omega
   rw [hq] at e1
   have hby:Byt (H.new (.arr true 0 1 (XR q))) (.sl H.n 0 q.length) q:=by
    have:=Mn.own (H:=H.new (.arr true 0 1 (XR q))) (z:=1) (id:=H.n) (xs:=XR q) (by simp) QD
    rw [JaP] at this;exact this.sl
   have hS2:=hS.ext (Ext.new H (.arr true 0 1 (XR q)));obtain ⟨l1,l2⟩:=hby.len;simp -implicitDefEqProofs only [bU,Jc,bT,q3,q9,q12,q33,Jh,a1,a2,b1,b2,h0,z1,z2,hbb,w0,w1,w2,w3,Jj,h1,h2,h3,z3,z4,z5,z6,hq,l1,l2]
   refine Jl (fun m e' M=> ∃ (k:Nat) (L':List Lv) (g':Nat),k≤q.length∧m=q.length-k∧look e' 3=look e 3∧look e' 8=look e 8∧look e' 9=look e 9∧look e' 10=look e 10∧look e' 13= .i .i64 ((b+1:Nat):Int)∧look e' 29=look e 29∧look e' 92= .sl H.n 0 q.length∧look e' 93= .i .i64 q.length∧look e' 94= .i .i64 k∧M=⟨L',g',H.new (.arr true 0 1 (XR q))⟩∧JJ [3,8,9,10,29] L'=JJ [3,8,9,10,29] L∧ ∀ j,j < k→Zc (q.getD j 0)=true) ?_ (n:=q.length)
    ⟨0,_,_,by omega,by omega,rfl,rfl,rfl,rfl,rfl,rfl,rfl,rfl,rfl,rfl,rfl,fun j hj=>by omega⟩
   rintro m e' M ⟨k,L',g',hk,rfl,r3,r8,r9,r10,r13,r29,r92,r93,r94,rfl,hL,hall⟩;by_cases hkl:(k:Int) < q.length
   ·obtain ⟨t1,t2,t3,t4⟩:=hby.ia (j:=k) (by omega) hkl (JJ [3,8,9,10,13,29,92,93,94] L') g'
    rw [Int.toNat_natCast] at t3 t4;have w4:IntKind.i64.wrap ((k:Int)+1)=((k+1:Nat):Int):=by rw [w64 (by omega) (by omega)];rfl
    simp -implicitDefEqProofs only [bU,Jc,bT,r3,r8,r9,r10,r13,r29,r92,r93,r94,hkl,t1,t2,t3,t4,Jj];rw [hB'];refine Jmw (c:=q.getD k 0) rfl fun e2 hk2 k120=> ?_
    have s3:=hk2 3 (by simp)
    have s8:=hk2 8 (by simp)
    have s9:=hk2 9 (by simp)
    have s10:=hk2 10 (by simp)
    have s13:=hk2 13 (by simp)
    have s29:=hk2 29 (by simp)
    have s92:=hk2 92 (by simp)
    have s93:=hk2 93 (by simp)
    have s94:=hk2 94 (by simp)
    simp only [bU,reduceIte,Jc] at s3 s8 s9 s10 s13 s29 s92 s93 s94;cases ha:Zc (q.getD k 0) with
    | false=>
     rw [ha] at k120;simp -implicitDefEqProofs only [bU,bT,k120];exact hκ2 _ _ _ _ rfl rfl hS2.e (.inl (by rw [e1,if_pos (.inr (.inr (.inr (.inr (Jpy (by omega) ha)))))]))
    | true=>
     rw [ha] at k120;simp -implicitDefEqProofs only [bU,Jc,bT,k120,s3,s8,s9,s10,s13,s29,s92,s93,s94,w4];refine ⟨q.length- (k+1),by omega,k+1,_,_,by omega,rfl,rfl,rfl,(JaK rfl _).trans hL,fun j hj=> ?_⟩
     by_cases hjk:j=k
     ·rw [hjk];exact ha
     ·exact hall j (by omega)
   ·have hkq:k=q.length:=by omega
    simp -implicitDefEqProofs only [bU,Jc,bT,r3,r8,r9,r10,r13,r29,r92,r93,r94,hkl];refine hκ1 _ _ _ _ o (b+1) ⟨rfl,rfl,rfl,rfl⟩ q8 rfl ((JaK rfl _).trans hL) ?_ hS2
    rw [e1,if_neg];rintro (h | h | h | h | h)
    ·have:=congrArg List.length h;simp at this;omega
    ·omega
    ·omega
    ·omega
    ·rw [Jo9 fun j hj=>hall j (by omega)] at h;cases h
 ·have c0:((84:UInt8).toNat:Int)=84:=rfl
  rw [c0] at q33;have e1:Jgf 84 (d.drop at')=if tGo (d.drop at')=0 then none else some (tGo (d.drop at')):=rfl
  simp only [swP,Jz,sAt];simp -implicitDefEqProofs only [bU,Jc,bT,q9,q33,Jh,a1,a2]
  refine Jl (fun m e' M=> ∃ (k:Nat) (L':List Lv) (g':Nat),at'≤k∧k≤d.length+300∧m=d.length+300-k∧look e' 3=look e 3∧look e' 8=look e 8∧look e' 9=look e 9∧look e' 10=look e 10∧look e' 29=look e 29∧look e' 16= .i .i64 k∧M=⟨L',g',H⟩∧JJ [3,8,9,10,29] L'=JJ [3,8,9,10,29] L∧tGo (d.drop at')=k-at'+tGo (d.drop k)) ?_ (n:=d.length+300-at')
   ⟨at',_,_,by omega,by omega,by omega,rfl,rfl,rfl,rfl,rfl,rfl,rfl,rfl,by omega⟩
  rintro m e' M ⟨k,L',g',hk0,hk,rfl,r3,r8,r9,r10,r29,r16,rfl,hL,hT⟩;rw [q3] at r3;rw [q9] at r9;by_cases hlt:(k:Int) < d.length
  ·rw [JrE (show k < d.length by omega)] at hT
   have z1:(0:Int)≤k:=by omega
   have hb:=(d.getD k 0).toNat_lt;have w0:=Jkm (d.getD k 0);have w1:IntKind.i64.wrap (1+((d.getD k 0).toNat:Int))=((1+(d.getD k 0).toNat:Nat):Int):=by rw [w64 (by omega) (by omega)];omega
   have w2:IntKind.i64.wrap ((k:Int)+((1+(d.getD k 0).toNat:Nat):Int))=((k+1+(d.getD k 0).toNat:Nat):Int):=by rw [w64 (by omega) (by omega)];omega
   simp -implicitDefEqProofs only [bU,Jc,bT,r3,r8,r9,r10,r16,r29,b1,b2,hlt,z1,w0,w1,w2,Jj,q3,q9];exact ⟨d.length+300- (k+1+(d.getD k 0).toNat),by omega,k+1+(d.getD k 0).toNat,_,_,by omega,by omega,rfl,rfl,rfl,(JaK rfl _).trans hL,by omega⟩
  ·rw [List.drop_of_length_le (l:=d) (i:=k) (by omega),show tGo []=0 by rw [tGo]] at hT
   have w3:IntKind.i64.wrap ((k:Int)- (at':Int))=((k-at':Nat):Int):=by rw [w64 (by omega) (by omega)];omega
   by_cases h0:k-at'=0
   ·have h0':((k-at':Nat):Int)=0:=by omega
    simp -implicitDefEqProofs only [bU,Jc,bT,r3,r8,r9,r10,r16,r29,a1,a2,b1,b2,hlt,w3,h0'];exact hκ2 _ _ _ _ rfl rfl hS.e (.inl (by rw [e1,if_pos (by omega)]))
   ·have h0': ¬ ((k-at':Nat):Int)=0:=by omega
    simp -implicitDefEqProofs only [bU,Jc,bT,r3,r8,r9,r10,r16,r29,a1,a2,b1,b2,hlt,w3,h0'];exact hκ1 _ _ _ _ o (k-at') ⟨q3.symm,q9.symm,rfl,rfl⟩ q8 rfl ((JaK rfl _).trans hL) (by rw [e1,if_neg (by omega)];congr 1) hS
 ·have c0:((109:UInt8).toNat:Int)=109:=rfl
  rw [c0] at q33;have e1:Jgf 109 (d.drop at')=if YF (d.drop at') (-1) then some (d.drop at').length else none:=rfl
  obtain ⟨v,H2,k1,k2,k3⟩:=hM (d.drop at') H (by omega)
  simp only [swP,Jz,sAt];have hS2:=hS.ext k2;have kR2:=hR _ _ _ _ _ hS2.d3 hS2.a9 hp;cases hm:YF (d.drop at') (-1) with
  | false=>
   rw [hm] at k3 e1;have k3':v= .tp [.ns,.i .i64 7]:=k3;subst k3';simp -implicitDefEqProofs only [bU,Jc,Ja,Jb,bT,q10,q33,Jh,hfn,hnn,kR,k1];exact hκ2 _ _ _ _ rfl rfl hS2.e (.inl e1)
  | true=>
   rw [hm] at k3 e1;obtain ⟨o2,rfl,-,-⟩: ∃ o,v= .tp [o,.i .i64 0]∧Mn H2 1 o (ints (Jfb (d.drop at')))∧ ∀ i,i∈idA o→H.n≤i:=k3;simp -implicitDefEqProofs only [bU,Jc,Ja,Jb,bT,q10,q33,Jh,hfn,hnn,kR,kR2,k1];exact hκ1 _ _ _ _ o _ ⟨rfl,rfl,rfl,rfl⟩ q8 rfl rfl e1 hS2
 ·have c0:((42:UInt8).toNat:Int)=42:=rfl
  rw [c0] at q33;simp only [swP,Jz,sAt];simp -implicitDefEqProofs only [bU,Jc,bT,q10,q33,Jh,hfn,hnn,kR];exact hκ1 _ _ _ _ o _ ⟨rfl,rfl,rfl,rfl⟩ q8 rfl rfl rfl hS
end
end Go.Vm
