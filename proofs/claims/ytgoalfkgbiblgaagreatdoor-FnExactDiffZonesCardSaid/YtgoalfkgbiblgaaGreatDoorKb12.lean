import Derived.Test.YtgoalfkgbiblgaaGreatDoorKb11
import Derived.Test.YtgoalfkgbiblgaaGreatDoorKb10
import Derived.KernelRfl
import Derived.Test.YtgoalfkgbiblgaaGreatDoorKb3
import Derived.Test.YtgoalfkgbiblgaaGreatDoorProg
import Derived.Test.YtgoalfkgbiblgaaGreatDoorKb4
import Derived.Test.YtgoalfkgbiblgaaGreatDoorKb5
import Derived.Test.YtgoalfkgbiblgaaGreatDoorKb7
/- The library's stable sort in a table: what it comes to at a row. -/
set_option linter.unusedVariables false
set_option linter.unusedSimpArgs false
set_option maxRecDepth 100000
open Nat renaming reduceEqDiff→Jc,reduceAdd→Ja,reduceLT→Jb,reduceLeDiff→Jg
open Int renaming reduceLT→Ji
namespace Go.Vm
set_option linter.unusedSectionVars false
theorem Jr4 {T:Tab} {vs:List AV} {H:AH}:Jff T 138 vs H=stT T vs H:=by unfold Jff;simp
theorem Jrd {T:Tab} {vs:List AV} {H:AH}:Jff T 183 vs H=joT vs H:=by unfold Jff;simp
theorem Jr9 {T:Tab} {vs:List AV} {H:AH}:Jff T 211 vs H=cmT vs H:=by unfold Jff;simp
theorem Jrz {T:Tab} {vs:List AV} {H:AH}:Jff T 262 vs H=Jul vs H:=by unfold Jff;simp
theorem JrB {T:Tab} {vs:List AV} {H:AH}:Jff T 264 vs H=swT Go.Proofs.Tryz.prog vs H:=by unfold Jff;simp
theorem Jr7 {T:Tab} {vs:List AV} {H:AH}:Jff T 269 vs H=swT Go.Proofs.Tryz.prog vs H:=by unfold Jff;simp
structure JaA (l z:List (Nat×Fn)):Prop where
 stable:lkF l WY=some QU
 isort:lkF l JX=some JY
 symM:lkF l JI=some Jm
 rot:lkF l JS=some QT
 swapR:lkF l QQ=some Qo
 no: ∀ n,n∈[138,262,264,269,183,211]→lkF l n=none∧lkF z n=none
section
variable {α:Type} [Inhabited α] {N:Nat} {Hs:List α→AH} {lt:α→α→Bool} {f f':Nat} {cs cs':List AV} {l z:List (Nat×Fn)} {k0:Nat}
theorem Jiy (hL:JaA l z) (hS: ∀ k,k0≤k→JcJ (JK l z k) N Hs lt f cs f' cs') (k:Nat):JaO (JK l z (k+(k0+1))) N Hs (ZV f cs f' cs') QQ:=fun P X M Y Q a b n h1 h2 h3 h4 h5=>by
 obtain ⟨v,H',g1,rfl,rfl⟩:=JC (k:=k+k0) hL.swapR (Jit (hS _ (by omega)) h1 h2 h3 h4 h5)
 exact g1
theorem Jnp (hL:JaA l z) (hS: ∀ k,k0≤k→JcJ (JK l z k) N Hs lt f cs f' cs') (k:Nat):Jbv (JK l z (k+(k0+2))) N Hs (ZV f cs f' cs') JS:=fun P X Y Q a m b h1 h2 h3 h4 h5 h6=>by
 obtain ⟨v,H',g1,rfl,rfl⟩:=JC (k:=k+(k0+1)) hL.rot (JnN (hS _ (Nat.le_refl _)).big (Jiy hL hS k) h1 h2 h3 h4 h5 h6);exact g1
theorem JqP (hO:Jb0 lt) (hL:JaA l z) (hS: ∀ k,k0≤k→JcJ (JK l z k) N Hs lt f cs f' cs') (k:Nat):Jer lt (JK l z (k+(k0+1))) N Hs (ZV f cs f' cs') JX:=fun r a b h1 h2 h3=>by
 obtain ⟨v,H',g1,rfl,l',g2,rfl⟩:=JC (k:=k+k0) hL.isort (JpL hO (hS _ (by omega)) h1 h2 h3)
 exact ⟨l',g2,g1⟩
theorem Jfw (hO:Jb0 lt) (hL:JaA l z) (hS: ∀ k,k0≤k→JcJ (JK l z k) N Hs lt f cs f' cs'): ∀ (d k:Nat),Yo lt (JK l z (k+(k0+3+d))) N Hs (ZV f cs f' cs') (2 ^ d) JI
 | 0,k=>fun P L R Q a m b h1 h2 h3 h4 h5 h6=>by
  simp at h6;omega
 | d+1,k=>fun P L R Q a m b h1 h2 h3 h4 h5 h6 h7 h8 h9=>by
  have hR:Jbv (JK l z (k+(k0+3+d))) N Hs (ZV f cs f' cs') JS:=by
   rw [show k+(k0+3+d)=(k+1+d)+(k0+2) by omega];exact Jnp hL hS _
  obtain ⟨v,H',g1,rfl,M,g2,g3,rfl⟩:=JC (k:=k+(k0+3+d)) hL.symM (JjH hO (hS _ (by omega)) hR (Jfw hO hL hS d k) h1 h2 h3 h4 h5 (by rw [Nat.pow_succ] at h6;omega) h7 h8 h9)
  exact ⟨M,g2,g3,g1⟩
theorem Jm1 (hO:Jb0 lt) (hL:JaA l z) (hS: ∀ k,k0≤k→JcJ (JK l z k) N Hs lt f cs f' cs') (hN:N≤512) (k:Nat):Jmj lt (JK l z (k+(k0+13))) N Hs (ZV f cs f' cs') WY:=fun r hr=>by
 have hI:Jer lt (JK l z (k+(k0+12))) N Hs (ZV f cs f' cs') JX:=by
  rw [show k+(k0+12)=(k+11)+(k0+1) by omega];exact JqP hO hL hS _
 obtain ⟨v,H',g1,rfl,M,g2,g3,rfl⟩:=JC (k:=k+(k0+12)) hL.stable (JmS hO (by omega) hI (w:=2 ^ 9) hN (Jfw hO hL hS 9 k) hr)
 exact ⟨M,g2,g3,g1⟩
def slT:List (Nat×Nat×Nat):=[(81,9,264),(26,134,269),(41,40,269)]
theorem JrI {T:Tab} {t e fb id ix len g:Nat} {caps:List AV} {H:AH} (h:(t,e,fb)∈slT):stT T [.fs t id ix len,.fn g caps] H=stV T gsz e fb id ix len g caps H:=by
 simp only [slT,List.mem_cons,Prod.mk.injEq,List.not_mem_nil,or_false] at h;unfold stT;rcases h with ⟨rfl,rfl,rfl⟩ | ⟨rfl,rfl,rfl⟩ | ⟨rfl,rfl,rfl⟩<;>rfl
theorem Jcb (hO:Jb0 lt) (hL:JaA l z) {t e fb id ix:Nat} {H:AH} {r:List α} (ht:(t,e,fb)∈slT) (hS: ∀ k,k0≤k→JcJ (JK l z k) N Hs lt f cs (swF fb N) (Jn3 gsz e id ix N)) (hN:N≤512) (hr:r.length=N) (hH:wkn H id=Hs r) (k:Nat):
  ∃ M,M.Perm r∧Srt lt M∧JK l z (k+(k0+14)) 138 [.fs t id ix N,.fn f cs] H=some (.tp [],Hs M):=by
 obtain ⟨M,m1,m2,m3⟩:=Jm1 hO hL hS hN k r hr;refine ⟨M,m1,m2,?_⟩
 have hn:=hL.no 138 (by simp)
 rw [show k+(k0+14)=(k+(k0+13))+1 by omega,Jbr hn.1 hn.2]
 rw [Jr4,JrI ht];unfold stV;rw [hH];rw [show ([.ag [.fn f cs,.fn (swF fb N) (Jn3 gsz e id ix N)],.i .i64 (N:Nat)]:List AV)=[ZV f cs (swF fb N) (Jn3 gsz e id ix N),.i .i64 (N:Nat)] from rfl]
 rw [show (220:Nat)=WY from rfl,m3]
 simp only;rw [if_pos (by omega)]
end
set_option linter.unusedSectionVars false
def Joy {α:Type} (n:Option Nat) (z:Nat) (enc:α→AV):Prop:=match n with
 | none=>z=1∧ ∀ x,(enc x).cells=[enc x]
 | some m=>m=z∧ ∀ x,∃ cs,enc x= .ag cs∧cs.length=z
section
variable {α:Type} [Inhabited α] {n:Option Nat} {z:Nat} {enc:α→AV}
theorem Joy.len (h:Joy n z enc) (x:α):(enc x).cells.length=z:=by
 cases n with
 | none=>obtain ⟨rfl,h⟩:=h;rw [h x];rfl
 | some m=>
  obtain ⟨rfl,h⟩:=h;obtain ⟨cs,h1,h2⟩:=h x;rw [h1];exact h2
theorem Joy.part (h:Joy n z enc) (x:α):partOf (enc x).cells 0 n=enc x∧JF (enc x).cells 0 n:=by
 cases n with
 | none=>
  obtain ⟨rfl,h⟩:=h;rw [h x];exact ⟨rfl,by simp [JF]⟩
 | some m=>
  obtain ⟨rfl,h⟩:=h;obtain ⟨cs,h1,h2⟩:=h x;rw [h1];subst h2;exact ⟨by simp [partOf,AV.cells],by simp [JF,AV.cells]⟩
theorem Joy.set (h:Joy n z enc) (x y:α):Wt (enc x) 0 (enc y)=enc y:=by
 cases n with
 | none=>
  obtain ⟨rfl,h⟩:=h;have hx:=h x;have hy:=h y;generalize enc x=X at hx ⊢;generalize enc y=Y at hy ⊢;cases X<;>simp only [Wt,hy]
  rename_i xs
  have h2:xs=[AV.ag xs]:=hx;have:=congrArg (fun (l:List AV)=>SizeOf.sizeOf l) h2
  simp only [List.cons.sizeOf_spec,AV.ag.sizeOf_spec] at this;omega
 | some m=>
  obtain ⟨rfl,h⟩:=h;obtain ⟨cs,h1,h2⟩:=h x;obtain ⟨ds,h3,h4⟩:=h y;rw [h1,h3];simp [Wt,Wu,AV.cells,h2,h4]
theorem Jj2 (H:AH) (id:Nat) (o o':Ob):(H.set id o).set id o'=H.set id o':=by
 simp only [AH.set,AH.mk.injEq,true_and];funext i
 by_cases e:i=id<;>simp [e]
def JbZ (H:AH) (id st z:Nat) (enc:α→AV) (l:List α):AH:=H.set id (.arr true st z (l.map enc))
theorem JcM {H:AH} {id st:Nat} (l:List α):(JbZ H id st z enc l).at' id= .arr true st z (l.map enc):=by simp [JbZ,AH.set]
theorem Jr5 {P:Program} {tE g z:Nat} {n:Option Nat} {i j:Int} {id ix len:Nat} {H:AH} (hn:nT P tE=some n) (hz:szT P tE=some z) (hc:swC P.globals.size n z H g i j id ix len):
  swT P [.i .i64 i,.i .i64 j,.sl id ix len,.hd g tE] H=some (.tp [],swA n H (.pe id (ix+i.toNat) 0 (ix+len)) (.pe id (ix+j.toNat) 0 (ix+len))):=by
 unfold swT;simp only [hn,hz];rw [if_pos hc]
theorem Jnm {tE G:Nat} (hn:nT Go.Proofs.Tryz.prog tE=some n) (hz:szT Go.Proofs.Tryz.prog tE=some z) (he:Joy n z enc) {H:AH} {id st:Nat} (hst:st=0∨st=2) {l:List α} {i j N:Nat} (hN:l.length=N) (hi:i < N) (hj:j < N):
  swT Go.Proofs.Tryz.prog [.i .i64 i,.i .i64 j,.sl id 0 N,.hd gsz tE] (JbZ H id st z enc l)=some (.tp [],JbZ H id st z enc (swp l i j)):=by
 have ho:=JcM (H:=H) (id:=id) (st:=st) (z:=z) (enc:=enc) l;have hst':(if st=0 then 0 else 2)=st:=by rcases hst with rfl | rfl<;>rfl
 have hgi: ∀ k,k < N→(l.map enc).getD k .u=enc (l.getD k default):=fun k hk=>by simp [List.getD,hN,hk]
 have hl:(l.map enc).length=N:=by simp [hN]
 have ld: ∀ k,k < N→ldC ⟨[],0,JbZ H id st z enc l⟩ n (.pe id (0+k) 0 (0+N))∧ldX ⟨[],0,JbZ H id st z enc l⟩ n (.pe id (0+k) 0 (0+N))=enc (l.getD k default):=fun k hk=>by
  obtain ⟨p1,p2⟩:=he.part (l.getD k default);have hX:ldX ⟨[],0,JbZ H id st z enc l⟩ n (.pe id (0+k) 0 (0+N))=ldV ⟨[],0,JbZ H id st z enc l⟩ n (.pe id (0+k) 0 (0+N)):=by unfold ldX;split<;>first | rfl | (rename_i h;cases h)
  rw [hX];simp only [ldC,ldV,ho,Nat.zero_add,hgi k hk];exact ⟨⟨fun _=>hl.symm,by omega,p2⟩,p1⟩
 obtain ⟨ci,vi⟩:=ld i hi;obtain ⟨cj,vj⟩:=ld j hj
 have st1: ∀ (r:List α) (k:Nat) (y:α),r.length=N→k < N→stM ⟨[],0,JbZ H id st z enc r⟩ (enc y) (.pe id (0+k) 0 (0+N))=⟨[],0,JbZ H id st z enc (r.set k y)⟩∧stC ⟨[],0,JbZ H id st z enc r⟩ (enc y) (.pe id (0+k) 0 (0+N)):=fun r k y hr hk=>by
  have ho:=JcM (H:=H) (id:=id) (st:=st) (z:=z) (enc:=enc) r;have hg:(r.map enc).getD k .u=enc (r.getD k default):=by simp [List.getD,hr,hk]
  refine ⟨?_,?_⟩
  ·simp only [stM,ho,Nat.zero_add,hg,he.set,hst']
   simp only [JbZ,Jj2,List.map_set]
  ·simp only [stC,ho,Nat.zero_add,hg]
   refine ⟨trivial,by simp [hr],by simp [hr,hk],?_⟩
   rw [he.len,he.len];exact Nat.le_refl _
 obtain ⟨a1,a2⟩:=st1 l i (l.getD j default) hN hi;obtain ⟨b1,b2⟩:=st1 (l.set i (l.getD j default)) j (l.getD i default) (by simp [hN]) hj
 have hc:swC Go.Proofs.Tryz.prog.globals.size n z (JbZ H id st z enc l) gsz i j id 0 N:=by
  simp only [swC,Int.toNat_natCast,vi,vj];refine ⟨by unfold gsz;exact Eq.refl _,⟨by omega,by omega,by omega,by omega⟩,by simp only [slZ,ho],ci,cj,he.len _,he.len _,a2,?_⟩
  rw [a1];exact b2
 have hsw:swA n (JbZ H id st z enc l) (.pe id (0+(i:Int).toNat) 0 (0+N)) (.pe id (0+(j:Int).toNat) 0 (0+N))=JbZ H id st z enc (swp l i j):=by
  simp only [swA,Int.toNat_natCast,vi,vj,a1,b1];rfl
 exact (Jr5 hn hz hc).trans (congrArg (fun x=>some (AV.tp [],x)) hsw)
theorem JlX {l0 z0:List (Nat×Fn)} {k0 t tE fb:Nat} {H:AH} {id st N:Nat} {lt:α→α→Bool} {f:Nat} {cs:List AV} (hL:JaA l0 z0) (ht:(t,tE,fb)∈slT) (hn:nT Go.Proofs.Tryz.prog tE=some n) (hz:szT Go.Proofs.Tryz.prog tE=some z) (he:Joy n z enc) (hst:st=0∨st=2) (hb:N≤1099511627776)
  (hless: ∀ k,k0≤k→ ∀ (l:List α) (i j:Nat),l.length=N→i < N→j < N→JK l0 z0 k f ([.i .i64 i,.i .i64 j]++cs) (JbZ H id st z enc l)=some (.b (lt (l.getD i default) (l.getD j default)),JbZ H id st z enc l)) (h1:1≤k0):
  ∀ k,k0≤k→JcJ (JK l0 z0 k) N (JbZ H id st z enc) lt f cs (swF fb N) (Jn3 gsz tE id 0 N):=fun k hk=>by
 refine ⟨hless k hk,fun l i j hl hi hj=> ?_,hb⟩
 obtain ⟨k',rfl⟩: ∃ k',k=k'+1:=⟨k-1,by omega⟩
 by_cases c1:N≤1
 ·have hN1:N=1:=by omega
  subst hN1;obtain rfl:i=0:=by omega
  obtain rfl:j=0:=by omega
  have hno:=hL.no 262 (by simp)
  rw [show swF fb 1=262 from rfl,show Jn3 gsz tE id 0 1=[] from rfl,List.append_nil,Jbr hno.1 hno.2,Jrz]
  have:swp l 0 0=l:=by
   obtain ⟨x,rfl⟩:=List.length_eq_one_iff.1 hl;rfl
  rw [this];rfl
 ·have e1:swF fb N=fb:=by unfold swF;rw [if_neg (by omega),if_neg (by omega)]
  have e2:Jn3 gsz tE id 0 N=[.sl id 0 N,.hd gsz tE]:=by unfold Jn3;rw [if_neg c1]
  rw [e1,e2]
  have hfb:fb=264∨fb=269:=by
   simp only [slT,List.mem_cons,Prod.mk.injEq,List.not_mem_nil,or_false] at ht;rcases ht with ⟨-,-,h⟩ | ⟨-,-,h⟩ | ⟨-,-,h⟩<;>simp [h]
  have key:=Jnm (G:=gsz) hn hz he (H:=H) (id:=id) hst hl hi hj;rcases hfb with rfl | rfl
  ·have hno:=hL.no 264 (by simp)
   rw [Jbr hno.1 hno.2,JrB];exact key
  ·have hno:=hL.no 269 (by simp)
   rw [Jbr hno.1 hno.2,Jr7];exact key
end
def Jis (C:Tab) (f:Nat):Prop:= ∀ (H:AH) (id:Nat) (o:List UInt8) (t ttl:Int) (a:AV) (l:List (List UInt8)) (i j:Nat) (hi:i < l.length) (hj:j < l.length),JR H→JbE H id [.s o,.i .i64 t,.i .i64 ttl,a]→Sl H 1 a (l.map AV.s)→(∀ x,x∈l→x.length≤1099511627776)→C f [.i .i64 i,.i .i64 j,.pv id 0] H=some (.b (decide (Jqz t l[i] l[j] < 0)),H)
def Jh1 (C:Tab) (f:Nat):Prop:= ∀ (H:AH) (id:Nat) (apex:List UInt8) (a:AV) (ps:List (Qa×AV)) (i j:Nat) (hi:i < ps.length) (hj:j < ps.length),JbE H id [.s apex,a]→Sl H 4 a (ps.map fun p=>sV p.1 p.2)→(∀ p,p∈ps→ ∃ x,JB p.1.o=some x)→C f [.i .i64 i,.i .i64 j,.pv id 0] H=some (.b (Jdk ps[i].1 ps[j].1),H)
theorem Mn.inv {H:AH} {z rid n:Nat} {a:AV} {els:List AV} (h:Mn H z a els) (ha:a= .sl rid 0 n): ∃ st,rid < H.n∧H.at' rid= .arr true st z els∧n=els.length:=by
 cases h with
 | nil=>cases ha
 | own h1 h2=>
  injection ha with e1 e2 e3
  subst e1;exact ⟨_,h1,h2,e3.symm⟩
theorem JR.set {H:AH} (h:JR H) {rid:Nat} {rw:Bool} {st z:Nat} {xs:List AV} (hr:H.at' rid= .arr rw st z xs) (hx: ∀ x,x∈xs→ ∀ m,x≠ .mp m) (o:Ob):JR (H.set rid o):=by
 obtain ⟨rw',mid,es,h1,h2,h3,h4,h5⟩:=h
 have e1:rid≠JiY:=fun e=>by
  rw [e] at hr;rw [hr] at h1;injection h1 with _ _ _ e2
  exact hx (.mp mid) (by rw [e2];simp) mid rfl
 have e2:rid≠mid:=fun e=>by
  rw [e] at hr;rw [hr] at h2;cases h2
 exact ⟨rw',mid,es,(XQ fun e=>e1 e.symm).trans h1,(XQ fun e=>e2 e.symm).trans h2,h3,h4,h5⟩
theorem Ext.nope {H:AH} {id rid:Nat} {cs xs:List AV} {st:Nat} (ho:JbE H id cs) (hr:H.at' rid= .arr true st 1 xs) (hc:1 < cs.length):id≠rid:=fun e=>by
 subst e;have:=ho.at';rw [hr] at this;injection this with _ _ e _
 omega
section
variable {l0 z0:List (Nat×Fn)} {k0:Nat}
theorem Jpp (hL:JaA l0 z0) (h1:1≤k0) (hless: ∀ k,k0≤k→Jis (JK l0 z0 k) 190) (k:Nat):Jes (JK l0 z0 (k+(k0+14))):=by
 intro H id rid o t ttl xs ob hm hFo hx hpos h512;obtain ⟨st,hlt,hat,hlen⟩:=hm.inv rfl;let α:={x:List UInt8 // x.length≤1099511627776∧chk t x=0}
 letI:Inhabited α:=⟨⟨xs[0],hx _ (List.getElem_mem hpos)⟩⟩
 let enc:α→AV:=fun x=> .s x.1
 let lt:α→α→Bool:=fun x y=>JdB Lib.compareBytes (XL t x.1) (XL t y.1)
 have hO:Jb0 lt:=Zf.ordr.comap fun x:α=>XL t x.1
 let r:List α:=xs.pmap (fun x h=>⟨x,h⟩) hx
 have hrx:r.map Subtype.val=xs:=by
  show (xs.pmap _ _).map _=_
  rw [List.map_pmap];simp
 have hre:r.map enc=xs.map AV.s:=by
  have:r.map enc=(r.map Subtype.val).map AV.s:=by rw [List.map_map];rfl
  rw [this,hrx]
 have hrl:r.length=xs.length:=by
  have:=congrArg List.length hrx;rwa [List.length_map] at this
 have hH:wkn H rid=JbZ H rid (if st=0 then 0 else 2) 1 enc r:=by
  unfold wkn JbZ;rw [hat,hre]
 have hst:(if st=0 then 0 else 2)=0∨(if st=0 then 0 else 2)=2:=by split<;>simp
 generalize (if st=0 then 0 else 2)=st' at hH hst
 have hS:=fun k hk=>JlX (n:=none) (z:=1) (enc:=enc) (t:=81) (tE:=9) (fb:=264) (H:=H) (id:=rid) (st:=st') (N:=xs.length) (lt:=lt) (f:=190) (cs:=[.pv id 0]) (k0:=k0) hL (by simp [slT]) (by kernel_rfl) (by kernel_rfl) ⟨rfl,fun _=>rfl⟩ hst (by omega) (fun k hk l i j hl hi hj=>by
  have hne:id≠rid:=Ext.nope ob hat (by simp)
  have hil:i < (l.map Subtype.val).length:=by rw [List.length_map];omega
  have hjl:j < (l.map Subtype.val).length:=by rw [List.length_map];omega
  have hrow:Sl (JbZ H rid st' 1 enc l) 1 (.sl rid 0 xs.length) ((l.map Subtype.val).map AV.s):=by
   have hm2:=Mn.own (H:=JbZ H rid st' 1 enc l) (z:=1) (id:=rid) hlt (JcM l);rw [List.length_map,hl] at hm2;have e:(l.map Subtype.val).map AV.s=l.map enc:=by rw [List.map_map];rfl
   rw [e];exact hm2.sl
  have:=hless k hk (JbZ H rid st' 1 enc l) id o t ttl (.sl rid 0 xs.length) (l.map Subtype.val) i j hil hjl (hFo.set hat (fun x hx m=>by obtain ⟨y,-,rfl⟩:=List.mem_map.1 hx;simp) _) (ob.fr (Nat.le_refl _) (XQ hne)) hrow (fun x hx=>by obtain ⟨y,-,rfl⟩:=List.mem_map.1 hx;exact y.2.1)
  have hgi:l.getD i default=l[i]'(by omega):=by simp [List.getD,show i < l.length by omega]
  have hgj:l.getD j default=l[j]'(by omega):=by simp [List.getD,show j < l.length by omega]
  rw [hgi,hgj];simp only [List.getElem_map] at this;rw [show ([.i .i64 i,.i .i64 j]++[.pv id 0]:List AV)=[.i .i64 i,.i .i64 j,.pv id 0] from rfl,this]
  have e1:=(l[i]'(by omega)).2.2
  have e2:=(l[j]'(by omega)).2.2
  have:Jqz t (l[i]'(by omega)).1 (l[j]'(by omega)).1=Lib.compareBytes (XL t (l[i]'(by omega)).1) (XL t (l[j]'(by omega)).1):=by
   unfold Jqz;rw [if_neg (by rw [e1,e2];simp)]
  rw [this];rfl) h1 k hk
 obtain ⟨M,m1,m2,m3⟩:=Jcb (t:=81) (e:=9) (fb:=264) hO hL (by simp [slT]) hS h512 hrl hH k
 have hMl:M.length=xs.length:=by rw [m1.length_eq,hrl]
 refine ⟨M.map Subtype.val,_,?_,?_,m3,?_,rfl,fun i hi=>XQ hi⟩
 ·have:=m1.map Subtype.val
  rwa [hrx] at this
 ·unfold Srt
  rw [List.pairwise_map];exact m2
 ·have hm2:=Mn.own (H:=JbZ H rid st' 1 enc M) (z:=1) (id:=rid) hlt (JcM M)
  rw [List.length_map,hMl] at hm2;have e:(M.map Subtype.val).map AV.s=M.map enc:=by rw [List.map_map];rfl
  rw [e];exact hm2
end
theorem Jos: ∀ (sets:List Qa) (ds:List AV),List.zipWith sV sets ds=(sets.zip ds).map fun p=>sV p.1 p.2
 | [],ds=>by simp
 | _::_,[]=>rfl
 | s::r,d::q=>by
  rw [List.zipWith_cons_cons,List.zip_cons_cons,List.map_cons,Jos r q]
section
variable {l0 z0:List (Nat×Fn)} {k0:Nat}
theorem Jpq (hL:JaA l0 z0) (h1:1≤k0) (hless: ∀ k,k0≤k→Jh1 (JK l0 z0 k) 192) (k:Nat):Jgn (JK l0 z0 (k+(k0+14))):=by
 intro H id rid apex sets ds ob hm hdl hx hpos h512;obtain ⟨st,hlt,hat,hlen⟩:=hm.inv rfl;rw [Jos] at hat;let α:={p:Qa×AV // ∃ x,JB p.1.o=some x}
 have hzl:(sets.zip ds).length=sets.length:=by rw [List.length_zip,hdl,Nat.min_self]
 have hzx: ∀ p,p∈sets.zip ds→ ∃ x,JB p.1.o=some x:=fun p hp=>hx _ (List.of_mem_zip hp).1
 letI:Inhabited α:=⟨⟨(sets.zip ds)[0],hzx _ (List.getElem_mem (by rw [hzl];exact hpos))⟩⟩
 let enc:α→AV:=fun x=>sV x.1.1 x.1.2
 let lt:α→α→Bool:=fun x y=>Jdk x.1.1 y.1.1
 have hO:Jb0 lt:=JpN.comap fun x:α=>x.1.1
 let r:List α:=(sets.zip ds).pmap (fun x h=>⟨x,h⟩) hzx
 have hrx:r.map Subtype.val=sets.zip ds:=by
  show ((sets.zip ds).pmap _ _).map _=_
  rw [List.map_pmap];simp
 have hre:r.map enc=(sets.zip ds).map fun p=>sV p.1 p.2:=by
  have:r.map enc=(r.map Subtype.val).map fun p=>sV p.1 p.2:=by rw [List.map_map];rfl
  rw [this,hrx]
 have hrl:r.length=sets.length:=by
  have:=congrArg List.length hrx;rw [List.length_map,hzl] at this;exact this
 have hH:wkn H rid=JbZ H rid (if st=0 then 0 else 2) 4 enc r:=by
  unfold wkn JbZ;rw [hat,hre]
 have hst:(if st=0 then 0 else 2)=0∨(if st=0 then 0 else 2)=2:=by split<;>simp
 generalize (if st=0 then 0 else 2)=st' at hH hst
 have hne:id≠rid:=fun e=>by
  subst e;have:=ob.at';rw [hat] at this;injection this with _ _ e _
  simp at e
 have hS:=fun k hk=>JlX (n:=some 4) (z:=4) (enc:=enc) (t:=26) (tE:=134) (fb:=269) (H:=H) (id:=rid) (st:=st') (N:=sets.length) (lt:=lt) (f:=192) (cs:=[.pv id 0]) (k0:=k0) hL (by simp [slT]) (by kernel_rfl) (by kernel_rfl) ⟨rfl,fun x=>⟨[.s x.1.1.o,.i .i64 x.1.1.t,.i .i64 x.1.1.ttl,x.1.2],rfl,rfl⟩⟩ hst (by omega) (fun k hk l i j hl hi hj=>by
  have hil:i < (l.map Subtype.val).length:=by rw [List.length_map];omega
  have hjl:j < (l.map Subtype.val).length:=by rw [List.length_map];omega
  have hrow:Sl (JbZ H rid st' 4 enc l) 4 (.sl rid 0 sets.length) ((l.map Subtype.val).map fun p=>sV p.1 p.2):=by
   have hm2:=Mn.own (H:=JbZ H rid st' 4 enc l) (z:=4) (id:=rid) hlt (JcM l);rw [List.length_map,hl] at hm2;have e:((l.map Subtype.val).map fun p=>sV p.1 p.2)=l.map enc:=by rw [List.map_map];rfl
   rw [e];exact hm2.sl
  have:=hless k hk (JbZ H rid st' 4 enc l) id apex (.sl rid 0 sets.length) (l.map Subtype.val) i j hil hjl (ob.fr (Nat.le_refl _) (XQ hne)) hrow (fun x hx=>by obtain ⟨y,-,rfl⟩:=List.mem_map.1 hx;exact y.2)
  have hgi:l.getD i default=l[i]'(by omega):=by simp [List.getD,show i < l.length by omega]
  have hgj:l.getD j default=l[j]'(by omega):=by simp [List.getD,show j < l.length by omega]
  rw [hgi,hgj];simp only [List.getElem_map] at this;rw [show ([.i .i64 i,.i .i64 j]++[.pv id 0]:List AV)=[.i .i64 i,.i .i64 j,.pv id 0] from rfl,this]) h1 k hk
 obtain ⟨M,m1,m2,m3⟩:=Jcb (t:=26) (e:=134) (fb:=269) hO hL (by simp [slT]) hS h512 hrl hH k
 have hMl:M.length=sets.length:=by rw [m1.length_eq,hrl]
 refine ⟨M.map Subtype.val,_,?_,?_,m3,?_,rfl,fun i hi=>XQ hi⟩
 ·have:=m1.map Subtype.val
  rwa [hrx] at this
 ·unfold Srt
  rw [List.pairwise_map];exact m2
 ·have hm2:=Mn.own (H:=JbZ H rid st' 4 enc M) (z:=4) (id:=rid) hlt (JcM M)
  rw [List.length_map,hMl] at hm2;have e:((M.map Subtype.val).map fun p=>sV p.1 p.2)=M.map enc:=by rw [List.map_map];rfl
  rw [e];exact hm2
end
def Yw:Fn:=⟨2,[(.t 4)],
  .q (.o [.lbx 2 (.t 0),
   .mv 4 (.c (.i .i64 0))])
  (.q (.o [.mv 5 (.t 1),
   .fa 6 (.t 2) 0,
   .ld 7 (.t 6) none,
   .lns 8 (.t 7),
   .bn 9 .sub (.t 5) (.t 8),
   .mv 1 (.t 9)])
  (.q (.q (.o [.mv 10 (.t 1),
   .bn 11 .lss (.t 10) (.c (.i .i64 0))])
  (.i (.t 11) (.q (.o [.mv 4 (.c (.i .i64 (-1)))])
  (.r))
  (.k)))
  (.q (.o [.fa 12 (.t 2) 1,
   .ld 13 (.t 12) none,
   .mv 14 (.t 1),
   .cl (some 15) 75 [(.t 13),(.t 14)],
   .mv 1 (.t 15)])
  (.q (.q (.o [.mv 16 (.t 1),
   .bn 17 .lss (.t 16) (.c (.i .i64 0))])
  (.i (.t 17) (.q (.o [.mv 4 (.c (.i .i64 (-1)))])
  (.r))
  (.k)))
  (.q (.o [.mv 18 (.t 1),
   .mv 4 (.t 18)])
  (.r))))))⟩
abbrev ZQ:Nat:=15
theorem Jf6:Qi Go.Proofs.Tryz.prog Yw 15=true:=by kernel_rfl
def YQ:Fn:=⟨1,[(.c 2 (some 2))],
  .q (.o [.lbx 1 (.t 0),
   .lal 2 (.ag [(.s []),.ns])])
  (.q (.o [.lal 3 (.ag [(.s []),.ns])])
  (.q (.o [.fa 4 (.t 1) 0,
   .ld 5 (.t 4) none,
   .fa 6 (.t 3) 0,
   .st (.t 6) (.t 5) 1])
  (.q (.o [.fa 7 (.t 1) 1,
   .ld 8 (.t 7) none,
   .cl (some 9) 80 [(.t 8)],
   .fa 10 (.t 3) 1,
   .st (.t 10) (.t 9) 1])
  (.q (.o [.ld 11 (.t 3) (some 2),
   .st (.t 2) (.t 11) 2])
  (.r)))))⟩
abbrev ZH:Nat:=17
theorem JgT:Qi Go.Proofs.Tryz.prog YQ 17=true:=by kernel_rfl
def Y0:Fn:=⟨2,[(.t 4)],
  .q (.o [.lbx 2 (.t 0),
   .lbx 3 (.t 1),
   .mv 4 (.c (.b false))])
  (.q (.q (.o [.fa 5 (.t 2) 0,
   .ld 6 (.t 5) none,
   .fa 7 (.t 3) 0,
   .ld 8 (.t 7) none,
   .bn 9 .neq (.t 6) (.t 8)])
  (.i (.t 9) (.q (.o [.mv 4 (.c (.b false))])
  (.r))
  (.k)))
  (.q (.q (.o [.fa 10 (.t 2) 1,
   .ld 11 (.t 10) none,
   .fa 12 (.t 3) 1,
   .ld 13 (.t 12) none,
   .cl (some 14) 85 [(.t 11),(.t 13)],
   .un 15 .not (.t 14)])
  (.i (.t 15) (.q (.o [.mv 4 (.c (.b false))])
  (.r))
  (.k)))
  (.q (.o [.mv 4 (.c (.b true))])
  (.r))))⟩
abbrev YA:Nat:=20
theorem JgJ:Qi Go.Proofs.Tryz.prog Y0 20=true:=by kernel_rfl
def Xw:Fn:=⟨2,[(.t 4)],
  .q (.o [.lbx 2 (.t 0),
   .mv 4 (.c (.i .i64 0))])
  (.q (.o [.fa 5 (.t 2) 1,
   .ld 6 (.t 5) none,
   .mv 7 (.t 1),
   .cl (some 8) 86 [(.t 6),(.t 7)],
   .mv 1 (.t 8)])
  (.q (.o [.mv 9 (.t 1),
   .mv 4 (.t 9)])
  (.r)))⟩
abbrev Wj:Nat:=21
theorem Jey:Qi Go.Proofs.Tryz.prog Xw 21=true:=by kernel_rfl
def Xl:Fn:=⟨2,[(.t 4)],
  .q (.o [.lbx 2 (.t 0),
   .mv 4 (.c (.i .i64 0))])
  (.q (.o [.fa 5 (.t 2) 1,
   .ld 6 (.t 5) none,
   .mv 7 (.t 1),
   .cl (some 8) 111 [(.t 6),(.t 7)],
   .mv 1 (.t 8)])
  (.q (.q (.o [.mv 9 (.t 1),
   .bn 10 .lss (.t 9) (.c (.i .i64 0))])
  (.i (.t 10) (.q (.o [.mv 4 (.c (.i .i64 (-1)))])
  (.r))
  (.k)))
  (.q (.o [.mv 11 (.t 1),
   .mv 4 (.t 11)])
  (.r))))⟩
abbrev YE:Nat:=38
theorem Jd8:Qi Go.Proofs.Tryz.prog Xl 38=true:=by kernel_rfl
def Wy:Fn:=⟨2,[(.t 4)],
  .q (.o [.mv 4 (.c (.b false))])
  (.q (.q (.o [.mv 6 (.t 0),
   .ln 7 (.t 6),
   .mv 8 (.t 1),
   .ln 9 (.t 8),
   .bn 10 .neq (.t 7) (.t 9)])
  (.i (.t 10) (.q (.o [.mv 4 (.c (.b false))])
  (.r))
  (.k)))
  (.q (.q (.o [.mv 5 (.c (.i .i64 0))])
  (.b 0 (.l [0,1,5] (.q (.q (.o [.mv 11 (.t 5),
   .mv 12 (.t 0),
   .ln 13 (.t 12),
   .bn 14 .lss (.t 11) (.t 13)])
  (.i (.t 14) (.k)
  (.x 0)))
  (.q (.b 1 (.q (.p [⟨.mv 17 (.t 0),[],false⟩,
   ⟨.mv 18 (.t 5),[],false⟩,
   ⟨.ia 19 (.t 17) (.t 18) 1,[],false⟩,
   ⟨.ld 20 (.t 19) none,[],false⟩,
   ⟨.mv 21 (.t 1),[],false⟩,
   ⟨.mv 22 (.t 5),[],false⟩,
   ⟨.ia 23 (.t 21) (.t 22) 1,[],false⟩,
   ⟨.ld 24 (.t 23) none,[],false⟩,
   ⟨.bn 25 .neq (.t 20) (.t 24),[],false⟩])
  (.i (.t 25) (.q (.o [.mv 4 (.c (.b false))])
  (.r))
  (.k))))
  (.o [.mv 15 (.t 5),
   .bn 16 .add (.t 15) (.c (.i .i64 1)),
   .mv 5 (.t 16)]))))))
  (.q (.o [.mv 4 (.c (.b true))])
  (.r))))⟩
abbrev Yg:Nat:=54
theorem Jdu:Qi Go.Proofs.Tryz.prog Wy 54=true:=by kernel_rfl
def QS:Fn:=⟨2,[(.t 4)],
  .q (.o [.mv 4 (.c (.i .i64 0))])
  (.q (.q (.o [.mv 5 (.c (.i .i64 0))])
  (.b 0 (.l [0,1,5] (.q (.q (.o [.mv 6 (.t 5),
   .mv 7 (.t 0),
   .ln 8 (.t 7),
   .bn 9 .lss (.t 6) (.t 8)])
  (.i (.t 9) (.k)
  (.x 0)))
  (.q (.b 1 (.q (.o [.mv 12 (.t 0),
   .mv 13 (.t 5),
   .mv 14 (.t 1),
   .cl (some 15) 120 [(.t 14)],
   .ia 16 (.t 12) (.t 13) 1,
   .st (.t 16) (.t 15) 1])
  (.o [.mv 17 (.t 1),
   .bn 18 .add (.t 17) (.c (.i .i64 1)),
   .mv 1 (.t 18)])))
  (.o [.mv 10 (.t 5),
   .bn 11 .add (.t 10) (.c (.i .i64 1)),
   .mv 5 (.t 11)]))))))
  (.q (.o [.mv 19 (.t 1),
   .mv 4 (.t 19)])
  (.r)))⟩
abbrev WU:Nat:=55
theorem Jcs:Qi Go.Proofs.Tryz.prog QS 55=true:=by kernel_rfl
def QO:Fn:=⟨2,[(.t 4)],
  .q (.o [.mv 4 (.c (.i .i64 0))])
  (.q (.q (.o [.mv 5 (.c (.i .i64 0))])
  (.b 0 (.l [0,1,5] (.q (.q (.o [.mv 6 (.t 5),
   .mv 7 (.t 0),
   .ln 8 (.t 7),
   .bn 9 .lss (.t 6) (.t 8)])
  (.i (.t 9) (.k)
  (.x 0)))
  (.q (.b 1 (.q (.q (.p [⟨.mv 12 (.t 0),[],false⟩,
   ⟨.mv 13 (.t 5),[],false⟩,
   ⟨.ia 14 (.t 12) (.t 13) 1,[],true⟩,
   ⟨.ld 15 (.t 14) none,[],true⟩,
   ⟨.mv 16 (.t 1),[],false⟩,
   ⟨.cl (some 17) 120 [(.t 16)],[2,3],false⟩,
   ⟨.bn 18 .neq (.t 15) (.t 17),[],false⟩])
  (.i (.t 18) (.q (.o [.mv 4 (.c (.i .i64 (-1)))])
  (.r))
  (.k)))
  (.o [.mv 19 (.t 1),
   .bn 20 .add (.t 19) (.c (.i .i64 1)),
   .mv 1 (.t 20)])))
  (.o [.mv 10 (.t 5),
   .bn 11 .add (.t 10) (.c (.i .i64 1)),
   .mv 5 (.t 11)]))))))
  (.q (.o [.mv 21 (.t 1),
   .mv 4 (.t 21)])
  (.r)))⟩
abbrev WR:Nat:=56
theorem Jb5:Qi Go.Proofs.Tryz.prog QO 56=true:=by kernel_rfl
def YG:Fn:=⟨2,[(.t 4)],
  .q (.o [.mv 4 (.c (.i .i64 0))])
  (.q (.o [.mv 6 (.t 1),
   .mv 7 (.t 0),
   .ln 8 (.t 7),
   .bn 9 .sub (.t 6) (.t 8),
   .mv 1 (.t 9)])
  (.q (.q (.o [.mv 10 (.t 1),
   .bn 11 .lss (.t 10) (.c (.i .i64 0))])
  (.i (.t 11) (.q (.o [.mv 4 (.c (.i .i64 (-1)))])
  (.r))
  (.k)))
  (.q (.q (.o [.mv 5 (.c (.i .i64 0))])
  (.b 0 (.l [0,1,5] (.q (.q (.o [.mv 12 (.t 5),
   .mv 13 (.t 0),
   .ln 14 (.t 13),
   .bn 15 .lss (.t 12) (.t 14)])
  (.i (.t 15) (.k)
  (.x 0)))
  (.q (.b 1 (.q (.o [.mv 18 (.t 0),
   .mv 19 (.t 5),
   .ia 20 (.t 18) (.t 19) 4,
   .ld 21 (.t 20) (some 4),
   .mv 22 (.t 1),
   .cl (some 23) 165 [(.t 21),(.t 22)],
   .mv 1 (.t 23)])
  (.q (.o [.mv 24 (.t 1),
   .bn 25 .lss (.t 24) (.c (.i .i64 0))])
  (.i (.t 25) (.q (.o [.mv 4 (.c (.i .i64 (-1)))])
  (.r))
  (.k)))))
  (.o [.mv 16 (.t 5),
   .bn 17 .add (.t 16) (.c (.i .i64 1)),
   .mv 5 (.t 17)]))))))
  (.q (.o [.mv 26 (.t 1),
   .mv 4 (.t 26)])
  (.r)))))⟩
abbrev ZG:Nat:=75
theorem Jge:Qi Go.Proofs.Tryz.prog YG 75=true:=by kernel_rfl
def Yz:Fn:=⟨1,[(.t 2)],
  .q (.o [.mv 2 (.c .ns)])
  (.q (.o [.mv 5 (.t 0),
   .ln 6 (.t 5),
   .mk 7 (.ag [(.s []),(.i .i64 0),(.i .i64 0),.ns]) 4 56 (.t 6),
   .mv 3 (.t 7)])
  (.q (.q (.o [.mv 4 (.c (.i .i64 0))])
  (.b 0 (.l [0,3,4] (.q (.q (.o [.mv 8 (.t 4),
   .mv 9 (.t 0),
   .ln 10 (.t 9),
   .bn 11 .lss (.t 8) (.t 10)])
  (.i (.t 11) (.k)
  (.x 0)))
  (.q (.b 1 (.o [.mv 14 (.t 3),
   .mv 15 (.t 4),
   .mv 16 (.t 0),
   .mv 17 (.t 4),
   .ia 18 (.t 16) (.t 17) 4,
   .ld 19 (.t 18) (some 4),
   .cl (some 20) 171 [(.t 19)],
   .ia 21 (.t 14) (.t 15) 4,
   .st (.t 21) (.t 20) 4]))
  (.o [.mv 12 (.t 4),
   .bn 13 .add (.t 12) (.c (.i .i64 1)),
   .mv 4 (.t 13)]))))))
  (.q (.o [.mv 22 (.t 3),
   .mv 2 (.t 22)])
  (.r))))⟩
abbrev ZI:Nat:=80
theorem Jf0:Qi Go.Proofs.Tryz.prog Yz 80=true:=by kernel_rfl
def YV:Fn:=⟨2,[(.t 4)],
  .q (.o [.mv 4 (.c (.b false))])
  (.q (.q (.o [.mv 6 (.t 0),
   .ln 7 (.t 6),
   .mv 8 (.t 1),
   .ln 9 (.t 8),
   .bn 10 .neq (.t 7) (.t 9)])
  (.i (.t 10) (.q (.o [.mv 4 (.c (.b false))])
  (.r))
  (.k)))
  (.q (.q (.o [.mv 5 (.c (.i .i64 0))])
  (.b 0 (.l [0,1,5] (.q (.q (.o [.mv 11 (.t 5),
   .mv 12 (.t 0),
   .ln 13 (.t 12),
   .bn 14 .lss (.t 11) (.t 13)])
  (.i (.t 14) (.k)
  (.x 0)))
  (.q (.b 1 (.q (.p [⟨.mv 17 (.t 0),[],false⟩,
   ⟨.mv 18 (.t 5),[],false⟩,
   ⟨.ia 19 (.t 17) (.t 18) 4,[],false⟩,
   ⟨.ld 20 (.t 19) (some 4),[],false⟩,
   ⟨.mv 21 (.t 1),[],false⟩,
   ⟨.mv 22 (.t 5),[],false⟩,
   ⟨.ia 23 (.t 21) (.t 22) 4,[],false⟩,
   ⟨.ld 24 (.t 23) (some 4),[],false⟩,
   ⟨.cl (some 25) 174 [(.t 20),(.t 24)],[],false⟩,
   ⟨.un 26 .not (.t 25),[],false⟩])
  (.i (.t 26) (.q (.o [.mv 4 (.c (.b false))])
  (.r))
  (.k))))
  (.o [.mv 15 (.t 5),
   .bn 16 .add (.t 15) (.c (.i .i64 1)),
   .mv 5 (.t 16)]))))))
  (.q (.o [.mv 4 (.c (.b true))])
  (.r))))⟩
abbrev ZL:Nat:=85
theorem Jgp:Qi Go.Proofs.Tryz.prog YV 85=true:=by kernel_rfl
def Xz:Fn:=⟨2,[(.t 4)],
  .q (.o [.mv 4 (.c (.i .i64 0))])
  (.q (.q (.o [.mv 5 (.c (.i .i64 0))])
  (.b 0 (.l [0,1,5] (.q (.q (.o [.mv 6 (.t 5),
   .mv 7 (.t 0),
   .ln 8 (.t 7),
   .bn 9 .lss (.t 6) (.t 8)])
  (.i (.t 9) (.k)
  (.x 0)))
  (.q (.b 1 (.q (.o [.mv 12 (.t 0),
   .mv 13 (.t 5),
   .mv 14 (.t 1),
   .cl (some 15) 120 [(.t 14)],
   .ia 16 (.t 12) (.t 13) 4,
   .fa 17 (.t 16) 0,
   .st (.t 17) (.t 15) 1])
  (.q (.o [.mv 18 (.t 1),
   .bn 19 .add (.t 18) (.c (.i .i64 1)),
   .mv 1 (.t 19)])
  (.q (.o [.mv 20 (.t 0),
   .mv 21 (.t 5),
   .mv 22 (.t 1),
   .ia 23 (.t 20) (.t 21) 4,
   .fa 24 (.t 23) 1,
   .st (.t 24) (.t 22) 1])
  (.q (.o [.mv 25 (.t 1),
   .bn 26 .add (.t 25) (.c (.i .i64 1)),
   .mv 1 (.t 26)])
  (.q (.o [.mv 27 (.t 0),
   .mv 28 (.t 5),
   .mv 29 (.t 1),
   .ia 30 (.t 27) (.t 28) 4,
   .fa 31 (.t 30) 2,
   .st (.t 31) (.t 29) 1])
  (.q (.o [.mv 32 (.t 1),
   .bn 33 .add (.t 32) (.c (.i .i64 1)),
   .mv 1 (.t 33)])
  (.o [.mv 34 (.t 0),
   .mv 35 (.t 5),
   .ia 36 (.t 34) (.t 35) 4,
   .fa 37 (.t 36) 3,
   .ld 38 (.t 37) none,
   .mv 39 (.t 1),
   .cl (some 40) 55 [(.t 38),(.t 39)],
   .mv 1 (.t 40)]))))))))
  (.o [.mv 10 (.t 5),
   .bn 11 .add (.t 10) (.c (.i .i64 1)),
   .mv 5 (.t 11)]))))))
  (.q (.o [.mv 41 (.t 1),
   .mv 4 (.t 41)])
  (.r)))⟩
abbrev YJ:Nat:=86
theorem JeW:Qi Go.Proofs.Tryz.prog Xz 86=true:=by kernel_rfl
def YT:Fn:=⟨1,[(.c 2 (some 5))],
  .q (.o [.lbx 1 (.t 0),
   .lal 2 (.ag [(.s []),(.i .i64 0),(.i .i64 0),(.i .i64 0),(.s [])])])
  (.q (.o [.ld 6 (.t 1) (some 2),
   .fa 7 (.t 1) 0,
   .ld 8 (.t 7) none,
   .cl (some 9) 175 [(.t 6),(.t 8),(.c (.i .i64 6))],
   .mv 5 (.t 9),
   .ex 10 (.t 5) 0,
   .ex 11 (.t 5) 1,
   .lal 3 (.ag [(.s []),(.i .i64 0),(.i .i64 0),.ns]),
   .st (.t 3) (.t 10) 4,
   .mv 4 (.t 11)])
  (.q (.o [.ld 12 (.t 3) (some 4),
   .cl (some 13) 141 [(.t 12)],
   .ia 14 (.t 13) (.c (.i .i64 0)) 5,
   .ld 15 (.t 14) (some 5),
   .st (.t 2) (.t 15) 5])
  (.r)))⟩
abbrev ZN:Nat:=90
theorem JgD:Qi Go.Proofs.Tryz.prog YT 90=true:=by kernel_rfl
def Zt:Fn:=⟨1,[(.c 2 (some 5)),(.t 3)],
  .q (.o [.lbx 1 (.t 0),
   .lal 2 (.ag [(.s []),(.i .i64 0),(.i .i64 0),(.i .i64 0),(.s [])]),
   .mv 3 (.c .ns)])
  (.q (.o [.lal 4 (.ag [(.s []),(.i .i64 0),(.i .i64 0),(.i .i64 0),(.s [])])])
  (.q (.o [.mv 5 (.c .ns)])
  (.q (.q (.o [.ld 8 (.t 1) (some 2),
   .cl (some 9) 172 [(.t 8)],
   .ln 10 (.t 9),
   .mv 11 (.c (.i .i64 0))])
  (.b 0 (.l [2,4,5,9,10,11] (.q (.o [.bn 12 .lss (.t 11) (.t 10)])
  (.q (.i (.t 12) (.k)
  (.x 0))
  (.q (.b 1 (.q (.o [.ia 13 (.t 9) (.t 11) 5,
   .ld 14 (.t 13) (some 5),
   .lal 7 (.ag [(.s []),(.i .i64 0),(.i .i64 0),(.i .i64 0),(.s [])]),
   .st (.t 7) (.t 14) 5])
  (.q (.o [.fa 15 (.t 7) 1,
   .ld 16 (.t 15) none,
   .bn 17 .eql (.t 16) (.c (.i .i64 6))])
  (.i (.t 17) (.o [.ld 18 (.t 7) (some 5),
   .st (.t 4) (.t 18) 5])
  (.o [.mv 19 (.t 5),
   .ld 20 (.t 7) (some 5),
   .lbs 21 (.ag [(.s []),(.i .i64 0),(.i .i64 0),(.i .i64 0),(.s [])]) 5 1 [(0,(.t 20))],
   .ap 22 (.t 19) (.t 21) 5 56,
   .mv 5 (.t 22)])))))
  (.o [.bn 23 .add (.t 11) (.c (.i .i64 1)),
   .mv 11 (.t 23)])))))))
  (.q (.o [.ld 24 (.t 4) (some 5),
   .mv 25 (.t 5),
   .st (.t 2) (.t 24) 5,
   .mv 3 (.t 25)])
  (.r)))))⟩
abbrev Jap:Nat:=94
theorem Jhm:Qi Go.Proofs.Tryz.prog Zt 94=true:=by kernel_rfl
def XF:Fn:=⟨2,[(.t 4)],
  .q (.o [.mv 4 (.c (.i .i64 0))])
  (.q (.q (.o [.mv 5 (.c (.i .i64 0))])
  (.b 0 (.l [0,1,5] (.q (.q (.o [.mv 6 (.t 5),
   .mv 7 (.t 0),
   .ln 8 (.t 7),
   .bn 9 .lss (.t 6) (.t 8)])
  (.i (.t 9) (.k)
  (.x 0)))
  (.q (.b 1 (.q (.q (.p [⟨.mv 12 (.t 0),[],false⟩,
   ⟨.mv 13 (.t 5),[],false⟩,
   ⟨.ia 14 (.t 12) (.t 13) 4,[],true⟩,
   ⟨.fa 15 (.t 14) 0,[],false⟩,
   ⟨.ld 16 (.t 15) none,[],true⟩,
   ⟨.mv 17 (.t 1),[],false⟩,
   ⟨.cl (some 18) 120 [(.t 17)],[2,4],false⟩,
   ⟨.bn 19 .neq (.t 16) (.t 18),[],false⟩])
  (.i (.t 19) (.q (.o [.mv 4 (.c (.i .i64 (-1)))])
  (.r))
  (.k)))
  (.q (.o [.mv 20 (.t 1),
   .bn 21 .add (.t 20) (.c (.i .i64 1)),
   .mv 1 (.t 21)])
  (.q (.q (.o [.mv 22 (.t 0),
   .mv 23 (.t 5),
   .ia 24 (.t 22) (.t 23) 4,
   .fa 25 (.t 24) 1,
   .ld 26 (.t 25) none,
   .mv 27 (.t 1),
   .bn 28 .neq (.t 26) (.t 27)])
  (.i (.t 28) (.q (.o [.mv 4 (.c (.i .i64 (-1)))])
  (.r))
  (.k)))
  (.q (.o [.mv 29 (.t 1),
   .bn 30 .add (.t 29) (.c (.i .i64 1)),
   .mv 1 (.t 30)])
  (.q (.q (.o [.mv 31 (.t 0),
   .mv 32 (.t 5),
   .ia 33 (.t 31) (.t 32) 4,
   .fa 34 (.t 33) 2,
   .ld 35 (.t 34) none,
   .mv 36 (.t 1),
   .bn 37 .neq (.t 35) (.t 36)])
  (.i (.t 37) (.q (.o [.mv 4 (.c (.i .i64 (-1)))])
  (.r))
  (.k)))
  (.q (.o [.mv 38 (.t 1),
   .bn 39 .add (.t 38) (.c (.i .i64 1)),
   .mv 1 (.t 39)])
  (.q (.o [.mv 40 (.t 0),
   .mv 41 (.t 5),
   .ia 42 (.t 40) (.t 41) 4,
   .fa 43 (.t 42) 3,
   .ld 44 (.t 43) none,
   .mv 45 (.t 1),
   .cl (some 46) 56 [(.t 44),(.t 45)],
   .mv 1 (.t 46)])
  (.q (.o [.mv 47 (.t 1),
   .bn 48 .lss (.t 47) (.c (.i .i64 0))])
  (.i (.t 48) (.q (.o [.mv 4 (.c (.i .i64 (-1)))])
  (.r))
  (.k)))))))))))
  (.o [.mv 10 (.t 5),
   .bn 11 .add (.t 10) (.c (.i .i64 1)),
   .mv 5 (.t 11)]))))))
  (.q (.o [.mv 49 (.t 1),
   .mv 4 (.t 49)])
  (.r)))⟩
abbrev YH:Nat:=111
theorem Jek:Qi Go.Proofs.Tryz.prog XF 111=true:=by kernel_rfl
def XV:Fn:=⟨1,[(.c 2 (some 4))],
  .q (.o [.lbx 1 (.t 0),
   .lal 2 (.ag [(.s []),(.i .i64 0),(.i .i64 0),.ns])])
  (.q (.o [.bs 3 (.s []) 1 0 [],
   .fa 4 (.t 1) 3,
   .ld 5 (.t 4) none,
   .ap 6 (.t 3) (.t 5) 1 16,
   .fa 7 (.t 1) 3,
   .st (.t 7) (.t 6) 1])
  (.q (.o [.ld 8 (.t 1) (some 4),
   .st (.t 2) (.t 8) 4])
  (.r)))⟩
abbrev Zo:Nat:=148
theorem Jfg:Qi Go.Proofs.Tryz.prog XV 148=true:=by kernel_rfl
def Zr:Fn:=⟨2,[(.t 4)],
  .q (.o [.lbx 2 (.t 0),
   .mv 4 (.c (.i .i64 0))])
  (.q (.o [.mv 5 (.t 1),
   .fa 6 (.t 2) 0,
   .ld 7 (.t 6) none,
   .lns 8 (.t 7),
   .bn 9 .sub (.t 5) (.t 8),
   .mv 1 (.t 9)])
  (.q (.q (.o [.mv 10 (.t 1),
   .bn 11 .lss (.t 10) (.c (.i .i64 0))])
  (.i (.t 11) (.q (.o [.mv 4 (.c (.i .i64 (-1)))])
  (.r))
  (.k)))
  (.q (.o [.fa 12 (.t 2) 3,
   .ld 13 (.t 12) none,
   .mv 14 (.t 1),
   .cl (some 15) 244 [(.t 13),(.t 14)],
   .mv 1 (.t 15)])
  (.q (.q (.o [.mv 16 (.t 1),
   .bn 17 .lss (.t 16) (.c (.i .i64 0))])
  (.i (.t 17) (.q (.o [.mv 4 (.c (.i .i64 (-1)))])
  (.r))
  (.k)))
  (.q (.o [.mv 18 (.t 1),
   .mv 4 (.t 18)])
  (.r))))))⟩
abbrev Jak:Nat:=165
theorem JhK:Qi Go.Proofs.Tryz.prog Zr 165=true:=by kernel_rfl
def Wl:Fn:=⟨1,[(.c 2 (some 4))],
  .q (.o [.lbx 1 (.t 0),
   .lal 2 (.ag [(.s []),(.i .i64 0),(.i .i64 0),.ns])])
  (.q (.o [.fa 5 (.t 1) 0,
   .ld 6 (.t 5) none,
   .fa 7 (.t 1) 1,
   .ld 8 (.t 7) none,
   .fa 9 (.t 1) 2,
   .ld 10 (.t 9) none,
   .bd 11 [(.s []),(.i .i64 0),(.i .i64 0),.ns] [(0,1,(.t 6)),(1,1,(.t 8)),(2,1,(.t 10))],
   .lal 3 (.ag [(.s []),(.i .i64 0),(.i .i64 0),.ns]),
   .st (.t 3) (.t 11) 4])
  (.q (.q (.o [.mv 4 (.c (.i .i64 0))])
  (.b 0 (.l [1,2,3,4] (.q (.q (.o [.mv 12 (.t 4),
   .fa 13 (.t 1) 3,
   .ld 14 (.t 13) none,
   .ln 15 (.t 14),
   .bn 16 .lss (.t 12) (.t 15)])
  (.i (.t 16) (.k)
  (.x 0)))
  (.q (.b 1 (.p [⟨.fa 19 (.t 3) 3,[],false⟩,
   ⟨.ld 20 (.t 19) none,[],true⟩,
   ⟨.fa 21 (.t 1) 3,[],false⟩,
   ⟨.ld 22 (.t 21) none,[],false⟩,
   ⟨.mv 23 (.t 4),[],false⟩,
   ⟨.ia 24 (.t 22) (.t 23) 1,[],false⟩,
   ⟨.ld 25 (.t 24) none,[],false⟩,
   ⟨.lbs 26 (.s []) 1 1 [(0,(.t 25))],[1],false⟩,
   ⟨.ap 27 (.t 20) (.t 26) 1 16,[],false⟩,
   ⟨.fa 28 (.t 3) 3,[],false⟩,
   ⟨.st (.t 28) (.t 27) 1,[],false⟩]))
  (.o [.mv 17 (.t 4),
   .bn 18 .add (.t 17) (.c (.i .i64 1)),
   .mv 4 (.t 18)]))))))
  (.q (.o [.ld 29 (.t 3) (some 4),
   .st (.t 2) (.t 29) 4])
  (.r))))⟩
abbrev Wd:Nat:=169
theorem Jc1:Qi Go.Proofs.Tryz.prog Wl 169=true:=by kernel_rfl
def Zq:Fn:=⟨1,[(.c 2 (some 4))],
  .q (.o [.lbx 1 (.t 0),
   .lal 2 (.ag [(.s []),(.i .i64 0),(.i .i64 0),.ns])])
  (.q (.o [.lal 3 (.ag [(.s []),(.i .i64 0),(.i .i64 0),.ns])])
  (.q (.o [.fa 4 (.t 1) 0,
   .ld 5 (.t 4) none,
   .fa 6 (.t 3) 0,
   .st (.t 6) (.t 5) 1])
  (.q (.o [.fa 7 (.t 1) 1,
   .ld 8 (.t 7) none,
   .fa 9 (.t 3) 1,
   .st (.t 9) (.t 8) 1])
  (.q (.o [.fa 10 (.t 1) 2,
   .ld 11 (.t 10) none,
   .fa 12 (.t 3) 2,
   .st (.t 12) (.t 11) 1])
  (.q (.o [.fa 13 (.t 1) 3,
   .ld 14 (.t 13) none,
   .cl (some 15) 246 [(.t 14)],
   .fa 16 (.t 3) 3,
   .st (.t 16) (.t 15) 1])
  (.q (.o [.ld 17 (.t 3) (some 4),
   .st (.t 2) (.t 17) 4])
  (.r)))))))⟩
abbrev Jao:Nat:=171
theorem Jg6:Qi Go.Proofs.Tryz.prog Zq 171=true:=by kernel_rfl
def Zu:Fn:=⟨2,[(.t 4)],
  .q (.o [.lbx 2 (.t 0),
   .lbx 3 (.t 1),
   .mv 4 (.c (.b false))])
  (.q (.q (.o [.fa 5 (.t 2) 0,
   .ld 6 (.t 5) none,
   .fa 7 (.t 3) 0,
   .ld 8 (.t 7) none,
   .bn 9 .neq (.t 6) (.t 8)])
  (.i (.t 9) (.q (.o [.mv 4 (.c (.b false))])
  (.r))
  (.k)))
  (.q (.q (.o [.fa 10 (.t 2) 1,
   .ld 11 (.t 10) none,
   .fa 12 (.t 3) 1,
   .ld 13 (.t 12) none,
   .bn 14 .neq (.t 11) (.t 13)])
  (.i (.t 14) (.q (.o [.mv 4 (.c (.b false))])
  (.r))
  (.k)))
  (.q (.q (.o [.fa 15 (.t 2) 2,
   .ld 16 (.t 15) none,
   .fa 17 (.t 3) 2,
   .ld 18 (.t 17) none,
   .bn 19 .neq (.t 16) (.t 18)])
  (.i (.t 19) (.q (.o [.mv 4 (.c (.b false))])
  (.r))
  (.k)))
  (.q (.q (.o [.fa 20 (.t 2) 3,
   .ld 21 (.t 20) none,
   .fa 22 (.t 3) 3,
   .ld 23 (.t 22) none,
   .cl (some 24) 54 [(.t 21),(.t 23)],
   .un 25 .not (.t 24)])
  (.i (.t 25) (.q (.o [.mv 4 (.c (.b false))])
  (.r))
  (.k)))
  (.q (.o [.mv 4 (.c (.b true))])
  (.r))))))⟩
abbrev Jac:Nat:=174
theorem Jhg:Qi Go.Proofs.Tryz.prog Zu 174=true:=by kernel_rfl
def X0:Fn:=⟨3,[(.c 6 (some 4)),(.t 7)],
  .q (.o [.lbx 3 (.t 0),
   .lal 6 (.ag [(.s []),(.i .i64 0),(.i .i64 0),.ns]),
   .mv 7 (.c (.b false))])
  (.q (.q (.o [.mv 8 (.c (.i .i64 0))])
  (.b 0 (.l [1,2,3,6,8] (.q (.q (.o [.mv 9 (.t 8),
   .fa 10 (.t 3) 1,
   .ld 11 (.t 10) none,
   .ln 12 (.t 11),
   .bn 13 .lss (.t 9) (.t 12)])
  (.i (.t 13) (.k)
  (.x 0)))
  (.q (.b 1 (.q (.o [.fa 16 (.t 3) 1,
   .ld 17 (.t 16) none,
   .mv 18 (.t 8),
   .ia 19 (.t 17) (.t 18) 4,
   .fa 20 (.t 19) 1,
   .ld 21 (.t 20) none,
   .mv 22 (.t 2),
   .bn 23 .eql (.t 21) (.t 22),
   .mv 24 (.t 23),
   .gd 24 true (.fa 25 (.t 3) 1),
   .gd 24 true (.ld 26 (.t 25) none),
   .gd 24 true (.mv 27 (.t 8)),
   .gd 24 true (.ia 28 (.t 26) (.t 27) 4),
   .gd 24 true (.fa 29 (.t 28) 0),
   .gd 24 true (.ld 30 (.t 29) none),
   .gd 24 true (.mv 31 (.t 1)),
   .gd 24 true (.cl (some 32) 144 [(.t 30),(.t 31)]),
   .pk 33 (.t 24) (.t 32) (.c (.b false))])
  (.i (.t 33) (.q (.o [.fa 34 (.t 3) 1,
   .ld 35 (.t 34) none,
   .mv 36 (.t 8),
   .ia 37 (.t 35) (.t 36) 4,
   .ld 38 (.t 37) (some 4),
   .cl (some 39) 169 [(.t 38)],
   .st (.t 6) (.t 39) 4,
   .mv 7 (.c (.b true))])
  (.r))
  (.k))))
  (.o [.mv 14 (.t 8),
   .bn 15 .add (.t 14) (.c (.i .i64 1)),
   .mv 8 (.t 15)]))))))
  (.q (.o [.bd 40 [(.s []),(.i .i64 0),(.i .i64 0),.ns] [],
   .st (.t 6) (.t 40) 4,
   .mv 7 (.c (.b false))])
  (.r)))⟩
abbrev Zk:Nat:=175
theorem Jfj:Qi Go.Proofs.Tryz.prog X0 175=true:=by kernel_rfl
def WB:Fn:=⟨2,[(.t 4)],
  .q (.o [.mv 4 (.c (.i .i64 0))])
  (.q (.o [.mv 6 (.t 1),
   .mv 7 (.t 0),
   .ln 8 (.t 7),
   .bn 9 .sub (.t 6) (.t 8),
   .mv 1 (.t 9)])
  (.q (.q (.o [.mv 10 (.t 1),
   .bn 11 .lss (.t 10) (.c (.i .i64 0))])
  (.i (.t 11) (.q (.o [.mv 4 (.c (.i .i64 (-1)))])
  (.r))
  (.k)))
  (.q (.q (.o [.mv 5 (.c (.i .i64 0))])
  (.b 0 (.l [0,1,5] (.q (.q (.o [.mv 12 (.t 5),
   .mv 13 (.t 0),
   .ln 14 (.t 13),
   .bn 15 .lss (.t 12) (.t 14)])
  (.i (.t 15) (.k)
  (.x 0)))
  (.q (.b 1 (.q (.o [.mv 18 (.t 1),
   .mv 19 (.t 0),
   .mv 20 (.t 5),
   .ia 21 (.t 19) (.t 20) 1,
   .ld 22 (.t 21) none,
   .lns 23 (.t 22),
   .bn 24 .sub (.t 18) (.t 23),
   .mv 1 (.t 24)])
  (.q (.o [.mv 25 (.t 1),
   .bn 26 .lss (.t 25) (.c (.i .i64 0))])
  (.i (.t 26) (.q (.o [.mv 4 (.c (.i .i64 (-1)))])
  (.r))
  (.k)))))
  (.o [.mv 16 (.t 5),
   .bn 17 .add (.t 16) (.c (.i .i64 1)),
   .mv 5 (.t 17)]))))))
  (.q (.o [.mv 27 (.t 1),
   .mv 4 (.t 27)])
  (.r)))))⟩
abbrev Yd:Nat:=244
theorem Jds:Qi Go.Proofs.Tryz.prog WB 244=true:=by kernel_rfl
def WE:Fn:=⟨1,[(.t 2)],
  .q (.o [.mv 2 (.c .ns)])
  (.q (.o [.mv 5 (.t 0),
   .ln 6 (.t 5),
   .mk 7 (.s []) 1 16 (.t 6),
   .mv 3 (.t 7)])
  (.q (.q (.o [.mv 4 (.c (.i .i64 0))])
  (.b 0 (.l [0,3,4] (.q (.q (.o [.mv 8 (.t 4),
   .mv 9 (.t 0),
   .ln 10 (.t 9),
   .bn 11 .lss (.t 8) (.t 10)])
  (.i (.t 11) (.k)
  (.x 0)))
  (.q (.b 1 (.o [.mv 14 (.t 3),
   .mv 15 (.t 4),
   .mv 16 (.t 0),
   .mv 17 (.t 4),
   .ia 18 (.t 16) (.t 17) 1,
   .ld 19 (.t 18) none,
   .ia 20 (.t 14) (.t 15) 1,
   .st (.t 20) (.t 19) 1]))
  (.o [.mv 12 (.t 4),
   .bn 13 .add (.t 12) (.c (.i .i64 1)),
   .mv 4 (.t 13)]))))))
  (.q (.o [.mv 21 (.t 3),
   .mv 2 (.t 21)])
  (.r))))⟩
abbrev Ye:Nat:=246
theorem Jdh:Qi Go.Proofs.Tryz.prog WE 246=true:=by kernel_rfl
def JhT (xs:List (List UInt8)):Nat:=(xs.map List.length).sum
theorem Jle {xs:List (List UInt8)} {i:Nat} (h:i < xs.length):JhT (xs.take (i+1))=JhT (xs.take i)+xs[i].length:=by
 unfold JhT;rw [List.take_succ_eq_append_getElem h,List.map_append,List.sum_append];simp
theorem JqI (xs:List (List UInt8)) (i:Nat):JhT (xs.take i)≤JhT xs:=by
 unfold JhT;conv=>rhs;rw [←List.take_append_drop i xs,List.map_append,List.sum_append]
 omega
def lf (left:Int) (n:Nat):Int:=if left-n < 0 then-1 else left-n
theorem JeZ {H:AH} {a:AV} {xs:List (List UInt8)} (h:Sl H 1 a (xs.map AV.s)) {j:Nat} (hj:j < xs.length):slZ H 1 a∧iaC (j:Int) a∧(∀ (L:List Lv) (g:Nat),ldC ⟨L,g,H⟩ none (iaV j a))∧ ∀ (L:List Lv) (g:Nat),ldX ⟨L,g,H⟩ none (iaV j a)= .s xs[j]:=by
 have hg:(xs.map AV.s).getD j .u= .s xs[j]:=by simp [List.getD,hj]
 have ia:=fun (L:List Lv) (g:Nat)=>h.ia1 (j:=j) (v:= .s xs[j]) (by omega) (by rw [List.length_map];omega) (by rw [Jj,hg];rfl) L g
 rw [Jj] at ia;exact ⟨(ia [] 0).1,(ia [] 0).2.1,fun L g=>(ia L g).2.2.1,fun L g=>(ia L g).2.2.2⟩
theorem JbP {H:AH} {a:AV} {xs:List (List UInt8)} (h:Sl H 1 a (xs.map AV.s)):Jhx a= .i .i64 (xs.length:Nat)∧JlE a:=by
 have:=h.len;rwa [List.length_map] at this
section
variable {C:Tab}
def Jlp (C:Tab) (f:Nat):Prop:= ∀ (a:AV) (xs:List (List UInt8)) (left:Int) (H:AH),Sl H 1 a (xs.map AV.s)→0≤left→left≤1099511627776→xs.length≤9223372036854775807→(∀ x,x∈xs→x.length≤9223372036854775807)→C f [a,.i .i64 left] H=some (.i .i64 (lf left (xs.length+JhT xs)),H)
def JlB (C:Tab) (f:Nat):Prop:= ∀ (a:AV) (xs:List (List UInt8)) (H:AH),Sl H 1 a (xs.map AV.s)→xs.length≤1099511627→ ∃ v H',C f [a] H=some (v,H')∧Ext H H'∧Mn H' 1 v (xs.map AV.s)∧ ∀ i,i∈idA v→H.n≤i
def JkR (C:Tab) (f:Nat):Prop:= ∀ (a b:AV) (xs:List (List UInt8)) (H:AH),Sl H 1 a (xs.map AV.s)→Sl H 1 b (xs.map AV.s)→xs.length≤1099511627→C f [a,b] H=some (.b true,H)
def Jmd (k n:Nat):List (List UInt8):=mks mt 1 k n
def JkQ (C:Tab) (f:Nat):Prop:= ∀ (a:AV) (xs:List (List UInt8)) (k:Nat) (H:AH),Mn H 1 a (xs.map AV.s)→k+xs.length≤1099511627776→ ∃ H',C f [a,.i .i64 k] H=some (.i .i64 ((k+xs.length:Nat):Int),H')∧Mn H' 1 a ((Jmd k xs.length).map AV.s)∧Kp (idA a) H H'
theorem JsR {a:AV} {xs:List (List UInt8)} {left:Int} {H:AH} (h:Sl H 1 a (xs.map AV.s)) (h0:0≤left) (hl:left≤1099511627776) (hn:xs.length≤9223372036854775807) (hd: ∀ x,x∈xs→x.length≤9223372036854775807):
  Jt C WB [a,.i .i64 left] H fun v H'=>v= .i .i64 (lf left (xs.length+JhT xs))∧QA H H':=by
 unfold Jt WB;have hk:=JA H;obtain ⟨h1,h2⟩:=JbP h;have hw:IntKind.i64.wrap (left- (xs.length:Int))=left- (xs.length:Int):=w64 (by omega) (by omega)
 by_cases hneg:left- (xs.length:Int) < 0
 ·have hlf:lf left (xs.length+JhT xs)= -1:=by unfold lf;rw [if_pos (by omega)]
  simp -implicitDefEqProofs only [bU,Jc,reduceCtorEq,Ja,bT,bV,Ja,h1,h2,hw,hneg,Jr,rsC,rsV,Js];exact ⟨by rw [hlf],hk⟩
 ·simp -implicitDefEqProofs only [bU,Jc,reduceCtorEq,Ja,bT,bV,Ja,h1,h2,hw,hneg]
  refine Jl (fun n e M=> ∃ (i:Nat) (x:Int) (L:List Lv) (g:Nat),i≤xs.length∧n=xs.length-i∧look e 0=a∧look e 1= .i .i64 x∧look e 5= .i .i64 i∧M=⟨L,g,H⟩∧0≤x∧x≤left∧(xs.length:Int)+(JhT (xs.take i):Nat)+x=left) ?_ (n:=xs.length) ⟨0,left-xs.length,_,_,by omega,by omega,rfl,rfl,rfl,rfl,by omega,by omega,by simp [JhT];omega⟩
  rintro n e M ⟨i,x,L,g,hi,rfl,q0,q1,q5,rfl,hx0,hx1,hx2⟩;by_cases hlt:(i:Int) < xs.length
  ·have hil:i < xs.length:=by omega
   obtain ⟨b1,b2,b3,b4⟩:=JeZ h hil;have hm:=hd _ (List.getElem_mem hil);have ht:=Jle hil;have hle:=JqI xs (i+1);have w1:IntKind.i64.wrap (x- (xs[i].length:Int))=x- (xs[i].length:Int):=w64 (by omega) (by omega)
   have w2:IntKind.i64.wrap ((i:Int)+1)=((i+1:Nat):Int):=by rw [w64 (by omega) (by omega)];rfl
   have bd:xs.length- (i+1) < xs.length-i:=by omega
   by_cases hxn:x- (xs[i].length:Int) < 0
   ·have hlf:lf left (xs.length+JhT xs)= -1:=by unfold lf;rw [if_pos (by omega)]
    simp -implicitDefEqProofs only [bU,Jc,reduceCtorEq,bT,q0,q1,q5,h1,h2,hlt,Jj,b1,b2,b3,b4,w1,hxn,Jr,rsC,rsV,Js];exact ⟨by rw [hlf],hk⟩
   ·simp -implicitDefEqProofs only [bU,Jc,reduceCtorEq,bT,q0,q1,q5,h1,h2,hlt,Jj,b1,b2,b3,b4,w1,w2,hxn]
    exact ⟨_,bd,i+1,x-xs[i].length,_,_,hil,rfl,rfl,rfl,rfl,by omega,by omega,by omega⟩
  ·have hil:i=xs.length:=by omega
   subst hil;rw [List.take_length] at hx2;have hlf:lf left (xs.length+JhT xs)=x:=by unfold lf;rw [if_neg (by omega)];omega
   simp -implicitDefEqProofs only [bU,Jc,reduceCtorEq,bT,q0,q1,q5,h1,h2,hlt,Jr,rsC,rsV,Js];exact ⟨by rw [hlf],hk⟩
theorem Jtw {a b:AV} {xs:List (List UInt8)} {H:AH} (h:Sl H 1 a (xs.map AV.s)) (h':Sl H 1 b (xs.map AV.s)) (hn:xs.length≤1099511627):Jt C Wy [a,b] H fun v H'=>v= .b true∧QA H H':=by
 unfold Jt Wy;have hk:=JA H;obtain ⟨h1,h2⟩:=JbP h;obtain ⟨h3,h4⟩:=JbP h';simp -implicitDefEqProofs only [bU,Jc,reduceCtorEq,Ja,bT,bV,Ja,h1,h2,h3,h4];refine Jl (fun n e M=> ∃ (i:Nat) (L:List Lv) (g:Nat),i≤xs.length∧n=xs.length-i∧look e 0=a∧look e 1=b∧look e 5= .i .i64 i∧M=⟨L,g,H⟩) ?_ (n:=xs.length) ⟨0,_,_,by omega,by omega,rfl,rfl,rfl,rfl⟩
 rintro n e M ⟨i,L,g,hi,rfl,q0,q1,q5,rfl⟩;by_cases hlt:(i:Int) < xs.length
 ·have hil:i < xs.length:=by omega
  obtain ⟨b1,b2,b3,b4⟩:=JeZ h hil;obtain ⟨c1,c2,c3,c4⟩:=JeZ h' hil;have w2:IntKind.i64.wrap ((i:Int)+1)=((i+1:Nat):Int):=by rw [w64 (by omega) (by omega)];rfl
  have bd:xs.length- (i+1) < xs.length-i:=by omega
  simp -implicitDefEqProofs only [bU,Jc,reduceCtorEq,Ja,bT,bV,Ja,q0,q1,q5,h1,h2,hlt,Jj,b1,b2,b3,b4,c1,c2,c3,c4,w2];exact ⟨_,bd,i+1,_,_,hil,rfl,rfl,rfl⟩
 ·simp -implicitDefEqProofs only [bU,Jc,reduceCtorEq,bT,q0,q1,q5,h1,h2,hlt,Jr,rsC,rsV,Js]
  exact hk
end
theorem Mn.sts {H:AH} {a:AV} {cur:List (List UInt8)} {i:Nat} (h:Mn H 1 a (cur.map AV.s)) (hi:i < cur.length) (x:List UInt8):
  slZ H 1 a∧iaC (i:Int) a∧(∀ (L:List Lv) (g:Nat),stC ⟨L,g,H⟩ (.s x) (iaV i a))∧ ∃ H',(∀ (L:List Lv) (g:Nat),stM ⟨L,g,H⟩ (.s x) (iaV i a)=⟨L,g,H'⟩)∧Mn H' 1 a ((cur.set i x).map AV.s)∧H'.n=H.n∧ ∀ j,¬ j∈idA a→H'.at' j=H.at' j:=by
 have hl:(cur.map AV.s).length=cur.length:=by simp
 have hg:(cur.map AV.s).getD i .u= .s cur[i]:=by simp [List.getD,hi]
 have hmap:(cur.map AV.s).set i (.s x)=(cur.set i x).map AV.s:=by simp [List.map_set]
 obtain ⟨h1,h2,h3,-⟩:=(Mn.sl h).ia (j:=i) (by omega) (by rw [hl];omega)
 obtain ⟨h4,H',h5,h6,h7,h8⟩:=Mn.st h (j:=i) (by omega) (by rw [hl];omega) (v:= .s x) (off:=0) (by rw [Int.toNat_natCast,hg];simp [AV.cells]) [] 0
 rw [Int.toNat_natCast,hg] at h6;have hse:Wt (AV.s cur[i]) 0 (.s x)= .s x:=rfl;rw [hse,hmap] at h6;rw [Int.toNat_natCast,fa0] at h4 h5
 have hst: ∀ (L:List Lv) (g:Nat),stC ⟨L,g,H⟩ (.s x) (iaV i a)∧stM ⟨L,g,H⟩ (.s x) (iaV i a)=⟨L,g,H'⟩:=fun L g=>by
  generalize cur.map AV.s=els at h hl;cases h with
  | nil=>simp at hl;omega
  | own k1 k2=>
   refine ⟨h4,?_⟩
   simp only [iaV,stM,k2] at h5 ⊢;have:=congrArg Mem.h h5;simp only at this;rw [this]
 exact ⟨h1,h2,fun L g=>(hst L g).1,H',fun L g=>(hst L g).2,h6,h7,h8⟩
section
variable {C:Tab}
theorem Jq5 {a:AV} {xs:List (List UInt8)} {H:AH} (h:Sl H 1 a (xs.map AV.s)) (hn:xs.length≤1099511627):Jt C WE [a] H fun v H'=>Ext H H'∧Mn H' 1 v (xs.map AV.s)∧ ∀ i,i∈idA v→H.n≤i:=by
 unfold Jt WE;obtain ⟨h1,h2⟩:=JbP h
 have hm0:Mn (H.new (.arr true 0 1 (List.replicate xs.length (.s [])))) 1 (.sl H.n 0 xs.length) ((List.replicate xs.length ([]:List UInt8)).map AV.s):=by
  have:=Mn.own (H:=H.new (.arr true 0 1 (List.replicate xs.length (.s [])))) (z:=1) (by simp) QD
  rw [List.length_replicate] at this;rwa [List.map_replicate]
 have hb1:(0:Int)≤(xs.length:Int):=by omega
 have hb2:(xs.length:Int)*16≤281474976710656:=by omega
 simp -implicitDefEqProofs only [bU,Jc,reduceCtorEq,bT,bV,h1,h2];refine ⟨⟨by omega,hb2,by omega⟩,Jl (fun n e M=> ∃ (i:Nat) (L:List Lv) (g:Nat) (H':AH),i≤xs.length∧n=xs.length-i∧look e 0=a∧look e 3= .sl H.n 0 xs.length∧look e 4= .i .i64 i∧M=⟨L,g,H'⟩∧Ext H H'∧Mn H' 1 (.sl H.n 0 xs.length) ((xs.take i++List.replicate (xs.length-i) []).map AV.s)) ?_ (n:=xs.length) ⟨0,_,_,_,by omega,by omega,rfl,rfl,rfl,rfl,.new _ _,by simpa [Jj] using hm0⟩⟩
 rintro n e M ⟨i,L,g,H',hi,rfl,q0,q3,q4,rfl,he,hm⟩;by_cases hlt:(i:Int) < xs.length
 ·have hil:i < xs.length:=by omega
  obtain ⟨b1,b2,b3,b4⟩:=JeZ (Sl.ext h he) hil;have hlen:(xs.take i++List.replicate (xs.length-i) ([]:List UInt8)).length=xs.length:=by simp;omega
  obtain ⟨c1,c2,c3,H2,c4,c5,c6,c7⟩:=hm.sts (i:=i) (by rw [hlen];exact hil) xs[i]
  have e3:=Jdb (l:=xs) (i:=i) (z:=[]) (d:=[]) hil;rw [show xs.getD i []=xs[i] by simp [List.getD,hil]] at e3
  rw [e3] at c5;have w2:IntKind.i64.wrap ((i:Int)+1)=((i+1:Nat):Int):=by rw [w64 (by omega) (by omega)];rfl
  have bd:xs.length- (i+1) < xs.length-i:=by omega
  simp -implicitDefEqProofs only [bU,Jc,reduceCtorEq,bT,bV,q0,q3,q4,h1,h2,hlt,Jj,b1,b2,b3,b4,c1,c2,c3,c4,w2];exact ⟨_,bd,i+1,_,_,H2,hil,rfl,rfl,rfl,he.put (l:=[H.n]) (by simp) (Nat.le_of_eq c6.symm) (fun j _ hj=>c7 j hj),c5⟩
 ·have hil:i=xs.length:=by omega
  subst hil;rw [Nat.sub_self,List.replicate_zero,List.append_nil,List.take_length] at hm;simp -implicitDefEqProofs only [bU,Jc,reduceCtorEq,bT,q0,q3,q4,h1,h2,hlt,Jr,rsC,rsV,Js];exact ⟨he,hm,by simp [idA]⟩
theorem JtJ {a:AV} {xs:List (List UInt8)} {k:Nat} {H:AH} (hM:JqR C QJ) (h:Mn H 1 a (xs.map AV.s)) (hb:k+xs.length≤1099511627776):Jt C QS [a,.i .i64 k] H fun v H'=>v= .i .i64 ((k+xs.length:Nat):Int)∧Mn H' 1 a ((Jmd k xs.length).map AV.s)∧Kp (idA a) H H':=by
 unfold Jt QS Jmd;simp -implicitDefEqProofs only [bU,Ja,bV,Ja];refine Jl (fun n e M=> ∃ (i:Nat) (H':AH) (L:List Lv) (g:Nat),i≤xs.length∧n=xs.length-i∧look e 0=a∧look e 1= .i .i64 ((k+i:Nat):Int)∧look e 5= .i .i64 i∧M=⟨L,g,H'⟩∧Mn H' 1 a ((mks mt 1 k i++xs.drop i).map AV.s)∧Kp (idA a) H H') ?_ (n:=xs.length) ⟨0,_,_,_,by omega,by omega,rfl,rfl,rfl,rfl,by simpa [mks] using h,.refl _ _⟩
 rintro n e M ⟨i,H0,L,g,hi,rfl,q0,q1,q5,rfl,m0,hk⟩;obtain ⟨l1,l2⟩:=JbP (Mn.sl m0);have c1:(mks mt 1 k i++xs.drop i).length=xs.length:=by simp [mks];omega
 rw [c1] at l1;by_cases hlt:(i:Int) < xs.length
 ·have hil:i < xs.length:=by omega
  obtain ⟨G0,t0,u0⟩:=hM (k+i) H0 (by omega)
  obtain ⟨a0,b0,s0,H1,e0,m1,n0,f0⟩:=(Mn.ext m0 u0).sts (i:=i) (by rw [c1];exact hil) (mt (k+i))
  have hst:=JmA (mk:=mt) (c:=1) (k:=k) hil;rw [Nat.one_mul] at hst;rw [hst] at m1;have p0:=(hk.trans (Kp.ext u0)).trans (Kp.st n0 f0);have w0:IntKind.i64.wrap (((k+i:Nat):Int)+1)=((k+(i+1):Nat):Int):=by rw [w64 (by omega) (by omega)];omega
  have w2:IntKind.i64.wrap ((i:Int)+1)=((i+1:Nat):Int):=by rw [w64 (by omega) (by omega)];rfl
  have bd:xs.length- (i+1) < xs.length-i:=by omega
  simp -implicitDefEqProofs only [bU,Jc,reduceCtorEq,bT,bV,q0,q1,q5,l1,l2,hlt,Jj,t0,a0,b0,s0,e0,w0,w2];exact ⟨_,bd,i+1,H1,_,_,hil,rfl,rfl,rfl,rfl,m1,p0⟩
 ·have hil:i=xs.length:=by omega
  subst hil;simp -implicitDefEqProofs only [bU,Jc,reduceCtorEq,bT,q0,q1,q5,l1,l2,hlt,Jr,rsC,rsV,Js];exact ⟨by simpa using m0,hk⟩
end
theorem Mn.stA {H:AH} {z:Nat} {a:AV} {els:List AV} {i off:Nat} {v:AV} (h:Mn H z a els) (hi:i < els.length) (hv:off+v.cells.length≤(els.getD i .u).cells.length):
  slZ H z a∧iaC (i:Int) a∧faC (iaV i a)∧(∀ (L:List Lv) (g:Nat),stC ⟨L,g,H⟩ v (faV off (iaV i a)))∧ ∃ H',(∀ (L:List Lv) (g:Nat),stM ⟨L,g,H⟩ v (faV off (iaV i a))=⟨L,g,H'⟩)∧Mn H' z a (els.set i (Wt (els.getD i .u) off v))∧H'.n=H.n∧ ∀ j,¬ j∈idA a→H'.at' j=H.at' j:=by
 obtain ⟨h1,h2,h3,-⟩:=(Mn.sl h).ia (j:=i) (by omega) (by omega)
 rw [Int.toNat_natCast] at h3;obtain ⟨h4,H',h5,h6,h7,h8⟩:=Mn.st h (j:=i) (by omega) (by omega) (v:=v) (off:=off) (by rw [Int.toNat_natCast];exact hv) [] 0
 rw [Int.toNat_natCast] at h4 h5 h6
 have hst: ∀ (L:List Lv) (g:Nat),stC ⟨L,g,H⟩ v (faV off (iaV i a))∧stM ⟨L,g,H⟩ v (faV off (iaV i a))=⟨L,g,H'⟩:=fun L g=>by
  cases h with
  | nil=>simp at hi
  | own k1 k2=>
   refine ⟨h4,?_⟩
   simp only [iaV,faV,stM,k2] at h5 ⊢;have:=congrArg Mem.h h5;simp only at this;rw [this]
 exact ⟨h1,h2,h3,fun L g=>(hst L g).1,H',fun L g=>(hst L g).2,h6,h7,h8⟩
section
variable {H H1:AH} {n0:Nat} {zs:AV} {sets:List Qa} {ds:List AV}
theorem ZM.put (h:ZM H n0 zs sets ds) (he:Ext H H1) {i:Nat} (hi:i < sets.length) (hid:i < ds.length) {s:Qa} {d':AV} (hd:Mn H1 1 d' (s.d.map AV.s)) (hf: ∀ j,j∈idA d'→H.n≤j) (hn:n0≤H.n):
  slZ H1 4 zs∧iaC (i:Int) zs∧(∀ (L:List Lv) (g:Nat),stC ⟨L,g,H1⟩ (sV s d') (iaV i zs))∧ ∃ H2,(∀ (L:List Lv) (g:Nat),stM ⟨L,g,H1⟩ (sV s d') (iaV i zs)=⟨L,g,H2⟩)∧ZM H2 n0 zs (sets.set i s) (ds.set i d')∧H2.n=H1.n∧ ∀ j,¬ j∈idA zs→H2.at' j=H1.at' j:=by
 have h1:=h.ext he;have hg:=JiT hi hid;obtain ⟨a1,a2,-,a4,H2,a5,a6,a7,a8⟩:=h1.row.stA (i:=i) (off:=0) (v:=sV s d') (by rw [QK h.len];exact hi) (by rw [hg];simp [JaN])
 rw [fa0] at a4 a5;have hnd:=List.nodup_append.1 h.nd;have hfm:=Jan.1 hnd.2.1
 have hset:(List.zipWith sV sets ds).set i (Wt ((List.zipWith sV sets ds).getD i .u) 0 (sV s d'))=List.zipWith sV (sets.set i s) (ds.set i d'):=by
  rw [hg];apply List.ext_getElem (by simp)
  intro j h1 h2;rw [List.getElem_set];simp only [List.getElem_zipWith,List.getElem_set];by_cases e:i=j
  ·subst e
   simp [sV,Wt,Wu,AV.cells]
  ·simp [e]
 rw [hset] at a6;have hzlt: ∀ j,j∈idA zs→j < H.n:=h.row.lt;refine ⟨a1,a2,a4,H2,a5,⟨a6,by simp [h.len],fun k k1 k2=> ?_,?_,fun j hj=> ?_⟩,a7,a8⟩
 ·simp only [List.length_set] at k1 k2
  simp only [List.getElem_set];by_cases e:i=k
  ·subst e
   simp only [if_true];exact hd.fr (by omega) fun j hj=>a8 j fun hz=>by have:=hzlt j hz;have:=hf j hj;omega
  ·simp only [if_neg e]
   exact (h1.dat k k1 k2).fr (by omega) fun j hj=>a8 j fun hz=>hnd.2.2 j hz j (List.mem_flatMap.2 ⟨_,List.getElem_mem k2,hj⟩) rfl
 ·refine List.nodup_append.2 ⟨JaG _,?_,fun a ha b hb hab=> ?_⟩
  ·rw [Jan]
   intro p hp q hq hpq u hu hu2;simp only [List.length_set] at hp hq;rw [List.getElem_set] at hu hu2;have hlt: ∀ r (hr:r < ds.length),u∈idA ds[r]→u < H.n:=fun r hr hm=>(h.dat r (by rw [←h.len];exact hr) hr).lt u hm
   by_cases e1:i=p
   ·rw [if_pos e1] at hu
    rw [if_neg fun e2=>hpq (e1.symm.trans e2)] at hu2
    have:=hf u hu;have:=hlt q hq hu2;omega
   ·rw [if_neg e1] at hu
    by_cases e2:i=q
    ·rw [if_pos e2] at hu2
     have:=hf u hu2;have:=hlt p hp hu;omega
    ·rw [if_neg e2] at hu2
     exact hfm p hp q hq hpq u hu hu2
  ·subst hab
   rcases Xn hb with hd2 | ⟨j,hj,-,hd2⟩
   ·have:=hf a hd2;have:=hzlt a ha;omega
   ·exact hnd.2.2 a ha a (List.mem_flatMap.2 ⟨_,List.getElem_mem hj,hd2⟩) rfl
 ·rcases List.mem_append.1 hj with hj | hj
  ·exact h.ge j (List.mem_append_left _ hj)
  ·rcases Xn hj with hd2 | ⟨k,hk,-,hd2⟩
   ·have:=hf j hd2;omega
   ·exact h.ge j (List.mem_append_right _ (List.mem_flatMap.2 ⟨_,List.getElem_mem hk,hd2⟩))
theorem ZM.stF (h:ZM H n0 zs sets ds) {i off:Nat} (hi:i < sets.length) (hid:i < ds.length) {s':Qa} {v:AV} (hv:v.cells=[v]) (ho:off < 4) (hs:[AV.s sets[i].o,.i .i64 sets[i].t,.i .i64 sets[i].ttl,ds[i]].set off v=[.s s'.o,.i .i64 s'.t,.i .i64 s'.ttl,ds[i]]) (hd:s'.d=sets[i].d):
  slZ H 4 zs∧iaC (i:Int) zs∧faC (iaV i zs)∧(∀ (L:List Lv) (g:Nat),stC ⟨L,g,H⟩ v (faV off (iaV i zs)))∧ ∃ H2,(∀ (L:List Lv) (g:Nat),stM ⟨L,g,H⟩ v (faV off (iaV i zs))=⟨L,g,H2⟩)∧ZM H2 n0 zs (sets.set i s') ds∧H2.n=H.n∧ ∀ j,¬ j∈idA zs→H2.at' j=H.at' j:=by
 have hg:=JiT hi hid;obtain ⟨a1,a2,a3,a4,H2,a5,a6,a7,a8⟩:=h.row.stA (i:=i) (off:=off) (v:=v) (by rw [QK h.len];exact hi) (by rw [hg];simp [JaN,hv];omega)
 have hnd:=List.nodup_append.1 h.nd
 have hse:Wt (sV sets[i] ds[i]) off v=sV s' ds[i]:=by
  simp only [sV,Wt,Wu,hv,List.length_singleton];rw [←hs,List.set_eq_take_append_cons_drop,if_pos (by simpa using ho)]
  simp
 have hset:(List.zipWith sV sets ds).set i (Wt ((List.zipWith sV sets ds).getD i .u) off v)=List.zipWith sV (sets.set i s') ds:=by
  rw [hg,hse];apply List.ext_getElem (by simp)
  intro j h1 h2;rw [List.getElem_set];simp only [List.getElem_zipWith,List.getElem_set];by_cases e:i=j
  ·subst e;simp
  ·simp [e]
 rw [hset] at a6;refine ⟨a1,a2,a3,a4,H2,a5,⟨a6,by simp [h.len],fun k k1 k2=> ?_,h.nd,h.ge⟩,a7,a8⟩
 simp only [List.length_set] at k1;have hkeep:=(h.dat k k1 k2).fr (by omega:H.n≤H2.n) fun j hj=>a8 j fun hz=>hnd.2.2 j hz j (List.mem_flatMap.2 ⟨_,List.getElem_mem k2,hj⟩) rfl
 simp only [List.getElem_set];by_cases e:i=k
 ·subst e
  simp only [if_true,hd];exact hkeep
 ·simp only [if_neg e];exact hkeep
theorem ZM.inp (h:ZM H n0 zs sets ds) {k:Nat} (hk:k < sets.length) (hkd:k < ds.length) {ys:List (List UInt8)} (hy:Mn H1 1 ds[k] (ys.map AV.s)) (hp:Kp (idA ds[k]) H H1):ZM H1 n0 zs (sets.set k {sets[k] with d:=ys}) ds where
 row:=by
  have e:List.zipWith sV (sets.set k {sets[k] with d:=ys}) ds=List.zipWith sV sets ds:=by
   apply List.ext_getElem (by simp)
   intro j h1 h2;simp only [List.getElem_zipWith,List.getElem_set];by_cases e:k=j
   ·subst e;simp [sV]
   ·simp [e]
  rw [e];have hnd:=(List.nodup_append.1 h.nd).2.2;exact hp.mn h.row fun i hi hd=>hnd i hi i (List.mem_flatMap.2 ⟨_,List.getElem_mem hkd,hd⟩) rfl
 len:=by simp [h.len]
 dat i h1 h2:=by
  simp only [List.length_set] at h1;simp only [List.getElem_set];by_cases e:k=i
  ·subst e
   simp only [if_true];exact hy
  ·simp only [if_neg e]
   have hfm:=Jan.1 (List.nodup_append.1 h.nd).2.1;exact hp.mn (h.dat i h1 h2) fun j hj hd=>hfm i h2 k hkd (fun h=>e h.symm) j hj hd
 nd:=h.nd
 ge:=h.ge
end
def wS (s:Qa):Nat:=s.o.length+(s.d.length+JhT s.d)
def wT (l:List Qa):Nat:=(l.map wS).sum
def wZ (z:Zn):Nat:=z.a.length+(z.s.length+wT z.s)
theorem Jo7 {l:List Qa} {i:Nat} (h:i < l.length):wT (l.take (i+1))=wT (l.take i)+wS l[i]:=by
 unfold wT;rw [List.take_succ_eq_append_getElem h,List.map_append,List.sum_append];simp
theorem Juu (l:List Qa) (i:Nat):wT (l.take i)≤wT l:=by
 unfold wT;conv=>rhs;rw [←List.take_append_drop i l,List.map_append,List.sum_append]
 omega
def JpB (s:Qa):Prop:=s.o.length≤9223372036854775807∧s.d.length≤9223372036854775807∧ ∀ x,x∈s.d→x.length≤9223372036854775807
structure Jrv (z:Zn):Prop where
 a:z.a.length≤9223372036854775807
 s:z.s.length≤9223372036854775807
 p: ∀ s,s∈z.s→JpB s
theorem Jia {α:Type} {f:α→Nat} {l:List α} {x:α} (h:x∈l):f x≤(l.map f).sum:=by
 induction l with
 | nil=>cases h
 | cons y r ih=>
  simp only [List.map_cons,List.sum_cons];rcases List.mem_cons.1 h with rfl | h
  ·omega
  ·have:=ih h;omega
theorem SzZ.of {z:Zn} (h:wZ z≤1048576):SzZ z:=by
 unfold wZ at h
 have hc:Jam z.s≤wT z.s:=by
  unfold Jam wT;generalize z.s=l;induction l with
  | nil=>simp
  | cons s r ih=>
   simp only [List.map_cons,List.sum_cons];have:s.d.length≤wS s:=by unfold wS;omega
   omega
 refine ⟨by omega,by omega,by omega,fun s hs=> ?_,fun s hs d hd=> ?_⟩
 ·have h1:wS s≤wT z.s:=Jia hs
  unfold wS at h1;omega
 ·have h1:wS s≤wT z.s:=Jia hs
  have h2:d.length≤JhT s.d:=Jia (f:=List.length) hd;unfold wS at h1;omega
section
variable {C:Tab}
def JiC (C:Tab) (f:Nat):Prop:= ∀ (s:Qa) (d:AV) (left:Int) (H:AH),Sl H 1 d (s.d.map AV.s)→0≤left→left≤1099511627776→JpB s→C f [sV s d,.i .i64 left] H=some (.i .i64 (lf left (wS s)),H)
def Jgm (C:Tab) (f:Nat):Prop:= ∀ (zs:AV) (sets:List Qa) (ds:List AV) (left:Int) (H:AH),ZS H zs sets ds→0≤left→left≤1099511627776→sets.length≤9223372036854775807→(∀ s,s∈sets→JpB s)→C f [zs,.i .i64 left] H=some (.i .i64 (lf left (sets.length+wT sets)),H)
def Jgx (C:Tab) (f:Nat):Prop:= ∀ (z:Zn) (zs:AV) (ds:List AV) (left:Int) (H:AH),ZS H zs z.s ds→0≤left→left≤1099511627776→Jrv z→C f [.ag [.s z.a,zs],.i .i64 left] H=some (.i .i64 (lf left (wZ z)),H)
def Jh9 (C:Tab) (f:Nat):Prop:= ∀ (s:Qa) (d d':AV) (H:AH),Sl H 1 d (s.d.map AV.s)→Sl H 1 d' (s.d.map AV.s)→s.d.length≤1099511627→C f [sV s d,sV s d'] H=some (.b true,H)
def JfS (C:Tab) (f:Nat):Prop:= ∀ (zs zs':AV) (sets:List Qa) (ds ds':List AV) (H:AH),ZS H zs sets ds→ZS H zs' sets ds'→sets.length≤1099511627→(∀ s,s∈sets→s.d.length≤1099511627)→C f [zs,zs'] H=some (.b true,H)
def JdL (C:Tab) (f:Nat):Prop:= ∀ (z:Zn) (zs zs':AV) (ds ds':List AV) (H:AH),ZS H zs z.s ds→ZS H zs' z.s ds'→SzZ z→C f [.ag [.s z.a,zs],.ag [.s z.a,zs']] H=some (.b true,H)
theorem JsY {left:Int} {a b:Nat} (h:0≤left- (a:Nat)):lf (left- (a:Nat)) b=lf left (a+b):=by
 unfold lf;by_cases h2:left- (a:Nat)- (b:Nat) < 0
 ·rw [if_pos h2,if_pos (by omega)]
 ·rw [if_neg h2,if_neg (by omega)];omega
theorem Jda {left:Int} {a:Nat} (h:left- (a:Nat) < 0):lf left a= -1:=by unfold lf;rw [if_pos h]
theorem Jhy {left:Int} {a:Nat} (h: ¬ left- (a:Nat) < 0):lf left a=left- (a:Nat):=by unfold lf;rw [if_neg h]
theorem JpH {s:Qa} {d:AV} {left:Int} {H:AH} (hC:Jlp C Yd) (h:Sl H 1 d (s.d.map AV.s)) (h0:0≤left) (hl:left≤1099511627776) (hp:JpB s):Jt C Zr [sV s d,.i .i64 left] H fun v H'=>v= .i .i64 (lf left (wS s))∧QA H H':=by
 unfold Jt Zr;have hk:=JA H;obtain ⟨p1,p2,p3⟩:=hp;have w0:IntKind.i64.wrap (left- (s.o.length:Int))=left- (s.o.length:Int):=w64 (by omega) (by omega)
 have dO:=h.out;unfold wS;by_cases h1:left- (s.o.length:Int) < 0
 ·rw [Jda (by omega)]
  simp -implicitDefEqProofs only [bU,Jc,reduceCtorEq,Ja,bT,bV,Ja,sV,w0,h1,Jr,rsC,rsV,Js];exact hk
 ·have k1:=hC d s.d (left- (s.o.length:Int)) H h (by omega) (by omega) p2 p3
  rw [JsY (by omega)] at k1
  generalize s.o.length+(s.d.length+JhT s.d)=n at k1 ⊢;by_cases h2:left- (n:Nat) < 0
  ·rw [Jda h2] at k1 ⊢
   simp -implicitDefEqProofs only [bU,Jc,reduceCtorEq,Ja,bT,bV,Ja,sV,w0,h1,k1,dO,Int.reduceNeg,Ji,Jr,rsC,rsV,Js];exact hk
  ·rw [Jhy h2] at k1 ⊢
   simp -implicitDefEqProofs only [bU,Jc,reduceCtorEq,Ja,bT,bV,Ja,sV,w0,h1,k1,dO,h2,Jr,rsC,rsV,Js];exact hk
theorem JmB {zs:AV} {sets:List Qa} {ds:List AV} {left:Int} {H:AH} (hC:JiC C Jak) (h:ZS H zs sets ds) (h0:0≤left) (hl:left≤1099511627776) (hn:sets.length≤9223372036854775807) (hp: ∀ s,s∈sets→JpB s):
  Jt C YG [zs,.i .i64 left] H fun v H'=>v= .i .i64 (lf left (sets.length+wT sets))∧QA H H':=by
 unfold Jt YG;have hk:=JA H;obtain ⟨h1,h2⟩:=h.row.len;rw [QK h.len] at h1;have hw:IntKind.i64.wrap (left- (sets.length:Int))=left- (sets.length:Int):=w64 (by omega) (by omega)
 by_cases hneg:left- (sets.length:Int) < 0
 ·rw [Jda (by omega)]
  simp -implicitDefEqProofs only [bU,Jc,reduceCtorEq,Ja,bT,bV,Ja,h1,h2,hw,hneg,Jr,rsC,rsV,Js];exact hk
 ·simp -implicitDefEqProofs only [bU,Jc,reduceCtorEq,Ja,bT,bV,Ja,h1,h2,hw,hneg]
  refine Jl (fun n e M=> ∃ (i:Nat) (x:Int) (L:List Lv) (g:Nat),i≤sets.length∧n=sets.length-i∧look e 0=zs∧look e 1= .i .i64 x∧look e 5= .i .i64 i∧M=⟨L,g,H⟩∧0≤x∧x≤left∧(sets.length:Int)+(wT (sets.take i):Nat)+x=left) ?_ (n:=sets.length) ⟨0,left-sets.length,_,_,by omega,by omega,rfl,rfl,rfl,rfl,by omega,by omega,by simp [wT];omega⟩
  rintro n e M ⟨i,x,L,g,hi,rfl,q0,q1,q5,rfl,hx0,hx1,hx2⟩;by_cases hlt:(i:Int) < sets.length
  ·have hil:i < sets.length:=by omega
   have hid:i < ds.length:=by rw [h.len];exact hil
   obtain ⟨a1,a2,a3,-,-,-,-,-,a9,a10⟩:=h.at' hil hid;have k1:=hC sets[i] ds[i] x H (h.dat i hil hid) hx0 (by omega) (hp _ (List.getElem_mem hil))
   have ht:=Jo7 hil;have hle:=Juu sets (i+1);have so:(sV sets[i] ds[i]).outs=true:=rfl;have w2:IntKind.i64.wrap ((i:Int)+1)=((i+1:Nat):Int):=by rw [w64 (by omega) (by omega)];rfl
   have bd:sets.length- (i+1) < sets.length-i:=by omega
   by_cases hxn:x- (wS sets[i]:Nat) < 0
   ·rw [Jda hxn] at k1
    rw [Jda (by omega)]
    simp -implicitDefEqProofs only [bU,Jc,reduceCtorEq,bT,q0,q1,q5,h1,h2,hlt,Jj,a1,a2,a9,a10,so,k1,Int.reduceNeg,Ji,Jr,rsC,rsV,Js];exact hk
   ·rw [Jhy hxn] at k1
    simp -implicitDefEqProofs only [bU,Jc,reduceCtorEq,bT,q0,q1,q5,h1,h2,hlt,Jj,a1,a2,a9,a10,so,k1,hxn,w2];exact ⟨_,bd,i+1,x- (wS sets[i]:Nat),_,_,hil,rfl,rfl,rfl,rfl,by omega,by omega,by omega⟩
  ·have hil:i=sets.length:=by omega
   subst hil;rw [List.take_length] at hx2;rw [Jhy (by omega),show left- ((sets.length+wT sets:Nat):Int)=x by omega]
   simp -implicitDefEqProofs only [bU,Jc,reduceCtorEq,bT,q0,q1,q5,h1,h2,hlt,Jr,rsC,rsV,Js];exact hk
theorem Jns {z:Zn} {zs:AV} {ds:List AV} {left:Int} {H:AH} (hC:Jgm C ZG) (h:ZS H zs z.s ds) (h0:0≤left) (hl:left≤1099511627776) (hp:Jrv z):Jt C Yw [.ag [.s z.a,zs],.i .i64 left] H fun v H'=>v= .i .i64 (lf left (wZ z))∧QA H H':=by
 unfold Jt Yw;have hk:=JA H;obtain ⟨p1,p2,p3⟩:=hp;have w0:IntKind.i64.wrap (left- (z.a.length:Int))=left- (z.a.length:Int):=w64 (by omega) (by omega)
 have dO:=h.row.out;unfold wZ;by_cases h1:left- (z.a.length:Int) < 0
 ·rw [Jda (by omega)]
  simp -implicitDefEqProofs only [bU,Jc,reduceCtorEq,Ja,bT,bV,Ja,w0,h1,Jr,rsC,rsV,Js];exact hk
 ·have k1:=hC zs z.s ds (left- (z.a.length:Int)) H h (by omega) (by omega) p2 p3
  rw [JsY (by omega)] at k1
  generalize z.a.length+(z.s.length+wT z.s)=n at k1 ⊢;by_cases h2:left- (n:Nat) < 0
  ·rw [Jda h2] at k1 ⊢
   simp -implicitDefEqProofs only [bU,Jc,reduceCtorEq,Ja,bT,bV,Ja,w0,h1,k1,dO,Int.reduceNeg,Ji,Jr,rsC,rsV,Js];exact hk
  ·rw [Jhy h2] at k1 ⊢
   simp -implicitDefEqProofs only [bU,Jc,reduceCtorEq,Ja,bT,bV,Ja,w0,h1,k1,dO,h2,Jr,rsC,rsV,Js];exact hk
theorem Jqn {s:Qa} {d d':AV} {H:AH} (hC:JkR C Yg) (h:Sl H 1 d (s.d.map AV.s)) (h':Sl H 1 d' (s.d.map AV.s)) (hn:s.d.length≤1099511627):Jt C Zu [sV s d,sV s d'] H fun v H'=>v= .b true∧QA H H':=by
 unfold Jt Zu;have hk:=JA H;have k1:=hC d d' s.d H h h' hn;have o1:=h.out;have o2:=h'.out;simp -implicitDefEqProofs only [bU,Jc,reduceCtorEq,Ja,Jb,bT,bV,Ja,Jb,sV,k1,o1,o2,Jr,rsC,rsV,Js];exact hk
theorem Jmr {zs zs':AV} {sets:List Qa} {ds ds':List AV} {H:AH} (hC:Jh9 C Jac) (h:ZS H zs sets ds) (h':ZS H zs' sets ds') (hn:sets.length≤1099511627) (hd: ∀ s,s∈sets→s.d.length≤1099511627):Jt C YV [zs,zs'] H fun v H'=>v= .b true∧QA H H':=by
 unfold Jt YV;have hk:=JA H;obtain ⟨h1,h2⟩:=h.row.len;obtain ⟨h3,h4⟩:=h'.row.len;rw [QK h.len] at h1;rw [QK h'.len] at h3;simp -implicitDefEqProofs only [bU,Jc,reduceCtorEq,Ja,bT,bV,Ja,h1,h2,h3,h4];refine Jl (fun n e M=> ∃ (i:Nat) (L:List Lv) (g:Nat),i≤sets.length∧n=sets.length-i∧look e 0=zs∧look e 1=zs'∧look e 5= .i .i64 i∧M=⟨L,g,H⟩) ?_ (n:=sets.length) ⟨0,_,_,by omega,by omega,rfl,rfl,rfl,rfl⟩
 rintro n e M ⟨i,L,g,hi,rfl,q0,q1,q5,rfl⟩;by_cases hlt:(i:Int) < sets.length
 ·have hil:i < sets.length:=by omega
  have hid:i < ds.length:=by rw [h.len];exact hil
  have hid':i < ds'.length:=by rw [h'.len];exact hil
  obtain ⟨a1,a2,a3,-,-,-,-,-,a9,a10⟩:=h.at' hil hid;obtain ⟨b1,b2,b3,-,-,-,-,-,b9,b10⟩:=h'.at' hil hid';have k1:=hC sets[i] ds[i] ds'[i] H (h.dat i hil hid) (h'.dat i hil hid') (hd _ (List.getElem_mem hil));have so:(sV sets[i] ds[i]).outs=true:=rfl;have so':(sV sets[i] ds'[i]).outs=true:=rfl;have w2:IntKind.i64.wrap ((i:Int)+1)=((i+1:Nat):Int):=by rw [w64 (by omega) (by omega)];rfl
  have bd:sets.length- (i+1) < sets.length-i:=by omega
  simp -implicitDefEqProofs only [bU,Jc,reduceCtorEq,Ja,bT,bV,Ja,q0,q1,q5,h1,h2,hlt,Jj,a1,a2,a9,a10,b1,b2,b9,b10,so,so',k1,w2];exact ⟨_,bd,i+1,_,_,hil,rfl,rfl,rfl⟩
 ·simp -implicitDefEqProofs only [bU,Jc,reduceCtorEq,bT,q0,q1,q5,h1,h2,hlt,Jr,rsC,rsV,Js]
  exact hk
theorem JnX {z:Zn} {zs zs':AV} {ds ds':List AV} {H:AH} (hC:JfS C ZL) (h:ZS H zs z.s ds) (h':ZS H zs' z.s ds') (hz:SzZ z):Jt C Y0 [.ag [.s z.a,zs],.ag [.s z.a,zs']] H fun v H'=>v= .b true∧QA H H':=by
 unfold Jt Y0;have hk:=JA H;have k1:=hC zs zs' z.s ds ds' H h h' (by have:=hz.s;omega) fun s hs=>by have:=Jah hs;have:=hz.c;omega
 have o1:=h.row.out;have o2:=h'.row.out;simp -implicitDefEqProofs only [bU,Jc,reduceCtorEq,Ja,bT,bV,Ja,k1,o1,o2,Jr,rsC,rsV,Js];exact hk
end
def zS0:Qa:=⟨[],0,0,[]⟩
theorem ZM.mk0 (H:AH) (n:Nat):ZM (H.new (.arr true 0 4 (List.replicate n (.ag [.s [],.i .i64 0,.i .i64 0,.ns])))) H.n (.sl H.n 0 n) (List.replicate n zS0) (List.replicate n .ns) where
 row:=by
  have e:List.zipWith sV (List.replicate n zS0) (List.replicate n .ns)=List.replicate n (.ag [.s [],.i .i64 0,.i .i64 0,.ns]):=by
   rw [List.zipWith_replicate,Nat.min_self];rfl
  rw [e];have:=Mn.own (H:=H.new (.arr true 0 4 (List.replicate n (.ag [.s [],.i .i64 0,.i .i64 0,.ns])))) (z:=4) (by simp) QD
  rwa [List.length_replicate] at this
 len:=by simp
 dat i h1 h2:=by simp only [List.getElem_replicate];exact .nil
 nd:=by
  have:(List.replicate n AV.ns).flatMap idA=[]:=by
   induction n with
   | zero=>rfl
   | succ n ih=>simp [List.replicate_succ,idA]
  rw [this];simp [idA]
 ge i hi:=by
  have:(List.replicate n AV.ns).flatMap idA=[]:=by
   induction n with
   | zero=>rfl
   | succ n ih=>simp [List.replicate_succ,idA]
  rw [this] at hi;simp [idA] at hi;omega
def Jor (k n:Nat):Qa:=⟨mt k,((k+1:Nat):Int),((k+2:Nat):Int),Jmd (k+3) n⟩
def mkE (k:Nat) (ns:List Nat):Nat:=k+(ns.map fun n=>3+n).sum
def Jas (k:Nat) (ns:List Nat):List Qa:=(List.range ns.length).map fun i=>Jor (mkE k (ns.take i)) (ns.getD i 0)
theorem JiS {k:Nat} {ns:List Nat} {i:Nat} (h:i < ns.length):mkE k (ns.take (i+1))=mkE k (ns.take i)+3+ns[i]:=by
 unfold mkE;rw [List.take_succ_eq_append_getElem h,List.map_append,List.sum_append];simp;omega
theorem JoE (k:Nat) (ns:List Nat) (i:Nat):mkE k (ns.take i)≤mkE k ns:=by
 unfold mkE;conv=>rhs;rw [←List.take_append_drop i ns,List.map_append,List.sum_append]
 omega
theorem Z7 (k:Nat) (ns:List Nat):(Jas k ns).length=ns.length:=by simp [Jas]
theorem JhF {k:Nat} {ns:List Nat} {i:Nat} (h:i < ns.length):(Jas k ns)[i]'(by rw [Z7];exact h)=Jor (mkE k (ns.take i)) ns[i]:=by
 simp [Jas,List.getD,h]
def Jie (k:Nat) (sets:List Qa) (i:Nat):List Qa:=(Jas k (sets.map fun s=>s.d.length)).take i++sets.drop i
theorem JgP (k:Nat) (sets:List Qa) (i:Nat) (h:i≤sets.length):(Jie k sets i).length=sets.length:=by simp [Jie,Z7];omega
theorem Joe (k:Nat) (sets:List Qa) (i:Nat) (h:i < sets.length):(Jie k sets i)[i]'(by rw [JgP _ _ _ (by omega)];exact h)=sets[i]:=by
 unfold Jie;rw [List.getElem_append_right (by simp;omega)]
 simp [Z7,Nat.min_eq_left (Nat.le_of_lt h)]
theorem Jn5 (k:Nat) (sets:List Qa) (i:Nat) (h:i < sets.length):(Jie k sets i).set i (Jor (mkE k ((sets.map fun s=>s.d.length).take i)) sets[i].d.length)=Jie k sets (i+1):=by
 have hi:i < (Jas k (sets.map fun s=>s.d.length)).length:=by rw [Z7];simpa using h
 have hl:((Jas k (sets.map fun s=>s.d.length)).take i).length=i:=by simp;omega
 unfold Jie;rw [List.set_append_right _ _ (by rw [hl];exact Nat.le_refl _),hl,Nat.sub_self,List.drop_eq_getElem_cons h,List.set_cons_zero,List.take_succ_eq_append_getElem hi,List.append_assoc,JhF (by simpa using h)]
 simp
section
variable {C:Tab}
def Jat (C:Tab) (f:Nat):Prop:= ∀ (s:Qa) (d:AV) (H:AH),Sl H 1 d (s.d.map AV.s)→s.d.length≤1099511627→ ∃ v H',C f [sV s d] H=some (v,H')∧ ∃ d',v=sV s d'∧Ext H H'∧Mn H' 1 d' (s.d.map AV.s)∧ ∀ i,i∈idA d'→H.n≤i
def JgM (C:Tab) (f:Nat):Prop:= ∀ (zs:AV) (sets:List Qa) (ds:List AV) (H:AH),ZS H zs sets ds→sets.length≤1099511627→(∀ s,s∈sets→s.d.length≤1099511627)→ ∃ v H',C f [zs] H=some (v,H')∧Ext H H'∧ ∃ ds',ZM H' H.n v sets ds'
def ZR (C:Tab) (f:Nat):Prop:= ∀ (z:Zn) (zs:AV) (ds:List AV) (H:AH),ZS H zs z.s ds→SzZ z→ ∃ v H',C f [.ag [.s z.a,zs]] H=some (v,H')∧ ∃ zs' ds',v= .ag [.s z.a,zs']∧Ext H H'∧ZM H' H.n zs' z.s ds'
def Jjf (zs:AV) (ds:List AV):List Nat:=idA zs++ds.flatMap idA
def Jf9 (C:Tab) (f:Nat):Prop:= ∀ (zs:AV) (sets:List Qa) (ds:List AV) (k n0:Nat) (H:AH),ZM H n0 zs sets ds→mkE k (sets.map fun s=>s.d.length)≤1099511627776→ ∃ H',C f [zs,.i .i64 k] H=some (.i .i64 (mkE k (sets.map fun s=>s.d.length):Nat),H')∧ZM H' n0 zs (Jas k (sets.map fun s=>s.d.length)) ds∧Kp (Jjf zs ds) H H'
theorem JqK {s:Qa} {d:AV} {H:AH} (hC:JlB C Ye) (h:Sl H 1 d (s.d.map AV.s)) (hn:s.d.length≤1099511627):Jt C Zq [sV s d] H fun v H'=> ∃ d',v=sV s d'∧Ext H H'∧Mn H' 1 d' (s.d.map AV.s)∧ ∀ i,i∈idA d'→H.n≤i:=by
 unfold Jt Zq;obtain ⟨d',H',k1,e1,m1,i1⟩:=hC d s.d H h hn;have dO:=h.out;have dO':=(Mn.sl m1).out;have dc':=(Mn.sl m1).one;simp -implicitDefEqProofs only [bU,Jc,reduceCtorEq,Ja,Jb,bT,bV,Ja,Jb,Jg,sV,k1,dO,dO',dc',Jr,rsC,rsV,Js];exact ⟨d',rfl,e1,m1,i1⟩
set_option maxHeartbeats 2000000 in
theorem JmM {zs:AV} {sets:List Qa} {ds:List AV} {H:AH} (hC:Jat C Jao) (h:ZS H zs sets ds) (hn:sets.length≤1099511627) (hd: ∀ s,s∈sets→s.d.length≤1099511627):Jt C Yz [zs] H fun v H'=>Ext H H'∧ ∃ ds',ZM H' H.n v sets ds':=by
 unfold Jt Yz;obtain ⟨h1,h2⟩:=h.row.len;rw [QK h.len] at h1;have hb2:(sets.length:Int)*56≤281474976710656:=by omega
 have hz0:=ZM.mk0 H sets.length;simp -implicitDefEqProofs only [bU,Jc,reduceCtorEq,bT,bV,h1,h2];refine ⟨⟨by omega,hb2,by omega⟩,Jl (fun n e M=> ∃ (i:Nat) (L:List Lv) (g:Nat) (H':AH) (ds':List AV),i≤sets.length∧n=sets.length-i∧look e 0=zs∧look e 3= .sl H.n 0 sets.length∧look e 4= .i .i64 i∧M=⟨L,g,H'⟩∧Ext H H'∧ZM H' H.n (.sl H.n 0 sets.length) (sets.take i++List.replicate (sets.length-i) zS0) ds') ?_ (n:=sets.length) ⟨0,_,_,_,_,by omega,by omega,rfl,rfl,rfl,rfl,.new _ _,by simpa [Jj] using hz0⟩⟩
 rintro n e M ⟨i,L,g,H',ds',hi,rfl,q0,q3,q4,rfl,he,hm⟩;by_cases hlt:(i:Int) < sets.length
 ·have hil:i < sets.length:=by omega
  have hid:i < ds.length:=by rw [h.len];exact hil
  obtain ⟨a1,a2,a3,-,-,-,-,-,a9,a10⟩:=(h.ext he).at' hil hid;obtain ⟨v,H1,k1,d',rfl,e1,m1,i1⟩:=hC sets[i] ds[i] H' ((h.ext he).dat i hil hid) (hd _ (List.getElem_mem hil));have hlen:(sets.take i++List.replicate (sets.length-i) zS0).length=sets.length:=by simp;omega
  have hidd:i < ds'.length:=by rw [hm.len,hlen];exact hil
  obtain ⟨b1,b2,b3,H2,b4,b5,b6,b7⟩:=hm.put e1 (i:=i) (by rw [hlen];exact hil) hidd m1 i1 he.n
  have e3:=Jdb (l:=sets) (i:=i) (z:=zS0) (d:=zS0) hil;rw [show sets.getD i zS0=sets[i] by simp [List.getD,hil]] at e3
  rw [e3] at b5;have so:(sV sets[i] ds[i]).outs=true:=rfl;have so':(sV sets[i] d').outs=true:=rfl;have sc:(sV sets[i] d').cells.length=4:=rfl;have w2:IntKind.i64.wrap ((i:Int)+1)=((i+1:Nat):Int):=by rw [w64 (by omega) (by omega)];rfl
  have bd:sets.length- (i+1) < sets.length-i:=by omega
  simp -implicitDefEqProofs only [bU,Jc,reduceCtorEq,bT,q0,q3,q4,h1,h2,hlt,Jj,a1,a2,a9,a10,so,so',sc,k1,b1,b2,b3,b4,w2];exact ⟨_,bd,i+1,_,_,H2,_,hil,rfl,rfl,rfl,(he.trans e1).put (l:=[H.n]) (by simp) (Nat.le_of_eq b6.symm) (fun j _ hj=>b7 j hj),b5⟩
 ·have hil:i=sets.length:=by omega
  subst hil;rw [Nat.sub_self,List.replicate_zero,List.append_nil,List.take_length] at hm;simp -implicitDefEqProofs only [bU,Jc,reduceCtorEq,bT,q0,q3,q4,h1,h2,hlt,Jr,rsC,rsV,Js];exact ⟨he,ds',hm⟩
theorem Jno {z:Zn} {zs:AV} {ds:List AV} {H:AH} (hC:JgM C ZI) (h:ZS H zs z.s ds) (hz:SzZ z):Jt C YQ [.ag [.s z.a,zs]] H fun v H'=> ∃ zs' ds',v= .ag [.s z.a,zs']∧Ext H H'∧ZM H' H.n zs' z.s ds':=by
 unfold Jt YQ;obtain ⟨v,H',k1,e1,ds',m1⟩:=hC zs z.s ds H h (by have:=hz.s;omega) fun s hs=>by have:=Jah hs;have:=hz.c;omega
 have o1:=h.row.out;have o2:=m1.rd.row.out;have c2:=m1.rd.row.one;simp -implicitDefEqProofs only [bU,Jc,reduceCtorEq,Ja,bT,bV,Ja,Jg,k1,o1,o2,c2,Jr,rsC,rsV,Js];exact ⟨v,ds',rfl,e1,m1⟩
end
theorem Joh (k:Nat) (ns:List Nat):k+3*ns.length≤mkE k ns:=by
 unfold mkE;induction ns with
 | nil=>simp
 | cons n r ih=>simp only [List.map_cons,List.sum_cons,List.length_cons];omega
section
variable {C:Tab} {H:AH} {n0:Nat} {zs:AV} {cur:List Qa} {ds:List AV}
theorem ZM.stG {i off:Nat} {s s':Qa} {v:AV} (h:ZM H n0 zs (cur.set i s) ds) (hi:i < cur.length) (hid:i < ds.length) (hv:v.cells=[v]) (ho:off < 4) (hs: ∀ d,[AV.s s.o,.i .i64 s.t,.i .i64 s.ttl,d].set off v=[.s s'.o,.i .i64 s'.t,.i .i64 s'.ttl,d]) (hd:s'.d=s.d):
  slZ H 4 zs∧iaC (i:Int) zs∧faC (iaV i zs)∧(∀ (L:List Lv) (g:Nat),stC ⟨L,g,H⟩ v (faV off (iaV i zs)))∧ ∃ H2,(∀ (L:List Lv) (g:Nat),stM ⟨L,g,H⟩ v (faV off (iaV i zs))=⟨L,g,H2⟩)∧ZM H2 n0 zs (cur.set i s') ds∧H2.n=H.n∧ ∀ j,¬ j∈idA zs→H2.at' j=H.at' j:=by
 have hi':i < (cur.set i s).length:=by rw [List.length_set];exact hi
 have hg:(cur.set i s)[i]=s:=List.getElem_set_self ..;have:=h.stF (i:=i) (off:=off) (s':=s') (v:=v) hi' hid hv ho (by rw [hg];exact hs _) (by rw [hg];exact hd)
 rwa [List.set_set] at this
theorem Kp.z {H H':AH} {zs:AV} {ds:List AV} (hn:H'.n=H.n) (h: ∀ j,¬ j∈idA zs→H'.at' j=H.at' j):Kp (Jjf zs ds) H H':=(Kp.st hn h).mono fun _ hi=>List.mem_append_left _ hi
set_option maxHeartbeats 2000000 in
theorem Jnb {sets:List Qa} {k:Nat} (hM:JqR C QJ) (hS:JkQ C WU) (h:ZM H n0 zs sets ds) (hb:mkE k (sets.map fun s=>s.d.length)≤1099511627776):
  Jt C Xz [zs,.i .i64 k] H fun v H'=>v= .i .i64 (mkE k (sets.map fun s=>s.d.length):Nat)∧ZM H' n0 zs (Jas k (sets.map fun s=>s.d.length)) ds∧Kp (Jjf zs ds) H H':=by
 unfold Jt Xz;have hnl:(sets.map fun s=>s.d.length).length=sets.length:=List.length_map _
 have hge:=Joh k (sets.map fun s=>s.d.length)
 rw [hnl] at hge;have hk0:mkE k ((sets.map fun s=>s.d.length).take 0)=k:=by simp [mkE]
 have hc0:Jie k sets 0=sets:=by simp [Jie]
 simp -implicitDefEqProofs only [bU,Ja,bV,Ja];refine Jl (fun n e M=> ∃ (i:Nat) (H':AH) (L:List Lv) (g:Nat),i≤sets.length∧n=sets.length-i∧look e 0=zs∧look e 1= .i .i64 (mkE k ((sets.map fun s=>s.d.length).take i):Nat)∧look e 5= .i .i64 i∧M=⟨L,g,H'⟩∧ZM H' n0 zs (Jie k sets i) ds∧Kp (Jjf zs ds) H H') ?_ (n:=sets.length) ⟨0,_,_,_,by omega,by omega,rfl,by rw [hk0];rfl,rfl,rfl,by rw [hc0];exact h,.refl _ _⟩
 rintro n e M ⟨i,H0,L,g,hi,rfl,q0,q1,q5,rfl,m0,hk⟩;obtain ⟨l1,l2⟩:=m0.rd.row.len;rw [QK m0.len,JgP _ _ _ hi] at l1;by_cases hlt:(i:Int) < sets.length
 ·have hil:i < sets.length:=by omega
  have hcl:=JgP k sets i hi;have hic:i < (Jie k sets i).length:=by rw [hcl];exact hil
  have hid:i < ds.length:=by rw [m0.len];exact hic
  have hsuc:=JiS (k:=k) (ns:=sets.map fun s=>s.d.length) (i:=i) (by rw [hnl];exact hil)
  have hle:=JoE k (sets.map fun s=>s.d.length) (i+1)
  have hset:=Jn5 k sets i hil;have hcg:=Joe k sets i hil;rw [List.getElem_map] at hsuc;generalize hks:mkE k ((sets.map fun s=>s.d.length).take i)=ki at*
  have mm:ZM H0 n0 zs ((Jie k sets i).set i sets[i]) ds:=by
   rw [←hcg,List.set_getElem_self];exact m0
  clear hcg;generalize Jie k sets i=cur at*;obtain ⟨G0,t0,u0⟩:=hM ki H0 (by omega)
  obtain ⟨a0,b0,d0,s0,H1,e0,m1,n0',f0⟩:=(mm.ext u0).stG (off:=0) (v:= .s (mt ki)) (s':=⟨mt ki,sets[i].t,sets[i].ttl,sets[i].d⟩) hic hid rfl (by decide) (fun _=>rfl) rfl
  obtain ⟨a1,b1,d1,s1,H2,e1,m2,n1,f1⟩:=m1.stG (off:=1) (v:= .i .i64 ((ki+1:Nat):Int)) (s':=⟨mt ki,((ki+1:Nat):Int),sets[i].ttl,sets[i].d⟩) hic hid rfl (by decide) (fun _=>rfl) rfl
  obtain ⟨a2,b2,d2,s2,H3,e2,m3,n2,f2⟩:=m2.stG (off:=2) (v:= .i .i64 ((ki+2:Nat):Int)) (s':=⟨mt ki,((ki+1:Nat):Int),((ki+2:Nat):Int),sets[i].d⟩) hic hid rfl (by decide) (fun _=>rfl) rfl
  have hi3:i < (cur.set i (⟨mt ki,((ki+1:Nat):Int),((ki+2:Nat):Int),sets[i].d⟩:Qa)).length:=by rw [List.length_set];exact hic
  obtain ⟨x1,x2,x3,x4,-,-,-,x8,-,-⟩:=m3.rd.at' hi3 hid;have hdat:=m3.dat i hi3 hid;rw [List.getElem_set_self] at hdat;obtain ⟨H4,k4,m4,p4⟩:=hS ds[i] sets[i].d (ki+3) H3 hdat (by omega)
  have mf:=m3.inp hi3 hid m4 p4;rw [List.set_set,List.getElem_set_self] at mf;have hmk:({o:=mt ki,t:=((ki+1:Nat):Int),ttl:=((ki+2:Nat):Int),d:=Jmd (ki+3) sets[i].d.length}:Qa)=Jor ki sets[i].d.length:=rfl;have mf':ZM H4 n0 zs (cur.set i (Jor ki sets[i].d.length)) ds:=mf;rw [hset] at mf';have kk:Kp (Jjf zs ds) H H4:=((((hk.trans (Kp.ext u0)).trans (Kp.z n0' f0)).trans (Kp.z n1 f1)).trans (Kp.z n2 f2)).trans (p4.mono fun j hj=>List.mem_append_right _ (List.mem_flatMap.2 ⟨_,List.getElem_mem hid,hj⟩))
  have w0:IntKind.i64.wrap ((ki:Int)+1)=((ki+1:Nat):Int):=by rw [w64 (by omega) (by omega)];omega
  have w1:IntKind.i64.wrap (((ki+1:Nat):Int)+1)=((ki+2:Nat):Int):=by rw [w64 (by omega) (by omega)];omega
  have w2:IntKind.i64.wrap (((ki+2:Nat):Int)+1)=((ki+3:Nat):Int):=by rw [w64 (by omega) (by omega)];omega
  have w9:IntKind.i64.wrap ((i:Int)+1)=((i+1:Nat):Int):=by rw [w64 (by omega) (by omega)];rfl
  have bd:sets.length- (i+1) < sets.length-i:=by omega
  have dO:=(Mn.sl hdat).out;have he:mkE k ((sets.map fun s=>s.d.length).take (i+1))=ki+3+sets[i].d.length:=hsuc
  simp -implicitDefEqProofs only [bU,Jc,reduceCtorEq,bT,bV,q0,q1,q5,l1,l2,hlt,Jj,t0,a0,b0,d0,s0,e0,w0,a1,s1,e1,w1,a2,s2,e2,w2,x1,x4,x8,dO,k4,w9];exact ⟨_,bd,i+1,H4,_,_,hil,rfl,by rw [he],rfl,rfl,mf',kk⟩
 ·have hil:i=sets.length:=by omega
  subst hil
  have hca:Jie k sets sets.length=Jas k (sets.map fun s=>s.d.length):=by
   unfold Jie;rw [List.take_of_length_le (by rw [Z7,hnl];exact Nat.le_refl _),List.drop_length,List.append_nil]
  rw [hca] at m0;rw [List.take_of_length_le (by rw [hnl];exact Nat.le_refl _)] at q1
  simp -implicitDefEqProofs only [bU,Jc,reduceCtorEq,bT,q0,q1,q5,l1,l2,hlt,Jr,rsC,rsV,Js];exact ⟨m0,hk⟩
end
section
variable {C:Tab}
def JdR (C:Tab) (f:Nat):Prop:= ∀ (a:List UInt8) (zs:AV) (sets:List Qa) (ds:List AV) (k n0:Nat) (H:AH),ZM H n0 zs sets ds→mkE k (sets.map fun s=>s.d.length)≤1099511627776→ ∃ H',C f [.ag [.s a,zs],.i .i64 k] H=some (.i .i64 (mkE k (sets.map fun s=>s.d.length):Nat),H')∧ZM H' n0 zs (Jas k (sets.map fun s=>s.d.length)) ds∧Kp (Jjf zs ds) H H'
theorem JmU {a:List UInt8} {zs:AV} {sets:List Qa} {ds:List AV} {k n0:Nat} {H:AH} (hC:Jf9 C YJ) (h:ZM H n0 zs sets ds) (hb:mkE k (sets.map fun s=>s.d.length)≤1099511627776):
  Jt C Xw [.ag [.s a,zs],.i .i64 k] H fun v H'=>v= .i .i64 (mkE k (sets.map fun s=>s.d.length):Nat)∧ZM H' n0 zs (Jas k (sets.map fun s=>s.d.length)) ds∧Kp (Jjf zs ds) H H':=by
 unfold Jt Xw;obtain ⟨H',k1,m1,p1⟩:=hC zs sets ds k n0 H h hb;have o1:=h.rd.row.out;simp -implicitDefEqProofs only [bU,Jc,reduceCtorEq,Ja,bT,bV,Ja,k1,o1,Jr,rsC,rsV,Js];exact ⟨m1,p1⟩
end
section
variable {C:Tab}
theorem JmO {s:Qa} {d:AV} {H:AH} (h:Sl H 1 d (s.d.map AV.s)) (hn:s.d.length≤1099511627):Jt C Wl [sV s d] H fun v H'=> ∃ d',v=sV s d'∧Ext H H'∧Mn H' 1 d' (s.d.map AV.s)∧ ∀ i,i∈idA d'→H.n≤i:=by
 unfold Jt Wl;obtain ⟨l1,l2⟩:=JbP h;simp -implicitDefEqProofs only [bU,Jc,reduceCtorEq,Ja,Jb,bT,bV,Ja,Jb,Jg,sV,JG,JH]
 refine Jl (fun m e M=> ∃ (i:Nat) (o:AV) (H':AH) (L0:List Lv) (g:Nat),i≤s.d.length∧m=s.d.length-i∧look e 1= .la 1 0 0 0∧look e 2= .la 2 1 0 0∧look e 3= .la 3 2 0 0∧look e 4= .i .i64 i∧M=⟨L0,g,H'⟩∧JJ [1,2,3,4] L0=[⟨3,2,0,[.ag [.s s.o,.i .i64 s.t,.i .i64 s.ttl,o]]⟩,⟨2,1,0,[.ag [.s [],.i .i64 0,.i .i64 0,.ns]]⟩,⟨1,0,0,[.ag [.s s.o,.i .i64 s.t,.i .i64 s.ttl,d]]⟩]∧Ext H H'∧Mn H' 1 o ((s.d.take i).map AV.s)∧ ∀ j,j∈idA o→H.n≤j) ?_ (n:=s.d.length)
  ⟨0,.ns,_,_,_,by omega,by omega,rfl,rfl,rfl,rfl,rfl,rfl,.refl _,.nil,fun j hj=>by simp [idA] at hj⟩
 rintro m e M ⟨i,o,H',L0,g,hi,rfl,q1,q2,q3,q4,rfl,hL0,he,hm,hid⟩;have oO:=(Mn.sl hm).out;have oc:=(Mn.sl hm).one;by_cases h1:(i:Int) < s.d.length
 ·have hil:i < s.d.length:=by omega
  obtain ⟨b1,b2,b3,b4⟩:=JeZ (Sl.ext h he) hil;have w4:IntKind.i64.wrap ((i:Int)+1)=((i+1:Nat):Int):=by rw [w64 (by omega) (by omega)];rfl
  obtain ⟨p1,o',H2,p2,p3,p4,p5,p6,p7,-,-⟩:=Mn.ap (by':=16) hm (Qk (t:=26) (g:=g) (z:=1) (x:= .s s.d[i]) (L:=[⟨3,2,0,[.ag [.s s.o,.i .i64 s.t,.i .i64 s.ttl,o]]⟩,⟨2,1,0,[.ag [.s [],.i .i64 0,.i .i64 0,.ns]]⟩,⟨1,0,0,[.ag [.s s.o,.i .i64 s.t,.i .i64 s.ttl,d]]⟩]) (H:=H')) (by simp;omega)
  have bd:s.d.length- (i+1) < s.d.length-i:=by omega
  have oO':=(Mn.sl p4).out;have oc':=(Mn.sl p4).one;simp -implicitDefEqProofs only [bU,Jc,reduceCtorEq,Ja,bT,bV,Ja,Qs,J6,q1,q2,q3,q4,hL0,l1,l2,h1,b1,b2,b3,b4,Jj,JE,JQ,List.replicate];simp -implicitDefEqProofs only [bU,Jc,reduceCtorEq,Ja,bT,bV,Ja,p1,p2,p3,oO',oc',w4];exact ⟨_,bd,i+1,o',H2,_,_,hil,rfl,rfl,rfl,rfl,he.put hid p5 p6,by rw [List.take_succ_eq_append_getElem hil,List.map_append];exact p4,fun j hj=>(p7 j hj).elim (hid j) fun h=>Nat.le_trans he.n h⟩
 ·have hil:i=s.d.length:=by omega
  subst hil;rw [List.take_length] at hm;simp -implicitDefEqProofs only [bU,Jc,reduceCtorEq,Ja,bT,bV,Ja,q1,q2,q3,q4,hL0,l1,l2,h1,Jr,rsC,rsV,Js];exact ⟨o,rfl,he,hm,hid⟩
end
theorem Jkp: ∀ (k:Nat) (d:List UInt8),(prs (List.replicate k 98) d).isSome=decide (d.length=k)
 | 0,d=>by
  rw [List.replicate_zero,prs];cases d<;>simp
 | k+1,[]=>by
  rw [List.replicate_succ,prs];simp [part]
 | k+1,c::d=>by
  rw [List.replicate_succ,prs];have e:part 98 (c::d)=some [c]:=by simp [part]
  rw [e];simp only [Option.isSome_map,List.drop_succ_cons,List.drop_zero,List.length_cons,List.length_nil];rw [Jkp k d];exact decide_eq_decide.2 (by omega)
theorem Jko {d:List UInt8} (h:chk 6 d=0):20≤d.length:=by
 obtain ⟨ps,hp,-,-⟩:=Jd4 h;rw [show JU 6=110::110::List.replicate 20 98 from rfl,prs] at hp
 cases h1:part 110 d with
 | none=>rw [h1] at hp;cases hp
 | some p=>
  rw [h1] at hp;simp only at hp;obtain ⟨r,hr,-⟩:=Option.map_eq_some_iff.1 hp;rw [prs] at hr;cases h2:part 110 (d.drop p.length) with
  | none=>rw [h2] at hr;cases hr
  | some q=>
   rw [h2] at hr;simp only at hr;obtain ⟨u,hu,-⟩:=Option.map_eq_some_iff.1 hr;have h3:=Jkp 20 ((d.drop p.length).drop q.length);rw [hu] at h3;simp only [Option.isSome_some] at h3;have h4:=of_decide_eq_true h3.symm;simp only [List.length_drop] at h4;omega
theorem JqC {l:List Rr} {a:List UInt8} (h:(bz l a).2.1=0):(bz l a).1=⟨a,Ja3 (l.map zi)⟩∧(∃ ls,JB a=some ls)∧(∀ i,i < l.length→Jai (l.getD i rrZ) a=0)∧(∀ i,i < l.length→JaZ (l.map zi) i=false)∧(QL (l.map zi) (Jq a)).1=0:=by
 unfold bz at h ⊢;by_cases h1:JB a=none
 ·rw [if_pos h1] at h;cases h
 rw [if_neg h1] at h ⊢;by_cases h2:500 < l.length
 ·rw [if_pos h2] at h;cases h
 rw [if_neg h2] at h ⊢;cases h3:JL l.length fun i=>decide (Jai (l.getD i rrZ) a≠0) with
 | some i=>
  rw [h3] at h;have:=(JhR h3).2.1;exact absurd h (by simpa using this)
 | none=>
  rw [h3] at h;simp only at h ⊢;have hone:=Jbp h3;cases h4:JL l.length (JaZ (l.map zi)) with
  | some i=>rw [h4] at h;cases h
  | none=>
   rw [h4] at h;simp only at h ⊢;have hmix:=Jbp h4;by_cases h5:(QL (l.map zi) (Jq a)).1≠0
   ·rw [if_pos h5] at h;exact absurd h h5
   ·rw [if_neg h5]
    exact ⟨rfl,Option.ne_none_iff_exists'.1 h1,fun i hi=>by simpa using hone i hi,hmix,by simpa using h5⟩
theorem Jk5 {L:List Zi} {top:List UInt8} (h:(QL L top).1=0):(∀ i,i∈Jn L→Jb6 L top i=false)∧hasB L L.length top 6=true:=by
 rw [Jeu] at h;cases h1:(Jn L).find? (Jb6 L top) with
 | some i=>rw [h1] at h;cases h
 | none=>
  rw [h1] at h;refine ⟨fun i hi=>by simpa using List.find?_eq_none.1 h1 i hi,?_⟩
  cases h2:hasB L L.length top 6 with
  | true=>rfl
  | false=>rw [h2] at h;cases h
theorem Jqp {L:List Zi} {top:List UInt8} (h:(QL L top).1=0): ∃ x,x∈J2 L∧x.k=(top,6)∧((J2 L).filter fun y=>decide (y.k=(top,6)))=[x]∧ ∀ y,y∈J2 L→y.r.t=6→y.k=(top,6):=by
 obtain ⟨h1,h2⟩:=Jk5 h;rw [JdD] at h2
 have key: ∀ i,i∈Jn L→(itZ L i).r.t=6→(itZ L i).f=top∧hasB L i top 6=false:=fun i hi ht=>by
  have hs:=h1 i hi;have ho:=(Zy.1 hi).2;unfold Jb6 at hs;rw [ho,decide_eq_true ht] at hs;simp only [Bool.not_false,Bool.true_and,Bool.or_eq_false_iff,decide_eq_false_iff_not,ne_eq,Decidable.not_not] at hs;exact hs
 obtain ⟨i0,hi0,hb0⟩:=List.any_eq_true.1 h2;simp only [decide_eq_true_eq] at hb0
 have hk6: ∀ y,y∈J2 L→y.r.t=6→y.k=(top,6):=fun y hy ht=>by
  obtain ⟨i,hi,rfl⟩:=List.mem_map.1 hy;simp only [Zi.k,(key i hi ht).1,ht]
 refine ⟨itZ L i0,List.mem_map.2 ⟨i0,hi0,rfl⟩,by simp only [Zi.k,hb0],?_,hk6⟩
 have hp:(Jn L).filter (fun i=>decide ((itZ L i).k=(top,6)))=[i0]:=by
  have hinc:((Jn L).filter fun i=>decide ((itZ L i).k=(top,6))).Pairwise fun i j=>i < j:=(Jhe (L:=L)).filter _
  have hall: ∀ i,i∈(Jn L).filter (fun i=>decide ((itZ L i).k=(top,6)))→i=i0:=fun i hi=>by
   obtain ⟨g1,g2⟩:=List.mem_filter.1 hi;simp only [decide_eq_true_eq,Zi.k,Prod.mk.injEq] at g2
   have no: ∀ p q,p∈Jn L→q∈Jn L→(itZ L p).f=top→(itZ L p).r.t=6→(itZ L q).r.t=6→ ¬ p < q:=fun p q hp hq e1 e2 e3 hlt=>by
    have:=(key q hq e3).2;unfold hasB at this;rw [List.any_eq_false] at this;have hh:=this p (List.mem_range.2 hlt);rw [(Zy.1 hp).2] at hh;simp [e1,e2] at hh
   have n1:=no i i0 g1 hi0 g2.1 g2.2 hb0.2;have n2:=no i0 i hi0 g1 hb0.1 hb0.2 g2.2;omega
  have hm:i0∈(Jn L).filter (fun i=>decide ((itZ L i).k=(top,6))):=List.mem_filter.2 ⟨hi0,by simp only [decide_eq_true_eq,Zi.k,hb0]⟩
  generalize (Jn L).filter (fun i=>decide ((itZ L i).k=(top,6)))=F at hinc hall hm
  match F,hinc,hall,hm with
  | [],_,_,hm=>cases hm
  | [p],_,hall,_=>rw [hall p (by simp)]
  | p::q::r,hinc,hall,_=>
   have e1:=hall p (by simp)
   have e2:=hall q (by simp)
   have:=(List.pairwise_cons.1 hinc).1 q (by simp)
   omega
 unfold J2;rw [List.filter_map];have:((fun y:Zi=>decide (y.k=(top,6))) ∘itZ L)=fun i=>decide ((itZ L i).k=(top,6)):=rfl
 rw [this,hp];rfl
theorem Jqd {z:Zn} (h:ckz z=0): ∃ i,∃ (hi:i < z.s.length),∃ o ttl d,z.s[i]=⟨o,6,ttl,[d]⟩∧Jdg o z.a=true∧chk 6 d=0∧ ∀ j (hj:j < z.s.length),j≠i→z.s[j].t≠6:=by
 unfold ckz at h;by_cases h0:500 < z.s.length∨500 < JkI z
 ·rw [if_pos h0] at h;cases h
 rw [if_neg h0] at h;by_cases h1:(bz (WQ z) z.a).2.1=0∧(bz (WQ z) z.a).1=z
 ·obtain ⟨h2,h3⟩:=h1
  obtain ⟨e1,⟨ls,hls⟩,hone,hmix,hrul⟩:=JqC h2;rw [e1] at h3
  have hzs:z.s=Ja3 ((WQ z).map zi):=by
   have:=congrArg Zn.s h3;exact this.symm
  have hok:ZOk ((WQ z).map zi):=JqO hone hmix;have hkept:=hok.kept;obtain ⟨x,hx,hxk,hfl,h6⟩:=Jqp hrul
  have hall: ∀ y,y∈J2 ((WQ z).map zi)→ ∃ r,y=zi r∧(∃ b,JB r.o=some b)∧chk r.t r.d=0:=fun y hy=>by
   obtain ⟨i,hi,rfl⟩:=List.mem_map.1 hy;obtain ⟨g1,-⟩:=Zy.1 hi;rw [List.length_map] at g1;have g2:=hone i g1;rw [show (WQ z).getD i rrZ=(WQ z)[i] by simp [List.getD,g1]] at g2
   obtain ⟨hn,-,-,-,-,hc,-⟩:=Ze g2;exact ⟨(WQ z)[i],by rw [Z5 (by rw [List.length_map];exact g1)];simp,hn,hc⟩
  generalize (WQ z).map zi=L at*;have hkm:(Jq z.a,(6:Int))∈isort kLt (keysOf (J2 L)):=(Qj _).mem_iff.2 ((Qe _).2 ⟨x,hx,hxk⟩);obtain ⟨i,hi,hik⟩:=List.mem_iff_getElem.1 hkm;have hnd:(isort kLt (keysOf (J2 L))).Nodup:=(Qj _).nodup_iff.2 (Yl _);have hzl:z.s.length=(isort kLt (keysOf (J2 L))).length:=by rw [hzs];simp [Ja3]
  have hget: ∀ j (hj:j < z.s.length),z.s[j]=mkS (W9 L) (J2 L) ((isort kLt (keysOf (J2 L)))[j]'(by rw [←hzl];exact hj)):=fun j hj=>by
   simp only [hzs];simp [Ja3]
  have hxf:x.f=Jq z.a:=congrArg Prod.fst hxk;have hxt:x.r.t=6:=congrArg Prod.snd hxk;refine ⟨i,by rw [hzl];exact hi,W9 L (Jq z.a),(((J2 L).find? fun y=>decide (y.k=(Jq z.a,(6:Int)))).map fun y=>y.r.ttl).getD 0,x.r.d,?_,?_,?_,fun j hj hji ht=> ?_⟩
  ·rw [hget i (by rw [hzl];exact hi),hik]
   simp only [mkS,hfl];rfl
  ·rw [←JhD,←hxf]
   obtain ⟨y,hy,hyf,ho⟩:=JkY hx;rw [ho];obtain ⟨r,rfl,⟨b,hb⟩,-⟩:=hall y hy;have e:Jq r.o=Jq z.a:=by rw [←hxf,←hyf];rfl
   show Jdg r.o z.a=true
   unfold Jdg;exact decide_eq_true ⟨by rw [e];exact Jcx hls,e⟩
  ·obtain ⟨r,rfl,-,hc⟩:=hall x hx
   have:r.t=6:=hxt;rw [this] at hc;exact hc
  ·rw [hget j hj] at ht
   have hj2:j < (isort kLt (keysOf (J2 L))).length:=by rw [←hzl];exact hj
   have hjm:=List.getElem_mem hj2;obtain ⟨y,hy,hyk⟩:=(Qe _).1 ((Qj _).mem_iff.1 hjm)
   have hyt:y.r.t=6:=by
    have:y.k.2=6:=by rw [hyk];exact ht
    exact this
   have e:=h6 y hy hyt;rw [hyk] at e;have:(isort kLt (keysOf (J2 L)))[j]=(isort kLt (keysOf (J2 L)))[i]:=by rw [e,hik]
   rcases Nat.lt_or_gt_of_ne hji with h | h
   ·exact List.pairwise_iff_getElem.1 hnd j i hj2 hi h this
   ·exact List.pairwise_iff_getElem.1 hnd i j hi hj2 h this.symm
 ·rw [if_neg h1] at h;cases h
def JcR (z:Zn) (o:List UInt8) (ttl:Int) (d:List UInt8):Prop:= ∃ i,∃ (hi:i < z.s.length),z.s[i]=⟨o,6,ttl,[d]⟩∧Jdg o z.a=true∧chk 6 d=0∧ ∀ j (hj:j < z.s.length),j≠i→z.s[j].t≠6
theorem Jhf {z:Zn} (h:ckz z=0): ∃ o ttl d,JcR z o ttl d:=by
 obtain ⟨i,hi,o,ttl,d,h1⟩:=Jqd h;exact ⟨o,ttl,d,i,hi,h1⟩
def Jkf (o:List UInt8) (ttl:Int) (d:List UInt8):Rr:=⟨o,6,1,ttl,d⟩
section
variable {C:Tab}
def JkE (C:Tab) (f:Nat):Prop:= ∀ (z:Zn) (zs:AV) (ds:List AV) (H:AH) (o:List UInt8) (ttl:Int) (d:List UInt8),ZS H zs z.s ds→SzZ z→JcR z o ttl d→ ∃ v H',C f [.ag [.s z.a,zs],.s z.a,.i .i64 6] H=some (v,H')∧ ∃ d',v= .tp [sV ⟨o,6,ttl,[d]⟩ d',.b true]∧Ext H H'∧Mn H' 1 d' [.s d]
def JkS (C:Tab) (f:Nat):Prop:= ∀ (z:Zn) (zs:AV) (ds:List AV) (H:AH) (o:List UInt8) (ttl:Int) (d:List UInt8),ZS H zs z.s ds→SzZ z→JcR z o ttl d→ ∃ v H',C f [.ag [.s z.a,zs]] H=some (v,H')∧v=eR.v (Jkf o ttl d)∧Ext H H'
set_option maxHeartbeats 2000000 in
theorem JrR {z:Zn} {zs:AV} {ds:List AV} {H:AH} {o:List UInt8} {ttl:Int} {d:List UInt8} (hN:Jeh C Xk) (hC:Jat C Wd) (h:ZS H zs z.s ds) (hz:SzZ z) (hs:JcR z o ttl d):
  Jt C X0 [.ag [.s z.a,zs],.s z.a,.i .i64 6] H fun v H'=> ∃ d',v= .tp [sV ⟨o,6,ttl,[d]⟩ d',.b true]∧Ext H H'∧Mn H' 1 d' [.s d]:=by
 unfold Jt X0;obtain ⟨l1,l2⟩:=h.row.len;rw [QK h.len] at l1;have zo:=h.row.out;have zc:=h.row.one;have hzs:=hz.s;obtain ⟨k,hk,hke,hsn,hch,hoth⟩:=hs;simp -implicitDefEqProofs only [bU,Jc,reduceCtorEq,Ja,bT,bV,Ja]
 refine Jl (fun m e M=> ∃ (i:Nat) (L0:List Lv) (g:Nat),i≤k∧m=k-i∧look e 1= .s z.a∧look e 2= .i .i64 6∧look e 3= .la 3 0 0 0∧look e 6= .la 6 1 0 0∧look e 8= .i .i64 i∧M=⟨L0,g,H⟩∧JJ [1,2,3,6,8] L0=[⟨6,1,0,[.ag [.s [],.i .i64 0,.i .i64 0,.ns]]⟩,⟨3,0,0,[.ag [.s z.a,zs]]⟩]) ?_ (n:=k)
  ⟨0,_,_,by omega,by omega,rfl,rfl,rfl,rfl,rfl,rfl,rfl⟩
 rintro m e M ⟨i,L0,g,hi,rfl,q1,q2,q3,q6,q8,rfl,hL0⟩;have hil:i < z.s.length:=by omega
 have hid:i < ds.length:=by rw [h.len];exact hil
 have h1:(i:Int) < z.s.length:=by omega
 obtain ⟨a1,a2,a3,a4,a5,a6,a7,a8,a9,a10⟩:=h.at' hil hid;have w4:IntKind.i64.wrap ((i:Int)+1)=((i+1:Nat):Int):=by rw [w64 (by omega) (by omega)];rfl
 by_cases hik:i=k
 ·subst hik
  have hdat:=h.dat i hil hid;have hol:=hz.o _ (List.getElem_mem hk);rw [hke] at a5 a6 a10 hdat hol;have k1:=hN o z.a H (by have:o.length≤1048576:=hol;omega) (by have:=hz.a;omega)
  rw [hsn] at k1;obtain ⟨v,H1,k2,d',rfl,e1,m1,-⟩:=hC ⟨o,6,ttl,[d]⟩ ds[i] H hdat (by simp)
  have dO:=(Mn.sl m1).out;have dO0:=hdat.out;have dc:=(Mn.sl m1).one;simp only [sV] at k2 a10 a5 a6;simp -implicitDefEqProofs only [bU,Jc,reduceCtorEq,Ja,Jb,bT,bV,Ja,Jb,q1,q2,q3,q6,q8,hL0,l1,l2,h1,Jj,a1,a2,a3,a4,a5,a6,a9,a10,k1,k2,Jr,rsC,rsV,Js];exact ⟨d',rfl,e1,m1⟩
 ·have ht:z.s[i].t≠6:=hoth i hil hik
  have bd:k- (i+1) < k-i:=by omega
  simp -implicitDefEqProofs only [bU,Jc,reduceCtorEq,Ja,Jb,bT,bV,Ja,Jb,q1,q2,q3,q6,q8,hL0,l1,l2,h1,Jj,a1,a2,a3,a4,a6,ht,w4];exact ⟨_,bd,i+1,_,_,by omega,rfl,rfl,rfl,rfl⟩
theorem JsJ {z:Zn} {zs:AV} {ds:List AV} {H:AH} {o:List UInt8} {ttl:Int} {d:List UInt8} (hF:JkE C Zk) (hR:Je1 C Qz) (h:ZS H zs z.s ds) (hz:SzZ z) (hs:JcR z o ttl d):
  Jt C YT [.ag [.s z.a,zs]] H fun v H'=>v=eR.v (Jkf o ttl d)∧Ext H H':=by
 unfold Jt YT;have zo:=h.row.out;have zc:=h.row.one;obtain ⟨v1,H1,k1,d',rfl,e1,m1⟩:=hF z zs ds H o ttl d h hz hs;obtain ⟨v2,H2,k2,e2,m2,-⟩:=hR ⟨o,6,ttl,[d]⟩ d' H1 m1.sl (by simp)
 have hx:Sx H2 eR v2 [Jkf o ttl d]:=m2.sl;obtain ⟨b1,b2,b3,b4⟩:=Sx.at' hx (j:=0) (by simp)
 rw [show eR.z=5 from rfl] at b1 b3 b4
 have b4': ∀ (L:List Lv) (g:Nat),ldX ⟨L,g,H2⟩ (some 5) (iaV 0 v2)= .ag [.s o,.i .i64 6,.i .i64 1,.i .i64 ttl,.s d]:=b4;have dO:=(Mn.sl m1).out;have dc:=(Mn.sl m1).one;have vO:=(Mn.sl m2).out;have b2':iaC (0:Int) v2:=b2;have hz0:Int.toNat (0:Int)=0:=rfl;simp only [sV] at k1 k2;simp -implicitDefEqProofs only [bU,Jc,reduceCtorEq,Ja,bT,bV,Ja,k1,k2,b1,b2',b3,b4',hz0,Jr,rsC,rsV,Js];exact ⟨rfl,e1.trans e2⟩
end
theorem JiN {z:Zn} {o:List UInt8} {ttl:Int} {d:List UInt8} (h:JcR z o ttl d):(∀ r,r∈WQ z→r.t=6→r=Jkf o ttl d)∧Jkf o ttl d∈WQ z:=by
 obtain ⟨k,hk,hke,-,-,hoth⟩:=h;refine ⟨fun r hr ht=> ?_,List.mem_flatMap.2 ⟨z.s[k],List.getElem_mem hk,?_⟩⟩
 ·obtain ⟨s,hs,hr⟩:=List.mem_flatMap.1 hr
  obtain ⟨j,hj,rfl⟩:=List.mem_iff_getElem.1 hs;obtain ⟨x,hx,rfl⟩:=List.mem_map.1 hr;by_cases e:j=k
  ·subst e
   rw [hke] at hx ⊢;simp only [List.mem_singleton] at hx;subst hx;rfl
  ·exact absurd ht (hoth j hj e)
 ·rw [hke]
  exact List.mem_map.2 ⟨d,by simp,rfl⟩
def Juz (z:Zn):List UInt8:=(((WQ z).find? fun r=>decide (r.t=6)).getD rrZ).d
theorem JlC {z:Zn} {o:List UInt8} {ttl:Int} {d:List UInt8} (h:JcR z o ttl d):Juz z=d:=by
 obtain ⟨h1,h2⟩:=JiN h;unfold Juz;cases hf:(WQ z).find? fun r=>decide (r.t=6) with
 | none=>exact absurd (by simp [Jkf]) (List.find?_eq_none.1 hf _ h2)
 | some r=>
  have ht:=List.find?_some hf;simp only [decide_eq_true_eq] at ht;rw [h1 r (List.mem_of_find?_eq_some hf) ht];rfl
theorem JoK: ∀ (l:List UInt8) (a:Nat),num l a+1≤(a+1)*256 ^ l.length
 | [],a=>by simp [num]
 | b::r,a=>by
  have h:=JoK r (a*256+b.toNat);have hb:b.toNat < 256:=b.toNat_lt;have e:num (b::r) a=num r (a*256+b.toNat):=rfl;rw [e,List.length_cons,Nat.pow_succ];have:(a*256+b.toNat+1)*256 ^ r.length≤(a+1)*256*256 ^ r.length:=Nat.mul_le_mul_right _ (by omega)
  rw [Nat.mul_assoc,Nat.mul_comm 256] at this;omega
def Jxy (z:Zn):List Rr:=(WQ z).filter fun r=>decide (r.t≠6)
def Jzr (z:Zn):Rr:=((WQ z).find? fun r=>decide (r.t=6)).getD rrZ
theorem Jyo {z:Zn} {o:List UInt8} {ttl:Int} {d:List UInt8} (h:JcR z o ttl d):Jzr z=Jkf o ttl d:=by
 obtain ⟨h1,h2⟩:=JiN h;unfold Jzr;cases hf:(WQ z).find? fun r=>decide (r.t=6) with
 | none=>exact absurd (by simp [Jkf]) (List.find?_eq_none.1 hf _ h2)
 | some r=>
  have ht:=List.find?_some hf;simp only [decide_eq_true_eq] at ht;exact h1 r (List.mem_of_find?_eq_some hf) ht
def Jyj (d:List UInt8):Nat:=num ((d.drop (d.length-20)).take 4) 0
theorem Jyp (d:List UInt8):Jyj d < 4294967296:=by
 unfold Jyj;have h:=JoK ((d.drop (d.length-20)).take 4) 0;have hl:((d.drop (d.length-20)).take 4).length≤4:=by simp;omega
 have:256 ^ ((d.drop (d.length-20)).take 4).length≤256 ^ 4:=Nat.pow_le_pow_right (by decide) hl
 have e:(256:Nat) ^ 4=4294967296:=by decide
 omega
def JyN (d:List UInt8):Int×Int:=if chk 6 d=0 then ((Jyj d:Nat),0) else (0,7)
def Jx2 (a b:Int):Bool:=decide (0≤a∧a≤4294967295∧0≤b∧b≤4294967295∧1≤(b-a) % 4294967296∧(b-a) % 4294967296≤2147483647)
theorem Jzn {x:Int} (h1: -4294967296≤x) (h2:x≤4294967296):Jqk .and .i64 x 4294967295=x % 4294967296:=by
 unfold Jqk;simp only;have e:((4294967295:Int) % ((2 ^ 64:Nat):Int)).toNat=2 ^ 32-1:=by decide
 rw [show IntKind.i64.bits=64 from rfl,BitVec.toNat_and,BitVec.toNat_ofInt,BitVec.toNat_ofInt,e,Nat.and_two_pow_sub_one_eq_mod]
 have h3:(((x % ((2 ^ 64:Nat):Int)).toNat % 2 ^ 32:Nat):Int)=x % 4294967296:=by
  rw [show (2 ^ 64:Nat)=18446744073709551616 by decide,show (2 ^ 32:Nat)=4294967296 by decide]
  omega
 rw [h3,w64 (by omega) (by omega)]
theorem Jy4 {x:Int} (h1: -4294967296≤x):(x+4294967296).tmod 4294967296=x % 4294967296:=by
 rw [Int.tmod_eq_emod_of_nonneg (by omega)]
 omega
theorem Rr.eq_iff (a b:Rr):a=b↔a.o=b.o∧a.t=b.t∧a.c=b.c∧a.ttl=b.ttl∧a.d=b.d:=by cases a;cases b;simp
instance:DecidableEq Rr:=fun a b=>decidable_of_iff _ (Rr.eq_iff a b).symm
def JxM (a b:List Rr):List Rr:=a.filter fun r=>decide (¬ r∈b)
def kR:JrV Rr where
 ks:=[.s,.i .i64,.i .i64,.i .i64,.s]
 ek:=eR.v
 eq a b:=by
  rw [JcE,JcE];simp only [AV.cells,JW,ZF,Bool.and_true,Rr.eq_iff,Bool.decide_and]
 ok es k h:= .inr ⟨by simp,⟨_,JcE _,rfl⟩,fun e he=>by obtain ⟨a,ha⟩:=h e he;exact ⟨_,by rw [ha,JcE],rfl⟩⟩
structure Ch where
 old:Rr
 new:Rr
 del:List Rr
 add:List Rr
def ch0:Ch:=⟨rrZ,rrZ,[],[]⟩
def dzF (z w:Zn):Ch×Int:=if ckz z=0∧ckz w=0∧z.a=w.a then (if Jx2 (Jyj (Juz z):Nat) (Jyj (Juz w):Nat)=true then (⟨Jzr z,Jzr w,JxM (Jxy z) (Jxy w),JxM (Jxy w) (Jxy z)⟩,0) else (ch0,27)) else (ch0,32)
end Go.Vm
