import Derived.Test.YtgoalfkgbiblgaaGreatDoorKb4
import Derived.Test.YtgoalfkgbiblgaaGreatDoorKb13
import Derived.Test.YtgoalfkgbiblgaaGreatDoorKb11
import Derived.Test.YtgoalfkgbiblgaaGreatDoorKb5
import Derived.Test.YtgoalfkgbiblgaaGreatDoorKb12
import Derived.Lib.SmallJoins
import Derived.Test.YtgoalfkgbiblgaaGreatDoorRows
import Derived.ProofKit
/- Row 9's table: zones, the law. -/
set_option linter.unusedVariables false
set_option linter.unusedSimpArgs false
set_option maxRecDepth 100000
open Nat renaming reduceEqDiff→Jc
namespace Go.Vm
section
variable {C:Tab}
theorem Jqy {a:AV} {xs:List (Zi×Bool)} {H:AH} (hs:Sx H eI a xs) (hc:Cl H a) (hn:xs.length≤1):Jt C QC [a] H (JdE a xs H):=by
 unfold Jt QC;have ao:=hs.out;obtain ⟨l1,l2⟩:=hs.len;have h2:(xs.length:Int) < 2:=by omega
 simp -implicitDefEqProofs only [bU,Jc,reduceCtorEq,bT,l1,l2,h2,ao,Jr,rsC,rsV,Js];refine ⟨.refl _,xs,.refl _,?_,hs,hc⟩
 match xs,h2 with
 | [],_=>exact Srt.nil
 | [x],_=>exact Srt.one
 | _::_::_,h2=>simp at h2;omega
end
theorem Jl2: ∀ (d k:Nat),d≤10→Jl3 (JK l8 z8 (k+(4+d))) WM (2 ^ d)
 | 0,k,_=>fun a xs H hs hc hn hV=>JC (l:=l8) (z:=z8) (n:=WM) (F:=QC) (k:=k+3) rfl (Jqy hs hc hn)
 | d+1,k,hd=>fun a xs H hs hc hn hV=>by
  have hp:2 ^ d≤1024:=Nat.le_trans (Nat.pow_le_pow_right (by decide) (by omega:d≤10)) (by decide)
  have hB:JmI (JK l8 z8 (k+(4+d))) QM:=by
   rw [show k+(4+d)=(k+1+d)+3 by omega];exact Jvk _
  exact JC (l:=l8) (z:=z8) (n:=WM) (F:=QC) (k:=k+(4+d)) rfl (JrC hp (Jl2 d k (by omega)) hB hs hc (by rw [Nat.pow_succ] at hn;omega) hV)
theorem Jqc (k:Nat):Jio (JK l8 z8 (k+5)) Yv:=by
 unfold Jio;intros
 obtain ⟨v,H',h1,rfl,rfl⟩:=JC (l:=l8) (z:=z8) (n:=Yv) (F:=Jo) (k:=k+4) rfl (Jp3 (Jc3 _) (JuM _) (JsC _) (JlN _) ‹_› ‹_› ‹_› ‹_›);exact h1
theorem JuB (k:Nat):Jwv (JK l8 z8 (k+14)) Yb:=fun a l apex H hs hl hsz ha=>
 JC (l:=l8) (z:=z8) (n:=Yb) (F:=Jp) (k:=k+13) rfl (Jvn (JkO _) (Ju1 _) (Jc3 _) (JuL _) (Jpi _) (Jqc _) (Jl2 9 k (by decide)) (Juo _) hs hl hsz ha)
theorem Juy (k:Nat):Jrr (JK l8 z8 (k+15)) Yf:=fun z zs ds H h hz=>
 Ju (l:=l8) (z:=z8) (n:=Yf) (F:=WC) (k:=k+14) rfl rfl rfl (Jtx (Jlr _) (Jmn _) (JuB _) (Jnn _) h hz)
theorem Jlf:JaA l8 z8 where
 stable:=rfl
 isort:=rfl
 symM:=rfl
 rot:=rfl
 swapR:=rfl
 no n hn:=by
  simp only [List.mem_cons,List.not_mem_nil,or_false] at hn;rcases hn with rfl | rfl | rfl | rfl | rfl | rfl<;>exact ⟨rfl,rfl⟩
theorem Jw5 (k:Nat):Jes (JK l8 z8 (k+21)):=Jpp (k0:=7) Jlf (by decide) (fun j hj=>by
 obtain ⟨j',rfl⟩: ∃ j',j=j'+7:=⟨j-7,by omega⟩
 exact JpI j') k
theorem JwI (k:Nat):Jgn (JK l8 z8 (k+17)):=Jpq (k0:=3) Jlf (by decide) (fun j hj=>by
 obtain ⟨j',rfl⟩: ∃ j',j=j'+3:=⟨j-3,by omega⟩
 exact Jqf j') k
theorem JuJ (k:Nat):JqX (JK l8 z8 (k+22)) Yc:=fun a l apex H hFo hs hl hsz ha=>
 Jn8 (l:=l8) (z:=z8) (n:=Yc) (F:=Jk) (k:=k+21) rfl (One.entry (Ju2 (Jkz _) (JiK _) (Jpd _) (Jd2 _) (Jkq _) (JhP _) (Jvc _) (JsT _) (Jm0 _) (JuI _) (Jw5 k) (JwI (k+4)) hFo hs hl hsz ha))
theorem Jvj (k:Nat):Jou (JK l8 z8 (k+23)) Yi:=fun z zs ds H hFo h hz=>
 Ju (l:=l8) (z:=z8) (n:=Yi) (F:=WH) (k:=k+22) rfl rfl rfl (Jq1 (Jjl _) (JuJ _) (JnK _) hFo h hz)
theorem JyT (k:Nat):Jzz (JK l8 z8 (k+1)) JxY eR:=fun x H=>JaC (l:=l8) (z:=z8) (n:=JxY) (F:=JxU) (k:=k) rfl Jy8
theorem JyY (k:Nat):Jzg (JK l8 z8 (k+2)) JxV eR:=fun a b xs H h h' hn=>JaC (l:=l8) (z:=z8) (n:=JxV) (F:=Jx0) (k:=k+1) rfl (JzA rfl (JyT k) h h' hn)
theorem JyM (k:Nat):JyL (JK l8 z8 (k+2)) JxQ eR JxX 5:=fun a xs j H h hb=>JC (l:=l8) (z:=z8) (n:=JxQ) (F:=Jxz) (k:=k+1) rfl (JyD (Jt8 k) h hb)
theorem JyH (k:Nat):JyF (JK l8 z8 (k+2)) JxO eR JxX 5:=fun a j c H h hb=>JC (l:=l8) (z:=z8) (n:=JxO) (F:=JxC) (k:=k+1) rfl (JyJ (Jt8 k) h hb)
theorem Jzl (k:Nat):JyS (JK l8 z8 (k+3)) JxL:=fun c d a d' a' H h1 h2 h3 h4 l1 l2=>JaC (l:=l8) (z:=z8) (n:=JxL) (F:=Jxs) (k:=k+2) rfl (Jzi (JyT _) (JyY _) h1 h2 h3 h4 l1 l2)
theorem Jzq (k:Nat):JyQ (JK l8 z8 (k+3)) Jxi:=fun c d a j H h1 h2 hd hb=>JC (l:=l8) (z:=z8) (n:=Jxi) (F:=Jxj) (k:=k+2) rfl (Jzk (JyM _) h1 h2 hd hb)
theorem Jzh (k:Nat):JyP (JK l8 z8 (k+3)) Jxh:=fun c d a j n m H h1 h2 hb=>JC (l:=l8) (z:=z8) (n:=Jxh) (F:=Jxk) (k:=k+2) rfl (Jzf (JyH _) h1 h2 hb)
theorem Jzt (k:Nat):Jzs (JK l8 z8 (k+16)) JxF:=fun z w zs ws ds es H hFo h h' hz hw=>
 JC (l:=l8) (z:=z8) (n:=JxF) (F:=Jxq) (k:=k+15) rfl (Jzw (Juy _) (Jze _) (JyW _) (Jy3 _) (JrN _) (Jy6 _) hFo h h' hz hw)
theorem Jzv (k:Nat):Jzs (JK l8 z8 (k+24)) JxE:=fun z w zs ws ds es H hFo h h' hz hw=>
 JC (l:=l8) (z:=z8) (n:=JxE) (F:=Jxr) (k:=k+23) rfl (Jzx (Jvj _) (Jy9 _) (JyU _) (Jyu _) (JyK _) hFo h h' hz hw)
theorem q_law9 (k:Nat) (z w:Zn) (zs ws:AV) (ds es:List AV) (H:AH) (hFo:JR H) (h:ZS H zs z.s ds) (h':ZS H ws w.s es) (hp:Jrv z) (hp':Jrv w): ∃ H',JK l8 z8 (k+25) Jxo [.ag [.s z.a,zs],.ag [.s w.a,ws]] H=some (.b true,H')∧Ext H H':=
 XX (l:=l8) (z:=z8) (n:=Jxo) (F:=Jxg) (k:=k+24) rfl (JyO (JmJ _) (Jna _) (Jzt _) (Jzv _) (Jzl _) (Ji1 _) (Jje _) (Jzq _) (Jzh _) hFo h h' hp hp')
theorem Jvg:Jow Go.Proofs.Tryz.prog l8:=⟨JdU,Jfa,Jdr,Jf7,Jf1,Jfq,JeB,Jd9,Je2,Jfk,Jg9,Jgc,Jgs,JeN,JeY,Jgk,Jde,Jd1,Jfo,JbB,Jcp,Jcu,JcC,Jen,Jdh,Jcs,Jb5,Jg6,Jf0,JgT,JeW,Jek,Jey,Jd8,Jfg,Jc1,Jfj,JgD,JaB,Jj1,Jyd,Jyg,Jyh,Jys,Jyb,Jx4,Jyr,Jhm,Jx6,Jye,Jx5,Jyi,Jcr,Jav,JbA,Jcl,Jbh,Jee,Jfr,Jdt,Jdo,Jyx,Jyt,Jyk,Jyl,Jyf,Jx7,Jx8,Jyc,Jya,JxZ,trivial⟩
theorem JuY:Jow Go.Proofs.Tryz.prog z8:=⟨Jdl,Jgz,JfW,Jex,Jig,Jeq,JeM,Jfi,JeA,JbS,Jfl,Jgo,JjJ,Je5,Jfn,Jeb,JbN,Jdf,JeE,JeD,Jcf,JcZ,Jgw,JeS,Jdj,Jga,JdX,Jc4,Jb8,JeF,Jds,Jdu,JhK,Jge,Jf6,Jhg,Jgp,JgJ,JgC,Jb9,Jcd,Jdp,Jdc,trivial⟩
theorem x8_ok (k:Nat):Yj Go.Proofs.Tryz.prog (JK l8 z8 k):=Jl9 Jvg JuY mixed k
section
variable {P:Program} {w:World} {H:Type} {enc:TypeId×Value→H}
theorem JfE {ad:Addr} {n k:Nat} (hn:0 < n) {f:List Value→Option (DataW H×List MemPlace)} {z:DataW H×List MemPlace} (h:(w.cells? 0 (ad.add (0*k)) n).bind f=some z): ∃ b o,ad=⟨b,o,none⟩∧ ∃ c ty fz,w.heap[b]? =some (.cells c ty fz):=by
 cases hc:w.cells? 0 (ad.add (0*k)) n with
 | none=>rw [hc] at h;cases h
 | some vals=>
  obtain ⟨-,h1,h2⟩:=World.cells?_some hc;have h3:=h2 0 hn;have e:(ad.add (0*k)).add 0=ad:=by simp [Addr.add]
  rw [e,List.getElem?_eq_getElem (by omega)] at h3
  obtain ⟨b,o,sp⟩:=ad;unfold World.cell? at h3;split at h3
  ·rename_i c ty fz hb
   split at h3
   ·cases h3
   ·rename_i hs
    cases sp with
    | none=>exact ⟨b,o,rfl,c,ty,fz,hb⟩
    | some x=>exact absurd rfl hs
  ·cases h3
theorem Jjq {α:Type} {vf:α→AV} {z:Nat} {pre:α→Prop} {ρ:Rn} {cl:List Value}: ∀ (len off:Nat),off+len*z≤cl.length→
  (∀ i,i < len→ ∃ x,pre x∧JO (VA ρ) (vf x).cells ((cl.drop (off+i*z)).take z))→ ∃ l:List α,l.length=len∧(∀ x,x∈l→pre x)∧JO (VA ρ) (flat (l.map vf)) ((cl.drop off).take (len*z))
 | 0,off,_,_=>⟨[],rfl,by simp,by simp [flat,JO]⟩
 | len+1,off,hl,h=>by
  obtain ⟨x,hx,h1⟩:=h 0 (by omega)
  rw [Nat.zero_mul,Nat.add_zero] at h1;have e1:(len+1)*z=z+len*z:=by rw [Nat.add_mul,Nat.one_mul,Nat.add_comm]
  obtain ⟨l,h2,h3,h4⟩:=Jjq (vf:=vf) (z:=z) (ρ:=ρ) (cl:=cl) (pre:=pre) len (off+z) (by omega) (fun i hi=>by
   have:=h (i+1) (by omega)
   rwa [Nat.add_mul,Nat.one_mul,←Nat.add_assoc,Nat.add_right_comm] at this)
  refine ⟨x::l,by simp [h2],fun y hy=>(List.mem_cons.1 hy).elim (fun e=>e▸hx) (h3 y),?_⟩
  rw [e1,List.map_cons];show JO (VA ρ) ((vf x).cells++flat (l.map vf)) _
  rw [List.take_add,List.drop_drop];exact JO.append h1 h4
theorem Fst.none0 {ρ:Rn} {H0:AH} (F:Fst P ρ H0 w) {b:Nat} {c:Array Value} {ty:TypeId} {fz:Nat×Nat} (hb:w.heap[b]? =some (.cells c ty fz)) (z:Nat) (ad:Addr): ∃ ρ' H',Fst P ρ' H' w∧ρ.Le ρ'∧Ext H0 H'∧VP ρ' (.sl H0.n 0 0) (.slice (some ad) 0 0)∧Sl H' z (.sl H0.n 0 0) []:=by
 obtain ⟨F',hle⟩:=F.row (o:=0) (z:=z) (xs:=[]) hb (by simp) (by simp) (by simp [flat,JO])
 exact ⟨_,_,F',hle,.new _ _,⟨⟨b,0,z,0,0,c.size⟩,by simp [Rn.addP],Nat.le_refl _,Nat.le_refl _,0,0,Nat.le_refl _,.inl (by simp),.inl rfl,ad,.inr rfl,rfl⟩,Sl.sl (els:=[]) (by simp) QD (by simp) rfl (by simp)⟩
theorem Jem {e:TypeId} {z n len cap:Nat} {ad:Addr} {elems rest:List (DataW H×List MemPlace)} (hz:0 < z) (hce:P.cellsOf e=z) (hcap:0 < cap) (h5:len≤cap) (h7:elems.length=len)
  (h8: ∀ i,i < len→(w.cells? 0 (ad.add (i*P.cellsOf e)) (P.cellsOf e)).bind (DataW.trod enc P w 0 (fun _=>true) true n e)=elems[i]?)
  (h9:rest.length=cap-len∧ ∀ j,j < cap-len→(w.cells? 0 (ad.add ((len+j)*P.cellsOf e)) (P.cellsOf e)).bind (DataW.trod enc P w 0 (fun _=>true) true n e)=rest[j]?):
  ∃ b off,ad=⟨b,off,none⟩∧ ∃ c ty fz,w.heap[b]? =some (.cells c ty fz)∧off+cap*z≤c.size∧ ∀ i,i < cap→ ∃ y,DataW.trod enc P w 0 (fun _=>true) true n e ((c.toList.drop (off+i*z)).take z)=some y:=by
 obtain ⟨b,off,rfl,c,ty,fz,hb⟩: ∃ b o,ad=⟨b,o,none⟩∧ ∃ c ty fz,w.heap[b]? =some (.cells c ty fz):=by
  rcases Nat.eq_zero_or_pos len with h0 | h0
  ·subst h0
   have:=h9.2 0 (by omega)
   rw [List.getElem?_eq_getElem (by omega)] at this
   exact JfE (k:=P.cellsOf e) (by omega) this
  ·have:=h8 0 h0
   rw [List.getElem?_eq_getElem (by omega)] at this
   exact JfE (k:=P.cellsOf e) (by omega) this
 rw [hce] at h8 h9;simp only [Jba] at h8 h9
 have key: ∀ o y,(w.cells? 0 ⟨b,o,none⟩ z).bind (DataW.trod enc P w 0 (fun _=>true) true n e)=some y→(∃ y,DataW.trod enc P w 0 (fun _=>true) true n e ((c.toList.drop o).take z)=some y)∧o+z≤c.size:=by
  intro o y hy;cases hc:w.cells? 0 ⟨b,o,none⟩ z with
  | none=>rw [hc] at hy;cases hy
  | some vals=>
   rw [hc] at hy;obtain ⟨k1,k2⟩:=Jn7 hb hc hz;subst k1;exact ⟨⟨_,hy⟩,k2⟩
 have hcell: ∀ i,i < cap→(∃ y,DataW.trod enc P w 0 (fun _=>true) true n e ((c.toList.drop (off+i*z)).take z)=some y)∧off+i*z+z≤c.size:=by
  intro i hi;rcases Nat.lt_or_ge i len with hl | hl
  ·exact key _ _ ((h8 i hl).trans (List.getElem?_eq_getElem (by omega)))
  ·have:=h9.2 (i-len) (by omega)
   rw [show len+(i-len)=i by omega] at this
   exact key _ _ (this.trans (List.getElem?_eq_getElem (by omega)))
 refine ⟨b,off,rfl,c,ty,fz,hb,?_,fun i hi=>(hcell i hi).1⟩
 have:=(hcell (cap-1) (by omega)).2
 have e:cap*z=(cap-1)*z+z:=by
  conv=>lhs;rw [show cap=(cap-1)+1 by omega]
  rw [Nat.add_mul,Nat.one_mul]
 omega
theorem Fst.lay {ρ:Rn} {H0:AH} (F:Fst P ρ H0 w) {b off z len cap:Nat} {c:Array Value} {ty:TypeId} {fz:Nat×Nat} {xs:List AV} (hb:w.heap[b]? =some (.cells c ty fz)) (hz: ∀ x,x∈xs→x.cells.length=z) (hlen:xs.length=len) (h5:len≤cap) (hsz:off+cap*z≤c.size)
  (hrel:JO (VA ρ) (flat xs) ((c.toList.drop off).take (len*z))): ∃ ρ' H',Fst P ρ' H' w∧ρ.Le ρ'∧Ext H0 H'∧VP ρ' (.sl H0.n 0 len) (.slice (some ⟨b,off,none⟩) len cap)∧Sl H' z (.sl H0.n 0 len) xs:=by
 have hlc:len*z≤cap*z:=Nat.mul_le_mul_right _ h5;obtain ⟨F',hle⟩:=F.row (o:=off) (z:=z) (xs:=xs) hb hz (by rw [hlen];omega) (by rw [hlen];exact hrel)
 refine ⟨_,_,F',hle,.new _ _,?_,?_⟩
 ·exact ⟨⟨b,off,z,0,xs.length,c.size⟩,by simp [Rn.addP],Nat.le_refl _,by simp [hlen],off,cap,h5,.inl (by simp),.inr hsz,_,.inl rfl,rfl⟩
 ·have:=Sl.sl (H:=H0.new (.arr false 0 z xs)) (z:=z) (id:=H0.n) (ix:=0) (els:=xs) (by simp) QD (by simp) (by rw [List.drop_zero,List.take_length]) (by simp)
  rwa [hlen] at this
theorem Fst.texts {ρ:Rn} {H0:AH} (F:Fst P ρ H0 w) {b0:Nat} {c0:Array Value} {ty0:TypeId} {fz0:Nat×Nat} (hlive:w.heap[b0]? =some (.cells c0 ty0 fz0)) {t e:TypeId} (ht:P.underlying t=some (.slice e)) (he:P.underlying e=some .string) (hce:P.cellsOf e=1) {fuel:Nat} {v:Value} {y:DataW H×List MemPlace}
  (hd:DataW.trod enc P w 0 (fun _=>true) true fuel t [v]=some y): ∃ ρ' H' a,∃ l:List (List UInt8),Fst P ρ' H' w∧ρ.Le ρ'∧Ext H0 H'∧VP ρ' a v∧Sl H' 1 a (l.map AV.s)∧l.length≤9223372036854775807∧ ∀ x,x∈l→x.length≤9223372036854775807:=by
 rcases DataW.trod_slice ht hd with ⟨h1,-⟩ | ⟨ad,len,cap,elems,rest,n,-,h2,-,-,h5,h6,h7,h8,h9,-⟩
 ·cases h1
  exact ⟨ρ,H0,.ns,[],F,.refl ρ,.refl H0,(show VP ρ .ns _ from rfl),Sl.nil,by simp,by simp⟩
 ·have hv:=List.singleton_inj.1 h2
  subst hv;rcases Nat.eq_zero_or_pos cap with hc | hc
  ·subst hc
   obtain rfl:len=0:=by omega
   obtain ⟨ρ',H',k1,k2,k3,k4,k5⟩:=F.none0 hlive 1 ad;exact ⟨ρ',H',_,[],k1,k2,k3,k4,k5,by simp,by simp⟩
  ·obtain ⟨b,off,rfl,c,ty,fz,hb,hsz,hel⟩:=Jem (by decide) hce hc h5 h7 h8 (h9 rfl)
   have hml:len≤9223372036854775807:=by unfold maxLen at h6;omega
   obtain ⟨l,k1,k2,k3⟩:=Jjq (vf:=AV.s) (z:=1) (pre:=fun x=>x.length≤9223372036854775807) (ρ:=ρ) (cl:=c.toList) len off (by simp;omega) (fun i hi=>by
    obtain ⟨y,hy⟩:=hel i (by omega)
    obtain ⟨s,hs,-,hsl⟩:=DataW.trod_string he hy;have hs':s.data.size≤maxLen:=hsl;refine ⟨s.data.toList,by unfold maxLen at hs';simp only [Array.length_toList];omega,?_⟩
    rw [hs];exact ⟨(show VP ρ (.s s.data.toList) _ from rfl),trivial⟩)
   obtain ⟨ρ',H',q1,q2,q3,q4,q5⟩:=F.lay (xs:=l.map AV.s) hb (fun x hx=>by
    obtain ⟨y,-,rfl⟩:=List.mem_map.1 hx;rfl) (by rw [List.length_map,k1]) h5 hsz k3
   exact ⟨ρ',H',_,l,q1,q2,q3,q4,q5,by omega,k2⟩
theorem Js4 {base:Nat} {t:TypeId} {cs:Array Value} {ts:List TypeId} (h:Row.okWide P w .any base t cs) (hts:P.cellTypes P.depth t=some ts) (hsz:cs.size=ts.length): ∀ (i:Nat) (v:Value) (u:TypeId),cs[i]? =some v→ts[i]? =some u→Cell.okWide P w .any base u v:=by
 obtain ⟨ts',h1,-,h3⟩:=h;rw [hts] at h1;cases h1;intro i v u hv hu;obtain ⟨u',h4,h5⟩:=h3 i v hv;have hi:=(List.getElem?_eq_some_iff.1 hu).1;rw [Nat.mod_eq_of_lt hi,hu] at h4;cases h4;exact h5
structure ZoneTy (P:Program) (tZ tR tS tD:TypeId):Prop where
 fZ: ∃ f0 f1:Field,P.underlying tZ=some (.struct #[f0,f1])∧(P.underlying f0.type=some .string∧f0.offset=0∧P.cellsOf f0.type=1)∧(f1.type=tR∧f1.offset=1)
 cZ:P.cellsOf tZ=2
 uR:P.underlying tR=some (.slice tS)
 cR:P.cellsOf tR=1
 fS: ∃ f0 f1 f2 f3:Field,P.underlying tS=some (.struct #[f0,f1,f2,f3])∧(P.underlying f0.type=some .string∧f0.offset=0∧P.cellsOf f0.type=1)∧(P.underlying f1.type=some (.int .i64)∧f1.offset=1∧P.cellsOf f1.type=1)∧(P.underlying f2.type=some (.int .i64)∧f2.offset=2∧P.cellsOf f2.type=1)∧(f3.type=tD∧f3.offset=3)
 cS:P.cellsOf tS=4
 uD: ∃ e,P.underlying tD=some (.slice e)∧P.underlying e=some .string∧P.cellsOf e=1
 cD:P.cellsOf tD=1
 ts: ∃ ts,P.cellTypes P.depth tZ=some ts∧ts.length=2∧ts[1]? =some tR
theorem Fst.set {ρ:Rn} {H0:AH} (F:Fst P ρ H0 w) {b0:Nat} {c0:Array Value} {ty0:TypeId} {fz0:Nat×Nat} (hlive:w.heap[b0]? =some (.cells c0 ty0 fz0)) {tZ tR tS tD:TypeId} (T:ZoneTy P tZ tR tS tD) {fuel:Nat} {cs:List Value} {y:DataW H×List MemPlace} (hd:DataW.trod enc P w 0 (fun _=>true) true fuel tS cs=some y):
  ∃ ρ' H',∃ (s:Qa) (d:AV),Fst P ρ' H' w∧ρ.Le ρ'∧Ext H0 H'∧JO (VA ρ') (sV s d).cells cs∧Sl H' 1 d (s.d.map AV.s)∧JpB s:=by
 obtain ⟨f0,f1,f2,f3,hS,⟨a0,o0,z0⟩,⟨a1,o1,z1⟩,⟨a2,o2,z2⟩,⟨a3,o3⟩⟩:=T.fS;obtain ⟨e,uD,ue,ce⟩:=T.uD;obtain ⟨y0,y1,y2,y3,n,-,hl,g0,g1,g2,g3⟩:=Go.Joins.trod_struct4 hS hd;rw [T.cS] at hl
 obtain ⟨c0',c1,c2,c3,rfl⟩: ∃ c0 c1 c2 c3,cs=[c0,c1,c2,c3]:=by
  match cs,hl with
  | [c0,c1,c2,c3],_=>exact ⟨c0,c1,c2,c3,rfl⟩
 rw [o0,z0] at g0;rw [o1,z1] at g1;rw [o2,z2] at g2;rw [o3,a3,T.cD] at g3;simp only [List.drop_zero,List.drop_succ_cons,List.take_succ_cons,List.take_zero] at g0 g1 g2 g3;obtain ⟨s,hs,-,hsl⟩:=DataW.trod_string a0 g0;obtain ⟨m1,hm1,-,-⟩:=DataW.trod_int a1 g1;obtain ⟨m2,hm2,-,-⟩:=DataW.trod_int a2 g2;obtain rfl:=List.singleton_inj.1 hs;obtain rfl:=List.singleton_inj.1 hm1;obtain rfl:=List.singleton_inj.1 hm2;have hs':s.data.size≤maxLen:=hsl;obtain ⟨ρ',H',d,l,q1,q2,q3,q4,q5,q6,q7⟩:=F.texts hlive uD ue ce g3;refine ⟨ρ',H',⟨s.data.toList,m1,m2,l⟩,d,q1,q2,q3,⟨(show VP ρ' (.s s.data.toList) _ from rfl),rfl,rfl,VA.of q4,trivial⟩,q5,⟨?_,q6,q7⟩⟩
 unfold maxLen at hs';simp only [Array.length_toList];omega
theorem Fst.sets {b0:Nat} {c0:Array Value} {ty0:TypeId} {fz0:Nat×Nat} (hlive:w.heap[b0]? =some (.cells c0 ty0 fz0)) {tZ tR tS tD:TypeId} (T:ZoneTy P tZ tR tS tD) {n:Nat} {cl:List Value}: ∀ (len off:Nat) {ρ:Rn} {H0:AH},Fst P ρ H0 w→off+len*4≤cl.length→
  (∀ i,i < len→ ∃ y,DataW.trod enc P w 0 (fun _=>true) true n tS ((cl.drop (off+i*4)).take 4)=some y)→
  ∃ ρ' H',∃ (sets:List Qa) (ds:List AV),Fst P ρ' H' w∧ρ.Le ρ'∧Ext H0 H'∧sets.length=len∧ds.length=len∧(∀ s,s∈sets→JpB s)∧(∀ i (h:i < sets.length) (h2:i < ds.length),Sl H' 1 ds[i] (sets[i].d.map AV.s))∧JO (VA ρ') (flat (List.zipWith sV sets ds)) ((cl.drop off).take (len*4))
 | 0,off,ρ,H0,F,_,_=>⟨ρ,H0,[],[],F,.refl ρ,.refl H0,rfl,rfl,by simp,fun i h=>absurd h (Nat.not_lt_zero _),by simp [flat,JO]⟩
 | len+1,off,ρ,H0,F,hl,h=>by
  obtain ⟨y,hy⟩:=h 0 (by omega)
  rw [Nat.zero_mul,Nat.add_zero] at hy;obtain ⟨ρ1,H1,s,d,F1,le1,e1,r1,b1,p1⟩:=F.set hlive T hy
  obtain ⟨ρ2,H2,sets,ds,F2,le2,e2,k1,k2,k3,k4,k5⟩:=Fst.sets hlive T (n:=n) (cl:=cl) len (off+4) F1 (by omega) (fun i hi=>by
   have:=h (i+1) (by omega)
   rwa [Nat.add_mul,Nat.one_mul,←Nat.add_assoc,Nat.add_right_comm] at this)
  refine ⟨ρ2,H2,s::sets,d::ds,F2,le1.trans le2,e1.trans e2,by simp [k1],by simp [k2],fun x hx=>(List.mem_cons.1 hx).elim (fun e=>e▸p1) (k3 x),fun i h1 h2=> ?_,?_⟩
  ·match i,h1,h2 with
   | 0,_,_=>exact Sl.ext b1 e2
   | i+1,h1,h2=>exact k4 i (by simpa using h1) (by simpa using h2)
  ·rw [show (len+1)*4=4+len*4 by omega,List.zipWith_cons_cons]
   show JO (VA ρ2) ((sV s d).cells++flat (List.zipWith sV sets ds)) _
   rw [List.take_add,List.drop_drop];exact JO.append (r1.mono fun _ _=>VA.mono le2) k5
theorem Fst.zone {base:Nat} {ρ0:Rn} {H0:AH} (F:Fst P ρ0 H0 w) {tZ tR tS tD:TypeId} (T:ZoneTy P tZ tR tS tD) {v:Value} {d:DataW H} {ps:List MemPlace}
  (hval:Value.okWide P w .any base tZ v) (hd:DataW.Trod enc P w 0 (fun _=>true) true tZ v d ps):
  ∃ ρ Hh,∃ (zs:AV) (ds:List AV) (z:Zn),Fst P ρ Hh w∧ρ0.Le ρ∧Ext H0 Hh∧V1 ρ (.ag [.s z.a,zs]) v∧ZS Hh zs z.s ds∧Jrv z:=by
 obtain ⟨f0,f1,hZ,⟨a0,o0,z0⟩,⟨a1,o1⟩⟩:=T.fZ;unfold Value.okWide at hval;rw [hZ] at hval;obtain ⟨cs,rfl,hsz,hrow⟩:=hval;obtain ⟨fuel,hd⟩:=hd;have hd':DataW.trod enc P w 0 (fun _=>true) true fuel tZ cs.toList=some (d,ps):=hd
 obtain ⟨y0,y1,n,-,hl,g0,g1⟩:=Go.ChangeShapes.trod_struct2 hZ hd';rw [T.cZ] at hl
 obtain ⟨c0,c1,rfl⟩: ∃ c0 c1,cs= #[c0,c1]:=by
  obtain ⟨l⟩:=cs;match l,hl with
  | [c0,c1],_=>exact ⟨c0,c1,rfl⟩
 rw [o0,z0] at g0;rw [o1,a1,T.cR] at g1;simp only [List.drop_zero,List.drop_succ_cons,List.take_succ_cons,List.take_zero] at g0 g1;obtain ⟨s,hs,-,hsl⟩:=DataW.trod_string a0 g0;obtain rfl:=List.singleton_inj.1 hs;have hs':s.data.size≤maxLen:=hsl
 have hs2:s.data.toList.length≤9223372036854775807:=by
  unfold maxLen at hs';simp only [Array.length_toList];omega
 rcases DataW.trod_slice T.uR g1 with ⟨h1,-⟩ | ⟨ad,len,cap,elems,rest,n',-,h2,-,-,h5,h6,h7,h8,h9,-⟩
 ·obtain rfl:=List.singleton_inj.1 h1
  refine ⟨ρ0,H0,.ns,[],⟨s.data.toList,[]⟩,F,.refl ρ0,.refl H0,⟨_,rfl,(show VP ρ0 (.s s.data.toList) _ from rfl),VA.of (show VP ρ0 .ns _ from rfl),trivial⟩,⟨Sl.nil,rfl,fun i h=>absurd h (Nat.not_lt_zero _)⟩,⟨hs2,by simp,by simp⟩⟩
 ·obtain rfl:=List.singleton_inj.1 h2
  have hml:len≤9223372036854775807:=by unfold maxLen at h6;omega
  rcases Nat.eq_zero_or_pos cap with hc | hc
  ·subst hc
   obtain rfl:len=0:=by omega
   obtain ⟨ts,hts,htl,t1⟩:=T.ts;have hval:=Js4 hrow hts (by simp [htl]) 1 (.slice (some ad) 0 0) tR (by simp) t1
   simp only [Cell.okWide,T.uR,Cell.ok] at hval;obtain ⟨-,-,-,-,row,cells,hsh,-⟩:=hval
   obtain ⟨c,ty,fz,hb⟩: ∃ c ty fz,w.heap[ad.block]? =some (.cells c ty fz):=by
    unfold World.shape? at hsh;split at hsh
    ·rename_i c ty fz hb;exact ⟨c,ty,fz,hb⟩
    ·cases hsh
   obtain ⟨ρ',H',k1,k2,k3,k4,k5⟩:=F.none0 hb 4 ad;exact ⟨ρ',H',_,[],⟨s.data.toList,[]⟩,k1,k2,k3,⟨_,rfl,(show VP ρ' (.s s.data.toList) _ from rfl),VA.of k4,trivial⟩,⟨k5,rfl,fun i h=>absurd h (Nat.not_lt_zero _)⟩,⟨hs2,by simp,by simp⟩⟩
  ·obtain ⟨b,off,rfl,c,ty,fz,hb,hsz2,hel⟩:=Jem (by decide) T.cS hc h5 h7 h8 (h9 rfl)
   obtain ⟨ρ1,H1,sets,ds,F1,le1,e1,k1,k2,k3,k4,k5⟩:=Fst.sets hb T (n:=n') (cl:=c.toList) len off F (by simp;omega) (fun i hi=>hel i (by omega))
   obtain ⟨ρ',H',q1,q2,q3,q4,q5⟩:=F1.lay (xs:=List.zipWith sV sets ds) hb (fun x hx=>by
    obtain ⟨i,hi,rfl⟩:=List.mem_iff_getElem.1 hx;simp only [List.getElem_zipWith];rfl) (by simp [k1,k2]) h5 hsz2 k5
   exact ⟨ρ',H',_,ds,⟨s.data.toList,sets⟩,q1,le1.trans q2,e1.trans q3,⟨_,rfl,(show VP ρ' (.s s.data.toList) _ from rfl),VA.of q4,trivial⟩,⟨q5,by rw [k1,k2],fun i h1 h2=>Sl.ext (k4 i h1 h2) q3⟩,⟨hs2,by show sets.length≤_;omega,k3⟩⟩
end
open Go.ChangeShapes Go.WideShapes Go.ChangeAt Go.RowKit Go.WideElems
def Jjo {H:Type}:List (Lit×DataW H):=JfA.map fun e=>(.int .i64 e.1,.lit (.string e.2))
theorem gForms_at:Go.Proofs.Tryz.prog.globalNamed "loop.example/s01858/impl.forms" =some 1:=by kernel_rfl
theorem tForms_at:(Go.Proofs.Tryz.prog.globals[1]?).map (·.type)=some 298:=by kernel_rfl
theorem JhZ: ∀ e e',e∈Jau→e'∈Jau→e.1.toI=e'.1.toI→e.2=e'.2:=by
 intro e e' h h' hh
 have: ∀ e∈Jau,∀ e'∈Jau,e.1.toI=e'.1.toI→e.2=e'.2:=by
  intro e he e' he';simp only [Jau,JfA,List.map_cons,List.map_nil,List.mem_cons,List.not_mem_nil,or_false] at he he';rcases he with rfl | rfl | rfl | rfl | rfl | rfl | rfl | rfl | rfl | rfl | rfl | rfl | rfl | rfl<;>
  rcases he' with rfl | rfl | rfl | rfl | rfl | rfl | rfl | rfl | rfl | rfl | rfl | rfl | rfl | rfl<;>
  first | exact fun _=>rfl | (intro h;exact absurd h (by decide))
 exact this e h e' h' hh
theorem Jj3 {Hh:Type} {enc:TypeId×Value→Hh} {W:World} {sp:Nat→Bool} {held:Bool} {fuel:Nat} {cs:List Value} {p:List MemPlace}
  (hd:DataW.trod enc Go.Proofs.Tryz.prog W 0 sp held fuel 298 cs=some (.map Jjo,p)):
  ∃ b es clk,cs=[.map (some b)]∧W.heap[b]? =some (.map es clk)∧ ∃ ls:List (AV×AV),(∀ ρ,JO (JhU ρ) ls es.toList)∧(∀ e,e∈ls→e∈Jau)∧(∀ e,e∈Jau→e∈ls):=by
 rcases open_map Go.Proofs.Tryz.underlying298 hd with ⟨_,hx⟩ | ⟨b,es,clk,m,rfl,rfl,hb,_,F,hx⟩
 ·cases hx
 simp only [Prod.mk.injEq,DataW.map.injEq] at hx;have hmem: ∀ y,y∈es.toList.map (rg Go.Proofs.Tryz.prog 2 (elemAt enc Go.Proofs.Tryz.prog W 0 sp held m 9))↔y∈Jjo:=fun y=>by rw [hx.1];exact Go.mem_sorted.symm
 have one: ∀ x,x∈es.toList→ ∃ e,e∈JfA∧rg Go.Proofs.Tryz.prog 2 (elemAt enc Go.Proofs.Tryz.prog W 0 sp held m 9) x=(.int .i64 e.1,.lit (.string e.2))∧x.key= .int .i64 e.1∧x.val= .string ⟨e.2.toArray⟩:=by
  intro x hxe;obtain ⟨y,hy⟩:=F.reads x hxe;have hrg:=rg_of hy;have:=(hmem y).1 (hrg▸List.mem_map_of_mem hxe)
  obtain ⟨e,he,rfl⟩:=List.mem_map.1 this;have hk:=rd_key hy;obtain ⟨z,hz,hz2⟩:=rd_val hy;refine ⟨e,he,hrg,?_,?_⟩
  ·unfold keyOf at hk
   rw [Go.Proofs.Tryz.underlying2] at hk;simp only at hk;unfold mapKey at hk;rw [Go.Proofs.Tryz.underlying2] at hk;generalize x.key=kv at hk;cases kv<;>simp at hk
   obtain ⟨⟨rfl,-⟩,rfl⟩:=hk;rfl
  ·unfold elemAt at hz
   split at hz
   ·rename_i hf
    obtain ⟨s,hs,hs2,-⟩:=DataW.trod_string Go.Proofs.Tryz.underlying9 hz;subst hs2
    have hv:x.val= .string s:=by
     generalize x.val=v at hs hf;cases v<;>simp [Value.formed,Go.Proofs.Tryz.underlying9,Value.cells] at hf hs
     subst hs;rfl
    simp only [DataW.lit.injEq,Lit.string.injEq] at hz2;rw [hv,hz2]
   ·cases hz
 let φ:MapEntry→AV×AV:=fun x=>(.i .i64 (match x.key with | .int _ n=>n | _=>0),.s (match x.val with | .string s=>s.data.toList | _=>[]))
 have hφ: ∀ x,x∈es.toList→ ∃ e,e∈JfA∧rg Go.Proofs.Tryz.prog 2 (elemAt enc Go.Proofs.Tryz.prog W 0 sp held m 9) x=(.int .i64 e.1,.lit (.string e.2))∧φ x=(.i .i64 e.1,.s e.2)∧ ∀ ρ,JhU ρ (φ x) x:=by
  intro x hxe;obtain ⟨e,h1,h2,h3,h4⟩:=one x hxe;have hp:φ x=(.i .i64 e.1,.s e.2):=by simp only [φ,h3,h4]
  refine ⟨e,h1,h2,hp,fun ρ=> ?_⟩
  rw [hp];exact ⟨(show x.key=_ from h3),(show x.val=_ from h4)⟩
 refine ⟨b,es,clk,rfl,hb,es.toList.map φ,fun ρ=> ?_,fun e he=> ?_,fun e he=> ?_⟩
 ·rw [JO.map]
  have: ∀ l:List MapEntry,(∀ x,x∈l→x∈es.toList)→JO (fun x y=>JhU ρ (φ x) y) l l:=by
   intro l;induction l with
   | nil=>intro _;trivial
   | cons x l ih=>
    intro h;obtain ⟨e,-,-,-,h4⟩:=hφ x (h x (by simp))
    exact ⟨h4 ρ,ih fun y hy=>h y (by simp [hy])⟩
  exact this _ fun x hx=>hx
 ·obtain ⟨x,hxe,rfl⟩:=List.mem_map.1 he
  obtain ⟨e,h1,-,h3,-⟩:=hφ x hxe;rw [h3];exact List.mem_map.2 ⟨e,h1,rfl⟩
 ·obtain ⟨e0,h0,rfl⟩:=List.mem_map.1 he
  have:((.int .i64 e0.1,.lit (.string e0.2)):Lit×DataW Hh)∈Jjo:=List.mem_map.2 ⟨e0,h0,rfl⟩;obtain ⟨x,hxe,hrx⟩:=List.mem_map.1 ((hmem _).2 this);obtain ⟨e,h1,h2,h3,-⟩:=hφ x hxe;rw [hrx] at h2;simp only [Prod.mk.injEq,Lit.int.injEq,DataW.lit.injEq,Lit.string.injEq,true_and] at h2;refine List.mem_map.2 ⟨x,hxe,?_⟩
  rw [h3,h2.1,h2.2]
theorem forms_first {laid:List (String×DataW Unit)} {W:World} (hl:laid=[("loop.example/s01858/impl.forms",.map Jjo)]) (hL:laidMetH Go.Proofs.Tryz.prog laid W):
  ∃ ρ H,Fst Go.Proofs.Tryz.prog ρ H W∧JR H:=by
 subst hl;rw [MakeChecks.laidMetH_plain _ _ _ rfl] at hL;obtain ⟨ps,⟨g,t,cs,f0,p0,q0,hg,ht,hv,hd,_,_⟩,_,_⟩:=hL;obtain rfl:=Option.some.inj (gForms_at.symm.trans hg);obtain rfl:=Option.some.inj (tForms_at.symm.trans ht);obtain ⟨b,es,clk,hcs,hb,ls,h1,h2,h3⟩:=Jj3 hd
 obtain ⟨ty,fz,hg1⟩: ∃ ty fz,W.heap[1]? =some (.cells cs ty fz):=by
  unfold World.var? at hv;rw [hg] at hv;simp only [Option.bind_some] at hv;split at hv
  ·rename_i c ty fz hc
   cases hv;exact ⟨ty,fz,hc⟩
  ·cases hv
 have hG:1 < Go.Proofs.Tryz.prog.globals.size:=by
  cases h:Go.Proofs.Tryz.prog.globals[1]? with
  | none=>rw [h] at ht;cases ht
  | some x=>exact (Array.getElem?_eq_some_iff.1 h).1
 obtain ⟨F1,le1⟩:=(Fst.first1 (P:=Go.Proofs.Tryz.prog) (w:=W) fun _=>cs.size).map hb (h1 _)
 obtain ⟨F2,le2⟩:=F1.glob1 (g:=1) (x:= .mp Go.Proofs.Tryz.prog.globals.size) (show 1 < Go.Proofs.Tryz.prog.globals.size+1 by omega) (by simp only [Rn.addO,rn1];rw [if_pos hG]) hg1 hcs ⟨b,by simp [Rn.addO],rfl⟩
 refine ⟨_,_,F2,⟨false,Go.Proofs.Tryz.prog.globals.size,ls,Z9,?_,(show 1 < Go.Proofs.Tryz.prog.globals.size+1 by omega),(show Go.Proofs.Tryz.prog.globals.size < Go.Proofs.Tryz.prog.globals.size+1 by omega),fun e he=> ?_,fun t=> ?_⟩⟩
 ·rw [XQ (by omega)]
  exact QD (H:=⟨Go.Proofs.Tryz.prog.globals.size,fun _=> .no⟩)
 ·obtain ⟨e0,-,rfl⟩:=List.mem_map.1 (h2 e he)
  rfl
 ·refine Jh8 h2 h3 fun e e' he he' hk hk'=>JhZ e e' he he' ?_
  obtain ⟨e0,-,rfl⟩:=List.mem_map.1 he;obtain ⟨e1,-,rfl⟩:=List.mem_map.1 he';simp only [AV.cells,JW,ZF,Bool.and_true,decide_eq_true_eq] at hk hk';simp only [AV.toI];omega
end Go.Vm
