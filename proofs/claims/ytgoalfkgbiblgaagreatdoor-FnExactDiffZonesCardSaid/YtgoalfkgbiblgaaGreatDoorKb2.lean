import Derived.WideKeyRuns
import Derived.Test.YtgoalfkgbiblgaaGreatDoorKb1
import Derived.Laws.StructEq
import Derived.MapKept
import Derived.BigCall
import Derived.Orders
/- What an operation of the abstract machine means for Go's own: closures, arrays' slices, maps, strings' iterators, structs compared. -/
set_option linter.unusedVariables false
set_option linter.unusedSimpArgs false
namespace Go.Vm
section ops
variable {P:Program} {B:Base} {C:Tab} {ρ:Rn} {M:Mem} {w:World} {e:Env} {a:Act} {o:Oper}
theorem JrO {d:Nat} {x:Opd} (hc:Jy P (.nc d x) o.op=true) (hk:okO C e M (.nc d x)) (hE:OE P ρ e a [x]) (hm:Qt B ρ M w):Sim P o a w (Out B ρ M (evT e x)):=by
 simp only [Jy] at hc;split at hc
 ·rename_i x' ho
  have hv:=hE x x' (by simp) hc
  refine Sim.value (v:=a.eval x') ?_ (Out.same hv hm)
  simp only [okO] at hk;generalize evT e x=vv at hk hv;cases vv<;>try exact hk.elim
  case pv=>obtain ⟨p,-,-,h3⟩:=(hv:VP ρ (.pv ..) _);simp [execOp,ho,h3]
  case pe=>obtain ⟨p,-,-,-,-,h3⟩:=(hv:VP ρ (.pe ..) _);simp [execOp,ho,h3]
  case la=>obtain ⟨b,z,-,h3⟩:=hv;simp [execOp,ho,h3]
  case fn=>obtain ⟨rc,h3,-⟩:=(hv:VA ρ (.fn ..) _);simp [execOp,ho,h3]
 ·cases hc
theorem Joz {ρ:Rn}: ∀ {xs:List Opd} {ys:List Operand},Jdm P xs ys=true→OE P ρ e a xs→JqT (evs e xs)=true→JO (VP ρ) (evs e xs) (ys.map a.eval)
 | [],[],_,_,_=>trivial
 | x::r,y::q,hc,hE,ho=>by
  simp only [Jdm,Bool.and_eq_true] at hc;simp only [evs,JqT,Bool.and_eq_true] at ho;refine ⟨?_,Joz hc.2 (fun y z hy=>hE y z (by simp [hy])) ho.2⟩
  have hv:=hE x y (by simp) hc.1
  have h1:=ho.1;generalize evT e x=vv at h1 hv;cases vv<;>first | exact hv | (simp [AV.isP] at h1)
 | [],_::_,hc,_,_=>by simp [Jdm] at hc
 | _::_,[],hc,_,_=>by simp [Jdm] at hc
theorem Jtz {d f:Nat} {caps:List Opd} (hc:Jy P (.mf d f caps) o.op=true) (hk:JqT (evs e caps)=true) (hE:OE P ρ e a caps) (hm:Qt B ρ M w):Sim P o a w (Out B ρ M (.fn f (evs e caps))):=by
 simp only [Jy] at hc;split at hc
 ·rename_i g first cs ho
  simp only [Bool.and_eq_true,beq_iff_eq] at hc;obtain ⟨⟨rfl,h1⟩,h2⟩:=hc;have hfirst:first= #[]:=by simpa using h1
  subst hfirst;refine Sim.value (v:= .func (.func f) #[] (cs.map a.eval)) (by simp [execOp,ho,Instr.makeFunc]) (Out.same (VE.of (V2.of (V1.of (show VA ρ (.fn f (evs e caps)) _ from ⟨_,rfl,?_⟩)))) hm)
  rw [Array.toList_map];exact Joz h2 hE hk
 ·cases hc
theorem Jo1 {d len z:Nat} {x:Opd} (hc:Jy P (.sla d x len z) o.op=true) (hk:okO C e M (.sla d x len z)) (hE:OE P ρ e a [x]) (hm:Qt B ρ M w):
  Sim P o a w (Out B ρ M (vlO C e M (.sla d x len z))):=by
 simp only [Jy] at hc;split at hc
 ·rename_i t x' ho
  simp only [Bool.and_eq_true] at hc;obtain ⟨h1,h2⟩:=hc;split at h2
  ·rename_i l el har
   simp only [Bool.and_eq_true,beq_iff_eq,bne_iff_ne,ne_eq] at h2;obtain ⟨⟨rfl,hz⟩,hl0⟩:=h2;obtain ⟨id,hx,rw',xs,hob,hlen⟩:=hk;have hv:=hE x x' (by simp) h1
   rw [hx] at hv;obtain ⟨p,p1,p2,p3⟩:=(hv:VP ρ (.pv id 0) _)
   have hid:id < M.h.n:=by
    rcases Nat.lt_or_ge id M.h.n with h | h
    ·exact h
    ·have:=(hm.heap.fr id h).1;rw [this] at p1;cases p1
   have hrep:=hm.heap.rep id hid;rw [hob] at hrep;obtain ⟨hzz,q,rest,hA⟩:=hrep;have hst:=hA.hst0 rfl
   have hpq:p=q:=by
    rw [hA.hpl,hst.1] at p1;simpa using p1
   subst hpq;obtain ⟨c,ty,fz,v1,v2,v3,v4,v5⟩:=hA.hv;have hpx:=hA.hx;have hpz:=hA.hz;simp only [vlO,hx];refine Sim.value (v:= .slice (some ⟨p.b,p.o,none⟩) l l) ?_ (Out.same (VE.of (V2.of (V1.of (VA.of (show VP ρ (.sl id 0 l) _ from ⟨p,p1,by omega,by omega,p.o,l,Nat.le_refl _,.inl (by rw [p2];simp),.inr ?_,_,.inl rfl,rfl⟩))))) hm)
   ·have hu:=Jix har
    have hb:(Instr.sliceBounds false l l none none none).run P w= .ok (0,l,l) w:=by simp [Instr.sliceBounds]
    simp [execOp,ho,p3,Instr.sliceAt,JD hu,Instr.sureAddr,hb,J5 hz,Addr.add,hl0]
   ·rw [p2,hpx,hlen,hpz] at v4
    rw [hpz];simpa using v4
  ·cases h2
 ·cases hc
theorem JoX {d:Nat} (hc:Jy P (.mkm d) o.op=true) (hm:Qt B ρ M w):Sim P o a w (Out B ρ ⟨M.l,M.g,M.h.new (.map true [])⟩ (.mp M.h.n)):=by
 simp only [Jy] at hc;split at hc
 ·rename_i t ho
  obtain ⟨h1,h2⟩:=hm.heap.newMap (w':=w.alloc (.map #[] 0)) (by simp) (fun b hb=>JP _ _ b hb) (heap_alloc_new _ _)
  refine Sim.value (v:= .map (some w.heap.size)) (w':=w.alloc (.map #[] 0)) ?_ ⟨_,h2,VE.of (V2.of (V1.of (VA.of (show VP _ (.mp M.h.n) _ from ⟨w.heap.size,by simp [Rn.newO],rfl⟩)))),?_⟩
  ·simp [execOp,ho,Instr.makeMap]
  ·exact hm.turn h1 h2 rfl (fun b hb=>by simp only [Rn.newO];rw [if_neg (by omega)]) (by simp) (fun b hb _=>JP _ _ b hb) rfl rfl rfl
 ·cases hc
theorem JsX {d:Nat} {x:Opd} (hc:Jy P (.rs d x) o.op=true) (hk:(evT e x).isS=true) (hE:OE P ρ e a [x]) (hm:Qt B ρ M w):Sim P o a w (Out B ρ (M.newL d 1 [evT e x,.i .i64 0]) (.li d M.g)):=by
 simp only [Jy] at hc;split at hc
 ·rename_i t x' ho
  simp only [Bool.and_eq_true] at hc;obtain ⟨h1,h2⟩:=hc;obtain ⟨k1,k2⟩:=(hE x x' (by simp) h1).str hk
  obtain ⟨n1,n2,n3⟩:=hm.newLoc (w':=w.alloc (.stringIter ⟨(evT e x).toS.toArray⟩ 0)) d 1 0 [evT e x,.i .i64 0] (by simp) (fun b hb=>JP _ _ b hb) rfl rfl rfl
   ⟨w.heap.size,0,by simp [Rn.newL],(evT e x).toS,0,by rw [k1];rfl,heap_alloc_new _ _⟩
  refine Sim.value (v:= .pointer (some ⟨w.heap.size,0,none⟩)) (w':=w.alloc (.stringIter ⟨(evT e x).toS.toArray⟩ 0)) ?_ ⟨_,n2,(show VE _ (.li d M.g) _ from ⟨_,_,n3,rfl⟩),n1⟩
  simp [execOp,ho,k2,Instr.range,JD (Jbl h2)]
 ·cases hc
theorem JsB {d:Nat} {x:Opd} (hc:Jy P (.nx d x) o.op=true) (hk:itC M (evT e x)) (hE:OE P ρ e a [x]) (hm:Qt B ρ M w):Sim P o a w (Out B ρ (mmO C e M (.nx d x)) (vlO C e M (.nx d x))):=by
 simp only [Jy] at hc;split at hc
 ·rename_i x' s ho
  simp only [Bool.and_eq_true] at hc;obtain ⟨h1,rfl⟩:=hc;have hv:=hE x x' (by simp) h1
  generalize hx:evT e x=vv at hk hv;cases vv<;>try exact hk.elim
  case li t g=>
   obtain ⟨b,z,q1,q2⟩:=hv;have hk':(Qx M.l t g 1).isSome=true:=hk;obtain ⟨xs,hxs⟩:=Option.isSome_iff_exists.1 hk';obtain ⟨b',z',r1,l,n,r2,r3⟩:=hm.loc t g 1 xs hxs;rw [q1] at r1;cases r1;have hl2:xs=[.s l,.i .i64 n]:=r2;subst hl2;have hg:M.getL t g 1=[.s l,.i .i64 n]:=by simp [Mem.getL,hxs]
   have hS:itS M (.li t g)=l:=by simp only [itS,hg]
   have hP:itP M (.li t g)=n.toNat:=by simp only [itP,hg]
   have hget:(getObj b).run P w= .ok (.stringIter ⟨l.toArray⟩ n.toNat) w:=by simp [getObj,Sem.run,r3]
   have hsz:(⟨l.toArray⟩:ByteArray).size=l.length:=by simp [ByteArray.size]
   simp only [vlO,mmO,hx,hS,hP];by_cases hlt:n.toNat < l.length
   ·simp only [if_pos hlt]
    have hlt':=(Array.getElem?_eq_some_iff.1 r3).1;generalize hdec:Utf8.decode ⟨l.toArray⟩ n.toNat=cw;obtain ⟨c,wd⟩:=cw;let w':World:={w with heap:=w.heap.setIfInBounds b (.stringIter ⟨l.toArray⟩ (n.toNat+wd))}
    have hset:(setObj b (.stringIter ⟨l.toArray⟩ (n.toNat+wd))).run P w= .ok () w':=by simp [setObj,Sem.run,r3,w']
    have hm':Qt B ρ ⟨Jhp M.l t [.s l,.i .i64 (n.toNat+wd:Nat)],M.g,M.h⟩ w':=by
     refine hm.setLoc q1 hxs (by simp [w']) (fun b' hb'=>by simp [w',Ne.symm hb']) rfl rfl rfl ⟨b,z,q1,l,_,rfl,?_⟩
     simp [w',hlt'];omega
    refine Sim.value (v:= .tuple #[.bool true,goInt n.toNat,.int .i32 c]) (w':=w') ?_ ⟨ρ,.refl ρ,(show VE ρ (.tp _) _ from ⟨_,rfl,?_⟩),hm'⟩
    ·simp [execOp,ho,q2,Instr.next,hget,hsz,hlt,hdec,hset]
    ·exact ⟨rfl,rfl,rfl,trivial⟩
   ·simp only [if_neg hlt]
    refine Sim.value (v:= .tuple #[.bool false]) ?_ (Out.same (show VE ρ (.tp [.b false]) _ from ⟨_,rfl,rfl,trivial⟩) hm)
    simp [execOp,ho,q2,Instr.next,hget,hsz,hlt]
 ·cases hc
def descOf:Ck→TypeDesc
 | .b=> .bool
 | .s=> .string
 | .i k=> .int k
theorem Ji7 {c:Ck} {k:AV} {kv:Value} (hk:k.isCk c=true) (hv:V1 ρ k kv):MapKept.IsKey (descOf c) kv:=by
 cases c<;>cases k<;>simp [AV.isCk] at hk<;>(have hv':kv=_:=hv)<;>subst hv'<;>simp_all [MapKept.IsKey,descOf]
theorem Jtu {c:Ck} {k k':AV} {kv kv':Value} (hk:k.isCk c=true) (hk':k'.isCk c=true) (hv:V1 ρ k kv) (hv':V1 ρ k' kv'):JW k.cells k'.cells=true↔kv=kv':=by
 cases c<;>cases k<;>simp [AV.isCk] at hk<;>cases k'<;>simp [AV.isCk] at hk'<;>(have h1:kv=_:=hv)<;>(have h2:kv'=_:=hv')<;>subst h1 h2
 ·simp [AV.cells,JW,ZF]
 ·simp [AV.cells,JW,ZF]
 ·subst hk hk'
  simp [AV.cells,JW,ZF]
theorem Jjt {c:Ck} {k:AV} {kv:Value} (hk:k.isCk c=true) (hv:V1 ρ k kv): ∀ (es:List (AV×AV)) (l:List MapEntry) (i:Nat),JO (JhU ρ) es l→(∀ e∈es,e.1.isCk c=true)→
  (Instr.findNow (descOf c) kv l i=some none∧Qf es k=none∧(∀ v,Jax es k v=es++[(k,v)])∧Jh2 es k=es)∨
  ∃ j e m,Instr.findNow (descOf c) kv l i=some (some (i+j,m.val))∧es[j]? =some e∧l[j]? =some m∧m.key=kv∧Qf es k=some e.2∧(∀ v,Jax es k v=es.set j (k,v))∧Jh2 es k=es.eraseIdx j
 | [],[],i,_,_=> .inl ⟨rfl,rfl,fun _=>rfl,rfl⟩
 | e::es,m::l,i,h,hck=>by
  have hme:=h.1.1;have hke:=hck e (by simp)
  obtain ⟨r,hr,hiff⟩:=MapKept.sameNow_of_keys (Ji7 hk hv) (Ji7 hke hme);have heq:=Jtu hk hke hv hme;cases r with
  | true=>
   have e1:=hiff.1 rfl;have e2:=heq.2 e1;exact .inr ⟨0,e,m,by simp [Instr.findNow,hr],rfl,rfl,e1.symm,by simp [Qf,e2],fun v=>by simp [Jax,e2],by simp [Jh2,e2]⟩
  | false=>
   have e2: ¬ JW k.cells e.1.cells=true:=fun hh=>by have:=hiff.2 (heq.1 hh);cases this
   rcases Jjt hk hv es l (i+1) h.2 (fun x hx=>hck x (by simp [hx])) with ⟨h1,h2,h3,h4⟩ | ⟨j,e',m',h1,h2,h3,h4,h5,h6,h7⟩
   ·exact .inl ⟨by simp [Instr.findNow,hr,h1],by simp [Qf,e2,h2],fun v=>by simp [Jax,e2,h3],by simp [Jh2,e2,h4]⟩
   ·exact .inr ⟨j+1,e',m',by simp [Instr.findNow,hr,h1];omega,by simpa using h2,by simpa using h3,h4,by simp [Qf,e2,h5],fun v=>by simp [Jax,e2,h6],by simp [Jh2,e2,h7]⟩
 | [],_::_,_,h,_=>h.elim
 | _::_,[],_,h,_=>h.elim
theorem ck1 {t:TypeId} {c:Ck} (h:ckT P 1 t=some [c]):P.underlying t=some (descOf c):=by
 unfold ckT at h;split at h
 ·cases h;assumption
 ·cases h;assumption
 ·cases h;assumption
 ·rename_i fs hu
  split at h
  ·cases h
  ·unfold Jmh at h
   split at h
   ·cases h
   ·rename_i f r _
    split at h
    ·cases h
    ·simp [ckT] at h
 ·cases h
theorem JfL {id:Nat} {v:Value} (h:J7 ρ M.h w) (hv:VP ρ (.mp id) v) (hk:JfI M.h (.mp id)): ∃ rw es b ents clk,M.h.at' id= .map rw es∧id < M.h.n∧ρ.ob id=some b∧ρ.own b=JbU rw id∧v= .map (some b)∧w.heap[b]? =some (.map ents clk)∧JO (JhU ρ) es ents.toList∧(rw=true→Ja0 ents clk):=by
 obtain ⟨b,hb,rfl⟩:=hv
 have hid:id < M.h.n:=by
  rcases Nat.lt_or_ge id M.h.n with h' | h'
  ·exact h'
  ·rw [(h.fr id h').2] at hb;cases hb
 simp only [JfI] at hk;split at hk
 ·rename_i rw es ho
  have hrep:=h.rep id hid;rw [ho] at hrep;obtain ⟨b',r1,r2,ents,clk,r3,r4,r5⟩:=hrep;rw [hb] at r1;cases r1;exact ⟨rw,es,b,ents,clk,ho,hid,hb,r2,rfl,r3,r4,r5⟩
 ·exact hk.elim
theorem Jp7 {d:Nat} {x:Opd} (hc:Jy P (.lnm d x) o.op=true) (hk:JfI M.h (evT e x)) (hE:OE P ρ e a [x]) (hm:Qt B ρ M w):Sim P o a w (Out B ρ M (.i .i64 (Yq M.h (evT e x)).length)):=by
 simp only [Jy] at hc;split at hc
 ·rename_i c ho
  split at hc
  ·rename_i x' t hcal hargs htys
   simp only [Bool.and_eq_true] at hc;obtain ⟨h1,h2⟩:=hc;have ha1:c.args= #[x']:=by have:=congrArg List.toArray hargs;simpa using this
   have ha2:c.argTypes= #[t]:=by have:=congrArg List.toArray htys;simpa using this
   split at h2
   ·rename_i k el hu
    have hv:=hE x x' (by simp) h1
    generalize evT e x=vv at hk hv;cases vv<;>try exact hk.elim
    case nm=>
     have hv':a.eval x'= .map none:=hv;refine Sim.value (v:= .int .i64 0) ?_ (Out.same (VE.of (V2.of (V1.of (VA.of (show VP ρ (.i .i64 0) _ from rfl))))) hm)
     simp [execOp,ho,resolve,hcal,ha1,ha2,invoke,builtin,Builtin.len_,JD hu,hv',goInt]
    case mp id=>
     obtain ⟨rw,es,b,ents,clk,q1,q2,q3,q4,q5,q6,q7,-⟩:=JfL hm.heap hv hk;have hlen:=q7.len;refine Sim.value (v:= .int .i64 ents.size) ?_ (Out.same (VE.of (V2.of (V1.of (VA.of (show VP ρ (.i .i64 _) _ from by simp only [Yq,q1];rw [hlen,Array.length_toList];rfl))))) hm)
     simp [execOp,ho,resolve,hcal,ha1,ha2,invoke,builtin,Builtin.len_,JD hu,q5,MapKept.run_getObj_map q6,goInt]
   ·cases h2
  ·cases hc
 ·cases hc
theorem V1.look {ρ:Rn} {v:AV} {u':Value} (h:V1 ρ v u') (ok:Bool) (b:Bool) (zero:AV) (r:Option AV) (hr:lkV zero ok r=if ok then .tp [v,.b b] else v):VE ρ (lkV zero ok r) (if ok then .tuple #[u',.bool b] else u'):=by
 rw [hr];cases ok
 ·exact VE.of (V2.of h)
 ·exact (show VE ρ (.tp _) _ from ⟨_,rfl,h,rfl,trivial⟩)
theorem Jpo {d:Nat} {t:TypeId} {c:Ck} {k k':AV} {kv kv':Value} (hu:P.underlying t=some (descOf c)) (hk:k.isCk c=true) (hk':k'.isCk c=true) (hv:V1 ρ k kv) (hv':V1 ρ k' kv'):
  (Op.equalIn (d+1) t kv kv').run P w= .ok (ZF k k') w:=by
 cases c<;>cases k<;>simp [AV.isCk] at hk<;>cases k'<;>simp [AV.isCk] at hk'<;>(have h1:kv=_:=hv)<;>(have h2:kv'=_:=hv')<;>subst h1 h2
 ·rw [run_equalIn_bool' w d t _ _ hu];rfl
 ·rw [run_equalIn_string w d t _ _ hu]
  congr 1
  rw [Bool.eq_iff_iff];simp [ZF,ByteArray.toList_eq]
 ·subst hk hk'
  rw [run_equalIn_int w d t _ _ _ _ hu];simp [ZF,BEq.beq]
theorem Jil {t:TypeId} {c:Ck} (hu:P.underlying t=some (descOf c)):nT P t=some none:=by
 unfold nT;rw [hu];cases c<;>rfl
theorem Jl8 {t:TypeId} {ks:List Ck} (h:ckT P 1 t=some ks): ∃ c,ks=[c]∧P.underlying t=some (descOf c):=by
 unfold ckT at h;split at h
 ·cases h;exact ⟨.b,rfl,by assumption⟩
 ·cases h;exact ⟨.s,rfl,by assumption⟩
 ·rename_i k _;cases h;exact ⟨.i k,rfl,by assumption⟩
 ·rename_i fs hu
  split at h
  ·cases h
  ·rename_i hne
   simp only [Bool.or_eq_true,not_or] at hne;unfold Jmh at h;split at h
   ·rename_i hl
    exact absurd (by simpa using hl) (by simpa using hne.2)
   ·rename_i f r _
    split at h
    ·cases h
    ·simp [ckT] at h
 ·cases h
theorem JdV {d:Nat} {xs ys:Array Value} {cs ds:List AV} (hx:JO (VA ρ) cs xs.toList) (hy:JO (VA ρ) ds ys.toList): ∀ (fs:List Field) (off:Nat) (ks:List Ck),Jmh P (ckT P 1) off fs=some ks→ZA (cs.drop off) ks=true→ZA (ds.drop off) ks=true→
  (Op.eqFields (d+1) xs ys fs).run P w= .ok (JW (cs.drop off) (ds.drop off)) w
 | [],off,ks,h,h1,h2=>by
  simp only [Jmh] at h;cases h;have e1:cs.drop off=[]:=by cases hh:cs.drop off with | nil=>rfl | cons=>rw [hh] at h1;simp [ZA] at h1
  have e2:ds.drop off=[]:=by cases hh:ds.drop off with | nil=>rfl | cons=>rw [hh] at h2;simp [ZA] at h2
  rw [e1,e2];simp [Op.eqFields,JW]
 | f::r,off,ks,h,h1,h2=>by
  unfold Jmh at h;split at h
  ·cases h
  ·rename_i hn
   simp only [Bool.or_eq_true,beq_iff_eq,bne_iff_ne,ne_eq,not_or,Decidable.not_not] at hn;obtain ⟨hname,hoff⟩:=hn;split at h
   ·cases h
   ·rename_i k1 hk1
    split at h
    ·cases h
    ·split at h
     ·rename_i q hq
      cases h;obtain ⟨c,rfl,hu⟩:=Jl8 hk1;cases hc1:cs.drop off with
      | nil=>rw [hc1] at h1;simp [ZA] at h1
      | cons x xr=>
       cases hd1:ds.drop off with
       | nil=>rw [hd1] at h2;simp [ZA] at h2
       | cons y yr=>
        rw [hc1] at h1;rw [hd1] at h2;simp only [List.cons_append,List.nil_append,ZA,Bool.and_eq_true] at h1 h2
        have hlx:off < cs.length:=by
         have:=congrArg List.length hc1;simp at this;omega
        have hly:off < ds.length:=by
         have:=congrArg List.length hd1;simp at this;omega
        have gx:partOf cs off none=x:=by
         have:=congrArg (·[0]?) hc1;simp only [List.getElem?_drop,Nat.add_zero,List.getElem?_cons_zero] at this;simp [partOf,List.getD,this]
        have gy:partOf ds off none=y:=by
         have:=congrArg (·[0]?) hd1;simp only [List.getElem?_drop,Nat.add_zero,List.getElem?_cons_zero] at this;simp [partOf,List.getD,this]
        obtain ⟨v,r1,r2⟩:=Jce (P:=P) (w:=w) (Jil hu) hx (show JF cs off none from hlx)
        obtain ⟨v',r3,r4⟩:=Jce (P:=P) (w:=w) (Jil hu) hy (show JF ds off none from hly)
        rw [gx] at r2;rw [gy] at r4;have he:=Jpo (w:=w) (d:=d) hu h1.1 h2.1 r2 r4;have ec:cs.drop (off+1)=xr:=by rw [←List.drop_drop,hc1];rfl
        have ed:ds.drop (off+1)=yr:=by rw [←List.drop_drop,hd1];rfl
        have ih:=JdV (d:=d) hx hy r (off+1) q hq (by rw [ec];exact h1.2) (by rw [ed];exact h2.2)
        rw [ec,ed] at ih;rw [Op.eqFields,if_pos hname];simp only [Sem.run_bind,hoff,r1,r3,he,Result.andThen_ok,Sem.run_ite];cases hce:ZF x y with
        | true=>simp [JW,hce,ih]
        | false=>simp [JW,hce]
     ·cases h
theorem JpF {d:Nat} {neg:Bool} {ks:List Ck} {x y:Opd} (hc:Jy P (.eqa d neg ks x y) o.op=true) (hk:okO C e M (.eqa d neg ks x y)) (hE:OE P ρ e a [x,y]) (hm:Qt B ρ M w):
  Sim P o a w (Out B ρ M (.b (JW (evT e x).cells (evT e y).cells != neg))):=by
 simp only [Jy] at hc;split at hc
 ·rename_i op' t x' y' yt ho
  simp only [Bool.and_eq_true,beq_iff_eq,Bool.not_eq_true'] at hc;obtain ⟨⟨⟨⟨⟨ho',h1⟩,h2⟩,h3⟩,h4⟩,h5⟩:=hc;obtain ⟨xs,ys,e1,e2,a1,a2⟩:=hk;have hx:=hE x x' (by simp) h1
  have hy:=hE y y' (by simp) h2
  rw [e1] at hx;rw [e2] at hy;obtain ⟨us,ux,uh⟩:=VE.ag hx;obtain ⟨vs,vx,vh⟩:=VE.ag hy;split at h4
  ·rename_i fs hu
   have hgo:P.stoodInHeld t=false∧Jmh P (ckT P 1) 0 fs.toList=some ks:=by
    unfold ckT at h3;rw [hu] at h3;simp only at h3;split at h3
    ·cases h3
    ·rename_i hne
     simp only [Bool.or_eq_true,not_or,Bool.not_eq_true] at hne;exact ⟨hne.1,h3⟩
   have hfs:P.fieldsOf t=fs:=by unfold Program.fieldsOf;rw [hu]
   have hrun:(Op.equalIn 10000 t (.agg us) (.agg vs)).run P w= .ok (JW xs ys) w:=by
    have:=run_equalIn_struct (P:=P) w 9999 t us vs (by rw [hfs];exact hu) hgo.1
    rw [this,hfs];have:=JdV (P:=P) (w:=w) (d:=9998) uh vh fs.toList 0 ks hgo.2 (by simpa using a1) (by simpa using a2)
    simpa using this
   rw [e1,e2];refine Sim.value (v:= .bool (JW xs ys != neg)) ?_ (Out.same (VE.of (V2.of (V1.of (VA.of rfl)))) hm)
   cases neg
   ·have ho'':op'= .eql:=by simpa using ho'
    subst ho'';simp [execOp,ho,ux,vx,run_eqGuard_agg w _ t _ _ _ _ h5,run_eql_struct,hrun]
   ·have ho'':op'= .neq:=by simpa using ho'
    subst ho'';simp [execOp,ho,ux,vx,run_eqGuard_agg w _ t _ _ _ _ h5,run_neq_struct,hrun]
  ·cases h4
 ·cases hc
theorem Jkb {t e:TypeId} {ks:List Ck} (h:JoC P t ks=some e): ∃ k,P.underlying t=some (.map k e)∧((∃ c,ks=[c]∧P.underlying k=some (descOf c))∨ ∃ fs,P.underlying k=some (.struct fs)∧ckT P 2 k=some ks∧2≤ks.length):=by
 unfold JoC at h;split at h
 ·rename_i k e' hu
  by_cases hc:(ckT P 1 k==some ks&&ks.length==1)=true
  ·rw [if_pos hc] at h
   injection h with h
   subst h;simp only [Bool.and_eq_true,beq_iff_eq] at hc;obtain ⟨h1,h2⟩:=hc;match ks,h2 with
   | [c],_=>exact ⟨k,hu,.inl ⟨c,rfl,ck1 h1⟩⟩
  ·rw [if_neg hc] at h
   clear hc;by_cases hc:(ckT P 2 k==some ks&&decide (2≤ks.length) &&isStr P k)=true
   ·rw [if_pos hc] at h
    injection h with h
    subst h;simp only [Bool.and_eq_true,beq_iff_eq,decide_eq_true_eq] at hc;obtain ⟨⟨h1,h0⟩,h2⟩:=hc;unfold isStr at h2;split at h2
    ·rename_i fs hf
     exact ⟨k,hu,.inr ⟨fs,hf,h1,h0⟩⟩
    ·cases h2
   ·rw [if_neg hc] at h
    cases h
 ·cases h
theorem JfG {t:TypeId} {fs:Array Field} {ks:List Ck} (hu:P.underlying t=some (.struct fs)) (h3:ckT P 2 t=some ks):P.stoodInHeld t=false∧Jmh P (ckT P 1) 0 fs.toList=some ks:=by
 unfold ckT at h3;rw [hu] at h3;simp only at h3;split at h3
 ·cases h3
 ·rename_i hne
  simp only [Bool.or_eq_true,not_or,Bool.not_eq_true] at hne;exact ⟨hne.1,h3⟩
theorem Jk0 {c:Ck} {x y:AV} {u v:Value} (hx:x.isCk c=true) (hy:y.isCk c=true) (hu:VA ρ x u) (hv:VA ρ y v) (h:ZF x y=true):u=v∧ ∀ n,Instr.sameBits n v v=true:=by
 cases c<;>cases x<;>simp [AV.isCk] at hx<;>cases y<;>simp [AV.isCk] at hy<;>(have h1:u=_:=hu)<;>(have h2:v=_:=hv)<;>subst h1 h2
 ·simp [ZF] at h
  subst h;exact ⟨rfl,fun n=>by simp [Instr.sameBits]⟩
 ·simp [ZF] at h
  subst h;exact ⟨rfl,fun n=>MapKept.sameBits_self (d:= .string) (by simp [MapKept.IsKey]) n⟩
 ·simp [ZF] at h
  subst hx hy h;exact ⟨rfl,fun n=>by simp [Instr.sameBits]⟩
theorem JfN: ∀ {ks:List Ck} {xs ys:List AV} {us vs:List Value},ZA xs ks=true→ZA ys ks=true→JO (VA ρ) xs us→JO (VA ρ) ys vs→JW xs ys=true→us=vs∧ ∀ n,∀ v∈vs,Instr.sameBits n v v=true
 | [],[],[],[],[],_,_,_,_,_=>⟨rfl,fun _ _ h=>by cases h⟩
 | c::ks,x::xs,y::ys,u::us,v::vs,h1,h2,h3,h4,h5=>by
  simp only [ZA,JW,Bool.and_eq_true] at h1 h2 h5;obtain ⟨rfl,g2⟩:=Jk0 h1.1 h2.1 h3.1 h4.1 h5.1;obtain ⟨rfl,g4⟩:=JfN h1.2 h2.2 h3.2 h4.2 h5.2;refine ⟨rfl,fun n w hw=> ?_⟩
  rcases List.mem_cons.1 hw with rfl | hw
  ·exact g2 n
  ·exact g4 n w hw
 | [],_::_,_,_,_,h,_,_,_,_=>by simp [ZA] at h
 | _::_,[],_,_,_,h,_,_,_,_=>by simp [ZA] at h
 | [],[],_::_,_,_,_,h,_,_,_=>by simp [ZA] at h
 | _::_,_::_,[],_,_,_,h,_,_,_=>by simp [ZA] at h
 | _,[],_,_::_,_,_,_,h,_,_=>h.elim
 | _,_::_,_,[],_,_,_,h,_,_=>h.elim
 | _,_,[],_,_::_,_,_,_,h,_=>h.elim
 | _,_,_::_,_,[],_,_,_,h,_=>h.elim
theorem JnE {us:Array Value} (h: ∀ n,∀ v∈us.toList,Instr.sameBits n v v=true):Instr.sameBits 10000 (.agg us) (.agg us)=true:=by
 rw [Instr.sameBits];simp only [beq_self_eq_true,Bool.true_and,List.all_eq_true];rintro ⟨x,y⟩ hxy;obtain ⟨i,hi,he⟩:=List.mem_iff_getElem.1 hxy;rw [List.getElem_zip] at he;injection he with h1 h2
 subst h1 h2;exact h 9999 _ (List.getElem_mem _)
theorem V1.ag' {ρ:Rn} {xs:List AV} {v:Value} (h:V1 ρ (.ag xs) v): ∃ us:Array Value,v= .agg us∧JO (VA ρ) xs us.toList:=h
theorem Jjy {kt:TypeId} {fs:Array Field} {ks:List Ck} (hu:P.underlying kt=some (.struct fs)) (hck:ckT P 2 kt=some ks) {xs:List AV} {us:Array Value} (hx:JO (VA ρ) xs us.toList) (ha:ZA xs ks=true):
  ∀ (es:List (AV×AV)) (l:List MapEntry) (i:Nat),JO (JhU ρ) es l→(∀ e∈es,∃ ys,e.1= .ag ys∧ZA ys ks=true)→
  ((∀ w,(Instr.findAsking kt (.agg us) l i).run P w= .ok none w)∧Qf es (.ag xs)=none∧ ∀ v,Jax es (.ag xs) v=es++[(.ag xs,v)])∨
  ∃ j e m,(∀ w,(Instr.findAsking kt (.agg us) l i).run P w= .ok (some (i+j,m.val)) w)∧es[j]? =some e∧l[j]? =some m∧m.key= .agg us∧Instr.sameBits 10000 (.agg us) (.agg us)=true∧Qf es (.ag xs)=some e.2∧ ∀ v,Jax es (.ag xs) v=es.set j (.ag xs,v)
 | [],[],i,_,_=> .inl ⟨fun w=>by simp [Instr.findAsking],rfl,fun _=>rfl⟩
 | e::es,m::l,i,h,hes=>by
  obtain ⟨ys,hy,ay⟩:=hes e (by simp)
  have hme:=h.1.1;rw [hy] at hme;obtain ⟨vs,hv,hvs⟩:=V1.ag' hme;obtain ⟨hst,hfs'⟩:=JfG hu hck;have hfs:P.fieldsOf kt=fs:=by unfold Program.fieldsOf;rw [hu]
  have hrun: ∀ w,(Op.equal kt (.agg us) m.key).run P w= .ok (JW xs ys) w:=fun w=>by
   rw [hv];have:=run_equalIn_struct (P:=P) w 9999 kt us vs (by rw [hfs];exact hu) hst
   unfold Op.equal;rw [show Op.maxDepth=9999+1 from rfl,this,hfs]
   have:=JdV (P:=P) (w:=w) (d:=9998) hx hvs fs.toList 0 ks hfs' (by simpa using ha) (by simpa using ay)
   simpa using this
  cases hce:JW xs ys with
  | true=>
   obtain ⟨e1,e2⟩:=JfN ha ay hx hvs hce;have e3:us=vs:=by cases us;cases vs;simpa using e1
   have hk:JW (AV.ag xs).cells e.1.cells=true:=by rw [hy];exact hce
   refine .inr ⟨0,e,m,fun w=>by simp [Instr.findAsking,hrun,hce],rfl,rfl,by rw [hv,e3],JnE (by rw [e3];exact e2),by simp [Qf,hk],fun v=>by simp [Jax,hk]⟩
  | false=>
   have hk: ¬ JW (AV.ag xs).cells e.1.cells=true:=by rw [hy];simpa [AV.cells] using hce
   rcases Jjy hu hck hx ha es l (i+1) h.2 (fun x hx=>hes x (by simp [hx])) with ⟨h1,h2,h3⟩ | ⟨j,e',m',h1,h2,h3,h4,h5,h6,h7⟩
   ·exact .inl ⟨fun w=>by simp [Instr.findAsking,hrun,hce,h1],by simp [Qf,hk,h2],fun v=>by simp [Jax,hk,h3]⟩
   ·exact .inr ⟨j+1,e',m',fun w=>by simp [Instr.findAsking,hrun,hce,h1];omega,by simpa using h2,by simpa using h3,h4,h5,by simp [Qf,hk,h6],fun v=>by simp [Jax,hk,h7]⟩
 | [],_::_,_,h,_=>h.elim
 | _::_,[],_,h,_=>h.elim
theorem Jhq {kt:TypeId} {fs:Array Field} {ks:List Ck} (hu:P.underlying kt=some (.struct fs)) (hck:ckT P 2 kt=some ks) {xs:List AV} {us:Array Value} (hx:JO (VA ρ) xs us.toList) (ha:ZA xs ks=true) (b:Bool):
  (Instr.checkKey b 10000 kt (.agg us)).run P w= .ok () w:=by
 obtain ⟨-,hfs'⟩:=JfG hu hck;rw [Instr.checkKey];simp only [Sem.run_bind,JD hu,Result.andThen_ok];rw [←Array.forIn_toList];have ha0:ZA (xs.drop 0) ks=true:=by simpa using ha
 generalize fs.toList=L at hfs';generalize (0:Nat)=off at hfs' ha0;clear hck ha;generalize ks=q at hfs' ha0;induction L generalizing off q with
 | nil=>simp
 | cons f L ih=>
  unfold Jmh at hfs';split at hfs'
  ·cases hfs'
  ·rename_i hn
   simp only [Bool.or_eq_true,beq_iff_eq,bne_iff_ne,ne_eq,not_or,Decidable.not_not] at hn;obtain ⟨hname,hoff⟩:=hn;split at hfs'
   ·cases hfs'
   ·rename_i k1 hk1
    split at hfs'
    ·cases hfs'
    ·split at hfs'
     ·rename_i q' hq
      cases hfs';obtain ⟨c,rfl,hu1⟩:=Jl8 hk1;cases hc1:xs.drop off with
      | nil=>rw [hc1] at ha0;simp [ZA] at ha0
      | cons x xr=>
       rw [hc1] at ha0;simp only [List.cons_append,List.nil_append,ZA,Bool.and_eq_true] at ha0
       have hlx:off < xs.length:=by
        have:=congrArg List.length hc1;simp at this;omega
       have gx:partOf xs off none=x:=by
        have:=congrArg (·[0]?) hc1;simp only [List.getElem?_drop,Nat.add_zero,List.getElem?_cons_zero] at this;simp [partOf,List.getD,this]
       obtain ⟨v,r1,r2⟩:=Jce (P:=P) (w:=w) (Jil hu1) hx (show JF xs off none from hlx)
       rw [gx] at r2;have hck1:=MapKept.run_checkKey (w:=w) hu1 (Ji7 ha0.1 r2) b 9998;have ec:xs.drop (off+1)=xr:=by rw [←List.drop_drop,hc1];rfl
       have ih':=ih (off+1) q' hq (by rw [ec];exact ha0.2)
       simp only [List.forIn_cons,Sem.run_bind,hname,ne_eq,not_false_eq_true,if_true,hoff,Result.andThen_ok,r1,hck1,Sem.run_pure];exact ih'
     ·cases hfs'
theorem JgO {t el:TypeId} {ks:List Ck} {es:List (AV×AV)} {k:AV} {kv:Value} {ents:List MapEntry} (hmt:JoC P t ks=some el) (hk:Jby ks es k) (hkv:V1 ρ k kv) (h:JO (JhU ρ) es ents):
  ∃ kt,P.underlying t=some (.map kt el)∧(∀ b (w:World),(Instr.checkKey b 10000 kt kv).run P w= .ok () w)∧
   (((∀ w,(Instr.findKey kt kv ents).run P w= .ok none w)∧Qf es k=none∧ ∀ v,Jax es k v=es++[(k,v)])∨
    ∃ j e m,(∀ w,(Instr.findKey kt kv ents).run P w= .ok (some (j,m.val)) w)∧es[j]? =some e∧ents[j]? =some m∧m.key=kv∧(∀ w,(Instr.keyThatStays kv kv).run P w= .ok kv w)∧Qf es k=some e.2∧ ∀ v,Jax es k v=es.set j (k,v)):=by
 obtain ⟨kt,hu,hkind⟩:=Jkb hmt;refine ⟨kt,hu,?_⟩
 rcases hk with ⟨c,rfl,k3,k4⟩ | ⟨k0,⟨xs,rfl,ha⟩,k4⟩
 ·rcases hkind with ⟨c',hc,hkt⟩ | ⟨fs,hf,hck,hlen⟩
  ·cases hc
   have hki:=Ji7 k3 hkv;refine ⟨fun b w=>MapKept.run_checkKey hkt hki b 9999,?_⟩
   rcases Jjt k3 hkv es ents 0 h k4 with ⟨f1,f2,f3,-⟩ | ⟨j,en,m,f1,f2,f3,f4,f5,f6,-⟩
   ·exact .inl ⟨fun w=>MapKept.run_findKey hkt f1,f2,f3⟩
   ·exact .inr ⟨j,en,m,fun w=>by have:=MapKept.run_findKey (w:=w) hkt f1;rwa [Nat.zero_add] at this,f2,f3,f4,fun w=>MapKept.run_keyThatStays hki,f5,f6⟩
  ·simp at hlen
 ·rcases hkind with ⟨c',rfl,hkt⟩ | ⟨fs,hf,hck,-⟩
  ·simp at k0
  ·obtain ⟨us,rfl,hus⟩:=V1.ag' hkv
   refine ⟨fun b w=>Jhq hf hck hus ha b,?_⟩
   have hwide: ∀ w:World,(Instr.findKey kt (.agg us) ents).run P w=(Instr.findAsking kt (.agg us) ents).run P w:=fun w=>run_findKey_eq w (by rw [hf]) _ _
   rcases Jjy hf hck hus ha es ents 0 h k4 with ⟨f1,f2,f3⟩ | ⟨j,en,m,f1,f2,f3,f4,f5,f6,f7⟩
   ·exact .inl ⟨fun w=>(hwide w).trans (f1 w),f2,f3⟩
   ·exact .inr ⟨j,en,m,fun w=>by rw [hwide w,f1 w,Nat.zero_add],f2,f3,f4,fun w=>by simp [Instr.keyThatStays,f5],f6,f7⟩
theorem Jby.out {ks:List Ck} {es:List (AV×AV)} {k:AV} (h:Jby ks es k):k.outs=true:=by
 rcases h with ⟨c,rfl,k3,-⟩ | ⟨-,⟨xs,rfl,-⟩,-⟩
 ·cases c<;>cases k<;>first | rfl | simp [AV.isCk] at k3
 ·rfl
theorem Jrb {d:Nat} {x k:Opd} {zero:AV} {ks:List Ck} {ok:Bool} (hc:Jy P (.lk d x k zero ks ok) o.op=true) (hk:JfI M.h (evT e x)∧Jby ks (Yq M.h (evT e x)) (evT e k)) (hE:OE P ρ e a [x,k]) (hm:Qt B ρ M w):
  Sim P o a w (Out B ρ M (lkV zero ok (Qf (Yq M.h (evT e x)) (evT e k)))):=by
 simp only [Jy] at hc;split at hc
 ·rename_i t x' k' ok' ho
  simp only [Bool.and_eq_true,beq_iff_eq] at hc;obtain ⟨⟨⟨h1,h2⟩,rfl⟩,h3⟩:=hc;split at h3
  ·rename_i el hmt
   split at h3
   ·rename_i zv hze
    obtain ⟨k1,k4⟩:=hk;have hv:=hE x x' (by simp) h1
    have hkv:V1 ρ (evT e k) (a.eval k'):=(hE k k' (by simp) h2).out k4.out
    have hzero:=Yp (ρ:=ρ) h3;generalize evT e x=vv at k1 k4 hv;cases vv<;>try exact k1.elim
    case nm=>
     have hv':a.eval x'= .map none:=hv;obtain ⟨kt,hu,hck,hor⟩:=JgO (ents:=[]) hmt k4 hkv trivial;rcases hor with ⟨hfk,-,-⟩ | ⟨j,en,m,-,hj,-⟩
     ·refine Sim.value (v:=if ok then .tuple #[zv,.bool false] else zv) ?_ (Out.same (hzero.look ok false zero _ rfl) hm)
      simp [execOp,ho,hv',Instr.lookup,JD hu,hck,hfk,Jd3 hze]
     ·simp [Yq] at hj
    case mp id=>
     obtain ⟨rw,es,b,ents,clk,q1,q2,q3,q4,q5,q6,q7,-⟩:=JfL hm.heap hv k1;simp only [Yq,q1] at k4 ⊢;obtain ⟨kt,hu,hck,hor⟩:=JgO hmt k4 hkv q7;rcases hor with ⟨hfk,f2,-⟩ | ⟨j,en,m,hfk,f2,f3,f4,-,f5,-⟩
     ·rw [f2]
      refine Sim.value (v:=if ok then .tuple #[zv,.bool false] else zv) ?_ (Out.same (hzero.look ok false zero _ rfl) hm)
      simp [execOp,ho,q5,Instr.lookup,JD hu,MapKept.run_getObj_map q6,hck,hfk,Jd3 hze]
     ·rw [f5]
      obtain ⟨m',g1,g2⟩:=q7.get j en f2;rw [f3] at g1;cases g1;refine Sim.value (v:=if ok then .tuple #[m.val,.bool true] else m.val) ?_ (Out.same (V1.look g2.2 ok true zero _ rfl) hm)
      simp [execOp,ho,q5,Instr.lookup,JD hu,MapKept.run_getObj_map q6,hck,hfk]
   ·cases h3
  ·cases h3
 ·cases hc
theorem Ja0.push {ents:Array MapEntry} {clk:Nat} (h:Ja0 ents clk) (k v:Value):Ja0 (ents.push {key:=k,val:=v,born:=clk}) (clk+1):=by
 obtain ⟨rfl,h2⟩:=h;refine ⟨by simp,fun j m hj=> ?_⟩
 rw [Array.getElem?_push] at hj;split at hj
 ·cases hj;rename_i e;exact e.symm
 ·exact h2 j m hj
theorem Ja0.mod {ents:Array MapEntry} {clk:Nat} (h:Ja0 ents clk) (i:Nat) (k v:Value):Ja0 (ents.modify i fun e=>{e with key:=k,val:=v}) clk:=by
 obtain ⟨rfl,h2⟩:=h;refine ⟨by simp,fun j m hj=> ?_⟩
 rw [Array.getElem?_modify] at hj;split at hj
 ·cases hh:ents[j]? with
  | none=>rw [hh] at hj;cases hj
  | some x=>
   rw [hh] at hj;cases hj;exact h2 j x hh
 ·exact h2 j m hj
theorem Qt.mapTurn {id b:Nat} {es:List (AV×AV)} {ents ents0:Array MapEntry} {clk clk0:Nat} (hm:Qt B ρ M w) (hid:id < M.h.n) (hb:ρ.ob id=some b) (ho:ρ.own b=JbU true id) (h0:w.heap[b]? =some (.map ents0 clk0)) (hes:JO (JhU ρ) es ents.toList) (hbo:Ja0 ents clk):
  Qt B ρ ⟨M.l,M.g,M.h.set id (.map true es)⟩ {w with heap:=w.heap.setIfInBounds b (.map ents clk)}:=by
 have h1:=MapKept.heap_set (o':= .map ents clk) h0;have ho':ρ.own b= .id id:=ho;refine hm.turn (hm.heap.setMap hid hb ho' h1.1 h1.2 (by simp) hes hbo) (.refl ρ) rfl (fun _ _=>rfl) (by simp) (fun b' hb' hn=>h1.2 b' fun e=>by rw [e,ho'] at hn;simp at hn) rfl rfl rfl
theorem Jsc {x k v:Opd} {ks:List Ck} (hc:Jy P (.mu x k v ks) o.op=true) (hk:Jfp M.h (evT e x)∧Jby ks (Yq M.h (evT e x)) (evT e k)∧(evT e v).outs=true) (hE:OE P ρ e a [x,k,v]) (hm:Qt B ρ M w):
  Sim P o a w (Out B ρ (Jfd M (Jax (Yq M.h (evT e x)) (evT e k) (evT e v)) (evT e x)) .u):=by
 have key: ∃ t x' k' v',(o.op= .mapUpdate t x' k' v'∨o.op= .insert t x' k' v')∧Wo P x x'=true∧Wo P k k'=true∧Wo P v v'=true∧(JoC P t ks).isSome=true:=by
  simp only [Jy] at hc;split at hc
  ·rename_i t x' k' v' ho
   simp only [Bool.and_eq_true] at hc;exact ⟨t,x',k',v',.inl ho,hc.1.1.1,hc.1.1.2,hc.1.2,hc.2⟩
  ·rename_i t x' k' v' ho
   simp only [Bool.and_eq_true] at hc;exact ⟨t,x',k',v',.inr ho,hc.1.1.1,hc.1.1.2,hc.1.2,hc.2⟩
  ·cases hc
 obtain ⟨t,x',k',v',ho,h1,h2,h3,h4⟩:=key;obtain ⟨el,hmt⟩:=Option.isSome_iff_exists.1 h4;obtain ⟨k1,k4,k5⟩:=hk;have hv:=hE x x' (by simp) h1
 have hkv:V1 ρ (evT e k) (a.eval k'):=(hE k k' (by simp) h2).out k4.out
 have hvv:=(hE v v' (by simp) h3).out k5
 have hrun: ∀ w',(Instr.mapUpdate t (a.eval x') (a.eval k') (a.eval v')).run P w= .ok () w'→(execOp a.eval o).run P w= .ok .skip w':=fun w' hr=>by
  rcases ho with ho | ho<;>simp [execOp,ho,hr]
 generalize evT e x=vv at k1 k4 hv;cases vv<;>try exact k1.elim
 case mp id=>
  have k1':JfI M.h (.mp id):=by
   simp only [Jfp] at k1;simp only [JfI];split at k1
   ·trivial
   ·exact k1.elim
  obtain ⟨rw,es,b,ents,clk,q1,q2,q3,q4,q5,q6,q7,q8⟩:=JfL hm.heap hv k1';simp only [Jfp,q1] at k1;subst k1;have q8:=q8 rfl;simp only [Yq,q1,Jfd] at k4 ⊢;obtain ⟨kt,hu,hck,hor⟩:=JgO hmt k4 hkv q7;rcases hor with ⟨hfk,-,f3⟩ | ⟨j,en,m,hfk,f2,f3,f4,f5,-,f6⟩
  ·rw [f3]
   refine Sim.skip (w':={w with heap:=w.heap.setIfInBounds b (.map (ents.push {key:=a.eval k',val:=a.eval v',born:=clk}) (clk+1))}) (hrun _ ?_) ⟨ρ,.refl ρ,trivial,?_⟩
   ·simp [q5,Instr.mapUpdate,JD hu,MapKept.run_getObj_map q6,hck,hfk,MapKept.run_setObj_map _ q6]
   ·exact hm.mapTurn q2 q3 q4 q6 (by rw [Array.toList_push];exact q7.append ⟨⟨hkv,hvv⟩,trivial⟩) (q8.push _ _)
  ·rw [f6]
   have hj:ents[j]? =some m:=by simpa using f3
   refine Sim.skip (w':={w with heap:=w.heap.setIfInBounds b (.map (ents.modify j fun e=>{e with key:=a.eval k',val:=a.eval v'}) clk)}) (hrun _ ?_) ⟨ρ,.refl ρ,trivial,?_⟩
   ·simp [q5,Instr.mapUpdate,JD hu,MapKept.run_getObj_map q6,hck,hfk,hj,f4,f5,MapKept.run_setObj_map _ q6]
   ·refine hm.mapTurn q2 q3 q4 q6 ?_ (q8.mod _ _ _)
    refine JO.of_get (by rw [List.length_set];have:=q7.len;simpa using this) fun i y z hy hz=> ?_
    rw [Array.getElem?_toList,Array.getElem?_modify] at hz;rw [List.getElem?_set] at hy;by_cases hij:j=i
    ·subst hij
     rw [if_pos rfl,hj] at hz;rw [if_pos rfl] at hy;split at hy
     ·cases hy
      cases hz;exact ⟨hkv,hvv⟩
     ·cases hy
    ·rw [if_neg hij] at hz hy
     obtain ⟨z',g1,g2⟩:=q7.get i y hy;rw [Array.getElem?_toList,hz] at g1;cases g1;exact g2
theorem JpU {d:Nat} {x:Opd} (hc:Jy P (.rsm d x) o.op=true) (hk:Jfp M.h (evT e x)) (hE:OE P ρ e a [x]) (hm:Qt B ρ M w):Sim P o a w (Out B ρ (M.newL d 2 [evT e x,.i .i64 (Yq M.h (evT e x)).length,.ag []]) (.li d M.g)):=by
 simp only [Jy] at hc;split at hc
 ·rename_i t x' ho
  simp only [Bool.and_eq_true] at hc;obtain ⟨h1,h2⟩:=hc;have hv:=hE x x' (by simp) h1
  generalize evT e x=vv at hk hv;cases vv<;>try exact hk.elim
  case mp id=>
   have hk':JfI M.h (.mp id):=by
    simp only [Jfp] at hk;simp only [JfI];split at hk
    ·trivial
    ·exact hk.elim
   obtain ⟨rw,es,b,ents,clk,q1,q2,q3,q4,q5,q6,q7,q8⟩:=JfL hm.heap hv hk';simp only [Jfp,q1] at hk;subst hk;obtain ⟨c1,c2⟩:=q8 rfl;have hlen:es.length=clk:=by rw [c1,q7.len,Array.length_toList]
   simp only [Yq,q1,hlen];split at h2
   ·rename_i kt el hu
    obtain ⟨n1,n2,n3⟩:=hm.newLoc (w':=w.alloc (.mapIter (some b) clk #[] clk)) d 2 0 [.mp id,.i .i64 clk,.ag []] (by simp) (fun b hb=>JP _ _ b hb) rfl rfl rfl
     ⟨w.heap.size,0,by simp [Rn.newL],id,clk,[],b,rfl,by simpa [Rn.newL] using q3,heap_alloc_new _ _⟩
    refine Sim.value (v:= .pointer (some ⟨w.heap.size,0,none⟩)) (w':=w.alloc (.mapIter (some b) clk #[] clk)) ?_ ⟨_,n2,(show VE _ (.li d M.g) _ from ⟨_,_,n3,rfl⟩),n1⟩
    simp [execOp,ho,q5,Instr.range,JD hu,MapKept.run_getObj_map q6]
   ·cases h2
 ·cases hc
theorem Jsi {d t:Nat} {x:Opd} (hc:Jy P (.mi d t x) o.op=true) (hk:okO C e M (.mi d t x)) (hE:OE P ρ e a [x]) (hm:Qt B ρ M w):Sim P o a w (Out B ρ M (vlO C e M (.mi d t x))):=by
 simp only [Jy] at hc;split at hc
 ·rename_i t' x' ho
  simp only [Bool.and_eq_true,beq_iff_eq] at hc;obtain ⟨⟨h1,rfl⟩,h2⟩:=hc;have hv:=hE x x' (by simp) h1
  simp only [okO] at hk;simp only [vlO];generalize evT e x=vv at hk hv;cases vv<;>try exact hk.elim
  case sl id ix len=>
   split at h2
   ·rename_i el hu
    obtain ⟨p,g1,g2,g3,off,cap,g4,g5,g6,ad,had,g7⟩:=hv;refine Sim.value (v:= .iface t (a.eval x')) ?_ (Out.same (VE.of (V2.of (V1.of (VA.of (show VP ρ (.fs t id ix len) _ from ⟨p,g1,g2,g3,off,cap,g4,g5,g6,ad,had,by rw [g7]⟩))))) hm)
    simp [execOp,ho,Instr.makeInterface,JD hu]
   ·cases h2
 ·cases hc
theorem run_next_map {b m since:Nat} {seen:Array Nat} {ents:Array MapEntry} {t:TypeId} (hb:w.heap[b]? =some (.mapIter (some m) since seen since)) (hm:w.heap[m]? =some (.map ents since)) (hbo:Ja0 ents since):
  ((∀ j,j < ents.size→j∈seen.toList)∧(Instr.next (.pointer (some ⟨b,0,none⟩)) false t).run P w= .ok (.tuple #[.bool false]) w)∨
  ∃ j en w0,(w0=w∨w0=w.drew)∧ents[j]? =some en∧ ¬ j∈seen.toList∧
   (Instr.next (.pointer (some ⟨b,0,none⟩)) false t).run P w= .ok (.tuple #[.bool true,en.key,en.val]) {w0 with heap:=w0.heap.setIfInBounds b (.mapIter (some m) since (seen.push j) since)}:=by
 obtain ⟨hs,hbn⟩:=hbo
 have hlt: ∀ en,en∈ents→en.born < since:=fun en he=>by
  obtain ⟨j,hj,rfl⟩:=Array.mem_iff_getElem.1 he;rw [hbn j _ (Array.getElem?_eq_getElem hj)];omega
 have g1:(getObj b).run P w= .ok (.mapIter (some m) since seen since) w:=by simp [getObj,Sem.run,hb]
 have g2:(getObj m).run P w= .ok (.map ents since) w:=by simp [getObj,Sem.run,hm]
 have hchk:(!seen.isEmpty&& !ents.isEmpty&&ents.all (·.born≥since))=false:=by
  by_cases h0:ents.isEmpty=true
  ·simp [h0]
  ·have:ents.all (·.born≥since)=false:=by
    rw [Array.all_eq_false]
    have hsz:0 < ents.size:=by
     rcases Nat.eq_zero_or_pos ents.size with h | h
     ·exact absurd (by simpa [Array.isEmpty] using h) h0
     ·exact h
    exact ⟨0,hsz,by have:=hlt _ (Array.getElem_mem hsz);simp;omega⟩
   simp [this]
 have hold:(ents.filter fun e=> !seen.contains e.born).filter (fun e=>decide (e.born < since))=ents.filter fun e=> !seen.contains e.born:=by
  rw [Array.filter_eq_self.2];intro en he;have:=hlt en (Array.mem_filter.1 he).1;simpa using this
 have hnew:(ents.filter fun e=> !seen.contains e.born).filter (fun e=>decide (e.born≥since))= #[]:=by
  rw [Array.filter_eq_empty_iff];intro en he;have:=hlt en (Array.mem_filter.1 he).1;simp;omega
 by_cases hL:(ents.filter fun e=> !seen.contains e.born)= #[]
 ·refine .inl ⟨fun j hj=> ?_,?_⟩
  ·have:=Array.filter_eq_empty_iff.1 hL _ (Array.getElem_mem hj)
   rw [hbn j _ (Array.getElem?_eq_getElem hj)] at this;simpa using this
  ·simp only [Instr.next,Sem.run_bind,g1,g2,Result.andThen_ok,hchk,hL]
   simp [run_choose,Question.forced]
 ·right
  generalize hLL:(ents.filter fun e=> !seen.contains e.born)=L at*
  have hpos:0 < L.size:=by
   rcases Nat.eq_zero_or_pos L.size with h | h
   ·exact absurd (Array.eq_empty_of_size_eq_zero h) hL
   ·exact h
  have hmem: ∀ i (hi:i < L.size),∃ j,ents[j]? =some L[i]∧ ¬ j∈seen.toList∧L[i].born=j:=fun i hi=>by
   have h1:L[i]∈ents.filter fun e=> !seen.contains e.born:=by rw [hLL];exact Array.getElem_mem hi
   obtain ⟨h2,h3⟩:=Array.mem_filter.1 h1;obtain ⟨j,hj,h4⟩:=Array.mem_iff_getElem.1 h2;have h5:=hbn j _ (Array.getElem?_eq_getElem hj);rw [h4] at h5;refine ⟨j,by rw [Array.getElem?_eq_getElem hj,h4],?_,h5⟩
   rw [h5] at h3;simpa using h3
  have hne:L.isEmpty=false:=by simpa [Array.isEmpty] using (by omega:L.size≠0)
  have hset: ∀ (w0:World) (o':Obj),w0.heap=w.heap→(setObj b o').run P w0= .ok () {w0 with heap:=w0.heap.setIfInBounds b o'}:=fun w0 o' h0=>by
   have:w0.heap[b]? =some (.mapIter (some m) since seen since):=by rw [h0];exact hb
   simp [setObj,Sem.run,this]
  simp only [Instr.next,Sem.run_bind,g1,g2,Result.andThen_ok,hchk,Bool.false_eq_true,if_false,hLL];simp only [hold,hnew,hne,Bool.false_eq_true,if_false,Array.empty_append,Array.append_empty,Array.size_map]
  obtain ⟨i,w0,hi,h0,hch⟩: ∃ i w0,i < L.size∧(w0=w∨w0=w.drew)∧(choose (.mapNext L.size)).run P w= .ok i w0:=by
   by_cases hf:L.size≤1
   ·exact ⟨0,w,by omega,.inl rfl,by simp [run_choose,Question.forced,hf]⟩
   ·exact ⟨_,w.drew,Nat.mod_lt _ hpos,.inr rfl,by simp [run_choose,Question.forced,hf,Question.cut];rfl⟩
  obtain ⟨j,j1,j2,j3⟩:=hmem i hi;have hh:w0.heap=w.heap:=by rcases h0 with rfl | rfl<;>rfl
  refine ⟨j,L[i],w0,h0,j1,j2,?_⟩
  rw [hch];simp [hi,hset w0 _ hh,j3]
theorem JoW {d:Nat} {x:Opd} (hc:Jy P (.nxm d x) o.op=true) (hk:nmC M (evT e x)) (hE:OE P ρ e a [x]) (hm:Qt B ρ M w):
  Sim P o a w fun v w'=>(∃ j,j < (Yq M.h (Jdd M (evT e x))).length∧ ¬ j∈ZC M (evT e x)∧Out B ρ (nmM M (evT e x) j) (.tp [.b true,((Yq M.h (Jdd M (evT e x))).getD j (.u,.u)).1,((Yq M.h (Jdd M (evT e x))).getD j (.u,.u)).2]) v w')∨
   ((∀ j,j < (Yq M.h (Jdd M (evT e x))).length→j∈ZC M (evT e x))∧Out B ρ M (.tp [.b false]) v w'):=by
 simp only [Jy] at hc;split at hc
 ·rename_i x' s ho
  simp only [Bool.and_eq_true,Bool.not_eq_true'] at hc;obtain ⟨h1,rfl⟩:=hc;have hv:=hE x x' (by simp) h1
  obtain ⟨⟨t,g,id,n,seen,e1,e2,e3⟩,hrw⟩:=hk;rw [e1] at hv hrw ⊢;obtain ⟨b,z,q1,q2⟩:=hv;obtain ⟨b',z',r1,id',n',seen',m,r2,r3,r4⟩:=hm.loc t g 2 _ e2;rw [q1] at r1;cases r1;simp only [List.cons.injEq,AV.mp.injEq,AV.i.injEq,true_and,AV.ag.injEq,and_true] at r2;obtain ⟨rfl,rfl,rfl⟩:=r2;have hX:nmX M (.li t g)=[.mp id,.i .i64 (n':Nat),.ag (seen'.map fun j:Nat=> .i .i64 j)]:=by simp [nmX,Mem.getL,e2]
  have hId:Jdd M (.li t g)= .mp id:=by simp [Jdd,hX]
  have hSeen:ZC M (.li t g)=seen':=by
   simp only [ZC,hX,List.getD_cons_succ,List.getD_cons_zero,AV.cells,List.map_map];conv=>rhs;rw [←List.map_id seen']
   refine List.map_congr_left fun j _=> ?_
   simp [AV.toI]
  rw [hId] at hrw ⊢;rw [hSeen]
  have hk':JfI M.h (.mp id):=by
   simp only [Jfp] at hrw;simp only [JfI];split at hrw
   ·trivial
   ·exact hrw.elim
  obtain ⟨rw',es,b2,ents,clk,p1,p2,p3,p4,p5,p6,p7,p8⟩:=JfL hm.heap (show VP ρ (.mp id) (.map (some m)) from ⟨m,r3,rfl⟩) hk'
  simp only [Jfp,p1] at hrw;subst hrw;have p8:=p8 rfl;rw [r3] at p3;cases p3;have hlen:es.length=ents.size:=by rw [p7.len,Array.length_toList]
  have hes:Yq M.h (.mp id)=es:=by simp [Yq,p1]
  rw [hes] at e3 ⊢;have hn:clk=n':=by have:=p8.1;omega
  subst hn;rcases run_next_map (P:=P) (t:=o.type) r4 p6 p8 with ⟨j1,hr⟩ | ⟨j,en,w0,h0,j1,j2,hr⟩
  ·refine Sim.value (v:= .tuple #[.bool false]) (w':=w) ?_ (.inr ⟨fun j hj=>by have:=j1 j (by omega);simpa using this,Out.same (show VE ρ (.tp [.b false]) _ from ⟨_,rfl,rfl,trivial⟩) hm⟩)
   simp [execOp,ho,q2,hr]
  ·have hj:j < es.length:=by rw [hlen];exact (Array.getElem?_eq_some_iff.1 j1).1
   obtain ⟨hk1,hv1⟩:V1 ρ (es.getD j (.u,.u)).1 en.key∧V1 ρ (es.getD j (.u,.u)).2 en.val:=by
    obtain ⟨m',g1,g2⟩:=p7.get j es[j] (by simp [hj])
    rw [Array.getElem?_toList,j1] at g1;cases g1;have e:es.getD j (.u,.u)=es[j]:=by simp [List.getD,hj]
    rw [e];exact g2
   have hm0:Qt B ρ M w0:=by rcases h0 with rfl | rfl;exact hm;exact hm.drew
   have hb0:w0.heap[b]? =some (.mapIter (some m) clk seen'.toArray clk):=by rcases h0 with rfl | rfl<;>exact r4
   have hset:=MapKept.heap_set (o':= .mapIter (some m) clk (seen'.toArray.push j) clk) hb0;have hml:M.getL t g 2=[.mp id,.i .i64 (clk:Nat),.ag (seen'.map fun j:Nat=> .i .i64 j)]:=by simp [Mem.getL,e2]
   refine Sim.value (v:= .tuple #[.bool true,en.key,en.val]) (w':={w0 with heap:=w0.heap.setIfInBounds b (.mapIter (some m) clk (seen'.toArray.push j) clk)}) ?_ (.inl ⟨j,hj,by simpa using j2,ρ,.refl ρ,?_,?_⟩)
   ·simp [execOp,ho,q2,hr]
   ·exact ⟨_,rfl,rfl,hk1,hv1,trivial⟩
   ·have:=hm0.setLoc (w':={w0 with heap:=w0.heap.setIfInBounds b (.mapIter (some m) clk (seen'.toArray.push j) clk)}) (xs':=[.mp id,.i .i64 (clk:Nat),.ag ((seen'++[j]).map fun j:Nat=> .i .i64 j)]) q1 e2 (by simp) hset.2 rfl rfl rfl
     ⟨b,z,q1,id,clk,seen'++[j],m,rfl,r3,by rw [hset.1];simp⟩
    rw [List.map_append] at this;simp only [nmM,hId,hX,List.getD_cons_succ,List.getD_cons_zero,AV.cells];exact this
 ·cases hc
theorem run_entry_map {b m since:Nat} {seen:List Nat} {ents:Array MapEntry} {j:Nat} {en:MapEntry} (hb:w.heap[b]? =some (.mapIter (some m) since seen.toArray since)) (hm:w.heap[m]? =some (.map ents since)) (hbo:Ja0 ents since)
  (hj:seen.getLast?=some j) (he:ents[j]? =some en):(Instr.entry (.pointer (some ⟨b,0,none⟩))).run P w= .ok (.tuple #[en.key,en.val]) w:=by
 obtain ⟨hs,hbn⟩:=hbo;have g1:(getObj b).run P w= .ok (.mapIter (some m) since seen.toArray since) w:=by simp [getObj,Sem.run,hb]
 have g2:(getObj m).run P w= .ok (.map ents since) w:=by simp [getObj,Sem.run,hm]
 have hf:ents.find? (·.born==j)=some en:=by
  have hlt:=(Array.getElem?_eq_some_iff.1 he).1;rw [Array.find?_eq_some_iff_getElem];refine ⟨by rw [hbn j en he];simp,j,hlt,(Array.getElem?_eq_some_iff.1 he).2,fun i hi=> ?_⟩
  have:=hbn i _ (Array.getElem?_eq_getElem (by omega))
  rw [this];simp;omega
 have hbk:seen.toArray.back?=some j:=by rw [List.back?_toArray];exact hj
 simp only [Instr.entry,Sem.run_bind,g1,Result.andThen_ok,hbk,g2,bne_self_eq_false,Bool.false_eq_true,if_false,hf];rfl
theorem JtC {d:Nat} {x:Opd} (hc:Jy P (.en d x) o.op=true) (hk:okO C e M (.en d x)) (hE:OE P ρ e a [x]) (hm:Qt B ρ M w):Sim P o a w (Out B ρ M (vlO C e M (.en d x))):=by
 simp only [Jy] at hc;split at hc
 ·rename_i x' ho
  have h1:=hc;have hv:=hE x x' (by simp) h1
  simp only [okO] at hk;simp only [vlO];obtain ⟨⟨⟨t,g,id,n,seen,e1,e2,e3⟩,hrw⟩,k2,k3⟩:=hk;rw [e1] at hv hrw k2 k3 ⊢;obtain ⟨b,z,q1,q2⟩:=hv;obtain ⟨b',z',r1,id',n',seen',m,r2,r3,r4⟩:=hm.loc t g 2 _ e2;rw [q1] at r1;cases r1;simp only [List.cons.injEq,AV.mp.injEq,AV.i.injEq,true_and,AV.ag.injEq,and_true] at r2;obtain ⟨rfl,rfl,rfl⟩:=r2;have hX:nmX M (.li t g)=[.mp id,.i .i64 (n':Nat),.ag (seen'.map fun j:Nat=> .i .i64 j)]:=by simp [nmX,Mem.getL,e2]
  have hId:Jdd M (.li t g)= .mp id:=by simp [Jdd,hX]
  have hSeen:ZC M (.li t g)=seen':=by
   simp only [ZC,hX,List.getD_cons_succ,List.getD_cons_zero,AV.cells,List.map_map];conv=>rhs;rw [←List.map_id seen']
   refine List.map_congr_left fun j _=> ?_
   simp [AV.toI]
  rw [hId] at hrw k3 ⊢;simp only [Jfz] at k3 ⊢;rw [hSeen] at k2 k3 ⊢
  have hk':JfI M.h (.mp id):=by
   simp only [Jfp] at hrw;simp only [JfI];split at hrw
   ·trivial
   ·exact hrw.elim
  obtain ⟨rw',es,b2,ents,clk,p1,p2,p3,p4,p5,p6,p7,p8⟩:=JfL hm.heap (show VP ρ (.mp id) (.map (some m)) from ⟨m,r3,rfl⟩) hk'
  simp only [Jfp,p1] at hrw;subst hrw;have p8:=p8 rfl;rw [r3] at p3;cases p3;have hlen:es.length=ents.size:=by rw [p7.len,Array.length_toList]
  have hes:Yq M.h (.mp id)=es:=by simp [Yq,p1]
  rw [hes] at e3 k3 ⊢;have hn:clk=n':=by have:=p8.1;omega
  subst hn
  have hlast:seen'.getLast?=some (seen'.getLastD 0):=by
   rw [List.getLastD_eq_getLast?];cases hl:seen'.getLast? with
   | none=>exact absurd (List.getLast?_eq_none_iff.1 hl) k2
   | some j=>rfl
  generalize seen'.getLastD 0=j at k3 hlast ⊢;have j1:ents[j]? =some ents[j]:=Array.getElem?_eq_getElem (by omega)
  obtain ⟨hk1,hv1⟩:V1 ρ (es.getD j (.u,.u)).1 ents[j].key∧V1 ρ (es.getD j (.u,.u)).2 ents[j].val:=by
   obtain ⟨m',g1,g2⟩:=p7.get j es[j] (by simp [k3])
   rw [Array.getElem?_toList,j1] at g1;cases g1;have e:es.getD j (.u,.u)=es[j]:=by simp [List.getD,k3]
   rw [e];exact g2
  refine Sim.value (v:= .tuple #[ents[j].key,ents[j].val]) (w':=w) ?_ (Out.same ⟨_,rfl,hk1,hv1,trivial⟩ hm)
  simp [execOp,ho,q2,run_entry_map r4 p6 p8 hlast j1]
 ·cases hc
theorem Ji3 {z n:Nat} {Y:AV} {v:Value} (hm:Qt B ρ M w) (hy:VE ρ Y v) (hk:Je7 M z Y) (hn:n≤(QE M Y).length):
  ∃ cells:List Value,(Builtin.firstCells z n v).run P w= .ok cells.toArray w∧JO (VA ρ) (flat ((QE M Y).take n)) cells:=by
 cases Y<;>simp only [Je7] at hk<;>try (exact (show False from hk.1).elim)
 case s l=>
  subst hk;have hv:v= .string ⟨l.toArray⟩:=hy;subst hv;refine ⟨(l.take n).map fun b=>Value.int .u8 b.toNat,?_,?_⟩
  ·have hx:(⟨l.toArray⟩:ByteArray).extract 0 n=⟨(l.take n).toArray⟩:=by
    apply ByteArray.ext
    apply Array.ext'
    simp [ByteArray.data_extract]
   simp [Builtin.firstCells,hx]
  ·show JO (VA ρ) (flat ((XR l).take n)) _
   have:(XR l).take n=XR (l.take n):=by simp [XR,List.map_take]
   rw [this,Jbt];exact Jdx (l.take n)
 case ns=>
  have hv:v= .slice none 0 0:=hy;subst hv;exact ⟨[],by simp [Builtin.firstCells],by simp [QE,Yk,flat,JO]⟩
 case sl id ix len=>
  obtain ⟨rw',st,z',xs,b,off,cap,c,ty,fz,q1,q2,q3,q4,q5,q6,q7⟩:=JfR hm.heap (hy:VP ρ (.sl ..) _) hk.1;have hzz:z'=z:=by have:=hk.2;simp only [slZ,q1] at this;exact this
  subst hzz;have hin:=hk.1;simp only [Jid,q1] at hin;have hs:QE M (.sl id ix len)=Yk M.h (.sl id ix len):=rfl;have hl:(Yk M.h (.sl id ix len)).length=len:=by simp [Yk,q1];omega
  rw [hs] at hn ⊢;rw [hl] at hn
  have hz': ∀ x,x∈Yk M.h (.sl id ix len)→x.cells.length=z':=fun x hx=>by
   simp only [Yk,q1] at hx;exact q2 x (List.mem_of_mem_drop (List.mem_of_mem_take hx))
  refine ⟨(c.toList.drop off).take (n*z'),?_,?_⟩
  ·have hmul:n*z'≤cap*z':=Nat.mul_le_mul_right _ (by omega)
   have hz0:cap=0→cap*z'=0:=fun h=>by rw [h,Nat.zero_mul]
   obtain ⟨ad,had,q3⟩:=q3;have:=Jaq (P:=P) (w:=w) (n:=n*z') (off:=off) (cap:=cap*z') (had.imp_right hz0) (.inl hmul) q5 (by omega)
   rw [q3];simpa [Builtin.firstCells] using this
  ·have:=q7.take (n*z')
   rw [←JaF _ hz',List.take_take,Nat.min_eq_left (Nat.mul_le_mul_right _ hn)] at this;exact this
 case ll t g z' len=>
  obtain ⟨h1,h2,rfl⟩:=hk;obtain ⟨b,q1,rfl⟩:=hy;obtain ⟨hz,c,ty,v1,v2,v3⟩:=Jb7 hm q1 h1;have hs:QE M (.ll t g z' len)=M.getL t g 0:=rfl;rw [hs] at hn ⊢;have hmul:n*z'≤(M.getL t g 0).length*z':=Nat.mul_le_mul_right _ hn;refine ⟨c.toList.take (n*z'),?_,?_⟩
  ·have:=JaQ (P:=P) (w:=w) (n:=n*z') (off:=0) v1 (by rw [v2];omega)
   rw [List.drop_zero] at this;simpa [Builtin.firstCells] using this
  ·have:=v3.take (n*z')
   rwa [←JaF _ hz] at this
theorem Jri {d z:Nat} {x y:Opd} (hc:Jy P (.cp d x y z) o.op=true) (hk:cpC M z (evT e y) (evT e x)) (hE:OE P ρ e a [x,y]) (hm:Qt B ρ M w):
  Sim P o a w (Out B ρ (cpM M (evT e y) (evT e x)) (.i .i64 (cpN M (evT e y) (evT e x)))):=by
 simp only [Jy] at hc;split at hc
 ·rename_i c ho
  split at hc
  ·rename_i x' y' t tys hcal hargs htys
   simp only [Bool.and_eq_true,bne_iff_ne] at hc;obtain ⟨⟨⟨h1,h2⟩,hz0⟩,h4⟩:=hc;have ha1:c.args= #[x',y']:=by have:=congrArg List.toArray hargs;simpa using this
   have ha2:c.argTypes[0]? =some t:=by
    have:=congrArg (·[0]?) htys;simpa using this
   split at h4
   ·rename_i el hel
    have hsz:szT P el=some z:=by simpa using h4
    have hu:=Jbd hel;have hx:=hE x x' (by simp) h1
    have hy:=hE y y' (by simp) h2
    have key: ∀ {v:Value} {w':World} {M':Mem} {r:AV},(Builtin.copy_ c.argTypes o.type #[a.eval x',a.eval y']).run P w= .ok v w'→Out B ρ M' r v w'→Sim P o a w (Out B ρ M' r):=by
     intro v w' M' r hr ho';refine Sim.value (v:=v) (w':=w') ?_ ho'
     simp [execOp,ho,resolve,hcal,ha1,invoke,builtin,hr]
    generalize evT e x=X at*;generalize evT e y=Y at*;obtain ⟨hsrc,hdst⟩:=hk;obtain ⟨cells0,s1,-,-,s4⟩:=Jly (P:=P) hm hy hsrc;cases X<;>simp only at hdst
    case ns=>
     have hx':a.eval x'= .slice none 0 0:=hx;obtain ⟨cells,f1,f2⟩:=Ji3 (P:=P) (n:=0) hm hy hsrc (Nat.zero_le _);refine key (v:= .int .i64 0) (w':=w) ?_ (Out.same (VE.of (V2.of (V1.of (VA.of (show VP ρ (.i .i64 _) _ from rfl))))) hm)
     simp [Builtin.copy_,ha2,hx',JD hu,s1,J5 hsz,f1,goInt]
    case sl id ix len=>
     obtain ⟨p,q1,q2,q3,off,cap,q4,q5,q6,ad,had,hx'⟩:=(hx:VP ρ (.sl ..) _);have hid:=JjX hm.heap q1;split at hdst
     ·rename_i rw' st z' xs hob
      obtain ⟨rfl,rfl,hend,hle⟩:=hdst;obtain ⟨hz,p0,rest,hA,r1,r2,r3,r4,r5,r6⟩:=JbG hm.heap q1 hob
      have hpp:p=p0:=by
       rcases hend with h | h
       ·exact r6 h
       ·exact r4 (by omega)
      subst hpp;have hxx:=hA.hx;have hN:cpN M Y (.sl id ix len)=min (QE M Y).length len:=rfl;have hN1:min (QE M Y).length len≤(QE M Y).length:=Nat.min_le_left _ _;have hN2:min (QE M Y).length len≤len:=Nat.min_le_right _ _;obtain ⟨cells,f1,f2⟩:=Ji3 (P:=P) hm hy hsrc hN1;generalize hn:min (QE M Y).length len=n at*;simp only [cpM,hob,hN]
      have hcl:cells.length=n*z':=by
       rw [←f2.len,Zm fun q hq=>s4 q (List.mem_of_mem_take hq),List.length_take,Nat.min_eq_left hN1]
      by_cases hn0:n=0
      ·rw [if_pos hn0]
       have hc0:cells=[]:=List.eq_nil_of_length_eq_zero (by rw [hcl,hn0,Nat.zero_mul])
       refine key (v:= .int .i64 n) (w':=w) ?_ (Out.same (VE.of (V2.of (V1.of (VA.of (show VP ρ (.i .i64 _) _ from rfl))))) hm)
       have hmin:Nat.min (QE M Y).length len=n:=hn;subst hc0;simp [Builtin.copy_,ha2,hx',JD hu,s1,J5 hsz,hmin,f1,goInt,storeCells]
      ·rw [if_neg hn0]
       obtain rfl:ad=⟨p.b,off,none⟩:=had.resolve_right (by omega)
       obtain ⟨cc,ty,fz,v1,v2,v3,v4,v5⟩:=hA.hv;have hown:=hA.hown p (by simp)
       have hown2:ρ.own p.b= .id id:=hown.2
       have hoff:off=p.o+(ix-p.s)*z':=by
        rcases q5 with q5 | ⟨q5,q5'⟩
        ·rw [r1] at q5;exact q5
        ·omega
       rw [r1,hxx] at v4 v5;have hccl:cc.toList.length=p.c:=by rw [Array.length_toList];exact v2
       have hb1:(ix-p.s)*z'+n*z'≤(xs.length-p.s)*z':=by rw [←Nat.add_mul];exact Nat.mul_le_mul_right _ (by omega)
       have hone:=f2.ones;have hst:=Jaf (P:=P) (off:=off) cells 0 v1 (fun j hj=>v3 rfl j (by omega)) (by rw [hcl];omega) hone
       rw [Nat.add_zero] at hst;have hsp:(splice cc.toList off cells).length=cc.size:=by rw [XK (by rw [hcl,hccl];omega),Array.length_toList]
       have hother: ∀ b,b≠p.b→(w.setRow p.b (splice cc.toList off cells).toArray).heap[b]? =w.heap[b]? :=fun b hb=>setRow_other w p.b b _ hb
       have hlen':(xs.take ix++(QE M Y).take n++xs.drop (ix+n)).length=xs.length:=by simp;omega
       have htk:((QE M Y).take n).length=n:=by simp;omega
       have hh:=hm.heap.setArr (xs':=xs.take ix++(QE M Y).take n++xs.drop (ix+n)) (w':=w.setRow p.b (splice cc.toList off cells).toArray) hid hA (setRow_heap w p.b cc _ ty fz v1) (by rw [List.size_toArray,hsp,v2]) (v3 rfl) hother (by simp) hlen'
        (fun q hq=>by
         simp only [List.mem_append] at hq;rcases hq with (hq | hq) | hq
         ·exact hz q (List.mem_of_mem_take hq)
         ·exact s4 q (List.mem_of_mem_take hq)
         ·exact hz q (List.mem_of_mem_drop hq))
        (fun q hq=>by
         rw [Wq,Wq] at hq;simp only [List.mem_append] at hq;rcases hq with (hq | hq) | hq
         ·rw [JaF _ hz] at hq;exact hA.hcl q (List.mem_of_mem_take hq)
         ·exact f2.ex q hq
         ·rw [Jbe _ hz] at hq;exact hA.hcl q (List.mem_of_mem_drop hq)) (by
         have hzt: ∀ q,q∈(QE M Y).take n→q.cells.length=z':=fun q hq=>s4 q (List.mem_of_mem_take hq)
         have e1:(xs.take ix++(QE M Y).take n++xs.drop (ix+n)).drop p.s=splice (xs.drop p.s) (ix-p.s) ((QE M Y).take n):=by
          have:=JbK (l:=xs) (k:=ix-p.s) (o:=p.s) (m:=(QE M Y).take n) (by omega)
          rw [show p.s+(ix-p.s)=ix by omega] at this
          rw [←this];simp only [splice,htk]
         have e2:flat (splice (xs.drop p.s) (ix-p.s) ((QE M Y).take n))=splice (flat (xs.drop p.s)) ((ix-p.s)*z') (flat ((QE M Y).take n)):=by
          have hzd: ∀ q,q∈xs.drop p.s→q.cells.length=z':=fun q hq=>hz q (List.mem_of_mem_drop hq)
          simp only [splice,Wq,JaF _ hzd,htk,Zm hzt];rw [Jbe _ hzd,Nat.add_mul]
         rw [e1,e2,List.toList_toArray,hoff,JbK (by rw [hccl];omega),hxx,r1,JdZ (by rw [hcl];omega) (by simp;omega)]
         have ht':told p xs=xs.drop p.s:=by simp only [told];rw [List.take_of_length_le (by omega)]
         rw [ht'] at v5;exact v5.splice f2)
       refine key (v:= .int .i64 n) (w':=w.setRow p.b (splice cc.toList off cells).toArray) ?_ ⟨ρ,.refl ρ,VE.of (V2.of (V1.of (VA.of (show VP ρ (.i .i64 _) _ from rfl)))),?_⟩
       ·have hmin:Nat.min (QE M Y).length len=n:=hn
        simp [Builtin.copy_,ha2,hx',JD hu,s1,J5 hsz,hmin,f1,goInt,hst]
       ·exact hm.turn hh (.refl ρ) rfl (fun _ _=>rfl) (by simp) (fun b hb hn=>hother b fun e=>by rw [e,hown2] at hn;simp at hn) rfl rfl rfl
     ·exact hdst.elim
    all_goals exact hdst.elim
   ·cases h4
  ·cases hc
 ·cases hc
end ops
section
variable {P:Program} {B:Base} {ρ:Rn} {M:Mem} {w:World} {e:Env} {a:Act} {o:Oper}
theorem JoZ {k:IntKind} {x y:Int} {t:TypeId} {ts:Array TypeId}:(Builtin.max_ ts t #[.int k x,.int k y]).run P w= .ok (.int k (if x < y then y else x)) w:=by
 simp only [Builtin.max_];by_cases h:x < y<;>simp [Builtin.max2,h]
theorem JqN {k:IntKind} {x y:Int} {t:TypeId} {ts:Array TypeId}:(Builtin.min_ ts t #[.int k x,.int k y]).run P w= .ok (.int k (if y < x then y else x)) w:=by
 simp only [Builtin.min_];by_cases h:y < x<;>simp [Builtin.min2,h]
theorem Jsh {d:Nat} {mx:Bool} {x y:Opd} (hc:Jy P (.mm d mx x y) o.op=true) (hk:(evT e x).isI=true∧(evT e y).isI=true∧(evT e x).toK=(evT e y).toK) (hE:OE P ρ e a [x,y]) (hm:Qt B ρ M w):
  Sim P o a w (Out B ρ M (.i (evT e x).toK (if mx then (if (evT e x).toI < (evT e y).toI then (evT e y).toI else (evT e x).toI) else (if (evT e y).toI < (evT e x).toI then (evT e y).toI else (evT e x).toI)))):=by
 simp only [Jy] at hc;split at hc
 ·rename_i c ho
  split at hc
  ·rename_i x' y' hcal hargs
   simp only [Bool.and_eq_true] at hc;obtain ⟨⟨hmx,h1⟩,h2⟩:=hc;subst hmx;have ha1:c.args= #[x',y']:=by have:=congrArg List.toArray hargs;simpa using this
   have hx:=hE x x' (by simp) h1
   have hy:=hE y y' (by simp) h2
   generalize evT e x=X at*;generalize evT e y=Y at*;obtain ⟨i1,i2,i3⟩:=hk;cases X<;>first | (cases i1;done) | skip
   cases Y<;>first | (cases i2;done) | skip
   rename_i k p k' q
   have i3':k=k':=i3;subst i3';have hx':a.eval x'= .int k p:=hx;have hy':a.eval y'= .int k q:=hy;refine Sim.value (v:= .int k (if p < q then q else p)) ?_ (Out.same (VE.of (V2.of (V1.of (VA.of (show VP ρ (.i k _) _ from rfl))))) hm)
   simp [execOp,ho,resolve,hcal,ha1,invoke,builtin,hx',hy',JoZ]
  ·rename_i x' y' hcal hargs
   simp only [Bool.and_eq_true,Bool.not_eq_true'] at hc;obtain ⟨⟨hmx,h1⟩,h2⟩:=hc;subst hmx;have ha1:c.args= #[x',y']:=by have:=congrArg List.toArray hargs;simpa using this
   have hx:=hE x x' (by simp) h1
   have hy:=hE y y' (by simp) h2
   generalize evT e x=X at*;generalize evT e y=Y at*;obtain ⟨i1,i2,i3⟩:=hk;cases X<;>first | (cases i1;done) | skip
   cases Y<;>first | (cases i2;done) | skip
   rename_i k p k' q
   have i3':k=k':=i3;subst i3';have hx':a.eval x'= .int k p:=hx;have hy':a.eval y'= .int k q:=hy;refine Sim.value (v:= .int k (if q < p then q else p)) ?_ (Out.same (VE.of (V2.of (V1.of (VA.of (show VP ρ (.i k _) _ from rfl))))) hm)
   simp [execOp,ho,resolve,hcal,ha1,invoke,builtin,hx',hy',JqN]
  ·cases hc
 ·cases hc
end
structure Stp (ρ:Rn) (w:World) (ρ':Rn) (w':World):Prop where
 le:ρ.Le ρ'
 own: ∀ b,b < w.heap.size→ρ'.own b=ρ.own b
 frame: ∀ b,b < w.heap.size→ρ.own b= .no∨ρ.own b= .loc→w'.heap[b]? =w.heap[b]?
 sz:w.heap.size≤w'.heap.size
 os:w'.os=w.os
 tape:w'.tape=w.tape
 out:w'.output=w.output
def JeK (ρ:Rn) (G:Nat):Prop:= ∀ g,g < G→ ∃ p,p∈ρ.pl g∧p.b=g∧p.o=0∧p.s=0
def JgQ (ρ:Rn) (w:World) (v:AV) (H':AH):Ending→World→Prop
 | .returned r,w'=> ∃ ρ',Stp ρ w ρ' w'∧V2 ρ' v r∧J7 ρ' H' w'
 | _,_=>False
def JqW (P:Program) (f:Nat):Prop:= ∃ fn,P.funcs[f]? =some fn∧(fn.name== "runtime.NumGoroutine")=false∧fn.body.isNone=false
def Yj (P:Program) (C:Tab):Prop:=
 ∀ f args H v H',C f args H=some (v,H')→(JqW P f∧ ∀ ρ w rargs,J7 ρ H w→JeK ρ P.globals.size→JO (V1 ρ) args rargs.toList→Calls P f rargs w (JgQ ρ w v H'))∨
  ∀ ρ w rargs,J7 ρ H w→JeK ρ P.globals.size→JO (V1 ρ) args rargs.toList→ ∃ r w',(callFunc f rargs).run P w= .ok (.value r) w'∧JgQ ρ w v H' (.returned r) w'
theorem JqW.run {P:Program} {f:Nat} (h:JqW P f) (rargs:Array Value) (w:World):(callFunc f rargs).run P w= .ok (.enter f rargs) w:=by
 obtain ⟨fn,hf,hname,hbody⟩:=h;have h1: ¬ fn.name= "runtime.NumGoroutine" :=by simpa using hname
 have h2: ¬ fn.body=none:=by intro h;rw [h] at hbody;cases hbody
 simp [callFunc,hf,h1,h2]
theorem Yj.body {P:Program} {C:Tab} {f:Nat} {args:List AV} {H H':AH} {v:AV} (hC:Yj P C) (h:C f args H=some (v,H')) (hb:JqW P f) (ρ:Rn) (w:World) (rargs:Array Value) (h1:J7 ρ H w) (h2:JeK ρ P.globals.size) (h3:JO (V1 ρ) args rargs.toList):Calls P f rargs w (JgQ ρ w v H'):=by
 rcases hC f args H v H' h with k | k
 ·exact k.2 ρ w rargs h1 h2 h3
 ·obtain ⟨r,w',g1,-⟩:=k ρ w rargs h1 h2 h3
  rw [hb.run] at g1;cases g1
def sup:O→Bool
 | .dl .. | .gd .. | .nxm .. =>false
 | _=>true
def Jrp:O→List Opd
 | .mv _ x | .un _ _ x | .nl _ _ _ x | .ci _ _ x | .cbs _ x | .csb _ x | .ex _ x _ | .fd _ x _ _ | .sla _ x _ _ | .ln _ x | .lns _ x | .lnm _ x | .bx _ x | .lbx _ x | .ld _ x _ | .fa _ x _ | .mk _ _ _ _ x | .nc _ x | .rs _ x | .nx _ x | .rsm _ x | .nxm _ x | .mi _ _ x | .en _ x=>[x]
 | .pk _ c a b=>[c,a,b]
 | .bn _ _ x y | .be _ _ x y | .eqa _ _ _ x y | .ix _ x y | .ixa _ x y _ _ _ | .st x y _ | .ia _ x y _ | .iaa _ x y _ _ | .ap _ x y _ _ | .cp _ x y _ | .mm _ _ x y | .lk _ x y _ _ _ | .dl x y _=>[x,y]
 | .mu x y z _=>[x,y,z]
 | .bd _ _ parts=>Jka parts
 | .bs _ _ _ _ parts | .lbs _ _ _ _ parts=>JhW parts
 | .ss _ x lo hi | .sl _ x lo hi _=>x::(lo.toList++hi.toList)
 | .cl _ _ xs=>xs
 | .cv _ x xs=>x::xs
 | .mf _ _ xs=>xs
 | .al .. | .lal .. | .mkm .. | .gd .. =>[]
section ops
variable {P:Program} {B:Base} {C:Tab} {ρ:Rn} {M:Mem} {w:World} {e:Env} {a:Act} {o:Oper}
theorem JfY {ρ:Rn}: ∀ {xs:List Opd} {ys:List Operand},Jdm P xs ys=true→OE P ρ e a xs→Jar (evs e xs)=true→JO (V1 ρ) (evs e xs) (ys.map a.eval)
 | [],[],_,_,_=>trivial
 | x::r,y::q,hc,hE,ho=>by
  simp only [Jdm,Bool.and_eq_true] at hc;simp only [evs,Jar,Bool.and_eq_true] at ho;exact ⟨(hE x y (by simp) hc.1).out ho.1,JfY hc.2 (fun y z hy=>hE y z (by simp [hy])) ho.2⟩
 | [],_::_,hc,_,_=>by simp [Jdm] at hc
 | _::_,[],hc,_,_=>by simp [Jdm] at hc
theorem Qt.back {H':AH} {ρ':Rn} {w':World} (hm:Qt B ρ M w) (hs:Stp ρ w ρ' w') (hh:J7 ρ' H' w'):
  ρ.LeL {ρ' with lo:=ρ.lo}∧Qt B {ρ' with lo:=ρ.lo} ⟨M.l,M.g,H'⟩ w':=by
 have hle:ρ.LeL {ρ' with lo:=ρ.lo}:=⟨⟨hs.le.pl,hs.le.ob⟩,fun _ _ _ h=>h⟩
 refine ⟨hle,hm.turn ?_ hle rfl hs.own hs.sz hs.frame hs.os hs.tape hs.out⟩
 exact hh.of ⟨fun _ p h=>⟨p,h,rfl,rfl,rfl,rfl,rfl,Nat.le_refl _⟩,fun _ _ h=>h⟩ rfl rfl (Nat.le_refl _) (fun _ _ _=>⟨rfl,rfl⟩) hh.bnd fun _ _ h=>h
theorem JiQ {d:Option Nat} {x:O} {f:Nat} {rargs:Array Value} {vs:List AV} (hC:Yj P C) (hG:B.G=P.globals.size) (hr:(execOp a.eval o).run P w=(callFunc f rargs).run P w)
  (hk:Jkh (C f vs M.h)) (hv:JO (V1 ρ) vs rargs.toList) (hm:Qt B ρ M w):Sim P o a w (Out B ρ ⟨M.l,M.g,rh M.h (C f vs M.h)⟩ (rv (C f vs M.h))):=by
 cases hCf:C f vs M.h with
 | none=>rw [hCf] at hk;exact hk.elim
 | some r=>
  obtain ⟨v,H'⟩:=r;intro next Q hn;unfold Oper.wp
  have fin: ∀ r w',JgQ ρ w v H' (.returned r) w'→Out B ρ ⟨M.l,M.g,H'⟩ v r w':=fun r w' ⟨ρ',hs,hv',hh⟩=>by
   obtain ⟨h1,h2⟩:=hm.back hs hh;have hle:ρ'.Le {ρ' with lo:=ρ.lo}:=⟨fun _ p h=>⟨p,h,rfl,rfl,rfl,rfl,rfl,Nat.le_refl _⟩,fun _ _ h=>h⟩
   exact ⟨_,h1,VE.of (V2.mono hle hv'),h2⟩
  rcases hC f vs M.h v H' hCf with ⟨hb,hcall⟩ | hcall
  ·rw [hr,hb.run,Oper.upon_enter]
   refine (hcall ρ w rargs hm.heap (by rw [←hG];exact hm.glob) hv).mono fun e w' hR=> ?_
   cases e with
   | returned r=>exact hn _ _ (fin r w' hR)
   | panicked _=>exact hR.elim
   | outgrown=>exact hR.elim
  ·obtain ⟨r,w',g1,g2⟩:=hcall ρ w rargs hm.heap (by rw [←hG];exact hm.glob) hv
   rw [hr,g1,Oper.upon_value];exact hn _ _ (fin r w' g2)
theorem JsV {d:Option Nat} {f:Nat} {xs:List Opd} (hC:Yj P C) (hG:B.G=P.globals.size) (hc:Jy P (.cl d f xs) o.op=true) (hk:Jar (evs e xs)=true∧Jkh (C f (evs e xs) M.h)) (hE:OE P ρ e a xs) (hm:Qt B ρ M w):
  Sim P o a w (Out B ρ ⟨M.l,M.g,rh M.h (C f (evs e xs) M.h)⟩ (rv (C f (evs e xs) M.h))):=by
 simp only [Jy] at hc;split at hc
 ·rename_i c ho
  split at hc
  ·rename_i g hcal
   simp only [Bool.and_eq_true,beq_iff_eq] at hc;obtain ⟨rfl,h1⟩:=hc;refine JiQ (x:= .cl d f xs) (d:=d) (f:=f) (rargs:=c.args.map a.eval) hC hG ?_ hk.2 (by rw [Array.toList_map];exact JfY h1 hE hk.1) hm
   simp only [execOp,ho,resolve,hcal,Act.eval,Deferred.ofValue,Sem.run_bind,Sem.run_pure,Result.andThen_ok,invoke];simp
  ·cases hc
 ·cases hc
theorem Jsz {d:Option Nat} {x:Opd} {xs:List Opd} (hC:Yj P C) (hG:B.G=P.globals.size) (hc:Jy P (.cv d x xs) o.op=true) (hk:okO C e M (.cv d x xs)) (hE:OE P ρ e a (x::xs)) (hm:Qt B ρ M w):
  Sim P o a w (Out B ρ (mmO C e M (.cv d x xs)) (vlO C e M (.cv d x xs))):=by
 simp only [Jy] at hc;split at hc
 ·rename_i c ho
  split at hc
  ·rename_i y hcal
   simp only [Bool.and_eq_true] at hc;obtain ⟨h1,h2⟩:=hc;obtain ⟨⟨f,cs,hx⟩,k1,k2⟩:=hk;have hv:=hE x y (by simp) h1
   rw [hx] at hv;obtain ⟨rc,r1,r2⟩:=(hv:VA ρ (.fn f cs) _);simp only [hx] at k2;simp only [vlO,mmO,hx]
   refine JiQ (x:= .cv d x xs) (d:=d) (f:=f) (rargs:=c.args.map a.eval++rc) hC hG ?_ k2 (by
    rw [Array.toList_append,Array.toList_map];exact JO.append (JfY h2 (fun y z hy=>hE y z (by simp [hy])) k1) (r2.mono fun _ _ h=>V1.of (VA.of h))) hm
   simp only [execOp,ho,resolve,hcal,r1,Deferred.ofValue,Sem.run_bind,Sem.run_pure,Result.andThen_ok,invoke];simp
  ·cases hc
 ·cases hc
theorem Jog {x:O} (hC:Yj P C) (hG:B.G=P.globals.size) (hs:sup x=true) (hc:Jy P x o.op=true) (hk:okO C e M x) (hE:OE P ρ e a (Jrp x)) (hm:Qt B ρ M w):
  Sim P o a w (Out B ρ (mmO C e M x) (vlO C e M x)):=by
 cases x<;>first | (exact absurd hs Bool.false_ne_true) | skip
 case mv=>exact Jq3 hc hE hm
 case mm=>exact Jsh hc hk hE hm
 case pk=>exact Jsl hc hk hE hm
 case bn=>exact JrD hc hk hE hm
 case un=>exact Jrf hc hk hE hm
 case be=>exact JrY hc hk hE hm
 case nl=>exact Jrh hc hk hE hm
 case ci=>exact JsZ hc hk hE hm
 case cbs=>exact Jp1 hc hk hE hm
 case csb=>exact JpS hc hk hE hm
 case ex=>exact JrZ hc hk hE hm
 case bd=>exact Jty hc hk hE hm
 case fd=>exact JsH hc hk hE hm
 case ix=>exact Jq9 hc hk hE hm
 case ixa=>exact Jo3 hc hk hE hm
 case ss=>exact JrK hc hk hE hm
 case sl=>exact Jti hc hk hE hm
 case ln=>exact Jsp hc hk hE hm
 case lns=>exact Jpl hc hk hE hm
 case al=>exact JrH hc hm
 case bx=>exact Jss hc hk hE hm
 case lal=>exact JqJ hc hm
 case lbx=>exact Jp6 hc hk hE hm
 case ld=>exact Jsd hc hk hE hm
 case st=>exact JrS hc hk hE hm
 case fa=>exact Jsf hc hk hE hm
 case ia=>exact JrL hc hk hE hm
 case iaa=>exact JpT hc hk hE hm
 case bs=>exact Jq0 hc hk hE hm
 case lbs=>exact Jqr hc hk hE hm
 case mk=>exact JsA hc hk hE hm
 case ap=>exact Jsr hc hk hE hm
 case cl=>exact JsV hC hG hc hk hE hm
 case cv=>exact Jsz hC hG hc hk hE hm
 case nc=>exact JrO hc hk hE hm
 case mf=>exact Jtz hc hk hE hm
 case sla=>exact Jo1 hc hk hE hm
 case lnm=>exact Jp7 hc hk hE hm
 case mkm=>exact JoX hc hm
 case lk=>exact Jrb hc hk hE hm
 case mu=>exact Jsc hc hk hE hm
 case rs=>exact JsX hc hk hE hm
 case nx=>exact JsB hc hk hE hm
 case rsm=>exact JpU hc hk hE hm
 case en=>exact JtC hc hk hE hm
 case mi=>exact Jsi hc hk hE hm
 case eqa=>exact JpF hc hk hE hm
 case cp=>exact Jri hc hk hE hm
end ops
structure StR (B:Base) (N:Nat) (ρ:Rn) (e:Env) (M:Mem) (a:Act) (w:World):Prop where
 env: ∀ t,VE ρ (look e t) (a.tmps.getD t undef)
 mem:Qt B ρ M w
 dfr:a.defers=[]
 sz:N≤a.tmps.size
def Ex (B:Base) (N:Nat) (e:Env) (M:Mem) (a:Act) (w:World):Prop:= ∃ ρ,StR B N ρ e M a w
def dOk (N:Nat):Option Nat→Bool
 | some d=>decide (d < N)
 | none=>true
def okD (N:Nat):O→Bool
 | .gd _ _ y=>sup y&&dOk N (dsO y)
 | .nxm d _=>decide (d < N)
 | y=>sup y&&dOk N (dsO y)
def Jm8:O→Bool
 | .gd .. =>true
 | _=>false
def isSp:O→Bool
 | .gd .. | .nxm .. =>true
 | _=>false
section
variable {P:Program} {B:Base} {C:Tab} {ρ:Rn} {M:Mem} {w:World} {e:Env} {a:Act} {o:Oper} {N:Nat}
theorem Jji (tmps:Array Value) (d t:Nat) (v:Value) (h:d < tmps.size):(tmps.setIfInBounds d v).getD t undef=if d=t then v else tmps.getD t undef:=by
 simp only [Array.getD_eq_getD_getElem?,Array.getElem?_setIfInBounds];by_cases e:d=t
 ·subst e;simp [h]
 ·simp [e]
theorem StR.put {ρ':Rn} {M':Mem} {w':World} {ds:Option Nat} {x:AV} {v:Value} (h:StR B N ρ e M a w) (hd:dOk N ds=true) (hl:ρ.LeL ρ') (hv:VE ρ' x v) (hm:Qt B ρ' M' w'):StR B N ρ' (J3 ds x e) M' (a.put ds v) w':=by
 cases ds with
 | none=>exact ⟨fun t=>(h.env t).mono hl,hm,h.dfr,h.sz⟩
 | some d=>
  have hlt:d < N:=by simpa [dOk] using hd
  have hsz:=h.sz;refine ⟨fun t=> ?_,hm,h.dfr,by simpa [Act.put] using h.sz⟩
  simp only [Act.put,J3,look];rw [Jji _ _ _ _ (by omega)]
  by_cases ht:d=t
  ·rw [if_pos ht,if_pos ht];exact hv
  ·rw [if_neg ht,if_neg ht];exact (h.env t).mono hl
theorem JfP {x:O} (h:Jm8 x=false):Jks P x o=(o.guard.isNone&&o.dst==dsO x&&Jy P x o.op):=by
 cases x<;>first | rfl | cases h
theorem Jv {x:O} {l:List O} {κ:Env→Mem→Prop} (h:isSp x=false):JN C (x::l) e M κ=(okO C e M x∧JN C l (J3 (dsO x) (vlO C e M x) e) (mmO C e M x) κ):=by
 cases x<;>first | rfl | cases h
theorem Jw {x:O} {i:Nat} {lg:List Lg} {cf:List Nat} {kp:Bool} {l:List PO} {κ:Env→Mem→Prop} (h:Jm8 x=false):
  JZ C i lg (⟨x,cf,kp⟩::l) e M κ=(okO C e M x∧cfC C lg x e M cf∧JZ C (i+1) (Qb kp i x e M lg) l (J3 (dsO x) (vlO C e M x) e) (mmO C e M x) κ):=by
 cases x<;>first | rfl | cases h
theorem JoJ {x:O} (h:isSp x=false):okD N x=(sup x&&dOk N (dsO x)):=by
 cases x<;>first | rfl | cases h
theorem Jl0 (x:O):(∃ t b y,x= .gd t b y)∨Jm8 x=false:=by
 cases x<;>first | exact .inl ⟨_,_,_,rfl⟩ | exact .inr rfl
theorem Jkk (x:O):(∃ t b y,x= .gd t b y)∨(∃ d y,x= .nxm d y)∨isSp x=false:=by
 cases x<;>first | exact .inl ⟨_,_,_,rfl⟩ | exact .inr (.inl ⟨_,_,rfl⟩) | exact .inr (.inr rfl)
theorem Js6 {x:O} (h:isSp x=false):Jm8 x=false:=by
 cases x<;>first | rfl | cases h
theorem Jsg (hE: ∀ t,VE ρ (look e t) (a.tmps.getD t undef)) (hm:Qt B ρ M w) (hG:B.G=P.globals.size) (l:List Opd):OE P ρ e a l:=
 fun _ _ _ hc=>JcF hm hG hc fun t _=>hE t
theorem step_ok {x:O} {next:Act→World→Prop} {Q:Exit→Act→World→Prop} (hC:Yj P C) (hG:B.G=P.globals.size) (hs:sup x=true) (hd:dOk N (dsO x)=true) (hds:o.dst=dsO x) (hc:Jy P x o.op=true) (hk:okO C e M x) (h:StR B N ρ e M a w)
  (hn: ∀ a' w',Ex B N (J3 (dsO x) (vlO C e M x) e) (mmO C e M x) a' w'→next a' w'):o.wp P a w next Q:=by
 refine Jog hC hG hs hc hk (Jsg h.env h.mem hG _) h.mem next Q fun v w' ⟨ρ',h1,h2,h3⟩=>hn _ _ ⟨ρ',?_⟩
 rw [hds];exact h.put hd h1 h2 h3
theorem JmZ {ops:Array Oper} {tmps:Array Value} {j t:Nat} {p:Oper} {b:Bool} (hp:ops[j]? =some p) (hd:p.dst=some t) (hv:tmps.getD t undef= .bool b):yielded ops tmps j=some b:=by
 have ht:tmps[t]? =some (.bool b):=by
  rw [Array.getD_eq_getD_getElem?] at hv;cases hx:tmps[t]? with
  | none=>rw [hx] at hv;cases hv
  | some y=>rw [hx] at hv;exact congrArg some hv
 simp [yielded,hp,hd,ht]
theorem Jep {ops:Array Oper} {t:Nat} {b:Bool} {y:O} (hc:Jks P (.gd t b y) o=true) (hg:Jo4 ops (.gd t b y) o=true) {b':Bool} (hv:a.tmps.getD t undef= .bool b'):Region.wanted o (yielded ops a.tmps)=(b'==b):=by
 simp only [Jks,Bool.and_eq_true,beq_iff_eq] at hc;obtain ⟨⟨⟨h1,h2⟩,h3⟩,-⟩:=hc;unfold Jo4 at hg;cases hgd:o.guard with
 | none=>rw [hgd] at h1;cases h1
 | some jb=>
  obtain ⟨j,b2⟩:=jb;rw [hgd] at h1 hg;have hb:b=b2:=by simpa using h1
  subst hb;simp only at hg;cases hp:ops[j]? with
  | none=>rw [hp] at hg;cases hg
  | some p=>
   rw [hp] at hg;have hd:p.dst=some t:=by simpa using hg
   simp only [Region.wanted,hgd,JmZ hp hd hv];cases b<;>cases b'<;>rfl
theorem JfF {ops:Array Oper} {t:Nat} {b:Bool} {y:O} (hc:Jks P (.gd t b y) o=true) (hg:Jo4 ops (.gd t b y) o=true) (hv:a.tmps.getD t undef= .tuple #[]):Region.wanted o (yielded ops a.tmps)=false:=by
 simp only [Jks,Bool.and_eq_true,beq_iff_eq] at hc;obtain ⟨⟨⟨h1,h2⟩,h3⟩,-⟩:=hc;unfold Jo4 at hg;cases hgd:o.guard with
 | none=>rw [hgd] at h1;cases h1
 | some jb=>
  obtain ⟨j,b2⟩:=jb;rw [hgd] at hg;simp only at hg;cases hp:ops[j]? with
  | none=>rw [hp] at hg;cases hg
  | some p=>
   rw [hp] at hg;have hd:p.dst=some t:=by simpa using hg
   have hy:yielded ops a.tmps j=none:=by
    rw [Array.getD_eq_getD_getElem?] at hv;unfold yielded;rw [hp];simp only [Option.bind_some,hd];cases hx:a.tmps[t]? with
    | none=>rfl
    | some y=>rw [hx] at hv;simp only [Option.getD_some] at hv;rw [hv]
   simp [Region.wanted,hgd,hy]
theorem Jkj {v:AV} (h:v.isG=true):v.isB=true∨v= .tp []:=by
 cases v<;>try exact absurd h Bool.false_ne_true
 ·exact .inl rfl
 ·rename_i xs
  cases xs with
  | nil=>exact .inr rfl
  | cons=>exact absurd h Bool.false_ne_true
theorem VE.undef {ρ:Rn}:VE ρ (.tp []) Go.undef:=⟨#[],rfl,trivial⟩
theorem VE.tp0 {ρ:Rn} {v:Value} (h:VE ρ (.tp []) v):v= .tuple #[]:=by
 obtain ⟨ys,rfl,h⟩:=h;have h':JO (V1 ρ) [] ys.toList:=h;cases hy:ys.toList with
 | nil=>rw [show ys= #[] from by simpa using hy]
 | cons a l=>rw [hy] at h';exact h'.elim
theorem Je4 {ops:Array Oper} {x:O} (hx:Jm8 x=false) (hc:Jks P x o=true):Region.wanted o (yielded ops a.tmps)=true:=by
 rw [JfP hx] at hc;simp only [Bool.and_eq_true] at hc;have:o.guard=none:=by simpa using hc.1.1
 simp [Region.wanted,this]
theorem Jlg {t:Nat} {b:Bool} {y:O} (hc:Jks P (.gd t b y) o=true):o.dst=dsO y∧Jy P y o.op=true:=by
 simp only [Jks,Bool.and_eq_true,beq_iff_eq] at hc;exact ⟨hc.1.1.2,hc.1.2⟩
theorem JpR (h:StR B N ρ e M a w) {t:Nat} (hb:(look e t).isB=true): ∃ b,look e t= .b b∧a.tmps.getD t undef= .bool b:=(h.env t).bool hb
def Jme (N:Nat):List O→Bool
 | []=>true
 | x::r=>okD N x&&Jme N r
theorem Jk8 {ops:Array Oper} {Q:Exit→Act→World→Prop} {κ:Env→Mem→Prop} (hC:Yj P C) (hG:B.G=P.globals.size) (hQ: ∀ e M a w,κ e M→Ex B N e M a w→Q .normal a w):
  ∀ (l:List O) (i:Nat) (e:Env) (M:Mem) (a:Act) (w:World),JbO P ops l (ops.toList.drop i)=true→Jme N l=true→JN C l e M κ→Ex B N e M a w→wpOps P ops Q (List.range' i l.length) a w
 | [],i,e,M,a,w,_,_,hk,h=>hQ e M a w hk h
 | x::l,i,e,M,a,w,hc,hd,hk,⟨ρ,h⟩=>by
  cases hdr:ops.toList.drop i with
  | nil=>rw [hdr] at hc;cases hc
  | cons o r=>
   rw [hdr] at hc;simp only [JbO,Bool.and_eq_true] at hc;simp only [Jme,Bool.and_eq_true] at hd;obtain ⟨⟨c1,c2⟩,c3⟩:=hc
   have hget:ops[i]? =some o:=by
    have:ops.toList[i]? =some o:=by
     have:=congrArg (·[0]?) hdr;simpa using this
    simpa using this
   have hrest:ops.toList.drop (i+1)=r:=by
    have:=congrArg (List.drop 1) hdr;simpa [List.drop_drop] using this
   have ih:=Jk8 (ops:=ops) hC hG hQ l (i+1);rw [hrest] at ih;rw [List.length_cons,List.range'_succ,wpOps_cons];unfold wpOp;rw [hget];simp only;rcases Jkk x with ⟨t,b,y,rfl⟩ | ⟨d,y,rfl⟩ | hx
   ·simp only [JN] at hk
    obtain ⟨k1,k2,k3⟩:=hk;obtain ⟨d1,d2⟩:=Jlg c1;have hs:sup y=true∧dOk N (dsO y)=true:=by simpa [okD] using hd.1
    rcases Jkj k1 with kB | kU
    case inr=>
     have hv:=h.env t;rw [kU] at hv;rw [if_neg (by rw [JfF c1 c2 hv.tp0];simp),d1]
     exact ih _ _ _ w c3 hd.2 (k3 (.inr kU)) ⟨ρ,h.put hs.2 (.refl ρ) VE.undef h.mem⟩
    obtain ⟨b',hb1,hb2⟩:=JpR h kB;have hw:=Jep c1 c2 hb2;by_cases hbb:b'=b
    ·subst hbb
     rw [if_pos (by rw [hw];simp)]
     obtain ⟨k4,k5⟩:=k2 hb1;exact .inl (step_ok hC hG hs.1 hs.2 d1 d2 k4 h fun a' w' hx=>ih _ _ a' w' c3 hd.2 k5 hx)
    ·rw [if_neg (by rw [hw];simpa using hbb)]
     have hbn:look e t= .b (!b):=by rw [hb1];congr 1;cases b<;>cases b'<;>simp_all
     rw [d1];exact ih _ _ _ w c3 hd.2 (k3 (.inl hbn)) ⟨ρ,h.put hs.2 (.refl ρ) VE.undef h.mem⟩
   ·rw [if_pos (Je4 rfl c1)]
    simp only [JN] at hk;obtain ⟨k1,k2,k3⟩:=hk;rw [JfP rfl] at c1;simp only [Bool.and_eq_true,beq_iff_eq] at c1;have hdn:dOk N (some d)=true:=hd.1;refine .inl (JoW c1.2 k1 (Jsg h.env h.mem hG _) h.mem _ Q fun v w' hv=> ?_)
    rcases hv with ⟨j,j1,j2,ρ',h1,h2,h3⟩ | ⟨j1,ρ',h1,h2,h3⟩
    ·exact ih _ _ _ w' c3 hd.2 (k2 j j1 j2) ⟨ρ',by rw [c1.1.2];exact h.put (ds:=some d) hdn h1 h2 h3⟩
    ·exact ih _ _ _ w' c3 hd.2 (k3 j1) ⟨ρ',by rw [c1.1.2];exact h.put (ds:=some d) hdn h1 h2 h3⟩
   ·rw [if_pos (Je4 (Js6 hx) c1)]
    rw [Jv hx] at hk;rw [JfP (Js6 hx)] at c1;simp only [Bool.and_eq_true,beq_iff_eq] at c1;rw [JoJ hx] at hd;have hs:sup x=true∧dOk N (dsO x)=true:=by simpa using hd.1
    exact .inl (step_ok hC hG hs.1 hs.2 c1.1.2 c1.2 hk.1 h fun a' w' hx=>ih _ _ a' w' c3 hd.2 hk.2 hx)
theorem Ja2 {ops:Array Oper}: ∀ {l:List O} {m:List Oper},JbO P ops l m=true→l.length=m.length
 | [],[],_=>rfl
 | x::l,o::m,h=>by
  simp only [JbO,Bool.and_eq_true] at h;simp [Ja2 h.2]
 | [],_::_,h=>by simp [JbO] at h
 | _::_,[],h=>by simp [JbO] at h
theorem JpJ {id:Nat} {ops:Array Oper} {Q:Exit→Act→World→Prop} {κ:Env→Mem→Prop} {l:List O} (hC:Yj P C) (hG:B.G=P.globals.size) (hQ: ∀ e M a w,κ e M→Ex B N e M a w→Q .normal a w)
  (hc:JbO P ops l ops.toList=true) (hd:Jme N l=true) (hk:JN C l e M κ) (h:Ex B N e M a w):(Code.region id ops false).wp P Q a w:=by
 have:=Jk8 hC hG hQ l 0 e M a w (by simpa using hc) hd hk h
 rw [Ja2 hc,Array.length_toList] at this;refine wp_region ?_
 rw [List.range_eq_range'];exact this
end
section
variable {κ β:Type} [DecidableEq κ]
def wrt:List (Option κ×β)→Nat→(Nat→Bool)→κ→β→β
 | [],_,_,_,d=>d
 | (ds,v)::r,i,L,t,d=>wrt r (i+1) L t (if L i=true∧ds=some t then v else d)
theorem Yr {t:κ}: ∀ {l:List (Option κ×β)} {i:Nat} {L L':Nat→Bool} {d:β},(∀ j v,l[j]? =some (some t,v)→L (i+j)=L' (i+j))→wrt l i L t d=wrt l i L' t d
 | [],_,_,_,_,_=>rfl
 | (ds,v)::r,i,L,L',d,h=>by
  simp only [wrt]
  have h0:(if L i=true∧ds=some t then v else d)=(if L' i=true∧ds=some t then v else d):=by
   by_cases e:ds=some t
   ·subst e
    have:=h 0 v rfl;rw [Nat.add_zero] at this;rw [this]
   ·rw [if_neg (fun x=>e x.2),if_neg (fun x=>e x.2)]
  rw [h0]
  exact Yr fun j v' hj=>by
   have:=h (j+1) v' (by simpa using hj)
   rwa [show i+1+j=i+(j+1) by omega]
theorem Jbu {t:κ}: ∀ {l:List (Option κ×β)} {i:Nat} {L:Nat→Bool} {d:β},(∀ j v,l[j]? =some (some t,v)→L (i+j)=false)→wrt l i L t d=d
 | [],_,_,_,_=>rfl
 | (ds,v)::r,i,L,d,h=>by
  simp only [wrt]
  have h0:(if L i=true∧ds=some t then v else d)=d:=by
   by_cases e:ds=some t
   ·subst e
    have:=h 0 v rfl;rw [Nat.add_zero] at this;simp [this]
   ·rw [if_neg (fun x=>e x.2)]
  rw [h0]
  exact Jbu fun j v' hj=>by
   have:=h (j+1) v' (by simpa using hj)
   rwa [show i+1+j=i+(j+1) by omega]
theorem JdP {t:κ} {v:β}: ∀ {l:List (Option κ×β)} {i k:Nat} {L:Nat→Bool} {d:β},l[k]? =some (some t,v)→L (i+k)=true→(∀ j v,k < j→l[j]? =some (some t,v)→L (i+j)=false)→wrt l i L t d=v
 | [],_,_,_,_,h,_,_=>by simp at h
 | (ds,v')::r,i,0,L,d,h,hL,hn=>by
  simp only [List.getElem?_cons_zero,Option.some.injEq,Prod.mk.injEq] at h;simp only [wrt];rw [if_pos ⟨by simpa using hL,h.1⟩,h.2]
  exact Jbu fun j v' hj=>by
   have:=hn (j+1) v' (by omega) (by simpa using hj)
   rwa [show i+1+j=i+(j+1) by omega]
 | (ds,v')::r,i,k+1,L,d,h,hL,hn=>by
  simp only [wrt]
  exact JdP (by simpa using h) (by rwa [show i+1+k=i+(k+1) by omega]) fun j v' hk hj=>by
   have:=hn (j+1) v' (by omega) (by simpa using hj)
   rwa [show i+1+j=i+(j+1) by omega]
end
def Jwa:O→Bool
 | .st .. | .ap .. | .cp .. | .nx .. | .rsm .. | .nxm .. | .en .. =>true
 | _=>false
def Jxf:O→Bool
 | .lal .. | .lbx .. | .lbs .. | .rs .. =>true
 | _=>false
def JwX:O→Bool
 | .csb .. | .al .. | .bx .. | .bs .. | .mk .. | .cl .. | .cv .. | .mkm .. | .mu .. | .dl .. =>true
 | _=>false
def isE:Bool→O→Bool
 | false,o=>Jwa o||Jxf o
 | true,o=>Jwa o||JwX o
def Jlb (o:O):Bool:=isE false o||isE true o
theorem JiL {pt:Bool} {o:O} (h:isE pt o=true):Jlb o=true:=by cases pt<;>simp [Jlb,h]
def prj:Bool→Mem→Mem
 | false,M=>⟨M.l,M.g,⟨0,fun _=> .no⟩⟩
 | true,M=>⟨[],0,M.h⟩
theorem JkP {A M:Mem} (h: ∀ pt,prj pt A=prj pt M):A=M:=by
 obtain ⟨l,g,h0⟩:=A;obtain ⟨l',g',h1⟩:=M;have h2:=h false;have h3:=h true;simp only [prj,Mem.mk.injEq] at h2 h3;obtain ⟨rfl,rfl,-⟩:=h2;obtain ⟨-,-,rfl⟩:=h3;rfl
def inn:O→O
 | .gd _ _ y=>y
 | y=>y
section
variable {P:Program} {B:Base} {C:Tab} {M M':Mem} {e:Env}
theorem JhA {pt:Bool} {x:O} (h:isE pt x=false):prj pt (mmO C e M x)=prj pt M:=by
 cases pt<;>cases x<;>first | rfl | exact Bool.noConfusion (show true=false from h) | (simp only [mmO,Jfd];split<;>first | rfl | (split<;>rfl))
theorem JiJ {pt:Bool} {x:O} {A:Mem} (he:isE pt x=true) (hm:isE (!pt) x=false) (h:prj pt A=prj pt M):
  okO C e A x=okO C e M x∧vlO C e A x=vlO C e M x∧prj pt (mmO C e A x)=prj pt (mmO C e M x):=by
 obtain ⟨l,g,h0⟩:=A;obtain ⟨l',g',h1⟩:=M;cases pt
 ·simp only [prj,Mem.mk.injEq] at h
  obtain ⟨rfl,rfl,-⟩:=h;cases x<;>first | exact ⟨rfl,rfl,rfl⟩ | exact Bool.noConfusion (show false=true from he) | exact Bool.noConfusion (show true=false from hm)
 ·simp only [prj,Mem.mk.injEq] at h
  obtain ⟨-,-,rfl⟩:=h;cases x<;>first | exact ⟨rfl,rfl,rfl⟩ | exact Bool.noConfusion (show false=true from he) | exact Bool.noConfusion (show true=false from hm) | (refine ⟨rfl,rfl,?_⟩;simp only [mmO,Jfd,Yq];split<;>rfl)
theorem JpZ {x:O} {A:Mem} (h: ∀ pt,isE pt x=true→prj pt A=prj pt M) (he:Jlb x=true):
  okO C e A x=okO C e M x∧vlO C e A x=vlO C e M x∧ ∀ pt,isE pt x=true→prj pt (mmO C e A x)=prj pt (mmO C e M x):=by
 cases h1:isE false x
 ·have h2:isE true x=true:=by simpa [Jlb,h1] using he
  obtain ⟨a,b,c⟩:=JiJ (pt:=true) (C:=C) (e:=e) h2 h1 (h true h2);exact ⟨a,b,fun pt hp=>by cases pt;rw [h1] at hp;cases hp;exact c⟩
 ·cases h2:isE true x
  ·obtain ⟨a,b,c⟩:=JiJ (pt:=false) (C:=C) (e:=e) h1 h2 (h false h1)
   exact ⟨a,b,fun pt hp=>by cases pt;exact c;rw [h2] at hp;cases hp⟩
  ·have:A=M:=JkP fun pt=>by cases pt;exact h false h1;exact h true h2
   subst this;exact ⟨rfl,rfl,fun _ _=>rfl⟩
theorem Jqb (C:Tab) (e:Env) {x:O} (h:J6 x=true): ∃ pt,∀ A M,prj pt A=prj pt M→okO C e A x=okO C e M x∧vlO C e A x=vlO C e M x:=by
 have tr: ∀ {A M:Mem},prj true A=prj true M→A.h=M.h:=fun {A M} h=>by simp only [prj,Mem.mk.injEq] at h;exact h.2.2
 have fl: ∀ {A M:Mem},prj false A=prj false M→A.l=M.l:=fun {A M} h=>by simp only [prj,Mem.mk.injEq] at h;exact h.1
 cases x<;>try exact Bool.noConfusion (show false=true from h)
 case ld d y n=>
  cases hv:evT e y;case la=>exact ⟨false,fun A M hh=>by have hh:=fl hh;simp only [okO,vlO,hv,ldC,ldX,ldV,Mem.hasL,Mem.getL,hh];cases n<;>(try rename_i n;cases n)<;>exact ⟨by first | rfl | trivial,by first | rfl | trivial⟩⟩
  all_goals exact ⟨true,fun A M hh=>by have hh:=tr hh;simp only [okO,vlO,hv,ldC,ldX,ldV,hh];first | exact ⟨trivial,trivial⟩ | (cases n<;>(try rename_i n;cases n)<;>exact ⟨by first | rfl | trivial,by first | rfl | trivial⟩)⟩
 all_goals exact ⟨true,fun A M hh=>by have hh:=tr hh;simp only [okO,vlO,hh];exact ⟨by first | rfl | trivial,by first | rfl | trivial⟩⟩
theorem Jnq {x:O} (h:Jlb x=false) (h':J6 x=false) (hg:Jm8 x=false):okO C e M x=okO C e M' x∧vlO C e M x=vlO C e M' x:=by
 cases x<;>first | exact ⟨rfl,rfl⟩ | exact Bool.noConfusion (show true=false from h) | exact Bool.noConfusion (show true=false from h') | exact Bool.noConfusion (show true=false from hg)
end
structure Tr where
 o:O
 on:Bool
 e:Env
 M:Mem
 cf:List Nat
 kp:Bool
def Tr.v (C:Tab) (x:Tr):AV:=if x.on then vlO C x.e x.M (inn x.o) else .tp []
def Tr.m (C:Tab) (x:Tr):Mem:=if x.on then mmO C x.e x.M (inn x.o) else x.M
def Tr.ok (C:Tab) (x:Tr):Prop:=match x.o with
 | .gd t b y=>(look x.e t= .b b∧x.on=true∧okO C x.e x.M y)∨(Jim b (look x.e t)∧x.on=false)
 | y=>x.on=true∧okO C x.e x.M y
def Tr.lg (x:Tr) (i:Nat) (lg:List Lg):List Lg:=if x.on then Qb x.kp i (inn x.o) x.e x.M lg else lg
def trace (C:Tab):Nat→List Lg→List PO→Env→Mem→List Tr→Env→Mem→Prop
 | _,_,[],e,M,T,e',M'=>T=[]∧e'=e∧M'=M
 | i,lg,p::l,e,M,T,e',M'=> ∃ x r,T=x::r∧x.o=p.o∧x.cf=p.cf∧x.kp=p.kp∧x.e=e∧x.M=M∧x.ok C∧(x.on=true→cfC C lg (inn x.o) e M x.cf)∧
   trace C (i+1) (x.lg i lg) l (J3 (dsO x.o) (x.v C) e) (x.m C) r e' M'
section
variable {C:Tab}
theorem Jol {x:O} (h:Jm8 x=false):inn x=x:=by
 cases x<;>first | rfl | cases h
theorem Tr.ok_ng {x:Tr} (h:Jm8 x.o=false):x.ok C=(x.on=true∧okO C x.e x.M x.o):=by
 unfold Tr.ok;cases hx:x.o<;>rw [hx] at h<;>first | rfl | cases h
theorem JkH (x:O):dsO x=dsO (inn x):=by cases x<;>rfl
theorem JdG {κ:Env→Mem→Prop}: ∀ (l:List PO) (i:Nat) (lg:List Lg) (e:Env) (M:Mem),JZ C i lg l e M κ→ ∃ T e' M',trace C i lg l e M T e' M'∧κ e' M'
 | [],i,lg,e,M,h=>⟨[],e,M,⟨rfl,rfl,rfl⟩,h⟩
 | ⟨o,cf,kp⟩::l,i,lg,e,M,h=>by
  rcases Jl0 o with ⟨t,b,y,rfl⟩ | ho
  ·simp only [JZ] at h
   obtain ⟨h1,h2,h3⟩:=h
   have hoff:Jim b (look e t)→ ∃ T e' M',trace C i lg (⟨.gd t b y,cf,kp⟩::l) e M T e' M'∧κ e' M':=fun ho=>by
    obtain ⟨T,e',M',r1,r2⟩:=JdG l (i+1) _ _ _ (h3 ho);exact ⟨⟨.gd t b y,false,e,M,cf,kp⟩::T,e',M',⟨_,T,rfl,rfl,rfl,rfl,rfl,rfl,.inr ⟨ho,rfl⟩,fun h=>Bool.noConfusion h,r1⟩,r2⟩
   rcases Jkj h1 with h1 | h1
   case inr=>exact hoff (.inr h1)
   have hb: ∃ b',look e t= .b b':=by
    cases hl:look e t<;>rw [hl] at h1<;>first | exact ⟨_,rfl⟩ | cases h1
   obtain ⟨b',hb⟩:=hb;by_cases hbb:b'=b
   ·subst hbb
    obtain ⟨k1,k2,k3⟩:=h2 hb;obtain ⟨T,e',M',r1,r2⟩:=JdG l (i+1) _ _ _ k3;exact ⟨⟨.gd t b' y,true,e,M,cf,kp⟩::T,e',M',⟨_,T,rfl,rfl,rfl,rfl,rfl,rfl,.inl ⟨hb,rfl,k1⟩,fun _=>k2,r1⟩,r2⟩
   ·have hbn:look e t= .b (!b):=by rw [hb];congr 1;cases b<;>cases b'<;>simp_all
    exact hoff (.inl hbn)
  ·rw [Jw ho] at h
   obtain ⟨k1,k2,k3⟩:=h;obtain ⟨T,e',M',r1,r2⟩:=JdG l (i+1) _ _ _ k3;have hi:=Jol ho;refine ⟨⟨o,true,e,M,cf,kp⟩::T,e',M',⟨_,T,rfl,rfl,rfl,rfl,rfl,rfl,?_,fun _=>by simp only;rw [hi];exact k2,?_⟩,r2⟩
   ·rw [Tr.ok_ng ho];exact ⟨rfl,k1⟩
   ·simp only [Tr.lg,Tr.v,Tr.m,if_true,hi];exact r1
def ws (C:Tab) (T:List Tr):List (Option Nat×AV):=T.map fun x=>(dsO x.o,x.v C)
def wm (pt:Bool) (C:Tab) (T:List Tr):List (Option Unit×Mem):=T.map fun x=>(if x.on&&isE pt (inn x.o) then some () else none,prj pt (x.m C))
theorem Tr.m_same {pt:Bool} {x:Tr} (h:(x.on&&isE pt (inn x.o))=false):prj pt (x.m C)=prj pt x.M:=by
 unfold Tr.m;cases hon:x.on
 ·rfl
 ·rw [hon] at h
  exact JhA (by simpa using h)
theorem Jcn: ∀ (l:List PO) (T:List Tr) (i:Nat) (lg:List Lg) (e:Env) (M:Mem) (e':Env) (M':Mem),trace C i lg l e M T e' M'→
  T.length=l.length∧(∀ t L,(∀ j,i≤j→L j=true)→look e' t=wrt (ws C T) i L t (look e t))∧(∀ pt L,(∀ j,i≤j→L j=true)→prj pt M'=wrt (wm pt C T) i L () (prj pt M))∧
  ∀ j x,T[j]? =some x→(∃ p,l[j]? =some p∧x.o=p.o∧x.cf=p.cf∧x.kp=p.kp)∧x.ok C∧(∀ t,look x.e t=wrt (ws C T) i (fun k=>decide (k < i+j)) t (look e t))∧ ∀ pt,prj pt x.M=wrt (wm pt C T) i (fun k=>decide (k < i+j)) () (prj pt M)
 | [],T,i,lg,e,M,e',M',h=>by
  obtain ⟨rfl,rfl,rfl⟩:=h;exact ⟨rfl,fun _ _ _=>rfl,fun _ _ _=>rfl,fun j x hx=>by simp at hx⟩
 | p::l,T,i,lg,e,M,e',M',h=>by
  obtain ⟨x,r,rfl,h1,h2,h3,rfl,rfl,h6,h7,h8⟩:=h;obtain ⟨q1,q2,q3,q4⟩:=Jcn l r (i+1) _ _ _ e' M' h8
  have step: ∀ t,look (J3 (dsO x.o) (x.v C) x.e) t=if dsO x.o=some t then x.v C else look x.e t:=fun t=>by
   cases hd:dsO x.o with
   | none=>simp [J3]
   | some d=>simp [J3,look]
  have stepM: ∀ pt,prj pt (x.m C)=if (if (x.on&&isE pt (inn x.o))=true then some () else none:Option Unit)=some () then prj pt (x.m C) else prj pt x.M:=fun pt=>by
   by_cases hh:(x.on&&isE pt (inn x.o))=true
   ·simp [hh]
   ·rw [if_neg (by simp [hh])];exact Tr.m_same (by simpa using hh)
  refine ⟨by simp [q1],fun t L hL=> ?_,fun pt L hL=> ?_,fun j y hy=> ?_⟩
  ·rw [q2 t L fun j hj=>hL j (by omega),step]
   simp only [ws,List.map_cons,wrt];simp [hL i (Nat.le_refl _)]
  ·rw [q3 pt L fun j hj=>hL j (by omega)]
   simp only [wm,List.map_cons,wrt];congr 1
   simp only [hL i (Nat.le_refl _),true_and];exact stepM pt
  ·cases j with
   | zero=>
    have hxy:x=y:=by simpa using hy
    subst hxy;refine ⟨⟨p,rfl,h1,h2,h3⟩,h6,fun t=>(Jbu fun k v _=>by simp).symm,fun pt=>(Jbu fun k v _=>by simp).symm⟩
   | succ j=>
    obtain ⟨s1,s2,s3,s4⟩:=q4 j y (by simpa using hy)
    refine ⟨by simpa using s1,s2,fun t=> ?_,fun pt=> ?_⟩
    ·rw [s3 t,step]
     simp only [ws,List.map_cons,wrt];have:decide (i < i+(j+1))=true:=by simp
     simp only [this,true_and,show i+1+j=i+(j+1) by omega]
    ·rw [s4 pt,stepM pt]
     simp only [wm,List.map_cons,wrt];have:decide (i < i+(j+1))=true:=by simp
     simp only [this,true_and,show i+1+j=i+(j+1) by omega]
end
def edg (o:Oper):List Nat:=(o.after.toList.filter fun e=>Region.binds .any e).map (·.on)
def mask (acc:List Nat):List Nat→Nat
 | []=>0
 | k::r=>(2 ^ k||| acc.getD k 0) ||| mask acc r
def Jhk:List Opd→List Nat
 | []=>[]
 | .t n::r=>n::Jhk r
 | _::r=>Jhk r
def looks:O→List Nat
 | .gd t _ y=>t::Jhk (Jrp y)
 | y=>Jhk (Jrp y)
def apart (x y:O):Bool:=
 (match dsO x with
  | some d=> !JdN (looks y) d&&dsO y != some d
  | none=>true) &&
 (match dsO y with
  | some d=> !JdN (looks x) d
  | none=>true)
def JaW (i:Nat) (x y:PO):Bool:=
 apart x.o y.o&& (!(isE false (inn x.o) &&isE false (inn y.o)) && !(isE true (inn x.o) &&isE true (inn y.o))) && (if (J6 (inn x.o) &&Jlb (inn y.o)) || (Jlb (inn x.o) &&J6 (inn y.o)) then JdN y.cf i&&x.kp else true)
def Jhr (m:Nat) (y:PO):Nat→List PO→Bool
 | _,[]=>true
 | i,x::r=>(m.testBit i||JaW i x y) &&Jhr m y (i+1) r
def JjO:Nat→List PO→List Nat→List PO→List Oper→Bool
 | j,pre,acc,y::l,o::r=>(edg o).all (fun k=>decide (k < j)) &&Jhr (mask acc (edg o)) y 0 pre&&JjO (j+1) (pre++[y]) (acc++[mask acc (edg o)]) l r
 | _,_,_,[],[]=>true
 | _,_,_,_,_=>false
inductive Bef (ops:List Oper):Nat→Nat→Prop
 | edge {i j:Nat} {o:Oper}:ops[j]? =some o→i∈edg o→Bef ops i j
 | step {i k j:Nat} {o:Oper}:ops[j]? =some o→k∈edg o→Bef ops i k→Bef ops i j
theorem Jhz {acc:List Nat} {i:Nat}: ∀ {l:List Nat},(mask acc l).testBit i=true→ ∃ k,k∈l∧(i=k∨(acc.getD k 0).testBit i=true)
 | [],h=>by simp [mask] at h
 | k::r,h=>by
  simp only [mask,Nat.testBit_or,Bool.or_eq_true] at h;rcases h with (h | h) | h
  ·rw [Nat.testBit_two_pow] at h
   exact ⟨k,by simp,.inl (by simpa using h:k=i).symm⟩
  ·exact ⟨k,by simp,.inr h⟩
  ·obtain ⟨k',h1,h2⟩:=Jhz h
   exact ⟨k',by simp [h1],h2⟩
theorem Jet {m:Nat} {y:PO}: ∀ {l:List PO} {i:Nat},Jhr m y i l=true→ ∀ j x,l[j]? =some x→m.testBit (i+j)=true∨JaW (i+j) x y=true
 | [],_,_,j,x,hx=>by simp at hx
 | z::r,i,h,0,x,hx=>by
  simp only [Jhr,Bool.and_eq_true,Bool.or_eq_true] at h;have:z=x:=by simpa using hx
  subst this;exact h.1
 | z::r,i,h,j+1,x,hx=>by
  simp only [Jhr,Bool.and_eq_true] at h;have:=Jet h.2 j x (by simpa using hx)
  rwa [show i+1+j=i+(j+1) by omega] at this
theorem JgF {all:List PO} {ops:List Oper}: ∀ (l:List PO) (r:List Oper) (j:Nat) (pre:List PO) (acc:List Nat),all=pre++l→ops.drop j=r→pre.length=j→acc.length=j→(∀ k,k < j→ ∀ i,(acc.getD k 0).testBit i=true→Bef ops i k)→
  JjO j pre acc l r=true→ ∀ j' y o,j≤j'→all[j']? =some y→ops[j']? =some o→(∀ k,k∈edg o→k < j')∧ ∀ i x,i < j'→all[i]? =some x→Bef ops i j'∨JaW i x y=true
 | [],r,j,pre,acc,ha,_,hp,_,_,_,j',y,o,hj,hy,_=>by
  rw [ha,List.append_nil] at hy;have:=(List.getElem?_eq_some_iff.1 hy).1;omega
 | y0::l,[],j,pre,acc,_,_,_,_,_,hg,_,_,_,_,_,_=>by simp [JjO] at hg
 | y0::l,o0::r,j,pre,acc,ha,hr,hp,hl,hacc,hg,j',y,o,hj,hy,ho=>by
  simp only [JjO,Bool.and_eq_true] at hg;obtain ⟨⟨g1,g2⟩,g3⟩:=hg
  have ho0:ops[j]? =some o0:=by
   have:=congrArg (·[0]?) hr;simpa using this
  have hk: ∀ k,k∈edg o0→k < j:=fun k hk=>by simpa using List.all_eq_true.1 g1 k hk
  have hm: ∀ i,(mask acc (edg o0)).testBit i=true→Bef ops i j:=fun i hi=>by
   obtain ⟨k,k1,k2⟩:=Jhz hi;rcases k2 with rfl | k2
   ·exact .edge ho0 k1
   ·exact .step ho0 k1 (hacc k (hk k k1) i k2)
  by_cases e:j'=j
  ·subst e
   have e1:y0=y:=by
    rw [ha,List.getElem?_append_right (by omega),hp,Nat.sub_self] at hy
    simpa using hy
   have e2:o0=o:=by rw [ho0] at ho;exact Option.some.inj ho
   subst e1 e2;refine ⟨hk,fun i x hi hx=> ?_⟩
   rw [ha,List.getElem?_append_left (by omega)] at hx
   have:=Jet g2 i x hx;rw [Nat.zero_add] at this;exact this.imp_left (hm i)
  ·refine JgF l r (j+1) (pre++[y0]) (acc++[mask acc (edg o0)]) (by rw [ha];simp) ?_ (by simp [hp]) (by simp [hl]) ?_ g3 j' y o (by omega) hy ho
   ·have:=congrArg (List.drop 1) hr
    simpa [List.drop_drop] using this
   ·intro k hk' i hi
    by_cases ek:k=j
    ·subst ek
     have:(acc++[mask acc (edg o0)]).getD k 0=mask acc (edg o0):=by simp [←hl]
     rw [this] at hi;exact hm i hi
    ·have:(acc++[mask acc (edg o0)]).getD k 0=acc.getD k 0:=by
      simp only [List.getD];rw [List.getElem?_append_left (by omega)]
     rw [this] at hi;exact hacc k (by omega) i hi
section
variable {C:Tab}
theorem JfX: ∀ (l:List PO) (T:List Tr) (i:Nat) (lg:List Lg) (e:Env) (M:Mem) (e':Env) (M':Mem),trace C i lg l e M T e' M'→
  ∀ j x,T[j]? =some x→x.on=true→ ∃ lg',cfC C lg' (inn x.o) x.e x.M x.cf∧(∀ k y,k < j→T[k]? =some y→y.on=true→y.kp=true→Qs lg' (i+k)=some ⟨i+k,inn y.o,y.e,y.M⟩)∧(∀ m,m < i→Qs lg' m=Qs lg m)
 | [],T,i,lg,e,M,e',M',h,j,x,hx,_=>by
  obtain ⟨rfl,-,-⟩:=h;simp at hx
 | p::l,T,i,lg,e,M,e',M',h,j,x,hx,hon=>by
  obtain ⟨y,r,rfl,h1,h2,h3,rfl,rfl,h6,h7,h8⟩:=h;cases j with
  | zero=>
   have:y=x:=by simpa using hx
   subst this;exact ⟨lg,h7 hon,fun k z hk=>by omega,fun _ _=>rfl⟩
  | succ j=>
   obtain ⟨lg',q1,q2,q3⟩:=JfX l r (i+1) _ _ _ e' M' h8 j x (by simpa using hx) hon
   refine ⟨lg',q1,fun k z hk hz hzo hzk=> ?_,fun m hm=> ?_⟩
   ·cases k with
    | zero=>
     have:y=z:=by simpa using hz
     subst this;rw [Nat.add_zero,q3 i (by omega)]
     simp [Tr.lg,Qb,hzo,hzk,Qs]
    | succ k=>
     have:=q2 k z (by omega) (by simpa using hz) hzo hzk
     rwa [show i+1+k=i+(k+1) by omega] at this
   ·rw [q3 m (by omega)]
    unfold Tr.lg Qb;split
    ·split
     ·simp only [Qs]
      rw [if_neg (by omega)]
     ·rfl
    ·rfl
theorem Jlq {lg:List Lg} {o:O} {e:Env} {M:Mem} {k:Nat} {x:Lg} (hx:Qs lg k=some x): ∀ {cf:List Nat},cfC C lg o e M cf→JdN cf k=true→
  (J6 o=true→okO C e x.M o∧vlO C e x.M o=vlO C e M o)∧(J6 o=false→okO C x.e (mmO C e M o) x.o∧vlO C x.e (mmO C e M o) x.o=vlO C x.e x.M x.o)
 | [],_,hm=>by cases hm
 | i::r,h,hm=>by
  simp only [cfC] at h;simp only [JdN] at hm;by_cases e1:i=k
  ·subst e1
   have h1:=h.1;rw [hx] at h1;simp only at h1;refine ⟨fun hr=> ?_,fun hr=> ?_⟩
   ·rw [if_pos hr] at h1;exact h1
   ·rw [if_neg (by simp [hr])] at h1;exact h1
  ·rw [if_neg e1] at hm
   exact Jlq hx h.2 hm
end
theorem Jg0 {l:List Nat} {n:Nat}:JdN l n=true↔n∈l:=by
 induction l with
 | nil=>simp [JdN]
 | cons m r ih=>
  simp only [JdN];by_cases e:m=n
  ·simp [e]
  ·rw [if_neg e,ih]
   simp only [List.mem_cons];constructor
   ·exact .inr
   ·rintro (h | h)
    ·exact absurd h.symm e
    ·exact h
theorem Jhi {t:Nat}: ∀ {l:List Opd},Opd.t t∈l→t∈Jhk l
 | [],h=>by cases h
 | x::r,h=>by
  rcases List.mem_cons.1 h with rfl | h
  ·simp [Jhk]
  ·have:=Jhi h
   cases x<;>simp [Jhk,this]
theorem Jlj {x:O} (h:Jlb x=true):J6 x=false:=by
 cases x<;>first | rfl | exact Bool.noConfusion (show false=true from h)
theorem JcG {i:Nat} {x y:PO} (h:JaW i x y=true):(∀ d,dsO x.o=some d→ ¬ d∈looks y.o∧dsO y.o≠some d)∧(∀ d,dsO y.o=some d→ ¬ d∈looks x.o):=by
 simp only [JaW,Bool.and_eq_true,apart] at h;obtain ⟨⟨⟨h1,h2⟩,-⟩,-⟩:=h;refine ⟨fun d hd=> ?_,fun d hd=> ?_⟩
 ·rw [hd] at h1
  simp only [Bool.and_eq_true,Bool.not_eq_true',bne_iff_ne] at h1;exact ⟨fun hm=>(by rw [Jg0.2 hm] at h1;cases h1.1),h1.2⟩
 ·rw [hd] at h2
  simp only [Bool.not_eq_true'] at h2;exact fun hm=>by rw [Jg0.2 hm] at h2;cases h2
theorem Jgt {i:Nat} {x y:PO} (h:JaW i x y=true) (pt:Bool): ¬ (isE pt (inn x.o)=true∧isE pt (inn y.o)=true):=by
 simp only [JaW,Bool.and_eq_true,Bool.not_eq_true'] at h;rintro ⟨h1,h2⟩;cases pt<;>rw [h1,h2] at h
 ·cases h.1.2.1
 ·cases h.1.2.2
theorem JkL {i:Nat} {x y:PO} (h:JaW i x y=true) (hr:(J6 (inn x.o)=true∧Jlb (inn y.o)=true)∨(Jlb (inn x.o)=true∧J6 (inn y.o)=true)):JdN y.cf i=true∧x.kp=true:=by
 simp only [JaW,Bool.and_eq_true] at h;have h3:=h.2;rw [if_pos (by rcases hr with ⟨h1,h2⟩ | ⟨h1,h2⟩<;>simp [h1,h2])] at h3
 simpa using h3
end Go.Vm
