import Derived.Test.YtgoalfkgbiblgaaGreatDoorKb0
import Derived.Laws.MakeOwn
import Derived.Laws.BytesString
import Derived.Laws.Append
import Derived.Laws.AppendOwn
/- Rows of cells: cut, joined, loaded, stored. -/
set_option linter.unusedVariables false
set_option linter.unusedSimpArgs false
namespace Go.Vm
def splice {α:Type} (l:List α) (k:Nat) (m:List α):List α:=l.take k++m++l.drop (k+m.length)
section
variable {α β:Type}
theorem XK {l:List α} {k:Nat} {m:List α} (h:k+m.length≤l.length):(splice l k m).length=l.length:=by
 simp [splice];omega
theorem JjN (l:List α) (k:Nat):splice l k []=l:=by simp [splice]
theorem JbK {l:List α} {k o:Nat} {m:List α} (h:o≤l.length):(splice l (o+k) m).drop o=splice (l.drop o) k m:=by
 have h1:l.take (o+k)=l.take o++(l.drop o).take k:=List.take_add;simp only [splice,h1,List.append_assoc];rw [List.drop_append_of_le_length (by simp;omega),List.drop_of_length_le (by simp;omega),List.nil_append,List.drop_drop]
 congr 3;omega
theorem JdZ {l:List α} {k n:Nat} {m:List α} (h:k+m.length≤n) (hl:k≤l.length):(splice l k m).take n=splice (l.take n) k m:=by
 simp only [splice];rw [List.append_assoc,List.take_append,List.take_append,List.take_take,List.take_take,Nat.min_eq_right (by omega),Nat.min_eq_left (by omega)]
 simp only [List.length_take,Nat.min_eq_left hl];rw [List.take_of_length_le (l:=m) (by omega),List.append_assoc]
 congr 2
 rw [List.drop_take];congr 1;omega
theorem Jfh {l:List α} {k n:Nat} {m:List α} (h:n≤k) (hl:k≤l.length):(splice l k m).take n=l.take n:=by
 simp only [splice];rw [List.append_assoc,List.take_append_of_le_length (by simp;omega),List.take_take,Nat.min_eq_left h]
theorem JjK {l:List α} {k:Nat} {m:List α} (hl:k≤l.length):((splice l k m).drop k).take m.length=m:=by
 simp only [splice];rw [List.append_assoc,List.drop_append_of_le_length (by simp;omega),List.drop_of_length_le (by simp;omega),List.nil_append,List.take_left]
theorem Jbq {l:List α} {k:Nat} {m:List α} {x:α} (h:x∈splice l k m):x∈l∨x∈m:=by
 simp only [splice,List.mem_append] at h;rcases h with (h | h) | h
 ·exact .inl (List.mem_of_mem_take h)
 ·exact .inr h
 ·exact .inl (List.mem_of_mem_drop h)
theorem JO.splice {R:α→β→Prop} {l:List α} {m:List β} {k:Nat} {x:List α} {y:List β} (h:JO R l m) (h':JO R x y):JO R (splice l k x) (splice m k y):=by
 unfold Vm.splice;rw [h'.len];exact ((h.take k).append h').append (h.drop _)
end
theorem Jfv (cs:List AV) (off:Nat) (v:AV):Wu cs off v=splice cs off v.cells:=rfl
def flatV (v:AV):Prop:= ∀ y,y∈v.cells→y.cells=[y]
theorem V1.flatV {ρ:Rn} {a:AV} {v:Value} (h:V1 ρ a v):Vm.flatV a:=by
 intro y hy;obtain ⟨i,hi⟩:=List.getElem?_of_mem hy;obtain ⟨u,-,hu⟩:=h.cells.get i y hi;exact hu.one.2.2
theorem JeR {x v:AV} {off:Nat} (hv:flatV v) (h:off+v.cells.length≤x.cells.length):(Wt x off v).cells=splice x.cells off v.cells:=by
 by_cases hx: ∃ cs,x= .ag cs
 ·obtain ⟨cs,rfl⟩:=hx;rfl
 ·have hc:x.cells=[x]:=by cases x<;>first | rfl | exact absurd ⟨_,rfl⟩ hx
  have he:Wt x off v=(match v.cells with | [y]=>y | _=>x):=by cases x<;>first | rfl | exact absurd ⟨_,rfl⟩ hx
  rw [he,hc];rw [hc] at h;cases hvc:v.cells with
  | nil=>simp only;rw [hc];simp [splice]
  | cons y r=>
   cases r with
   | nil=>
    rw [hvc] at h;have h0:off=0:=by simp at h;omega
    subst h0;have:=hv y (by rw [hvc];simp)
    simp only;rw [this];simp [splice]
   | cons y' r'=>rw [hvc] at h;exfalso;simp at h;omega
theorem JfV {z:Nat}: ∀ (ix:Nat) {xs:List AV} {x:AV},(∀ x,x∈xs→x.cells.length=z)→ix < xs.length→x.cells.length=z→flat (xs.set ix x)=splice (flat xs) (ix*z) x.cells
 | 0,y::r,x,h,_,hx=>by
  have hy:=h y (by simp)
  simp only [List.set_cons_zero,flat,splice,Nat.zero_mul,List.take_zero,List.nil_append,Nat.zero_add];rw [hx,←hy,List.drop_left]
 | ix+1,y::r,x,h,hl,hx=>by
  have hy:=h y (by simp)
  simp only [List.set_cons_succ,flat];rw [JfV ix (fun q hq=>h q (by simp [hq])) (by simpa using hl) hx]
  simp only [splice,Nat.add_mul,Nat.one_mul];rw [Nat.add_comm (ix*z) z,Nat.add_assoc,←hy,List.take_length_add_append,List.drop_length_add_append];simp only [List.append_assoc]
 | _,[],_,_,hl,_=>by simp at hl
theorem JgR {α:Type} {l:List α} {k off n:Nat} {m:List α} (hl:k+n≤l.length) (hm:off+m.length≤n):splice l k (splice ((l.drop k).take n) off m)=splice l (k+off) m:=by
 have e1:(splice ((l.drop k).take n) off m).length=n:=by rw [XK (by simp;omega)];simp;omega
 show l.take k++splice ((l.drop k).take n) off m++l.drop (k+(splice ((l.drop k).take n) off m).length)=_
 rw [e1];unfold splice;have h2:l.take (k+off)=l.take k++(l.drop k).take off:=List.take_add;rw [h2,List.take_take,Nat.min_eq_left (by omega),List.drop_take,List.drop_drop]
 simp only [List.append_assoc];congr 3
 have h3:l.drop (k+(off+m.length))=(l.drop (k+(off+m.length))).take (n- (off+m.length))++(l.drop (k+(off+m.length))).drop (n- (off+m.length)):=(List.take_append_drop _ _).symm;rw [show k+off+m.length=k+(off+m.length) by omega]
 conv=>rhs;rw [h3,List.drop_drop]
 rw [show k+(off+m.length)+(n- (off+m.length))=k+n by omega]
theorem JaJ {z ix off:Nat} {xs:List AV} {v:AV} (h: ∀ x,x∈xs→x.cells.length=z) (hi:ix < xs.length) (hv:flatV v) (hf:off+v.cells.length≤(xs.getD ix .u).cells.length):
  flat (xs.set ix (Wt (xs.getD ix .u) off v))=splice (flat xs) (ix*z+off) v.cells∧(Wt (xs.getD ix .u) off v).cells.length=z:=by
 have hg:=Jcc ix h hi
 have hxz:(xs.getD ix .u).cells.length=z:=by
  simp only [List.getD,List.getElem?_eq_getElem hi,Option.getD_some];exact h _ (List.getElem_mem hi)
 have hc:=JeR hv hf;have hlen:(Wt (xs.getD ix .u) off v).cells.length=z:=by rw [hc,XK hf,hxz]
 refine ⟨?_,hlen⟩
 rw [JfV ix h hi hlen,hc,hg];have hfl:=Zm h;have:(ix+1)*z≤xs.length*z:=Nat.mul_le_mul_right z hi;rw [Nat.add_mul,Nat.one_mul] at this;exact JgR (by omega) (by rw [hxz] at hf;exact hf)
section rows
variable {P:Program} {w:World}
theorem JdO {b j:Nat} {c:Array Value} {ty:TypeId} {fz:Nat×Nat} (h:w.heap[b]? =some (.cells c ty fz)):w.cell? ⟨b,j,none⟩=c[j]? :=by
 simp [World.cell?,h]
theorem JaQ {b off n:Nat} {c:Array Value} {ty:TypeId} {fz:Nat×Nat} (hb:w.heap[b]? =some (.cells c ty fz)) (hn:n=0∨off+n≤c.size):
  (loadCells ⟨b,off,none⟩ n).run P w= .ok ((c.toList.drop off).take n).toArray w:=by
 rcases hn with rfl | hn
 ·simp [loadCells,loadCellsFrom]
 have hl:((c.toList.drop off).take n).length=n:=by simp;omega
 have:=run_loadCells_list (P:=P) w ⟨b,off,none⟩ ((c.toList.drop off).take n) (fun j v hj=>by
  rw [Jba,JdO hb];rw [List.getElem?_take] at hj;split at hj
  ·simpa using hj
  ·cases hj)
 rwa [hl] at this
theorem Jaq {ad:Addr} {b off n cap:Nat} {c:Array Value} {ty:TypeId} {fz:Nat×Nat} (had:ad=⟨b,off,none⟩∨cap=0) (hc:n≤cap∨n=0) (hb:w.heap[b]? =some (.cells c ty fz)) (hn:n=0∨off+n≤c.size):
  (loadCells ad n).run P w= .ok ((c.toList.drop off).take n).toArray w:=by
 rcases had with rfl | h0
 ·exact JaQ hb hn
 ·have:n=0:=by omega
  subst this;simp [loadCells,loadCellsFrom]
theorem Jaf {b off:Nat} {ty:TypeId} {fz:Nat×Nat}: ∀ (vs:List Value) (i:Nat) {c:Array Value} {w:World},w.heap[b]? =some (.cells c ty fz)→(∀ j,j < c.size→ ¬ (fz.1≤j∧j < fz.2))→
  off+i+vs.length≤c.size→(∀ v,v∈vs→v.oneCell'=true)→
  (storeCells ⟨b,off,none⟩ vs i).run P w= .ok () (w.setRow b (splice c.toList (off+i) vs).toArray)
 | [],i,c,w,hg,_,_,_=>by
  rw [JjN,Array.toArray_toList,setRow_self w b c ty fz hg];rfl
 | v::rest,i,c,w,hg,hfz,hl,h1=>by
  have hi:off+i < c.size:=by simp at hl;omega
  have hcell:w.cell? ⟨b,off+i,none⟩=some c[off+i]:=by simp [World.cell?,hg,hi]
  have hfro:w.frozen? ⟨b,off+i,none⟩=false:=by
   have:=hfz (off+i) hi;obtain ⟨lo,hi'⟩:=fz;simp only [World.frozen?,hg,Bool.and_eq_false_iff,decide_eq_false_iff_not];simp only at this;omega
  have hst:(store ((⟨b,off,none⟩:Addr).add i) v).run P w= .ok () (w.setRow b (c.setIfInBounds (off+i) v)):=by
   rw [Jba,run_store P w _ v _ (h1 v (by simp)),hcell]
   simp [hfro,setCell_eq_setRow w b (off+i) c ty fz v hg]
  have ih:=Jaf (off:=off) (b:=b) rest (i+1) (c:=c.setIfInBounds (off+i) v) (w:=w.setRow b (c.setIfInBounds (off+i) v)) (setRow_heap w b c _ ty _ hg) (by simpa using hfz) (by simp at hl ⊢;omega) (fun x hx=>h1 x (by simp [hx]))
  simp only [storeCells,Sem.run_bind,hst,Result.andThen_ok,ih,setRow_setRow];congr 3
  have e:=list_seg_step c.toList (off+i) v rest (by simp at hl ⊢;omega)
  simpa [Array.toList_setIfInBounds,splice,Nat.add_assoc] using e
theorem Jbb {ρ:Rn} {t:TypeId} {n:Option Nat} {b o off:Nat} {c:Array Value} {ty:TypeId} {fz:Nat×Nat} {F:List AV} (ht:nT P t=some n) (hb:w.heap[b]? =some (.cells c ty fz))
  (hF:JO (VA ρ) F ((c.toList.drop o).take F.length)) (hlen:o+F.length≤c.size) (hf:JF F off n):
  ∃ v,(loadVar t ⟨b,o+off,none⟩).run P w= .ok v w∧V1 ρ (partOf F off n) v:=by
 cases n with
 | none=>
  have hlt:off < F.length:=hf;obtain ⟨y,hy,hv⟩:=hF.get off F[off] (by simp [hlt])
  refine ⟨y,?_,?_⟩
  ·have hy':c[o+off]? =some y:=by
    rw [List.getElem?_take,if_pos hlt] at hy;simpa using hy
   simp only [loadVar,Sem.run_bind,JbF ht,Result.andThen_ok,Bool.false_eq_true,if_false,run_load,JdO hb,hy']
  ·have e:partOf F off none=F[off]:=by simp [partOf,List.getD,List.getElem?_eq_getElem hlt]
   rw [e];exact V1.of hv
 | some n=>
  have hlt:off+n≤F.length:=hf;refine ⟨.agg ((c.toList.drop (o+off)).take n).toArray,?_,?_⟩
  ·simp [loadVar,Jaw ht,J5 (JgX ht).1,JaQ hb (show n=0∨o+off+n≤c.size from .inr (by omega))]
  ·refine ⟨_,rfl,?_⟩
   have:=(hF.drop off).take n;rw [List.drop_take,List.take_take,List.drop_drop,Nat.min_eq_left (by omega)] at this
   exact this
theorem Jcv {t:TypeId} {n:Nat} {b off:Nat} {c:Array Value} {ty:TypeId} {fz:Nat×Nat} {v:Value} (ht:szT P t=some n) (hb:w.heap[b]? =some (.cells c ty fz)) (hfz: ∀ j,j < c.size→ ¬ (fz.1≤j∧j < fz.2))
  (hn:v.cells.size=n) (hf:off+n≤c.size) (h1: ∀ u,u∈v.cells.toList→u.oneCell'=true):
  (storeVar t ⟨b,off,none⟩ v).run P w= .ok () (w.setRow b (splice c.toList off v.cells.toList).toArray):=by
 have:=Jaf (P:=P) v.cells.toList 0 hb hfz (off:=off) (by simp;omega) h1
 simp only [storeVar,Sem.run_bind,J5 ht,Result.andThen_ok,hn,ne_eq,not_true,if_false];simpa using this
end rows
theorem JO.ones {ρ:Rn}: ∀ {l:List AV} {m:List Value},JO (VA ρ) l m→ ∀ u,u∈m→u.oneCell'=true
 | x::r,y::q,h,u,hu=>by
  rcases List.mem_cons.1 hu with rfl | hu
  ·exact h.1.one.1
  ·exact JO.ones h.2 u hu
 | [],[],_,_,hu=>by cases hu
 | [],_::_,h,_,_=>h.elim
 | _::_,[],h,_,_=>h.elim
theorem foldl_set (vs:List Value): ∀ (off i:Nat) (cells:Array Value),off+i+vs.length≤cells.size→
  ((vs.zipIdx i).foldl (fun cs (x:Value×Nat)=>cs.setIfInBounds (off+x.2) x.1) cells).toList=splice cells.toList (off+i) vs:=by
 induction vs with
 | nil=>intro off i cells _;simp [splice]
 | cons v r ih=>
  intro off i cells h;simp only [List.zipIdx_cons,List.foldl_cons];rw [ih off (i+1) (cells.setIfInBounds (off+i) v) (by simp at h ⊢;omega)]
  have e:=list_seg_step cells.toList (off+i) v r (by simp at h ⊢;omega)
  simpa [Array.toList_setIfInBounds,splice,Nat.add_assoc] using e
theorem JgN (v:Value) (off:Nat) (cells:Array Value) (h:off+v.cells.size≤cells.size):
  (v.cells.zipIdx.foldl (fun cs (x:Value×Nat)=>cs.setIfInBounds (off+x.2) x.1) cells).toList=splice cells.toList off v.cells.toList:=by
 have:=foldl_set v.cells.toList off 0 cells (by simpa using h)
 rw [←Array.foldl_toList,Array.toList_zipIdx];simpa using this
theorem Jha {place:Nat→Option (Nat×Nat)} {cells:Array Value} {i off size:Nat} {v:Value} {rest:List (Nat×Value)} (hp:place i=some (off,size)) (h1:v.cells.size=size) (h2:off+size≤cells.size):
  Instr.fill place cells ((i,v)::rest)=Instr.fill place (splice cells.toList off v.cells.toList).toArray rest:=by
 have hsz: ¬ (v.cells.size≠size||off+v.cells.size > cells.size)=true:=by simp;omega
 rw [Instr.fill,hp];simp only;rw [if_neg (by simpa using hsz)]
 congr 1
 apply Array.ext'
 rw [List.toList_toArray,←JgN v off cells (by omega)]
section heap
variable {ρ:Rn} {H:AH} {w:World} {id st z:Nat} {rw:Bool} {xs:List AV} {p:Pl}
theorem JjX (h:J7 ρ H w) (hp:p∈ρ.pl id):id < H.n:=by
 rcases Nat.lt_or_ge id H.n with hl | hl
 ·exact hl
 ·rw [(h.fr id hl).1] at hp;cases hp
theorem JbG (h:J7 ρ H w) (hp:p∈ρ.pl id) (ho:H.at' id= .arr rw st z xs):
  (∀ x,x∈xs→x.cells.length=z)∧ ∃ p0 rest,JqU ρ w id rw st z xs p0 rest∧p.z=z∧p.s≤p.x∧p.x≤xs.length∧(p.x=xs.length→p=p0)∧(p=p0∨st≠2→Jf4 ρ w p xs rw)∧(st=0→p=p0):=by
 have hr:=h.rep id (JjX h hp);rw [ho] at hr;obtain ⟨hz,p0,rest,hA⟩:=hr;refine ⟨hz,p0,rest,hA,?_⟩
 rw [hA.hpl] at hp;rcases List.mem_cons.1 hp with rfl | hp
 ·exact ⟨hA.hz,hA.hs,by rw [hA.hx];exact Nat.le_refl _,fun _=>rfl,fun _=>hA.hv,fun _=>rfl⟩
 ·obtain ⟨h1,h2,h3,h4,h5⟩:=hA.hrest p hp
  refine ⟨h1,h3,by omega,fun e=>by omega,fun e=> ?_,fun e=> ?_⟩
  ·rcases e with rfl | e
   ·exact absurd rfl h4
   ·exact h5 e
  ·rw [(hA.hst0 e).1] at hp;cases hp
theorem JfR {ix len:Nat} {v:Value} (h:J7 ρ H w) (hv:VP ρ (.sl id ix len) v) (hk:Jid H (.sl id ix len)):
  ∃ rw st z xs b off cap c ty fz,H.at' id= .arr rw st z xs∧(∀ x,x∈xs→x.cells.length=z)∧(∃ ad:Addr,(ad=⟨b,off,none⟩∨cap=0)∧v= .slice (some ad) len cap)∧len≤cap∧w.heap[b]? =some (.cells c ty fz)∧(cap=0∨off+cap*z≤c.size)∧
   JO (VA ρ) (flat (Yk H (.sl id ix len))) ((c.toList.drop off).take (len*z)):=by
 obtain ⟨p,q1,q2,q3,off,cap,q4,q5,q6,hv⟩:=hv;simp only [Jid] at hk;split at hk
 ·rename_i rw st z xs ho
  obtain ⟨hz,p0,rest,hA,k1,k2,k3,k4,k5,k6⟩:=JbG h q1 ho
  have hval:Jf4 ρ w p xs rw:=k5 (by
   by_cases e:st=2
   ·exact .inl (k4 (by have:=hk.2 e;omega))
   ·exact .inr e)
  obtain ⟨c,ty,fz,v1,v2,v3,v4,v5⟩:=hval;refine ⟨rw,st,z,xs,p.b,off,cap,c,ty,fz,ho,hz,hv,q4,v1,by rw [v2,←k1];exact q6,?_⟩
  simp only [Yk,ho];rcases Nat.eq_zero_or_pos len with rfl | hpos
  ·simp [flat,JO]
  ·have hoff:off=p.o+(ix-p.s)*p.z:=by rcases q5 with q5 | ⟨q5,-⟩<;>omega
   have ht:(told p xs).drop (ix-p.s)=(xs.take p.x).drop ix:=by
    simp only [told,List.drop_drop];congr 1;omega
   have hz': ∀ x,x∈told p xs→x.cells.length=p.z:=fun x hx=>by rw [k1];exact hz x (List.mem_of_mem_take (List.mem_of_mem_drop hx))
   have hz'': ∀ x,x∈(xs.take p.x).drop ix→x.cells.length=p.z:=fun x hx=>by rw [k1];exact hz x (List.mem_of_mem_take (List.mem_of_mem_drop hx))
   have e1:(xs.drop ix).take len=((xs.take p.x).drop ix).take len:=by
    rw [List.drop_take,List.take_take,Nat.min_eq_left (by omega)]
   have:=(v5.drop ((ix-p.s)*p.z)).take (len*p.z)
   rw [←Jbe _ hz',ht,←JaF _ hz'',←e1,List.drop_take,List.take_take,List.drop_drop,←hoff,Nat.min_eq_left (by
    rw [←Nat.sub_mul];exact Nat.mul_le_mul_right _ (by omega)),k1] at this
   exact this
 ·exact hk.elim
theorem Jk3 (h:J7 ρ H w) {ix len:Nat} (hp:p∈ρ.pl id) (hk:slZ H z (.sl id ix len)): ∃ rw st xs,H.at' id= .arr rw st z xs:=by
 simp only [slZ] at hk;split at hk
 ·rename_i rw st z' xs ho;subst hk;exact ⟨rw,st,xs,ho⟩
 ·exact hk.elim
end heap
section ops
variable {P:Program} {B:Base} {C:Tab} {ρ:Rn} {M:Mem} {w:World} {e:Env} {a:Act} {o:Oper}
theorem Jeo: ∀ {l:List AV} {m:List Value},JjY l→JO (VA ρ) (flat l) m→ ∃ ns:List Int,m=ns.map (Value.int .u8)∧l=ns.map (AV.i .u8)
 | [],[],_,_=>⟨[],rfl,rfl⟩
 | x::r,m,hu,h=>by
  obtain ⟨⟨n,rfl⟩,hr⟩:=hu;cases m with
  | nil=>exact h.elim
  | cons y q=>
   obtain ⟨h1,h2⟩:=(h:VA ρ (.i .u8 n) y∧JO (VA ρ) (flat r) q);obtain ⟨ns,e1,e2⟩:=Jeo hr h2;exact ⟨n::ns,by rw [e1];simp only [List.map_cons];rw [show y=Value.int .u8 n from h1],by rw [e2];rfl⟩
 | [],_::_,_,h=>h.elim
theorem Jj0 (ns:List Int): ∀ s:ByteArray,(ns.foldl (fun r n=>r.push (UInt8.ofNat n.toNat)) s)=⟨(s.data.toList++Jmi (ns.map (AV.i .u8))).toArray⟩:=by
 induction ns with
 | nil=>intro s;simp [Jmi]
 | cons n r ih=>
  intro s;rw [List.foldl_cons,ih];apply ByteArray.ext
  apply Array.ext'
  simp [ByteArray.push,Jmi,AV.toI]
theorem Jp1 {d:Nat} {x:Opd} (hc:Jy P (.cbs d x) o.op=true) (hk:Jid M.h (evT e x)∧slZ M.h 1 (evT e x)∧JjY (Yk M.h (evT e x))) (hE:OE P ρ e a [x]) (hm:Qt B ρ M w):
  Sim P o a w (Out B ρ M (.s (Jmi (Yk M.h (evT e x))))):=by
 simp only [Jy] at hc;split at hc
 ·rename_i s t x' ho
  simp only [Bool.and_eq_true] at hc;obtain ⟨⟨h1,h2⟩,h3⟩:=hc;obtain ⟨el,hu,hue⟩:=Jft h2;have hut:=Jbl h3;obtain ⟨k1,k2,k3⟩:=hk;have hx:=hE x x' (by simp) h1
  generalize evT e x=X at*;cases X<;>simp only [Jid] at k1
  case ns=>
   have hx':a.eval x'= .slice none 0 0:=hx;refine Sim.value (v:= .string .empty) ?_ (Out.same (VE.of (V2.of (V1.of (VA.of (show _=_ from rfl))))) hm)
   simp [execOp,ho,hx',run_convert_bytes_string w s t el none 0 0 hu hue hut,Conv.bytesToString]
  case sl id ix len=>
   obtain ⟨rw,st,z,xs,b,off,cap,c,ty,fz,q1,q2,q3,q4,q5,q6,q7⟩:=JfR hm.heap (hx:VP ρ (.sl ..) _) k1;have hz1:z=1:=by simp only [slZ,q1] at k2;exact k2
   subst hz1;obtain ⟨ns,e1,e2⟩:=Jeo k3 q7;obtain ⟨ad,had,q3⟩:=q3;have hl:=Jaq (P:=P) (n:=len) (off:=off) had (.inl q4) q5 (by omega)
   rw [Nat.mul_one] at e1;rw [e1] at hl;have hr:=run_bytesToString w ad len cap ns hl;refine Sim.value (v:= .string ⟨(Jmi (Yk M.h (.sl id ix len))).toArray⟩) ?_ (Out.same (VE.of (V2.of (V1.of (VA.of (show _=_ from rfl))))) hm)
   simp only [execOp,ho,q3,Sem.run_bind,run_convert_bytes_string w s t el _ _ _ hu hue hut,hr,Result.andThen_ok,Jj0,e2];rfl
 ·cases hc
theorem Jjd (l:List UInt8): ∀ x,x∈XR l→x.cells.length=1:=by
 intro x hx;obtain ⟨b,-,rfl⟩:=List.mem_map.1 hx;rfl
theorem Jbt: ∀ l:List UInt8,flat (XR l)=XR l
 | []=>rfl
 | b::r=>by
  have:=Jbt r;simp only [XR,List.map_cons,flat] at*;rw [this];rfl
theorem Jdx: ∀ l:List UInt8,JO (VA ρ) (XR l) (l.map fun b=>Value.int .u8 b.toNat)
 | []=>trivial
 | b::r=>⟨rfl,Jdx r⟩
theorem Qt.newArr {w':World} (hm:Qt B ρ M w) (c:Array Value) (ty:TypeId) (fz:Nat×Nat) (z:Nat) (xs:List AV)
  (hsz:w'.heap.size=w.heap.size+1) (hold: ∀ b,b < w.heap.size→w'.heap[b]? =w.heap[b]?) (hnew:w'.heap[w.heap.size]? =some (.cells c ty fz)) (hos:w'.os=w.os) (htp:w'.tape=w.tape) (hou:w'.output=w.output)
  (hfz: ∀ i,i < c.size→ ¬ (fz.1≤i∧i < fz.2)) (hz: ∀ x,x∈xs→x.cells.length=z) (hc:xs.length*z≤c.size) (hxs:JO (VA ρ) (flat xs) (c.toList.take (xs.length*z))):
  Qt B (ρ.newP M.h.n ⟨w.heap.size,0,z,0,xs.length,c.size⟩) ⟨M.l,M.g,M.h.new (.arr true 0 z xs)⟩ w'∧ρ.LeL (ρ.newP M.h.n ⟨w.heap.size,0,z,0,xs.length,c.size⟩)∧
   ⟨w.heap.size,0,z,0,xs.length,c.size⟩∈(ρ.newP M.h.n ⟨w.heap.size,0,z,0,xs.length,c.size⟩).pl M.h.n:=by
 obtain ⟨h1,h2⟩:=hm.heap.newArr c ty fz z xs hsz hold hnew hfz hz hc hxs;refine ⟨⟨h1,fun t g k vs hv=> ?_,hm.lof,hm.loi,fun t g b z' hl=> ?_,hm.le.trans h2.toLe,fun b hb hn=> ?_,fun b hb=> ?_,by have:=hm.sz;omega,hos.trans hm.os,htp.trans hm.tape,hou.trans hm.out,fun g hg=> ?_⟩,h2,by simp [Rn.newP]⟩
 ·obtain ⟨b,z',hl,hr⟩:=hm.loc t g k vs hv
  have hb:=(hm.lob _ _ _ _ hl).2.2;refine ⟨b,z',hl,?_⟩
  split at hr
  ·obtain ⟨r1,c',ty',r2,r3,r4⟩:=hr
   exact ⟨r1,c',ty',(hold b hb).trans r2,r3,r4.mono fun _ _=>VA.mono h2.toLe⟩
  ·obtain ⟨l,n,r1,r2⟩:=hr
   exact ⟨l,n,r1,(hold b hb).trans r2⟩
  ·obtain ⟨id,n,seen,m,r1,r2,r3⟩:=hr
   exact ⟨id,n,seen,m,r1,h2.toLe.ob _ _ r2,(hold b hb).trans r3⟩
 ·have hb:=hm.lob t g b z' hl
  refine ⟨?_,hb.2.1,by omega⟩
  simp only [Rn.newP,if_neg (show ¬ b=w.heap.size by omega)]
  exact hb.1
 ·have:=hm.sz
  rw [hold b (by omega)];exact hm.frame b hb hn
 ·have:=hm.sz
  simp only [Rn.newP,if_neg (show ¬ b=w.heap.size by omega)]
  exact hm.own b hb
 ·obtain ⟨p,p1,p2,p3,p4⟩:=hm.glob g hg
  obtain ⟨p',k1,k2,k3,k4,k5,-⟩:=h2.pl g p p1;exact ⟨p',k1,k2.trans p2,k3.trans p3,k5.trans p4⟩
theorem Jlc (w:World) (a:Addr) (n:Nat):(w.freeze a n).os=w.os:=by unfold World.freeze;split<;>rfl
theorem Jin (w:World) (a:Addr) (n:Nat):(w.freeze a n).tape=w.tape:=by unfold World.freeze;split<;>rfl
theorem JjV (w:World) (a:Addr) (n:Nat):(w.freeze a n).output=w.output:=by unfold World.freeze;split<;>rfl
theorem Jb7 (hm:Qt B ρ M w) {t g b z:Nat} (hl:ρ.lo t g=some (b,z)) (hk:M.hasL t g 0=true):
  (∀ x,x∈M.getL t g 0→x.cells.length=z)∧ ∃ c ty,w.heap[b]? =some (.cells c ty (0,0))∧c.size=(M.getL t g 0).length*z∧JO (VA ρ) (flat (M.getL t g 0)) c.toList:=by
 obtain ⟨xs,hxs⟩:=Option.isSome_iff_exists.1 (show (Qx M.l t g 0).isSome=true from hk)
 have hg:M.getL t g 0=xs:=by simp [Mem.getL,hxs]
 obtain ⟨b',z',hl',hr⟩:=hm.loc t g 0 xs hxs;rw [hl] at hl';cases hl';rw [hg];exact hr
theorem JpS {d:Nat} {x:Opd} (hc:Jy P (.csb d x) o.op=true) (hk:(evT e x).isS=true) (hE:OE P ρ e a [x]) (hm:Qt B ρ M w):
  Sim P o a w (Out B ρ ⟨M.l,M.g,M.h.new (.arr true 0 1 (XR (evT e x).toS))⟩ (.sl M.h.n 0 (evT e x).toS.length)):=by
 simp only [Jy] at hc;split at hc
 ·rename_i s t x' ho
  simp only [Bool.and_eq_true] at hc;obtain ⟨⟨h1,h2⟩,h3⟩:=hc;obtain ⟨el,hu,hue⟩:=Jft h3;have hus:=Jbl h2;have hx:=((hE x x' (by simp) h1).str hk).2
  generalize (evT e x).toS=l at*;have hcap:l.length≤(Question.appendCap l.length 0 el).cut (w.tape w.drawn (.appendCap l.length 0 el)):=by simp only [Question.cut];omega
  generalize hcapn:(Question.appendCap l.length 0 el).cut (w.tape w.drawn (.appendCap l.length 0 el))=cap at hcap;let c:Array Value:=(l.map fun b=>Value.int .u8 b.toNat).toArray++Array.replicate (cap-l.length) (.int .u8 0)
  have hcs:c.size=cap:=by simp [c];omega
  have hrun:(execOp a.eval o).run P w= .ok (.value (.slice (some ⟨w.heap.size,0,none⟩) l.length cap)) ((w.drew.alloc (.cells c el)).freeze ⟨w.heap.size,cap,none⟩ 1):=by
   have hsh:(w.drew.alloc (.cells c el)).shape? w.heap.size=some (el,cap):=by
    simp only [World.shape?];rw [show w.heap.size=w.drew.heap.size from rfl,heap_alloc_new]
    simp [hcs]
   simp only [execOp,ho,hx,Sem.run_bind,convert,JD hus,JD hu,JD hue,Result.andThen_ok,Conv.stringToBytes,run_choose,JbY,Question.forced,Bool.false_eq_true,if_false,hcapn,newRow];simp only [run_newObj,Result.andThen_ok,markStringish];have hsame:(⟨l.toArray⟩:ByteArray).data.map (fun b=>Value.int .u8 b.toNat)++Array.replicate (cap-l.length) (Value.int .u8 0)=c:=by simp [c]
   rw [hsame];have hw:({heap:=w.heap.push (.cells c el),tape:=w.tape,drawn:=w.drawn+1,os:=w.os,output:=w.output}:World)=w.drew.alloc (.cells c el):=rfl;rw [hw];simp only [Sem.run_bind,Sem.run_pure,run_shape,Result.andThen_ok,hsh,run_freeze]
  have hnew:((w.drew.alloc (.cells c el)).freeze ⟨w.heap.size,cap,none⟩ 1).heap[w.heap.size]? =some (.cells c el (cap,cap+1)):=by
   have:=heap_alloc_new w.drew (.cells c el);rw [show w.drew.heap.size=w.heap.size from rfl] at this
   simp only [World.freeze,Nat.one_ne_zero,if_false,Array.getElem?_modify,if_true,this];simp
  have hold: ∀ b,b < w.heap.size→((w.drew.alloc (.cells c el)).freeze ⟨w.heap.size,cap,none⟩ 1).heap[b]? =w.heap[b]? :=by
   intro b hb;have:=JP w.drew (.cells c el) b hb;simp only [World.freeze,Nat.one_ne_zero,if_false,Array.getElem?_modify];rw [if_neg (by omega)]
   exact this
  have hsz:((w.drew.alloc (.cells c el)).freeze ⟨w.heap.size,cap,none⟩ 1).heap.size=w.heap.size+1:=by simp [World.freeze]
  obtain ⟨hm',hle,hp⟩:=hm.newArr c el (cap,cap+1) 1 (XR l) hsz hold hnew (Jlc _ _ _) (Jin _ _ _) (JjV _ _ _)
   (fun i hi=>by simp only;omega) (Jjd l) (by simp [XR,hcs];exact hcap) (by
    rw [Jbt];have e1:c.toList.take ((XR l).length*1)=l.map fun b=>Value.int .u8 b.toNat:=by simp [c,XR]
    rw [e1];exact Jdx l)
  refine Sim.value hrun ⟨_,hle,VE.of (V2.of (V1.of (VA.of (show VP _ (.sl M.h.n 0 l.length) _ from ⟨_,hp,Nat.le_refl _,by simp [XR],0,cap,hcap,.inl (by simp),.inr (by simp [hcs]),_,.inl rfl,rfl⟩)))),hm'⟩
 ·cases hc
theorem JjC {t:TypeId} {n:Option Nat} {X:AV} {V:Value} (ht:nT P t=some n) (hk:ldC M n X) (hx:VE ρ X V) (hm:Qt B ρ M w):
  ∃ ad v,V= .pointer (some ad)∧(loadVar t ad).run P w= .ok v w∧V1 ρ (ldX M n X) v:=by
 ·
  cases X<;>simp only [ldC] at hk
  case pv id off=>
   obtain ⟨p,q1,q2,hx'⟩:=(hx:VP ρ (.pv ..) _);by_cases hn0:n=some 0
   ·subst hn0
    refine ⟨_,.agg #[],hx',?_,(⟨#[],rfl,trivial⟩:V1 ρ (.ag []) (.agg #[]))⟩
    simp [loadVar,Jaw ht,J5 (JgX ht).1,loadCells,loadCellsFrom]
   ·rcases hk with hk | hk
    ·exact absurd hk hn0
    ·have hX:ldX M n (.pv id off)=ldV M n (.pv id off):=by
      unfold ldX;split
      ·exact absurd rfl hn0
      ·rfl
     rw [hX];simp only [ldV];split at hk
     ·rename_i rw st z xs hob
      obtain ⟨hst,hf⟩:=hk;obtain ⟨hz,p0,rest,hA,k1,k2,k3,k4,k5,k6⟩:=JbG hm.heap q1 hob;have hpp:=k6 hst;obtain ⟨c,ty,fz,v1,v2,v3,v4,v5⟩:=k5 (.inl hpp);have hpx:p.x=xs.length:=by rw [hpp];exact hA.hx
      have ht':told p xs=xs:=by simp [told,q2,hpx]
      have hfl:=Zm hz;rw [ht',q2,hpx,k1,Nat.sub_zero,←hfl] at v5;rw [q2,hpx,k1,Nat.sub_zero,←hfl,←v2] at v4;obtain ⟨v,r1,r2⟩:=Jbb (P:=P) (off:=off) ht v1 v5 v4 hf;exact ⟨_,v,hx',r1,r2⟩
     ·exact hk.elim
  case pe id ix off ext=>
   obtain ⟨p,q1,q2,q3,q4,hx'⟩:=(hx:VP ρ (.pe ..) _);have hX:ldX M n (.pe id ix off ext)=ldV M n (.pe id ix off ext):=by unfold ldX;split<;>first | rfl | (rename_i h;cases h)
   rw [hX];simp only [ldV];split at hk
   ·rename_i rw st z xs hob
    obtain ⟨hst,hix,hf⟩:=hk;obtain ⟨hz,p0,rest,hA,k1,k2,k3,k4,k5,k6⟩:=JbG hm.heap q1 hob
    obtain ⟨c,ty,fz,v1,v2,v3,v4,v5⟩:=k5 (by
     by_cases e2:st=2
     ·exact .inl (k4 (by have:=hst e2;omega))
     ·exact .inr e2)
    have hcl:(xs.getD ix .u).cells.length=z:=by simp only [List.getD,List.getElem?_eq_getElem hix,Option.getD_some];exact hz _ (List.getElem_mem hix)
    have hz': ∀ x,x∈told p xs→x.cells.length=p.z:=fun x hx=>by rw [k1];exact hz x (List.mem_of_mem_take (List.mem_of_mem_drop hx))
    have hti:ix-p.s < (told p xs).length:=by simp [told];omega
    have hel:(told p xs).getD (ix-p.s) .u=xs.getD ix .u:=by
     simp only [told,List.getD,List.getElem?_drop,List.getElem?_take];rw [if_pos (by omega),show p.s+(ix-p.s)=ix by omega]
    have hcells:=Jcc (ix-p.s) hz' hti;rw [hel] at hcells;have hrel:=(v5.drop ((ix-p.s)*p.z)).take p.z;have hb1:(ix-p.s+1)*p.z≤(p.x-p.s)*p.z:=Nat.mul_le_mul_right _ (by omega)
    rw [Nat.add_mul,Nat.one_mul] at hb1;rw [←hcells,List.drop_take,List.take_take,List.drop_drop,Nat.min_eq_left (by omega)] at hrel
    rw [show p.z=(xs.getD ix .u).cells.length by rw [hcl,k1]] at hrel
    obtain ⟨v,r1,r2⟩:=Jbb (P:=P) (off:=off) (o:=p.o+(ix-p.s)*p.z) ht v1 (by rw [←hcl] at k1;rw [k1];exact hrel) (by rw [hcl,←k1,v2];omega) hf
    exact ⟨_,v,hx',r1,r2⟩
   ·exact hk.elim
  case la t' g ix off=>
   obtain ⟨b,z,q1,hx'⟩:=hx;have hX:ldX M n (.la t' g ix off)=ldV M n (.la t' g ix off):=by unfold ldX;split<;>first | rfl | (rename_i h;cases h)
   rw [hX];simp only [ldV];obtain ⟨hh,hix,hf⟩:=hk;obtain ⟨hz,c,ty,v1,v2,v3⟩:=Jb7 hm q1 hh;have hcl:((M.getL t' g 0).getD ix .u).cells.length=z:=by simp only [List.getD,List.getElem?_eq_getElem hix,Option.getD_some];exact hz _ (List.getElem_mem hix)
   have hcells:=Jcc ix hz hix;have hrel:=(v3.drop (ix*z)).take z;have hb1:(ix+1)*z≤(M.getL t' g 0).length*z:=Nat.mul_le_mul_right _ hix;rw [Nat.add_mul,Nat.one_mul] at hb1;rw [←hcells] at hrel;generalize hE2:((M.getL t' g 0).getD ix .u)=el at*;obtain ⟨v,r1,r2⟩:=Jbb (P:=P) (off:=off) (o:=ix*z) ht v1 (by rw [hcl];exact hrel) (by rw [hcl,v2];exact hb1) hf
   exact ⟨_,v,hx',r1,r2⟩
theorem Jsd {d:Nat} {x:Opd} {n:Option Nat} (hc:Jy P (.ld d x n) o.op=true) (hk:ldC M n (evT e x)) (hE:OE P ρ e a [x]) (hm:Qt B ρ M w):
  Sim P o a w (Out B ρ M (ldX M n (evT e x))):=by
 simp only [Jy] at hc;split at hc
 ·rename_i t x' ho
  simp only [Bool.and_eq_true,beq_iff_eq] at hc;obtain ⟨h1,ht⟩:=hc;obtain ⟨ad,v,h2,h3,h4⟩:=JjC ht hk (hE x x' (by simp) h1) hm
  refine Sim.value (v:=v) ?_ (Out.same (VE.of (V2.of h4)) hm)
  simp [execOp,ho,h2,Instr.loadAt,Instr.sureAddr,h3]
 ·cases hc
end ops
section ops
variable {P:Program} {B:Base} {C:Tab} {ρ:Rn} {M:Mem} {w:World} {e:Env} {a:Act} {o:Oper}
def Rn.newL (ρ:Rn) (t g b z:Nat):Rn:={ρ with lo:=fun t' g'=>if t'=t∧g'=g then some (b,z) else ρ.lo t' g',own:=fun b'=>if b'=b then .loc else ρ.own b'}
theorem Rn.le_newL {t g b z:Nat} (h:ρ.lo t g=none):ρ.LeL (ρ.newL t g b z):=
 ⟨⟨fun i q hq=>⟨q,hq,rfl,rfl,rfl,rfl,rfl,Nat.le_refl _⟩,fun _ _ h=>h⟩,fun t' g' x hx=>by
  simp only [Rn.newL];rw [if_neg (fun he=>by rw [he.1,he.2,h] at hx;cases hx)]
  exact hx⟩
theorem JcL: ∀ (L:List Lv) (t t' g k:Nat) (xs:List AV),Qx (ZK L t) t' g k=some xs→t'≠t∧Qx L t' g k=some xs
 | [],_,_,_,_,_,h=>by simp [ZK,Qx] at h
 | v::r,t,t',g,k,xs,h=>by
  simp only [ZK] at h;split at h
  ·rename_i h1
   obtain ⟨h2,h3⟩:=JcL r t t' g k xs h;exact ⟨h2,by simp only [Qx];rw [if_neg (by omega)];exact h3⟩
  ·rename_i h1
   simp only [Qx] at h ⊢;split at h
   ·rename_i h2
    rw [if_pos h2];exact ⟨by omega,h⟩
   ·rename_i h2
    rw [if_neg h2];exact JcL r t t' g k xs h
theorem Jho: ∀ (L:List Lv) {t g k:Nat} {xs:List AV},Qx L t g k=some xs→ ∀ (xs':List AV) (t' g' k':Nat) (ys:List AV),Qx (Jhp L t xs') t' g' k'=some ys→(t'=t∧g'=g∧k'=k∧ys=xs')∨(t'≠t∧Qx L t' g' k'=some ys)
 | [],_,_,_,_,h,_,_,_,_,_,_=>by simp [Qx] at h
 | v::r,t,g,k,xs,h,xs',t',g',k',ys,hy=>by
  simp only [Qx] at h;simp only [Jhp] at hy;split at h
  ·rename_i h1
   split at h
   ·rename_i h2
    rw [if_pos h1] at hy;simp only [Qx] at hy ⊢;split at hy
    ·rename_i h3
     split at hy
     ·rename_i h4
      cases hy;exact .inl ⟨by omega,by omega,by omega,rfl⟩
     ·cases hy
    ·rename_i h3
     exact .inr ⟨by omega,by rw [if_neg h3];exact hy⟩
   ·cases h
  ·rename_i h1
   rw [if_neg h1] at hy;simp only [Qx] at hy ⊢;split at hy
   ·rename_i h2
    exact .inr ⟨by omega,by rw [if_pos h2];exact hy⟩
   ·rename_i h2
    rcases Jho r h xs' t' g' k' ys hy with h3 | h3
    ·exact .inl h3
    ·exact .inr ⟨h3.1,by rw [if_neg h2];exact h3.2⟩
theorem Jmc.mono {ρ ρ':Rn} {w w':World} {v:Lv} (h:Jmc ρ w v) (hl:ρ.LeL ρ') (hw: ∀ b z,ρ.lo v.t v.g=some (b,z)→w'.heap[b]? =w.heap[b]?):Jmc ρ' w' v:=by
 obtain ⟨b,z,h1,h2⟩:=h;refine ⟨b,z,hl.lo _ _ _ h1,?_⟩
 split at h2
 ·obtain ⟨r1,c,ty,r2,r3,r4⟩:=h2
  exact ⟨r1,c,ty,(hw b z h1).trans r2,r3,r4.mono fun _ _=>VA.mono hl.toLe⟩
 ·obtain ⟨l,n,r1,r2⟩:=h2
  exact ⟨l,n,r1,(hw b z h1).trans r2⟩
 ·obtain ⟨id,n,seen,m,r1,r2,r3⟩:=h2
  exact ⟨id,n,seen,m,r1,hl.ob _ _ r2,(hw b z h1).trans r3⟩
theorem Qt.glob_of {ρ':Rn} (hm:Qt B ρ M w) (h2:ρ.LeL ρ'): ∀ g,g < B.G→ ∃ p,p∈ρ'.pl g∧p.b=g∧p.o=0∧p.s=0:=fun g hg=>by
 obtain ⟨p,p1,p2,p3,p4⟩:=hm.glob g hg;obtain ⟨p',k1,k2,k3,k4,k5,-⟩:=h2.pl g p p1;exact ⟨p',k1,k2.trans p2,k3.trans p3,k5.trans p4⟩
theorem Qt.newLoc {w':World} (hm:Qt B ρ M w) (t k z:Nat) (xs:List AV)
  (hsz:w'.heap.size=w.heap.size+1) (hold: ∀ b,b < w.heap.size→w'.heap[b]? =w.heap[b]?) (hos:w'.os=w.os) (htp:w'.tape=w.tape) (hou:w'.output=w.output)
  (hnew:Jmc (ρ.newL t M.g w.heap.size z) w' ⟨t,M.g,k,xs⟩):
  Qt B (ρ.newL t M.g w.heap.size z) (M.newL t k xs) w'∧ρ.LeL (ρ.newL t M.g w.heap.size z)∧(ρ.newL t M.g w.heap.size z).lo t M.g=some (w.heap.size,z):=by
 have hle:ρ.LeL (ρ.newL t M.g w.heap.size z):=Rn.le_newL (hm.lof t M.g (Nat.le_refl _));refine ⟨⟨?_,fun t' g' k' ys hv=> ?_,fun t' g' hg=> ?_,fun t1 g1 t2 g2 b z1 z2 h1 h2=> ?_,fun t' g' b z' hl=> ?_,hm.le.trans hle.toLe,fun b hb hn=> ?_,fun b hb=> ?_,by have:=hm.sz;omega,hos.trans hm.os,htp.trans hm.tape,hou.trans hm.out,hm.glob_of hle⟩,hle,by simp [Rn.newL]⟩
 ·exact hm.heap.of hle.toLe rfl rfl (by omega) (fun b hb hn=>⟨by simp only [Rn.newL];rw [if_neg (by omega)],hold b hb⟩)
   (fun b hb=>by simp only [Rn.newL];rw [if_neg (by omega)];exact hm.heap.bnd b (by omega))
   (fun b id hid=>by
    simp only [Rn.newL] at hid;split at hid
    ·cases hid
    ·exact hid)
 ·simp only [Mem.newL,Qx] at hv
  split at hv
  ·rename_i h1
   split at hv
   ·rename_i h2
    cases hv;rw [←h1,←h2.1,←h2.2];exact hnew
   ·cases hv
  ·exact (hm.loc t' g' k' ys (JcL _ _ _ _ _ _ hv).2).mono hle fun b z' hl=>hold b (hm.lob _ _ _ _ hl).2.2
 ·have hg':M.g+1≤g':=hg
  simp only [Rn.newL];rw [if_neg (by omega)]
  exact hm.lof t' g' (by omega)
 ·simp only [Rn.newL] at h1 h2
  split at h1<;>split at h2
  ·rename_i a1 a2;exact ⟨a1.1.trans a2.1.symm,a1.2.trans a2.2.symm⟩
  ·cases h1;have:=(hm.lob _ _ _ _ h2).2.2;omega
  ·cases h2;have:=(hm.lob _ _ _ _ h1).2.2;omega
  ·exact hm.loi _ _ _ _ _ _ _ h1 h2
 ·simp only [Rn.newL] at hl ⊢
  split at hl
  ·cases hl
   exact ⟨if_pos rfl,hm.sz,by omega⟩
  ·have hb:=hm.lob _ _ _ _ hl
   exact ⟨by rw [if_neg (by omega)];exact hb.1,hb.2.1,by omega⟩
 ·have:=hm.sz
  rw [hold b (by omega)];exact hm.frame b hb hn
 ·have:=hm.sz
  simp only [Rn.newL];rw [if_neg (by omega)]
  exact hm.own b hb
theorem Qt.setLoc {w':World} (hm:Qt B ρ M w) {t g k b z:Nat} {xs xs':List AV} (hl:ρ.lo t g=some (b,z)) (hk:Qx M.l t g k=some xs)
  (hsz:w'.heap.size=w.heap.size) (hold: ∀ b',b'≠b→w'.heap[b']? =w.heap[b']?) (hos:w'.os=w.os) (htp:w'.tape=w.tape) (hou:w'.output=w.output)
  (hnew:Jmc ρ w' ⟨t,g,k,xs'⟩):Qt B ρ ⟨Jhp M.l t xs',M.g,M.h⟩ w':=by
 have hb:=hm.lob _ _ _ _ hl;refine ⟨?_,fun t' g' k' ys hv=> ?_,hm.lof,hm.loi,fun t' g' b' z' hl'=>by rw [hsz];exact hm.lob _ _ _ _ hl',hm.le,fun b' hb' hn=> ?_,hm.own,by rw [hsz];exact hm.sz,hos.trans hm.os,htp.trans hm.tape,hou.trans hm.out,hm.glob⟩
 ·exact hm.heap.of (.refl ρ) rfl rfl (by omega) (fun b' hb' hn=>⟨rfl,hold b' fun e=>hn (by rw [e];exact hb.1)⟩) (fun b' hb'=>hm.heap.bnd b' (by omega)) fun _ _ h=>h
 ·rcases Jho _ hk xs' t' g' k' ys hv with ⟨rfl,rfl,rfl,rfl⟩ | ⟨hne,hv⟩
  ·exact hnew
  ·refine (hm.loc _ _ _ _ hv).mono (.refl ρ) fun b' z' hl'=>hold b' fun e=>hne ?_
   subst e;exact (hm.loi _ _ _ _ _ _ _ hl' hl).1
 ·rw [hold b' (by omega)];exact hm.frame b' hb' hn
theorem Ji2 {place:Nat→Option (Nat×Nat)}: ∀ (parts:List (Nat×Nat×Opd)) (ps:List (Nat×Operand)) (F:List AV) (cells:Array Value),Jbm P place parts ps=true→JH e F.length parts→
  (∀ q,q∈parts→ ∀ z,Wo P q.2.2 z=true→VE ρ (evT e q.2.2) (a.eval z))→JO (VA ρ) F cells.toList→
  ∃ cells',Instr.fill place cells (ps.map fun x=>(x.1,a.eval x.2))=some cells'∧JO (VA ρ) (JG e F parts) cells'.toList
 | [],[],F,cells,_,_,_,h=>⟨cells,rfl,h⟩
 | (off,sz,x)::r,(i,y)::q,F,cells,hc,hk,hE,h=>by
  simp only [Jbm,Bool.and_eq_true,beq_iff_eq] at hc;obtain ⟨⟨h1,h2⟩,h3⟩:=hc;obtain ⟨⟨k1,k2,k3⟩,k4⟩:=hk;have hv:=(hE (off,sz,x) (by simp) y h2).out k3
  have hlen:=h.len;have hsz:(a.eval y).cells.size=sz:=by rw [←hv.size];exact k1
  have hF:(Wu F off (evT e x)).length=F.length:=by rw [Jfv,XK (by omega)]
  obtain ⟨cells',e1,e2⟩:=Ji2 r q (Wu F off (evT e x)) (splice cells.toList off (a.eval y).cells.toList).toArray h3 (by rw [hF];exact k4) (fun p hp=>hE p (by simp [hp]))
   (by rw [List.toList_toArray];exact h.splice hv.cells)
  refine ⟨cells',?_,e2⟩
  rw [List.map_cons,Jha h1 hsz (by rw [hlen] at k2;simpa using k2)]
  exact e1
 | [],_::_,_,_,hc,_,_,_=>by simp [Jbm] at hc
 | _::_,[],_,_,hc,_,_,_=>by simp [Jbm] at hc
theorem Jeg {z:Nat}: ∀ (parts:List (Nat×Opd)) (ps:List (Nat×Operand)) (xs:List AV) (cells:Array Value),Jc7 P parts ps=true→JE e z xs.length parts→
  (∀ q,q∈parts→ ∀ y,Wo P q.2 y=true→VE ρ (evT e q.2) (a.eval y))→(∀ x,x∈xs→x.cells.length=z)→JO (VA ρ) (flat xs) cells.toList→
  ∃ cells',Instr.fill (fun i=>some (i*z,z)) cells (ps.map fun x=>(x.1,a.eval x.2))=some cells'∧JO (VA ρ) (flat (JQ e xs parts)) cells'.toList∧(∀ x,x∈JQ e xs parts→x.cells.length=z)∧(JQ e xs parts).length=xs.length
 | [],[],xs,cells,_,_,_,hz,h=>⟨cells,rfl,h,hz,rfl⟩
 | (i,x)::r,(j,y)::q,xs,cells,hc,hk,hE,hz,h=>by
  simp only [Jc7,Bool.and_eq_true,beq_iff_eq] at hc;obtain ⟨⟨rfl,h2⟩,h3⟩:=hc;obtain ⟨⟨k1,k2,k3⟩,k4⟩:=hk;have hv:=(hE (i,x) (by simp) y h2).out k3
  have hlen:=h.len;have hfl:=Zm hz;have hsz:(a.eval y).cells.size=z:=by rw [←hv.size];exact k1
  have hb:(i+1)*z≤xs.length*z:=Nat.mul_le_mul_right _ k2;rw [Nat.add_mul,Nat.one_mul] at hb
  have hz': ∀ u',u'∈xs.set i (evT e x)→u'.cells.length=z:=fun u' hu=>by
   rcases List.mem_or_eq_of_mem_set hu with hu | rfl
   ·exact hz u' hu
   ·exact k1
  obtain ⟨cells',e1,e2,e3,e4⟩:=Jeg r q (xs.set i (evT e x)) (splice cells.toList (i*z) (a.eval y).cells.toList).toArray h3 (by simpa using k4) (fun p hp=>hE p (by simp [hp])) hz'
   (by rw [List.toList_toArray,JfV i hz k2 k1];exact h.splice hv.cells)
  refine ⟨cells',?_,e2,e3,e4.trans (by simp)⟩
  rw [List.map_cons,Jha (off:=i*z) (size:=z) rfl hsz (by rw [←Array.length_toList,←hlen,hfl];exact hb)]
  exact e1
 | [],_::_,_,_,hc,_,_,_,_=>by simp [Jc7] at hc
 | _::_,[],_,_,hc,_,_,_,_=>by simp [Jc7] at hc
def Jka:List (Nat×Nat×Opd)→List Opd
 | []=>[]
 | (_,_,x)::r=>x::Jka r
def JhW:List (Nat×Opd)→List Opd
 | []=>[]
 | (_,x)::r=>x::JhW r
theorem Jhj: ∀ {l:List (Nat×Nat×Opd)} {q:Nat×Nat×Opd},q∈l→q.2.2∈Jka l
 | (a,b,x)::r,q,h=>by
  rcases List.mem_cons.1 h with rfl | h
  ·simp [Jka]
  ·simp [Jka,Jhj h]
theorem Je3: ∀ {l:List (Nat×Opd)} {q:Nat×Opd},q∈l→q.2∈JhW l
 | (a,x)::r,q,h=>by
  rcases List.mem_cons.1 h with rfl | h
  ·simp [JhW]
  ·simp [JhW,Je3 h]
theorem Jev (ps:Array (Nat×Operand)):(ps.map fun (i,x)=>(i,a.eval x)).toList=ps.toList.map fun x=>(x.1,a.eval x.2):=by simp
theorem JjA {α β:Type} {f:α→Sem β} {g:α→β}: ∀ (l:List α),(∀ x,x∈l→(f x).run P w= .ok (g x) w)→(l.mapM f).run P w= .ok (l.map g) w
 | [],_=>by simp
 | x::r,h=>by
  have ih:=JjA r fun y hy=>h y (by simp [hy])
  simp [List.mapM_cons,h x (by simp),ih]
theorem JcI {p q:Nat→Option (Nat×Nat)} (h: ∀ i x,p i=some x→q i=some x): ∀ (l:List (Nat×Value)) (cells cells':Array Value),Instr.fill p cells l=some cells'→Instr.fill q cells l=some cells'
 | [],_,_,hf=>hf
 | (i,v)::r,cells,cells',hf=>by
  simp only [Instr.fill] at hf ⊢;cases hp:p i with
  | none=>rw [hp] at hf;cases hf
  | some x=>
   obtain ⟨off,size⟩:=x;rw [hp] at hf;rw [h i _ hp];simp only at hf ⊢;split at hf
   ·cases hf
   ·rename_i h1
    rw [if_neg h1];exact JcI h r _ _ hf
theorem Jty {d:Nat} {zero:List AV} {parts:List (Nat×Nat×Opd)} (hc:Jy P (.bd d zero parts) o.op=true) (hk:JH e zero.length parts) (hE:OE P ρ e a (Jka parts)) (hm:Qt B ρ M w):
  Sim P o a w (Out B ρ M (.ag (JG e zero parts))):=by
 simp only [Jy] at hc;split at hc
 ·rename_i t ps ho
  simp only [Bool.and_eq_true] at hc;obtain ⟨⟨h1,h2⟩,h3⟩:=hc;split at h1
  ·rename_i zv hz
   obtain ⟨ys,rfl,hzr⟩:=(Yp (ρ:=ρ) h1:V1 ρ (.ag zero) zv);obtain ⟨cells',e1,e2⟩:=Ji2 (P:=P) (a:=a) parts ps.toList zero ys h3 hk (fun q hq y hy=>hE _ y (Jhj hq) hy) hzr
   refine Sim.value (v:= .agg cells') ?_ (Out.same (VE.of (V2.of (show V1 ρ (.ag _) _ from ⟨_,rfl,e2⟩))) hm)
   simp only [execOp,ho,Sem.run_bind,Instr.build,Jd3 hz,Result.andThen_ok,Jev];unfold Jec at h2;split at h2
   ·rename_i fs hu
    have hplaces:((fs.mapM fun f=>do pure (f.offset,←sizeOf f.type):Sem (Array (Nat×Nat)))).run P w= .ok (fs.toList.map fun f=>(f.offset,(szT P f.type).getD 0)).toArray w:=by
     rw [Array.mapM_eq_mapM_toList,Sem.run_map,JjA (g:=fun f=>(f.offset,(szT P f.type).getD 0)) fs.toList]
     ·rfl
     ·intro f hf
      have:=Array.all_eq_true_iff_forall_mem.1 h2 f (by simpa using hf)
      obtain ⟨n,hn⟩:=Option.isSome_iff_exists.1 this;simp [J5 hn,hn]
    have hfill:Instr.fill (fun i=>(fs.toList.map fun f=>(f.offset,(szT P f.type).getD 0)).toArray[i]?) ys (ps.toList.map fun x=>(x.1,a.eval x.2))=some cells':=
     JcI (fun i x hx=>by
      simp only [place,hu] at hx;split at hx
      ·rename_i f hf
       cases hs:szT P f.type with
       | none=>rw [hs] at hx;cases hx
       | some n=>
        rw [hs] at hx;simp only [Option.map_some,Option.some.injEq] at hx;have hf':fs.toList[i]? =some f:=by simpa using hf
        simp [hf',hs,hx]
      ·cases hx) _ _ _ e1
    simp only [JD hu,Result.andThen_ok,Value.cells,hplaces,Sem.run_bind];rw [hfill];rfl
   ·rename_i n el hu
    obtain ⟨z,hzz⟩:=Option.isSome_iff_exists.1 h2
    have hfill:Instr.fill (fun i=>some (i*z,z)) ys (ps.toList.map fun x=>(x.1,a.eval x.2))=some cells':=
     JcI (fun i x hx=>by simpa [place,hu,hzz] using hx) _ _ _ e1
    simp only [JD hu,Result.andThen_ok,Value.cells,J5 hzz,Sem.run_bind];rw [hfill];rfl
   ·cases h2
  ·cases h1
 ·cases hc
end ops
section ops
variable {P:Program} {B:Base} {C:Tab} {ρ:Rn} {M:Mem} {w:World} {e:Env} {a:Act} {o:Oper}
theorem Jhu {t:TypeId} {v:Value} (ho:o.op= .alloc t) (hz:zeT P t=some v):
  (execOp a.eval o).run P w= .ok (.value (.pointer (some ⟨w.heap.size,0,none⟩))) (w.alloc (.cells v.cells t)):=by
 simp [execOp,ho,Instr.alloc,Jd3 hz,newVar,newRow]
theorem JlS {t:TypeId} {x:Operand} (ho:o.op= .box t x):
  (execOp a.eval o).run P w= .ok (.value (.pointer (some ⟨w.heap.size,0,none⟩))) (w.alloc (.cells (a.eval x).cells t)):=by
 simp [execOp,ho,Instr.box,newVar,newRow]
theorem JfO {d:Nat} {x:AV} {v:Value} {t:TypeId} (hm:Qt B ρ M w) (hv:V1 ρ x v):
  Qt B (ρ.newL d M.g w.heap.size x.cells.length) (M.newL d 0 [x]) (w.alloc (.cells v.cells t))∧ρ.LeL (ρ.newL d M.g w.heap.size x.cells.length)∧(ρ.newL d M.g w.heap.size x.cells.length).lo d M.g=some (w.heap.size,x.cells.length):=by
 have hle:ρ.LeL (ρ.newL d M.g w.heap.size x.cells.length):=Rn.le_newL (hm.lof d M.g (Nat.le_refl _));refine hm.newLoc d 0 x.cells.length [x] (by simp) (fun b hb=>JP _ _ b hb) rfl rfl rfl ?_
 refine ⟨w.heap.size,x.cells.length,by simp [Rn.newL],?_⟩
 refine ⟨fun y hy=> ?_,v.cells,t,heap_alloc_new _ _,?_,?_⟩
 ·simp only [List.mem_singleton] at hy;rw [hy]
 ·simp [hv.size]
 ·simp only [flat,List.append_nil]
  exact hv.cells.mono fun _ _=>VA.mono hle.toLe
theorem JqJ {d:Nat} {zero:AV} (hc:Jy P (.lal d zero) o.op=true) (hm:Qt B ρ M w):
  Sim P o a w (Out B ρ (M.newL d 0 [zero]) (.la d M.g 0 0)):=by
 simp only [Jy] at hc;split at hc
 ·rename_i t ho
  split at hc
  ·rename_i v hz
   obtain ⟨h1,h2,h3⟩:=JfO (d:=d) (t:=t) hm (Yp hc);exact Sim.value (Jhu ho hz) ⟨_,h2,(show VE _ (.la d M.g 0 0) _ from ⟨_,_,h3,by simp⟩),h1⟩
  ·cases hc
 ·cases hc
theorem Jp6 {d:Nat} {x:Opd} (hc:Jy P (.lbx d x) o.op=true) (hk:(evT e x).outs=true) (hE:OE P ρ e a [x]) (hm:Qt B ρ M w):
  Sim P o a w (Out B ρ (M.newL d 0 [evT e x]) (.la d M.g 0 0)):=by
 simp only [Jy] at hc;split at hc
 ·rename_i t x' ho
  obtain ⟨h1,h2,h3⟩:=JfO (d:=d) (t:=t) hm ((hE x x' (by simp) hc).out hk)
  exact Sim.value (JlS ho) ⟨_,h2,(show VE _ (.la d M.g 0 0) _ from ⟨_,_,h3,by simp⟩),h1⟩
 ·cases hc
theorem Jd0 {x:List AV} {z:Nat} {v:Value} {t:TypeId} (hm:Qt B ρ M w) (hz: ∀ y,y∈x→y.cells.length=z) (hv:JO (VA ρ) (flat x) v.cells.toList):
  ∃ ρ',ρ.LeL ρ'∧VP ρ' (.pv M.h.n 0) (.pointer (some ⟨w.heap.size,0,none⟩))∧Qt B ρ' ⟨M.l,M.g,M.h.new (.arr true 0 z x)⟩ (w.alloc (.cells v.cells t)):=by
 have hfl:=Zm hz;have hlen:=hv.len;have hsz:x.length*z=v.cells.size:=by rw [←hfl,hlen,Array.length_toList]
 obtain ⟨h1,h2,h3⟩:=hm.newArr v.cells t (0,0) z x (w':=w.alloc (.cells v.cells t)) (by simp) (fun b hb=>JP _ _ b hb) (heap_alloc_new _ _) rfl rfl rfl (fun i hi=>by simp) hz (by omega)
  (by rw [List.take_of_length_le (by rw [Array.length_toList];omega)];exact hv)
 exact ⟨_,h2,⟨_,h3,rfl,rfl⟩,h1⟩
theorem JrH {d z:Nat} {xs:List AV} (hc:Jy P (.al d z xs) o.op=true) (hm:Qt B ρ M w):
  Sim P o a w (Out B ρ ⟨M.l,M.g,M.h.new (.arr true 0 z xs)⟩ (.pv M.h.n 0)):=by
 simp only [Jy] at hc;split at hc
 ·rename_i t ho
  split at hc
  ·rename_i v hz
   simp only [Bool.and_eq_true] at hc;obtain ⟨h1,h2⟩:=hc;obtain ⟨ys,hy,hr⟩:=(Yp (ρ:=ρ) h1:V1 ρ (.ag (flat xs)) (.agg v.cells));cases hy
   have hz': ∀ y,y∈xs→y.cells.length=z:=fun y hy=>by
    have:=List.all_eq_true.1 h2 y hy;simp only [Bool.and_eq_true,beq_iff_eq] at this;exact this.2
   obtain ⟨ρ',k1,k2,k3⟩:=Jd0 (t:=t) hm hz' hr;exact Sim.value (Jhu ho hz) ⟨ρ',k1,VE.of (V2.of (V1.of (VA.of k2))),k3⟩
  ·cases hc
 ·cases hc
theorem Jss {d:Nat} {x:Opd} (hc:Jy P (.bx d x) o.op=true) (hk:(evT e x).outs=true) (hE:OE P ρ e a [x]) (hm:Qt B ρ M w):
  Sim P o a w (Out B ρ ⟨M.l,M.g,M.h.new (.arr true 0 (evT e x).cells.length [evT e x])⟩ (.pv M.h.n 0)):=by
 simp only [Jy] at hc;split at hc
 ·rename_i t x' ho
  have hv:=(hE x x' (by simp) hc).out hk
  obtain ⟨ρ',k1,k2,k3⟩:=Jd0 (t:=t) (x:=[evT e x]) (z:=(evT e x).cells.length) hm (by simp) (by simpa [flat] using hv.cells)
  exact Sim.value (JlS ho) ⟨ρ',k1,VE.of (V2.of (V1.of (VA.of k2))),k3⟩
 ·cases hc
theorem Jjj (x:AV): ∀ n,flat (List.replicate n x)=(List.replicate n x.cells).flatten
 | 0=>rfl
 | n+1=>by simp [List.replicate_succ,flat,Jjj x n]
theorem JnT {z:Array Value} (hz:0 < z.size): ∀ n,(madeCells z (n*z.size)).toList=(List.replicate n z.toList).flatten:=by
 intro n;apply List.ext_getElem?
 intro i;have hl:((List.replicate n z.toList).flatten).length=n*z.size:=by simp
 by_cases hi:i < n*z.size
 ·have h1:(madeCells z (n*z.size)).toList[i]? =some (z[i % z.size]!):=by simp [madeCells,hi]
  rw [h1];induction n generalizing i with
  | zero=>simp at hi
  | succ n ih=>
   rw [List.replicate_succ,List.flatten_cons];by_cases h:i < z.size
   ·rw [List.getElem?_append_left (by simpa using h),Nat.mod_eq_of_lt h]
    simp [h]
   ·rw [List.getElem?_append_right (by simpa using Nat.le_of_not_lt h)]
    have hi':i-z.size < n*z.size:=by rw [Nat.add_mul,Nat.one_mul] at hi;omega
    have:=ih (i-z.size) (by simp) hi' (by simp [madeCells,hi'])
    rw [Array.length_toList,←this,Nat.mod_eq_sub_mod (Nat.le_of_not_lt h)]
 ·rw [List.getElem?_eq_none (by simp [madeCells];omega),List.getElem?_eq_none (by rw [hl];omega)]
theorem JO.flatten {α β:Type} {R:α→β→Prop} {x:List α} {y:List β} (h:JO R x y): ∀ n,JO R (List.replicate n x).flatten (List.replicate n y).flatten
 | 0=>trivial
 | n+1=>by simp only [List.replicate_succ,List.flatten_cons];exact h.append (JO.flatten h n)
theorem Jgy {zero:AV} {v:Value} {z:Nat} (hv:V1 ρ zero v) (hz:zero.cells.length=z) (h0:z≠0) (n:Nat):JO (VA ρ) (flat (List.replicate n zero)) (madeCells v.cells (n*z)).toList:=by
 have hs:=hv.size;rw [Jjj,←hz,hs,JnT (by omega) n]
 exact hv.cells.flatten n
theorem JfC {t el:TypeId} {len z:Nat} {ps:Array (Nat×Operand)} {v:Value} {cells':Array Value} (ho:o.op= .buildSlice t len ps) (hu:P.underlying t=some (.slice el)) (hz:szT P el=some z) (hzv:zeT P el=some v)
  (hsm:len*z≤65536) (hf:Instr.fill (fun i=>some (i*z,z)) (madeCells v.cells (len*z)) (ps.toList.map fun x=>(x.1,a.eval x.2))=some cells'):
  (execOp a.eval o).run P w= .ok (.value (.slice (some ⟨w.heap.size,0,none⟩) len len)) (w.alloc (.cells cells' el)):=by
 by_cases h0:len*z=0
 ·have h1:madeCells v.cells (len*z)=(Array.range (len*z)).map ((#[]:Array Value)[· % (#[]:Array Value).size]!):=by rw [h0];simp [madeCells]
  rw [h1,h0] at hf;have hn: ¬ 0 > 2 ^ 24:=by decide
  simp only [execOp,ho,Sem.run_bind,Instr.buildSlice,JD hu,J5 hz,Result.andThen_ok,h0,Jev];rw [if_neg hn];simp only [if_true,Sem.run_pure,Sem.run_bind,Result.andThen_ok];rw [hf];simp [newRow]
 ·have hn: ¬ len*z > 2 ^ 24:=by omega
  simp only [execOp,ho,Sem.run_bind,Instr.buildSlice,JD hu,J5 hz,Result.andThen_ok,Jev];rw [if_neg hn,if_neg h0];simp only [Sem.run_pure,Sem.run_bind,Result.andThen_ok,Jd3 hzv];simp only [madeCells] at hf;rw [hf];simp [newRow]
theorem Joj {d len z:Nat} {zero:AV} {parts:List (Nat×Opd)} (hc:Jy P (.bs d zero z len parts) o.op=true):
  ∃ t ps el v,o.op= .buildSlice t len ps∧len*z≤65536∧z≠0∧Jc7 P parts ps.toList=true∧P.underlying t=some (.slice el)∧szT P el=some z∧zeT P el=some v∧Jls zero v=true∧zero.cells.length=z:=by
 simp only [Jy] at hc;split at hc
 ·rename_i t l ps ho
  simp only [Bool.and_eq_true,beq_iff_eq,bne_iff_ne,decide_eq_true_eq] at hc;obtain ⟨⟨⟨⟨rfl,h1⟩,h2⟩,h3⟩,h4⟩:=hc;split at h4
  ·rename_i el hel
   simp only [Bool.and_eq_true,beq_iff_eq] at h4;obtain ⟨h5,h6⟩:=h4;split at h6
   ·rename_i v hv
    simp only [Bool.and_eq_true,beq_iff_eq] at h6;exact ⟨t,ps,el,v,ho,h1,h2,h3,Jbd hel,h5,hv,h6.1,h6.2⟩
   ·cases h6
  ·cases h4
 ·cases hc
theorem Jp9 {zero:AV} {z n:Nat} (h:zero.cells.length=z): ∀ x,x∈List.replicate n zero→x.cells.length=z:=fun x hx=>by rw [(List.mem_replicate.1 hx).2];exact h
theorem Jq0 {d len z:Nat} {zero:AV} {parts:List (Nat×Opd)} (hc:Jy P (.bs d zero z len parts) o.op=true) (hk:JE e z len parts) (hE:OE P ρ e a (JhW parts)) (hm:Qt B ρ M w):
  Sim P o a w (Out B ρ ⟨M.l,M.g,M.h.new (.arr true 0 z (JQ e (List.replicate len zero) parts))⟩ (.sl M.h.n 0 len)):=by
 obtain ⟨t,ps,el,v,ho,h1,h2,h3,hu,hz,hzv,h4,h5⟩:=Joj hc;have hmade:=Jgy (ρ:=ρ) (Yp h4) h5 h2 len;obtain ⟨cells',e1,e2,e3,e4⟩:=Jeg (P:=P) (a:=a) parts ps.toList (List.replicate len zero) _ h3 (by simpa using hk) (fun q hq y hy=>hE _ y (Je3 hq) hy) (Jp9 h5) hmade
 have hce:cells'.size=(JQ e (List.replicate len zero) parts).length*z:=by have:=e2.len;rw [Zm e3,Array.length_toList] at this;exact this.symm
 have hlen:(JQ e (List.replicate len zero) parts).length=len:=by simpa using e4
 obtain ⟨k1,k2,k3⟩:=hm.newArr cells' el (0,0) z (JQ e (List.replicate len zero) parts) (w':=w.alloc (.cells cells' el)) (by simp) (fun b hb=>JP _ _ b hb) (heap_alloc_new _ _) rfl rfl rfl (fun i hi=>by simp) e3
  (by rw [hce];exact Nat.le_refl _) (by rw [List.take_of_length_le (by rw [Array.length_toList,hce];exact Nat.le_refl _)];exact e2)
 have hcs:cells'.size=len*z:=by rw [hce,hlen]
 refine Sim.value (JfC ho hu hz hzv h1 e1) ⟨_,k2,VE.of (V2.of (V1.of (VA.of (show VP _ (.sl M.h.n 0 len) _ from ⟨_,k3,Nat.le_refl _,by simp [hlen],0,len,Nat.le_refl _,.inl (by simp),.inr (by simp [hcs]),_,.inl rfl,rfl⟩)))),k1⟩
theorem Jqr {d len z:Nat} {zero:AV} {parts:List (Nat×Opd)} (hc:Jy P (.lbs d zero z len parts) o.op=true) (hk:JE e z len parts) (hE:OE P ρ e a (JhW parts)) (hm:Qt B ρ M w):
  Sim P o a w (Out B ρ (M.newL d 0 (JQ e (List.replicate len zero) parts)) (.ll d M.g z len)):=by
 obtain ⟨t,ps,el,v,ho,h1,h2,h3,hu,hz,hzv,h4,h5⟩:=Joj (d:=d) hc;have hmade:=Jgy (ρ:=ρ) (Yp h4) h5 h2 len;obtain ⟨cells',e1,e2,e3,e4⟩:=Jeg (P:=P) (a:=a) parts ps.toList (List.replicate len zero) _ h3 (by simpa using hk) (fun q hq y hy=>hE _ y (Je3 hq) hy) (Jp9 h5) hmade
 have hce:cells'.size=(JQ e (List.replicate len zero) parts).length*z:=by have:=e2.len;rw [Zm e3,Array.length_toList] at this;exact this.symm
 have hle:ρ.LeL (ρ.newL d M.g w.heap.size z):=Rn.le_newL (hm.lof d M.g (Nat.le_refl _))
 obtain ⟨k1,k2,k3⟩:=hm.newLoc (w':=w.alloc (.cells cells' el)) d 0 z (JQ e (List.replicate len zero) parts) (by simp) (fun b hb=>JP _ _ b hb) rfl rfl rfl
  ⟨w.heap.size,z,by simp [Rn.newL],e3,cells',el,heap_alloc_new _ _,hce,e2.mono fun _ _=>VA.mono hle.toLe⟩
 exact Sim.value (JfC ho hu hz hzv h1 e1) ⟨_,k2,(show VE _ (.ll d M.g z len) _ from ⟨_,k3,rfl⟩),k1⟩
theorem JsA {d z by':Nat} {zero:AV} {x:Opd} (hc:Jy P (.mk d zero z by' x) o.op=true) (hk:(evT e x).isI=true∧0≤(evT e x).toI∧(evT e x).toI*by'≤281474976710656∧(evT e x).toI≤9223372036854775807)
  (hE:OE P ρ e a [x]) (hm:Qt B ρ M w):
  Sim P o a w (Out B ρ ⟨M.l,M.g,M.h.new (.arr true 0 z (List.replicate (evT e x).toI.toNat zero))⟩ (.sl M.h.n 0 (evT e x).toI.toNat)):=by
 simp only [Jy] at hc;split at hc
 ·rename_i t l c ho
  simp only [Bool.and_eq_true,bne_iff_ne] at hc;obtain ⟨⟨⟨h1,h2⟩,h3⟩,h4⟩:=hc;split at h4
  ·rename_i el hel
   simp only [Bool.and_eq_true,beq_iff_eq] at h4;obtain ⟨⟨h5,h6⟩,h7⟩:=h4;split at h7
   ·rename_i v hv
    simp only [Bool.and_eq_true,beq_iff_eq] at h7;obtain ⟨i,hi,hsz⟩:=Jgb h5;have hby:i.bytes=by':=by unfold byT at h6;rw [hi] at h6;simpa using h6
    have hzi:i.zero=some v:=by unfold zeT at hv;rw [hi] at hv;simpa using hv
    obtain ⟨k1,k2,k3,k4⟩:=hk;have hx1:=((hE x l (by simp) h1).int k1).2
    have hx2:=((hE x c (by simp) h2).int k1).2
    have hrun:=run_make w t el i v (Jbd hel) hi hzi (evT e x).toK (evT e x).toK (evT e x).toI (evT e x).toI k2 (Int.le_refl _) (by rw [hby,Int.mul_comm];exact k3) k4
    rw [hsz] at hrun;generalize (evT e x).toI.toNat=n at*;have hmade:=Jgy (ρ:=ρ) (Yp h7.1) h7.2 h3 n
    obtain ⟨q1,q2,q3⟩:=hm.newArr (madeCells v.cells (n*z)) el (0,0) z (List.replicate n zero) (w':=w.alloc (.cells (madeCells v.cells (n*z)) el)) (by simp) (fun b hb=>JP _ _ b hb) (heap_alloc_new _ _) rfl rfl rfl (fun i hi=>by simp) (Jp9 h7.2)
     (by simp [size_madeCells]) (by rw [List.take_of_length_le (by simp [size_madeCells])];exact hmade)
    refine Sim.value (v:= .slice (some ⟨w.heap.size,0,none⟩) n n) ?_ ⟨_,q2,VE.of (V2.of (V1.of (VA.of (show VP _ (.sl M.h.n 0 n) _ from ⟨_,q3,Nat.le_refl _,by simp,0,n,Nat.le_refl _,.inl (by simp),.inr (by simp [size_madeCells]),_,.inl rfl,rfl⟩)))),q1⟩
    simp [execOp,ho,hx1,hx2,hrun]
   ·cases h7
  ·cases h4
 ·cases hc
end ops
section ops
variable {P:Program} {B:Base} {C:Tab} {ρ:Rn} {M:Mem} {w:World} {e:Env} {a:Act} {o:Oper}
theorem Jti {d z:Nat} {x:Opd} {lo hi:Option Opd} (hc:Jy P (.sl d x lo hi z) o.op=true) (hk:okO C e M (.sl d x lo hi z)) (hE:OE P ρ e a (x::(lo.toList++hi.toList))) (hm:Qt B ρ M w):
  Sim P o a w (Out B ρ M (vlO C e M (.sl d x lo hi z))):=by
 simp only [Jy] at hc;split at hc
 ·rename_i t x' lo' hi' ho
  simp only [Bool.and_eq_true] at hc;obtain ⟨⟨⟨h1,h2⟩,h3⟩,h4⟩:=hc;split at h4
  ·rename_i el hel
   have hz:szT P el=some z:=by simpa using h4
   have hu:=Jbd hel;simp only [okO] at hk;obtain ⟨k1,k2,⟨k3,k4⟩,k5⟩:=hk;have hx:=hE x x' (by simp) h1
   have hE':OE P ρ e a (lo.toList++hi.toList):=fun y z hy=>hE y z (by simp at hy ⊢;exact .inr hy)
   simp only [vlO];generalize evT e x=X at*;cases X<;>simp only [slC] at k5
   case ns=>
    have hx':a.eval x'= .slice none 0 0:=hx;obtain ⟨e1,e2⟩:=k5;have hb:=JcH (w:=w) (P:=P) (ρ:=ρ) (a:=a) (e:=e) (isSlice:=true) (len:=0) (cap:=0) (dl:= .i .i64 0) (dh:=Jhx .ns) (Nat.le_refl _) h2 h3 hE' rfl rfl k3 k4 (by rw [e1];exact Int.le_refl _) (by rw [e1,e2];exact Int.le_refl _) (by rw [e2];exact Int.le_refl _)
    rw [e1,e2] at hb;refine Sim.value (v:= .slice none 0 0) ?_ (Out.same (show VE ρ (slV _ _ .ns) _ from VE.of (V2.of (V1.of (VA.of (show VP ρ .ns _ from rfl))))) hm)
    simp only [execOp,ho,hx',Sem.run_bind,Instr.sliceAt,JD hu,Result.andThen_ok,Instr.slice,Option.map_none,hb,J5 hz];simp
   case sl id ix len=>
    obtain ⟨p,q1,q2,q3,off,cap,q4,q5,q6,ad,had,hx'⟩:=(hx:VP ρ (.sl ..) _);obtain ⟨e1,e2,e3⟩:=k5;obtain ⟨rw',st,xs,hob⟩:=Jk3 hm.heap q1 k2;have hpz:p.z=z:=(JbG hm.heap q1 hob).2.choose_spec.choose_spec.2.1;have hb:=JcH (w:=w) (P:=P) (ρ:=ρ) (a:=a) (e:=e) (isSlice:=true) (len:=len) (cap:=cap) (dl:= .i .i64 0) (dh:=Jhx (.sl id ix len)) q4 h2 h3 hE' rfl rfl k3 k4 e1 e2 e3;generalize hlo:(evO e lo (.i .i64 0)).toI=lo1 at*;generalize hhi:(evO e hi (Jhx (.sl id ix len))).toI=hi1 at*;have hl0:lo1.toNat≤hi1.toNat:=by omega
    have hl1:hi1.toNat≤len:=by omega
    have hmul:lo1.toNat*z≤cap*z:=Nat.mul_le_mul_right _ (by omega)
    rcases had with rfl | hc0
    rotate_left
    ·refine Sim.value (v:= .slice (some ad) (hi1.toNat-lo1.toNat) (cap-lo1.toNat)) ?_ (Out.same (show VE ρ (slV _ _ (.sl id ix len)) _ from VE.of (V2.of (V1.of (VA.of (show VP ρ (.sl id (ix+lo1.toNat) (hi1.toNat-lo1.toNat)) _ from
      ⟨p,q1,by omega,by omega,off,cap-lo1.toNat,by omega,.inr ⟨by omega,by omega⟩,.inl (by omega),ad,.inr (by omega),rfl⟩))))) hm)
     simp only [execOp,ho,hx',Sem.run_bind,Instr.sliceAt,JD hu,Result.andThen_ok,Instr.slice,Option.map_none,hb,J5 hz];have hcap:cap=lo1.toNat:=by omega
     simp [hcap]
    rw [hpz] at q5 q6
    refine Sim.value (v:= .slice (some ⟨p.b,if cap=lo1.toNat then off else off+lo1.toNat*z,none⟩) (hi1.toNat-lo1.toNat) (cap-lo1.toNat)) ?_ (Out.same (show VE ρ (slV _ _ (.sl id ix len)) _ from VE.of (V2.of (V1.of (VA.of (show VP ρ (.sl id (ix+lo1.toNat) (hi1.toNat-lo1.toNat)) _ from
     ⟨p,q1,by omega,by omega,if cap=lo1.toNat then off else off+lo1.toNat*z,cap-lo1.toNat,by omega,?_,?_,_,.inl rfl,rfl⟩))))) hm)
    ·simp only [execOp,ho,hx',Sem.run_bind,Instr.sliceAt,JD hu,Result.andThen_ok,Instr.slice,Option.map_none,hb,J5 hz]
     by_cases hcap:cap=lo1.toNat
     ·simp [hcap]
     ·simp [hcap,Jba]
    ·rw [hpz]
     by_cases hcap:cap=lo1.toNat
     ·rw [if_pos hcap];exact .inr ⟨by omega,by omega⟩
     ·rw [if_neg hcap]
      refine .inl ?_
      rcases q5 with q5 | ⟨q5,q5'⟩
      ·rw [q5,show ix+lo1.toNat-p.s=(ix-p.s)+lo1.toNat by omega,Nat.add_mul];omega
      ·omega
    ·rw [hpz]
     by_cases hcap:cap=lo1.toNat
     ·exact .inl (by omega)
     ·rcases q6 with q6 | q6
      ·exact .inl (by omega)
      ·refine .inr ?_
       rw [if_neg hcap,Nat.sub_mul];omega
  ·cases h4
 ·cases hc
theorem Qt.turn {ρ':Rn} {H':AH} {w':World} (hm:Qt B ρ M w) (hh:J7 ρ' H' w') (hle:ρ.LeL ρ') (hlo:ρ'.lo=ρ.lo) (hown: ∀ b,b < w.heap.size→ρ'.own b=ρ.own b) (hsz:w.heap.size≤w'.heap.size)
  (hold: ∀ b,b < w.heap.size→(ρ.own b= .no∨ρ.own b= .loc)→w'.heap[b]? =w.heap[b]?) (hos:w'.os=w.os) (htp:w'.tape=w.tape) (hou:w'.output=w.output):Qt B ρ' ⟨M.l,M.g,H'⟩ w':=by
 refine ⟨hh,fun t g k xs hv=> ?_,fun t g hg=>by rw [hlo];exact hm.lof t g hg,fun t g t' g' b z z' h1 h2=>by rw [hlo] at h1 h2;exact hm.loi _ _ _ _ _ _ _ h1 h2,fun t g b z hl=> ?_,hm.le.trans hle.toLe,fun b hb hn=> ?_,fun b hb=> ?_,by have:=hm.sz;omega,hos.trans hm.os,htp.trans hm.tape,hou.trans hm.out,hm.glob_of hle⟩
 ·exact (hm.loc t g k xs hv).mono hle fun b z hl=>hold b (hm.lob _ _ _ _ hl).2.2 (.inr (hm.lob _ _ _ _ hl).1)
 ·rw [hlo] at hl
  have hb:=hm.lob _ _ _ _ hl;exact ⟨(hown b hb.2.2).trans hb.1,hb.2.1,by omega⟩
 ·have:=hm.sz
  rw [hold b (by omega) (by rw [hm.own b hb];exact hn)]
  exact hm.frame b hb hn
 ·have:=hm.sz
  rw [hown b (by omega)];exact hm.own b hb
theorem Qt.store {t:TypeId} {n id st z k:Nat} {xs xs':List AV} {p:Pl} {rest:List Pl} {v:Value} {y:AV} (hm:Qt B ρ M w) (hid:id < M.h.n) (hA:JqU ρ w id true st z xs p rest) (hxz: ∀ x,x∈xs→x.cells.length=z)
  (ht:szT P t=some n) (hv:V1 ρ y v) (hn:y.cells.length=n) (hlen:xs'.length=xs.length) (hz: ∀ x,x∈xs'→x.cells.length=z) (hcl: ∀ x,x∈flat xs'→x∈flat xs∨x∈y.cells) (hfl:flat (xs'.drop p.s)=splice (flat (xs.drop p.s)) k y.cells) (hk:k+n≤(xs.length-p.s)*z):
  ∃ w',(storeVar t ⟨p.b,p.o+k,none⟩ v).run P w= .ok () w'∧Qt B ρ ⟨M.l,M.g,M.h.set id (.arr true (if st=0 then 0 else 2) z xs')⟩ w':=by
 obtain ⟨c,ty,fz,v1,v2,v3,v4,v5⟩:=hA.hv;have hzz:=hA.hz;have hxx:=hA.hx;have hss:=hA.hs;have hown:=hA.hown p (by simp)
 have hown2:ρ.own p.b= .id id:=hown.2;have hvs:=hv.size;have hvl:v.cells.toList.length=n:=by rw [Array.length_toList,←hvs];exact hn
 rw [hzz,hxx] at v4 v5;have hsp:(splice c.toList (p.o+k) v.cells.toList).length=c.size:=by rw [XK (by rw [hvl,Array.length_toList,v2];omega),Array.length_toList]
 have hother: ∀ b,b≠p.b→(w.setRow p.b (splice c.toList (p.o+k) v.cells.toList).toArray).heap[b]? =w.heap[b]? :=fun b hb=>setRow_other w p.b b _ hb
 refine ⟨w.setRow p.b (splice c.toList (p.o+k) v.cells.toList).toArray,Jcv ht v1 (fun j hj=>v3 rfl j (by omega)) (by rw [←hvs];exact hn) (by omega) hv.cells.ones,?_⟩
 refine hm.turn (ρ':=ρ) ?_ (.refl ρ) rfl (fun _ _=>rfl) (by simp) (fun b hb hn=>hother b fun e=>by rw [e,hown2] at hn;simp at hn) rfl rfl rfl
 refine hm.heap.setArr hid hA (setRow_heap w p.b c _ ty fz v1) (by rw [List.size_toArray,hsp,v2]) (v3 rfl) hother (by simp) hlen hz (fun x hx=>(hcl x hx).elim (hA.hcl x) (hv.cells.ex x)) ?_
 rw [hfl,List.toList_toArray,JbK (by rw [Array.length_toList];omega),hxx,hzz,JdZ (by rw [hvl];omega) (by simp;omega)]
 have ht':told p xs=xs.drop p.s:=by simp only [told];rw [List.take_of_length_le (by omega)]
 rw [ht'] at v5;exact v5.splice hv.cells
theorem JrS {x v:Opd} {n:Nat} (hc:Jy P (.st x v n) o.op=true) (hk:(evT e v).cells.length=n∧(evT e v).outs=true∧stC M (evT e v) (evT e x)) (hE:OE P ρ e a [x,v]) (hm:Qt B ρ M w):
  Sim P o a w (Out B ρ (stM M (evT e v) (evT e x)) .u):=by
 simp only [Jy] at hc;split at hc
 ·rename_i t x' v' ho
  simp only [Bool.and_eq_true,beq_iff_eq] at hc;obtain ⟨⟨h1,h2⟩,ht⟩:=hc;obtain ⟨k1,k2,k3⟩:=hk;have hx:=hE x x' (by simp) h1
  have hv:=(hE v v' (by simp) h2).out k2
  have key: ∀ {ad:Addr} {M':Mem},a.eval x'= .pointer (some ad)→(∃ w',(storeVar t ad (a.eval v')).run P w= .ok () w'∧Qt B ρ M' w')→Sim P o a w (Out B ρ M' .u):=by
   intro ad M' hx' ⟨w',hr,hm'⟩;refine Sim.skip (w':=w') ?_ ⟨ρ,.refl ρ,trivial,hm'⟩
   simp [execOp,ho,hx',Instr.storeAt,Instr.sureAddr,hr]
  generalize evT e x=X at*;generalize evT e v=V at*;cases X<;>simp only [stC] at k3
  case pv id off=>
   obtain ⟨p,q1,q2,hx'⟩:=(hx:VP ρ (.pv ..) _);have hid:=JjX hm.heap q1;simp only [stM];cases hob:M.h.at' id with
   | no=>rw [hob] at k3;exact k3.elim
   | map rw es=>rw [hob] at k3;exact k3.elim
   | arr rw st z xs=>
    rw [hob] at k3;obtain ⟨hz,p0,rest,hA,r1,r2,r3,r4,r5,r6⟩:=JbG hm.heap q1 hob;by_cases hone: ∃ y,xs=[y]
    ·obtain ⟨y,rfl⟩:=hone
     obtain ⟨rfl,rfl,s3,s4⟩:=k3;have hpp:=r6 rfl;subst hpp;have hc:=JeR (x:=y) (off:=off) hv.flatV (by omega)
     have hcl:(Wt y off V).cells.length=z:=by rw [hc,XK (by omega),s3]
     have:=hm.store (P:=P) (t:=t) (k:=off) (xs':=[Wt y off V]) hid hA hz ht hv k1 rfl (by intro q hq;simp only [List.mem_singleton] at hq;rw [hq];exact hcl) (fun q hq=>by simp only [flat,List.append_nil] at hq ⊢;rw [hc] at hq;exact Jbq hq) (by rw [q2];simp only [List.drop_zero,flat,List.append_nil];exact hc) (by rw [q2];simp;omega)
     exact key hx' this
    ·have k3':rw=true∧st=0∧z=1∧off+V.cells.length≤xs.length∧(∀ x∈xs,x.cells=[x])∧(∀ x∈V.cells,x.cells=[x]):=by
      split at k3
      ·rename_i h;cases h;exact absurd ⟨_,rfl⟩ hone
      ·rename_i h;cases h;exact k3
      ·exact k3.elim
     obtain ⟨rfl,rfl,rfl,s4,s5,s6⟩:=k3';have hpp:=r6 rfl;subst hpp
     have hfl: ∀ l:List AV,(∀ x∈l,x.cells=[x])→flat l=l:=by
      intro l;induction l with
      | nil=>intro _;rfl
      | cons y r ih=>intro h;simp only [flat];rw [h y (by simp),ih fun q hq=>h q (by simp [hq])];rfl
     have hmem: ∀ q,q∈Wu xs off V→q.cells=[q]:=by
      intro q hq;simp only [Wu,List.mem_append] at hq;rcases hq with (hq | hq) | hq
      ·exact s5 q (List.mem_of_mem_take hq)
      ·exact s6 q hq
      ·exact s5 q (List.mem_of_mem_drop hq)
     have:=hm.store (P:=P) (t:=t) (k:=off) (xs':=Wu xs off V) hid hA hz ht hv k1 (by rw [Jfv,XK s4]) (fun q hq=>by rw [hmem q hq];rfl) (fun q hq=>by rw [hfl _ hmem] at hq;rw [hfl _ s5];exact Jbq hq) (by rw [q2];simp only [List.drop_zero];rw [hfl _ hmem,hfl _ s5];rfl) (by rw [q2];simp;omega)
     refine key hx' ?_
     split
     ·rename_i h;cases h;exact absurd ⟨_,rfl⟩ hone
     ·rename_i h;cases h;exact this
     ·rename_i h1 h2;exact absurd rfl (h2 _ _ _ _)
  case pe id ix off ext=>
   obtain ⟨p,q1,q2,q3,q4,hx'⟩:=(hx:VP ρ (.pe ..) _);have hid:=JjX hm.heap q1;simp only [stM];split at k3
   ·rename_i rw st z xs hob
    obtain ⟨rfl,s2,s3,s4⟩:=k3;obtain ⟨hz,p0,rest,hA,r1,r2,r3,r4,r5,r6⟩:=JbG hm.heap q1 hob;have hpp:=r4 (by omega)
    subst hpp;have hxx:=hA.hx;have hd: ∀ q,q∈xs.drop p.s→q.cells.length=z:=fun q hq=>hz q (List.mem_of_mem_drop hq)
    have hgd:(xs.drop p.s).getD (ix-p.s) .u=xs.getD ix .u:=by simp only [List.getD,List.getElem?_drop];rw [show p.s+(ix-p.s)=ix by omega]
    obtain ⟨f1,f2⟩:=JaJ (z:=z) (ix:=ix-p.s) (off:=off) (xs:=xs.drop p.s) (v:=V) hd (by simp;omega) hv.flatV (by rw [hgd];exact s4)
    rw [hgd] at f1 f2;have hel:(xs.getD ix .u).cells.length=z:=by simp only [List.getD,List.getElem?_eq_getElem s3,Option.getD_some];exact hz _ (List.getElem_mem s3)
    have hmul:(ix-p.s+1)*z≤(xs.length-p.s)*z:=Nat.mul_le_mul_right _ (by omega)
    rw [Nat.add_mul,Nat.one_mul] at hmul
    have:=hm.store (P:=P) (t:=t) (k:=(ix-p.s)*z+off) (xs':=xs.set ix (Wt (xs.getD ix .u) off V)) hid hA hz ht hv k1 (by simp)
     (fun q hq=>by
      rcases List.mem_or_eq_of_mem_set hq with hq | rfl
      ·exact hz q hq
      ·exact f2)
     (fun q hq=>by rw [(JaJ hz s3 hv.flatV s4).1] at hq;exact Jbq hq)
     (by rw [←f1,List.drop_set,if_neg (by omega)]) (by omega)
    refine key hx' ?_
    rw [r1,Nat.add_assoc];exact this
   ·exact k3.elim
  case la t' g ix off=>
   obtain ⟨b,z,q1,hx'⟩:=hx;obtain ⟨s1,s2,s3⟩:=k3;obtain ⟨hz,c,ty,v1,v2,v3⟩:=Jb7 hm q1 s1;simp only [stM];obtain ⟨xs,hxs⟩:=Option.isSome_iff_exists.1 (show (Qx M.l t' g 0).isSome=true from s1)
   have hg:M.getL t' g 0=xs:=by simp [Mem.getL,hxs]
   rw [hg] at s2 s3 hz v2 v3 ⊢;obtain ⟨f1,f2⟩:=JaJ (z:=z) (off:=off) (v:=V) hz s2 hv.flatV s3;have hel:(xs.getD ix .u).cells.length=z:=by simp only [List.getD,List.getElem?_eq_getElem s2,Option.getD_some];exact hz _ (List.getElem_mem s2)
   have hmul:(ix+1)*z≤xs.length*z:=Nat.mul_le_mul_right _ (by omega)
   rw [Nat.add_mul,Nat.one_mul] at hmul;have hvl:(a.eval v').cells.toList.length=n:=by rw [Array.length_toList,←hv.size];exact k1
   have hsp:(splice c.toList (ix*z+off) (a.eval v').cells.toList).length=c.size:=by rw [XK (by rw [hvl,Array.length_toList,v2];omega),Array.length_toList]
   refine key hx' ⟨w.setRow b (splice c.toList (ix*z+off) (a.eval v').cells.toList).toArray,Jcv ht v1 (fun j hj=>by simp) (by rw [←hv.size];exact k1) (by omega) hv.cells.ones,?_⟩
   refine hm.setLoc q1 hxs (by simp) (fun b' hb'=>setRow_other w b b' _ hb') rfl rfl rfl ⟨b,z,q1,?_,_,ty,setRow_heap w b c _ ty _ v1,?_,?_⟩
   ·intro q hq
    rcases List.mem_or_eq_of_mem_set hq with hq | rfl
    ·exact hz q hq
    ·exact f2
   ·rw [List.size_toArray,hsp,v2];simp
   ·rw [List.toList_toArray,f1]
    exact v3.splice hv.cells
 ·cases hc
end ops
section ops
variable {P:Program} {B:Base} {C:Tab} {ρ:Rn} {M:Mem} {w:World} {e:Env} {a:Act} {o:Oper}
theorem Jly {z:Nat} {Y:AV} {v:Value} (hm:Qt B ρ M w) (hy:VE ρ Y v) (hk:Je7 M z Y):
  ∃ cells:List Value,(∀ w',(Builtin.lenOf v).run P w'= .ok (QE M Y).length w')∧(∀ w',w'.heap=w.heap→(Builtin.firstCells z (QE M Y).length v).run P w'= .ok cells.toArray w')∧
   JO (VA ρ) (flat (QE M Y)) cells∧(∀ x,x∈QE M Y→x.cells.length=z):=by
 cases Y<;>simp only [Je7] at hk<;>try (exact (show False from hk.1).elim)
 case s l=>
  subst hk;have hv:v= .string ⟨l.toArray⟩:=hy;subst hv;have hl:(QE M (.s l)).length=l.length:=by simp [QE,XR]
  refine ⟨l.map fun b=>Value.int .u8 b.toNat,fun w'=> ?_,fun w' _=> ?_,?_,Jjd l⟩
  ·rw [hl];simp [Builtin.lenOf,JbY]
  ·rw [hl]
   have hx:(⟨l.toArray⟩:ByteArray).extract 0 l.length=⟨l.toArray⟩:=by
    apply ByteArray.ext
    apply Array.ext'
    simp [ByteArray.data_extract]
   simp [Builtin.firstCells,hx]
  ·show JO (VA ρ) (flat (XR l)) _
   rw [Jbt];exact Jdx l
 case ns=>
  have hv:v= .slice none 0 0:=hy;subst hv;exact ⟨[],fun w'=>by simp [Builtin.lenOf,QE,Yk],fun w' _=>by simp [Builtin.firstCells],by simp [QE,Yk,flat,JO],by simp [QE,Yk]⟩
 case sl id ix len=>
  obtain ⟨rw',st,z',xs,b,off,cap,c,ty,fz,q1,q2,q3,q4,q5,q6,q7⟩:=JfR hm.heap (hy:VP ρ (.sl ..) _) hk.1;have hzz:z'=z:=by have:=hk.2;simp only [slZ,q1] at this;exact this
  subst hzz;have hin:=hk.1;simp only [Jid,q1] at hin;have hs:QE M (.sl id ix len)=Yk M.h (.sl id ix len):=rfl;have hl:(Yk M.h (.sl id ix len)).length=len:=by simp [Yk,q1];omega
  obtain ⟨ad,had,q3⟩:=q3;rw [hs,hl,q3];refine ⟨(c.toList.drop off).take (len*z'),fun w'=>by simp [Builtin.lenOf],fun w' he=> ?_,q7,fun x hx=> ?_⟩
  ·have hmul:len*z'≤cap*z':=Nat.mul_le_mul_right _ q4
   have hz0:cap=0→cap*z'=0:=fun h=>by rw [h,Nat.zero_mul]
   have:=Jaq (P:=P) (w:=w') (n:=len*z') (off:=off) (cap:=cap*z') (had.imp_right hz0) (.inl hmul) (by rw [he];exact q5) (by omega)
   simpa [Builtin.firstCells] using this
  ·simp only [Yk,q1] at hx
   exact q2 x (List.mem_of_mem_drop (List.mem_of_mem_take hx))
 case ll t g z' len=>
  obtain ⟨h1,h2,rfl⟩:=hk;obtain ⟨b,q1,rfl⟩:=hy;obtain ⟨hz,c,ty,v1,v2,v3⟩:=Jb7 hm q1 h1;have hs:QE M (.ll t g z' len)=M.getL t g 0:=rfl;rw [hs,←h2];refine ⟨c.toList,fun w'=>by simp [Builtin.lenOf],fun w' he=> ?_,v3,hz⟩
  have:=JaQ (P:=P) (w:=w') (n:=len*z') (off:=0) (by rw [he];exact v1) (by rw [v2,h2];omega)
  rw [List.drop_zero,List.take_of_length_le (by rw [Array.length_toList,v2,h2];exact Nat.le_refl _)] at this
  simpa [Builtin.firstCells] using this
section
variable {t u ty el:TypeId} {i:TypeInfo} {zv:Value} {du:TypeDesc} {base:Option Addr} {sLen sCap n:Nat} {x:Value}
theorem JbJ (ht:P.underlying t=some (.slice el)) (hu:P.underlying u=some du) (hd: ∀ k,du≠ .int k) (hi:P.info? el=some i) (hz:i.zero=some zv) {news olds:Array Value}
  (hl: ∀ w,(Builtin.lenOf x).run P w= .ok n w) (hx:(Builtin.firstCells i.size n x).run P w.drew= .ok news w.drew) (ho:(Builtin.firstCells i.size sLen (.slice base sLen sCap)).run P w.drew= .ok olds w.drew)
  (hg:sCap < sLen+n) (hb:i.bytes≠0) (hfit:Builtin.nextslicecap (sLen+n) sCap*i.bytes≤281474976710656):
  (Builtin.append_ #[t,u] ty #[.slice base sLen sCap,x]).run P w=
   .ok (.slice (some ⟨w.heap.size,0,none⟩) (sLen+n) (grownCap w (sLen+n) sCap el)) (w.drew.alloc (.cells (olds++news++Builtin.zeroCells zv.cells (grownCap w (sLen+n) sCap el- (sLen+n))) el)):=by
 have hn: ¬ (sLen+n≤sCap):=by omega
 have h48': ¬ (281474976710656 < Builtin.nextslicecap (sLen+n) sCap*i.bytes):=by omega
 have hzs:(match du with | .int _=>true | _=>false)=false:=by
  cases du<;>first | rfl | exact absurd rfl (hd _)
 simp [Builtin.append_,run_underlying ht,run_underlying hu,sizeOf,typeInfo,zeroValue,hi,hz,hl,hn,hb,h48',Question.forced,hx,ho,newRow,grownCap]
theorem JaR (ht:P.underlying t=some (.slice el)) (hu:P.underlying u=some du) (hd: ∀ k,du≠ .int k) (hi:P.info? el=some i) {news:Array Value} {w':World}
  (hl: ∀ w,(Builtin.lenOf x).run P w= .ok n w) (hx:(Builtin.firstCells i.size n x).run P w= .ok news w) (hg:sLen+n≤sCap)
  (hs: ∀ ad,base=some ad→(storeCells (ad.add (sLen*i.size)) news.toList).run P w= .ok () w') (hs0:base=none→w'=w):
  (Builtin.append_ #[t,u] ty #[.slice base sLen sCap,x]).run P w= .ok (.slice base (sLen+n) sCap) w':=by
 have hzs:(match du with | .int _=>true | _=>false)=false:=by
  cases du<;>first | rfl | exact absurd rfl (hd _)
 cases base with
 | none=>
  rw [hs0 rfl];simp [Builtin.append_,run_underlying ht,run_underlying hu,sizeOf,typeInfo,hi,hl,hg,hx]
 | some ad=>
  have:=hs ad rfl;simp [Builtin.append_,run_underlying ht,run_underlying hu,sizeOf,typeInfo,hi,hl,hg,hx,this]
end
theorem JrT {d z by':Nat} {x y:Opd} (hc:Jy P (.ap d x y z by') o.op=true):
  ∃ c x' y' t u el i zv du,o.op= .call c∧c.callee= .builtin .append∧c.args= #[x',y']∧c.argTypes= #[t,u]∧Wo P x x'=true∧Wo P y y'=true∧z≠0∧by'≠0∧P.underlying u=some du∧(∀ k,du≠ .int k)∧
   P.underlying t=some (.slice el)∧P.info? el=some i∧i.size=z∧i.bytes=by'∧i.zero=some zv∧zv.cells.size=z:=by
 simp only [Jy] at hc;split at hc
 ·rename_i c ho
  split at hc
  ·rename_i x' y' t u hcal hargs htys
   simp only [Bool.and_eq_true,bne_iff_ne] at hc;obtain ⟨⟨⟨⟨⟨h1,h2⟩,h3⟩,h4⟩,h5⟩,h6⟩:=hc;have ha1:c.args= #[x',y']:=by have:=congrArg List.toArray hargs;simpa using this
   have ha2:c.argTypes= #[t,u]:=by have:=congrArg List.toArray htys;simpa using this
   split at h6
   ·rename_i el hel
    simp only [Bool.and_eq_true,beq_iff_eq] at h6;obtain ⟨⟨h7,h8⟩,h9⟩:=h6;split at h9
    ·rename_i zv hzv
     obtain ⟨i,hi,hsz⟩:=Jgb h7;have hby:i.bytes=by':=by unfold byT at h8;rw [hi] at h8;simpa using h8
     have hzi:i.zero=some zv:=by unfold zeT at hzv;rw [hi] at hzv;simpa using hzv
     split at h5
     ·cases h5
     ·rename_i du hnd hdu
      exact ⟨c,x',y',t,u,el,i,zv,du,ho,hcal,ha1,ha2,h1,h2,h3,h4,hdu,fun k hk=>hnd k hk,Jbd hel,hi,hsz,hby,hzi,by simpa using h9⟩
     ·cases h5
    ·cases h9
   ·cases h6
  ·cases hc
 ·cases hc
theorem Jsr {d z by':Nat} {x y:Opd} (hc:Jy P (.ap d x y z by') o.op=true) (hk:apC M z by' (evT e y) (evT e x)) (hE:OE P ρ e a [x,y]) (hm:Qt B ρ M w):
  Sim P o a w (Out B ρ (apM M z (evT e y) (evT e x)) (apV M (evT e y) (evT e x))):=by
 obtain ⟨c,x',y',t,u',el,i,zv,du,ho,hcal,ha1,ha2,h1,h2,hz0,hb0,hdu,hnd,hut,hi,hsz,hby,hzi,hzs⟩:=JrT hc;subst hsz hby;have hx:=hE x x' (by simp) h1
 have hy:=hE y y' (by simp) h2
 have key: ∀ {v:Value} {w':World} {M':Mem} {r:AV},(Builtin.append_ #[t,u'] o.type #[a.eval x',a.eval y']).run P w= .ok v w'→Out B ρ M' r v w'→Sim P o a w (Out B ρ M' r):=by
  intro v w' M' r hr ho';refine Sim.value (v:=v) (w':=w') ?_ ho'
  simp [execOp,ho,resolve,hcal,ha1,ha2,invoke,builtin,hr]
 generalize evT e x=X at*;generalize evT e y=Y at*;have hsrc:Je7 M i.size Y:=by cases X<;>simp only [apC] at hk<;>first | exact hk.1 | exact hk.2.1
 obtain ⟨news,s1,s2,s3,s4⟩:=Jly (P:=P) hm hy hsrc;have hnl:(QE M Y).length*i.size=news.length:=by rw [←s3.len,Zm s4]
 have hnewcap: ∀ need old,need≤grownCap w need old el:=fun need old=>by simp only [grownCap,Question.cut];omega
 cases X<;>simp only [apC] at hk
 case ns=>
  have hx':a.eval x'= .slice none 0 0:=hx;simp only [apV,apM];by_cases hn:(QE M Y).length=0
  ·rw [if_pos hn,if_pos hn]
   refine key (v:= .slice none 0 0) (w':=w) ?_ (Out.same (VE.of (V2.of (V1.of (VA.of (show VP ρ .ns _ from rfl))))) hm)
   rw [hx'];have:=JaR (P:=P) (w:=w) (ty:=o.type) (base:=none) (sLen:=0) (sCap:=0) hut hdu hnd hi s1 (s2 w rfl) (by omega) (fun ad h=>by cases h) (fun _=>rfl)
   rw [hn] at this;exact this
  ·rw [if_neg hn,if_neg hn]
   have hrun:=JbJ (P:=P) (w:=w) (ty:=o.type) (base:=none) (sLen:=0) (sCap:=0) hut hdu hnd hi hzi s1 (s2 w.drew rfl) (olds:= #[]) (by simp [Builtin.firstCells]) (by omega) hb0 (by
    rw [Nat.zero_add,nextslicecap_zero (by omega)];have:=hk.2;omega)
   simp only [Nat.zero_add] at hrun;have hcap:=hnewcap (QE M Y).length 0;generalize hcp:grownCap w (QE M Y).length 0 el=cap at*
   have hcs:((#[]:Array Value)++news.toArray++Builtin.zeroCells zv.cells (cap- (QE M Y).length)).size=cap*i.size:=by
    simp only [Array.size_append,List.size_toArray,size_zeroCells,hzs,←hnl,List.size_toArray];simp only [List.length_nil,Nat.zero_add];rw [←Nat.add_mul];congr 1;omega
   have hmul:(QE M Y).length*i.size≤cap*i.size:=Nat.mul_le_mul_right _ hcap
   obtain ⟨k1,k2,k3⟩:=hm.newArr ((#[]:Array Value)++news.toArray++Builtin.zeroCells zv.cells (cap- (QE M Y).length)) el (0,0) i.size (QE M Y) (w':=w.drew.alloc (.cells _ el)) (by simp) (fun b hb=>JP w.drew _ b hb) (heap_alloc_new w.drew _) rfl rfl rfl (fun i hi=>by simp) s4
    (by rw [hcs];exact hmul) (by
     have e1:((#[]:Array Value)++news.toArray++Builtin.zeroCells zv.cells (cap- (QE M Y).length)).toList.take ((QE M Y).length*i.size)=news:=by
      rw [hnl];simp
     rw [e1];exact s3)
   refine key (by rw [hx'];exact hrun) ⟨_,k2,VE.of (V2.of (V1.of (VA.of (show VP _ (.sl M.h.n 0 (QE M Y).length) _ from ⟨_,k3,Nat.le_refl _,by simp,0,cap,hcap,.inl (by simp),.inr (Nat.le_of_eq (by rw [Nat.zero_add];exact hcs.symm)),_,.inl rfl,rfl⟩)))),k1⟩
 case sl id ix len=>
  obtain ⟨p,q1,q2,q3,off,cap,q4,q5,q6,ad,had,hx'⟩:=(hx:VP ρ (.sl ..) _);have hid:=JjX hm.heap q1;obtain ⟨k1,-,k3⟩:=hk;split at k1
  ·rename_i rw' st z' xs hob
   obtain ⟨rfl,rfl,hend⟩:=k1;obtain ⟨hz,p0,rest,hA,r1,r2,r3,r4,r5,r6⟩:=JbG hm.heap q1 hob;have hpp:=r4 (by omega)
   subst hpp;have hxx:=hA.hx;obtain ⟨cc,ty,fz,v1,v2,v3,v4,v5⟩:=hA.hv;have hown:=hA.hown p (by simp)
   have hown2:ρ.own p.b= .id id:=hown.2;simp only [apV,apM,hob];rw [r1] at q5 q6 v4 v5;have hccl:cc.toList.length=p.c:=by rw [Array.length_toList];exact v2
   have hlz:(p.x-p.s)*i.size=(ix-p.s)*i.size+len*i.size:=by rw [←Nat.add_mul];congr 1;omega
   by_cases hfit:len+(QE M Y).length≤cap
   ·by_cases hn:(QE M Y).length=0
    ·rw [if_pos hn,hn]
     have hnews:news=[]:=List.eq_nil_of_length_eq_zero (by rw [←hnl,hn];omega)
     refine key (v:= .slice (some ad) len cap) (w':=w) ?_ (Out.same (VE.of (V2.of (V1.of (VA.of (show VP ρ (.sl id ix len) _ from ⟨p,q1,q2,q3,off,cap,q4,by rw [r1];exact q5,by rw [r1];exact q6,ad,had,rfl⟩))))) hm)
     rw [hx'];have:=JaR (P:=P) (w:=w) (ty:=o.type) (base:=some ad) (sLen:=len) (sCap:=cap) hut hdu hnd hi s1 (s2 w rfl) hfit (w':=w) (fun ad h=>by rw [hnews];rfl) (fun _=>rfl)
     rw [hn] at this;exact this
    ·rw [if_neg hn]
     obtain rfl:ad=⟨p.b,off,none⟩:=had.resolve_right (by omega)
     have hoff:off=p.o+(ix-p.s)*i.size:=by rcases q5 with q5 | ⟨q5,q5'⟩<;>omega
     have hmul:(len+(QE M Y).length)*i.size≤cap*i.size:=Nat.mul_le_mul_right _ hfit;rw [Nat.add_mul] at hmul;have hpos:p.o+(p.x-p.s)*i.size=off+len*i.size:=by rw [hlz,hoff];omega
     have hone:=s3.ones;have hst:=Jaf (P:=P) (off:=off+len*i.size) news 0 v1 (fun j hj=>v3 rfl j (by omega)) (by rw [←hnl];omega) hone
     rw [Nat.add_zero] at hst;have hrun:=JaR (P:=P) (w:=w) (ty:=o.type) (base:=some ⟨p.b,off,none⟩) (sLen:=len) (sCap:=cap) hut hdu hnd hi s1 (s2 w rfl) hfit (fun ad h=>by cases h;rw [Jba,List.toList_toArray];exact hst) (fun h=>by cases h)
     have hsp:(splice cc.toList (off+len*i.size) news).length=cc.size:=by rw [XK (by rw [←hnl,hccl];omega),Array.length_toList]
     have hother: ∀ b,b≠p.b→(w.setRow p.b (splice cc.toList (off+len*i.size) news).toArray).heap[b]? =w.heap[b]? :=fun b hb=>setRow_other w p.b b _ hb
     have hh:=hm.heap.growArr (ys:=QE M Y) (w':=w.setRow p.b (splice cc.toList (off+len*i.size) news).toArray) hid hz hA v1 (setRow_heap w p.b cc _ ty fz v1) (by rw [List.size_toArray,hsp,v2]) (v3 rfl) hother (by simp) s4 (by rw [hpos];omega)
      (by rw [hpos,List.toList_toArray,Jfh (Nat.le_refl _) (by rw [hccl];omega)]) (by rw [hpos,List.toList_toArray,hnl,JjK (by rw [hccl];omega)];exact s3)
     have hpl:{p with x:=p.x+(QE M Y).length}∈(ρ.growP id (QE M Y).length).pl id:=by simp [Rn.growP,hA.hpl]
     refine key (by rw [hx'];exact hrun) ⟨ρ.growP id (QE M Y).length,Rn.le_growP,VE.of (V2.of (V1.of (VA.of (show VP _ (.sl id ix (len+(QE M Y).length)) _ from ⟨_,hpl,q2,by simp only;omega,off,cap,hfit,.inl (by rw [hoff,r1]),by rw [r1];exact q6,_,.inl rfl,rfl⟩)))),?_⟩
     exact hm.turn hh Rn.le_growP rfl (fun _ _=>rfl) (by simp) (fun b hb hn=>hother b fun e=>by rw [e,hown2] at hn;simp at hn) rfl rfl rfl
   ·have hn: ¬ (QE M Y).length=0:=by omega
    rw [if_neg hn]
    have hold:(Builtin.firstCells i.size len (.slice (some ad) len cap)).run P w.drew= .ok ((cc.toList.drop off).take (len*i.size)).toArray w.drew:=by
     have hmul:len*i.size≤cap*i.size:=Nat.mul_le_mul_right _ q4;have hz0:cap=0→cap*i.size=0:=fun h=>by rw [h,Nat.zero_mul]
     have:=Jaq (P:=P) (w:=w.drew) (n:=len*i.size) (off:=off) (c:=cc) (cap:=cap*i.size) (had.imp_right hz0) (.inl hmul) v1 (by omega)
     simpa [Builtin.firstCells] using this
    have hle2:(QE M Y).length*i.bytes≤(len+(QE M Y).length)*i.bytes:=Nat.mul_le_mul_right _ (by omega)
    have hrun:=JbJ (P:=P) (w:=w) (ty:=o.type) (base:=some ad) (sLen:=len) (sCap:=cap) hut hdu hnd hi hzi s1 (s2 w.drew rfl) hold (by omega) hb0 (growslice_fits (by omega) k3)
    have hcap:=hnewcap (len+(QE M Y).length) cap;generalize hcp:grownCap w (len+(QE M Y).length) cap el=ncap at*
    have hol:((cc.toList.drop off).take (len*i.size)).length=len*i.size:=by
     have hmul:len*i.size≤cap*i.size:=Nat.mul_le_mul_right _ q4;have hz0:cap=0→cap*i.size=0:=fun h=>by rw [h,Nat.zero_mul]
     simp;omega
    have hcs:(((cc.toList.drop off).take (len*i.size)).toArray++news.toArray++Builtin.zeroCells zv.cells (ncap- (len+(QE M Y).length))).size=ncap*i.size:=by
     simp only [Array.size_append,List.size_toArray,size_zeroCells,hzs,←hnl,hol];rw [←Nat.add_mul,←Nat.add_mul];congr 1;omega
    have hmul:(len+(QE M Y).length)*i.size≤ncap*i.size:=Nat.mul_le_mul_right _ hcap;have hdl:xs.length+(QE M Y).length-ix=len+(QE M Y).length:=by omega
    have hh:=hm.heap.moveArr (s:=ix) (ys:=QE M Y) (w':=w.drew.alloc (.cells (((cc.toList.drop off).take (len*i.size)).toArray++news.toArray++Builtin.zeroCells zv.cells (ncap- (len+(QE M Y).length))) el)) hid hz hA (by simp) (fun b hb=>JP w.drew _ b hb) (heap_alloc_new w.drew _) (fun i hi=>by simp) (by omega) (by omega) s4
     (by rw [hcs,hdl];exact hmul) (by
      rw [hdl]
      have e1:(((cc.toList.drop off).take (len*i.size)).toArray++news.toArray++Builtin.zeroCells zv.cells (ncap- (len+(QE M Y).length))).toList.take ((len+(QE M Y).length)*i.size)=(cc.toList.drop off).take (len*i.size)++news:=by
       have:(len+(QE M Y).length)*i.size=((cc.toList.drop off).take (len*i.size)++news).length:=by rw [List.length_append,hol,←hnl,Nat.add_mul]
       rw [this];simp only [Array.toList_append];rw [List.take_left]
      rw [e1,Wq];refine JO.append ?_ s3
      rcases Nat.eq_zero_or_pos len with hl0 | hpos
      ·have:xs.drop ix=[]:=List.drop_of_length_le (by omega)
       rw [this,hl0];simp [flat,JO]
      ·have hoff:off=p.o+(ix-p.s)*i.size:=by rcases q5 with q5 | ⟨q5,q5'⟩<;>omega
       have hz': ∀ q,q∈told p xs→q.cells.length=i.size:=fun q hq=>hz q (List.mem_of_mem_take (List.mem_of_mem_drop hq))
       have:=v5.drop ((ix-p.s)*i.size);rw [←Jbe _ hz'] at this
       have ht:(told p xs).drop (ix-p.s)=xs.drop ix:=by
        simp only [told,List.drop_drop];rw [List.take_of_length_le (by omega)]
        congr 1;omega
       rw [ht,List.drop_take,List.drop_drop,←hoff,show (p.x-p.s)*i.size- (ix-p.s)*i.size=len*i.size by omega] at this
       exact this)
    have hpl:(⟨w.heap.size,0,i.size,ix,xs.length+(QE M Y).length,(((cc.toList.drop off).take (len*i.size)).toArray++news.toArray++Builtin.zeroCells zv.cells (ncap- (len+(QE M Y).length))).size⟩:Pl)∈
      (ρ.moveP id ⟨w.heap.size,0,i.size,ix,xs.length+(QE M Y).length,(((cc.toList.drop off).take (len*i.size)).toArray++news.toArray++Builtin.zeroCells zv.cells (ncap- (len+(QE M Y).length))).size⟩).pl id:=by simp [Rn.moveP]
    refine key (by rw [hx'];exact hrun) ⟨_,Rn.le_moveP,VE.of (V2.of (V1.of (VA.of (show VP _ (.sl id ix (len+(QE M Y).length)) _ from ⟨_,hpl,Nat.le_refl _,by simp only;omega,0,ncap,hcap,.inl (by simp),.inr (Nat.le_of_eq (by rw [Nat.zero_add];exact hcs.symm)),_,.inl rfl,rfl⟩)))),?_⟩
    exact hm.turn hh Rn.le_moveP rfl (fun b hb=>by simp only [Rn.moveP];rw [if_neg (by omega)]) (by simp) (fun b hb _=>JP w.drew _ b hb) rfl rfl rfl
  ·exact k1.elim
end ops
end Go.Vm
