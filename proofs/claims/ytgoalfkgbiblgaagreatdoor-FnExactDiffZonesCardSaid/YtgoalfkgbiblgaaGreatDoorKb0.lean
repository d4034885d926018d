import Derived.Orders
import Derived.LoopN
import Derived.Laws.World
import Derived.Laws.Sem
import GoSem.Op.String
import GoSem.Core.Utf8
import Derived.Laws.CopyRow
import Derived.Laws.Cells
import Derived.Laws.Entries
import Derived.Laws.Strings
/- The abstract machine: values, memory, operations, statements, and what running them means. No program, no memory model of Go in it. -/
set_option linter.unusedVariables false
set_option linter.unusedSimpArgs false
namespace Go.Vm
inductive AV where
 | b (x:Bool)
 | i (k:IntKind) (n:Int)
 | s (l:List UInt8)
 | np
 | pv (id off:Nat)
 | pe (id ix off ext:Nat)
 | ns
 | sl (id ix len:Nat)
 | nm
 | mp (id:Nat)
 | nf
 | fn (f:FuncId) (caps:List AV)
 | ni
 | it (id:Nat)
 | ag (xs:List AV)
 | tp (xs:List AV)
 | la (t g ix off:Nat)
 | ll (t g z len:Nat)
 | li (t g:Nat)
 | hd (b o:Nat)
 | fs (t id ix len:Nat)
 | u
instance:Inhabited AV:=⟨.u⟩
inductive Ob where
 | no
 | arr (rw:Bool) (st:Nat) (z:Nat) (xs:List AV)
 | map (rw:Bool) (es:List (AV×AV))
instance:Inhabited Ob:=⟨.no⟩
structure AH where
 n:Nat
 at':Nat→Ob
def AH.new (H:AH) (o:Ob):AH:=⟨H.n+1,fun i=>if i=H.n then o else H.at' i⟩
def AH.set (H:AH) (id:Nat) (o:Ob):AH:=⟨H.n,fun i=>if i=id then o else H.at' i⟩
structure Lv where
 t:Nat
 g:Nat
 k:Nat
 xs:List AV
structure Mem where
 l:List Lv
 g:Nat
 h:AH
abbrev Env:=List (Nat×AV)
inductive Opd where
 | t (n:Nat)
 | c (v:AV)
 | g (n:Nat)
 | f (n:Nat)
def AV.cells:AV→List AV
 | .ag xs=>xs
 | v=>[v]
def flat:List AV→List AV
 | []=>[]
 | x::r=>x.cells++flat r
def AV.isI:AV→Bool
 | .i _ _=>true
 | _=>false
def AV.toI:AV→Int
 | .i _ n=>n
 | _=>0
def AV.toK:AV→IntKind
 | .i k _=>k
 | _=> .i64
def AV.isB:AV→Bool
 | .b _=>true
 | _=>false
def AV.isS:AV→Bool
 | .s _=>true
 | _=>false
def AV.isG:AV→Bool
 | .b _=>true
 | .tp []=>true
 | _=>false
def Jim (b:Bool) (v:AV):Prop:=v= .b (!b)∨v= .tp []
def AV.toS:AV→List UInt8
 | .s l=>l
 | _=>[]
def AV.outs:AV→Bool
 | .la .. | .ll .. | .li .. | .tp _ | .u=>false
 | _=>true
def Jar:List AV→Bool
 | []=>true
 | x::r=>x.outs&&Jar r
def AV.isP:AV→Bool
 | .la .. | .ll .. | .li .. | .tp _ | .u | .ag _ | .fn .. =>false
 | _=>true
def JqT:List AV→Bool
 | []=>true
 | x::r=>x.isP&&JqT r
def partOf (cs:List AV) (off:Nat):Option Nat→AV
 | none=>cs.getD off .u
 | some n=> .ag ((cs.drop off).take n)
def JF (cs:List AV) (off:Nat):Option Nat→Prop
 | none=>off < cs.length
 | some n=>off+n≤cs.length
def Wu (cs:List AV) (off:Nat) (v:AV):List AV:=cs.take off++v.cells++cs.drop (off+v.cells.length)
def Wt:AV→Nat→AV→AV
 | .ag cs,off,v=> .ag (Wu cs off v)
 | x,_,v=>match v.cells with
  | [y]=>y
  | _=>x
def look:Env→Nat→AV
 | [],_=> .u
 | (m,v)::e,n=>if m=n then v else look e n
def evT (e:Env):Opd→AV
 | .t n=>look e n
 | .c v=>v
 | .g n=> .pv n 0
 | .f n=> .fn n []
def evO (e:Env):Option Opd→AV→AV
 | none,d=>d
 | some x,_=>evT e x
def evs (e:Env):List Opd→List AV
 | []=>[]
 | x::r=>evT e x::evs e r
def Qx:List Lv→Nat→Nat→Nat→Option (List AV)
 | [],_,_,_=>none
 | v::r,t,g,k=>if v.t=t then (if v.g=g∧v.k=k then some v.xs else none) else Qx r t g k
def Jhp:List Lv→Nat→List AV→List Lv
 | [],_,_=>[]
 | v::r,t,xs=>if v.t=t then ⟨v.t,v.g,v.k,xs⟩::r else v::Jhp r t xs
def ZK:List Lv→Nat→List Lv
 | [],_=>[]
 | v::r,t=>if v.t=t then ZK r t else v::ZK r t
def Mem.newL (M:Mem) (t k:Nat) (xs:List AV):Mem:=⟨⟨t,M.g,k,xs⟩::ZK M.l t,M.g+1,M.h⟩
def Mem.getL (M:Mem) (t g k:Nat):List AV:=(Qx M.l t g k).getD []
def Mem.hasL (M:Mem) (t g k:Nat):Bool:=(Qx M.l t g k).isSome
def Jid (H:AH):AV→Prop
 | .ns=>True
 | .sl id ix len=>match H.at' id with
  | .arr _ st _ xs=>ix+len≤xs.length∧(st=2→ix+len=xs.length)
  | _=>False
 | _=>False
def Yk (H:AH):AV→List AV
 | .sl id ix len=>match H.at' id with
  | .arr _ _ _ xs=>(xs.drop ix).take len
  | _=>[]
 | _=>[]
def slZ (H:AH) (z:Nat):AV→Prop
 | .sl id _ _=>match H.at' id with
  | .arr _ _ z' _=>z'=z
  | _=>False
 | .ll _ _ z' _=>z'=z
 | _=>True
def XR (l:List UInt8):List AV:=l.map fun b=> .i .u8 b.toNat
def Jmi:List AV→List UInt8
 | []=>[]
 | x::r=>UInt8.ofNat x.toI.toNat::Jmi r
def JjY:List AV→Prop
 | []=>True
 | x::r=>(∃ n,x= .i .u8 n)∧JjY r
def Jqk (op:BinOp) (k:IntKind) (x y:Int):Int:=
 let a:=BitVec.ofInt k.bits x
 let b:=BitVec.ofInt k.bits y
 k.wrap (match op with
  | .and=>(a&&& b).toNat
  | .or=>(a||| b).toNat
  | .xor=>(a ^^^ b).toNat
  | _=>(a&&& ~~~b).toNat)
def Zb (op:BinOp) (k:IntKind) (a b:Int):AV:=
 match op with
 | .add=> .i k (k.wrap (a+b))
 | .sub=> .i k (k.wrap (a-b))
 | .mul=> .i k (k.wrap (a*b))
 | .quo=> .i k (k.wrap (a.tdiv b))
 | .rem=> .i k (a.tmod b)
 | .shl=> .i k (k.wrap (a*2 ^ (min b.toNat k.bits)))
 | .shr=> .i k (a.fdiv (2 ^ (min b.toNat k.bits)))
 | .eql=> .b (decide (a=b))
 | .neq=> .b (!decide (a=b))
 | .lss=> .b (decide (a < b))
 | .leq=> .b (decide (a≤b))
 | .gtr=> .b (decide (b < a))
 | .geq=> .b (decide (b≤a))
 | op=> .i k (Jqk op k a b)
def Jd7 (op:BinOp) (k k':IntKind) (b:Int):Prop:=
 match op with
 | .shl | .shr=>0≤b
 | .quo | .rem=>k=k'∧b≠0
 | _=>k=k'
def Ja4 (op:BinOp) (a b:List UInt8):AV:=
 match op with
 | .add=> .s (a++b)
 | .eql=> .b (decide (a=b))
 | .neq=> .b (!decide (a=b))
 | .lss=> .b (Op.bytesLess a b)
 | .leq=> .b (Op.bytesLess a b||decide (a=b))
 | .gtr=> .b (!(Op.bytesLess a b||decide (a=b)))
 | .geq=> .b (!Op.bytesLess a b)
 | _=> .u
def Ja9 (op:BinOp) (a b:List UInt8):Prop:=
 match op with
 | .add=>a.length+b.length≤9223372036854775807
 | .eql | .neq | .lss | .leq | .gtr | .geq=>True
 | _=>False
def Jmv:Nat→AV→Option Bool
 | 0,.ns=>some true
 | 0,.sl .. =>some false
 | 1,.nm=>some true
 | 1,.mp _=>some false
 | 2,.np=>some true
 | 2,.pv .. =>some false
 | 2,.pe .. =>some false
 | 2,.la .. =>some false
 | 3,.nf=>some true
 | 3,.fn .. =>some false
 | _,_=>none
def Jkd (neg:Bool):AV→AV→AV
 | .b a,.b b=> .b ((a==b) != neg)
 | _,_=> .u
def JiO (op:BinOp) (x y:AV):AV:=
 match x,y with
 | .i k a,.i _ b=>Zb op k a b
 | .s a,.s b=>Ja4 op a b
 | _,_=> .u
def JhY (op:BinOp) (x y:AV):Prop:=
 match x,y with
 | .i k _,.i k' b=>Jd7 op k k' b
 | .s a,.s b=>Ja9 op a b
 | _,_=>False
def unV (op:UnOp):AV→AV
 | .i k n=>match op with
  | .neg=> .i k (k.wrap (0-n))
  | _=> .i k (Jqk .xor k (if k.signed then-1 else k.max) n)
 | .b x=> .b (!x)
 | _=> .u
def unC (op:UnOp):AV→Prop
 | .i _ _=>op= .neg∨op= .xor
 | .b _=>op= .not
 | _=>False
def ZF:AV→AV→Bool
 | .i _ a,.i _ b=>decide (a=b)
 | .s a,.s b=>decide (a=b)
 | .b a,.b b=>a==b
 | _,_=>false
def JW:List AV→List AV→Bool
 | [],[]=>true
 | x::r,y::q=>ZF x y&&JW r q
 | _,_=>false
inductive Ck where
 | b
 | s
 | i (k:IntKind)
 deriving DecidableEq
def AV.isCk:AV→Ck→Bool
 | .b _,.b=>true
 | .s _,.s=>true
 | .i k _,.i k'=>k==k'
 | _,_=>false
def ZA:List AV→List Ck→Bool
 | [],[]=>true
 | x::r,k::q=>x.isCk k&&ZA r q
 | _,_=>false
def JgA (c a b:AV):AV:=
 match c with
 | .b p=>match a,b with
  | .b q,.b r=> .b (bif p then q else r)
  | _,_=>bif p then a else b
 | _=> .u
inductive O where
 | mv (d:Nat) (x:Opd)
 | pk (d:Nat) (c a b:Opd)
 | bn (d:Nat) (op:BinOp) (x y:Opd)
 | un (d:Nat) (op:UnOp) (x:Opd)
 | be (d:Nat) (neg:Bool) (x y:Opd)
 | nl (d:Nat) (k:Nat) (neg:Bool) (x:Opd)
 | eqa (d:Nat) (neg:Bool) (ks:List Ck) (x y:Opd)
 | ci (d:Nat) (k:IntKind) (x:Opd)
 | cbs (d:Nat) (x:Opd)
 | csb (d:Nat) (x:Opd)
 | ex (d:Nat) (x:Opd) (i:Nat)
 | bd (d:Nat) (zero:List AV) (parts:List (Nat×Nat×Opd))
 | fd (d:Nat) (x:Opd) (off:Nat) (n:Option Nat)
 | ix (d:Nat) (x i:Opd)
 | ixa (d:Nat) (x i:Opd) (len z:Nat) (n:Option Nat)
 | ss (d:Nat) (x:Opd) (lo hi:Option Opd)
 | sl (d:Nat) (x:Opd) (lo hi:Option Opd) (z:Nat)
 | sla (d:Nat) (x:Opd) (len z:Nat)
 | ln (d:Nat) (x:Opd)
 | lns (d:Nat) (x:Opd)
 | lnm (d:Nat) (x:Opd)
 | al (d:Nat) (z:Nat) (xs:List AV)
 | bx (d:Nat) (x:Opd)
 | lal (d:Nat) (zero:AV)
 | lbx (d:Nat) (x:Opd)
 | ld (d:Nat) (x:Opd) (n:Option Nat)
 | st (x v:Opd) (n:Nat)
 | fa (d:Nat) (x:Opd) (off:Nat)
 | ia (d:Nat) (x i:Opd) (z:Nat)
 | iaa (d:Nat) (x i:Opd) (len z:Nat)
 | bs (d:Nat) (zero:AV) (z len:Nat) (parts:List (Nat×Opd))
 | lbs (d:Nat) (zero:AV) (z len:Nat) (parts:List (Nat×Opd))
 | mk (d:Nat) (zero:AV) (z by':Nat) (len:Opd)
 | ap (d:Nat) (x y:Opd) (z by':Nat)
 | cp (d:Nat) (x y:Opd) (z:Nat)
 | cl (d:Option Nat) (f:Nat) (xs:List Opd)
 | cv (d:Option Nat) (x:Opd) (xs:List Opd)
 | mf (d:Nat) (f:Nat) (caps:List Opd)
 | nc (d:Nat) (x:Opd)
 | mm (d:Nat) (mx:Bool) (x y:Opd)
 | mkm (d:Nat)
 | lk (d:Nat) (x k:Opd) (zero:AV) (ks:List Ck) (ok:Bool)
 | mu (x k v:Opd) (ks:List Ck)
 | dl (x k:Opd) (ks:List Ck)
 | rs (d:Nat) (x:Opd)
 | nx (d:Nat) (x:Opd)
 | rsm (d:Nat) (x:Opd)
 | nxm (d:Nat) (x:Opd)
 | mi (d:Nat) (t:Nat) (x:Opd)
 | en (d:Nat) (x:Opd)
 | gd (t:Nat) (b:Bool) (o:O)
abbrev Tab:=FuncId→List AV→AH→Option (AV×AH)
def Qf:List (AV×AV)→AV→Option AV
 | [],_=>none
 | e::r,k=>if JW k.cells e.1.cells=true then some e.2 else Qf r k
def Jax:List (AV×AV)→AV→AV→List (AV×AV)
 | [],k,v=>[(k,v)]
 | e::r,k,v=>if JW k.cells e.1.cells=true then (k,v)::r else e::Jax r k v
def Jh2:List (AV×AV)→AV→List (AV×AV)
 | [],_=>[]
 | e::r,k=>if JW k.cells e.1.cells=true then r else e::Jh2 r k
def Yq (H:AH):AV→List (AV×AV)
 | .mp id=>match H.at' id with
  | .map _ es=>es
  | _=>[]
 | _=>[]
def JfI (H:AH):AV→Prop
 | .nm=>True
 | .mp id=>match H.at' id with
  | .map _ _=>True
  | _=>False
 | _=>False
def Jfp (H:AH):AV→Prop
 | .mp id=>match H.at' id with
  | .map rw _=>rw=true
  | _=>False
 | _=>False
def Jfd (M:Mem) (es:List (AV×AV)):AV→Mem
 | .mp id=>⟨M.l,M.g,M.h.set id (.map true es)⟩
 | _=>M
def Jtm (ks:List Ck) (es:List (AV×AV)) (k:AV):Prop:= ∃ c,ks=[c]∧k.isCk c=true∧ ∀ e∈es,e.1.isCk c=true
def Jtt (ks:List Ck) (es:List (AV×AV)) (k:AV):Prop:=2≤ks.length∧(∃ xs,k= .ag xs∧ZA xs ks=true)∧ ∀ e∈es,∃ ys,e.1= .ag ys∧ZA ys ks=true
def Jby (ks:List Ck) (es:List (AV×AV)) (k:AV):Prop:=Jtm ks es k∨Jtt ks es k
def lkV (zero:AV) (ok:Bool) (r:Option AV):AV:=match r with
 | some v=>if ok then .tp [v,.b true] else v
 | none=>if ok then .tp [zero,.b false] else zero
def itS (M:Mem):AV→List UInt8
 | .li t g=>match M.getL t g 1 with
  | [.s l,_]=>l
  | _=>[]
 | _=>[]
def itP (M:Mem):AV→Nat
 | .li t g=>match M.getL t g 1 with
  | [_,.i _ n]=>n.toNat
  | _=>0
 | _=>0
def itC (M:Mem):AV→Prop
 | .li t g=>M.hasL t g 1=true
 | _=>False
def Jkh:Option (AV×AH)→Prop
 | some _=>True
 | none=>False
def rv:Option (AV×AH)→AV
 | some x=>x.1
 | none=> .u
def rh (H:AH):Option (AV×AH)→AH
 | some x=>x.2
 | none=>H
def JG (e:Env):List AV→List (Nat×Nat×Opd)→List AV
 | cs,[]=>cs
 | cs,(off,_,x)::r=>JG e (Wu cs off (evT e x)) r
def JH (e:Env) (n:Nat):List (Nat×Nat×Opd)→Prop
 | []=>True
 | (off,sz,x)::r=>((evT e x).cells.length=sz∧off+sz≤n∧(evT e x).outs=true)∧JH e n r
def JQ (e:Env):List AV→List (Nat×Opd)→List AV
 | xs,[]=>xs
 | xs,(i,x)::r=>JQ e (xs.set i (evT e x)) r
def JE (e:Env) (z n:Nat):List (Nat×Opd)→Prop
 | []=>True
 | (i,x)::r=>((evT e x).cells.length=z∧i < n∧(evT e x).outs=true)∧JE e z n r
def ldV (M:Mem) (n:Option Nat):AV→AV
 | .pv id off=>match M.h.at' id with
  | .arr _ _ _ xs=>partOf (flat xs) off n
  | _=> .u
 | .pe id ix off _=>match M.h.at' id with
  | .arr _ _ _ xs=>partOf (xs.getD ix .u).cells off n
  | _=> .u
 | .la t g ix off=>partOf ((M.getL t g 0).getD ix .u).cells off n
 | _=> .u
def ldC (M:Mem) (n:Option Nat):AV→Prop
 | .pv id off=>n=some 0∨match M.h.at' id with
  | .arr _ st _ xs=>st=0∧JF (flat xs) off n
  | _=>False
 | .pe id ix off ext=>match M.h.at' id with
  | .arr _ st _ xs=>(st=2→ext=xs.length)∧ix < xs.length∧JF (xs.getD ix .u).cells off n
  | _=>False
 | .la t g ix off=>M.hasL t g 0=true∧ix < (M.getL t g 0).length∧JF ((M.getL t g 0).getD ix .u).cells off n
 | _=>False
def ldX (M:Mem) (n:Option Nat) (a:AV):AV:=match n,a with
 | some 0,.pv _ _=> .ag []
 | _,_=>ldV M n a
def stM (M:Mem) (v:AV):AV→Mem
 | .pv id off=>match M.h.at' id with
  | .arr rw st z [x]=>⟨M.l,M.g,M.h.set id (.arr rw st z [Wt x off v])⟩
  | .arr rw st z xs=>⟨M.l,M.g,M.h.set id (.arr rw st z (Wu xs off v))⟩
  | _=>M
 | .pe id ix off _=>match M.h.at' id with
  | .arr rw st z xs=>⟨M.l,M.g,M.h.set id (.arr rw (if st=0 then 0 else 2) z (xs.set ix (Wt (xs.getD ix .u) off v)))⟩
  | _=>M
 | .la t g ix off=>⟨Jhp M.l t ((M.getL t g 0).set ix (Wt ((M.getL t g 0).getD ix .u) off v)),M.g,M.h⟩
 | _=>M
def stC (M:Mem) (v:AV):AV→Prop
 | .pv id off=>match M.h.at' id with
  | .arr rw st z [x]=>rw=true∧st=0∧x.cells.length=z∧off+v.cells.length≤z
  | .arr rw st z xs=>rw=true∧st=0∧z=1∧off+v.cells.length≤xs.length∧(∀ x∈xs,x.cells=[x])∧(∀ x∈v.cells,x.cells=[x])
  | _=>False
 | .pe id ix off ext=>match M.h.at' id with
  | .arr rw _ _ xs=>rw=true∧ext=xs.length∧ix < xs.length∧off+v.cells.length≤(xs.getD ix .u).cells.length
  | _=>False
 | .la t g ix off=>M.hasL t g 0=true∧ix < (M.getL t g 0).length∧off+v.cells.length≤((M.getL t g 0).getD ix .u).cells.length
 | _=>False
def faV (off:Nat):AV→AV
 | .pv id o=> .pv id (o+off)
 | .pe id ix o ext=> .pe id ix (o+off) ext
 | .la t g ix o=> .la t g ix (o+off)
 | _=> .u
def faC:AV→Prop
 | .pv .. | .pe .. | .la .. =>True
 | _=>False
def iaV (j:Nat):AV→AV
 | .sl id ix len=> .pe id (ix+j) 0 (ix+len)
 | .ll t g _ _=> .la t g j 0
 | _=> .u
def iaC (j:Int):AV→Prop
 | .sl _ _ len=>0≤j∧j < len
 | .ll _ _ _ len=>0≤j∧j < len
 | _=>False
def Jhx:AV→AV
 | .ns=> .i .i64 0
 | .sl _ _ len=> .i .i64 len
 | .ll _ _ _ len=> .i .i64 len
 | _=> .u
def JlE:AV→Prop
 | .ns | .sl .. | .ll .. =>True
 | _=>False
def slV (lo hi:Nat):AV→AV
 | .sl id ix _=> .sl id (ix+lo) (hi-lo)
 | v=>v
def slC (lo hi:Int):AV→Prop
 | .sl _ _ len=>0≤lo∧lo≤hi∧hi≤len
 | .ns=>lo=0∧hi=0
 | _=>False
def QE (M:Mem):AV→List AV
 | .s l=>XR l
 | .ll t g _ _=>M.getL t g 0
 | v=>Yk M.h v
def Je7 (M:Mem) (z:Nat):AV→Prop
 | .s _=>z=1
 | .ll t g z' len=>M.hasL t g 0=true∧len=(M.getL t g 0).length∧z'=z
 | v=>Jid M.h v∧slZ M.h z v
def apV (M:Mem) (y:AV):AV→AV
 | .sl id ix len=> .sl id ix (len+(QE M y).length)
 | .ns=>if (QE M y).length=0 then .ns else .sl M.h.n 0 (QE M y).length
 | _=> .u
def apM (M:Mem) (z:Nat) (y:AV):AV→Mem
 | .sl id _ _=>match M.h.at' id with
  | .arr rw st z' xs=>if (QE M y).length=0 then M else ⟨M.l,M.g,M.h.set id (.arr rw (if st=2 then 2 else 1) z' (xs++QE M y))⟩
  | _=>M
 | .ns=>if (QE M y).length=0 then M else ⟨M.l,M.g,M.h.new (.arr true 0 z (QE M y))⟩
 | _=>M
def apC (M:Mem) (z by':Nat) (y:AV):AV→Prop
 | .sl id ix len=>(match M.h.at' id with
  | .arr rw _ z' xs=>rw=true∧z'=z∧ix+len=xs.length
  | _=>False)∧Je7 M z y∧(len+(QE M y).length)*by'≤140737488355328
 | .ns=>Je7 M z y∧(QE M y).length*by'≤140737488355328
 | _=>False
def cpN (M:Mem) (y:AV):AV→Nat
 | .sl _ _ len=>min (QE M y).length len
 | _=>0
def cpM (M:Mem) (y:AV) (x:AV):Mem:=match x with
 | .sl id ix _=>match M.h.at' id with
  | .arr rw st z xs=>if cpN M y x=0 then M else
   ⟨M.l,M.g,M.h.set id (.arr rw (if st=0 then 0 else 2) z (xs.take ix++(QE M y).take (cpN M y x)++xs.drop (ix+cpN M y x)))⟩
  | _=>M
 | _=>M
def cpC (M:Mem) (z:Nat) (y:AV) (x:AV):Prop:=Je7 M z y∧(match x with
 | .sl id ix len=>match M.h.at' id with
  | .arr rw st z' xs=>rw=true∧z'=z∧(st=0∨ix+len=xs.length)∧ix+len≤xs.length
  | _=>False
 | .ns=>True
 | _=>False)
def nmX (M:Mem):AV→List AV
 | .li t g=>M.getL t g 2
 | _=>[]
def Jdd (M:Mem) (v:AV):AV:=(nmX M v).getD 0 .u
def ZC (M:Mem) (v:AV):List Nat:=((nmX M v).getD 2 .u).cells.map fun x=>x.toI.toNat
def nmC (M:Mem) (v:AV):Prop:=(∃ t g id n seen,v= .li t g∧Qx M.l t g 2=some [.mp id,.i .i64 n,.ag seen]∧((Yq M.h (.mp id)).length:Int)=n)∧Jfp M.h (Jdd M v)
def Jfz (M:Mem) (v:AV):Nat:=(ZC M v).getLastD 0
def okO (C:Tab) (e:Env) (M:Mem):O→Prop
 | .mv _ _=>True
 | .pk _ c _ _=>(evT e c).isB=true
 | .bn _ op x y=>JhY op (evT e x) (evT e y)
 | .un _ op x=>unC op (evT e x)
 | .be _ _ x y=>(evT e x).isB=true∧(evT e y).isB=true
 | .nl _ k _ x=>(Jmv k (evT e x)).isSome=true
 | .eqa _ _ ks x y=>(∃ xs ys,evT e x= .ag xs∧evT e y= .ag ys∧ZA xs ks=true∧ZA ys ks=true)
 | .ci _ _ x=>(evT e x).isI=true
 | .cbs _ x=>Jid M.h (evT e x)∧slZ M.h 1 (evT e x)∧JjY (Yk M.h (evT e x))
 | .csb _ x=>(evT e x).isS=true
 | .ex _ x i=> ∃ xs,evT e x= .tp xs∧i < xs.length
 | .bd _ zero parts=>JH e zero.length parts
 | .fd _ x off n=> ∃ cs,evT e x= .ag cs∧JF cs off n
 | .ix _ x i=>(evT e x).isS=true∧(evT e i).isI=true∧0≤(evT e i).toI∧(evT e i).toI < (evT e x).toS.length
 | .ixa _ x i len z n=>(∃ cs,evT e x= .ag cs∧JF cs ((evT e i).toI.toNat*z) n)∧(evT e i).isI=true∧0≤(evT e i).toI∧(evT e i).toI < len
 | .ss _ x lo hi=>(evT e x).isS=true∧((evO e lo (.i .i64 0)).isI=true∧(evO e hi (.i .i64 (evT e x).toS.length)).isI=true)∧
   0≤(evO e lo (.i .i64 0)).toI∧(evO e lo (.i .i64 0)).toI≤(evO e hi (.i .i64 (evT e x).toS.length)).toI∧(evO e hi (.i .i64 (evT e x).toS.length)).toI≤(evT e x).toS.length
 | .sl _ x lo hi z=>JlE (evT e x)∧slZ M.h z (evT e x)∧((evO e lo (.i .i64 0)).isI=true∧(evO e hi (Jhx (evT e x))).isI=true)∧
   slC (evO e lo (.i .i64 0)).toI (evO e hi (Jhx (evT e x))).toI (evT e x)
 | .sla _ x len z=> ∃ id,evT e x= .pv id 0∧ ∃ rw xs,M.h.at' id= .arr rw 0 z xs∧xs.length=len
 | .ln _ x=>JlE (evT e x)
 | .lns _ x=>(evT e x).isS=true
 | .lnm _ x=>JfI M.h (evT e x)
 | .al _ _ _=>True
 | .bx _ x=>(evT e x).outs=true
 | .lal _ _=>True
 | .lbx _ x=>(evT e x).outs=true
 | .ld _ x n=>ldC M n (evT e x)
 | .st x v n=>(evT e v).cells.length=n∧(evT e v).outs=true∧stC M (evT e v) (evT e x)
 | .fa _ x _=>faC (evT e x)
 | .ia _ x i z=>(evT e i).isI=true∧slZ M.h z (evT e x)∧iaC (evT e i).toI (evT e x)
 | .iaa _ x i len _=>faC (evT e x)∧(evT e i).isI=true∧0≤(evT e i).toI∧(evT e i).toI < len
 | .bs _ _ z len parts=>JE e z len parts
 | .lbs _ _ z len parts=>JE e z len parts
 | .mk _ _ _ by' n=>(evT e n).isI=true∧0≤(evT e n).toI∧(evT e n).toI*by'≤281474976710656∧(evT e n).toI≤9223372036854775807
 | .ap _ x y z by'=>apC M z by' (evT e y) (evT e x)
 | .cp _ x y z=>cpC M z (evT e y) (evT e x)
 | .cl _ f xs=>Jar (evs e xs)=true∧Jkh (C f (evs e xs) M.h)
 | .cv _ x xs=>(∃ f cs,evT e x= .fn f cs)∧Jar (evs e xs)=true∧(match evT e x with | .fn f cs=>Jkh (C f (evs e xs++cs) M.h) | _=>False)
 | .mf _ _ caps=>JqT (evs e caps)=true
 | .nc _ x=>(match evT e x with | .pv .. | .pe .. | .la .. | .fn .. =>True | _=>False)
 | .mm _ _ x y=>(evT e x).isI=true∧(evT e y).isI=true∧(evT e x).toK=(evT e y).toK
 | .mkm _=>True
 | .lk _ x k _ ks _=>JfI M.h (evT e x)∧Jby ks (Yq M.h (evT e x)) (evT e k)
 | .mu x k v ks=>Jfp M.h (evT e x)∧Jby ks (Yq M.h (evT e x)) (evT e k)∧(evT e v).outs=true
 | .dl x k ks=>Jfp M.h (evT e x)∧Jby ks (Yq M.h (evT e x)) (evT e k)
 | .rs _ x=>(evT e x).isS=true
 | .nx _ x=>itC M (evT e x)
 | .rsm _ x=>Jfp M.h (evT e x)
 | .nxm .. =>False
 | .en _ x=>nmC M (evT e x)∧ZC M (evT e x) ≠ []∧Jfz M (evT e x) < (Yq M.h (Jdd M (evT e x))).length
 | .mi _ _ x=>(match evT e x with | .sl .. =>True | _=>False)
 | .gd .. =>False
def vlO (C:Tab) (e:Env) (M:Mem):O→AV
 | .mv _ x=>evT e x
 | .pk _ c a b=>JgA (evT e c) (evT e a) (evT e b)
 | .bn _ op x y=>JiO op (evT e x) (evT e y)
 | .un _ op x=>unV op (evT e x)
 | .be _ neg x y=>Jkd neg (evT e x) (evT e y)
 | .nl _ k neg x=> .b (((Jmv k (evT e x)).getD false) != neg)
 | .eqa _ neg _ x y=> .b (JW (evT e x).cells (evT e y).cells != neg)
 | .ci _ k x=> .i k (k.wrap (evT e x).toI)
 | .cbs _ x=> .s (Jmi (Yk M.h (evT e x)))
 | .csb _ x=> .sl M.h.n 0 (evT e x).toS.length
 | .ex _ x i=>(match evT e x with | .tp xs=>xs.getD i .u | _=> .u)
 | .bd _ zero parts=> .ag (JG e zero parts)
 | .fd _ x off n=>partOf (evT e x).cells off n
 | .ix _ x i=> .i .u8 ((evT e x).toS.getD (evT e i).toI.toNat 0).toNat
 | .ixa _ x i _ z n=>partOf (evT e x).cells ((evT e i).toI.toNat*z) n
 | .ss _ x lo hi=> .s (((evT e x).toS.drop (evO e lo (.i .i64 0)).toI.toNat).take ((evO e hi (.i .i64 (evT e x).toS.length)).toI.toNat- (evO e lo (.i .i64 0)).toI.toNat))
 | .sl _ x lo hi _=>slV (evO e lo (.i .i64 0)).toI.toNat (evO e hi (Jhx (evT e x))).toI.toNat (evT e x)
 | .sla _ x len _=>(match evT e x with | .pv id _=> .sl id 0 len | _=> .u)
 | .ln _ x=>Jhx (evT e x)
 | .lns _ x=> .i .i64 (evT e x).toS.length
 | .lnm _ x=> .i .i64 (Yq M.h (evT e x)).length
 | .al _ _ _=> .pv M.h.n 0
 | .bx _ _=> .pv M.h.n 0
 | .lal d _=> .la d M.g 0 0
 | .lbx d _=> .la d M.g 0 0
 | .ld _ x n=>ldX M n (evT e x)
 | .st .. => .u
 | .fa _ x off=>faV off (evT e x)
 | .ia _ x i _=>iaV (evT e i).toI.toNat (evT e x)
 | .iaa _ x i _ z=>faV ((evT e i).toI.toNat*z) (evT e x)
 | .bs _ _ _ len _=> .sl M.h.n 0 len
 | .lbs d _ z len _=> .ll d M.g z len
 | .mk _ _ _ _ n=> .sl M.h.n 0 (evT e n).toI.toNat
 | .ap _ x y _ _=>apV M (evT e y) (evT e x)
 | .cp _ x y _=> .i .i64 (cpN M (evT e y) (evT e x))
 | .cl _ f xs=>rv (C f (evs e xs) M.h)
 | .cv _ x xs=>(match evT e x with | .fn f cs=>rv (C f (evs e xs++cs) M.h) | _=> .u)
 | .mf _ f caps=> .fn f (evs e caps)
 | .nc _ x=>evT e x
 | .mm _ mx x y=> .i (evT e x).toK (if mx then (if (evT e x).toI < (evT e y).toI then (evT e y).toI else (evT e x).toI) else (if (evT e y).toI < (evT e x).toI then (evT e y).toI else (evT e x).toI))
 | .mkm _=> .mp M.h.n
 | .lk _ x k zero _ ok=>lkV zero ok (Qf (Yq M.h (evT e x)) (evT e k))
 | .mu .. => .u
 | .dl .. => .tp []
 | .rs d _=> .li d M.g
 | .nx _ x=>if itP M (evT e x) < (itS M (evT e x)).length then .tp [.b true,.i .i64 (itP M (evT e x)),.i .i32 (Utf8.decode ⟨(itS M (evT e x)).toArray⟩ (itP M (evT e x))).1] else .tp [.b false]
 | .rsm d _=> .li d M.g
 | .nxm .. => .u
 | .en _ x=> .tp [((Yq M.h (Jdd M (evT e x))).getD (Jfz M (evT e x)) (.u,.u)).1,((Yq M.h (Jdd M (evT e x))).getD (Jfz M (evT e x)) (.u,.u)).2]
 | .mi _ t x=>(match evT e x with | .sl id ix len=> .fs t id ix len | _=> .u)
 | .gd .. => .u
def mmO (C:Tab) (e:Env) (M:Mem):O→Mem
 | .csb _ x=>⟨M.l,M.g,M.h.new (.arr true 0 1 (XR (evT e x).toS))⟩
 | .al _ z xs=>⟨M.l,M.g,M.h.new (.arr true 0 z xs)⟩
 | .bx _ x=>⟨M.l,M.g,M.h.new (.arr true 0 (evT e x).cells.length [evT e x])⟩
 | .lal d zero=>M.newL d 0 [zero]
 | .lbx d x=>M.newL d 0 [evT e x]
 | .st x v _=>stM M (evT e v) (evT e x)
 | .bs _ zero z len parts=>⟨M.l,M.g,M.h.new (.arr true 0 z (JQ e (List.replicate len zero) parts))⟩
 | .lbs d zero z len parts=>M.newL d 0 (JQ e (List.replicate len zero) parts)
 | .mk _ zero z _ n=>⟨M.l,M.g,M.h.new (.arr true 0 z (List.replicate (evT e n).toI.toNat zero))⟩
 | .ap _ x y z _=>apM M z (evT e y) (evT e x)
 | .cp _ x y _=>cpM M (evT e y) (evT e x)
 | .cl _ f xs=>⟨M.l,M.g,rh M.h (C f (evs e xs) M.h)⟩
 | .mkm _=>⟨M.l,M.g,M.h.new (.map true [])⟩
 | .mu x k v _=>Jfd M (Jax (Yq M.h (evT e x)) (evT e k) (evT e v)) (evT e x)
 | .dl x k _=>Jfd M (Jh2 (Yq M.h (evT e x)) (evT e k)) (evT e x)
 | .rs d x=>M.newL d 1 [evT e x,.i .i64 0]
 | .rsm d x=>M.newL d 2 [evT e x,.i .i64 (Yq M.h (evT e x)).length,.ag []]
 | .nx _ x=>(match evT e x with | .li t _=>if itP M (evT e x) < (itS M (evT e x)).length then ⟨Jhp M.l t [.s (itS M (evT e x)),.i .i64 (itP M (evT e x)+(Utf8.decode ⟨(itS M (evT e x)).toArray⟩ (itP M (evT e x))).2:Nat)],M.g,M.h⟩ else M | _=>M)
 | .cv _ x xs=>(match evT e x with | .fn f cs=>⟨M.l,M.g,rh M.h (C f (evs e xs++cs) M.h)⟩ | _=>M)
 | _=>M
def dsO:O→Option Nat
 | .mv d _ | .pk d .. | .bn d .. | .un d .. | .be d .. | .nl d .. | .eqa d .. | .ci d .. | .cbs d _ | .csb d _ | .ex d .. | .bd d .. | .fd d .. | .ix d .. | .ixa d .. | .ss d .. | .sl d .. | .sla d .. | .ln d _ | .lns d _ | .lnm d _
 | .al d .. | .bx d _ | .lal d _ | .lbx d _ | .ld d .. | .fa d .. | .ia d .. | .iaa d .. | .bs d .. | .lbs d .. | .mk d .. | .ap d .. | .cp d .. | .mf d .. | .nc d _ | .mm d .. | .mkm d | .lk d .. | .rs d _ | .nx d _ | .rsm d _ | .nxm d _ | .mi d _ _ | .en d _=>some d
 | .st .. | .mu .. | .dl .. =>none
 | .cl d .. | .cv d .. =>d
 | .gd _ _ o=>dsO o
def J3:Option Nat→AV→Env→Env
 | some d,v,e=>(d,v)::e
 | none,_,e=>e
def nmM (M:Mem) (v:AV) (j:Nat):Mem:=match v with
 | .li t _=>⟨Jhp M.l t [Jdd M v,(nmX M v).getD 1 .u,.ag (((nmX M v).getD 2 .u).cells++[.i .i64 j])],M.g,M.h⟩
 | _=>M
def JN (C:Tab):List O→Env→Mem→(Env→Mem→Prop)→Prop
 | [],e,M,κ=>κ e M
 | .gd t b o::l,e,M,κ=>(look e t).isG=true∧
   (look e t= .b b→okO C e M o∧JN C l (J3 (dsO o) (vlO C e M o) e) (mmO C e M o) κ)∧
   (Jim b (look e t)→JN C l (J3 (dsO o) (.tp []) e) M κ)
 | .nxm d x::l,e,M,κ=>nmC M (evT e x)∧
   (∀ j,j < (Yq M.h (Jdd M (evT e x))).length→ ¬ j∈ZC M (evT e x)→JN C l ((d,.tp [.b true,((Yq M.h (Jdd M (evT e x))).getD j (.u,.u)).1,((Yq M.h (Jdd M (evT e x))).getD j (.u,.u)).2])::e) (nmM M (evT e x) j) κ)∧
   ((∀ j,j < (Yq M.h (Jdd M (evT e x))).length→j∈ZC M (evT e x))→JN C l ((d,.tp [.b false])::e) M κ)
 | o::l,e,M,κ=>okO C e M o∧JN C l (J3 (dsO o) (vlO C e M o) e) (mmO C e M o) κ
structure PO where
 o:O
 cf:List Nat
 kp:Bool
structure Lg where
 i:Nat
 o:O
 e:Env
 M:Mem
def J6:O→Bool
 | .ld .. | .cbs .. | .lnm .. | .lk .. | .ia .. | .sl .. | .sla .. =>true
 | _=>false
def Qs:List Lg→Nat→Option Lg
 | [],_=>none
 | x::r,i=>if x.i=i then some x else Qs r i
def cfC (C:Tab) (lg:List Lg) (o:O) (e:Env) (M:Mem):List Nat→Prop
 | []=>True
 | i::r=>(match Qs lg i with
   | none=>True
   | some x=>if J6 o then okO C e x.M o∧vlO C e x.M o=vlO C e M o else okO C x.e (mmO C e M o) x.o∧vlO C x.e (mmO C e M o) x.o=vlO C x.e x.M x.o)∧cfC C lg o e M r
def Qb (kp:Bool) (i:Nat) (o:O) (e:Env) (M:Mem) (lg:List Lg):List Lg:=if kp then ⟨i,o,e,M⟩::lg else lg
def JZ (C:Tab):Nat→List Lg→List PO→Env→Mem→(Env→Mem→Prop)→Prop
 | _,_,[],e,M,κ=>κ e M
 | i,lg,⟨.gd t b o,cf,kp⟩::l,e,M,κ=>(look e t).isG=true∧
   (look e t= .b b→okO C e M o∧cfC C lg o e M cf∧JZ C (i+1) (Qb kp i o e M lg) l (J3 (dsO o) (vlO C e M o) e) (mmO C e M o) κ)∧
   (Jim b (look e t)→JZ C (i+1) lg l (J3 (dsO o) (.tp []) e) M κ)
 | i,lg,⟨o,cf,kp⟩::l,e,M,κ=>okO C e M o∧cfC C lg o e M cf∧JZ C (i+1) (Qb kp i o e M lg) l (J3 (dsO o) (vlO C e M o) e) (mmO C e M o) κ
inductive S where
 | k
 | o (l:List O)
 | p (l:List PO)
 | q (a b:S)
 | i (c:Opd) (a b:S)
 | b (id:Nat) (s:S)
 | l (live:List Nat) (s:S)
 | x (id:Nat)
 | r
inductive X where
 | nx
 | ex (id:Nat)
 | rt
abbrev Jaa:=X→Env→Mem→Prop
def JbT (e:Env):List Nat→Env
 | []=>[]
 | t::r=>(t,look e t)::JbT e r
def JdN:List Nat→Nat→Bool
 | [],_=>false
 | m::r,n=>if m=n then true else JdN r n
def JJ (live:List Nat):List Lv→List Lv
 | []=>[]
 | v::r=>if JdN live v.t then v::JJ live r else JJ live r
def Mem.keep (live:List Nat) (M:Mem):Mem:=⟨JJ live M.l,M.g,M.h⟩
def JoP (κ:Jaa):Env→Mem→Prop:=fun e M=>κ .nx e M
def JiM (run:Env→Mem→Jaa→Prop) (κ:Jaa):Jaa
 | .nx,e,M=>run e M κ
 | x,e,M=>κ x e M
def JgV (id:Nat) (κ:Jaa):Jaa
 | .ex j,e,M=>if j=id then κ .nx e M else κ (.ex j) e M
 | x,e,M=>κ x e M
def JjL (body:Env→Mem→Jaa→Prop) (live:List Nat) (κ:Jaa):Nat→Env→Mem→Prop
 | 0,_,_=>False
 | n+1,e,M=>body (JbT e live) (M.keep live) (JiM (fun e M _=>JjL body live κ n e M) κ)
def exec (C:Tab):S→Env→Mem→Jaa→Prop
 | .k,e,M,κ=>κ .nx e M
 | .o l,e,M,κ=>JN C l e M (JoP κ)
 | .p l,e,M,κ=>JZ C 0 [] l e M (JoP κ)
 | .q a b,e,M,κ=>exec C a e M (JiM (exec C b) κ)
 | .i c a b,e,M,κ=>(evT e c).isB=true∧(evT e c= .b true→exec C a e M κ)∧(evT e c= .b false→exec C b e M κ)
 | .b id s,e,M,κ=>exec C s e M (JgV id κ)
 | .l live s,e,M,κ=> ∃ n,JjL (exec C s) live κ n e M
 | .x id,e,M,κ=>κ (.ex id) e M
 | .r,e,M,κ=>κ .rt e M
inductive Rs where
 | t (n:Nat)
 | c (n:Nat) (sz:Option Nat)
structure Fn where
 np:Nat
 rs:List Rs
 s:S
def rsC (e:Env) (M:Mem):List Rs→Prop
 | []=>True
 | .t n::r=>(look e n).outs=true∧rsC e M r
 | .c n sz::r=>ldC M sz (look e n)∧rsC e M r
def rsV (e:Env) (M:Mem):List Rs→List AV
 | []=>[]
 | .t n::r=>look e n::rsV e M r
 | .c n sz::r=>ldX M sz (look e n)::rsV e M r
def Js (l:List AV):AV:=match l with
 | [x]=>x
 | l=> .tp l
def args:Nat→List AV→Env
 | _,[]=>[]
 | i,x::r=>(i,x)::args (i+1) r
def Jni:AV→Value→Bool
 | .b x,.bool y=>x==y
 | .i k n,.int k' m=>k==k'&&n==m
 | .s l,.string s=>l==s.data.toList
 | .np,.pointer p=>p.isNone
 | .ns,.slice p l c=>p.isNone&&l==0&&c==0
 | .nm,.map p=>p.isNone
 | .nf,.nilFunc=>true
 | .ni,.nilIface=>true
 | _,_=>false
def Jfs:List AV→List Value→Bool
 | [],[]=>true
 | x::r,y::q=>Jni x y&&Jfs r q
 | _,_=>false
def JqL:AV→Value→Bool
 | .ag xs,.agg ys=>Jfs xs ys.toList
 | .ag _,_=>false
 | x,y=>Jni x y
def atom:AV→Bool
 | .b _ | .i _ _ | .s _ | .np | .ns | .nm | .nf | .ni=>true
 | _=>false
def atoms:List AV→Bool
 | []=>true
 | x::r=>atom x&&atoms r
def plain:AV→Bool
 | .ag xs=>atoms xs
 | x=>atom x
def Jls (v:AV) (w:Value):Bool:=plain v&&JqL v w
def Wo (P:Program):Opd→Operand→Bool
 | .t n,.tmp m=>n==m
 | .c v,.const w=>Jls v w
 | .g n,.global m=>n==m&&decide (n < P.globals.size)
 | .f n,.func m=>n==m
 | _,_=>false
def Jdm (P:Program):List Opd→List Operand→Bool
 | [],[]=>true
 | x::r,y::q=>Wo P x y&&Jdm P r q
 | _,_=>false
def Jej (P:Program):Option Opd→Option Operand→Bool
 | none,none=>true
 | some x,some y=>Wo P x y
 | _,_=>false
section
variable (P:Program)
def szT (t:TypeId):Option Nat:=(P.info? t).map (·.size)
def byT (t:TypeId):Option Nat:=(P.info? t).map (·.bytes)
def zeT (t:TypeId):Option Value:=(P.info? t).bind (·.zero)
def nT (t:TypeId):Option (Option Nat):=
 match P.underlying t with
 | some (.struct _) | some (.array _ _)=>(szT P t).map some
 | some _=>some none
 | none=>none
def elT (t:TypeId):Option TypeId:=
 match P.underlying t with
 | some (.slice e)=>some e
 | _=>none
def arT (t:TypeId):Option (Nat×TypeId):=
 match P.underlying t with
 | some (.array n e)=>some (n,e)
 | _=>none
def Jug (t:TypeId) (k:IntKind):Bool:=
 match P.underlying t with
 | some (.int k')=>k==k'
 | _=>false
def JoM (t:TypeId):Bool:=
 match P.underlying t with
 | some .string=>true
 | _=>false
def boolT (t:TypeId):Bool:=
 match P.underlying t with
 | some .bool=>true
 | _=>false
def Ji8 (t:TypeId):Bool:=
 match elT P t with
 | some e=>Jug P e .u8
 | none=>false
def JtU (t:TypeId) (f:Nat):Option Field:=
 match P.underlying t with
 | some (.struct fs)=>fs[f]?
 | _=>none
def Jmh (g:TypeId→Option (List Ck)):Nat→List Field→Option (List Ck)
 | _,[]=>some []
 | off,f::r=>
  if f.name== "_" ||f.offset != off then none else
  match g f.type with
  | none=>none
  | some ks=>
   if szT P f.type != some ks.length then none else
   match Jmh g (off+ks.length) r with
   | some qs=>some (ks++qs)
   | none=>none
def ckT:Nat→TypeId→Option (List Ck)
 | 0,_=>none
 | d+1,t=>
  match P.underlying t with
  | some .bool=>some [.b]
  | some .string=>some [.s]
  | some (.int k)=>some [.i k]
  | some (.struct fs)=>if P.stoodInHeld t||fs.isEmpty then none else Jmh P (ckT d) 0 fs.toList
  | _=>none
def isStr (t:TypeId):Bool:=match P.underlying t with
 | some (.struct _)=>true
 | _=>false
def JoC (t:TypeId) (ks:List Ck):Option TypeId:=
 match P.underlying t with
 | some (.map k e)=>if ckT P 1 k==some ks&&ks.length==1 then some e else if ckT P 2 k==some ks&&2≤ks.length&&isStr P k then some e else none
 | _=>none
def Jbm (e:Nat→Option (Nat×Nat)):List (Nat×Nat×Opd)→List (Nat×Operand)→Bool
 | [],[]=>true
 | (off,sz,x)::r,(i,y)::q=>e i==some (off,sz) &&Wo P x y&&Jbm e r q
 | _,_=>false
def Jc7:List (Nat×Opd)→List (Nat×Operand)→Bool
 | [],[]=>true
 | (i,x)::r,(j,y)::q=>i==j&&Wo P x y&&Jc7 r q
 | _,_=>false
def place (t:TypeId) (i:Nat):Option (Nat×Nat):=
 match P.underlying t with
 | some (.struct fs)=>match fs[i]? with
  | some f=>(szT P f.type).map fun s=>(f.offset,s)
  | none=>none
 | some (.array _ e)=>(szT P e).map fun s=>(i*s,s)
 | _=>none
def Jec (t:TypeId):Bool:=
 match P.underlying t with
 | some (.struct fs)=>fs.all fun f=>(szT P f.type).isSome
 | some (.array _ e)=>(szT P e).isSome
 | _=>false
def Jy (x:O) (op:Op):Bool:=
 match x with
 | .mv _ x=>(match op with | .move y=>Wo P x y | .assign y=>Wo P x y | _=>false)
 | .pk _ c a b=>(match op with | .pick c' a' b'=>Wo P c c'&&Wo P a a'&&Wo P b b' | _=>false)
 | .bn _ o x y=>(match op with | .binOp o' _ x' y' _=>o==o'&&Wo P x x'&&Wo P y y' | _=>false)
 | .un _ o x=>(match op with | .unOp o' _ x'=>o==o'&&Wo P x x' | _=>false)
 | .be _ neg x y=>(match op with | .binOp o' t x' y' _=>o'== (if neg then BinOp.neq else BinOp.eql) &&boolT P t&&Wo P x x'&&Wo P y y' | _=>false)
 | .nl _ k neg x=>(match op with
  | .binOp o' t x' (.const c) _=>o'== (if neg then BinOp.neq else BinOp.eql) &&Wo P x x'&& (match k,P.underlying t,c with
   | 0,some (.slice _),.slice none 0 0=>true
   | 1,some (.map _ _),.map none=>true
   | 2,some (.pointer _),.pointer none=>true
   | 3,some (.func _ _ _),.nilFunc=>true
   | _,_,_=>false)
  | _=>false)
 | .eqa _ neg ks x y=>(match op with
  | .binOp o' t x' y' _=>o'== (if neg then BinOp.neq else BinOp.eql) &&Wo P x x'&&Wo P y y'&&ckT P 2 t==some ks&& (match P.underlying t with | some (.struct _)=>true | _=>false) && !P.eqGuardType P.depth t
  | _=>false)
 | .ci _ k x=>(match op with | .convert s t x'=>Wo P x x'&&Jug P t k&& (P.underlying s).isSome | _=>false)
 | .cbs _ x=>(match op with | .convert s t x'=>Wo P x x'&&Ji8 P s&&JoM P t | _=>false)
 | .csb _ x=>(match op with | .convert s t x'=>Wo P x x'&&JoM P s&&Ji8 P t | _=>false)
 | .ex _ x i=>(match op with | .extract x' j=>Wo P x x'&&i==j | _=>false)
 | .bd _ zero parts=>(match op with | .build t ps=>(match zeT P t with | some z=>Jls (.ag zero) z | none=>false) &&Jec P t&&Jbm P (place P t) parts ps.toList | _=>false)
 | .fd _ x off n=>(match op with | .field t x' f=>Wo P x x'&& (match JtU P t f with | some g=>g.offset==off&&nT P g.type==some n | none=>false) | _=>false)
 | .ix _ x i=>(match op with | .index t x' i'=>Wo P x x'&&Wo P i i'&&JoM P t | _=>false)
 | .ixa _ x i len z n=>(match op with | .index t x' i'=>Wo P x x'&&Wo P i i'&& (match arT P t with | some (l,e)=>l==len&&szT P e==some z&&nT P e==some n | none=>false) | _=>false)
 | .ss _ x lo hi=>(match op with | .slice t x' lo' hi' none=>Wo P x x'&&Jej P lo lo'&&Jej P hi hi'&&JoM P t | _=>false)
 | .sl _ x lo hi z=>(match op with | .slice t x' lo' hi' none=>Wo P x x'&&Jej P lo lo'&&Jej P hi hi'&& (match elT P t with | some e=>szT P e==some z | none=>false) | _=>false)
 | .sla _ x len z=>(match op with | .slice t x' none none none=>Wo P x x'&& (match arT P t with | some (l,e)=>l==len&&szT P e==some z&&l != 0 | none=>false) | _=>false)
 | .ln _ x=>(match op with | .call c=>(match c.callee,c.args.toList,c.argTypes.toList with | .builtin .len,[x'],[t]=>Wo P x x'&& (elT P t).isSome | _,_,_=>false) | _=>false)
 | .lns _ x=>(match op with | .call c=>(match c.callee,c.args.toList,c.argTypes.toList with | .builtin .len,[x'],[t]=>Wo P x x'&&JoM P t | _,_,_=>false) | _=>false)
 | .lnm _ x=>(match op with | .call c=>(match c.callee,c.args.toList,c.argTypes.toList with | .builtin .len,[x'],[t]=>Wo P x x'&& (match P.underlying t with | some (.map _ _)=>true | _=>false) | _,_,_=>false) | _=>false)
 | .al _ z xs=>(match op with | .alloc t=>(match zeT P t with | some v=>Jls (.ag (flat xs)) (.agg v.cells) &&xs.all (fun x=>plain x&&x.cells.length==z) | none=>false) | _=>false)
 | .bx _ x=>(match op with | .box _ x'=>Wo P x x' | _=>false)
 | .lal _ zero=>(match op with | .alloc t=>(match zeT P t with | some v=>Jls zero v | none=>false) | _=>false)
 | .lbx _ x=>(match op with | .box _ x'=>Wo P x x' | _=>false)
 | .ld _ x n=>(match op with | .load t x'=>Wo P x x'&&nT P t==some n | _=>false)
 | .st x v n=>(match op with | .store t x' v'=>Wo P x x'&&Wo P v v'&&szT P t==some n | _=>false)
 | .fa _ x off=>(match op with | .fieldAddr t x' f=>Wo P x x'&& (match JtU P t f with | some g=>g.offset==off&&szT P g.type != some 0&& (szT P g.type).isSome | none=>false) | _=>false)
 | .ia _ x i z=>(match op with | .indexAddr t x' i'=>Wo P x x'&&Wo P i i'&& (match elT P t with | some e=>szT P e==some z | none=>false) | _=>false)
 | .iaa _ x i len z=>(match op with | .indexAddr t x' i'=>Wo P x x'&&Wo P i i'&& (match arT P t with | some (l,e)=>l==len&&szT P e==some z | none=>false) | _=>false)
 | .bs _ zero z len parts=>(match op with | .buildSlice t l ps=>l==len&&len*z≤65536&&z != 0&&Jc7 P parts ps.toList&& (match elT P t with | some e=>szT P e==some z&& (match zeT P e with | some v=>Jls zero v&&zero.cells.length==z | none=>false) | none=>false) | _=>false)
 | .lbs _ zero z len parts=>(match op with | .buildSlice t l ps=>l==len&&len*z≤65536&&z != 0&&Jc7 P parts ps.toList&& (match elT P t with | some e=>szT P e==some z&& (match zeT P e with | some v=>Jls zero v&&zero.cells.length==z | none=>false) | none=>false) | _=>false)
 | .mk _ zero z by' n=>(match op with | .makeSlice t l c=>Wo P n l&&Wo P n c&&z != 0&& (match elT P t with | some e=>szT P e==some z&&byT P e==some by'&& (match zeT P e with | some v=>Jls zero v&&zero.cells.length==z | none=>false) | none=>false) | _=>false)
 | .ap _ x y z by'=>(match op with
  | .call c=>(match c.callee,c.args.toList,c.argTypes.toList with
   | .builtin .append,[x',y'],[t,u]=>Wo P x x'&&Wo P y y'&&z != 0&&by' != 0&& (match P.underlying u with | some (.int _)=>false | some _=>true | none=>false) && (match elT P t with | some e=>szT P e==some z&&byT P e==some by'&& (match zeT P e with | some v=>v.cells.size==z | none=>false) | none=>false)
   | _,_,_=>false)
  | _=>false)
 | .cp _ x y z=>(match op with
  | .call c=>(match c.callee,c.args.toList,c.argTypes.toList with
   | .builtin .copy,[x',y'],t::_=>Wo P x x'&&Wo P y y'&&z != 0&& (match elT P t with | some e=>szT P e==some z | none=>false)
   | _,_,_=>false)
  | _=>false)
 | .cl _ f xs=>(match op with | .call c=>(match c.callee with | .value (.func g)=>f==g&&Jdm P xs c.args.toList | _=>false) | _=>false)
 | .cv _ x xs=>(match op with | .call c=>(match c.callee with | .value y=>Wo P x y&&Jdm P xs c.args.toList | _=>false) | _=>false)
 | .mf _ f caps=>(match op with | .makeFunc (.func g) first cs=>f==g&&first.isEmpty&&Jdm P caps cs.toList | _=>false)
 | .nc _ x=>(match op with | .nilCheck x'=>Wo P x x' | _=>false)
 | .mm _ mx x y=>(match op with
  | .call c=>(match c.callee,c.args.toList with
   | .builtin .max,[x',y']=>mx&&Wo P x x'&&Wo P y y'
   | .builtin .min,[x',y']=> !mx&&Wo P x x'&&Wo P y y'
   | _,_=>false)
  | _=>false)
 | .mkm _=>(match op with | .makeMap _ none=>true | _=>false)
 | .lk _ x k zero ks ok=>(match op with | .lookup t x' k' ok'=>Wo P x x'&&Wo P k k'&&ok==ok'&& (match JoC P t ks with | some e=>(match zeT P e with | some v=>Jls zero v | none=>false) | none=>false) | _=>false)
 | .mu x k v ks=>(match op with | .mapUpdate t x' k' v'=>Wo P x x'&&Wo P k k'&&Wo P v v'&& (JoC P t ks).isSome | .insert t x' k' v'=>Wo P x x'&&Wo P k k'&&Wo P v v'&& (JoC P t ks).isSome | _=>false)
 | .dl x k ks=>(match op with
  | .call c=>(match c.callee,c.args.toList,c.argTypes.toList with
   | .builtin .delete,[x',k'],t::_=>Wo P x x'&&Wo P k k'&& (JoC P t ks).isSome
   | _,_,_=>false)
  | _=>false)
 | .rs _ x=>(match op with | .range t x'=>Wo P x x'&&JoM P t | _=>false)
 | .nx _ x=>(match op with | .next x' s=>Wo P x x'&&s | _=>false)
 | .rsm _ x=>(match op with | .range t x'=>Wo P x x'&& (match P.underlying t with | some (.map _ _)=>true | _=>false) | _=>false)
 | .nxm _ x=>(match op with | .next x' s=>Wo P x x'&& !s | _=>false)
 | .en _ x=>(match op with | .entry x'=>Wo P x x' | _=>false)
 | .mi _ t x=>(match op with | .makeInterface t' x'=>Wo P x x'&&t==t'&& (match P.underlying t with | some (.slice _)=>true | _=>false) | _=>false)
 | .gd .. =>false
def Jks (x:O) (o:Oper):Bool:=
 match x with
 | .gd t b y=>(match o.guard with | some (_,b')=>b==b' | none=>false) &&o.dst==dsO y&&Jy P y o.op&&t==t
 | y=>o.guard.isNone&&o.dst==dsO y&&Jy P y o.op
def Jo4 (ops:Array Oper) (x:O) (o:Oper):Bool:=
 match x,o.guard with
 | .gd t _ _,some (j,_)=>(match ops[j]? with | some p=>p.dst==some t | none=>false)
 | .gd _ _ _,none=>false
 | _,_=>true
def JbO (ops:Array Oper):List O→List Oper→Bool
 | [],[]=>true
 | x::r,o::q=>Jks P x o&&Jo4 ops x o&&JbO ops r q
 | _,_=>false
end
def JO {α β:Type} (R:α→β→Prop):List α→List β→Prop
 | [],[]=>True
 | x::r,y::q=>R x y∧JO R r q
 | _,_=>False
section
variable {α β:Type} {R Q:α→β→Prop}
theorem JO.len: ∀ {l:List α} {m:List β},JO R l m→l.length=m.length
 | [],[],_=>rfl
 | _::_,_::_,h=>by simp [JO.len h.2]
 | [],_::_,h=>h.elim
 | _::_,[],h=>h.elim
theorem JO.mono (hR: ∀ x y,R x y→Q x y): ∀ {l:List α} {m:List β},JO R l m→JO Q l m
 | [],[],_=>trivial
 | _::_,_::_,h=>⟨hR _ _ h.1,JO.mono hR h.2⟩
 | [],_::_,h=>h.elim
 | _::_,[],h=>h.elim
theorem JO.append: ∀ {l:List α} {m:List β} {l':List α} {m':List β},JO R l m→JO R l' m'→JO R (l++l') (m++m')
 | [],[],_,_,_,h'=>h'
 | _::_,_::_,_,_,h,h'=>⟨h.1,JO.append h.2 h'⟩
 | [],_::_,_,_,h,_=>h.elim
 | _::_,[],_,_,h,_=>h.elim
theorem JO.take: ∀ (n:Nat) {l:List α} {m:List β},JO R l m→JO R (l.take n) (m.take n)
 | 0,_,_,_=>by simp [JO]
 | _+1,[],[],_=>trivial
 | n+1,_::_,_::_,h=>⟨h.1,JO.take n h.2⟩
 | _+1,[],_::_,h=>h.elim
 | _+1,_::_,[],h=>h.elim
theorem JO.drop: ∀ (n:Nat) {l:List α} {m:List β},JO R l m→JO R (l.drop n) (m.drop n)
 | 0,_,_,h=>h
 | _+1,[],[],_=>trivial
 | n+1,_::_,_::_,h=>JO.drop n h.2
 | _+1,[],_::_,h=>h.elim
 | _+1,_::_,[],h=>h.elim
theorem JO.get: ∀ {l:List α} {m:List β},JO R l m→ ∀ (i:Nat) (x:α),l[i]? =some x→ ∃ y,m[i]? =some y∧R x y
 | [],[],_,i,x,hx=>by simp at hx
 | a::_,b::_,h,0,x,hx=>⟨b,rfl,(show a=x by simpa using hx) ▸h.1⟩
 | _::_,_::_,h,i+1,x,hx=>JO.get h.2 i x (by simpa using hx)
 | [],_::_,h,_,_,_=>h.elim
 | _::_,[],h,_,_,_=>h.elim
theorem JO.ex: ∀ {l:List α} {m:List β},JO R l m→ ∀ x,x∈l→ ∃ y,R x y
 | a::l,b::m,h,x,hx=>(List.mem_cons.1 hx).elim (fun e=>⟨b,e▸h.1⟩) (JO.ex h.2 x)
 | [],[],_,_,hx=>by cases hx
 | [],_::_,h,_,_=>h.elim
 | _::_,[],h,_,_=>h.elim
theorem JO.of_get: ∀ {l:List α} {m:List β},l.length=m.length→(∀ (i:Nat) (x:α) (y:β),l[i]? =some x→m[i]? =some y→R x y)→JO R l m
 | [],[],_,_=>trivial
 | a::l,b::m,hl,h=>⟨h 0 a b rfl rfl,JO.of_get (by simpa using hl) fun i x y hx hy=>h (i+1) x y (by simpa using hx) (by simpa using hy)⟩
 | [],_::_,hl,_=>by simp at hl
 | _::_,[],hl,_=>by simp at hl
end
inductive Own where
 | no
 | id (n:Nat)
 | loc
structure Pl where
 b:Nat
 o:Nat
 z:Nat
 s:Nat
 x:Nat
 c:Nat
structure Rn where
 pl:Nat→List Pl
 ob:Nat→Option Nat
 own:Nat→Own
 lo:Nat→Nat→Option (Nat×Nat)
def VP (ρ:Rn) (a:AV) (v:Value):Prop:=
 match a with
 | .b x=>v= .bool x
 | .i k n=>v= .int k n
 | .s l=>v= .string ⟨l.toArray⟩
 | .np=>v= .pointer none
 | .pv id off=> ∃ p,p∈ρ.pl id∧p.s=0∧v= .pointer (some ⟨p.b,p.o+off,none⟩)
 | .pe id ix off ext=> ∃ p,p∈ρ.pl id∧p.s≤ix∧ix < ext∧ext≤p.x∧v= .pointer (some ⟨p.b,p.o+(ix-p.s)*p.z+off,none⟩)
 | .ns=>v= .slice none 0 0
 | .sl id ix len=> ∃ p,p∈ρ.pl id∧p.s≤ix∧ix+len≤p.x∧ ∃ off cap,len≤cap∧(off=p.o+(ix-p.s)*p.z∨(len=0∧cap=0))∧(cap=0∨off+cap*p.z≤p.c)∧ ∃ ad:Addr,(ad=⟨p.b,off,none⟩∨cap=0)∧v= .slice (some ad) len cap
 | .nm=>v= .map none
 | .mp id=> ∃ b,ρ.ob id=some b∧v= .map (some b)
 | .nf=>v= .nilFunc
 | .ni=>v= .nilIface
 | .hd b o=>v= .pointer (some ⟨b,o,none⟩)
 | .fs t id ix len=> ∃ p,p∈ρ.pl id∧p.s≤ix∧ix+len≤p.x∧ ∃ off cap,len≤cap∧(off=p.o+(ix-p.s)*p.z∨(len=0∧cap=0))∧(cap=0∨off+cap*p.z≤p.c)∧ ∃ ad:Addr,(ad=⟨p.b,off,none⟩∨cap=0)∧v= .iface t (.slice (some ad) len cap)
 | _=>False
def VA (ρ:Rn) (a:AV) (v:Value):Prop:=
 match a with
 | .fn f caps=> ∃ rc:Array Value,v= .func (.func f) #[] rc∧JO (VP ρ) caps rc.toList
 | a=>VP ρ a v
def V1 (ρ:Rn) (a:AV) (v:Value):Prop:=
 match a with
 | .ag xs=> ∃ ys:Array Value,v= .agg ys∧JO (VA ρ) xs ys.toList
 | a=>VA ρ a v
def V2 (ρ:Rn) (a:AV) (v:Value):Prop:=
 match a with
 | .tp xs=> ∃ ys:Array Value,v= .tuple ys∧JO (V1 ρ) xs ys.toList
 | a=>V1 ρ a v
def VE (ρ:Rn) (a:AV) (v:Value):Prop:=
 match a with
 | .u=>True
 | .la t g ix off=> ∃ b z,ρ.lo t g=some (b,z)∧v= .pointer (some ⟨b,ix*z+off,none⟩)
 | .ll t g z len=> ∃ b,ρ.lo t g=some (b,z)∧v= .slice (some ⟨b,0,none⟩) len len
 | .li t g=> ∃ b z,ρ.lo t g=some (b,z)∧v= .pointer (some ⟨b,0,none⟩)
 | a=>V2 ρ a v
structure Rn.Le (ρ ρ':Rn):Prop where
 pl: ∀ id p,p∈ρ.pl id→ ∃ p',p'∈ρ'.pl id∧p'.b=p.b∧p'.o=p.o∧p'.z=p.z∧p'.s=p.s∧p'.c=p.c∧p.x≤p'.x
 ob: ∀ id b,ρ.ob id=some b→ρ'.ob id=some b
structure Rn.LeL (ρ ρ':Rn):Prop extends Rn.Le ρ ρ' where
 lo: ∀ t g x,ρ.lo t g=some x→ρ'.lo t g=some x
theorem Rn.Le.refl (ρ:Rn):ρ.Le ρ:=⟨fun _ p h=>⟨p,h,rfl,rfl,rfl,rfl,rfl,Nat.le_refl _⟩,fun _ _ h=>h⟩
theorem Rn.LeL.refl (ρ:Rn):ρ.LeL ρ:=⟨.refl ρ,fun _ _ _ h=>h⟩
theorem Rn.Le.trans {a b c:Rn} (h:a.Le b) (k:b.Le c):a.Le c:=
 ⟨fun id p hp=>by
  obtain ⟨p',h1,h2,h3,h4,h5,h6,h7⟩:=h.pl id p hp;obtain ⟨p'',k1,k2,k3,k4,k5,k6,k7⟩:=k.pl id p' h1;exact ⟨p'',k1,k2.trans h2,k3.trans h3,k4.trans h4,k5.trans h5,k6.trans h6,Nat.le_trans h7 k7⟩,
  fun id b hb=>k.ob id b (h.ob id b hb)⟩
theorem VP.mono {ρ ρ':Rn} (h:ρ.Le ρ') {a:AV} {v:Value} (hv:VP ρ a v):VP ρ' a v:=by
 cases a<;>try exact hv
 case pv id off=>
  obtain ⟨p,h1,h2,h3⟩:=hv;obtain ⟨p',k1,k2,k3,k4,k5,k6,k7⟩:=h.pl id p h1;exact ⟨p',k1,k5.trans h2,by rw [k2,k3];exact h3⟩
 case pe id ix off ext=>
  obtain ⟨p,h1,h2,h3,h4,h5⟩:=hv;obtain ⟨p',k1,k2,k3,k4,k5,k6,k7⟩:=h.pl id p h1;exact ⟨p',k1,by omega,h3,by omega,by rw [k2,k3,k4,k5];exact h5⟩
 case sl id ix len=>
  obtain ⟨p,h1,h2,h3,off,cap,h4,h5,h6,h7⟩:=hv;obtain ⟨p',k1,k2,k3,k4,k5,k6,k7⟩:=h.pl id p h1;exact ⟨p',k1,by omega,by omega,off,cap,h4,by rw [k3,k4,k5];exact h5,by rw [k4,k6];exact h6,by rw [k2];exact h7⟩
 case fs t id ix len=>
  obtain ⟨p,h1,h2,h3,off,cap,h4,h5,h6,h7⟩:=hv;obtain ⟨p',k1,k2,k3,k4,k5,k6,k7⟩:=h.pl id p h1;exact ⟨p',k1,by omega,by omega,off,cap,h4,by rw [k3,k4,k5];exact h5,by rw [k4,k6];exact h6,by rw [k2];exact h7⟩
 case mp id=>
  obtain ⟨b,hb,e⟩:=hv;exact ⟨b,h.ob id b hb,e⟩
theorem VA.mono {ρ ρ':Rn} (h:ρ.Le ρ') {a:AV} {v:Value} (hv:VA ρ a v):VA ρ' a v:=by
 cases a
 case fn f caps=>
  obtain ⟨rc,e,hc⟩:=hv;exact ⟨rc,e,hc.mono fun _ _=>VP.mono h⟩
 all_goals (simp only [VA] at hv ⊢;exact VP.mono h hv)
theorem V1.mono {ρ ρ':Rn} (h:ρ.Le ρ') {a:AV} {v:Value} (hv:V1 ρ a v):V1 ρ' a v:=by
 cases a
 case ag xs=>
  obtain ⟨ys,e,hc⟩:=hv;exact ⟨ys,e,hc.mono fun _ _=>VA.mono h⟩
 all_goals (simp only [V1] at hv ⊢;exact VA.mono h hv)
theorem V2.mono {ρ ρ':Rn} (h:ρ.Le ρ') {a:AV} {v:Value} (hv:V2 ρ a v):V2 ρ' a v:=by
 cases a
 case tp xs=>
  obtain ⟨ys,e,hc⟩:=hv;exact ⟨ys,e,hc.mono fun _ _=>V1.mono h⟩
 all_goals (simp only [V2] at hv ⊢;exact V1.mono h hv)
theorem VE.mono {ρ ρ':Rn} (h:ρ.LeL ρ') {a:AV} {v:Value} (hv:VE ρ a v):VE ρ' a v:=by
 cases a;case u=>trivial
 case la t g ix off=>obtain ⟨b,z,hl,e⟩:=hv;exact ⟨b,z,h.lo _ _ _ hl,e⟩
 case ll t g z len=>obtain ⟨b,hl,e⟩:=hv;exact ⟨b,h.lo _ _ _ hl,e⟩
 case li t g=>obtain ⟨b,z,hl,e⟩:=hv;exact ⟨b,z,h.lo _ _ _ hl,e⟩
 all_goals (simp only [VE] at hv ⊢;exact V2.mono h.toLe hv)
theorem VE.out {ρ:Rn} {a:AV} {v:Value} (h:VE ρ a v) (ho:a.outs=true):V1 ρ a v:=by
 cases a<;>first | exact h | simp [AV.outs] at ho
theorem VE.of {ρ:Rn} {a:AV} {v:Value} (h:V2 ρ a v):VE ρ a v:=by
 cases a<;>first | exact h | exact trivial | exact h.elim
theorem V2.of {ρ:Rn} {a:AV} {v:Value} (h:V1 ρ a v):V2 ρ a v:=by
 cases a<;>first | exact h | exact h.elim
theorem V1.of {ρ:Rn} {a:AV} {v:Value} (h:VA ρ a v):V1 ρ a v:=by
 cases a<;>first | exact h | exact h.elim
theorem VA.of {ρ:Rn} {a:AV} {v:Value} (h:VP ρ a v):VA ρ a v:=by
 cases a<;>first | exact h | exact h.elim
theorem VA.one {ρ:Rn} {a:AV} {v:Value} (h:VA ρ a v):v.oneCell'=true∧v.cells= #[v]∧a.cells=[a]:=by
 cases a<;>simp only [VA,VP] at h<;>try exact h.elim
 case fn=>obtain ⟨rc,rfl,-⟩:=h;exact ⟨rfl,rfl,rfl⟩
 case pv=>obtain ⟨p,-,-,rfl⟩:=h;exact ⟨rfl,rfl,rfl⟩
 case pe=>obtain ⟨p,-,-,-,-,rfl⟩:=h;exact ⟨rfl,rfl,rfl⟩
 case sl=>obtain ⟨p,-,-,-,off,cap,-,-,-,ad,-,rfl⟩:=h;exact ⟨rfl,rfl,rfl⟩
 case fs=>obtain ⟨p,-,-,-,off,cap,-,-,-,ad,-,rfl⟩:=h;exact ⟨rfl,rfl,rfl⟩
 case mp=>obtain ⟨b,-,rfl⟩:=h;exact ⟨rfl,rfl,rfl⟩
 all_goals (subst h;exact ⟨rfl,rfl,rfl⟩)
theorem V1.cells {ρ:Rn} {a:AV} {v:Value} (h:V1 ρ a v):JO (VA ρ) a.cells v.cells.toList:=by
 cases a;case ag xs=>obtain ⟨ys,rfl,hc⟩:=h;exact hc
 all_goals (simp only [V1] at h;obtain ⟨-,h2,h3⟩:=VA.one h;rw [h2,h3];exact ⟨h,trivial⟩)
theorem V1.size {ρ:Rn} {a:AV} {v:Value} (h:V1 ρ a v):a.cells.length=v.cells.size:=by
 rw [h.cells.len,Array.length_toList]
theorem Wq: ∀ (l m:List AV),flat (l++m)=flat l++flat m
 | [],_=>rfl
 | x::r,m=>by simp [flat,Wq r m]
theorem Zm {z:Nat}: ∀ {l:List AV},(∀ x∈l,x.cells.length=z)→(flat l).length=l.length*z
 | [],_=>by simp [flat]
 | x::r,h=>by
  simp only [flat,List.length_append,List.length_cons,h x (by simp),Zm (l:=r) fun y hy=>h y (by simp [hy])]
  rw [Nat.add_mul];omega
theorem Jbe {z:Nat}: ∀ (n:Nat) {l:List AV},(∀ x∈l,x.cells.length=z)→flat (l.drop n)=(flat l).drop (n*z)
 | 0,_,_=>by simp
 | n+1,[],_=>by simp [flat]
 | n+1,x::r,h=>by
  have hx:=h x (by simp)
  rw [List.drop_succ_cons,Jbe n fun y hy=>h y (by simp [hy]),flat,Nat.add_mul,Nat.one_mul,Nat.add_comm,←List.drop_drop,←hx,List.drop_left]
theorem JaF {z:Nat}: ∀ (n:Nat) {l:List AV},(∀ x∈l,x.cells.length=z)→flat (l.take n)=(flat l).take (n*z)
 | 0,_,_=>by simp [flat]
 | n+1,[],_=>by simp [flat]
 | n+1,x::r,h=>by
  have hx:=h x (by simp)
  rw [List.take_succ_cons,flat,flat,JaF n fun y hy=>h y (by simp [hy]),Nat.add_mul,Nat.one_mul,Nat.add_comm (n*z),←hx,List.take_length_add_append]
theorem Jcc {z:Nat}: ∀ (n:Nat) {l:List AV},(∀ x∈l,x.cells.length=z)→n < l.length→(l.getD n .u).cells=((flat l).drop (n*z)).take z
 | 0,x::r,h,_=>by
  have hx:=h x (by simp)
  simp only [List.getD_cons_zero,Nat.zero_mul,List.drop_zero,flat];rw [←hx,List.take_left]
 | n+1,x::r,h,hn=>by
  have hx:=h x (by simp)
  rw [List.getD_cons_succ,Jcc n (fun y hy=>h y (by simp [hy])) (by simpa using hn),flat,Nat.add_mul,Nat.one_mul,Nat.add_comm (n*z) z,←List.drop_drop,←hx,List.drop_left]
 | _,[],_,hn=>by simp at hn
def told (p:Pl) (xs:List AV):List AV:=(xs.take p.x).drop p.s
def Jf4 (ρ:Rn) (w:World) (p:Pl) (xs:List AV) (rw:Bool):Prop:=
 ∃ c ty fz,w.heap[p.b]? =some (.cells c ty fz)∧c.size=p.c∧(rw=true→ ∀ i,i < p.c→ ¬ (fz.1≤i∧i < fz.2))∧
  p.o+(p.x-p.s)*p.z≤p.c∧JO (VA ρ) (flat (told p xs)) ((c.toList.drop p.o).take ((p.x-p.s)*p.z))
def JhU (ρ:Rn) (e:AV×AV) (m:MapEntry):Prop:=V1 ρ e.1 m.key∧V1 ρ e.2 m.val
def JbU (rw:Bool) (id:Nat):Own:=if rw then .id id else .no
structure JqU (ρ:Rn) (w:World) (id:Nat) (rw:Bool) (st z:Nat) (xs:List AV) (p:Pl) (rest:List Pl):Prop where
 hpl:ρ.pl id=p::rest
 hx:p.x=xs.length
 hs:p.s≤p.x
 hz:p.z=z
 hv:Jf4 ρ w p xs rw
 hown: ∀ q,q∈p::rest→q.b < w.heap.size∧ρ.own q.b=JbU rw id
 hst0:st=0→rest=[]∧p.s=0
 hrest: ∀ q,q∈rest→q.z=z∧q.x < xs.length∧q.s≤q.x∧q.b≠p.b∧(st≠2→Jf4 ρ w q xs rw)
 hcl: ∀ x,x∈flat xs→ ∃ v,VA ρ x v
def Ja0 (ents:Array MapEntry) (clk:Nat):Prop:=clk=ents.size∧ ∀ (j:Nat) (m:MapEntry),ents[j]? =some m→m.born=j
def Jfm (ρ:Rn) (w:World) (id:Nat):Ob→Prop
 | .no=>True
 | .arr rw st z xs=>(∀ x,x∈xs→x.cells.length=z)∧ ∃ p rest,JqU ρ w id rw st z xs p rest
 | .map rw es=> ∃ b,ρ.ob id=some b∧ρ.own b=JbU rw id∧ ∃ ents clk,w.heap[b]? =some (.map ents clk)∧JO (JhU ρ) es ents.toList∧(rw=true→Ja0 ents clk)
structure J7 (ρ:Rn) (H:AH) (w:World):Prop where
 rep: ∀ id,id < H.n→Jfm ρ w id (H.at' id)
 fr: ∀ id,H.n≤id→ρ.pl id=[]∧ρ.ob id=none
 bnd: ∀ b,w.heap.size≤b→ρ.own b= .no
 ids: ∀ b id,ρ.own b= .id id→id < H.n
theorem Jf4.of {ρ ρ':Rn} {w w':World} {p:Pl} {xs:List AV} {rw:Bool} (h:Jf4 ρ w p xs rw) (hl:ρ.Le ρ') (hb:w'.heap[p.b]? =w.heap[p.b]?):Jf4 ρ' w' p xs rw:=by
 obtain ⟨c,ty,fz,h1,h2,h3,h4,h5⟩:=h;exact ⟨c,ty,fz,hb.trans h1,h2,h3,h4,h5.mono fun _ _=>VA.mono hl⟩
theorem JhU.mono {ρ ρ':Rn} (hl:ρ.Le ρ') {e:AV×AV} {m:MapEntry} (h:JhU ρ e m):JhU ρ' e m:=⟨h.1.mono hl,h.2.mono hl⟩
theorem Jfm.of {ρ ρ':Rn} {w w':World} {id:Nat} {o:Ob} (h:Jfm ρ w id o) (hl:ρ.Le ρ') (hp:ρ'.pl id=ρ.pl id) (hsz:w.heap.size≤w'.heap.size)
  (hw: ∀ b,b < w.heap.size→(ρ.own b= .no∨ρ.own b= .id id)→ρ'.own b=ρ.own b∧w'.heap[b]? =w.heap[b]?):Jfm ρ' w' id o:=by
 cases o with
 | no=>trivial
 | arr rw st z xs=>
  obtain ⟨hz,p,rest,hA⟩:=h
  have hn: ∀ q,q∈p::rest→ρ'.own q.b=ρ.own q.b∧w'.heap[q.b]? =w.heap[q.b]? :=fun q hq=>
   hw q.b (hA.hown q hq).1 (by rw [(hA.hown q hq).2];cases rw<;>simp [JbU])
  refine ⟨hz,p,rest,⟨hp.trans hA.hpl,hA.hx,hA.hs,hA.hz,hA.hv.of hl (hn p (by simp)).2,fun q hq=>⟨Nat.lt_of_lt_of_le (hA.hown q hq).1 hsz,(hn q hq).1.trans (hA.hown q hq).2⟩,hA.hst0,fun q hq=> ?_,fun x hx=>(hA.hcl x hx).imp fun _=>VA.mono hl⟩⟩
  obtain ⟨h1,h2,h3,h4,h5⟩:=hA.hrest q hq;exact ⟨h1,h2,h3,h4,fun hs=>(h5 hs).of hl (hn q (by simp [hq])).2⟩
 | map rw es=>
  obtain ⟨b,h1,h2,ents,clk,h3,h4,h5⟩:=h;have hlt:=(Array.getElem?_eq_some_iff.1 h3).1;have hn:=hw b hlt (by rw [h2];cases rw<;>simp [JbU])
  exact ⟨b,hl.ob _ _ h1,hn.1.trans h2,ents,clk,hn.2.trans h3,h4.mono fun _ _=>JhU.mono hl,h5⟩
theorem J7.of {ρ ρ':Rn} {H:AH} {w w':World} (h:J7 ρ H w) (hl:ρ.Le ρ') (hp:ρ'.pl=ρ.pl) (ho:ρ'.ob=ρ.ob) (hsz:w.heap.size≤w'.heap.size)
  (hw: ∀ b,b < w.heap.size→ρ.own b≠ .loc→ρ'.own b=ρ.own b∧w'.heap[b]? =w.heap[b]?)
  (hb: ∀ b,w'.heap.size≤b→ρ'.own b= .no) (hi: ∀ b id,ρ'.own b= .id id→ρ.own b= .id id):J7 ρ' H w':=
 ⟨fun id hid=>(h.rep id hid).of hl (by rw [hp]) hsz fun b hb hn=>hw b hb (by rcases hn with hn | hn<;>rw [hn]<;>simp),
  fun id hid=>by rw [hp,ho];exact h.fr id hid,hb,fun b id hid=>h.ids b id (hi b id hid)⟩
theorem J7.heap {ρ:Rn} {H:AH} {w w':World} (h:J7 ρ H w) (he:w'.heap=w.heap):J7 ρ H w':=
 h.of (.refl ρ) rfl rfl (by rw [he];exact Nat.le_refl _) (fun b _ _=>⟨rfl,by rw [he]⟩) (fun b hb=>h.bnd b (by rwa [he] at hb)) fun _ _ h=>h
def Rn.newP (ρ:Rn) (id:Nat) (p:Pl):Rn:={ρ with pl:=fun i=>if i=id then [p] else ρ.pl i,own:=fun b=>if b=p.b then .id id else ρ.own b}
def Rn.newO (ρ:Rn) (id b:Nat):Rn:={ρ with ob:=fun i=>if i=id then some b else ρ.ob i,own:=fun b'=>if b'=b then .id id else ρ.own b'}
theorem Rn.le_newP {ρ:Rn} {id:Nat} {p:Pl} (h:ρ.pl id=[]):ρ.LeL (ρ.newP id p):=
 ⟨⟨fun i q hq=>⟨q,by
   simp only [Rn.newP];by_cases e:i=id
   ·rw [e,h] at hq;cases hq
   ·rwa [if_neg e],rfl,rfl,rfl,rfl,rfl,Nat.le_refl _⟩,fun _ _ h=>h⟩,fun _ _ _ h=>h⟩
theorem Rn.le_newO {ρ:Rn} {id b:Nat} (h:ρ.ob id=none):ρ.LeL (ρ.newO id b):=
 ⟨⟨fun i q hq=>⟨q,hq,rfl,rfl,rfl,rfl,rfl,Nat.le_refl _⟩,fun i b' hb=>by
   simp only [Rn.newO];by_cases e:i=id
   ·rw [e,h] at hb;cases hb
   ·rwa [if_neg e]⟩,fun _ _ _ h=>h⟩
theorem JP (w:World) (o:Obj) (b:Nat) (h:b < w.heap.size):(w.alloc o).heap[b]? =w.heap[b]? :=by
 show (w.heap.push o)[b]? =_
 rw [Array.getElem?_push,if_neg (by omega)]
theorem heap_alloc_new (w:World) (o:Obj):(w.alloc o).heap[w.heap.size]? =some o:=by
 show (w.heap.push o)[w.heap.size]? =_
 rw [Array.getElem?_push,if_pos rfl]
theorem J7.newArr {ρ:Rn} {H:AH} {w w':World} (h:J7 ρ H w) (c:Array Value) (ty:TypeId) (fz:Nat×Nat) (z:Nat) (xs:List AV)
  (hsz:w'.heap.size=w.heap.size+1) (hold: ∀ b,b < w.heap.size→w'.heap[b]? =w.heap[b]?) (hnew:w'.heap[w.heap.size]? =some (.cells c ty fz)) (hfz: ∀ i,i < c.size→ ¬ (fz.1≤i∧i < fz.2))
  (hz: ∀ x,x∈xs→x.cells.length=z) (hc:xs.length*z≤c.size) (hxs:JO (VA ρ) (flat xs) (c.toList.take (xs.length*z))):
  J7 (ρ.newP H.n ⟨w.heap.size,0,z,0,xs.length,c.size⟩) (H.new (.arr true 0 z xs)) w'∧ρ.LeL (ρ.newP H.n ⟨w.heap.size,0,z,0,xs.length,c.size⟩):=by
 have hle:ρ.LeL (ρ.newP H.n ⟨w.heap.size,0,z,0,xs.length,c.size⟩):=Rn.le_newP (h.fr H.n (Nat.le_refl _)).1;refine ⟨⟨fun id hid=> ?_,fun id hid=> ?_,fun b hb=> ?_,fun b id hid=> ?_⟩,hle⟩
 ·by_cases e:id=H.n
  ·subst e
   simp only [AH.new,if_pos];refine ⟨hz,⟨w.heap.size,0,z,0,xs.length,c.size⟩,[],⟨by simp [Rn.newP],rfl,Nat.zero_le _,rfl,⟨c,ty,fz,hnew,rfl,fun _=>hfz,by simpa using hc,?_⟩,?_,fun _=>⟨rfl,rfl⟩,fun q hq=>(by cases hq),fun x hx=>(hxs.ex x hx).imp fun _=>VA.mono hle.toLe⟩⟩
   ·simp only [told,List.take_length,List.drop_zero,Nat.sub_zero]
    exact hxs.mono fun _ _=>VA.mono hle.toLe
   ·intro q hq
    simp only [List.mem_singleton] at hq;subst hq;exact ⟨by simp [hsz],by simp [Rn.newP,JbU]⟩
  ·have hlt:id < H.n:=by simp only [AH.new] at hid;omega
   simp only [AH.new,if_neg e];refine (h.rep id hlt).of hle.toLe (by simp [Rn.newP,e]) (by omega) fun b hb hn=>⟨?_,hold b hb⟩
   simp only [Rn.newP,if_neg (show ¬ b=w.heap.size by omega)]
 ·simp only [AH.new] at hid
  simp only [Rn.newP,if_neg (show ¬ id=H.n by omega)]
  exact h.fr id (by omega)
 ·simp only [Rn.newP,if_neg (show ¬ b=w.heap.size by omega)]
  exact h.bnd b (by omega)
 ·simp only [Rn.newP] at hid
  by_cases e:b=w.heap.size
  ·rw [if_pos e] at hid
   cases hid;simp [AH.new]
  ·rw [if_neg e] at hid
   have:=h.ids b id hid;simp only [AH.new];omega
theorem J7.newMap {ρ:Rn} {H:AH} {w w':World} (h:J7 ρ H w)
  (hsz:w'.heap.size=w.heap.size+1) (hold: ∀ b,b < w.heap.size→w'.heap[b]? =w.heap[b]?) (hnew:w'.heap[w.heap.size]? =some (.map #[] 0)):
  J7 (ρ.newO H.n w.heap.size) (H.new (.map true [])) w'∧ρ.LeL (ρ.newO H.n w.heap.size):=by
 have hle:ρ.LeL (ρ.newO H.n w.heap.size):=Rn.le_newO (h.fr H.n (Nat.le_refl _)).2;refine ⟨⟨fun id hid=> ?_,fun id hid=> ?_,fun b hb=> ?_,fun b id hid=> ?_⟩,hle⟩
 ·by_cases e:id=H.n
  ·subst e
   simp only [AH.new,if_pos];exact ⟨w.heap.size,by simp [Rn.newO],by simp [Rn.newO,JbU], #[],0,hnew,trivial,fun _=>⟨rfl,fun j m h=>by simp at h⟩⟩
  ·have hlt:id < H.n:=by simp only [AH.new] at hid;omega
   simp only [AH.new,if_neg e];refine (h.rep id hlt).of hle.toLe (by simp [Rn.newO]) (by omega) fun b hb hn=>⟨?_,hold b hb⟩
   simp only [Rn.newO,if_neg (show ¬ b=w.heap.size by omega)]
 ·simp only [AH.new] at hid
  simp only [Rn.newO,if_neg (show ¬ id=H.n by omega)]
  exact h.fr id (by omega)
 ·simp only [Rn.newO,if_neg (show ¬ b=w.heap.size by omega)]
  exact h.bnd b (by omega)
 ·simp only [Rn.newO] at hid
  by_cases e:b=w.heap.size
  ·rw [if_pos e] at hid
   cases hid;simp [AH.new]
  ·rw [if_neg e] at hid
   have:=h.ids b id hid;simp only [AH.new];omega
theorem J7.setArr {ρ:Rn} {H:AH} {w w':World} (h:J7 ρ H w) {id st z:Nat} {xs xs':List AV} {p:Pl} {rest:List Pl}
  (hid:id < H.n) (hA:JqU ρ w id true st z xs p rest) {c':Array Value} {ty:TypeId} {fz:Nat×Nat}
  (hw:w'.heap[p.b]? =some (.cells c' ty fz)) (hc:c'.size=p.c) (hfz: ∀ i,i < p.c→ ¬ (fz.1≤i∧i < fz.2)) (hold: ∀ b,b≠p.b→w'.heap[b]? =w.heap[b]?) (hsz:w'.heap.size=w.heap.size)
  (hlen:xs'.length=xs.length) (hz: ∀ x,x∈xs'→x.cells.length=z) (hcl: ∀ x,x∈flat xs'→ ∃ v,VA ρ x v)
  (hxs:JO (VA ρ) (flat (xs'.drop p.s)) ((c'.toList.drop p.o).take ((p.x-p.s)*p.z))):
  J7 ρ (H.set id (.arr true (if st=0 then 0 else 2) z xs')) w':=by
 refine ⟨fun i hi=> ?_,h.fr,fun b hb=>h.bnd b (by omega),h.ids⟩
 by_cases e:i=id
 ·subst e
  simp only [AH.set,if_pos];have hpx:=hA.hx;obtain ⟨c,ty0,fz0,hv1,hv2,hv3,hv4,hv5⟩:=hA.hv;refine ⟨hz,p,rest,⟨hA.hpl,by rw [hlen];exact hA.hx,hA.hs,hA.hz,⟨c',ty,fz,hw,hc,fun _=>hfz,hv4,?_⟩,fun q hq=>⟨by rw [hsz];exact (hA.hown q hq).1,(hA.hown q hq).2⟩,?_,fun q hq=> ?_,hcl⟩⟩
  ·simp only [told,hpx,←hlen,List.take_length]
   rw [hlen,←hpx];exact hxs
  ·intro hs
   by_cases e0:st=0
   ·exact hA.hst0 e0
   ·simp [e0] at hs
  ·obtain ⟨h1,h2,h3,h4,-⟩:=hA.hrest q hq
   refine ⟨h1,by omega,h3,h4,fun hs=> ?_⟩
   by_cases e0:st=0
   ·have:=(hA.hst0 e0).1;rw [this] at hq;cases hq
   ·simp [e0] at hs
 ·simp only [AH.set,if_neg e]
  have hpo:=hA.hown p (by simp)
  refine (h.rep i hi).of (.refl ρ) rfl (by omega) fun b hb hn=>⟨rfl,hold b fun eb=> ?_⟩
  rw [eb,hpo.2] at hn;simp [JbU] at hn;exact e hn.symm
def Rn.growP (ρ:Rn) (id n:Nat):Rn:={ρ with pl:=fun i=>if i=id then (match ρ.pl id with | p::r=>{p with x:=p.x+n}::r | []=>[]) else ρ.pl i}
theorem Rn.le_growP {ρ:Rn} {id n:Nat}:ρ.LeL (ρ.growP id n):=
 ⟨⟨fun i q hq=>by
   by_cases e:i=id
   ·subst e
    cases hp:ρ.pl i with
    | nil=>rw [hp] at hq;cases hq
    | cons p r=>
     rw [hp] at hq;rcases List.mem_cons.1 hq with rfl | hq
     ·exact ⟨{q with x:=q.x+n},by simp [Rn.growP,hp],rfl,rfl,rfl,rfl,rfl,by simp⟩
     ·exact ⟨q,by simp [Rn.growP,hp,hq],rfl,rfl,rfl,rfl,rfl,Nat.le_refl _⟩
   ·exact ⟨q,by simpa [Rn.growP,e] using hq,rfl,rfl,rfl,rfl,rfl,Nat.le_refl _⟩,fun _ _ h=>h⟩,fun _ _ _ h=>h⟩
theorem J7.growArr {ρ:Rn} {H:AH} {w w':World} (h:J7 ρ H w) {id st z:Nat} {xs ys:List AV} {p:Pl} {rest:List Pl}
  (hid:id < H.n) (hxz: ∀ x,x∈xs→x.cells.length=z) (hA:JqU ρ w id true st z xs p rest) {c c':Array Value} {ty:TypeId} {fz:Nat×Nat}
  (hwc:w.heap[p.b]? =some (.cells c ty fz))
  (hw:w'.heap[p.b]? =some (.cells c' ty fz)) (hc:c'.size=p.c) (hfz: ∀ i,i < p.c→ ¬ (fz.1≤i∧i < fz.2)) (hold: ∀ b,b≠p.b→w'.heap[b]? =w.heap[b]?) (hsz:w'.heap.size=w.heap.size)
  (hz: ∀ x,x∈ys→x.cells.length=z) (hfit:p.o+(p.x-p.s)*z+ys.length*z≤p.c)
  (hpre:c'.toList.take (p.o+(p.x-p.s)*z)=c.toList.take (p.o+(p.x-p.s)*z))
  (hys:JO (VA ρ) (flat ys) ((c'.toList.drop (p.o+(p.x-p.s)*z)).take (ys.length*z))):
  J7 (ρ.growP id ys.length) (H.set id (.arr true (if st=2 then 2 else 1) z (xs++ys))) w':=by
 have hle:ρ.LeL (ρ.growP id ys.length):=Rn.le_growP;have hpl:(ρ.growP id ys.length).pl id={p with x:=p.x+ys.length}::rest:=by simp [Rn.growP,hA.hpl]
 refine ⟨fun i hi=> ?_,fun i hi=> ?_,fun b hb=>h.bnd b (by omega),h.ids⟩
 ·by_cases e:i=id
  ·subst e
   simp only [AH.set,if_pos];obtain ⟨c0,ty0,fz0,hv1,hv2,hv3,hv4,hv5⟩:=hA.hv;have hxx:=hA.hx;have hss:=hA.hs;have hzz:=hA.hz;have hcc:c0=c:=by rw [hv1] at hwc;cases hwc;rfl
   subst hcc;refine ⟨fun x hx=>(List.mem_append.1 hx).elim (hxz x) (hz x),{p with x:=p.x+ys.length},rest,⟨hpl,by simp [hxx],by simp;omega,hzz,⟨c',ty,fz,hw,hc,fun _=>hfz,?_,?_⟩,fun q hq=> ?_,?_,fun q hq=> ?_,fun x hx=> ?_⟩⟩
   ·show p.o+(p.x+ys.length-p.s)*p.z≤p.c
    rw [hzz,show p.x+ys.length-p.s=(p.x-p.s)+ys.length by omega,Nat.add_mul];omega
   ·show JO _ (flat (((xs++ys).take (p.x+ys.length)).drop p.s)) ((c'.toList.drop p.o).take ((p.x+ys.length-p.s)*p.z))
    have e1:(xs++ys).take (p.x+ys.length)=xs++ys:=List.take_of_length_le (by simp [hxx])
    have e2:(xs++ys).drop p.s=xs.drop p.s++ys:=List.drop_append_of_le_length (by omega)
    rw [e1,e2,Wq,hzz,show p.x+ys.length-p.s=(p.x-p.s)+ys.length by omega,Nat.add_mul,List.take_add]
    refine JO.append ?_ ?_
    ·have e3:(c'.toList.drop p.o).take ((p.x-p.s)*z)=(c0.toList.drop p.o).take ((p.x-p.s)*z):=by
      have:=congrArg (List.drop p.o) hpre;rwa [List.drop_take,List.drop_take,show p.o+(p.x-p.s)*z-p.o=(p.x-p.s)*z by omega] at this
     rw [e3];simp only [told,hxx,List.take_length,hzz] at hv5;rw [←hxx] at hv5;exact hv5.mono fun _ _=>VA.mono hle.toLe
    ·rw [List.drop_drop]
     exact hys.mono fun _ _=>VA.mono hle.toLe
   ·have:=hA.hown
    rcases List.mem_cons.1 hq with rfl | hq
    ·exact ⟨by rw [hsz];exact (this p (by simp)).1,(this p (by simp)).2⟩
    ·exact ⟨by rw [hsz];exact (this q (by simp [hq])).1,(this q (by simp [hq])).2⟩
   ·intro hs0
    split at hs0<;>omega
   ·obtain ⟨h1,h2,h3,h4,h5⟩:=hA.hrest q hq
    refine ⟨h1,by simp;omega,h3,h4,fun hs=> ?_⟩
    have hs2:st≠2:=fun e2=>by simp [e2] at hs
    obtain ⟨cq,tq,fq,k1,k2,k3,k4,k5⟩:=h5 hs2;refine ⟨cq,tq,fq,(hold q.b h4).trans k1,k2,k3,k4,?_⟩
    have e1:told q (xs++ys)=told q xs:=by
     simp only [told];rw [List.take_append_of_le_length (by omega)]
    rw [e1];exact k5.mono fun _ _=>VA.mono hle.toLe
   ·rw [Wq] at hx
    rcases List.mem_append.1 hx with hx | hx
    ·exact (hA.hcl x hx).imp fun _=>VA.mono hle.toLe
    ·exact (hys.ex x hx).imp fun _=>VA.mono hle.toLe
  ·simp only [AH.set,if_neg e]
   have hpo:=hA.hown p (by simp)
   refine (h.rep i hi).of hle.toLe (by simp [Rn.growP,e]) (by omega) fun b hb hn=>⟨rfl,hold b fun eb=> ?_⟩
   rw [eb,hpo.2] at hn;simp [JbU] at hn;exact e hn.symm
 ·have hi':H.n≤i:=hi
  have hne:i≠id:=by omega
  simp only [Rn.growP,if_neg hne];exact h.fr i hi'
def Rn.moveP (ρ:Rn) (id:Nat) (p:Pl):Rn:={ρ with pl:=fun i=>if i=id then p::ρ.pl id else ρ.pl i,own:=fun b=>if b=p.b then .id id else ρ.own b}
theorem Rn.le_moveP {ρ:Rn} {id:Nat} {p:Pl}:ρ.LeL (ρ.moveP id p):=
 ⟨⟨fun i q hq=>⟨q,by
   simp only [Rn.moveP];by_cases e:i=id
   ·subst e;simp [hq]
   ·rwa [if_neg e],rfl,rfl,rfl,rfl,rfl,Nat.le_refl _⟩,fun _ _ h=>h⟩,fun _ _ _ h=>h⟩
theorem J7.moveArr {ρ:Rn} {H:AH} {w w':World} (h:J7 ρ H w) {id st z s:Nat} {xs ys:List AV} {p:Pl} {rest:List Pl}
  (hid:id < H.n) (hxz: ∀ x,x∈xs→x.cells.length=z) (hA:JqU ρ w id true st z xs p rest) {c:Array Value} {ty:TypeId} {fz:Nat×Nat}
  (hsz:w'.heap.size=w.heap.size+1) (hold: ∀ b,b < w.heap.size→w'.heap[b]? =w.heap[b]?) (hnew:w'.heap[w.heap.size]? =some (.cells c ty fz)) (hfz: ∀ i,i < c.size→ ¬ (fz.1≤i∧i < fz.2))
  (hs:s≤xs.length) (hy:0 < ys.length) (hz: ∀ x,x∈ys→x.cells.length=z) (hfit:(xs.length+ys.length-s)*z≤c.size)
  (hxs:JO (VA ρ) (flat (xs.drop s++ys)) (c.toList.take ((xs.length+ys.length-s)*z))):
  J7 (ρ.moveP id ⟨w.heap.size,0,z,s,xs.length+ys.length,c.size⟩) (H.set id (.arr true (if st=2 then 2 else 1) z (xs++ys))) w':=by
 have hle:ρ.LeL (ρ.moveP id ⟨w.heap.size,0,z,s,xs.length+ys.length,c.size⟩):=Rn.le_moveP;have hxx:=hA.hx;refine ⟨fun i hi=> ?_,fun i hi=> ?_,fun b hb=> ?_,fun b i hi=> ?_⟩
 ·by_cases e:i=id
  ·subst e
   simp only [AH.set,if_pos];refine ⟨fun x hx=>(List.mem_append.1 hx).elim (hxz x) (hz x),⟨w.heap.size,0,z,s,xs.length+ys.length,c.size⟩,p::rest,⟨by simp [Rn.moveP,hA.hpl],by simp,by simp;omega,rfl,⟨c,ty,fz,hnew,rfl,fun _=>hfz,by simpa using hfit,?_⟩,fun q hq=> ?_,?_,fun q hq=> ?_,fun x hx=> ?_⟩⟩
   ·simp only [told]
    rw [List.take_of_length_le (by simp),List.drop_append_of_le_length hs,List.drop_zero]
    exact hxs.mono fun _ _=>VA.mono hle.toLe
   ·rcases List.mem_cons.1 hq with rfl | hq
    ·exact ⟨by simp [hsz],by simp [Rn.moveP,JbU]⟩
    ·have:=hA.hown q hq
     exact ⟨by omega,by simp only [Rn.moveP];rw [if_neg (by omega)];exact this.2⟩
   ·intro hs0
    split at hs0<;>omega
   ·have hlt:=(hA.hown q hq).1
    rcases List.mem_cons.1 hq with rfl | hq'
    ·refine ⟨hA.hz,by simp;omega,hA.hs,by simp;omega,fun _=> ?_⟩
     obtain ⟨cq,tq,fq,k1,k2,k3,k4,k5⟩:=hA.hv;refine ⟨cq,tq,fq,(hold q.b hlt).trans k1,k2,k3,k4,?_⟩
     have e1:told q (xs++ys)=told q xs:=by
      simp only [told];rw [List.take_append_of_le_length (by omega)]
     rw [e1];exact k5.mono fun _ _=>VA.mono hle.toLe
    ·obtain ⟨h1,h2,h3,h4,h5⟩:=hA.hrest q hq'
     refine ⟨h1,by simp;omega,h3,by simp;omega,fun hs=> ?_⟩
     have hs2:st≠2:=fun e2=>by simp [e2] at hs
     obtain ⟨cq,tq,fq,k1,k2,k3,k4,k5⟩:=h5 hs2;refine ⟨cq,tq,fq,(hold q.b hlt).trans k1,k2,k3,k4,?_⟩
     have e1:told q (xs++ys)=told q xs:=by
      simp only [told];rw [List.take_append_of_le_length (by omega)]
     rw [e1];exact k5.mono fun _ _=>VA.mono hle.toLe
   ·rw [Wq] at hx
    rcases List.mem_append.1 hx with hx | hx
    ·exact (hA.hcl x hx).imp fun _=>VA.mono hle.toLe
    ·exact (hxs.ex x (by rw [Wq];exact List.mem_append_right _ hx)).imp fun _=>VA.mono hle.toLe
  ·simp only [AH.set,if_neg e]
   refine (h.rep i hi).of hle.toLe (by simp [Rn.moveP,e]) (by omega) fun b hb hn=>⟨?_,hold b hb⟩
   simp only [Rn.moveP];rw [if_neg (by omega)]
 ·have hi':H.n≤i:=hi
  have hne:i≠id:=by omega
  simp only [Rn.moveP,if_neg hne];exact h.fr i hi'
 ·simp only [Rn.moveP]
  rw [if_neg (show ¬ b=w.heap.size by omega)]
  exact h.bnd b (by omega)
 ·simp only [Rn.moveP] at hi
  by_cases e:b=w.heap.size
  ·simp only [e,if_pos] at hi
   cases hi;exact hid
  ·rw [if_neg e] at hi
   exact h.ids b i hi
theorem J7.setMap {ρ:Rn} {H:AH} {w w':World} (h:J7 ρ H w) {id b:Nat} {es:List (AV×AV)} {ents:Array MapEntry} {clk:Nat}
  (hid:id < H.n) (hb:ρ.ob id=some b) (ho:ρ.own b= .id id)
  (hw:w'.heap[b]? =some (.map ents clk)) (hold: ∀ b',b'≠b→w'.heap[b']? =w.heap[b']?) (hsz:w'.heap.size=w.heap.size) (hes:JO (JhU ρ) es ents.toList) (hbo:Ja0 ents clk):
  J7 ρ (H.set id (.map true es)) w':=by
 refine ⟨fun i hi=> ?_,h.fr,fun b hb=>h.bnd b (by omega),h.ids⟩
 by_cases e:i=id
 ·subst e
  simp only [AH.set,if_pos];exact ⟨b,hb,ho,ents,clk,hw,hes,fun _=>hbo⟩
 ·simp only [AH.set,if_neg e]
  refine (h.rep i hi).of (.refl ρ) rfl (by omega) fun b' hb' hn=>⟨rfl,hold b' fun eb=> ?_⟩
  rw [eb,ho] at hn;simp at hn;exact e hn.symm
structure Base where
 G:Nat
 w0:World
 ρ0:Rn
def Jmc (ρ:Rn) (w:World) (v:Lv):Prop:=
 ∃ b z,ρ.lo v.t v.g=some (b,z)∧match v.k with
  | 0=>(∀ x,x∈v.xs→x.cells.length=z)∧ ∃ c ty,w.heap[b]? =some (.cells c ty (0,0))∧c.size=v.xs.length*z∧JO (VA ρ) (flat v.xs) c.toList
  | 1=> ∃ l n,v.xs=[.s l,.i .i64 n]∧w.heap[b]? =some (.stringIter ⟨l.toArray⟩ n.toNat)
  | _=> ∃ (id n:Nat) (seen:List Nat) (m:Nat),v.xs=[.mp id,.i .i64 (n:Nat),.ag (seen.map fun j:Nat=> .i .i64 j)]∧ρ.ob id=some m∧w.heap[b]? =some (.mapIter (some m) n seen.toArray n)
structure Qt (B:Base) (ρ:Rn) (M:Mem) (w:World):Prop where
 heap:J7 ρ M.h w
 loc: ∀ t g k xs,Qx M.l t g k=some xs→Jmc ρ w ⟨t,g,k,xs⟩
 lof: ∀ t g,M.g≤g→ρ.lo t g=none
 loi: ∀ t g t' g' b z z',ρ.lo t g=some (b,z)→ρ.lo t' g'=some (b,z')→t=t'∧g=g'
 lob: ∀ t g b z,ρ.lo t g=some (b,z)→ρ.own b= .loc∧B.w0.heap.size≤b∧b < w.heap.size
 le:B.ρ0.Le ρ
 frame: ∀ b,b < B.w0.heap.size→B.ρ0.own b= .no∨B.ρ0.own b= .loc→w.heap[b]? =B.w0.heap[b]?
 own: ∀ b,b < B.w0.heap.size→ρ.own b=B.ρ0.own b
 sz:B.w0.heap.size≤w.heap.size
 os:w.os=B.w0.os
 tape:w.tape=B.w0.tape
 out:w.output=B.w0.output
 glob: ∀ g,g < B.G→ ∃ p,p∈ρ.pl g∧p.b=g∧p.o=0∧p.s=0
theorem Jmc.heap {ρ:Rn} {w w':World} {v:Lv} (h:Jmc ρ w v) (he:w'.heap=w.heap):Jmc ρ w' v:=by
 unfold Jmc at*;rw [he];exact h
theorem Qt.heap' {B:Base} {ρ:Rn} {M:Mem} {w w':World} (h:Qt B ρ M w) (he:w'.heap=w.heap) (ho:w'.os=w.os) (ht:w'.tape=w.tape) (hu:w'.output=w.output):Qt B ρ M w':=
 ⟨h.heap.heap he,fun t g k xs hv=>(h.loc t g k xs hv).heap he,h.lof,h.loi,fun t g b z hl=>by rw [he];exact h.lob t g b z hl,h.le,fun b hb hn=>by rw [he];exact h.frame b hb hn,h.own,by rw [he];exact h.sz,ho.trans h.os,ht.trans h.tape,hu.trans h.out,h.glob⟩
theorem Qt.drew {B:Base} {ρ:Rn} {M:Mem} {w:World} (h:Qt B ρ M w):Qt B ρ M w.drew:=h.heap' rfl rfl rfl rfl
def Sim (P:Program) (o:Oper) (a:Act) (w:World) (K:Value→World→Prop):Prop:=
 ∀ (next:Act→World→Prop) (Q:Exit→Act→World→Prop),(∀ v w',K v w'→next (a.put o.dst v) w')→o.wp P a w next Q
def Out (B:Base) (ρ:Rn) (M':Mem) (x:AV) (v:Value) (w':World):Prop:= ∃ ρ',ρ.LeL ρ'∧VE ρ' x v∧Qt B ρ' M' w'
theorem Sim.value {P:Program} {o:Oper} {a:Act} {w w':World} {K:Value→World→Prop} {v:Value} (h:(execOp a.eval o).run P w= .ok (.value v) w') (hk:K v w'):Sim P o a w K:=by
 intro next Q hn;unfold Oper.wp;rw [h,Oper.upon_value];exact hn v w' hk
theorem Sim.skip {P:Program} {o:Oper} {a:Act} {w w':World} {K:Value→World→Prop} (h:(execOp a.eval o).run P w= .ok .skip w') (hk:K undef w'):Sim P o a w K:=by
 intro next Q hn;unfold Oper.wp;rw [h,Oper.upon_skip];exact hn undef w' hk
theorem Out.same {B:Base} {ρ:Rn} {M:Mem} {x:AV} {v:Value} {w:World} (hv:VE ρ x v) (hm:Qt B ρ M w):Out B ρ M x v w:=⟨ρ,.refl ρ,hv,hm⟩
section
variable {ρ:Rn} {a:AV} {v:Value}
theorem VE.int (h:VE ρ a v) (hi:a.isI=true):a= .i a.toK a.toI∧v= .int a.toK a.toI:=by
 cases a<;>simp [AV.isI] at hi
 exact ⟨rfl,h⟩
theorem VE.bool (h:VE ρ a v) (hi:a.isB=true): ∃ b,a= .b b∧v= .bool b:=by
 cases a<;>simp [AV.isB] at hi
 exact ⟨_,rfl,h⟩
theorem VE.str (h:VE ρ a v) (hi:a.isS=true):a= .s a.toS∧v= .string ⟨a.toS.toArray⟩:=by
 cases a<;>simp [AV.isS] at hi
 exact ⟨rfl,h⟩
theorem VE.ag {cs:List AV} (h:VE ρ (.ag cs) v): ∃ ys:Array Value,v= .agg ys∧JO (VA ρ) cs ys.toList:=h
theorem VE.tp {cs:List AV} (h:VE ρ (.tp cs) v): ∃ ys:Array Value,v= .tuple ys∧JO (V1 ρ) cs ys.toList:=h
end
theorem JeV {ρ:Rn} {a:AV} {v:Value} (h:Jni a v=true):VA ρ a v:=by
 cases a<;>cases v<;>simp [Jni] at h
 case b.bool=>subst h;rfl
 case i.int=>obtain ⟨rfl,rfl⟩:=h;rfl
 case s.string s=>subst h;show _=_;simp
 case np.pointer p=>subst h;rfl
 case ns.slice p l c=>obtain ⟨⟨rfl,rfl⟩,rfl⟩:=h;rfl
 case nm.map p=>subst h;rfl
 case nf.nilFunc=>rfl
 case ni.nilIface=>rfl
theorem Jc8 {ρ:Rn}: ∀ {l:List AV} {m:List Value},Jfs l m=true→JO (VA ρ) l m
 | [],[],_=>trivial
 | x::r,y::q,h=>by
  simp [Jfs] at h;exact ⟨JeV h.1,Jc8 h.2⟩
 | [],_::_,h=>by simp [Jfs] at h
 | _::_,[],h=>by simp [Jfs] at h
theorem Yp {ρ:Rn} {a:AV} {v:Value} (h:Jls a v=true):V1 ρ a v:=by
 simp only [Jls,Bool.and_eq_true] at h;obtain ⟨hp,hs⟩:=h;cases a
 case ag xs=>
  cases v<;>simp [JqL] at hs
  exact ⟨_,rfl,Jc8 hs⟩
 all_goals exact V1.of (JeV (by simpa [JqL] using hs))
theorem JcF {P:Program} {B:Base} {ρ:Rn} {M:Mem} {w:World} (hm:Qt B ρ M w) (hG:B.G=P.globals.size) {e:Env} {a:Act} {x:Opd} {y:Operand} (h:Wo P x y=true)
  (ht: ∀ t,x= .t t→VE ρ (look e t) (a.tmps.getD t undef)):VE ρ (evT e x) (a.eval y):=by
 cases x<;>cases y<;>simp [Wo] at h
 case t.tmp n m=>subst h;exact ht n rfl
 case c.const=>exact VE.of (V2.of (Yp h))
 case g.global n m=>
  obtain ⟨rfl,hn⟩:=h;obtain ⟨p,h1,h2,h3,h4⟩:=hm.glob n (by omega)
  exact VE.of (V2.of (V1.of (VA.of (show VP ρ (.pv n 0) _ from ⟨p,h1,h4,by rw [h2,h3];rfl⟩))))
 case f.func n m=>subst h;exact VE.of (V2.of (V1.of (show VA ρ (.fn n []) _ from ⟨#[],rfl,trivial⟩)))
section types
variable {P:Program} {t:TypeId} {w:World}
theorem Jgb {n:Nat} (h:szT P t=some n): ∃ i,P.info? t=some i∧i.size=n:=by
 unfold szT at h;cases hi:P.info? t with
 | none=>rw [hi] at h;cases h
 | some i=>rw [hi] at h;exact ⟨i,rfl,by simpa using h⟩
theorem J5 {n:Nat} (h:szT P t=some n):(sizeOf t).run P w= .ok n w:=by
 obtain ⟨i,hi,hn⟩:=Jgb h;simp [sizeOf,typeInfo,hi,hn]
theorem Jd3 {z:Value} (h:zeT P t=some z):(zeroValue t).run P w= .ok z w:=by
 unfold zeT at h;cases hi:P.info? t with
 | none=>rw [hi] at h;cases h
 | some i=>
  rw [hi] at h;have h':i.zero=some z:=by simpa using h
  simp [zeroValue,typeInfo,hi,h']
theorem JD {d:TypeDesc} (h:P.underlying t=some d):(underlying t).run P w= .ok d w:=by
 simp [underlying,h]
theorem Jpt (h:nT P t=some none): ∃ d,P.underlying t=some d∧(∀ fs,d≠ .struct fs)∧(∀ n e,d≠ .array n e):=by
 unfold nT at h;split at h
 ·cases hs:szT P t<;>rw [hs] at h<;>cases h
 ·cases hs:szT P t<;>rw [hs] at h<;>cases h
 ·rename_i d h1 h2 h3
  exact ⟨d,h3,fun fs e=>h1 fs e,fun n' e' e=>h2 n' e' e⟩
 ·cases h
theorem JgX {n:Nat} (h:nT P t=some (some n)):szT P t=some n∧((∃ fs,P.underlying t=some (.struct fs))∨ ∃ m e,P.underlying t=some (.array m e)):=by
 unfold nT at h;split at h
 ·rename_i fs hu
  exact ⟨by cases hs:szT P t<;>rw [hs] at h<;>simp at h;rw [h],.inl ⟨fs,hu⟩⟩
 ·rename_i m e hu
  exact ⟨by cases hs:szT P t<;>rw [hs] at h<;>simp at h;rw [h],.inr ⟨m,e,hu⟩⟩
 ·cases h
 ·cases h
theorem JbF (h:nT P t=some none):(isAgg t).run P w= .ok false w:=by
 obtain ⟨d,hu,h1,h2⟩:=Jpt h;simp only [isAgg,Sem.run_bind,JD hu,Result.andThen_ok];cases d<;>first | rfl | exact absurd rfl (h1 _) | exact absurd rfl (h2 _ _)
theorem Jaw {n:Nat} (h:nT P t=some (some n)):(isAgg t).run P w= .ok true w:=by
 obtain ⟨-,⟨fs,hu⟩ | ⟨m,e,hu⟩⟩:=JgX h<;>simp only [isAgg,Sem.run_bind,JD hu,Result.andThen_ok]<;>rfl
theorem Jbd {e:TypeId} (h:elT P t=some e):P.underlying t=some (.slice e):=by
 unfold elT at h;split at h
 ·cases h;assumption
 ·cases h
theorem Jix {n:Nat} {e:TypeId} (h:arT P t=some (n,e)):P.underlying t=some (.array n e):=by
 unfold arT at h;split at h
 ·cases h;assumption
 ·cases h
theorem Jjr {k:IntKind} (h:Jug P t k=true):P.underlying t=some (.int k):=by
 unfold Jug at h;split at h
 ·rename_i k' hu;rw [hu];simp at h;rw [h]
 ·cases h
theorem Jbl (h:JoM P t=true):P.underlying t=some .string:=by
 unfold JoM at h;split at h
 ·assumption
 ·cases h
theorem JlO (h:boolT P t=true):P.underlying t=some .bool:=by
 unfold boolT at h;split at h
 ·assumption
 ·cases h
theorem Jft (h:Ji8 P t=true): ∃ e,P.underlying t=some (.slice e)∧P.underlying e=some (.int .u8):=by
 unfold Ji8 at h;split at h
 ·rename_i e he;exact ⟨e,Jbd he,Jjr h⟩
 ·cases h
theorem JiU {f:Nat} {g:Field} (h:JtU P t f=some g): ∃ fs:Array Field,P.underlying t=some (.struct fs)∧fs[f]? =some g:=by
 unfold JtU at h;split at h
 ·rename_i fs hu;exact ⟨fs,hu,h⟩
 ·cases h
theorem Jce {ρ:Rn} {n:Option Nat} {cs:List AV} {ys:Array Value} {off:Nat} (h:nT P t=some n) (hc:JO (VA ρ) cs ys.toList) (hf:JF cs off n):
  ∃ v,(part t ys off).run P w= .ok v w∧V1 ρ (partOf cs off n) v:=by
 cases n with
 | none=>
  have hlt:off < cs.length:=hf;obtain ⟨y,hy,hv⟩:=hc.get off cs[off] (by simp [hlt])
  refine ⟨y,?_,?_⟩
  ·have hy':ys[off]? =some y:=by simpa using hy
   simp [part,JbF h,hy']
  ·have e:partOf cs off none=cs[off]:=by simp [partOf,List.getD,List.getElem?_eq_getElem hlt]
   rw [e];exact V1.of hv
 | some n=>
  refine ⟨.agg (ys.extract off (off+n)),?_,?_⟩
  ·simp [part,Jaw h,J5 (JgX h).1]
  ·refine ⟨_,rfl,?_⟩
   have:=(hc.drop off).take n;simpa [List.take_drop,Nat.add_comm] using this
end types
section ops
variable {P:Program} {B:Base} {C:Tab} {ρ:Rn} {M:Mem} {w:World} {e:Env} {a:Act} {o:Oper}
abbrev OE (P:Program) (ρ:Rn) (e:Env) (a:Act) (l:List Opd):Prop:= ∀ y z,y∈l→Wo P y z=true→VE ρ (evT e y) (a.eval z)
theorem Jq3 {d:Nat} {x:Opd} (hc:Jy P (.mv d x) o.op=true) (hE:OE P ρ e a [x]) (hm:Qt B ρ M w):Sim P o a w (Out B ρ M (evT e x)):=by
 simp only [Jy] at hc;split at hc
 ·rename_i y ho;exact Sim.value (v:=a.eval y) (by simp [execOp,ho]) (Out.same (hE _ _ (by simp) hc) hm)
 ·rename_i y ho;exact Sim.value (v:=a.eval y) (by simp [execOp,ho]) (Out.same (hE _ _ (by simp) hc) hm)
 ·cases hc
theorem Jm7 {p:Bool} {x y:AV} {v u:Value} (hx:VE ρ x v) (hy:VE ρ y u):VE ρ (JgA (.b p) x y) (if p=true then v else u):=by
 have:VE ρ (bif p then x else y) (if p=true then v else u):=by cases p<;>simpa
 cases x<;>cases y<;>first | exact this | skip
 cases p
 ·exact hy
 ·exact hx
theorem Jsl {d:Nat} {c x y:Opd} (hc:Jy P (.pk d c x y) o.op=true) (hk:(evT e c).isB=true) (hE:OE P ρ e a [c,x,y]) (hm:Qt B ρ M w):
  Sim P o a w (Out B ρ M (JgA (evT e c) (evT e x) (evT e y))):=by
 simp only [Jy] at hc;split at hc
 ·rename_i c' x' y' ho
  simp only [Bool.and_eq_true] at hc;obtain ⟨p,h1,h2⟩:=(hE c c' (by simp) hc.1.1).bool hk
  rw [h1];refine Sim.value (v:=if p=true then a.eval x' else a.eval y') ?_ (Out.same (Jm7 (hE x x' (by simp) hc.1.2) (hE y y' (by simp) hc.2)) hm)
  simp [execOp,ho,asBool,h2]
 ·cases hc
theorem Jn0 {op:BinOp} {k k':IntKind} {x y:Int} {t:TypeId} (h:Jd7 op k k' y): ∃ v,(binOp op t (.int k x) (.int k' y)).run P w= .ok v w∧VP ρ (Zb op k x y) v:=by
 cases op<;>simp only [Jd7] at h
 case shl=>exact ⟨_,by simp only [binOp,Op.shift,if_neg (show ¬ y < 0 by omega)];rfl,rfl⟩
 case shr=>exact ⟨_,by simp only [binOp,Op.shift,if_neg (show ¬ y < 0 by omega)];rfl,rfl⟩
 case quo=>obtain ⟨rfl,hy⟩:=h;exact ⟨_,by simp only [binOp,ne_eq,not_true,if_false,Op.intDiv,if_neg hy];rfl,rfl⟩
 case rem=>obtain ⟨rfl,hy⟩:=h;exact ⟨_,by simp only [binOp,ne_eq,not_true,if_false,Op.intDiv,if_neg hy];rfl,rfl⟩
 all_goals (subst h;exact ⟨_,by simp only [binOp,ne_eq,not_true,if_false];rfl,rfl⟩)
theorem JlJ (l:List UInt8):(⟨l.toArray⟩:ByteArray).toList=l:=by
 rw [ByteArray.toList_eq]
theorem JbY (l:List UInt8):(⟨l.toArray⟩:ByteArray).size=l.length:=by simp [ByteArray.size]
theorem JkF (x y:List UInt8):(⟨x.toArray⟩++⟨y.toArray⟩:ByteArray)=⟨(x++y).toArray⟩:=by
 apply ByteArray.ext
 apply Array.ext'
 simp [ByteArray.data_append]
theorem Jmk {op:BinOp} {x y:List UInt8} {t:TypeId} (h:Ja9 op x y): ∃ v,(binOp op t (.string ⟨x.toArray⟩) (.string ⟨y.toArray⟩)).run P w= .ok v w∧VP ρ (Ja4 op x y) v:=by
 have hb:(x==y)=decide (x=y):=by rw [Bool.eq_iff_iff];simp
 cases op<;>simp only [Ja9] at h
 case add=>
  refine ⟨.string ⟨(x++y).toArray⟩,?_,rfl⟩
  have: ¬ (((⟨x.toArray⟩:ByteArray).size+(⟨y.toArray⟩:ByteArray).size:Nat):Int) > IntKind.i64.max:=by
   rw [JbY,JbY];simp only [IntKind.max,IntKind.signed,IntKind.bits];simp;omega
  simp only [binOp,Op.stringOp,if_neg this,JkF];rfl
 all_goals (refine ⟨_,by simp only [binOp,Op.stringOp];rfl,?_⟩;simp only [Ja4,VP,JlJ,hb])
theorem Qh {op:BinOp} {t:TypeId} {x y:Operand} {u v:Value} (h:(∃ k n,u= .int k n)∨(∃ s,u= .string s)∨(∃ b,u= .bool b)∨(∃ p,u= .pointer p)∨(∃ p l c,u= .slice p l c)∨(∃ p,u= .map p)∨u= .nilFunc∨(∃ f g c,u= .func f g c)):
  (eqGuard op t x y u v).run P w= .ok () w:=by
 unfold eqGuard;rcases h with ⟨k,n,rfl⟩ | ⟨s,rfl⟩ | ⟨b,rfl⟩ | ⟨p,rfl⟩ | ⟨p,l,c,rfl⟩ | ⟨p,rfl⟩ | rfl | ⟨f,g,c,rfl⟩<;>cases op<;>rfl
theorem JrD {d:Nat} {op:BinOp} {x y:Opd} (hc:Jy P (.bn d op x y) o.op=true) (hk:JhY op (evT e x) (evT e y)) (hE:OE P ρ e a [x,y]) (hm:Qt B ρ M w):
  Sim P o a w (Out B ρ M (JiO op (evT e x) (evT e y))):=by
 simp only [Jy] at hc;split at hc
 ·rename_i op' t x' y' yt ho
  simp only [Bool.and_eq_true,beq_iff_eq] at hc;obtain ⟨⟨rfl,h1⟩,h2⟩:=hc;have hx:=hE x x' (by simp) h1
  have hy:=hE y y' (by simp) h2
  generalize evT e x=X at*;generalize evT e y=Y at*;cases X<;>cases Y<;>simp only [JhY] at hk
  case i.i k p k' q=>
   have hx':a.eval x'= .int k p:=hx;have hy':a.eval y'= .int k' q:=hy;obtain ⟨v,hv,hr⟩:=Jn0 (P:=P) (ρ:=ρ) (w:=w) (x:=p) (t:=t) hk;refine Sim.value (v:=v) ?_ (Out.same (VE.of (V2.of (V1.of (VA.of hr)))) hm)
   simp [execOp,ho,hx',hy',Qh,hv]
  case s.s p q=>
   have hx':a.eval x'= .string ⟨p.toArray⟩:=hx;have hy':a.eval y'= .string ⟨q.toArray⟩:=hy;obtain ⟨v,hv,hr⟩:=Jmk (P:=P) (ρ:=ρ) (w:=w) (t:=t) hk;refine Sim.value (v:=v) ?_ (Out.same (VE.of (V2.of (V1.of (VA.of hr)))) hm)
   simp [execOp,ho,hx',hy',Qh,hv]
 ·cases hc
theorem Jrf {d:Nat} {op:UnOp} {x:Opd} (hc:Jy P (.un d op x) o.op=true) (hk:unC op (evT e x)) (hE:OE P ρ e a [x]) (hm:Qt B ρ M w):
  Sim P o a w (Out B ρ M (unV op (evT e x))):=by
 simp only [Jy] at hc;split at hc
 ·rename_i op' t x' ho
  simp only [Bool.and_eq_true,beq_iff_eq] at hc;obtain ⟨rfl,h1⟩:=hc;have hx:=hE x x' (by simp) h1
  generalize evT e x=X at*;cases X<;>simp only [unC] at hk
  case i k p=>
   have hx':a.eval x'= .int k p:=hx;rcases hk with rfl | rfl
   ·exact Sim.value (v:= .int k (k.wrap (0-p))) (by simp [execOp,ho,hx',Op.unary,Op.intArith]) (Out.same (VE.of (V2.of (V1.of (VA.of rfl)))) hm)
   ·refine Sim.value (v:= .int k (Jqk .xor k (if k.signed then-1 else k.max) p)) ?_ (Out.same (VE.of (V2.of (V1.of (VA.of rfl)))) hm)
    simp only [execOp,ho,hx',Op.unary,Op.intBits];rfl
  case b p=>
   have hx':a.eval x'= .bool p:=hx;subst hk;exact Sim.value (v:= .bool (!p)) (by simp [execOp,ho,hx',Op.unary]) (Out.same (VE.of (V2.of (V1.of (VA.of rfl)))) hm)
 ·cases hc
theorem JrY {d:Nat} {neg:Bool} {x y:Opd} (hc:Jy P (.be d neg x y) o.op=true) (hk:(evT e x).isB=true∧(evT e y).isB=true) (hE:OE P ρ e a [x,y]) (hm:Qt B ρ M w):
  Sim P o a w (Out B ρ M (Jkd neg (evT e x) (evT e y))):=by
 simp only [Jy] at hc;split at hc
 ·rename_i op' t x' y' yt ho
  simp only [Bool.and_eq_true,beq_iff_eq] at hc;obtain ⟨⟨⟨ho',hb⟩,h1⟩,h2⟩:=hc;obtain ⟨p,hp1,hp2⟩:=(hE x x' (by simp) h1).bool hk.1
  obtain ⟨q,hq1,hq2⟩:=(hE y y' (by simp) h2).bool hk.2
  have hu:=JlO hb
  have he:(Op.equal t (.bool p) (.bool q)).run P w= .ok (p==q) w:=by
   show (Op.equalIn (9999+1) t _ _).run P w=_
   rw [Op.equalIn];simp [JD hu]
  refine Sim.value (v:= .bool ((p==q) != neg)) ?_ (Out.same (by rw [hp1,hq1];exact VE.of (V2.of (V1.of (VA.of rfl)))) hm)
  cases neg
  ·have ho'':op'= .eql:=by simpa using ho'
   subst ho'';simp [execOp,ho,hp2,hq2,Qh,binOp,he]
  ·have ho'':op'= .neq:=by simpa using ho'
   subst ho'';simp [execOp,ho,hp2,hq2,Qh,binOp,he]
 ·cases hc
theorem Jrh {d k:Nat} {neg:Bool} {x:Opd} (hc:Jy P (.nl d k neg x) o.op=true) (hk:(Jmv k (evT e x)).isSome=true) (hE:OE P ρ e a [x]) (hm:Qt B ρ M w):
  Sim P o a w (Out B ρ M (.b (((Jmv k (evT e x)).getD false) != neg))):=by
 simp only [Jy] at hc;split at hc
 ·rename_i op' t x' c yt ho
  simp only [Bool.and_eq_true,beq_iff_eq] at hc;obtain ⟨⟨ho',h1⟩,h2⟩:=hc;have hx:=hE x x' (by simp) h1
  suffices h: ∃ r:Bool,Jmv k (evT e x)=some r∧(Op.equal t (a.eval x') c).run P w= .ok r w∧(eqGuard op' t x' (.const c) (a.eval x') c).run P w= .ok () w∧
    (∀ op:BinOp,(op= .eql→binOp op t (a.eval x') c=do pure (.bool (←Op.equal t (a.eval x') c)))∧(op= .neq→binOp op t (a.eval x') c=do pure (.bool (!(←Op.equal t (a.eval x') c))))) by
   obtain ⟨r,hr,he,hg,hb⟩:=h;rw [hr];refine Sim.value (v:= .bool (r != neg)) ?_ (Out.same (VE.of (V2.of (V1.of (VA.of rfl)))) hm)
   have hcc:a.eval (.const c)=c:=rfl;cases neg
   ·have ho'':op'= .eql:=by simpa using ho'
    subst ho'';simp [execOp,ho,hcc,hg,(hb .eql).1 rfl,he]
   ·have ho'':op'= .neq:=by simpa using ho'
    subst ho'';simp [execOp,ho,hcc,hg,(hb .neq).2 rfl,he]
  have heq: ∀ u v,Op.equal t u v=Op.equalIn (9999+1) t u v:=fun _ _=>rfl
  generalize evT e x=X at*;split at h2
  ·rename_i el hu
   cases X<;>simp [Jmv] at hk
   ·have hx':a.eval x'= .slice none 0 0:=hx
    rw [hx'];exact ⟨true,rfl,by rw [heq,Op.equalIn];simp [JD hu],Qh (by simp),fun op=>⟨fun h=>by subst h;rfl,fun h=>by subst h;rfl⟩⟩
   ·obtain ⟨p,-,-,-,off,cap,-,-,-,ad,-,hx'⟩:=(hx:VP ρ (.sl ..) _)
    rw [hx'];exact ⟨false,rfl,by rw [heq,Op.equalIn];simp [JD hu],Qh (by simp),fun op=>⟨fun h=>by subst h;rfl,fun h=>by subst h;rfl⟩⟩
  ·rename_i k1 k2 hu
   cases X<;>simp [Jmv] at hk
   ·have hx':a.eval x'= .map none:=hx
    rw [hx'];exact ⟨true,rfl,by rw [heq,Op.equalIn];simp [JD hu],Qh (by simp),fun op=>⟨fun h=>by subst h;rfl,fun h=>by subst h;rfl⟩⟩
   ·obtain ⟨b,-,hx'⟩:=(hx:VP ρ (.mp _) _)
    rw [hx'];exact ⟨false,rfl,by rw [heq,Op.equalIn];simp [JD hu],Qh (by simp),fun op=>⟨fun h=>by subst h;rfl,fun h=>by subst h;rfl⟩⟩
  ·rename_i el hu
   have key: ∀ ad:Addr,a.eval x'= .pointer (some ad)→ ∃ r:Bool,some false=some r∧(Op.equal t (a.eval x') (.pointer none)).run P w= .ok r w∧(eqGuard op' t x' (.const (.pointer none)) (a.eval x') (.pointer none)).run P w= .ok () w∧
     (∀ op:BinOp,(op= .eql→binOp op t (a.eval x') (.pointer none)=do pure (.bool (←Op.equal t (a.eval x') (.pointer none))))∧(op= .neq→binOp op t (a.eval x') (.pointer none)=do pure (.bool (!(←Op.equal t (a.eval x') (.pointer none)))))):=by
    intro ad hx';rw [hx'];exact ⟨false,rfl,by rw [heq,Op.equalIn];simp [JD hu],Qh (by simp),fun op=>⟨fun h=>by subst h;rfl,fun h=>by subst h;rfl⟩⟩
   cases X<;>simp [Jmv] at hk
   ·have hx':a.eval x'= .pointer none:=hx
    rw [hx'];exact ⟨true,rfl,by rw [heq,Op.equalIn];simp [JD hu],Qh (by simp),fun op=>⟨fun h=>by subst h;rfl,fun h=>by subst h;rfl⟩⟩
   ·obtain ⟨p,-,-,hx'⟩:=(hx:VP ρ (.pv ..) _)
    exact key _ hx'
   ·obtain ⟨p,-,-,-,-,hx'⟩:=(hx:VP ρ (.pe ..) _)
    exact key _ hx'
   ·obtain ⟨b,z,-,hx'⟩:=hx
    exact key _ hx'
  ·rename_i ps rs v hu
   cases X<;>simp [Jmv] at hk
   ·have hx':a.eval x'= .nilFunc:=hx
    rw [hx'];exact ⟨true,rfl,by rw [heq,Op.equalIn];simp [JD hu],Qh (by simp),fun op=>⟨fun h=>by subst h;rfl,fun h=>by subst h;rfl⟩⟩
   ·obtain ⟨rc,hx',-⟩:=(hx:VA ρ (.fn ..) _)
    rw [hx'];exact ⟨false,rfl,by rw [heq,Op.equalIn];simp [JD hu],Qh (by simp),fun op=>⟨fun h=>by subst h;rfl,fun h=>by subst h;rfl⟩⟩
  ·cases h2
 ·cases hc
theorem JsZ {d:Nat} {k:IntKind} {x:Opd} (hc:Jy P (.ci d k x) o.op=true) (hk:(evT e x).isI=true) (hE:OE P ρ e a [x]) (hm:Qt B ρ M w):
  Sim P o a w (Out B ρ M (.i k (k.wrap (evT e x).toI))):=by
 simp only [Jy] at hc;split at hc
 ·rename_i s t x' ho
  simp only [Bool.and_eq_true] at hc;obtain ⟨⟨h1,h2⟩,h3⟩:=hc;have hx:=((hE x x' (by simp) h1).int hk).2
  obtain ⟨ds,hs⟩:=Option.isSome_iff_exists.1 h3;refine Sim.value (v:= .int k (k.wrap (evT e x).toI)) ?_ (Out.same (VE.of (V2.of (V1.of (VA.of rfl)))) hm)
  simp only [execOp,ho,hx,Sem.run_bind,convert,JD (Jjr h2),JD hs,Result.andThen_ok];cases ds<;>rfl
 ·cases hc
theorem JrZ {d i:Nat} {x:Opd} (hc:Jy P (.ex d x i) o.op=true) (hk: ∃ xs,evT e x= .tp xs∧i < xs.length) (hE:OE P ρ e a [x]) (hm:Qt B ρ M w):
  Sim P o a w (Out B ρ M (match evT e x with | .tp xs=>xs.getD i .u | _=> .u)):=by
 simp only [Jy] at hc;split at hc
 ·rename_i x' j ho
  simp only [Bool.and_eq_true,beq_iff_eq] at hc;obtain ⟨h1,rfl⟩:=hc;obtain ⟨xs,hxs,hi⟩:=hk;have hx:=hE x x' (by simp) h1
  rw [hxs] at hx ⊢;obtain ⟨ys,hy,hr⟩:=hx.tp;obtain ⟨y,hy1,hy2⟩:=hr.get i xs[i] (by simp [hi])
  have hy1':ys[i]? =some y:=by simpa using hy1
  refine Sim.value (v:=y) (by simp [execOp,ho,hy,Instr.extract,hy1']) (Out.same ?_ hm)
  simp only [List.getD,List.getElem?_eq_getElem hi,Option.getD_some];exact VE.of (V2.of hy2)
 ·cases hc
theorem JsH {d off:Nat} {n:Option Nat} {x:Opd} (hc:Jy P (.fd d x off n) o.op=true) (hk: ∃ cs,evT e x= .ag cs∧JF cs off n) (hE:OE P ρ e a [x]) (hm:Qt B ρ M w):
  Sim P o a w (Out B ρ M (partOf (evT e x).cells off n)):=by
 simp only [Jy] at hc;split at hc
 ·rename_i t x' f ho
  simp only [Bool.and_eq_true] at hc;obtain ⟨h1,h2⟩:=hc;obtain ⟨cs,hcs,hf⟩:=hk;have hx:=hE x x' (by simp) h1
  rw [hcs] at hx ⊢;obtain ⟨ys,hy,hr⟩:=hx.ag;split at h2
  ·rename_i g hg
   simp only [Bool.and_eq_true,beq_iff_eq] at h2;obtain ⟨rfl,hn⟩:=h2;obtain ⟨fs,hu,hfs⟩:=JiU hg;obtain ⟨v,hv1,hv2⟩:=Jce (w:=w) hn hr hf;exact Sim.value (v:=v) (by simp [execOp,ho,hy,Instr.field,JD hu,hfs,asAgg,hv1]) (Out.same (VE.of (V2.of hv2)) hm)
  ·cases h2
 ·cases hc
theorem Jq9 {d:Nat} {x i:Opd} (hc:Jy P (.ix d x i) o.op=true) (hk:(evT e x).isS=true∧(evT e i).isI=true∧0≤(evT e i).toI∧(evT e i).toI < (evT e x).toS.length) (hE:OE P ρ e a [x,i]) (hm:Qt B ρ M w):
  Sim P o a w (Out B ρ M (.i .u8 ((evT e x).toS.getD (evT e i).toI.toNat 0).toNat)):=by
 simp only [Jy] at hc;split at hc
 ·rename_i t x' i' ho
  simp only [Bool.and_eq_true] at hc;obtain ⟨⟨h1,h2⟩,h3⟩:=hc;obtain ⟨k1,k2,k3,k4⟩:=hk;have hx:=((hE x x' (by simp) h1).str k1).2
  have hi:=((hE i i' (by simp) h2).int k2).2
  have hlt:(evT e i).toI.toNat < (evT e x).toS.length:=by omega
  refine Sim.value (v:= .int .u8 ((evT e x).toS.getD (evT e i).toI.toNat 0).toNat) ?_ (Out.same (VE.of (V2.of (V1.of (VA.of rfl)))) hm)
  have hg:(⟨(evT e x).toS.toArray⟩:ByteArray)[(evT e i).toI.toNat]? =some ((evT e x).toS.getD (evT e i).toI.toNat 0):=by
   have hs:(evT e i).toI.toNat < (⟨(evT e x).toS.toArray⟩:ByteArray).size:=by rw [JbY];exact hlt
   have h0:(⟨(evT e x).toS.toArray⟩:ByteArray)[(evT e i).toI.toNat]? =some ((⟨(evT e x).toS.toArray⟩:ByteArray)[(evT e i).toI.toNat]'hs):=getElem?_pos (⟨(evT e x).toS.toArray⟩:ByteArray) (evT e i).toI.toNat hs;rw [h0];simp only [List.getD,List.getElem?_eq_getElem hlt,Option.getD_some];congr 1
  simp [execOp,ho,hx,hi,Instr.index,asIntOf,JD (Jbl h3),k3,hg]
 ·cases hc
theorem Jo3 {d len z:Nat} {n:Option Nat} {x i:Opd} (hc:Jy P (.ixa d x i len z n) o.op=true) (hk:(∃ cs,evT e x= .ag cs∧JF cs ((evT e i).toI.toNat*z) n)∧(evT e i).isI=true∧0≤(evT e i).toI∧(evT e i).toI < len) (hE:OE P ρ e a [x,i]) (hm:Qt B ρ M w):
  Sim P o a w (Out B ρ M (partOf (evT e x).cells ((evT e i).toI.toNat*z) n)):=by
 simp only [Jy] at hc;split at hc
 ·rename_i t x' i' ho
  simp only [Bool.and_eq_true] at hc;obtain ⟨⟨h1,h2⟩,h3⟩:=hc;obtain ⟨⟨cs,hcs,hf⟩,k2,k3,k4⟩:=hk;have hx:=hE x x' (by simp) h1
  have hi:=((hE i i' (by simp) h2).int k2).2
  rw [hcs] at hx ⊢;obtain ⟨ys,hy,hr⟩:=hx.ag;split at h3
  ·rename_i l el hg
   simp only [Bool.and_eq_true,beq_iff_eq] at h3;obtain ⟨⟨rfl,hz⟩,hn⟩:=h3;obtain ⟨v,hv1,hv2⟩:=Jce (w:=w) hn hr hf;refine Sim.value (v:=v) ?_ (Out.same (VE.of (V2.of hv2)) hm)
   simp [execOp,ho,hy,hi,Instr.index,asIntOf,JD (Jix hg),k3,k4,J5 hz,hv1]
  ·cases h3
 ·cases hc
theorem JcW {x:Opd} {y:Option Operand} (h:Jej P (some x) y=true): ∃ z,y=some z∧Wo P x z=true:=by
 cases y with
 | none=>simp [Jej] at h
 | some z=>exact ⟨z,rfl,by simpa [Jej] using h⟩
theorem JcP {y:Option Operand} (h:Jej P none y=true):y=none:=by
 cases y with
 | none=>rfl
 | some z=>simp [Jej] at h
theorem Jco {v:Value} {k:IntKind} {n:Int} {y:Nat} {code:BoundsCode} (hv:v= .int k n) (h0:0≤n) (h1:n≤y):(Instr.sliceBound v y code).run P w= .ok n.toNat w:=by
 subst hv;simp only [Instr.sliceBound,asIntOf,Sem.run_bind,Sem.run_pure,Result.andThen_ok];rw [if_pos ⟨h0,h1⟩];rfl
theorem JcH {isSlice:Bool} {len cap:Nat} {lo hi:Option Opd} {lo' hi':Option Operand} {dl dh:AV} (hcap:len≤cap) (hl:Jej P lo lo'=true) (hh:Jej P hi hi'=true)
  (hE:OE P ρ e a (lo.toList++hi.toList)) (hdl:dl= .i .i64 0) (hdh:dh.toI=len)
  (hi1:(evO e lo dl).isI=true) (hi2:(evO e hi dh).isI=true) (h0:0≤(evO e lo dl).toI) (h1:(evO e lo dl).toI≤(evO e hi dh).toI) (h2:(evO e hi dh).toI≤len):
  (Instr.sliceBounds isSlice len cap (lo'.map a.eval) (hi'.map a.eval) none).run P w= .ok ((evO e lo dl).toI.toNat,(evO e hi dh).toI.toNat,cap) w:=by
 unfold Instr.sliceBounds;cases lo with
 | none=>
  rw [JcP hl];subst hdl;cases hi with
  | none=>
   rw [JcP hh];have h00:(AV.i .i64 0).toI=0:=rfl;simp [evO,hdh,h00]
  | some y=>
   obtain ⟨z,rfl,hz⟩:=JcW hh;have hv:=((hE y z (by simp) hz).int hi2).2
   have hy0:0≤(evT e y).toI:=Int.le_trans h0 h1;have hy1:(evT e y).toI≤(cap:Int):=Int.le_trans h2 (by omega)
   simp [evO,AV.toI,Jco (w:=w) (P:=P) hv hy0 hy1]
 | some x=>
  obtain ⟨zx,rfl,hzx⟩:=JcW hl;have hvx:=((hE x zx (by simp) hzx).int hi1).2
  have hx0:0≤(evT e x).toI:=h0;cases hi with
  | none=>
   rw [JcP hh];have hx1:(evT e x).toI≤(len:Int):=Int.le_trans h1 h2;simp [evO,hdh,Jco (w:=w) (P:=P) hvx hx0 hx1]
  | some y=>
   obtain ⟨z,rfl,hz⟩:=JcW hh;have hv:=((hE y z (by simp) hz).int hi2).2
   have hy0:0≤(evT e y).toI:=Int.le_trans h0 h1;have hy1:(evT e y).toI≤(cap:Int):=Int.le_trans h2 (by omega)
   have hx1:(evT e x).toI≤((evT e y).toI.toNat:Int):=by
    have:(evT e x).toI≤(evT e y).toI:=h1;omega
   simp [evO,Jco (w:=w) (P:=P) hv hy0 hy1,Jco (w:=w) (P:=P) hvx hx0 hx1]
theorem JrK {d:Nat} {x:Opd} {lo hi:Option Opd} (hc:Jy P (.ss d x lo hi) o.op=true) (hk:okO C e M (.ss d x lo hi)) (hE:OE P ρ e a (x::(lo.toList++hi.toList))) (hm:Qt B ρ M w):
  Sim P o a w (Out B ρ M (vlO C e M (.ss d x lo hi))):=by
 simp only [Jy] at hc;split at hc
 ·rename_i t x' lo' hi' ho
  simp only [Bool.and_eq_true] at hc;obtain ⟨⟨⟨h1,h2⟩,h3⟩,h4⟩:=hc;simp only [okO] at hk;obtain ⟨k1,⟨k2,k3⟩,k4,k5,k6⟩:=hk;have hx:=((hE x x' (by simp) h1).str k1).2
  have hb:=JcH (w:=w) (P:=P) (ρ:=ρ) (a:=a) (e:=e) (isSlice:=false) (len:=(evT e x).toS.length) (cap:=(evT e x).toS.length) (dh:= .i .i64 (evT e x).toS.length) (Nat.le_refl _) h2 h3 (fun y z hy=>hE y z (by simp at hy ⊢;exact .inr hy)) rfl rfl k2 k3 k4 k5 k6
  refine Sim.value ?_ (Out.same (v:= .string ⟨(((evT e x).toS.drop (evO e lo (.i .i64 0)).toI.toNat).take ((evO e hi (.i .i64 (evT e x).toS.length)).toI.toNat- (evO e lo (.i .i64 0)).toI.toNat)).toArray⟩) (VE.of (V2.of (V1.of (VA.of rfl)))) hm)
  simp only [execOp,ho,hx,Sem.run_bind,Instr.sliceAt,JD (Jbl h4),Result.andThen_ok,Instr.slice,Option.map_none,JbY];simp only [Option.isSome_none,Bool.false_eq_true,if_false,Sem.run_pure,Sem.run_bind,Result.andThen_ok,hb];congr 4
  apply ByteArray.ext
  apply Array.ext'
  simp [ByteArray.data_extract,List.take_drop]
 ·cases hc
theorem Jsp {d:Nat} {x:Opd} (hc:Jy P (.ln d x) o.op=true) (hk:JlE (evT e x)) (hE:OE P ρ e a [x]) (hm:Qt B ρ M w):
  Sim P o a w (Out B ρ M (Jhx (evT e x))):=by
 simp only [Jy] at hc;split at hc
 ·rename_i c ho
  split at hc
  ·rename_i x' t hcal hargs htys
   simp only [Bool.and_eq_true] at hc;obtain ⟨h1,h2⟩:=hc;obtain ⟨el,hel⟩:=Option.isSome_iff_exists.1 h2;have hu:=Jbd hel;have hx:=hE x x' (by simp) h1
   have ha1:c.args= #[x']:=by have:=congrArg List.toArray hargs;simpa using this
   have ha2:c.argTypes= #[t]:=by have:=congrArg List.toArray htys;simpa using this
   suffices h: ∃ n:Nat,Jhx (evT e x)= .i .i64 n∧ ∃ b cap,a.eval x'= .slice b n cap by
    obtain ⟨n,hn,b,cap,hv⟩:=h;rw [hn];refine Sim.value (v:= .int .i64 n) ?_ (Out.same (VE.of (V2.of (V1.of (VA.of rfl)))) hm)
    simp [execOp,ho,resolve,hcal,ha1,ha2,invoke,builtin,Builtin.len_,JD hu,hv,goInt]
   generalize evT e x=X at*;cases X<;>simp only [JlE] at hk
   case ns=>exact ⟨0,rfl,_,_,hx⟩
   case sl id ix len=>obtain ⟨p,-,-,-,off,cap,-,-,-,ad,-,hx'⟩:=(hx:VP ρ (.sl ..) _);exact ⟨len,rfl,_,_,hx'⟩
   case ll t g z len=>obtain ⟨b,-,hx'⟩:=hx;exact ⟨len,rfl,_,_,hx'⟩
  ·cases hc
 ·cases hc
theorem Jpl {d:Nat} {x:Opd} (hc:Jy P (.lns d x) o.op=true) (hk:(evT e x).isS=true) (hE:OE P ρ e a [x]) (hm:Qt B ρ M w):
  Sim P o a w (Out B ρ M (.i .i64 (evT e x).toS.length)):=by
 simp only [Jy] at hc;split at hc
 ·rename_i c ho
  split at hc
  ·rename_i x' t hcal hargs htys
   simp only [Bool.and_eq_true] at hc;obtain ⟨h1,h2⟩:=hc;have hx:=((hE x x' (by simp) h1).str hk).2
   have ha1:c.args= #[x']:=by have:=congrArg List.toArray hargs;simpa using this
   have ha2:c.argTypes= #[t]:=by have:=congrArg List.toArray htys;simpa using this
   refine Sim.value (v:= .int .i64 (evT e x).toS.length) ?_ (Out.same (VE.of (V2.of (V1.of (VA.of rfl)))) hm)
   simp [execOp,ho,resolve,hcal,ha1,ha2,invoke,builtin,Builtin.len_,JD (Jbl h2),hx,goInt,JbY]
  ·cases hc
 ·cases hc
theorem Jba (b off n:Nat):(⟨b,off,none⟩:Addr).add n=⟨b,off+n,none⟩:=by
 unfold Addr.add;split<;>simp_all
theorem Jsf {d off:Nat} {x:Opd} (hc:Jy P (.fa d x off) o.op=true) (hk:faC (evT e x)) (hE:OE P ρ e a [x]) (hm:Qt B ρ M w):
  Sim P o a w (Out B ρ M (faV off (evT e x))):=by
 simp only [Jy] at hc;split at hc
 ·rename_i t x' f ho
  simp only [Bool.and_eq_true] at hc;obtain ⟨h1,h2⟩:=hc;have hx:=hE x x' (by simp) h1
  split at h2
  ·rename_i g hg
   simp only [Bool.and_eq_true,beq_iff_eq,bne_iff_ne] at h2;obtain ⟨⟨rfl,hn0⟩,hn⟩:=h2;obtain ⟨fs,hu,hfs⟩:=JiU hg;obtain ⟨n,hn'⟩:=Option.isSome_iff_exists.1 hn;have hn1:n≠0:=fun e=>hn0 (by rw [hn',e])
   have key: ∀ b off',a.eval x'= .pointer (some ⟨b,off',none⟩)→(execOp a.eval o).run P w= .ok (.value (.pointer (some ⟨b,off'+g.offset,none⟩))) w:=by
    intro b off' hx';simp [execOp,ho,hx',Instr.fieldAt,JD hu,hfs,Instr.sureAddr,fieldPlace,J5 hn',hn1,Jba]
   generalize evT e x=X at*;cases X<;>simp only [faC] at hk
   case pv id off=>
    obtain ⟨p,q1,q2,hx'⟩:=(hx:VP ρ (.pv ..) _);exact Sim.value (key _ _ hx') (Out.same (VE.of (V2.of (V1.of (VA.of (show VP ρ (.pv id (off+g.offset)) _ from ⟨p,q1,q2,by rw [Nat.add_assoc]⟩))))) hm)
   case pe id ix off ext=>
    obtain ⟨p,q1,q2,q3,q4,hx'⟩:=(hx:VP ρ (.pe ..) _);exact Sim.value (key _ _ hx') (Out.same (VE.of (V2.of (V1.of (VA.of (show VP ρ (.pe id ix (off+g.offset) ext) _ from ⟨p,q1,q2,q3,q4,by rw [Nat.add_assoc]⟩))))) hm)
   case la t g' ix off=>
    obtain ⟨b,z,q1,hx'⟩:=hx;exact Sim.value (key _ _ hx') (Out.same (show VE ρ (.la t g' ix (off+g.offset)) _ from ⟨b,z,q1,by rw [Nat.add_assoc]⟩) hm)
  ·cases h2
 ·cases hc
theorem JrL {d z:Nat} {x i:Opd} (hc:Jy P (.ia d x i z) o.op=true) (hk:(evT e i).isI=true∧slZ M.h z (evT e x)∧iaC (evT e i).toI (evT e x)) (hE:OE P ρ e a [x,i]) (hm:Qt B ρ M w):
  Sim P o a w (Out B ρ M (iaV (evT e i).toI.toNat (evT e x))):=by
 simp only [Jy] at hc;split at hc
 ·rename_i t x' i' ho
  simp only [Bool.and_eq_true] at hc;obtain ⟨⟨h1,h2⟩,h3⟩:=hc;obtain ⟨k1,k2,k3⟩:=hk;have hx:=hE x x' (by simp) h1
  have hi:=((hE i i' (by simp) h2).int k1).2
  split at h3
  ·rename_i el hel
   have hz:szT P el=some z:=by simpa using h3
   have hu:=Jbd hel
   have key: ∀ b off len cap,a.eval x'= .slice (some ⟨b,off,none⟩) len cap→0≤(evT e i).toI→(evT e i).toI < len→
     (execOp a.eval o).run P w= .ok (.value (.pointer (some ⟨b,off+(evT e i).toI.toNat*z,none⟩))) w:=by
    intro b off len cap hx' h0 hl;simp [execOp,ho,hx',hi,Instr.indexAt,asIntOf,JD hu,h0,hl,J5 hz,Jba]
   generalize evT e x=X at*;cases X<;>simp only [iaC] at k3
   case sl id ix len=>
    obtain ⟨p,q1,q2,q3,off,cap,q4,q5,q6,ad,had,hx'⟩:=(hx:VP ρ (.sl ..) _);have hlen:0 < len:=by omega
    obtain rfl:ad=⟨p.b,off,none⟩:=had.resolve_right (by omega)
    have hoff:off=p.o+(ix-p.s)*p.z:=by rcases q5 with q5 | ⟨q5,-⟩<;>omega
    have hid:id < M.h.n:=by
     rcases Nat.lt_or_ge id M.h.n with h | h
     ·exact h
     ·have:=(hm.heap.fr id h).1;rw [this] at q1;cases q1
    have hpz:p.z=z:=by
     simp only [slZ] at k2;have hr:=hm.heap.rep id hid;split at k2
     ·rename_i rw st z' xs hob
      rw [hob] at hr;obtain ⟨-,p0,rest,hA⟩:=hr;rw [hA.hpl] at q1;rcases List.mem_cons.1 q1 with rfl | q1
      ·exact hA.hz.trans k2
      ·exact ((hA.hrest p q1).1).trans k2
     ·exact k2.elim
    refine Sim.value (key _ _ _ _ hx' k3.1 k3.2) (Out.same (VE.of (V2.of (V1.of (VA.of (show VP ρ (.pe id (ix+(evT e i).toI.toNat) 0 (ix+len)) _ from ⟨p,q1,by omega,by omega,q3,?_⟩))))) hm)
    rw [hoff,hpz,show ix+(evT e i).toI.toNat-p.s=(ix-p.s)+(evT e i).toI.toNat by omega,Nat.add_mul]
    simp only [Nat.add_zero,Nat.add_assoc]
   case ll t g z' len=>
    obtain ⟨b,q1,hx'⟩:=hx;have hz':z'=z:=k2;refine Sim.value (key _ _ _ _ hx' k3.1 k3.2) (Out.same (show VE ρ (.la t g (evT e i).toI.toNat 0) _ from ⟨b,z',q1,by rw [hz'];simp⟩) hm)
  ·cases h3
 ·cases hc
theorem JpT {d len z:Nat} {x i:Opd} (hc:Jy P (.iaa d x i len z) o.op=true) (hk:faC (evT e x)∧(evT e i).isI=true∧0≤(evT e i).toI∧(evT e i).toI < len) (hE:OE P ρ e a [x,i]) (hm:Qt B ρ M w):
  Sim P o a w (Out B ρ M (faV ((evT e i).toI.toNat*z) (evT e x))):=by
 simp only [Jy] at hc;split at hc
 ·rename_i t x' i' ho
  simp only [Bool.and_eq_true] at hc;obtain ⟨⟨h1,h2⟩,h3⟩:=hc;obtain ⟨k1,k2,k3,k4⟩:=hk;have hx:=hE x x' (by simp) h1
  have hi:=((hE i i' (by simp) h2).int k2).2
  split at h3
  ·rename_i l el hel
   simp only [Bool.and_eq_true,beq_iff_eq] at h3;obtain ⟨rfl,hz⟩:=h3;have hu:=Jix hel
   have key: ∀ b off,a.eval x'= .pointer (some ⟨b,off,none⟩)→
     (execOp a.eval o).run P w= .ok (.value (.pointer (some ⟨b,off+(evT e i).toI.toNat*z,none⟩))) w:=by
    intro b off hx';simp [execOp,ho,hx',hi,Instr.indexAt,asIntOf,JD hu,Instr.sureAddr,k3,k4,J5 hz,Jba]
   generalize evT e x=X at*;cases X<;>simp only [faC] at k1
   case pv id off=>
    obtain ⟨p,q1,q2,hx'⟩:=(hx:VP ρ (.pv ..) _);exact Sim.value (key _ _ hx') (Out.same (VE.of (V2.of (V1.of (VA.of (show VP ρ (.pv id (off+_)) _ from ⟨p,q1,q2,by rw [Nat.add_assoc]⟩))))) hm)
   case pe id ix off ext=>
    obtain ⟨p,q1,q2,q3,q4,hx'⟩:=(hx:VP ρ (.pe ..) _);exact Sim.value (key _ _ hx') (Out.same (VE.of (V2.of (V1.of (VA.of (show VP ρ (.pe id ix (off+_) ext) _ from ⟨p,q1,q2,q3,q4,by rw [Nat.add_assoc]⟩))))) hm)
   case la t g' ix off=>
    obtain ⟨b,z,q1,hx'⟩:=hx;exact Sim.value (key _ _ hx') (Out.same (show VE ρ (.la t g' ix (off+_)) _ from ⟨b,z,q1,by rw [Nat.add_assoc]⟩) hm)
  ·cases h3
 ·cases hc
end ops
end Go.Vm
