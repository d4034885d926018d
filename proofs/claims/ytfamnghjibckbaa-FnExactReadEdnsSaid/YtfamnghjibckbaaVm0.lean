/- The abstract machine: values, memory, operations, statements, and what running them means. No program, no memory model of Go in it. -/
import Derived.Orders
import Derived.LoopN
import Derived.Laws.World
import Derived.Laws.Sem
import GoSem.Op.String
import GoSem.Core.Utf8
namespace Go.Vm
set_option linter.unusedVariables false
set_option linter.unusedSimpArgs false

/-- Abstract values. Addresses name abstract objects. -/
inductive AV where
  | b (x : Bool)
  | i (k : IntKind) (n : Int)
  | s (l : List UInt8)
  | np
  | pv (id off : Nat)
  | pe (id ix off ext : Nat)
  | ns
  | sl (id ix len : Nat)
  | nm
  | mp (id : Nat)
  | nf
  | fn (f : FuncId) (caps : List AV)
  | ni
  | it (id : Nat)
  | ag (xs : List AV)
  | tp (xs : List AV)
  | la (t g ix off : Nat)
  | ll (t g z len : Nat)
  | li (t g : Nat)
  | u
instance : Inhabited AV := ⟨.u⟩

/-- Abstract objects. `arr rw st z xs`: elements xs of z cells each; rw: may be written; st: 0 one place, 1 several places that agree, 2 only the newest place is told. -/
inductive Ob where
  | no
  | arr (rw : Bool) (st : Nat) (z : Nat) (xs : List AV)
  | map (rw : Bool) (es : List (AV × AV))
instance : Inhabited Ob := ⟨.no⟩

structure AH where
  n : Nat
  at' : Nat → Ob
def AH.new (H : AH) (o : Ob) : AH := ⟨H.n + 1, fun i => if i = H.n then o else H.at' i⟩
def AH.set (H : AH) (id : Nat) (o : Ob) : AH := ⟨H.n, fun i => if i = id then o else H.at' i⟩
/-- A frame's own variables: by their place and a number. k: 0 cells, 1 an iterator over a string (the string, the place). -/
structure Lv where
  t : Nat
  g : Nat
  k : Nat
  xs : List AV
structure Mem where
  l : List Lv
  g : Nat
  h : AH
abbrev Env := List (Nat × AV)

inductive Opd where
  | t (n : Nat)
  | c (v : AV)
  | g (n : Nat)
  | f (n : Nat)

def AV.cells : AV → List AV
  | .ag xs => xs
  | v => [v]
def flat : List AV → List AV
  | [] => []
  | x :: r => x.cells ++ flat r
def AV.isI : AV → Bool
  | .i _ _ => true
  | _ => false
def AV.toI : AV → Int
  | .i _ n => n
  | _ => 0
def AV.toK : AV → IntKind
  | .i k _ => k
  | _ => .i64
def AV.isB : AV → Bool
  | .b _ => true
  | _ => false
def AV.isS : AV → Bool
  | .s _ => true
  | _ => false
def AV.toS : AV → List UInt8
  | .s l => l
  | _ => []
/-- Values that hold no address of a frame's own variable. -/
def AV.outs : AV → Bool
  | .la .. | .ll .. | .li .. | .tp _ | .u => false
  | _ => true
def allOut : List AV → Bool
  | [] => true
  | x :: r => x.outs && allOut r

def partOf (cs : List AV) (off : Nat) : Option Nat → AV
  | none => cs.getD off .u
  | some n => .ag ((cs.drop off).take n)
def partFits (cs : List AV) (off : Nat) : Option Nat → Prop
  | none => off < cs.length
  | some n => off + n ≤ cs.length
def setPart (cs : List AV) (off : Nat) (v : AV) : List AV := cs.take off ++ v.cells ++ cs.drop (off + v.cells.length)
def setEl : AV → Nat → AV → AV
  | .ag cs, off, v => .ag (setPart cs off v)
  | x, _, v => match v.cells with
    | [y] => y
    | _ => x

def look : Env → Nat → AV
  | [], _ => .u
  | (m, v) :: e, n => if m = n then v else look e n
def evT (e : Env) : Opd → AV
  | .t n => look e n
  | .c v => v
  | .g n => .pv n 0
  | .f n => .fn n []
def evO (e : Env) : Option Opd → AV → AV
  | none, d => d
  | some x, _ => evT e x
def evs (e : Env) : List Opd → List AV
  | [] => []
  | x :: r => evT e x :: evs e r

def lookL : List Lv → Nat → Nat → Nat → Option (List AV)
  | [], _, _, _ => none
  | v :: r, t, g, k => if v.t = t then (if v.g = g ∧ v.k = k then some v.xs else none) else lookL r t g k
def setL : List Lv → Nat → List AV → List Lv
  | [], _, _ => []
  | v :: r, t, xs => if v.t = t then ⟨v.t, v.g, v.k, xs⟩ :: r else v :: setL r t xs
def dropL : List Lv → Nat → List Lv
  | [], _ => []
  | v :: r, t => if v.t = t then dropL r t else v :: dropL r t
/-- A new own variable takes the place of an elder one at its place. -/
def Mem.newL (M : Mem) (t k : Nat) (xs : List AV) : Mem := ⟨⟨t, M.g, k, xs⟩ :: dropL M.l t, M.g + 1, M.h⟩
def Mem.getL (M : Mem) (t g k : Nat) : List AV := (lookL M.l t g k).getD []
def Mem.hasL (M : Mem) (t g k : Nat) : Bool := (lookL M.l t g k).isSome

/-- What a slice's elements are. -/
def slOk (H : AH) : AV → Prop
  | .ns => True
  | .sl id ix len => match H.at' id with
    | .arr _ st _ xs => ix + len ≤ xs.length ∧ (st = 2 → ix + len = xs.length)
    | _ => False
  | _ => False
def slEls (H : AH) : AV → List AV
  | .sl id ix len => match H.at' id with
    | .arr _ _ _ xs => (xs.drop ix).take len
    | _ => []
  | _ => []
def slZ (H : AH) (z : Nat) : AV → Prop
  | .sl id _ _ => match H.at' id with
    | .arr _ _ z' _ => z' = z
    | _ => False
  | .ll _ _ z' _ => z' = z
  | _ => True
def encB (l : List UInt8) : List AV := l.map fun b => .i .u8 b.toNat
def decB : List AV → List UInt8
  | [] => []
  | x :: r => UInt8.ofNat x.toI.toNat :: decB r
def allU8 : List AV → Prop
  | [] => True
  | x :: r => (∃ n, x = .i .u8 n) ∧ allU8 r

def bitw (op : BinOp) (k : IntKind) (x y : Int) : Int :=
  let a := BitVec.ofInt k.bits x
  let b := BitVec.ofInt k.bits y
  k.wrap (match op with
    | .and => (a &&& b).toNat
    | .or => (a ||| b).toNat
    | .xor => (a ^^^ b).toNat
    | _ => (a &&& ~~~b).toNat)
def intV (op : BinOp) (k : IntKind) (a b : Int) : AV :=
  match op with
  | .add => .i k (k.wrap (a + b))
  | .sub => .i k (k.wrap (a - b))
  | .mul => .i k (k.wrap (a * b))
  | .quo => .i k (k.wrap (a.tdiv b))
  | .rem => .i k (a.tmod b)
  | .shl => .i k (k.wrap (a * 2 ^ (min b.toNat k.bits)))
  | .shr => .i k (a.fdiv (2 ^ (min b.toNat k.bits)))
  | .eql => .b (decide (a = b))
  | .neq => .b (!decide (a = b))
  | .lss => .b (decide (a < b))
  | .leq => .b (decide (a ≤ b))
  | .gtr => .b (decide (b < a))
  | .geq => .b (decide (b ≤ a))
  | op => .i k (bitw op k a b)
def intC (op : BinOp) (k k' : IntKind) (b : Int) : Prop :=
  match op with
  | .shl | .shr => 0 ≤ b
  | .quo | .rem => k = k' ∧ b ≠ 0
  | _ => k = k'
def strV (op : BinOp) (a b : List UInt8) : AV :=
  match op with
  | .add => .s (a ++ b)
  | .eql => .b (decide (a = b))
  | .neq => .b (!decide (a = b))
  | .lss => .b (Op.bytesLess a b)
  | .leq => .b (Op.bytesLess a b || decide (a = b))
  | .gtr => .b (!(Op.bytesLess a b || decide (a = b)))
  | .geq => .b (!Op.bytesLess a b)
  | _ => .u
def strC (op : BinOp) (a b : List UInt8) : Prop :=
  match op with
  | .add => a.length + b.length ≤ 9223372036854775807
  | .eql | .neq | .lss | .leq | .gtr | .geq => True
  | _ => False
/-- Is it nil? Of a slice (0), a map (1), a pointer (2), a function (3). -/
def nilK : Nat → AV → Option Bool
  | 0, .ns => some true
  | 0, .sl .. => some false
  | 1, .nm => some true
  | 1, .mp _ => some false
  | 2, .np => some true
  | 2, .pv .. => some false
  | 2, .pe .. => some false
  | 2, .la .. => some false
  | 3, .nf => some true
  | 3, .fn .. => some false
  | _, _ => none
def boolV (neg : Bool) : AV → AV → AV
  | .b a, .b b => .b ((a == b) != neg)
  | _, _ => .u
def binV (op : BinOp) (x y : AV) : AV :=
  match x, y with
  | .i k a, .i _ b => intV op k a b
  | .s a, .s b => strV op a b
  | _, _ => .u
def binC (op : BinOp) (x y : AV) : Prop :=
  match x, y with
  | .i k _, .i k' b => intC op k k' b
  | .s a, .s b => strC op a b
  | _, _ => False
def unV (op : UnOp) : AV → AV
  | .i k n => match op with
    | .neg => .i k (k.wrap (0 - n))
    | _ => .i k (bitw .xor k (if k.signed then -1 else k.max) n)
  | .b x => .b (!x)
  | _ => .u
def unC (op : UnOp) : AV → Prop
  | .i _ _ => op = .neg ∨ op = .xor
  | .b _ => op = .not
  | _ => False
/-- Cells that '==' compares. -/
def cellEq : AV → AV → Bool
  | .i _ a, .i _ b => decide (a = b)
  | .s a, .s b => decide (a = b)
  | .b a, .b b => a == b
  | _, _ => false
def cellsEq : List AV → List AV → Bool
  | [], [] => true
  | x :: r, y :: q => cellEq x y && cellsEq r q
  | _, _ => false
/-- A kind of cell: 0 bool, 1 string, k + 2 an integer of kind k. -/
inductive Ck where
  | b
  | s
  | i (k : IntKind)
  deriving DecidableEq
def AV.isCk : AV → Ck → Bool
  | .b _, .b => true
  | .s _, .s => true
  | .i k _, .i k' => k == k'
  | _, _ => false
def areCk : List AV → List Ck → Bool
  | [], [] => true
  | x :: r, k :: q => x.isCk k && areCk r q
  | _, _ => false
def pickV (c a b : AV) : AV :=
  match c with
  | .b p => match a, b with
    | .b q, .b r => .b (bif p then q else r)
    | _, _ => bif p then a else b
  | _ => .u

/-- Operations. The first number is the place of the result. -/
inductive O where
  | mv (d : Nat) (x : Opd)
  | pk (d : Nat) (c a b : Opd)
  | bn (d : Nat) (op : BinOp) (x y : Opd)
  | un (d : Nat) (op : UnOp) (x : Opd)
  | be (d : Nat) (neg : Bool) (x y : Opd)
  | nl (d : Nat) (k : Nat) (neg : Bool) (x : Opd)             -- x == nil
  | eqa (d : Nat) (neg : Bool) (ks : List Ck) (x y : Opd)  -- structs
  | ci (d : Nat) (k : IntKind) (x : Opd)
  | cbs (d : Nat) (x : Opd)
  | csb (d : Nat) (x : Opd)
  | ex (d : Nat) (x : Opd) (i : Nat)
  | bd (d : Nat) (zero : List AV) (parts : List (Nat × Nat × Opd))
  | fd (d : Nat) (x : Opd) (off : Nat) (n : Option Nat)
  | ix (d : Nat) (x i : Opd)
  | ixa (d : Nat) (x i : Opd) (len z : Nat) (n : Option Nat)
  | ss (d : Nat) (x : Opd) (lo hi : Option Opd)
  | sl (d : Nat) (x : Opd) (lo hi : Option Opd) (z : Nat)
  | sla (d : Nat) (x : Opd) (len z : Nat)
  | ln (d : Nat) (x : Opd)
  | lns (d : Nat) (x : Opd)
  | lnm (d : Nat) (x : Opd)
  | al (d : Nat) (z : Nat) (xs : List AV)
  | bx (d : Nat) (x : Opd)
  | lal (d : Nat) (zero : AV)
  | lbx (d : Nat) (x : Opd)
  | ld (d : Nat) (x : Opd) (n : Option Nat)
  | st (x v : Opd) (n : Nat)
  | fa (d : Nat) (x : Opd) (off : Nat)
  | ia (d : Nat) (x i : Opd) (z : Nat)
  | iaa (d : Nat) (x i : Opd) (len z : Nat)
  | bs (d : Nat) (zero : AV) (z len : Nat) (parts : List (Nat × Opd))
  | lbs (d : Nat) (zero : AV) (z len : Nat) (parts : List (Nat × Opd))
  | mk (d : Nat) (zero : AV) (z by' : Nat) (len : Opd)
  | ap (d : Nat) (x y : Opd) (z by' : Nat)
  | cp (d : Nat) (x y : Opd) (z : Nat)
  | cl (d : Option Nat) (f : Nat) (xs : List Opd)
  | cv (d : Option Nat) (x : Opd) (xs : List Opd)
  | mf (d : Nat) (f : Nat) (caps : List Opd)
  | nc (d : Nat) (x : Opd)
  | mm (d : Nat) (mx : Bool) (x y : Opd)
  | mkm (d : Nat)
  | lk (d : Nat) (x k : Opd) (zero : AV) (ks : List Ck) (ok : Bool)
  | mu (x k v : Opd) (ks : List Ck)
  | dl (x k : Opd) (ks : List Ck)
  | rs (d : Nat) (x : Opd)
  | nx (d : Nat) (x : Opd)
  | gd (t : Nat) (b : Bool) (o : O)

abbrev Tab := FuncId → List AV → AH → Option (AV × AH)
/-- Maps: found by equal keys. -/
def mpFind : List (AV × AV) → AV → Option AV
  | [], _ => none
  | e :: r, k => if cellsEq k.cells e.1.cells = true then some e.2 else mpFind r k
def mpPut : List (AV × AV) → AV → AV → List (AV × AV)
  | [], k, v => [(k, v)]
  | e :: r, k, v => if cellsEq k.cells e.1.cells = true then (k, v) :: r else e :: mpPut r k v
def mpDel : List (AV × AV) → AV → List (AV × AV)
  | [], _ => []
  | e :: r, k => if cellsEq k.cells e.1.cells = true then r else e :: mpDel r k
def mpEs (H : AH) : AV → List (AV × AV)
  | .mp id => match H.at' id with
    | .map _ es => es
    | _ => []
  | _ => []
def mpOk (H : AH) : AV → Prop
  | .nm => True
  | .mp id => match H.at' id with
    | .map _ _ => True
    | _ => False
  | _ => False
def mpRw (H : AH) : AV → Prop
  | .mp id => match H.at' id with
    | .map rw _ => rw = true
    | _ => False
  | _ => False
def mpSet (M : Mem) (es : List (AV × AV)) : AV → Mem
  | .mp id => ⟨M.l, M.g, M.h.set id (.map true es)⟩
  | _ => M
def keyOk (ks : List Ck) (es : List (AV × AV)) (k : AV) : Prop := areCk k.cells ks = true ∧ ∀ e ∈ es, areCk e.1.cells ks = true
def lkV (zero : AV) (ok : Bool) (r : Option AV) : AV := match r with
  | some v => if ok then .tp [v, .b true] else v
  | none => if ok then .tp [zero, .b false] else zero
def itS (M : Mem) : AV → List UInt8
  | .li t g => match M.getL t g 1 with
    | [.s l, _] => l
    | _ => []
  | _ => []
def itP (M : Mem) : AV → Nat
  | .li t g => match M.getL t g 1 with
    | [_, .i _ n] => n.toNat
    | _ => 0
  | _ => 0
def itC (M : Mem) : AV → Prop
  | .li t g => M.hasL t g 1 = true
  | _ => False
def isOk : Option (AV × AH) → Prop
  | some _ => True
  | none => False
def rv : Option (AV × AH) → AV
  | some x => x.1
  | none => .u
def rh (H : AH) : Option (AV × AH) → AH
  | some x => x.2
  | none => H

/-- A part of a value laid into others: places and sizes. -/
def fillP (e : Env) : List AV → List (Nat × Nat × Opd) → List AV
  | cs, [] => cs
  | cs, (off, _, x) :: r => fillP e (setPart cs off (evT e x)) r
def fillC (e : Env) (n : Nat) : List (Nat × Nat × Opd) → Prop
  | [] => True
  | (off, sz, x) :: r => ((evT e x).cells.length = sz ∧ off + sz ≤ n ∧ (evT e x).outs = true) ∧ fillC e n r
/-- A slice's literal: elements. -/
def fillE (e : Env) : List AV → List (Nat × Opd) → List AV
  | xs, [] => xs
  | xs, (i, x) :: r => fillE e (xs.set i (evT e x)) r
def fillEC (e : Env) (z n : Nat) : List (Nat × Opd) → Prop
  | [] => True
  | (i, x) :: r => ((evT e x).cells.length = z ∧ i < n ∧ (evT e x).outs = true) ∧ fillEC e z n r

/-- What an address leads to. -/
def ldV (M : Mem) (n : Option Nat) : AV → AV
  | .pv id off => match M.h.at' id with
    | .arr _ _ _ xs => partOf (flat xs) off n
    | _ => .u
  | .pe id ix off _ => match M.h.at' id with
    | .arr _ _ _ xs => partOf (xs.getD ix .u).cells off n
    | _ => .u
  | .la t g ix off => partOf ((M.getL t g 0).getD ix .u).cells off n
  | _ => .u
def ldC (M : Mem) (n : Option Nat) : AV → Prop
  | .pv id off => n = some 0 ∨ match M.h.at' id with
    | .arr _ st _ xs => st = 0 ∧ partFits (flat xs) off n
    | _ => False
  | .pe id ix off ext => match M.h.at' id with
    | .arr _ st _ xs => (st = 2 → ext = xs.length) ∧ ix < xs.length ∧ partFits (xs.getD ix .u).cells off n
    | _ => False
  | .la t g ix off => M.hasL t g 0 = true ∧ ix < (M.getL t g 0).length ∧ partFits ((M.getL t g 0).getD ix .u).cells off n
  | _ => False
def ldX (M : Mem) (n : Option Nat) (a : AV) : AV := match n, a with
  | some 0, .pv _ _ => .ag []
  | _, _ => ldV M n a
/-- A store: of n cells. -/
def stM (M : Mem) (v : AV) : AV → Mem
  | .pv id off => match M.h.at' id with
    | .arr rw st z [x] => ⟨M.l, M.g, M.h.set id (.arr rw st z [setEl x off v])⟩
    | .arr rw st z xs => ⟨M.l, M.g, M.h.set id (.arr rw st z (setPart xs off v))⟩
    | _ => M
  | .pe id ix off _ => match M.h.at' id with
    | .arr rw st z xs => ⟨M.l, M.g, M.h.set id (.arr rw (if st = 0 then 0 else 2) z (xs.set ix (setEl (xs.getD ix .u) off v)))⟩
    | _ => M
  | .la t g ix off => ⟨setL M.l t ((M.getL t g 0).set ix (setEl ((M.getL t g 0).getD ix .u) off v)), M.g, M.h⟩
  | _ => M
def stC (M : Mem) (v : AV) : AV → Prop
  | .pv id off => match M.h.at' id with
    | .arr rw st z [x] => rw = true ∧ st = 0 ∧ x.cells.length = z ∧ off + v.cells.length ≤ z
    | .arr rw st z xs => rw = true ∧ st = 0 ∧ z = 1 ∧ off + v.cells.length ≤ xs.length ∧ (∀ x ∈ xs, x.cells = [x]) ∧ (∀ x ∈ v.cells, x.cells = [x])
    | _ => False
  | .pe id ix off ext => match M.h.at' id with
    | .arr rw _ _ xs => rw = true ∧ ext = xs.length ∧ ix < xs.length ∧ off + v.cells.length ≤ (xs.getD ix .u).cells.length
    | _ => False
  | .la t g ix off => M.hasL t g 0 = true ∧ ix < (M.getL t g 0).length ∧ off + v.cells.length ≤ ((M.getL t g 0).getD ix .u).cells.length
  | _ => False
def faV (off : Nat) : AV → AV
  | .pv id o => .pv id (o + off)
  | .pe id ix o ext => .pe id ix (o + off) ext
  | .la t g ix o => .la t g ix (o + off)
  | _ => .u
def faC : AV → Prop
  | .pv .. | .pe .. | .la .. => True
  | _ => False
def iaV (j : Nat) : AV → AV
  | .sl id ix len => .pe id (ix + j) 0 (ix + len)
  | .ll t g _ _ => .la t g j 0
  | _ => .u
def iaC (j : Int) : AV → Prop
  | .sl _ _ len => 0 ≤ j ∧ j < len
  | .ll _ _ _ len => 0 ≤ j ∧ j < len
  | _ => False
def lenV : AV → AV
  | .ns => .i .i64 0
  | .sl _ _ len => .i .i64 len
  | .ll _ _ _ len => .i .i64 len
  | _ => .u
def lenC : AV → Prop
  | .ns | .sl .. | .ll .. => True
  | _ => False
def slV (lo hi : Nat) : AV → AV
  | .sl id ix _ => .sl id (ix + lo) (hi - lo)
  | v => v
def slC (lo hi : Int) : AV → Prop
  | .sl _ _ len => 0 ≤ lo ∧ lo ≤ hi ∧ hi ≤ len
  | .ns => lo = 0 ∧ hi = 0
  | _ => False
/-- What is appended: a slice's elements, a string's bytes, a literal's elements. -/
def srcV (M : Mem) : AV → List AV
  | .s l => encB l
  | .ll t g _ _ => M.getL t g 0
  | v => slEls M.h v
def srcC (M : Mem) (z : Nat) : AV → Prop
  | .s _ => z = 1
  | .ll t g z' len => M.hasL t g 0 = true ∧ len = (M.getL t g 0).length ∧ z' = z
  | v => slOk M.h v ∧ slZ M.h z v
/-- append -/
def apV (M : Mem) (y : AV) : AV → AV
  | .sl id ix len => .sl id ix (len + (srcV M y).length)
  | .ns => if (srcV M y).length = 0 then .ns else .sl M.h.n 0 (srcV M y).length
  | _ => .u
def apM (M : Mem) (z : Nat) (y : AV) : AV → Mem
  | .sl id _ _ => match M.h.at' id with
    | .arr rw st z' xs => if (srcV M y).length = 0 then M else ⟨M.l, M.g, M.h.set id (.arr rw (if st = 2 then 2 else 1) z' (xs ++ srcV M y))⟩
    | _ => M
  | .ns => if (srcV M y).length = 0 then M else ⟨M.l, M.g, M.h.new (.arr true 0 z (srcV M y))⟩
  | _ => M
def apC (M : Mem) (z by' : Nat) (y : AV) : AV → Prop
  | .sl id ix len => (match M.h.at' id with
    | .arr rw _ z' xs => rw = true ∧ z' = z ∧ ix + len = xs.length
    | _ => False) ∧ srcC M z y ∧ (len + (srcV M y).length) * by' ≤ 140737488355328
  | .ns => srcC M z y ∧ (srcV M y).length * by' ≤ 140737488355328
  | _ => False
/-- copy -/
def cpN (M : Mem) (y : AV) : AV → Nat
  | .sl _ _ len => min (srcV M y).length len
  | _ => 0
def cpM (M : Mem) (y : AV) (x : AV) : Mem := match x with
  | .sl id ix _ => match M.h.at' id with
    | .arr rw st z xs => if cpN M y x = 0 then M else
      ⟨M.l, M.g, M.h.set id (.arr rw (if st = 0 then 0 else 2) z (xs.take ix ++ (srcV M y).take (cpN M y x) ++ xs.drop (ix + cpN M y x)))⟩
    | _ => M
  | _ => M
def cpC (M : Mem) (z : Nat) (y : AV) (x : AV) : Prop := srcC M z y ∧ (match x with
  | .sl id ix len => match M.h.at' id with
    | .arr rw _ z' xs => rw = true ∧ z' = z ∧ ix + len = xs.length
    | _ => False
  | .ns => True
  | _ => False)

/-- May the operation run? -/
def okO (C : Tab) (e : Env) (M : Mem) : O → Prop
  | .mv _ _ => True
  | .pk _ c _ _ => (evT e c).isB = true
  | .bn _ op x y => binC op (evT e x) (evT e y)
  | .un _ op x => unC op (evT e x)
  | .be _ _ x y => (evT e x).isB = true ∧ (evT e y).isB = true
  | .nl _ k _ x => (nilK k (evT e x)).isSome = true
  | .eqa _ _ ks x y => (∃ xs ys, evT e x = .ag xs ∧ evT e y = .ag ys ∧ areCk xs ks = true ∧ areCk ys ks = true)
  | .ci _ _ x => (evT e x).isI = true
  | .cbs _ x => slOk M.h (evT e x) ∧ slZ M.h 1 (evT e x) ∧ allU8 (slEls M.h (evT e x))
  | .csb _ x => (evT e x).isS = true
  | .ex _ x i => ∃ xs, evT e x = .tp xs ∧ i < xs.length
  | .bd _ zero parts => fillC e zero.length parts
  | .fd _ x off n => ∃ cs, evT e x = .ag cs ∧ partFits cs off n
  | .ix _ x i => (evT e x).isS = true ∧ (evT e i).isI = true ∧ 0 ≤ (evT e i).toI ∧ (evT e i).toI < (evT e x).toS.length
  | .ixa _ x i len z n => (∃ cs, evT e x = .ag cs ∧ partFits cs ((evT e i).toI.toNat * z) n) ∧ (evT e i).isI = true ∧ 0 ≤ (evT e i).toI ∧ (evT e i).toI < len
  | .ss _ x lo hi => (evT e x).isS = true ∧ ((evO e lo (.i .i64 0)).isI = true ∧ (evO e hi (.i .i64 (evT e x).toS.length)).isI = true) ∧
      0 ≤ (evO e lo (.i .i64 0)).toI ∧ (evO e lo (.i .i64 0)).toI ≤ (evO e hi (.i .i64 (evT e x).toS.length)).toI ∧ (evO e hi (.i .i64 (evT e x).toS.length)).toI ≤ (evT e x).toS.length
  | .sl _ x lo hi z => lenC (evT e x) ∧ slZ M.h z (evT e x) ∧ ((evO e lo (.i .i64 0)).isI = true ∧ (evO e hi (lenV (evT e x))).isI = true) ∧
      slC (evO e lo (.i .i64 0)).toI (evO e hi (lenV (evT e x))).toI (evT e x)
  | .sla _ x len z => ∃ id, evT e x = .pv id 0 ∧ ∃ rw xs, M.h.at' id = .arr rw 0 z xs ∧ xs.length = len
  | .ln _ x => lenC (evT e x)
  | .lns _ x => (evT e x).isS = true
  | .lnm _ x => mpOk M.h (evT e x)
  | .al _ _ _ => True
  | .bx _ x => (evT e x).outs = true
  | .lal _ _ => True
  | .lbx _ x => (evT e x).outs = true
  | .ld _ x n => ldC M n (evT e x)
  | .st x v n => (evT e v).cells.length = n ∧ (evT e v).outs = true ∧ stC M (evT e v) (evT e x)
  | .fa _ x _ => faC (evT e x)
  | .ia _ x i z => (evT e i).isI = true ∧ slZ M.h z (evT e x) ∧ iaC (evT e i).toI (evT e x)
  | .iaa _ x i len _ => faC (evT e x) ∧ (evT e i).isI = true ∧ 0 ≤ (evT e i).toI ∧ (evT e i).toI < len
  | .bs _ _ z len parts => fillEC e z len parts
  | .lbs _ _ z len parts => fillEC e z len parts
  | .mk _ _ _ by' n => (evT e n).isI = true ∧ 0 ≤ (evT e n).toI ∧ (evT e n).toI * by' ≤ 281474976710656 ∧ (evT e n).toI ≤ 9223372036854775807
  | .ap _ x y z by' => apC M z by' (evT e y) (evT e x)
  | .cp _ x y z => cpC M z (evT e y) (evT e x)
  | .cl _ f xs => allOut (evs e xs) = true ∧ isOk (C f (evs e xs) M.h)
  | .cv _ x xs => (∃ f cs, evT e x = .fn f cs) ∧ allOut (evs e xs) = true ∧ (match evT e x with | .fn f cs => isOk (C f (evs e xs ++ cs) M.h) | _ => False)
  | .mf _ _ caps => allOut (evs e caps) = true
  | .nc _ x => (match evT e x with | .pv .. | .pe .. | .la .. | .fn .. => True | _ => False)
  | .mm _ _ x y => (evT e x).isI = true ∧ (evT e y).isI = true ∧ (evT e x).toK = (evT e y).toK
  | .mkm _ => True
  | .lk _ x k _ ks _ => mpOk M.h (evT e x) ∧ keyOk ks (mpEs M.h (evT e x)) (evT e k)
  | .mu x k v ks => mpRw M.h (evT e x) ∧ keyOk ks (mpEs M.h (evT e x)) (evT e k) ∧ (evT e v).outs = true
  | .dl x k ks => mpRw M.h (evT e x) ∧ keyOk ks (mpEs M.h (evT e x)) (evT e k)
  | .rs _ x => (evT e x).isS = true
  | .nx _ x => itC M (evT e x)
  | .gd .. => False
/-- Its value. -/
def vlO (C : Tab) (e : Env) (M : Mem) : O → AV
  | .mv _ x => evT e x
  | .pk _ c a b => pickV (evT e c) (evT e a) (evT e b)
  | .bn _ op x y => binV op (evT e x) (evT e y)
  | .un _ op x => unV op (evT e x)
  | .be _ neg x y => boolV neg (evT e x) (evT e y)
  | .nl _ k neg x => .b (((nilK k (evT e x)).getD false) != neg)
  | .eqa _ neg _ x y => .b (cellsEq (evT e x).cells (evT e y).cells != neg)
  | .ci _ k x => .i k (k.wrap (evT e x).toI)
  | .cbs _ x => .s (decB (slEls M.h (evT e x)))
  | .csb _ x => .sl M.h.n 0 (evT e x).toS.length
  | .ex _ x i => (match evT e x with | .tp xs => xs.getD i .u | _ => .u)
  | .bd _ zero parts => .ag (fillP e zero parts)
  | .fd _ x off n => partOf (evT e x).cells off n
  | .ix _ x i => .i .u8 ((evT e x).toS.getD (evT e i).toI.toNat 0).toNat
  | .ixa _ x i _ z n => partOf (evT e x).cells ((evT e i).toI.toNat * z) n
  | .ss _ x lo hi => .s (((evT e x).toS.drop (evO e lo (.i .i64 0)).toI.toNat).take ((evO e hi (.i .i64 (evT e x).toS.length)).toI.toNat - (evO e lo (.i .i64 0)).toI.toNat))
  | .sl _ x lo hi _ => slV (evO e lo (.i .i64 0)).toI.toNat (evO e hi (lenV (evT e x))).toI.toNat (evT e x)
  | .sla _ x len _ => (match evT e x with | .pv id _ => .sl id 0 len | _ => .u)
  | .ln _ x => lenV (evT e x)
  | .lns _ x => .i .i64 (evT e x).toS.length
  | .lnm _ x => .i .i64 (mpEs M.h (evT e x)).length
  | .al _ _ _ => .pv M.h.n 0
  | .bx _ _ => .pv M.h.n 0
  | .lal d _ => .la d M.g 0 0
  | .lbx d _ => .la d M.g 0 0
  | .ld _ x n => ldX M n (evT e x)
  | .st .. => .u
  | .fa _ x off => faV off (evT e x)
  | .ia _ x i _ => iaV (evT e i).toI.toNat (evT e x)
  | .iaa _ x i _ z => faV ((evT e i).toI.toNat * z) (evT e x)
  | .bs _ _ _ len _ => .sl M.h.n 0 len
  | .lbs d _ z len _ => .ll d M.g z len
  | .mk _ _ _ _ n => .sl M.h.n 0 (evT e n).toI.toNat
  | .ap _ x y _ _ => apV M (evT e y) (evT e x)
  | .cp _ x y _ => .i .i64 (cpN M (evT e y) (evT e x))
  | .cl _ f xs => rv (C f (evs e xs) M.h)
  | .cv _ x xs => (match evT e x with | .fn f cs => rv (C f (evs e xs ++ cs) M.h) | _ => .u)
  | .mf _ f caps => .fn f (evs e caps)
  | .nc _ x => evT e x
  | .mm _ mx x y => .i (evT e x).toK (if mx then (if (evT e x).toI < (evT e y).toI then (evT e y).toI else (evT e x).toI) else (if (evT e y).toI < (evT e x).toI then (evT e y).toI else (evT e x).toI))
  | .mkm _ => .mp M.h.n
  | .lk _ x k zero _ ok => lkV zero ok (mpFind (mpEs M.h (evT e x)) (evT e k))
  | .mu .. => .u
  | .dl .. => .tp []
  | .rs d _ => .li d M.g
  | .nx _ x => if itP M (evT e x) < (itS M (evT e x)).length then .tp [.b true, .i .i64 (itP M (evT e x)), .i .i32 (Utf8.decode ⟨(itS M (evT e x)).toArray⟩ (itP M (evT e x))).1] else .tp [.b false]
  | .gd .. => .u
/-- The memory behind it. -/
def mmO (C : Tab) (e : Env) (M : Mem) : O → Mem
  | .csb _ x => ⟨M.l, M.g, M.h.new (.arr true 0 1 (encB (evT e x).toS))⟩
  | .al _ z xs => ⟨M.l, M.g, M.h.new (.arr true 0 z xs)⟩
  | .bx _ x => ⟨M.l, M.g, M.h.new (.arr true 0 (evT e x).cells.length [evT e x])⟩
  | .lal d zero => M.newL d 0 [zero]
  | .lbx d x => M.newL d 0 [evT e x]
  | .st x v _ => stM M (evT e v) (evT e x)
  | .bs _ zero z len parts => ⟨M.l, M.g, M.h.new (.arr true 0 z (fillE e (List.replicate len zero) parts))⟩
  | .lbs d zero z len parts => M.newL d 0 (fillE e (List.replicate len zero) parts)
  | .mk _ zero z _ n => ⟨M.l, M.g, M.h.new (.arr true 0 z (List.replicate (evT e n).toI.toNat zero))⟩
  | .ap _ x y z _ => apM M z (evT e y) (evT e x)
  | .cp _ x y _ => cpM M (evT e y) (evT e x)
  | .cl _ f xs => ⟨M.l, M.g, rh M.h (C f (evs e xs) M.h)⟩
  | .mkm _ => ⟨M.l, M.g, M.h.new (.map true [])⟩
  | .mu x k v _ => mpSet M (mpPut (mpEs M.h (evT e x)) (evT e k) (evT e v)) (evT e x)
  | .dl x k _ => mpSet M (mpDel (mpEs M.h (evT e x)) (evT e k)) (evT e x)
  | .rs d x => M.newL d 1 [evT e x, .i .i64 0]
  | .nx _ x => (match evT e x with | .li t _ => if itP M (evT e x) < (itS M (evT e x)).length then ⟨setL M.l t [.s (itS M (evT e x)), .i .i64 (itP M (evT e x) + (Utf8.decode ⟨(itS M (evT e x)).toArray⟩ (itP M (evT e x))).2 : Nat)], M.g, M.h⟩ else M | _ => M)
  | .cv _ x xs => (match evT e x with | .fn f cs => ⟨M.l, M.g, rh M.h (C f (evs e xs ++ cs) M.h)⟩ | _ => M)
  | _ => M
def dsO : O → Option Nat
  | .mv d _ | .pk d .. | .bn d .. | .un d .. | .be d .. | .nl d .. | .eqa d .. | .ci d .. | .cbs d _ | .csb d _ | .ex d .. | .bd d .. | .fd d .. | .ix d .. | .ixa d .. | .ss d .. | .sl d .. | .sla d .. | .ln d _ | .lns d _ | .lnm d _
  | .al d .. | .bx d _ | .lal d _ | .lbx d _ | .ld d .. | .fa d .. | .ia d .. | .iaa d .. | .bs d .. | .lbs d .. | .mk d .. | .ap d .. | .cp d .. | .mf d .. | .nc d _ | .mm d .. | .mkm d | .lk d .. | .rs d _ | .nx d _ => some d
  | .st .. | .mu .. | .dl .. => none
  | .cl d .. | .cv d .. => d
  | .gd _ _ o => dsO o
def putE : Option Nat → AV → Env → Env
  | some d, v, e => (d, v) :: e
  | none, _, e => e

/-- Operations in their order, then κ. -/
def doOs (C : Tab) : List O → Env → Mem → (Env → Mem → Prop) → Prop
  | [], e, M, κ => κ e M
  | .gd t b o :: l, e, M, κ => (look e t).isB = true ∧
      (look e t = .b b → okO C e M o ∧ doOs C l (putE (dsO o) (vlO C e M o) e) (mmO C e M o) κ) ∧
      (look e t = .b (!b) → doOs C l (putE (dsO o) .u e) M κ)
  | o :: l, e, M, κ => okO C e M o ∧ doOs C l (putE (dsO o) (vlO C e M o) e) (mmO C e M o) κ

/-- An operation of a region that draws its order: the operation, the places of earlier ones whose order to it is open (one reads memory, the other changes it), and whether later ones look back at it. -/
structure PO where
  o : O
  cf : List Nat
  kp : Bool
structure Lg where
  i : Nat
  o : O
  e : Env
  M : Mem
def isRd : O → Bool
  | .ld .. | .cbs .. | .lnm .. | .lk .. | .ia .. | .sl .. | .sla .. => true
  | _ => false
def lgAt : List Lg → Nat → Option Lg
  | [], _ => none
  | x :: r, i => if x.i = i then some x else lgAt r i
/-- For a reader: it reads the same in the memory ahead of an earlier change. For a change: an earlier reader reads the same behind it. -/
def cfC (C : Tab) (lg : List Lg) (o : O) (e : Env) (M : Mem) : List Nat → Prop
  | [] => True
  | i :: r => (match lgAt lg i with
      | none => True
      | some x => if isRd o then okO C e x.M o ∧ vlO C e x.M o = vlO C e M o else okO C x.e (mmO C e M o) x.o ∧ vlO C x.e (mmO C e M o) x.o = vlO C x.e x.M x.o) ∧ cfC C lg o e M r
def lgPut (kp : Bool) (i : Nat) (o : O) (e : Env) (M : Mem) (lg : List Lg) : List Lg := if kp then ⟨i, o, e, M⟩ :: lg else lg
def doPs (C : Tab) : Nat → List Lg → List PO → Env → Mem → (Env → Mem → Prop) → Prop
  | _, _, [], e, M, κ => κ e M
  | i, lg, ⟨.gd t b o, cf, kp⟩ :: l, e, M, κ => (look e t).isB = true ∧
      (look e t = .b b → okO C e M o ∧ cfC C lg o e M cf ∧ doPs C (i + 1) (lgPut kp i o e M lg) l (putE (dsO o) (vlO C e M o) e) (mmO C e M o) κ) ∧
      (look e t = .b (!b) → doPs C (i + 1) lg l (putE (dsO o) .u e) M κ)
  | i, lg, ⟨o, cf, kp⟩ :: l, e, M, κ => okO C e M o ∧ cfC C lg o e M cf ∧ doPs C (i + 1) (lgPut kp i o e M lg) l (putE (dsO o) (vlO C e M o) e) (mmO C e M o) κ

inductive S where
  | k
  | o (l : List O)
  | p (l : List PO)
  | q (a b : S)
  | i (c : Opd) (a b : S)
  | b (id : Nat) (s : S)
  | l (live : List Nat) (s : S)
  | x (id : Nat)
  | r
inductive X where
  | nx
  | ex (id : Nat)
  | rt
abbrev Kont := X → Env → Mem → Prop

def keepE (e : Env) : List Nat → Env
  | [] => []
  | t :: r => (t, look e t) :: keepE e r
def memN : List Nat → Nat → Bool
  | [], _ => false
  | m :: r, n => if m = n then true else memN r n
def keepL (live : List Nat) : List Lv → List Lv
  | [] => []
  | v :: r => if memN live v.t then v :: keepL live r else keepL live r
def Mem.keep (live : List Nat) (M : Mem) : Mem := ⟨keepL live M.l, M.g, M.h⟩

def kOps (κ : Kont) : Env → Mem → Prop := fun e M => κ .nx e M
def kSeq (run : Env → Mem → Kont → Prop) (κ : Kont) : Kont
  | .nx, e, M => run e M κ
  | x, e, M => κ x e M
def kBlk (id : Nat) (κ : Kont) : Kont
  | .ex j, e, M => if j = id then κ .nx e M else κ (.ex j) e M
  | x, e, M => κ x e M
def loopN (body : Env → Mem → Kont → Prop) (live : List Nat) (κ : Kont) : Nat → Env → Mem → Prop
  | 0, _, _ => False
  | n + 1, e, M => body (keepE e live) (M.keep live) (kSeq (fun e M _ => loopN body live κ n e M) κ)
def exec (C : Tab) : S → Env → Mem → Kont → Prop
  | .k, e, M, κ => κ .nx e M
  | .o l, e, M, κ => doOs C l e M (kOps κ)
  | .p l, e, M, κ => doPs C 0 [] l e M (kOps κ)
  | .q a b, e, M, κ => exec C a e M (kSeq (exec C b) κ)
  | .i c a b, e, M, κ => (evT e c).isB = true ∧ (evT e c = .b true → exec C a e M κ) ∧ (evT e c = .b false → exec C b e M κ)
  | .b id s, e, M, κ => exec C s e M (kBlk id κ)
  | .l live s, e, M, κ => ∃ n, loopN (exec C s) live κ n e M
  | .x id, e, M, κ => κ (.ex id) e M
  | .r, e, M, κ => κ .rt e M

/-- A function: its parameters' number, its results (a place; or a variable and its cells), its body. -/
inductive Rs where
  | t (n : Nat)
  | c (n : Nat) (sz : Option Nat)
structure Fn where
  np : Nat
  rs : List Rs
  s : S
def rsC (e : Env) (M : Mem) : List Rs → Prop
  | [] => True
  | .t n :: r => (look e n).outs = true ∧ rsC e M r
  | .c n sz :: r => ldC M sz (look e n) ∧ rsC e M r
def rsV (e : Env) (M : Mem) : List Rs → List AV
  | [] => []
  | .t n :: r => look e n :: rsV e M r
  | .c n sz :: r => ldX M sz (look e n) :: rsV e M r
def resV (l : List AV) : AV := match l with
  | [x] => x
  | l => .tp l
def args : Nat → List AV → Env
  | _, [] => []
  | i, x :: r => (i, x) :: args (i + 1) r

end Go.Vm
