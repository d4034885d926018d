/- Is a literal of the abstract machine the code of a translated function? A check that the kernel runs. -/
import Derived.Test.YtfamnghjibckbaaVm0
namespace Go.Vm
set_option linter.unusedVariables false
set_option linter.unusedSimpArgs false

def sameA : AV → Value → Bool
  | .b x, .bool y => x == y
  | .i k n, .int k' m => k == k' && n == m
  | .s l, .string s => l == s.data.toList
  | .np, .pointer p => p.isNone
  | .ns, .slice p l c => p.isNone && l == 0 && c == 0
  | .nm, .map p => p.isNone
  | .nf, .nilFunc => true
  | .ni, .nilIface => true
  | _, _ => false
def sameCs : List AV → List Value → Bool
  | [], [] => true
  | x :: r, y :: q => sameA x y && sameCs r q
  | _, _ => false
def sameC : AV → Value → Bool
  | .ag xs, .agg ys => sameCs xs ys.toList
  | .ag _, _ => false
  | x, y => sameA x y
/-- Constants and zero values: atoms alone, or atoms' lists. -/
def atom : AV → Bool
  | .b _ | .i _ _ | .s _ | .np | .ns | .nm | .nf | .ni => true
  | _ => false
def atoms : List AV → Bool
  | [] => true
  | x :: r => atom x && atoms r
def plain : AV → Bool
  | .ag xs => atoms xs
  | x => atom x
def chkC (v : AV) (w : Value) : Bool := plain v && sameC v w
def chkX (P : Program) : Opd → Operand → Bool
  | .t n, .tmp m => n == m
  | .c v, .const w => chkC v w
  | .g n, .global m => n == m && decide (n < P.globals.size)
  | .f n, .func m => n == m
  | _, _ => false
def chkXs (P : Program) : List Opd → List Operand → Bool
  | [], [] => true
  | x :: r, y :: q => chkX P x y && chkXs P r q
  | _, _ => false
def chkOX (P : Program) : Option Opd → Option Operand → Bool
  | none, none => true
  | some x, some y => chkX P x y
  | _, _ => false
section
variable (P : Program)
def szT (t : TypeId) : Option Nat := (P.info? t).map (·.size)
def byT (t : TypeId) : Option Nat := (P.info? t).map (·.bytes)
def zeT (t : TypeId) : Option Value := (P.info? t).bind (·.zero)
/-- How a variable of a type is read: one cell, or so many. -/
def nT (t : TypeId) : Option (Option Nat) :=
  match P.underlying t with
  | some (.struct _) | some (.array _ _) => (szT P t).map some
  | some _ => some none
  | none => none
def elT (t : TypeId) : Option TypeId :=
  match P.underlying t with
  | some (.slice e) => some e
  | _ => none
def arT (t : TypeId) : Option (Nat × TypeId) :=
  match P.underlying t with
  | some (.array n e) => some (n, e)
  | _ => none
def intT (t : TypeId) (k : IntKind) : Bool :=
  match P.underlying t with
  | some (.int k') => k == k'
  | _ => false
def strT (t : TypeId) : Bool :=
  match P.underlying t with
  | some .string => true
  | _ => false
def boolT (t : TypeId) : Bool :=
  match P.underlying t with
  | some .bool => true
  | _ => false
def bytesT (t : TypeId) : Bool :=
  match elT P t with
  | some e => intT P e .u8
  | none => false
def fldT (t : TypeId) (f : Nat) : Option Field :=
  match P.underlying t with
  | some (.struct fs) => fs[f]?
  | _ => none
/-- A type's cells, where '==' looks at each of them. -/
def ckT : Nat → TypeId → Option (List Ck)
  | 0, _ => none
  | d + 1, t =>
    match P.underlying t with
    | some .bool => some [.b]
    | some .string => some [.s]
    | some (.int k) => some [.i k]
    | some (.struct fs) => if P.stoodInHeld t then none else go d 0 fs.toList
    | _ => none
where
  go (d : Nat) (off : Nat) : List Field → Option (List Ck)
    | [] => some []
    | f :: r =>
      if f.name == "_" || f.offset != off then none else
      match ckT d f.type with
      | none => none
      | some ks =>
        if szT P f.type != some ks.length then none else
        match go d (off + ks.length) r with
        | some qs => some (ks ++ qs)
        | none => none
/-- A map's type: keys of atoms, no comparison that may stop. -/
def mapT (t : TypeId) (ks : List Ck) : Option TypeId :=
  match P.underlying t with
  | some (.map k e) => if ckT P 8 k == some ks then some e else none
  | _ => none
def chkParts (e : Nat → Option (Nat × Nat)) : List (Nat × Nat × Opd) → List (Nat × Operand) → Bool
  | [], [] => true
  | (off, sz, x) :: r, (i, y) :: q => e i == some (off, sz) && chkX P x y && chkParts e r q
  | _, _ => false
def chkEls : List (Nat × Opd) → List (Nat × Operand) → Bool
  | [], [] => true
  | (i, x) :: r, (j, y) :: q => i == j && chkX P x y && chkEls r q
  | _, _ => false
def place (t : TypeId) (i : Nat) : Option (Nat × Nat) :=
  match P.underlying t with
  | some (.struct fs) => match fs[i]? with
    | some f => (szT P f.type).map fun s => (f.offset, s)
    | none => none
  | some (.array _ e) => (szT P e).map fun s => (i * s, s)
  | _ => none
/-- All fields have a size. -/
def fieldsSized (t : TypeId) : Bool :=
  match P.underlying t with
  | some (.struct fs) => fs.all fun f => (szT P f.type).isSome
  | some (.array _ e) => (szT P e).isSome
  | _ => false
def chkOp (x : O) (op : Op) : Bool :=
  match x with
  | .mv _ x => (match op with | .move y => chkX P x y | .assign y => chkX P x y | _ => false)
  | .pk _ c a b => (match op with | .pick c' a' b' => chkX P c c' && chkX P a a' && chkX P b b' | _ => false)
  | .bn _ o x y => (match op with | .binOp o' _ x' y' _ => o == o' && chkX P x x' && chkX P y y' | _ => false)
  | .un _ o x => (match op with | .unOp o' _ x' => o == o' && chkX P x x' | _ => false)
  | .be _ neg x y => (match op with | .binOp o' t x' y' _ => o' == (if neg then BinOp.neq else BinOp.eql) && boolT P t && chkX P x x' && chkX P y y' | _ => false)
  | .nl _ k neg x => (match op with
    | .binOp o' t x' (.const c) _ => o' == (if neg then BinOp.neq else BinOp.eql) && chkX P x x' && (match k, P.underlying t, c with
      | 0, some (.slice _), .slice none 0 0 => true
      | 1, some (.map _ _), .map none => true
      | 2, some (.pointer _), .pointer none => true
      | 3, some (.func _ _ _), .nilFunc => true
      | _, _, _ => false)
    | _ => false)
  | .eqa _ neg ks x y => (match op with
    | .binOp o' t x' y' _ => o' == (if neg then BinOp.neq else BinOp.eql) && chkX P x x' && chkX P y y' && ckT P 8 t == some ks && (match P.underlying t with | some (.struct _) => true | _ => false) && !P.eqGuardType P.depth t
    | _ => false)
  | .ci _ k x => (match op with | .convert s t x' => chkX P x x' && intT P t k && (P.underlying s).isSome | _ => false)
  | .cbs _ x => (match op with | .convert s t x' => chkX P x x' && bytesT P s && strT P t | _ => false)
  | .csb _ x => (match op with | .convert s t x' => chkX P x x' && strT P s && bytesT P t | _ => false)
  | .ex _ x i => (match op with | .extract x' j => chkX P x x' && i == j | _ => false)
  | .bd _ zero parts => (match op with | .build t ps => (match zeT P t with | some z => chkC (.ag zero) z | none => false) && fieldsSized P t && chkParts P (place P t) parts ps.toList | _ => false)
  | .fd _ x off n => (match op with | .field t x' f => chkX P x x' && (match fldT P t f with | some g => g.offset == off && nT P g.type == some n | none => false) | _ => false)
  | .ix _ x i => (match op with | .index t x' i' => chkX P x x' && chkX P i i' && strT P t | _ => false)
  | .ixa _ x i len z n => (match op with | .index t x' i' => chkX P x x' && chkX P i i' && (match arT P t with | some (l, e) => l == len && szT P e == some z && nT P e == some n | none => false) | _ => false)
  | .ss _ x lo hi => (match op with | .slice t x' lo' hi' none => chkX P x x' && chkOX P lo lo' && chkOX P hi hi' && strT P t | _ => false)
  | .sl _ x lo hi z => (match op with | .slice t x' lo' hi' none => chkX P x x' && chkOX P lo lo' && chkOX P hi hi' && (match elT P t with | some e => szT P e == some z | none => false) | _ => false)
  | .sla _ x len z => (match op with | .slice t x' none none none => chkX P x x' && (match arT P t with | some (l, e) => l == len && szT P e == some z && l != 0 | none => false) | _ => false)
  | .ln _ x => (match op with | .call c => (match c.callee, c.args.toList, c.argTypes.toList with | .builtin .len, [x'], [t] => chkX P x x' && (elT P t).isSome | _, _, _ => false) | _ => false)
  | .lns _ x => (match op with | .call c => (match c.callee, c.args.toList, c.argTypes.toList with | .builtin .len, [x'], [t] => chkX P x x' && strT P t | _, _, _ => false) | _ => false)
  | .lnm _ x => (match op with | .call c => (match c.callee, c.args.toList, c.argTypes.toList with | .builtin .len, [x'], [t] => chkX P x x' && (match P.underlying t with | some (.map _ _) => true | _ => false) | _, _, _ => false) | _ => false)
  | .al _ z xs => (match op with | .alloc t => (match zeT P t with | some v => chkC (.ag (flat xs)) (.agg v.cells) && xs.all (fun x => plain x && x.cells.length == z) | none => false) | _ => false)
  | .bx _ x => (match op with | .box _ x' => chkX P x x' | _ => false)
  | .lal _ zero => (match op with | .alloc t => (match zeT P t with | some v => chkC zero v | none => false) | _ => false)
  | .lbx _ x => (match op with | .box _ x' => chkX P x x' | _ => false)
  | .ld _ x n => (match op with | .load t x' => chkX P x x' && nT P t == some n | _ => false)
  | .st x v n => (match op with | .store t x' v' => chkX P x x' && chkX P v v' && szT P t == some n | _ => false)
  | .fa _ x off => (match op with | .fieldAddr t x' f => chkX P x x' && (match fldT P t f with | some g => g.offset == off && szT P g.type != some 0 && (szT P g.type).isSome | none => false) | _ => false)
  | .ia _ x i z => (match op with | .indexAddr t x' i' => chkX P x x' && chkX P i i' && (match elT P t with | some e => szT P e == some z | none => false) | _ => false)
  | .iaa _ x i len z => (match op with | .indexAddr t x' i' => chkX P x x' && chkX P i i' && (match arT P t with | some (l, e) => l == len && szT P e == some z | none => false) | _ => false)
  | .bs _ zero z len parts => (match op with | .buildSlice t l ps => l == len && len * z ≤ 65536 && z != 0 && chkEls P parts ps.toList && (match elT P t with | some e => szT P e == some z && (match zeT P e with | some v => chkC zero v && zero.cells.length == z | none => false) | none => false) | _ => false)
  | .lbs _ zero z len parts => (match op with | .buildSlice t l ps => l == len && len * z ≤ 65536 && z != 0 && chkEls P parts ps.toList && (match elT P t with | some e => szT P e == some z && (match zeT P e with | some v => chkC zero v && zero.cells.length == z | none => false) | none => false) | _ => false)
  | .mk _ zero z by' n => (match op with | .makeSlice t l c => chkX P n l && chkX P n c && z != 0 && (match elT P t with | some e => szT P e == some z && byT P e == some by' && (match zeT P e with | some v => chkC zero v && zero.cells.length == z | none => false) | none => false) | _ => false)
  | .ap _ x y z by' => (match op with
    | .call c => (match c.callee, c.args.toList, c.argTypes.toList with
      | .builtin .append, [x', y'], [t, u] => chkX P x x' && chkX P y y' && z != 0 && by' != 0 && (match P.underlying u with | some (.int _) => false | some _ => true | none => false) && (match elT P t with | some e => szT P e == some z && byT P e == some by' && (match zeT P e with | some v => v.cells.size == z | none => false) | none => false)
      | _, _, _ => false)
    | _ => false)
  | .cp _ x y z => (match op with
    | .call c => (match c.callee, c.args.toList, c.argTypes.toList with
      | .builtin .copy, [x', y'], t :: _ => chkX P x x' && chkX P y y' && z != 0 && (match elT P t with | some e => szT P e == some z | none => false)
      | _, _, _ => false)
    | _ => false)
  | .cl _ f xs => (match op with | .call c => (match c.callee with | .value (.func g) => f == g && chkXs P xs c.args.toList | _ => false) | _ => false)
  | .cv _ x xs => (match op with | .call c => (match c.callee with | .value y => chkX P x y && chkXs P xs c.args.toList | _ => false) | _ => false)
  | .mf _ f caps => (match op with | .makeFunc (.func g) first cs => f == g && first.isEmpty && chkXs P caps cs.toList | _ => false)
  | .nc _ x => (match op with | .nilCheck x' => chkX P x x' | _ => false)
  | .mm _ mx x y => (match op with
    | .call c => (match c.callee, c.args.toList with
      | .builtin .max, [x', y'] => mx && chkX P x x' && chkX P y y'
      | .builtin .min, [x', y'] => !mx && chkX P x x' && chkX P y y'
      | _, _ => false)
    | _ => false)
  | .mkm _ => (match op with | .makeMap _ none => true | _ => false)
  | .lk _ x k zero ks ok => (match op with | .lookup t x' k' ok' => chkX P x x' && chkX P k k' && ok == ok' && (match mapT P t ks with | some e => (match zeT P e with | some v => chkC zero v | none => false) | none => false) | _ => false)
  | .mu x k v ks => (match op with | .mapUpdate t x' k' v' => chkX P x x' && chkX P k k' && chkX P v v' && (mapT P t ks).isSome | .insert t x' k' v' => chkX P x x' && chkX P k k' && chkX P v v' && (mapT P t ks).isSome | _ => false)
  | .dl x k ks => (match op with
    | .call c => (match c.callee, c.args.toList, c.argTypes.toList with
      | .builtin .delete, [x', k'], t :: _ => chkX P x x' && chkX P k k' && (mapT P t ks).isSome
      | _, _, _ => false)
    | _ => false)
  | .rs _ x => (match op with | .range t x' => chkX P x x' && strT P t | _ => false)
  | .nx _ x => (match op with | .next x' s => chkX P x x' && s | _ => false)
  | .gd .. => false
def chkO (x : O) (o : Oper) : Bool :=
  match x with
  | .gd t b y => (match o.guard with | some (_, b') => b == b' | none => false) && o.dst == dsO y && chkOp P y o.op && t == t
  | y => o.guard.isNone && o.dst == dsO y && chkOp P y o.op
/-- A guard's place: what the operation that it names yields. -/
def chkG (ops : Array Oper) (x : O) (o : Oper) : Bool :=
  match x, o.guard with
  | .gd t _ _, some (j, _) => (match ops[j]? with | some p => p.dst == some t | none => false)
  | .gd _ _ _, none => false
  | _, _ => true
def chkOs (ops : Array Oper) : List O → List Oper → Bool
  | [], [] => true
  | x :: r, o :: q => chkO P x o && chkG ops x o && chkOs ops r q
  | _, _ => false
end
end Go.Vm
