/- Whether abstract code is a program's code, its types resolved: a test. No condition. -/
import Derived.Test.YtfkmdajlpnkebaaDoorAi3
namespace Go.Proofs.YtfkmdajlpnkebaaDoor.Ai
open Go

mutual
def constFits : AV → Value → Bool
  | .bool b, .bool a => a == b
  | .int k b, .int l a => k == l && a == b
  | .str l, .string s => s.data.toList == l
  | .lst _ [] .tight, .slice none 0 0 => true
  | .nilFunc, .nilFunc => true
  | .nilIface, .nilIface => true
  | .nilPtr, .pointer none => true
  | .nilMap, .map none => true
  | .nilSl, .slice none 0 0 => true
  | .agg cs, .agg arr => constsFit cs arr.toList && cs.all AV.isCell
  | .tup vs, .tuple arr => constsFit vs arr.toList
  | .func (.func f) [] [], .func (.func g) a b => f == g && a.isEmpty && b.isEmpty
  | _, _ => false
def constsFit : List AV → List Value → Bool
  | [], xs => xs.isEmpty
  | v :: vs, x :: xs => constFits v x && constsFit vs xs
  | _ :: _, [] => false
end

section
variable (P : Program) (gl : List (Nat × AV))

def sizeT (t : TypeId) : Option Nat := (P.info? t).map (·.size)

def isAggT (t : TypeId) : Option Bool :=
  match P.underlying t with
  | some (.struct _) => some true
  | some (.array _ _) => some true
  | some _ => some false
  | none => none

def varFits (t : TypeId) (m : Nat) (agg : Bool) : Bool := sizeT P t == some m && isAggT P t == some agg && (agg || m == 1)

/-- A slice's element: so many cells each. -/
def elemFits (t : TypeId) (m : Nat) : Bool :=
  match P.underlying t with
  | some (.slice e) => varFits P e m (m != 1) && decide (1 ≤ m)
  | _ => false

def elemBytes (t : TypeId) : Nat :=
  match P.underlying t with
  | some (.slice e) => ((P.info? e).map (·.bytes)).getD 0
  | _ => 0

/-- Has a slice's element a zero value, of its size? -/
def zeroOk (t : TypeId) : Bool :=
  match P.underlying t with
  | some (.slice e) => (match P.info? e with
    | some i => (match i.zero with | some z => z.cells.size == i.size | none => false)
    | none => false)
  | _ => false

def zeroFits (t : TypeId) (z : AV) : Bool :=
  match (P.info? t).bind (·.zero) with
  | some v => constFits z v && z.isVar
  | none => false

def xFits (o : Operand) (x : AX) : Bool :=
  match o, x with
  | .tmp i, .t j => i == j
  | .const v, .k a => constFits a v
  | .global g, .k (.iptr v) => (gl.find? fun e => e.1 == g).any fun e => AV.beq e.2 v
  | .func f, .k (.func (.func g) [] []) => f == g
  | _, _ => false

def xsFit : List Operand → List AX → Bool
  | [], [] => true
  | o :: os, x :: xs => xFits gl o x && xsFit os xs
  | _, _ => false

def oxFits : Option Operand → Option AX → Bool
  | none, none => true
  | some o, some x => xFits gl o x
  | _, _ => false

/-- Parts: where each lies, and how many cells it has. -/
def partsFit (place : Nat → Option (Nat × Nat)) : List (Nat × Operand) → List (Nat × Nat × AX) → Bool
  | [], [] => true
  | (i, o) :: os, (off, size, x) :: xs => (match place i with | some (a, b) => a == off && b == size | none => false) && xFits gl o x && partsFit place os xs
  | _, _ => false

def isK (t : TypeId) (q : TypeDesc → Bool) : Bool :=
  match P.underlying t with
  | some d => q d
  | none => false

def basicD : TypeDesc → Bool
  | .int _ | .string | .bool => true
  | _ => false

/-- The kind of a key. -/
def kindD : TypeDesc → Nat
  | .int _ => 0
  | .string => 1
  | .bool => 2
  | _ => 4

def plainFields : List Field → List Nat → Nat → Bool
  | [], [], _ => true
  | f :: fs, k :: ks, off => f.name != "_" && f.offset == off && isK P f.type (fun d => kindD d == k) && decide (k < 3) && sizeT P f.type == some 1 && plainFields fs ks (off + 1)
  | _, _, _ => false

def isIntConst : Operand → Bool
  | .const (.int _ _) => true
  | _ => false

/-- A builtin's call. -/
def asBuiltin : Op → Option (Builtin × List Operand × List TypeId)
  | .call c => match c.callee with
    | .builtin b => some (b, c.args.toList, c.argTypes.toList)
    | _ => none
  | _ => none

def callFits (c : Call) (y : AX) (ys : List AX) : Bool :=
  match c.callee with
  | .value f => xFits gl f y && xsFit gl c.args.toList ys
  | _ => false

def opFits (o : Op) : AOp → Bool
  | .mov y => match o with | .move x => xFits gl x y | .assign x => xFits gl x y | _ => false
  | .movT y => match o with | .move x => xFits gl x y | .assign x => xFits gl x y | _ => false
  | .pick c a b => match o with | .pick c' a' b' => xFits gl c' c && xFits gl a' a && xFits gl b' b | _ => false
  | .new z _ ty => match o with | .alloc t => zeroFits P t z && z.cells.all AV.isCell && (match ty with | none => true | some T => T == t) | _ => false
  | .box m y _ => match o with | .box t x => sizeT P t == some m && xFits gl x y | _ => false
  | .build zero ps => match o with
    | .build t parts => zeroFits P t (.agg zero) &&
      (match P.underlying t with
       | some (.struct fs) => partsFit gl (fun i => (fs[i]?).bind fun f => (sizeT P f.type).map fun s => (f.offset, s)) parts.toList ps && fs.all (fun f => (sizeT P f.type).isSome)
       | some (.array _ e) => (match sizeT P e with | some s => partsFit gl (fun i => some (i * s, s)) parts.toList ps | none => false)
       | _ => false)
    | _ => false
  | .mkLit m zero ps _ => match o with
    | .buildSlice t len parts => elemFits P t m && decide (len * m ≤ 2 ^ 24) && zero.length == len * m && zero.all AV.isCell &&
      (match P.underlying t with
       | some (.slice e) => (match (P.info? e).bind (·.zero) with
         | some z => constsFit zero ((Array.range (len * m)).map (z.cells[· % z.cells.size]!)).toList
         | none => false)
       | _ => false) && partsFit gl (fun i => some (i * m, m)) parts.toList ps
    | _ => false
  | .load m agg y => match o with | .load t x => varFits P t m agg && xFits gl x y | _ => false
  | .store m y z => match o with | .store t x v => sizeT P t == some m && xFits gl x y && xFits gl v z | _ => false
  | .nilCheck y => match o with | .nilCheck x => xFits gl x y | _ => false
  | .bin op y z => match o with | .binOp op' _ x v _ => op == op' && xFits gl x y && xFits gl v z | _ => false
  | .eqBool neg y z => match o with
    | .binOp op t x v _ => op == (if neg then .neq else .eql) && isK P t (· matches .bool) && xFits gl x y && xFits gl v z
    | _ => false
  | .eqAgg ks neg y z => match o with
    | .binOp op t x v _ => op == (if neg then .neq else .eql) && (match P.underlying t with | some (.struct fs) => plainFields P fs.toList ks 0 | _ => false) &&
        !P.stoodInHeld t && !P.eqGuardType P.depth t && xFits gl x y && xFits gl v z
    | _ => false
  | .eqPtr neg y z => match o with
    | .binOp op t x v _ => op == (if neg then .neq else .eql) && isK P t (· matches .pointer _) && xFits gl x y && xFits gl v z
    | _ => false
  | .eqIface neg y z => match o with
    | .binOp op t x v _ => op == (if neg then .neq else .eql) && isK P t (· matches .interface _) && ((x matches .const _) || (v matches .const _)) && xFits gl x y && xFits gl v z
    | _ => false
  | .un op y => match o with | .unOp op' _ x => op == op' && xFits gl x y | _ => false
  | .convInt k y => match o with
    | .convert s d x => isK P s (· matches .int _) && (match P.underlying d with | some (.int l) => l == k | _ => false) && xFits gl x y
    | _ => false
  | .convSame y => match o with
    | .convert s d x => isK P s (· matches .string) && isK P d (· matches .string) && xFits gl x y
    | _ => false
  | .convBytes _ y => match o with
    | .convert s d x => isK P s (· matches .string) && (match P.underlying d with | some (.slice e) => isK P e (fun | .int .u8 => true | _ => false) | _ => false) && xFits gl x y
    | _ => false
  | .convStr y => match o with
    | .convert s d x => isK P d (· matches .string) && (match P.underlying s with | some (.slice e) => isK P e (fun | .int .u8 => true | _ => false) | _ => false) && xFits gl x y
    | _ => false
  | .mkIface t y => match o with | .makeInterface u x => t == u && isK P t (fun | .interface _ => false | _ => true) && xFits gl x y | _ => false
  | .mkFunc f ys zs => match o with | .makeFunc (.func g) a b => f == g && xsFit gl a.toList ys && xsFit gl b.toList zs | _ => false
  | .mkMap => match o with | .makeMap _ none => true | _ => false
  | .mkSlice m bytes zero y z _ => match o with
    | .makeSlice t l c => elemFits P t m && elemBytes P t == bytes && (match P.underlying t with | some (.slice e) => zeroFits P e (if m != 1 then .agg zero else zero.headD .undef) | _ => false) &&
        zero.length == m && zero.all AV.isCell && xFits gl l y && xFits gl c z
    | _ => false
  | .sliceStr y lo hi => match o with | .slice t x l h none => isK P t (· matches .string) && xFits gl x y && oxFits gl l lo && oxFits gl h hi | _ => false
  | .sliceLst m y lo hi max => match o with | .slice t x l h mx => elemFits P t m && xFits gl x y && oxFits gl l lo && oxFits gl h hi && oxFits gl mx max | _ => false
  | .sliceArr n m y lo hi => match o with
    | .slice t x l h none => (match P.underlying t with
        | some (.array n' e) => n' == n && sizeT P e == some m
        | some (.pointer a) => (match P.underlying a with | some (.array n' e) => n' == n && sizeT P e == some m | _ => false)
        | _ => false) && xFits gl x y && oxFits gl l lo && oxFits gl h hi
    | _ => false
  | .fieldAddr off size agg y => match o with
    | .fieldAddr t x i => (match P.underlying t with
        | some (.struct fs) => (match fs[i]? with | some f => f.offset == off && varFits P f.type size agg && decide (1 ≤ size) | none => false)
        | _ => false) && xFits gl x y
    | _ => false
  | .field off size agg y => match o with
    | .field t x i => (match P.underlying t with
        | some (.struct fs) => (match fs[i]? with | some f => f.offset == off && varFits P f.type size agg | none => false)
        | _ => false) && xFits gl x y
    | _ => false
  | .indexAddr m agg arr y z => match o with
    | .indexAddr t x i => (match P.underlying t, arr with
        | some (.array n e), some n' => n == n' && varFits P e m agg && decide (1 ≤ m)
        | some (.slice e), none => varFits P e m agg && decide (1 ≤ m) && agg == (m != 1)
        | _, _ => false) && xFits gl x y && xFits gl i z
    | _ => false
  | .indexStr y z => match o with | .index t x i => isK P t (· matches .string) && xFits gl x y && xFits gl i z | _ => false
  | .indexArr n m agg y z => match o with
    | .index t x i => (match P.underlying t with | some (.array n' e) => n == n' && varFits P e m agg | _ => false) && xFits gl x y && xFits gl i z
    | _ => false
  | .lookup kd zero ok y z => match o with
    | .lookup t x i ok' => ok == ok' && (match P.underlying t with | some (.map k e) => isK P k (fun d => kindD d == kd) && decide (kd < 3) && zeroFits P e zero | _ => false) && xFits gl x y && xFits gl i z
    | _ => false
  | .mapUpdate kd y z u => match o with
    | .mapUpdate t x i v => (match P.underlying t with | some (.map k _) => isK P k (fun d => kindD d == kd) && decide (kd < 3) | _ => false) && xFits gl x y && xFits gl i z && xFits gl v u
    | .insert t x i v => (match P.underlying t with | some (.map k _) => isK P k (fun d => kindD d == kd) && decide (kd < 3) | _ => false) && xFits gl x y && xFits gl i z && xFits gl v u
    | _ => false
  | .extract y i => match o with | .extract x j => i == j && xFits gl x y | _ => false
  | .assertT t zero ok y => match o with
    | .typeAssert x _ u ok' => t == u && ok == ok' && isK P u (fun | .interface _ => false | _ => true) && zeroFits P u zero && xFits gl x y
    | _ => false
  | .call y ys => match o with | .call c => callFits gl c y ys | _ => false
  | .lenStr y => match asBuiltin o with
    | some (.len, [x], [t]) => xFits gl x y && isK P t (· matches .string)
    | _ => false
  | .lenSl y => match asBuiltin o with
    | some (.len, [x], [t]) => xFits gl x y && isK P t (· matches .slice _)
    | _ => false
  | .lenMap y => match asBuiltin o with
    | some (.len, [x], [t]) => xFits gl x y && isK P t (· matches .map _ _)
    | _ => false
  | .lenArr n => match asBuiltin o with
    | some (.len, [_], [t]) => (match P.underlying t with
        | some (.array n' _) => n == n'
        | some (.pointer a) => (match P.underlying a with | some (.array n' _) => n == n' | _ => false)
        | _ => false)
    | _ => false
  | .append m bytes ty y z => match asBuiltin o with
    | some (.append, [x, v], [t, u]) => (match ty with | none => true | some T => (match P.underlying t with | some (.slice e) => T == e | _ => false)) && elemFits P t m && zeroOk P t && elemBytes P t == bytes && isK P u (fun | .int _ => false | _ => true) && xFits gl x y && xFits gl v z
    | _ => false
  | .copy m y z => match asBuiltin o with
    | some (.copy, [x, v], [t, _]) => elemFits P t m && xFits gl x y && xFits gl v z
    | _ => false
  | .minmax isMax ys => match asBuiltin o with
    | some (.min, args, _) => !isMax && xsFit gl args ys
    | some (.max, args, _) => isMax && xsFit gl args ys
    | _ => false
  | .panic y => match o with
    | .panic x => xFits gl x y
    | o => match asBuiltin o with
      | some (.panic, [x], _) => xFits gl x y
      | _ => false
  | .defer y ys => match o with | .defer c => callFits gl c y ys | _ => false

def operFits (ops : Array Oper) (o : Oper) (a : AOper) : Bool :=
  o.dst == a.dst && opFits P gl o.op a.op &&
  (match o.guard, a.guard with
   | none, none => true
   | some (j, w), some (t, w') => w == w' && ((ops[j]?).bind (·.dst)) == some t
   | _, _ => false)

def opersFit (ops : Array Oper) : List Oper → List AOper → Bool
  | [], [] => true
  | o :: os, a :: as => operFits P gl ops o a && opersFit ops os as
  | _, _ => false

/-- It is not among what it names itself besides. -/
def AOper.selfOk (x : AOper) : Bool :=
  match x.dst with
  | some d => !(x.op.xs.isEmpty == false && (xTmps x.op.xs).contains d) && (match x.guard with | some (t, _) => t != d | none => true)
  | none => true

/-- A pair of a plan: x ahead of y, with what lies between. -/
def pairOk (bf : Array Nat) (x : AStep) (mid : List AStep) (y : AStep) : Bool :=
  (!y.re.contains x.i || (x.o.selfOk && (mid ++ [y]).all fun z => !z.o.writes x.o)) &&
  ((bf.getD y.i 0).testBit x.i ||
  (!x.o.writes y.o && !y.o.writes x.o && x.o.op.cls != 2 &&
    (y.o.op.cls != 2 || x.o.op.cls == 0 || y.re.contains x.i)))

def fromX (bf : Array Nat) (x : AStep) : List AStep → List AStep → Bool
  | _, [] => true
  | mid, y :: ys => pairOk bf x mid y && fromX bf x (mid ++ [y]) ys

def planPairs (bf : Array Nat) : List AStep → Bool
  | [] => true
  | x :: rest => fromX bf x [] rest && planPairs bf rest

def planFits (ops : Array Oper) (ss : List AStep) : Bool :=
  ss.length == ops.size && (List.range ops.size).all (fun i => ss.any fun s => s.i == i) &&
  ss.all (fun s => match ops[s.i]? with | some o => operFits P gl ops o s.o | none => false) &&
  ops.toList.zipIdx.all (fun (o, i) => o.after.all fun e => !Region.binds .any e || decide (e.on < i)) &&
  ss.all (fun s => s.o.op.cls == 2 || s.re.isEmpty) && planPairs (Region.before ops) ss

def codeFits (sites : List (ACode × ACode)) : Code → ACode → Bool
  | .skip, .skip => true
  | .label _, .skip => true
  | .region _ ops false, .reg as => opersFit P gl ops ops.toList as
  | .region _ ops true, .plan ss => planFits P gl ops ss
  | .seq a b, .seq a' b' => codeFits sites a a' && codeFits sites b b'
  | .cond c a b, .cond x a' b' => xFits gl c x && codeFits sites a a' && codeFits sites b b'
  | .block id a, .block id' a' => id == id' && codeFits sites a a'
  | .loop a, .loop a' => codeFits sites a a'
  | .exit id, .exit id' => id == id'
  | .ret, .ret => true
  | .rangeFunc f ps asg body, .rangeFunc x ps' site => xFits gl f x && ps.toList == ps' &&
    (match sites[site]? with
     | some (a, b) => codeFits sites asg a && codeFits sites body b
     | none => false)
  | _, _ => false

def resFits : ResultVar → ARes → Bool
  | .tmp i, .tmp j => i == j
  | .cell i t, .cell j m agg => i == j && varFits P t m agg
  | _, _ => false

def ressFit : List ResultVar → List ARes → Bool
  | [], [] => true
  | r :: rs, a :: as => resFits P r a && ressFit rs as
  | _, _ => false

def funcFits (f : FuncId) (F : AFunc) : Bool :=
  match P.funcs[f]? with
  | some fn => (match fn.body with
    | some c => fn.name != "runtime.NumGoroutine" && fn.ntmps == F.ntmps && ressFit P fn.results.toList F.results && codeFits P gl F.sites c F.body
    | none => false)
  | none => false
end

end Go.Proofs.YtfkmdajlpnkebaaDoor.Ai
