/- The words of an abstract evaluator: values, objects, code with its types resolved, and what each operation does. No condition. -/
import GoSem.Step
namespace Go.Proofs.YtfkmdajlpnkebaaDoor.Ai
open Go

/-- May a list be appended to: no; always anew (its capacity is its length); by the one who holds a token. -/
inductive Ap where
  | no
  | tight
  | tok (id : Nat)
  deriving DecidableEq, Inhabited

inductive AV where
  | bool (b : Bool)
  | int (k : IntKind) (n : Int)
  | str (s : List UInt8)
  | agg (cs : List AV)
  | tup (vs : List AV)
  | func (fn : Fn) (first cap : List AV)
  | nilFunc
  | iface (t : TypeId) (v : AV)
  | nilIface
  | lst (m : Nat) (es : List AV) (ap : Ap)
  | sl (r m off len : Nat) (cap : Option Nat)
  | ptr (r off : Nat)
  | iptr (v : AV)
  | nilPtr
  | map (r : Nat)
  | nilMap
  | nilSl
  deriving Inhabited

def AV.undef : AV := .tup []

/-- One cell's value. -/
def AV.isCell : AV → Bool
  | .agg _ | .tup _ => false
  | _ => true

def AV.cells : AV → List AV
  | .agg cs => cs
  | v => [v]

mutual
def AV.beq : AV → AV → Bool
  | .bool a, .bool b => a == b
  | .int k a, .int l b => k == l && a == b
  | .str a, .str b => a == b
  | .agg a, .agg b => AV.beqs a b
  | .tup a, .tup b => AV.beqs a b
  | .func f a b, .func g c d => f == g && AV.beqs a c && AV.beqs b d
  | .nilFunc, .nilFunc => true
  | .iface t v, .iface u w => t == u && AV.beq v w
  | .nilIface, .nilIface => true
  | .lst m a p, .lst n b q => m == n && AV.beqs a b && p == q
  | .sl a b c d e, .sl a' b' c' d' e' => a == a' && b == b' && c == c' && d == d' && e == e'
  | .ptr a b, .ptr c d => a == c && b == d
  | .iptr a, .iptr b => AV.beq a b
  | .nilPtr, .nilPtr => true
  | .map a, .map b => a == b
  | .nilMap, .nilMap => true
  | .nilSl, .nilSl => true
  | _, _ => false
def AV.beqs : List AV → List AV → Bool
  | [], [] => true
  | a :: x, b :: y => AV.beq a b && AV.beqs x y
  | _, _ => false
end

inductive APend where
  | ret
  | exit (id : Nat)
  deriving DecidableEq, Inhabited

inductive ADef where
  | collected (r : Nat)
  | call (f : FuncId) (args : List AV)
  deriving Inhabited

inductive AObj where
  | dead
  | cells (ty : Option TypeId) (cs : List AV)
  | tok (m len : Nat) (ty : Option TypeId)
  | map (es : List (AV × AV))
  | loop (s : LoopState) (pend : Option APend) (f : FuncId) (site : Nat) (params : List Nat) (env : List AV) (defs : Nat)
  | defr (calls : Option (List ADef))
  deriving Inhabited

abbrev St := List AObj
abbrev Env := List AV

/-- An operand. -/
inductive AX where
  | t (i : Nat)
  | k (v : AV)
  deriving Inhabited

inductive AOp where
  | mov (x : AX)
  | movT (x : AX)
  | pick (c a b : AX)
  | new (zero : AV) (mu : Bool) (ty : Option TypeId)
  | box (m : Nat) (x : AX) (mu : Bool)
  | build (zero : List AV) (parts : List (Nat × Nat × AX))
  | mkLit (m : Nat) (zero : List AV) (parts : List (Nat × Nat × AX)) (mu : Bool)
  | load (m : Nat) (agg : Bool) (a : AX)
  | store (m : Nat) (a x : AX)
  | nilCheck (x : AX)
  | bin (op : BinOp) (x y : AX)
  | eqBool (neg : Bool) (x y : AX)
  | eqAgg (ks : List Nat) (neg : Bool) (x y : AX)
  | eqPtr (neg : Bool) (x y : AX)
  | eqIface (neg : Bool) (x y : AX)
  | un (op : UnOp) (x : AX)
  | convInt (k : IntKind) (x : AX)
  | convSame (x : AX)
  | convBytes (mu : Bool) (x : AX)
  | convStr (x : AX)
  | mkIface (t : TypeId) (x : AX)
  | mkFunc (f : FuncId) (first cap : List AX)
  | mkMap
  | mkSlice (m bytes : Nat) (zero : List AV) (l c : AX) (tok : Bool)
  | sliceStr (x : AX) (lo hi : Option AX)
  | sliceLst (m : Nat) (x : AX) (lo hi max : Option AX)
  | sliceArr (n m : Nat) (x : AX) (lo hi : Option AX)
  | fieldAddr (off size : Nat) (agg : Bool) (x : AX)
  | field (off size : Nat) (agg : Bool) (x : AX)
  | indexAddr (m : Nat) (agg : Bool) (arr : Option Nat) (x i : AX)
  | indexStr (x i : AX)
  | indexArr (n m : Nat) (agg : Bool) (x i : AX)
  | lookup (kd : Nat) (zero : AV) (ok : Bool) (x i : AX)
  | mapUpdate (kd : Nat) (x i v : AX)
  | extract (x : AX) (i : Nat)
  | assertT (t : TypeId) (zero : AV) (ok : Bool) (x : AX)
  | call (f : AX) (args : List AX)
  | lenStr (x : AX)
  | lenSl (x : AX)
  | lenMap (x : AX)
  | lenArr (n : Nat)
  | append (m bytes : Nat) (ty : Option TypeId) (x y : AX)
  | copy (m : Nat) (x y : AX)
  | minmax (isMax : Bool) (xs : List AX)
  | panic (x : AX)
  | defer (f : AX) (args : List AX)
  deriving Inhabited

structure AOper where
  dst : Option Nat
  op : AOp
  guard : Option (Nat × Bool)
  deriving Inhabited

/-- A step of a region whose order is open: which operation it is; what was read before and is to be read again behind it. -/
structure AStep where
  i : Nat
  o : AOper
  re : List Nat
  deriving Inhabited

inductive ACode where
  | skip
  | reg (ops : List AOper)
  | plan (steps : List AStep)
  | seq (a b : ACode)
  | cond (c : AX) (a b : ACode)
  | block (id : Nat) (a : ACode)
  | loop (a : ACode)
  | exit (id : Nat)
  | ret
  | rangeFunc (f : AX) (params : List Nat) (site : Nat)
  deriving Inhabited

inductive ARes where
  | tmp (i : Nat)
  | cell (i m : Nat) (agg : Bool)
  deriving Inhabited

structure AFunc where
  ntmps : Nat
  results : List ARes
  body : ACode
  sites : List (ACode × ACode)
  keep : Bool
  deriving Inhabited

inductive AOut where
  | ret (v : AV)
  | pan (v : AV)
  deriving Inhabited

structure AProg where
  fn : FuncId → Option AFunc
  prim : FuncId → Option (List AV → St → Option (AOut × St))

/-- How a piece of code is left. -/
inductive AEx where
  | nrm
  | exit (id : Nat)
  | ret
  | pan (v : AV)
  deriving Inhabited

structure Fr where
  env : Env
  defs : List ADef
  deriving Inhabited

inductive Task where
  | call (f : FuncId) (args : List AV)
  | seqc (f : FuncId) (args : List AV)
  | round (r : Nat) (args : List AV)
  | loop (f : FuncId) (rnd : Option Nat) (body : ACode) (fr : Fr)

structure Res where
  x : AEx
  fr : Fr
  st : St
  deriving Inhabited

def AX.ev (e : Env) : AX → AV
  | .t i => e.getD i .undef
  | .k v => v

inductive Nx where
  | val (v : AV) (st : St)
  | call (f : FuncId) (args : List AV)
  | round (r : Nat) (args : List AV)
  | pan (v : AV)
  | defer (d : ADef)

/-- The value of a variable that lies in some cells. -/
def takeVar (m : Nat) (agg : Bool) (cs : List AV) (off : Nat) : Option AV :=
  if agg then (if off + m ≤ cs.length then some (.agg ((cs.drop off).take m)) else none)
  else cs[off]?

def putCells : List AV → Nat → List AV → List AV
  | cs, _, [] => cs
  | cs, off, v :: vs => putCells (cs.set off v) (off + 1) vs

/-- Parts laid over cells. -/
def fillA : List AV → List (Nat × Nat × AV) → Option (List AV)
  | cs, [] => some cs
  | cs, (off, size, v) :: rest =>
    if v.cells.length = size ∧ off + size ≤ cs.length ∧ v.cells.all AV.isCell = true then fillA (putCells cs off v.cells) rest else none

/-- Cells, so many each, as elements. -/
def group (m : Nat) (agg : Bool) : Nat → List AV → List AV
  | 0, _ => []
  | n + 1, cs => (if agg then .agg (cs.take m) else cs.headD .undef) :: group m agg n (cs.drop m)

def flat : List AV → List AV
  | [] => []
  | e :: es => e.cells ++ flat es

def sameKey : AV → AV → Option Bool
  | .int k a, .int l b => if k = l then some (a == b) else none
  | .str a, .str b => some (a == b)
  | .bool a, .bool b => some (a == b)
  | _, _ => none

def keyKind : AV → Nat
  | .int _ _ => 0
  | .str _ => 1
  | .bool _ => 2
  | _ => 3

def findKey (k : AV) : List (AV × AV) → Nat → Option (Option (Nat × AV))
  | [], _ => some none
  | e :: es, i =>
    match sameKey k e.1 with
    | some true => some (some (i, e.2))
    | some false => findKey k es (i + 1)
    | none => none

def aInt : AV → Option Int
  | .int _ n => some n
  | _ => none

def intOp (op : BinOp) (k : IntKind) (x y : Int) : Option AV :=
  match op with
  | .add => some (.int k (k.wrap (x + y)))
  | .sub => some (.int k (k.wrap (x - y)))
  | .mul => some (.int k (k.wrap (x * y)))
  | .quo => if y = 0 then none else some (.int k (k.wrap (x.tdiv y)))
  | .rem => if y = 0 then none else some (.int k (x.tmod y))
  | .and => some (.int k (k.wrap (BitVec.ofInt k.bits x &&& BitVec.ofInt k.bits y).toNat))
  | .or => some (.int k (k.wrap (BitVec.ofInt k.bits x ||| BitVec.ofInt k.bits y).toNat))
  | .xor => some (.int k (k.wrap (BitVec.ofInt k.bits x ^^^ BitVec.ofInt k.bits y).toNat))
  | .andNot => some (.int k (k.wrap (BitVec.ofInt k.bits x &&& ~~~ BitVec.ofInt k.bits y).toNat))
  | .eql => some (.bool (x == y))
  | .neq => some (.bool (x != y))
  | .lss => some (.bool (decide (x < y)))
  | .leq => some (.bool (decide (x ≤ y)))
  | .gtr => some (.bool (decide (x > y)))
  | .geq => some (.bool (decide (x ≥ y)))
  | _ => none

def shiftOp (op : BinOp) (k : IntKind) (x y : Int) : Option AV :=
  if y < 0 then none else
  match op with
  | .shl => some (.int k (k.wrap (x * 2 ^ (min y.toNat k.bits))))
  | .shr => some (.int k (x.fdiv (2 ^ (min y.toNat k.bits))))
  | _ => none

def bytesLess : List UInt8 → List UInt8 → Bool
  | _, [] => false
  | [], _ :: _ => true
  | a :: x, b :: y => decide (a < b) || (a == b && bytesLess x y)

def strOp (op : BinOp) (x y : List UInt8) : Option AV :=
  match op with
  | .add => if x.length + y.length ≤ 281474976710656 then some (.str (x ++ y)) else none
  | .eql => some (.bool (x == y))
  | .neq => some (.bool (!(x == y)))
  | .lss => some (.bool (bytesLess x y))
  | .leq => some (.bool (bytesLess x y || x == y))
  | .gtr => some (.bool (!(bytesLess x y || x == y)))
  | .geq => some (.bool (!bytesLess x y))
  | _ => none

def binA (op : BinOp) : AV → AV → Option AV
  | .int k x, .int l y =>
    match op with
    | .shl => shiftOp .shl k x y
    | .shr => shiftOp .shr k x y
    | _ => if k = l then intOp op k x y else none
  | .str x, .str y => strOp op x y
  | _, _ => none

/-- Two structs of whole numbers, strings and bools, cell by cell. -/
def eqCells : List Nat → List AV → List AV → Option Bool
  | [], [], [] => some true
  | k :: ks, a :: x, b :: y => if keyKind a = k then (match sameKey a b with
    | some true => eqCells ks x y
    | some false => some false
    | none => none) else none
  | _, _, _ => none

def unA (op : UnOp) : AV → Option AV
  | .int k n => match op with
    | .neg => some (.int k (k.wrap (0 - n)))
    | .xor => some (.int k (k.wrap (BitVec.ofInt k.bits (if k.signed then -1 else k.max) ^^^ BitVec.ofInt k.bits n).toNat))
    | _ => none
  | .bool b => match op with
    | .not => some (.bool (!b))
    | _ => none
  | _ => none

def bound (o : Option AV) (dflt top : Nat) : Option Nat :=
  match o with
  | none => some dflt
  | some (.int _ i) => if 0 ≤ i ∧ i ≤ (top : Int) then some i.toNat else none
  | _ => none

def minmaxA (isMax : Bool) : AV → List AV → Option AV
  | v, [] => some v
  | .int k x, .int l y :: rest => if k = l then minmaxA isMax (.int k (if isMax then (if y > x then y else x) else (if y < x then y else x))) rest else none
  | _, _ => none

/-- The bound on what is made in one piece. -/
def great : Nat := 274877906944

def byteV (b : UInt8) : AV := .int .u8 b.toNat

def ofBytes : List AV → Option (List UInt8)
  | [] => some []
  | .int .u8 n :: r => if 0 ≤ n ∧ n < 256 then (ofBytes r).map (UInt8.ofNat n.toNat :: ·) else none
  | _ => none

/-- Is a token of so many cells each, and so long? -/
def tokIs (st : St) (id m n : Nat) : Bool :=
  match st[id]? with
  | some (.tok m' n' _) => m' == m && n' == n
  | _ => false

def tokTy (st : St) (id : Nat) : Option TypeId :=
  match st[id]? with
  | some (.tok _ _ ty) => ty
  | _ => none

/-- The elements of what is appended, or copied. -/
def elemsOf (st : St) (m : Nat) : AV → Option (List AV)
  | .lst m' es _ => if m' = m ∨ es = [] then some es else none
  | .str s => if m = 1 then some (s.map byteV) else none
  | .sl r m' off n _ => match st[r]? with
    | some (.cells ty cs) => if m' = m ∧ off + n * m ≤ cs.length then some (group m (m != 1) n (cs.drop off)) else none
    | _ => none
  | _ => none

/-- The entries of a map. -/
def mapOf (st : St) : AV → Option (List (AV × AV))
  | .nilMap => some []
  | .map r => match st[r]? with
    | some (.map es) => some es
    | _ => none
  | _ => none

/-- A nil slice, as a list. -/
def AV.asLst (m : Nat) : AV → AV
  | .nilSl => .lst m [] .tight
  | v => v

def opA (o : AOp) (e : Env) (st : St) : Option Nx :=
  match o with
  | .mov x => some (.val (x.ev e) st)
  | .movT x => match x.ev e with
    | .lst m [] .tight => some (.val (.lst m [] (.tok st.length)) (st ++ [.tok m 0 none]))
    | _ => none
  | .pick c a b => match c.ev e with
    | .bool t => some (.val (if t then a.ev e else b.ev e) st)
    | _ => none
  | .new z mu ty => if mu then some (.val (.ptr st.length 0) (st ++ [.cells ty z.cells])) else some (.val (.iptr z) st)
  | .box m x mu =>
    let v := x.ev e
    if v.cells.length = m ∧ v.cells.all AV.isCell = true then
      (if mu then some (.val (.ptr st.length 0) (st ++ [.cells none v.cells])) else some (.val (.iptr v) st))
    else none
  | .build zero parts => (fillA zero (parts.map fun (o, s, x) => (o, s, x.ev e))).map fun cs => .val (.agg cs) st
  | .mkLit m zero parts mu => (fillA zero (parts.map fun (o, s, x) => (o, s, x.ev e))).map fun cs =>
      if mu then .val (.sl st.length m 0 (cs.length / m) (some (cs.length / m))) (st ++ [.cells none cs])
      else .val (.lst m (group m (m != 1) (cs.length / m) cs) .tight) st
  | .load m agg a => match a.ev e with
    | .iptr v => if agg then (match v with
        | .agg cs => if cs.length = m then some (.val v st) else none
        | _ => none) else (if v.isCell then some (.val v st) else none)
    | .ptr r off => match st[r]? with
      | some (.cells ty cs) => (takeVar m agg cs off).map fun v => .val v st
      | _ => none
    | _ => none
  | .store m a x => match a.ev e with
    | .ptr r off => match st[r]? with
      | some (.cells ty cs) =>
        let vs := (x.ev e).cells
        if vs.length = m ∧ off + m ≤ cs.length ∧ vs.all AV.isCell = true then some (.val .undef (st.set r (.cells ty (putCells cs off vs)))) else none
      | _ => none
    | _ => none
  | .nilCheck x => match x.ev e with
    | .ptr r o => some (.val (.ptr r o) st)
    | .iptr v => some (.val (.iptr v) st)
    | .func fn a b => some (.val (.func fn a b) st)
    | _ => none
  | .bin op x y => (binA op (x.ev e) (y.ev e)).map fun v => .val v st
  | .eqBool neg x y => match x.ev e, y.ev e with
    | .bool a, .bool b => some (.val (.bool (if neg then !(a == b) else a == b)) st)
    | _, _ => none
  | .eqAgg ks neg x y => match x.ev e, y.ev e with
    | .agg a, .agg b => (eqCells ks a b).map fun t => .val (.bool (if neg then !t else t)) st
    | _, _ => none
  | .eqPtr neg x y => match x.ev e, y.ev e with
    | .nilPtr, .nilPtr => some (.val (.bool (!neg)) st)
    | .nilPtr, .ptr _ _ => some (.val (.bool neg) st)
    | .ptr _ _, .nilPtr => some (.val (.bool neg) st)
    | .nilPtr, .iptr _ => some (.val (.bool neg) st)
    | .iptr _, .nilPtr => some (.val (.bool neg) st)
    | _, _ => none
  | .eqIface neg x y => match x.ev e, y.ev e with
    | .nilIface, .nilIface => some (.val (.bool (!neg)) st)
    | .nilIface, .iface _ _ => some (.val (.bool neg) st)
    | .iface _ _, .nilIface => some (.val (.bool neg) st)
    | _, _ => none
  | .un op x => (unA op (x.ev e)).map fun v => .val v st
  | .convInt k x => match x.ev e with
    | .int _ n => some (.val (.int k (k.wrap n)) st)
    | _ => none
  | .convSame x => match x.ev e with
    | .str s => some (.val (.str s) st)
    | _ => none
  | .convBytes mu x => match x.ev e with
    | .str s => if mu then some (.val (.sl st.length 1 0 s.length none) (st ++ [.cells none (s.map byteV)])) else some (.val (.lst 1 (s.map byteV) .no) st)
    | _ => none
  | .convStr x => match x.ev e with
    | .lst m es _ => if m = 1 then (ofBytes es).map fun s => .val (.str s) st else none
    | .sl r m off n _ => match st[r]? with
      | some (.cells ty cs) => if m = 1 ∧ off + n ≤ cs.length then (ofBytes ((cs.drop off).take n)).map fun s => .val (.str s) st else none
      | _ => none
    | _ => none
  | .mkIface t x => some (.val (.iface t (x.ev e)) st)
  | .mkFunc f first cap => some (.val (.func (.func f) (first.map (AX.ev e)) (cap.map (AX.ev e))) st)
  | .mkMap => some (.val (.map st.length) (st ++ [.map []]))
  | .mkSlice m bytes zero l c tok => match aInt (l.ev e), aInt (c.ev e) with
    | some l, some c =>
      if 0 ≤ l ∧ l ≤ c ∧ c ≤ (great : Int) ∧ bytes ≤ 1024 ∧ m = zero.length then
        (if tok then (if l = 0 then some (.val (.lst m [] (.tok st.length)) (st ++ [.tok m 0 none])) else none)
         else if l = c then some (.val (.sl st.length m 0 l.toNat (some l.toNat)) (st ++ [.cells none ((List.replicate l.toNat zero).flatten)])) else none)
      else none
    | _, _ => none
  | .sliceStr x lo hi => match x.ev e with
    | .str s => (bound (hi.map (AX.ev e)) s.length s.length).bind fun h => (bound (lo.map (AX.ev e)) 0 h).map fun l => .val (.str ((s.take h).drop l)) st
    | _ => none
  | .sliceLst m x lo hi max => match x.ev e with
    | .lst m' es ap =>
      if m' = m ∨ es = [] then
        match max with
        | some mx =>
          (bound (some (mx.ev e)) 0 es.length).bind fun c => (bound (hi.map (AX.ev e)) 0 c).bind fun h => (bound (lo.map (AX.ev e)) 0 h).bind fun l =>
            if hi.isSome then some (.val (.lst m ((es.take h).drop l) (if h = c then .tight else .no)) st) else none
        | none =>
          (bound (hi.map (AX.ev e)) es.length es.length).bind fun h => (bound (lo.map (AX.ev e)) 0 h).map fun l =>
            .val (.lst m ((es.take h).drop l) (if h = es.length ∧ ap = .tight then .tight else .no)) st
      else none
    | .sl r m' off n cap =>
      if m' = m ∧ max.isNone then
        match cap with
        | some c => (bound (hi.map (AX.ev e)) n c).bind fun h => (bound (lo.map (AX.ev e)) 0 h).bind fun l =>
            if l < c then some (.val (.sl r m (off + l * m) (h - l) (some (c - l))) st)
            else some (.val (.lst m [] .tight) st)
        | none => (bound (hi.map (AX.ev e)) n n).bind fun h => (bound (lo.map (AX.ev e)) 0 h).bind fun l =>
            if l < n then some (.val (.sl r m (off + l * m) (h - l) none) st)
            else some (.val (.lst m [] .no) st)
      else none
    | _ => none
  | .sliceArr n m x lo hi => match x.ev e with
    | .ptr r off => (bound (hi.map (AX.ev e)) n n).bind fun h => (bound (lo.map (AX.ev e)) 0 h).bind fun l =>
        if l < n then some (.val (.sl r m (off + l * m) (h - l) (some (n - l))) st)
        else some (.val (.lst m [] .tight) st)
    | _ => none
  | .fieldAddr off size agg x => match x.ev e with
    | .ptr r o => some (.val (.ptr r (o + off)) st)
    | .iptr (.agg cs) => (takeVar size agg cs off).map fun v => .val (.iptr v) st
    | _ => none
  | .field off size agg x => match x.ev e with
    | .agg cs => (takeVar size agg cs off).map fun v => .val v st
    | _ => none
  | .indexAddr m agg arr x i => match aInt (i.ev e) with
    | none => none
    | some i => if i < 0 then none else
      match arr, x.ev e with
      | some n, .ptr r off => if i < (n : Int) then some (.val (.ptr r (off + i.toNat * m)) st) else none
      | some n, .iptr (.agg cs) => if i < (n : Int) then (takeVar m agg cs (i.toNat * m)).map fun v => .val (.iptr v) st else none
      | none, .lst m' es _ => if m' = m then (es[i.toNat]?).map fun v => .val (.iptr v) st else none
      | none, .sl r m' off n _ => if m' = m ∧ i < (n : Int) then some (.val (.ptr r (off + i.toNat * m)) st) else none
      | _, _ => none
  | .indexStr x i => match x.ev e, aInt (i.ev e) with
    | .str s, some i => if i < 0 then none else (s[i.toNat]?).map fun b => .val (byteV b) st
    | _, _ => none
  | .indexArr n m agg x i => match x.ev e, aInt (i.ev e) with
    | .agg cs, some i => if 0 ≤ i ∧ i < (n : Int) then (takeVar m agg cs (i.toNat * m)).map fun v => .val v st else none
    | _, _ => none
  | .lookup kd zero ok x i =>
    if keyKind (i.ev e) = kd then
      (mapOf st (x.ev e)).bind fun es => (findKey (i.ev e) es 0).map fun f =>
        let v := match f with | some (_, v) => v | none => zero
        .val (if ok then .tup [v, .bool f.isSome] else v) st
    else none
  | .mapUpdate kd x i v => match x.ev e with
    | .map r => match st[r]? with
      | some (.map es) => if keyKind (i.ev e) = kd then (findKey (i.ev e) es 0).bind fun f => match f with
        | some (j, _) => some (.val .undef (st.set r (.map (es.set j (i.ev e, v.ev e)))))
        | none => some (.val .undef (st.set r (.map (es ++ [(i.ev e, v.ev e)])))) else none
      | _ => none
    | _ => none
  | .extract x i => match x.ev e with
    | .tup vs => (vs[i]?).map fun v => .val v st
    | _ => none
  | .assertT t zero ok x => match x.ev e with
    | .iface u v => if u = t then some (.val (if ok then .tup [v, .bool true] else v) st) else (if ok then some (.val (.tup [zero, .bool false]) st) else none)
    | _ => none
  | .call f args => match f.ev e with
    | .func (.func g) first cap => some (.call g (first ++ args.map (AX.ev e) ++ cap))
    | .func (.yield r) [] [] => some (.round r (args.map (AX.ev e)))
    | _ => none
  | .lenStr x => match x.ev e with
    | .str s => some (.val (.int .i64 s.length) st)
    | _ => none
  | .lenSl x => match (x.ev e).asLst 1 with
    | .lst _ es _ => some (.val (.int .i64 es.length) st)
    | .sl _ _ _ n _ => some (.val (.int .i64 n) st)
    | _ => none
  | .lenMap x => (mapOf st (x.ev e)).map fun es => .val (.int .i64 es.length) st
  | .lenArr n => some (.val (.int .i64 n) st)
  | .append m bytes ty x y =>
    (elemsOf st m (y.ev e)).bind fun ys => match (x.ev e).asLst m with
      | .lst m' es ap =>
        if (m' = m ∨ es = []) ∧ es.length + ys.length ≤ great ∧ bytes ≤ 256 then
          match ap with
          | .tight => if ys = [] then some (.val (.lst m es .tight) st) else some (.val (.lst m (es ++ ys) (.tok st.length)) (st ++ [.tok m (es.length + ys.length) ty]))
          | .tok id => if tokIs st id m es.length then
              (if ys = [] then some (.val (.lst m es (.tok id)) st)
               else some (.val (.lst m (es ++ ys) (.tok id)) (st.set id (.tok m (es.length + ys.length) (if tokTy st id = ty then ty else none))))) else none
          | .no => none
        else none
      | _ => none
  | .copy m x y => match x.ev e with
    | .sl r m' off n _ =>
      (elemsOf st m (y.ev e)).bind fun ys => match st[r]? with
        | some (.cells ty cs) => if m' = m ∧ off + n * m ≤ cs.length then
            some (.val (.int .i64 (min ys.length n)) (st.set r (.cells ty (putCells cs off (flat (ys.take n)))))) else none
        | _ => none
    | _ => none
  | .minmax isMax xs => match xs.map (AX.ev e) with
    | [] => none
    | v :: vs => (minmaxA isMax v vs).map fun v => .val v st
  | .panic x => match x.ev e with
    | .iface t v => some (.pan (.iface t v))
    | _ => none
  | .defer _ _ => none

/-- The operands. -/
def AOp.xs : AOp → List AX
  | .mov x | .movT x | .box _ x _ | .load _ _ x | .nilCheck x | .un _ x | .convInt _ x | .convSame x | .convBytes _ x | .convStr x | .mkIface _ x | .fieldAddr _ _ _ x | .field _ _ _ x | .extract x _
  | .assertT _ _ _ x | .lenStr x | .lenSl x | .lenMap x | .panic x => [x]
  | .pick c a b => [c, a, b]
  | .new _ _ _ | .mkMap | .lenArr _ => []
  | .build _ ps => ps.map (·.2.2)
  | .mkLit _ _ ps _ => ps.map (·.2.2)
  | .store _ a x | .bin _ a x | .eqBool _ a x | .eqAgg _ _ a x | .eqPtr _ a x | .eqIface _ a x | .mkSlice _ _ _ a x _ | .indexAddr _ _ _ a x | .indexStr a x | .indexArr _ _ _ a x | .lookup _ _ _ a x
  | .append _ _ _ a x | .copy _ a x => [a, x]
  | .mkFunc _ a b => a ++ b
  | .sliceStr x l h => x :: (l.toList ++ h.toList)
  | .sliceLst _ x l h m => x :: (l.toList ++ h.toList ++ m.toList)
  | .sliceArr _ _ x l h => x :: (l.toList ++ h.toList)
  | .mapUpdate _ x i v => [x, i, v]
  | .call f as => f :: as
  | .minmax _ xs => xs
  | .defer f as => f :: as

/-- 0: of its operands alone · 1: it reads · 2: it acts. -/
def AOp.cls : AOp → Nat
  | .load .. | .lookup .. | .lenMap _ | .convStr _ => 1
  | .movT _ | .store .. | .mkMap | .mkSlice .. | .mapUpdate .. | .call .. | .append .. | .copy .. | .panic _ | .defer .. => 2
  | .new _ mu _ | .box _ _ mu | .mkLit _ _ _ mu | .convBytes mu _ => if mu then 2 else 0
  | _ => 0

def xTmps : List AX → List Nat
  | [] => []
  | .t i :: xs => i :: xTmps xs
  | .k _ :: xs => xTmps xs

/-- The temporaries that an operation names. -/
def AOper.names (o : AOper) : List Nat := o.dst.toList ++ (match o.guard with | some (t, _) => [t] | none => []) ++ xTmps o.op.xs

def AOper.writes (z x : AOper) : Bool :=
  match z.dst with
  | some d => x.names.contains d
  | none => false

def setDst (d : Option Nat) (e : Env) (v : AV) : Env :=
  match d with
  | some d => e.set d v
  | none => e

/-- Is an operation to be done? -/
def wantedA (g : Option (Nat × Bool)) (e : Env) : Option Bool :=
  match g with
  | none => some true
  | some (t, want) => match e[t]? with
    | some (.bool b) => some (b == want)
    | some (.tup []) => some false
    | _ => none

section
variable (g : Task → St → Option Res)

/-- One operation, done: how it ends. -/
def doOp (o : AOper) (fr : Fr) (st : St) : Option Res :=
  match wantedA o.guard fr.env with
  | none => none
  | some false => some ⟨.nrm, { fr with env := setDst o.dst fr.env .undef }, st⟩
  | some true => match opA o.op fr.env st with
    | none => none
    | some (.val v st') => some ⟨.nrm, { fr with env := setDst o.dst fr.env v }, st'⟩
    | some (.pan v) => some ⟨.pan v, fr, st⟩
    | some (.defer d) => some ⟨.nrm, { env := setDst o.dst fr.env .undef, defs := d :: fr.defs }, st⟩
    | some (.call f args) => match g (.call f args) st with
      | some ⟨.ret, ⟨[v], _⟩, st'⟩ => some ⟨.nrm, { fr with env := setDst o.dst fr.env v }, st'⟩
      | some ⟨.pan v, _, st'⟩ => some ⟨.pan v, fr, st'⟩
      | _ => none
    | some (.round r args) => match g (.round r args) st with
      | some ⟨.ret, ⟨[v], _⟩, st'⟩ => some ⟨.nrm, { fr with env := setDst o.dst fr.env v }, st'⟩
      | some ⟨.pan v, _, st'⟩ => some ⟨.pan v, fr, st'⟩
      | _ => none

def doOps : List AOper → Fr → St → Option Res
  | [], fr, st => some ⟨.nrm, fr, st⟩
  | o :: os, fr, st => match doOp g o fr st with
    | some ⟨.nrm, fr', st'⟩ => doOps os fr' st'
    | r => r

/-- A read that was done before: does it read the same now? -/
def reOk (o : AOper) (fr : Fr) (st : St) : Bool :=
  match wantedA o.guard fr.env with
  | some true => match opA o.op fr.env st, o.dst with
    | some (.val v _), some d => AV.beq v (fr.env.getD d .undef)
    | _, _ => false
  | some false => true
  | none => false

/-- What a step has read again reads the same. -/
def reAll (all : List AStep) (re : List Nat) (fr : Fr) (st : St) : Bool :=
  re.all fun j => match all.find? fun q => q.i == j with
    | some q => reOk q.o fr st
    | none => false

def doSteps (all : List AStep) : List AStep → Fr → St → Option Res
  | [], fr, st => some ⟨.nrm, fr, st⟩
  | s :: ss, fr, st => match doOp g s.o fr st with
    | some ⟨.nrm, fr', st'⟩ => if reAll all s.re fr' st' then doSteps all ss fr' st' else none
    | r => r

/-- Where the rounds' deferred calls would go: a mark, at an outermost loop. -/
def rangeStart (rnd : Option Nat) (st : St) : Option (Nat × List ADef × St) :=
  match rnd with
  | some l => match st[l]? with
    | some (.loop _ _ _ _ _ _ d) => some (d, [], st)
    | _ => none
  | none => some (st.length, [.collected st.length], st ++ [.defr (some [])])

def pendEx : Option APend → AEx
  | none => .nrm
  | some .ret => .ret
  | some (.exit id) => .exit id

/-- Behind the call of a range over a function. -/
def rangeEnd (l : Nat) (fr : Fr) (mark : List ADef) : Option Res → Option Res
  | some ⟨.ret, _, st2⟩ => match st2[l]? with
    | some (.loop s pend f' site' ps env' d') =>
      if s = .busy then none else
      some ⟨pendEx pend, ⟨fr.env, mark ++ fr.defs⟩, st2.set l (.loop .exhausted pend f' site' ps env' d')⟩
    | _ => none
  | some ⟨.pan v, _, st2⟩ => some ⟨.pan v, ⟨fr.env, mark ++ fr.defs⟩, st2⟩
  | _ => none

/-- Code, of a function, in a round or not; calls, rounds and loops by 'g'. -/
def exec (fn : FuncId) (rnd : Option Nat) : ACode → Fr → St → Option Res
  | .skip, fr, st => some ⟨.nrm, fr, st⟩
  | .reg ops, fr, st => doOps g ops fr st
  | .plan ss, fr, st => doSteps g ss ss fr st
  | .seq a b, fr, st => match exec fn rnd a fr st with
    | some ⟨.nrm, fr', st'⟩ => exec fn rnd b fr' st'
    | r => r
  | .cond c a b, fr, st => match c.ev fr.env with
    | .bool t => if t then exec fn rnd a fr st else exec fn rnd b fr st
    | _ => none
  | .block id a, fr, st => match exec fn rnd a fr st with
    | some ⟨.exit j, fr', st'⟩ => some ⟨if j = id then .nrm else .exit j, fr', st'⟩
    | r => r
  | .loop a, fr, st => g (.loop fn rnd a fr) st
  | .exit id, fr, st => some ⟨.exit id, fr, st⟩
  | .ret, fr, st => some ⟨.ret, fr, st⟩
  | .rangeFunc f params site, fr, st => match f.ev fr.env with
    | .func (.func h) first cap => match rangeStart rnd st with
      | none => none
      | some (d, mark, st1) =>
        rangeEnd st1.length fr mark (g (.seqc h (first ++ [.func (.yield st1.length) [] []] ++ cap)) (st1 ++ [.loop .ready none fn site params fr.env d]))
    | _ => none
end

/-- A variable that stays, read. -/
def readStill (m : Nat) (agg : Bool) (v : AV) : Option AV :=
  if agg then (match v with
    | .agg cs => if cs.length = m then some v else none
    | _ => none)
  else (if v.isCell then some v else none)

/-- What a function hands back: its result variables. -/
def resA (st : St) (e : Env) : ARes → Option AV
  | .tmp i => some (e.getD i .undef)
  | .cell i m agg => match e.getD i .undef with
    | .ptr r off => match st[r]? with
      | some (.cells ty cs) => takeVar m agg cs off
      | _ => none
    | .iptr v => readStill m agg v
    | _ => none

def resultsA (st : St) (e : Env) : List ARes → Option (List AV)
  | [] => some []
  | r :: rs => match resA st e r, resultsA st e rs with
    | some v, some vs => some (v :: vs)
    | _, _ => none

def oneOf : List AV → AV
  | [v] => v
  | vs => .tup vs

mutual
/-- No reference from n on. -/
def AV.lowB (n : Nat) : AV → Bool
  | .agg cs => AV.lowsB n cs
  | .tup vs => AV.lowsB n vs
  | .func fn a b => (match fn with | .yield r => decide (r < n) | _ => true) && AV.lowsB n a && AV.lowsB n b
  | .iface _ v => AV.lowB n v
  | .lst _ es ap => AV.lowsB n es && (match ap with | .tok id => decide (id < n) | _ => true)
  | .sl r _ _ _ _ => decide (r < n)
  | .ptr r _ => decide (r < n)
  | .iptr v => AV.lowB n v
  | .map r => decide (r < n)
  | _ => true
def AV.lowsB (n : Nat) : List AV → Bool
  | [] => true
  | v :: vs => AV.lowB n v && AV.lowsB n vs
end

def ADef.lowB (n : Nat) : ADef → Bool
  | .collected r => decide (r < n)
  | .call _ args => AV.lowsB n args

def AObj.lowB (n : Nat) : AObj → Bool
  | .dead => true
  | .cells _ cs => AV.lowsB n cs
  | .tok _ _ _ => true
  | .map es => es.all fun e => AV.lowB n e.1 && AV.lowB n e.2
  | .loop _ _ _ _ _ env d => AV.lowsB n env && decide (d < n)
  | .defr none => true
  | .defr (some ds) => ds.all (ADef.lowB n)

mutual
/-- What is made since n, made still: its content in place of it. -/
def AV.still (n : Nat) (st : St) : AV → Option AV
  | .agg cs => (AV.stills n st cs).map .agg
  | .tup vs => (AV.stills n st vs).map .tup
  | .lst m es ap => (AV.stills n st es).map fun es => .lst m es (match ap with | .tok id => if id < n then .tok id else .no | a => a)
  | .sl r m off len cap => if r < n then some (.sl r m off len cap) else
    match st[r]? with
    | some (.cells ty cs) => if off + len * m ≤ cs.length ∧ AV.lowsB n cs = true then some (.lst m (group m (m != 1) len (cs.drop off)) .no) else none
    | _ => none
  | v => if AV.lowB n v then some v else none
def AV.stills (n : Nat) (st : St) : List AV → Option (List AV)
  | [] => some []
  | v :: vs => match AV.still n st v, AV.stills n st vs with
    | some v, some vs => some (v :: vs)
    | _, _ => none
end

/-- What a call leaves: what it made itself is forgotten. -/
def settle (n : Nat) (v : AV) (st : St) : Option (AV × St) :=
  match AV.still n st v with
  | some v' => if (st.take n).all (AObj.lowB n) then some (v', st.take n) else none
  | none => none

/-- The deferred calls of a frame that leaves: marks alone. -/
def runDefs : List ADef → St → Option St
  | [], st => some st
  | .collected r :: ds, st => match st[r]? with
    | some (.defr (some [])) => runDefs ds (st.set r (.defr none))
    | _ => none
  | .call _ _ :: _, _ => none

/-- A function's call, done through its code. -/
def callFn (A : AProg) (g : Task → St → Option Res) (f : FuncId) (args : List AV) (st : St) : Option Res :=
  match A.fn f with
  | none => none
  | some F =>
    match exec g f none F.body ⟨args ++ List.replicate (F.ntmps - args.length) .undef, []⟩ st with
    | none => none
    | some ⟨x, fr, st'⟩ => match runDefs fr.defs st' with
      | none => none
      | some st'' => match x with
        | .pan v => some ⟨.pan v, ⟨[], []⟩, st''⟩
        | .exit _ => none
        | _ => match resultsA st'' fr.env F.results with
          | none => none
          | some vs =>
            if F.keep then some ⟨.ret, ⟨[oneOf vs], []⟩, st''⟩ else
            match settle st.length (oneOf vs) st'' with
            | some (v, st3) => some ⟨.ret, ⟨[v], []⟩, st3⟩
            | none => none

/-- A round's end. -/
def roundEnd (r : Nat) : Option Res → Option Res
  | some ⟨x, ⟨_, []⟩, st2⟩ => match st2[r]? with
    | some (.loop _ _ f2 site2 ps2 env2 d2) => match x with
      | .nrm => some ⟨.ret, ⟨[.bool true], []⟩, st2.set r (.loop .ready none f2 site2 ps2 env2 d2)⟩
      | .ret => some ⟨.ret, ⟨[.bool false], []⟩, st2.set r (.loop .done (some .ret) f2 site2 ps2 env2 d2)⟩
      | .exit id => some ⟨.ret, ⟨[.bool false], []⟩, st2.set r (.loop .done (some (.exit id)) f2 site2 ps2 env2 d2)⟩
      | .pan _ => none
    | _ => none
  | _ => none

/-- A round. -/
def roundFn (A : AProg) (g : Task → St → Option Res) (r : Nat) (args : List AV) (st : St) : Option Res :=
  match st[r]? with
  | some (.loop .ready _ f site ps env _) => match A.fn f with
    | none => none
    | some F => match F.sites[site]? with
      | none => none
      | some (asg, body) =>
        if args.length = ps.length then
          match exec g f (some r) asg ⟨(ps.zip args).foldl (fun e (t, a) => e.set t a) env, []⟩ st with
          | some ⟨.nrm, fr, st1⟩ => match st1[r]? with
            | some (.loop .ready pend1 f1 site1 ps1 env1 d1) => roundEnd r (exec g f (some r) body fr (st1.set r (.loop .busy pend1 f1 site1 ps1 env1 d1)))
            | _ => none
          | _ => none
        else none
  | _ => none

/-- One layer. -/
def layer (A : AProg) (g : Task → St → Option Res) : Task → St → Option Res
  | .call f args, st =>
    match A.prim f with
    | some h => match h args st with
      | some (.ret v, st') => some ⟨.ret, ⟨[v], []⟩, st'⟩
      | some (.pan v, st') => some ⟨.pan v, ⟨[], []⟩, st'⟩
      | none => none
    | none => callFn A g f args st
  | .seqc f args, st =>
    match A.prim f with
    | some _ => none
    | none => callFn A g f args st
  | .round r args, st => roundFn A g r args st
  | .loop f rnd body fr, st =>
    match exec g f rnd body fr st with
    | some ⟨.nrm, fr', st'⟩ => g (.loop f rnd body fr') st'
    | r => r

def runA (A : AProg) : Nat → Task → St → Option Res
  | 0 => fun _ _ => none
  | n + 1 => layer A (runA A n)

end Go.Proofs.YtfkmdajlpnkebaaDoor.Ai
