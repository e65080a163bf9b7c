/- Part Ea. No condition. -/
import GoSem.Step
import Derived.Laws.Sem
import Derived.Calls
set_option linter.unusedVariables false
set_option linter.unusedSimpArgs false
namespace Go.Proofs.YtgkhmmlemgikjaaGreatDoor.Ai
open Go
inductive Ap where
 | no
 | tight
 | tok (id:Nat)
 deriving DecidableEq,Inhabited
inductive AV where
 | bool (b:Bool)
 | int (k:IntKind) (n:Int)
 | str (s:List UInt8)
 | agg (cs:List AV)
 | tup (vs:List AV)
 | func (fn:Fn) (first cap:List AV)
 | nilFunc
 | iface (t:TypeId) (v:AV)
 | nilIface
 | lst (m:Nat) (es:List AV) (ap:Ap)
 | sl (r m off len:Nat) (cap:Option Nat)
 | ptr (r off:Nat)
 | iptr (v:AV)
 | nilPtr
 | map (r:Nat)
 | nilMap
 | nilSl
 | any
 deriving Inhabited
def AV.undef:AV:=.tup []
def AV.isCell:AV→Bool
 | .agg _ | .tup _=>false
 | _=>true
def AV.cells:AV→List AV
 | .agg cs=>cs
 | v=>[v]
mutual
def AV.beq:AV→AV→Bool
 | .bool a,.bool b=>a == b
 | .int k a,.int l b=>k == l && a == b
 | .str a,.str b=>a == b
 | .agg a,.agg b=>AV.beqs a b
 | .tup a,.tup b=>AV.beqs a b
 | .func f a b,.func g c d=>f == g && AV.beqs a c && AV.beqs b d
 | .nilFunc,.nilFunc=>true
 | .iface t v,.iface u w=>t == u && AV.beq v w
 | .nilIface,.nilIface=>true
 | .lst m a p,.lst n b q=>m == n && AV.beqs a b && p == q
 | .sl a b c d e,.sl a' b' c' d' e'=>a == a' && b == b' && c == c' && d == d' && e == e'
 | .ptr a b,.ptr c d=>a == c && b == d
 | .iptr a,.iptr b=>AV.beq a b
 | .nilPtr,.nilPtr=>true
 | .map a,.map b=>a == b
 | .nilMap,.nilMap=>true
 | .nilSl,.nilSl=>true
 | .any,.any=>true
 | _,_=>false
def AV.beqs:List AV→List AV→Bool
 | [],[]=>true
 | a::x,b::y=>AV.beq a b && AV.beqs x y
 | _,_=>false
end
inductive APend where
 | ret
 | exit (id:Nat)
 deriving DecidableEq,Inhabited
inductive ADef where
 | collected (r:Nat)
 | call (f:FuncId) (args:List AV)
 deriving Inhabited
inductive AObj where
 | dead
 | cells (ty:Option TypeId) (cs:List AV)
 | tok (m len:Nat) (ty:Option TypeId)
 | map (es:List (AV×AV))
 | loop (s:LoopState) (pend:Option APend) (f:FuncId) (site:Nat) (params:List Nat) (env:List AV) (defs:Nat)
 | defr (calls:Option (List ADef))
 deriving Inhabited
abbrev St:=List AObj
abbrev Env:=List AV
inductive AX where
 | t (i:Nat)
 | k (v:AV)
 deriving Inhabited
inductive AOp where
 | mov (x:AX)
 | movT (x:AX)
 | pick (c a b:AX)
 | new (zero:AV) (mu:Bool) (ty:Option TypeId)
 | box (m:Nat) (x:AX) (mu:Bool)
 | boxT (T:TypeId) (m:Nat) (x:AX)
 | build (zero:List AV) (parts:List (Nat×Nat×AX))
 | mkLit (m:Nat) (zero:List AV) (parts:List (Nat×Nat×AX)) (mu:Bool)
 | load (m:Nat) (agg:Bool) (a:AX)
 | store (m:Nat) (a x:AX)
 | nilCheck (x:AX)
 | bin (op:BinOp) (x y:AX)
 | eqBool (neg:Bool) (x y:AX)
 | eqAgg (ks:List Nat) (neg:Bool) (x y:AX)
 | eqPtr (neg:Bool) (x y:AX)
 | eqIface (neg:Bool) (x y:AX)
 | un (op:UnOp) (x:AX)
 | convInt (k:IntKind) (x:AX)
 | convSame (x:AX)
 | convBytes (mu:Bool) (x:AX)
 | convStr (x:AX)
 | mkIface (t:TypeId) (x:AX)
 | mkFunc (f:FuncId) (first cap:List AX)
 | mkMap
 | mkSlice (m bytes:Nat) (zero:List AV) (l c:AX) (tok:Bool)
 | sliceStr (x:AX) (lo hi:Option AX)
 | sliceLst (m:Nat) (x:AX) (lo hi max:Option AX)
 | sliceArr (n m:Nat) (x:AX) (lo hi:Option AX)
 | fieldAddr (off size:Nat) (agg:Bool) (x:AX)
 | field (off size:Nat) (agg:Bool) (x:AX)
 | indexAddr (m:Nat) (agg:Bool) (arr:Option Nat) (x i:AX)
 | indexStr (x i:AX)
 | indexArr (n m:Nat) (agg:Bool) (x i:AX)
 | lookup (kd:Nat) (zero:AV) (ok:Bool) (x i:AX)
 | mapUpdate (kd:Nat) (x i v:AX)
 | extract (x:AX) (i:Nat)
 | assertT (t:TypeId) (zero:AV) (ok:Bool) (x:AX)
 | call (f:AX) (args:List AX)
 | lenStr (x:AX)
 | lenSl (x:AX)
 | lenMap (x:AX)
 | lenArr (n:Nat)
 | append (m bytes:Nat) (ty:Option TypeId) (x y:AX)
 | copy (m:Nat) (x y:AX)
 | appendM (m bytes:Nat) (x y:AX)
 | clearSl (m:Nat) (zero:List AV) (x:AX)
 | minmax (isMax:Bool) (xs:List AX)
 | panic (x:AX)
 | defer (f:AX) (args:List AX)
 | recover
 | valloc (m:Nat)
 | vbox (m d:Nat) (x:AX)
 deriving Inhabited
structure AOper where
 dst:Option Nat
 op:AOp
 guard:Option (Nat×Bool)
 deriving Inhabited
structure AStep where
 i:Nat
 o:AOper
 re:List Nat
 deriving Inhabited
inductive ACode where
 | skip
 | reg (ops:List AOper)
 | plan (steps:List AStep)
 | seq (a b:ACode)
 | cond (c:AX) (a b:ACode)
 | block (id:Nat) (a:ACode)
 | loop (a:ACode)
 | exit (id:Nat)
 | ret
 | rangeFunc (f:AX) (params:List Nat) (site:Nat)
 deriving Inhabited
inductive ARes where
 | tmp (i:Nat)
 | cell (i m:Nat) (agg:Bool)
 deriving Inhabited
structure AFunc where
 ntmps:Nat
 results:List ARes
 body:ACode
 sites:List (ACode×ACode)
 keep:Bool
 deriving Inhabited
inductive AOut where
 | ret (v:AV)
 | pan (v:AV)
 deriving Inhabited
structure AProg where
 fn:FuncId→Option AFunc
 prim:FuncId→Option (List AV→St→Option (AOut×St))
inductive AEx where
 | nrm
 | exit (id:Nat)
 | ret
 | pan (v:AV)
 deriving Inhabited
structure Fr where
 env:Env
 defs:List ADef
 deriving Inhabited
inductive Task where
 | call (f:FuncId) (args:List AV)
 | seqc (f:FuncId) (args:List AV)
 | round (r:Nat) (args:List AV)
 | loop (f:FuncId) (rnd:Option Nat) (body:ACode) (fr:Fr)
structure Res where
 x:AEx
 fr:Fr
 st:St
 deriving Inhabited
def AX.ev (e:Env):AX→AV
 | .t i=>e.getD i .undef
 | .k v=>v
inductive Nx where
 | val (v:AV) (st:St)
 | call (f:FuncId) (args:List AV)
 | round (r:Nat) (args:List AV)
 | pan (v:AV)
 | defer (d:ADef)
def takeVar (m:Nat) (agg:Bool) (cs:List AV) (off:Nat):Option AV :=
 if agg then (if off+m≤cs.length then some (.agg ((cs.drop off).take m)) else none)
 else cs[off]?
def putCells:List AV→Nat→List AV→List AV
 | cs,_,[]=>cs
 | cs,off,v::vs=>putCells (cs.set off v) (off+1) vs
def fillA:List AV→List (Nat×Nat×AV)→Option (List AV)
 | cs,[]=>some cs
 | cs,(off,size,v)::rest =>
  if v.cells.length=size∧off+size≤cs.length∧v.cells.all AV.isCell=true then fillA (putCells cs off v.cells) rest else none
def group (m:Nat) (agg:Bool):Nat→List AV→List AV
 | 0,_=>[]
 | n+1,cs=>(if agg then .agg (cs.take m) else cs.headD .undef)::group m agg n (cs.drop m)
def flat:List AV→List AV
 | []=>[]
 | e::es=>e.cells++flat es
def sameKey:AV→AV→Option Bool
 | .int k a,.int l b=>if k=l then some (a == b) else none
 | .str a,.str b=>some (a == b)
 | .bool a,.bool b=>some (a == b)
 | _,_=>none
def keyKind:AV→Nat
 | .int _ _=>0
 | .str _=>1
 | .bool _=>2
 | _=>3
def findKey (k:AV):List (AV×AV)→Nat→Option (Option (Nat×AV))
 | [],_=>some none
 | e::es,i =>
  match sameKey k e.1 with
  | some true=>some (some (i,e.2))
  | some false=>findKey k es (i+1)
  | none=>none
def aInt:AV→Option Int
 | .int _ n=>some n
 | _=>none
def intOp (op:BinOp) (k:IntKind) (x y:Int):Option AV :=
 match op with
 | .add=>some (.int k (k.wrap (x+y)))
 | .sub=>some (.int k (k.wrap (x-y)))
 | .mul=>some (.int k (k.wrap (x * y)))
 | .quo=>if y=0 then none else some (.int k (k.wrap (x.tdiv y)))
 | .rem=>if y=0 then none else some (.int k (x.tmod y))
 | .and=>some (.int k (k.wrap (BitVec.ofInt k.bits x &&& BitVec.ofInt k.bits y).toNat))
 | .or=>some (.int k (k.wrap (BitVec.ofInt k.bits x ||| BitVec.ofInt k.bits y).toNat))
 | .xor=>some (.int k (k.wrap (BitVec.ofInt k.bits x ^^^ BitVec.ofInt k.bits y).toNat))
 | .andNot=>some (.int k (k.wrap (BitVec.ofInt k.bits x &&& ~~~ BitVec.ofInt k.bits y).toNat))
 | .eql=>some (.bool (x == y))
 | .neq=>some (.bool (x != y))
 | .lss=>some (.bool (decide (x<y)))
 | .leq=>some (.bool (decide (x≤y)))
 | .gtr=>some (.bool (decide (x > y)))
 | .geq=>some (.bool (decide (x ≥ y)))
 | _=>none
def shiftOp (op:BinOp) (k:IntKind) (x y:Int):Option AV :=
 if y<0 then none else
 match op with
 | .shl=>some (.int k (k.wrap (x * 2 ^ (min y.toNat k.bits))))
 | .shr=>some (.int k (x.fdiv (2 ^ (min y.toNat k.bits))))
 | _=>none
def bytesLess:List UInt8→List UInt8→Bool
 | _,[]=>false
 | [],_::_=>true
 | a::x,b::y=>decide (a<b) || (a == b && bytesLess x y)
def strOp (op:BinOp) (x y:List UInt8):Option AV :=
 match op with
 | .add=>if x.length+y.length≤281474976710656 then some (.str (x++y)) else none
 | .eql=>some (.bool (x == y))
 | .neq=>some (.bool (!(x == y)))
 | .lss=>some (.bool (bytesLess x y))
 | .leq=>some (.bool (bytesLess x y || x == y))
 | .gtr=>some (.bool (!(bytesLess x y || x == y)))
 | .geq=>some (.bool (!bytesLess x y))
 | _=>none
def binA (op:BinOp):AV→AV→Option AV
 | .int k x,.int l y =>
  match op with
  | .shl=>shiftOp .shl k x y
  | .shr=>shiftOp .shr k x y
  | _=>if k=l then intOp op k x y else none
 | .str x,.str y=>strOp op x y
 | _,_=>none
def eqCells:List Nat→List AV→List AV→Option Bool
 | [],[],[]=>some true
 | k::ks,a::x,b::y=>if keyKind a=k then (match sameKey a b with
  | some true=>eqCells ks x y
  | some false=>some false
  | none=>none) else none
 | _,_,_=>none
def unA (op:UnOp):AV→Option AV
 | .int k n=>match op with
  | .neg=>some (.int k (k.wrap (0-n)))
  | .xor=>some (.int k (k.wrap (BitVec.ofInt k.bits (if k.signed then -1 else k.max) ^^^ BitVec.ofInt k.bits n).toNat))
  | _=>none
 | .bool b=>match op with
  | .not=>some (.bool (!b))
  | _=>none
 | _=>none
def bound (o:Option AV) (dflt top:Nat):Option Nat :=
 match o with
 | none=>some dflt
 | some (.int _ i)=>if 0≤i∧i≤(top:Int) then some i.toNat else none
 | _=>none
def minmaxA (isMax:Bool):AV→List AV→Option AV
 | v,[]=>some v
 | .int k x,.int l y::rest=>if k=l then minmaxA isMax (.int k (if isMax then (if y > x then y else x) else (if y<x then y else x))) rest else none
 | _,_=>none
def great:Nat:=274877906944
def byteV (b:UInt8):AV:=.int .u8 b.toNat
def ofBytes:List AV→Option (List UInt8)
 | []=>some []
 | .int .u8 n::r=>if 0≤n∧n<256 then (ofBytes r).map (UInt8.ofNat n.toNat::·) else none
 | _=>none
def tokIs (st:St) (id m n:Nat):Bool :=
 match st[id]? with
 | some (.tok m' n' _)=>m' == m && n' == n
 | _=>false
def tokTy (st:St) (id:Nat):Option TypeId :=
 match st[id]? with
 | some (.tok _ _ ty)=>ty
 | _=>none
def elemsOf (st:St) (m:Nat):AV→Option (List AV)
 | .lst m' es _=>if m'=m∨es=[] then some es else none
 | .str s=>if m=1 then some (s.map byteV) else none
 | .sl r m' off n _=>match st[r]? with
  | some (.cells ty cs)=>if m'=m∧off+n * m≤cs.length then some (group m (m != 1) n (cs.drop off)) else none
  | _=>none
 | _=>none
def mapOf (st:St):AV→Option (List (AV×AV))
 | .nilMap=>some []
 | .map r=>match st[r]? with
  | some (.map es)=>some es
  | _=>none
 | _=>none
def AV.asLst (m:Nat):AV→AV
 | .nilSl=>.lst m [] .tight
 | v=>v
def opA (o:AOp) (e:Env) (st:St):Option Nx :=
 match o with
 | .mov x=>some (.val (x.ev e) st)
 | .movT x=>match x.ev e with
  | .lst m [] .tight=>some (.val (.lst m [] (.tok st.length)) (st++[.tok m 0 none]))
  | _=>none
 | .pick c a b=>match c.ev e with
  | .bool t=>some (.val (if t then a.ev e else b.ev e) st)
  | _=>none
 | .new z mu ty=>if mu then some (.val (.ptr st.length 0) (st++[.cells ty z.cells])) else some (.val (.iptr z) st)
 | .boxT T m x =>
  let v:=x.ev e
  if v.cells.length=m∧v.cells.all AV.isCell=true then some (.val (.ptr st.length 0) (st++[.cells (some T) v.cells])) else none
 | .box m x mu =>
  let v:=x.ev e
  if v.cells.length=m∧v.cells.all AV.isCell=true then
   (if mu then some (.val (.ptr st.length 0) (st++[.cells none v.cells])) else some (.val (.iptr v) st))
  else none
 | .build zero parts=>(fillA zero (parts.map fun (o,s,x)=>(o,s,x.ev e))).map fun cs=>.val (.agg cs) st
 | .mkLit m zero parts mu=>(fillA zero (parts.map fun (o,s,x)=>(o,s,x.ev e))).map fun cs =>
   if mu then .val (.sl st.length m 0 (cs.length / m) (some (cs.length / m))) (st++[.cells none cs])
   else .val (.lst m (group m (m != 1) (cs.length / m) cs) .tight) st
 | .load m agg a=>match a.ev e with
  | .iptr v=>if agg then (match v with
    | .agg cs=>if cs.length=m then some (.val v st) else none
    | _=>none) else (if v.isCell then some (.val v st) else none)
  | .ptr r off=>match st[r]? with
   | some (.cells ty cs)=>(takeVar m agg cs off).map fun v=>.val v st
   | _=>none
  | _=>none
 | .store m a x=>match a.ev e with
  | .ptr r off=>match st[r]? with
   | some (.cells ty cs) =>
    let vs:=(x.ev e).cells
    if vs.length=m∧off+m≤cs.length∧vs.all AV.isCell=true then some (.val .undef (st.set r (.cells ty (putCells cs off vs)))) else none
   | _=>none
  | _=>none
 | .nilCheck x=>match x.ev e with
  | .ptr r o=>some (.val (.ptr r o) st)
  | .iptr v=>some (.val (.iptr v) st)
  | .func fn a b=>some (.val (.func fn a b) st)
  | _=>none
 | .bin op x y=>(binA op (x.ev e) (y.ev e)).map fun v=>.val v st
 | .eqBool neg x y=>match x.ev e,y.ev e with
  | .bool a,.bool b=>some (.val (.bool (if neg then !(a == b) else a == b)) st)
  | _,_=>none
 | .eqAgg ks neg x y=>match x.ev e,y.ev e with
  | .agg a,.agg b=>(eqCells ks a b).map fun t=>.val (.bool (if neg then !t else t)) st
  | _,_=>none
 | .eqPtr neg x y=>match x.ev e,y.ev e with
  | .nilPtr,.nilPtr=>some (.val (.bool (!neg)) st)
  | .nilPtr,.ptr _ _=>some (.val (.bool neg) st)
  | .ptr _ _,.nilPtr=>some (.val (.bool neg) st)
  | .nilPtr,.iptr _=>some (.val (.bool neg) st)
  | .iptr _,.nilPtr=>some (.val (.bool neg) st)
  | _,_=>none
 | .eqIface neg x y=>match x.ev e,y.ev e with
  | .nilIface,.nilIface=>some (.val (.bool (!neg)) st)
  | .nilIface,.iface _ _=>some (.val (.bool neg) st)
  | .iface _ _,.nilIface=>some (.val (.bool neg) st)
  | _,_=>none
 | .un op x=>(unA op (x.ev e)).map fun v=>.val v st
 | .convInt k x=>match x.ev e with
  | .int _ n=>some (.val (.int k (k.wrap n)) st)
  | _=>none
 | .convSame x=>match x.ev e with
  | .str s=>some (.val (.str s) st)
  | _=>none
 | .convBytes mu x=>match x.ev e with
  | .str s=>if mu then some (.val (.sl st.length 1 0 s.length none) (st++[.cells none (s.map byteV)])) else some (.val (.lst 1 (s.map byteV) .no) st)
  | _=>none
 | .convStr x=>match x.ev e with
  | .lst m es _=>if m=1 then (ofBytes es).map fun s=>.val (.str s) st else none
  | .sl r m off n _=>match st[r]? with
   | some (.cells ty cs)=>if m=1∧off+n≤cs.length then (ofBytes ((cs.drop off).take n)).map fun s=>.val (.str s) st else none
   | _=>none
  | _=>none
 | .mkIface t x=>some (.val (.iface t (x.ev e)) st)
 | .mkFunc f first cap=>some (.val (.func (.func f) (first.map (AX.ev e)) (cap.map (AX.ev e))) st)
 | .mkMap=>some (.val (.map st.length) (st++[.map []]))
 | .mkSlice m bytes zero l c tok=>match aInt (l.ev e),aInt (c.ev e) with
  | some l,some c =>
   if 0≤l∧l≤c∧c≤(great:Int)∧bytes≤1024∧m=zero.length then
    (if tok then (if l = 0 then some (.val (.lst m [] (.tok st.length)) (st ++ [.tok m 0 none])) else none)
     else if l=c then some (.val (.sl st.length m 0 l.toNat (some l.toNat)) (st++[.cells none ((List.replicate l.toNat zero).flatten)])) else none)
   else none
  | _,_=>none
 | .sliceStr x lo hi=>match x.ev e with
  | .str s=>(bound (hi.map (AX.ev e)) s.length s.length).bind fun h=>(bound (lo.map (AX.ev e)) 0 h).map fun l=>.val (.str ((s.take h).drop l)) st
  | _=>none
 | .sliceLst m x lo hi max=>match x.ev e with
  | .lst m' es ap =>
   if m'=m∨es=[] then
    match max with
    | some mx =>
     (bound (some (mx.ev e)) 0 es.length).bind fun c=>(bound (hi.map (AX.ev e)) 0 c).bind fun h=>(bound (lo.map (AX.ev e)) 0 h).bind fun l =>
      if hi.isSome then some (.val (.lst m ((es.take h).drop l) (if h=c then .tight else .no)) st) else none
    | none =>
     (bound (hi.map (AX.ev e)) es.length es.length).bind fun h=>(bound (lo.map (AX.ev e)) 0 h).map fun l =>
      .val (.lst m ((es.take h).drop l) (if h=es.length∧ap=.tight then .tight else .no)) st
   else none
  | .sl r m' off n cap =>
   if m'=m∧max.isNone then
    match cap with
    | some c=>(bound (hi.map (AX.ev e)) n c).bind fun h=>(bound (lo.map (AX.ev e)) 0 h).bind fun l =>
      if l<c then some (.val (.sl r m (off+l * m) (h-l) (some (c-l))) st)
      else some (.val (.lst m [] .tight) st)
    | none=>(bound (hi.map (AX.ev e)) n n).bind fun h=>(bound (lo.map (AX.ev e)) 0 h).bind fun l =>
      if l<n then some (.val (.sl r m (off+l * m) (h-l) none) st)
      else some (.val (.lst m [] .no) st)
   else none
  | _=>none
 | .sliceArr n m x lo hi=>match x.ev e with
  | .ptr r off=>match st[r]? with
   | some (.cells _ cs)=>if off+n * m≤cs.length then (bound (hi.map (AX.ev e)) n n).bind fun h=>(bound (lo.map (AX.ev e)) 0 h).bind fun l =>
     if l<n then some (.val (.sl r m (off+l * m) (h-l) (some (n-l))) st)
     else some (.val (.lst m [] .tight) st) else none
   | _=>none
  | _=>none
 | .fieldAddr off size agg x=>match x.ev e with
  | .ptr r o=>some (.val (.ptr r (o+off)) st)
  | .iptr (.agg cs)=>(takeVar size agg cs off).map fun v=>.val (.iptr v) st
  | _=>none
 | .field off size agg x=>match x.ev e with
  | .agg cs=>(takeVar size agg cs off).map fun v=>.val v st
  | _=>none
 | .indexAddr m agg arr x i=>match aInt (i.ev e) with
  | none=>none
  | some i=>if i<0 then none else
   match arr,x.ev e with
   | some n,.ptr r off=>if i<(n:Int) then some (.val (.ptr r (off+i.toNat * m)) st) else none
   | some n,.iptr (.agg cs)=>if i<(n:Int) then (takeVar m agg cs (i.toNat * m)).map fun v=>.val (.iptr v) st else none
   | none,.lst m' es _=>if m'=m then (es[i.toNat]?).map fun v=>.val (.iptr v) st else none
   | none,.sl r m' off n _=>if m'=m∧i<(n:Int) then some (.val (.ptr r (off+i.toNat * m)) st) else none
   | _,_=>none
 | .indexStr x i=>match x.ev e,aInt (i.ev e) with
  | .str s,some i=>if i<0 then none else (s[i.toNat]?).map fun b=>.val (byteV b) st
  | _,_=>none
 | .indexArr n m agg x i=>match x.ev e,aInt (i.ev e) with
  | .agg cs,some i=>if 0≤i∧i<(n:Int) then (takeVar m agg cs (i.toNat * m)).map fun v=>.val v st else none
  | _,_=>none
 | .lookup kd zero ok x i =>
  if keyKind (i.ev e)=kd then
   (mapOf st (x.ev e)).bind fun es=>(findKey (i.ev e) es 0).map fun f =>
    let v:=match f with | some (_,v)=>v | none=>zero
    .val (if ok then .tup [v,.bool f.isSome] else v) st
  else none
 | .mapUpdate kd x i v=>match x.ev e with
  | .map r=>match st[r]? with
   | some (.map es)=>if keyKind (i.ev e)=kd then (findKey (i.ev e) es 0).bind fun f=>match f with
    | some (j,_)=>some (.val .undef (st.set r (.map (es.set j (i.ev e,v.ev e)))))
    | none=>some (.val .undef (st.set r (.map (es++[(i.ev e,v.ev e)])))) else none
   | _=>none
  | _=>none
 | .extract x i=>match x.ev e with
  | .tup vs=>(vs[i]?).map fun v=>.val v st
  | _=>none
 | .assertT t zero ok x=>match x.ev e with
  | .iface u v=>if u=t then some (.val (if ok then .tup [v,.bool true] else v) st) else (if ok then some (.val (.tup [zero,.bool false]) st) else none)
  | _=>none
 | .call f args=>match f.ev e with
  | .func (.func g) first cap=>some (.call g (first++args.map (AX.ev e)++cap))
  | .func (.yield r) [] []=>some (.round r (args.map (AX.ev e)))
  | _=>none
 | .lenStr x=>match x.ev e with
  | .str s=>some (.val (.int .i64 s.length) st)
  | _=>none
 | .lenSl x=>match (x.ev e).asLst 1 with
  | .lst _ es _=>some (.val (.int .i64 es.length) st)
  | .sl _ _ _ n _=>some (.val (.int .i64 n) st)
  | _=>none
 | .lenMap x=>(mapOf st (x.ev e)).map fun es=>.val (.int .i64 es.length) st
 | .lenArr n=>some (.val (.int .i64 n) st)
 | .append m bytes ty x y =>
  (elemsOf st m (y.ev e)).bind fun ys=>match (x.ev e).asLst m with
   | .lst m' es ap =>
    if (m'=m∨es=[])∧es.length+ys.length≤great∧bytes≤256 then
     match ap with
     | .tight=>if ys=[] then some (.val (.lst m es .tight) st) else some (.val (.lst m (es++ys) (.tok st.length)) (st++[.tok m (es.length+ys.length) ty]))
     | .tok id=>if tokIs st id m es.length then
       (if ys = [] then some (.val (.lst m es (.tok id)) st)
        else some (.val (.lst m (es++ys) (.tok id)) (st.set id (.tok m (es.length+ys.length) (if tokTy st id=ty then ty else none))))) else none
     | .no=>none
    else none
   | _=>none
 | .copy m x y=>match x.ev e with
  | .sl r m' off n _ =>
   (elemsOf st m (y.ev e)).bind fun ys=>match st[r]? with
    | some (.cells ty cs)=>if m'=m∧off+n * m≤cs.length then
      some (.val (.int .i64 (min ys.length n)) (st.set r (.cells ty (putCells cs off (flat (ys.take n)))))) else none
    | _=>none
  | _=>none
 | .appendM m bytes x y =>
  (elemsOf st m (y.ev e)).bind fun ys=>match (x.ev e).asLst m with
   | .lst _ [] .tight =>
    if ys.length≤great∧bytes≤256 then (if ys=[] then some (.val (.lst m [] .tight) st) else some (.val (.sl st.length m 0 ys.length none) (st++[.cells none (flat ys)]))) else none
   | .sl r m' 0 n cap=>match st[r]? with
    | some (.cells _ cs)=>if m'=m∧cs.length=n * m∧n+ys.length≤great∧bytes≤256 then
      (if ys=[] then some (.val (.sl r m 0 n cap) st) else some (.val (.sl st.length m 0 (n+ys.length) none) (st.set r .dead++[.cells none (cs++flat ys)]))) else none
    | _=>none
   | _=>none
 | .clearSl m zero x=>match (x.ev e).asLst m with
  | .lst _ [] _=>some (.val (.tup []) st)
  | .sl r m' off n _=>match st[r]? with
   | some (.cells ty cs)=>if m'=m∧zero.length=m∧off+n * m≤cs.length then some (.val (.tup []) (st.set r (.cells ty (putCells cs off (List.replicate n zero).flatten)))) else none
   | _=>none
  | _=>none
 | .minmax isMax xs=>match xs.map (AX.ev e) with
  | []=>none
  | v::vs=>(minmaxA isMax v vs).map fun v=>.val v st
 | .panic x=>match x.ev e with
  | .iface t v=>some (.pan (.iface t v))
  | _=>none
 | .defer y ys=>match y.ev e with
  | .func (.func f) first cap=>some (.defer (.call f (first++ys.map (AX.ev e)++cap)))
  | _=>none
 | .recover=>none
 | .valloc _=>some (.val .any st)
 | .vbox m d x=>match AX.ev e (.t d) with
  | .any =>
   let v:=x.ev e
   if v.cells.length=m∧v.cells.all AV.isCell=true then some (.val (.iptr v) st) else none
  | _=>none
def AOp.xs:AOp→List AX
 | .mov x | .movT x | .box _ x _ | .boxT _ _ x | .load _ _ x | .nilCheck x | .un _ x | .convInt _ x | .convSame x | .convBytes _ x | .convStr x | .mkIface _ x | .fieldAddr _ _ _ x | .field _ _ _ x | .extract x _
 | .assertT _ _ _ x | .lenStr x | .lenSl x | .lenMap x | .panic x=>[x]
 | .pick c a b=>[c,a,b]
 | .new _ _ _ | .mkMap | .lenArr _ | .recover | .valloc _=>[]
 | .vbox _ d x=>[x,.t d]
 | .build _ ps=>ps.map (·.2.2)
 | .mkLit _ _ ps _=>ps.map (·.2.2)
 | .store _ a x | .bin _ a x | .eqBool _ a x | .eqAgg _ _ a x | .eqPtr _ a x | .eqIface _ a x | .mkSlice _ _ _ a x _ | .indexAddr _ _ _ a x | .indexStr a x | .indexArr _ _ _ a x | .lookup _ _ _ a x
 | .append _ _ _ a x | .copy _ a x | .appendM _ _ a x=>[a,x]
 | .clearSl _ _ x=>[x]
 | .mkFunc _ a b=>a++b
 | .sliceStr x l h=>x::(l.toList++h.toList)
 | .sliceLst _ x l h m=>x::(l.toList++h.toList++m.toList)
 | .sliceArr _ _ x l h=>x::(l.toList++h.toList)
 | .mapUpdate _ x i v=>[x,i,v]
 | .call f as=>f::as
 | .minmax _ xs=>xs
 | .defer f as=>f::as
def AOp.cls:AOp→Nat
 | .load .. | .lookup .. | .lenMap _ | .convStr _ | .sliceArr ..=>1
 | .movT _ | .boxT .. | .store .. | .mkMap | .mkSlice .. | .mapUpdate .. | .call .. | .append .. | .copy .. | .appendM .. | .clearSl .. | .panic _ | .defer .. | .recover=>2
 | .new _ mu _ | .box _ _ mu | .mkLit _ _ _ mu | .convBytes mu _=>if mu then 2 else 0
 | _=>0
def xTmps:List AX→List Nat
 | []=>[]
 | .t i::xs=>i::xTmps xs
 | .k _::xs=>xTmps xs
def AOper.names (o:AOper):List Nat:=o.dst.toList++(match o.guard with | some (t,_)=>[t] | none=>[])++xTmps o.op.xs
def AOper.writes (z x:AOper):Bool :=
 match z.dst with
 | some d=>x.names.contains d
 | none=>false
def setDst (d:Option Nat) (e:Env) (v:AV):Env :=
 match d with
 | some d=>e.set d v
 | none=>e
def wantedA (g:Option (Nat×Bool)) (e:Env):Option Bool :=
 match g with
 | none=>some true
 | some (t,want)=>match e[t]? with
  | some (.bool b)=>some (b == want)
  | some (.tup [])=>some false
  | _=>none
section
variable (g:Task→St→Option Res)
def doOp (o:AOper) (fr:Fr) (st:St):Option Res :=
 match wantedA o.guard fr.env with
 | none=>none
 | some false=>some ⟨.nrm,{ fr with env:=setDst o.dst fr.env .undef },st⟩
 | some true=>match opA o.op fr.env st with
  | none=>none
  | some (.val v st')=>some ⟨.nrm,{ fr with env:=setDst o.dst fr.env v },st'⟩
  | some (.pan v)=>some ⟨.pan v,fr,st⟩
  | some (.defer d)=>some ⟨.nrm,{ env:=setDst o.dst fr.env .undef,defs:=d::fr.defs },st⟩
  | some (.call f args)=>match g (.call f args) st with
   | some ⟨.ret,⟨[v],_⟩,st'⟩=>some ⟨.nrm,{ fr with env:=setDst o.dst fr.env v },st'⟩
   | some ⟨.pan v,_,st'⟩=>some ⟨.pan v,fr,st'⟩
   | _=>none
  | some (.round r args)=>match g (.round r args) st with
   | some ⟨.ret,⟨[v],_⟩,st'⟩=>some ⟨.nrm,{ fr with env:=setDst o.dst fr.env v },st'⟩
   | some ⟨.pan v,_,st'⟩=>some ⟨.pan v,fr,st'⟩
   | _=>none
def doOps:List AOper→Fr→St→Option Res
 | [],fr,st=>some ⟨.nrm,fr,st⟩
 | o::os,fr,st=>match doOp g o fr st with
  | some ⟨.nrm,fr',st'⟩=>doOps os fr' st'
  | r=>r
def reOk (o:AOper) (fr:Fr) (st:St):Bool :=
 match wantedA o.guard fr.env with
 | some true=>match opA o.op fr.env st,o.dst with
  | some (.val v _),some d=>AV.beq v (fr.env.getD d .undef)
  | _,_=>false
 | some false=>true
 | none=>false
def reAll (all:List AStep) (re:List Nat) (fr:Fr) (st:St):Bool :=
 re.all fun j=>match all.find? fun q=>q.i == j with
  | some q=>reOk q.o fr st
  | none=>false
def doSteps (all:List AStep):List AStep→Fr→St→Option Res
 | [],fr,st=>some ⟨.nrm,fr,st⟩
 | s::ss,fr,st=>match doOp g s.o fr st with
  | some ⟨.nrm,fr',st'⟩=>if reAll all s.re fr' st' then doSteps all ss fr' st' else none
  | r=>r
def rangeStart (rnd:Option Nat) (st:St):Option (Nat×List ADef×St) :=
 match rnd with
 | some l=>match st[l]? with
  | some (.loop _ _ _ _ _ _ d)=>some (d,[],st)
  | _=>none
 | none=>some (st.length,[.collected st.length],st++[.defr (some [])])
def pendEx:Option APend→AEx
 | none=>.nrm
 | some .ret=>.ret
 | some (.exit id)=>.exit id
def rangeEnd (l:Nat) (fr:Fr) (mark:List ADef):Option Res→Option Res
 | some ⟨.ret,_,st2⟩=>match st2[l]? with
  | some (.loop s pend f' site' ps env' d') =>
   if s=.busy then none else
   some ⟨pendEx pend,⟨fr.env,mark++fr.defs⟩,st2.set l (.loop .exhausted pend f' site' ps env' d')⟩
  | _=>none
 | some ⟨.pan v,_,st2⟩=>some ⟨.pan v,⟨fr.env,mark++fr.defs⟩,st2⟩
 | _=>none
def exec (fn:FuncId) (rnd:Option Nat):ACode→Fr→St→Option Res
 | .skip,fr,st=>some ⟨.nrm,fr,st⟩
 | .reg ops,fr,st=>doOps g ops fr st
 | .plan ss,fr,st=>doSteps g ss ss fr st
 | .seq a b,fr,st=>match exec fn rnd a fr st with
  | some ⟨.nrm,fr',st'⟩=>exec fn rnd b fr' st'
  | r=>r
 | .cond c a b,fr,st=>match c.ev fr.env with
  | .bool t=>if t then exec fn rnd a fr st else exec fn rnd b fr st
  | _=>none
 | .block id a,fr,st=>match exec fn rnd a fr st with
  | some ⟨.exit j,fr',st'⟩=>some ⟨if j=id then .nrm else .exit j,fr',st'⟩
  | r=>r
 | .loop a,fr,st=>g (.loop fn rnd a fr) st
 | .exit id,fr,st=>some ⟨.exit id,fr,st⟩
 | .ret,fr,st=>some ⟨.ret,fr,st⟩
 | .rangeFunc f params site,fr,st=>match f.ev fr.env with
  | .func (.func h) first cap=>match rangeStart rnd st with
   | none=>none
   | some (d,mark,st1) =>
    rangeEnd st1.length fr mark (g (.seqc h (first++[.func (.yield st1.length) [] []]++cap)) (st1++[.loop .ready none fn site params fr.env d]))
  | _=>none
end
def readStill (m:Nat) (agg:Bool) (v:AV):Option AV :=
 if agg then (match v with
  | .agg cs=>if cs.length=m then some v else none
  | _=>none)
 else (if v.isCell then some v else none)
def resA (st:St) (e:Env):ARes→Option AV
 | .tmp i=>some (e.getD i .undef)
 | .cell i m agg=>match e.getD i .undef with
  | .ptr r off=>match st[r]? with
   | some (.cells ty cs)=>takeVar m agg cs off
   | _=>none
  | .iptr v=>readStill m agg v
  | _=>none
def resultsA (st:St) (e:Env):List ARes→Option (List AV)
 | []=>some []
 | r::rs=>match resA st e r,resultsA st e rs with
  | some v,some vs=>some (v::vs)
  | _,_=>none
def oneOf:List AV→AV
 | [v]=>v
 | vs=>.tup vs
mutual
def AV.lowB (n:Nat):AV→Bool
 | .agg cs=>AV.lowsB n cs
 | .tup vs=>AV.lowsB n vs
 | .func fn a b=>(match fn with | .yield r=>decide (r<n) | _=>true) && AV.lowsB n a && AV.lowsB n b
 | .iface _ v=>AV.lowB n v
 | .lst _ es ap=>AV.lowsB n es && (match ap with | .tok id=>decide (id<n) | _=>true)
 | .sl r _ _ _ _=>decide (r<n)
 | .ptr r _=>decide (r<n)
 | .iptr v=>AV.lowB n v
 | .map r=>decide (r<n)
 | _=>true
def AV.lowsB (n:Nat):List AV→Bool
 | []=>true
 | v::vs=>AV.lowB n v && AV.lowsB n vs
end
def ADef.lowB (n:Nat):ADef→Bool
 | .collected r=>decide (r<n)
 | .call _ args=>AV.lowsB n args
def AObj.lowB (n:Nat):AObj→Bool
 | .dead=>true
 | .cells _ cs=>AV.lowsB n cs
 | .tok _ _ _=>true
 | .map es=>es.all fun e=>AV.lowB n e.1 && AV.lowB n e.2
 | .loop _ _ _ _ _ env d=>AV.lowsB n env && decide (d<n)
 | .defr none=>true
 | .defr (some ds)=>ds.all (ADef.lowB n)
mutual
def AV.still (n:Nat) (st:St):AV→Option AV
 | .agg cs=>(AV.stills n st cs).map .agg
 | .tup vs=>(AV.stills n st vs).map .tup
 | .lst m es ap=>(AV.stills n st es).map fun es=>.lst m es (match ap with | .tok id=>if id<n then .tok id else .no | a=>a)
 | .sl r m off len cap=>if r<n then some (.sl r m off len cap) else
  match st[r]? with
  | some (.cells ty cs)=>if off+len * m≤cs.length∧AV.lowsB n cs=true then some (.lst m (group m (m != 1) len (cs.drop off)) .no) else none
  | _=>none
 | v=>if AV.lowB n v then some v else none
def AV.stills (n:Nat) (st:St):List AV→Option (List AV)
 | []=>some []
 | v::vs=>match AV.still n st v,AV.stills n st vs with
  | some v,some vs=>some (v::vs)
  | _,_=>none
end
def settle (n:Nat) (v:AV) (st:St):Option (AV×St) :=
 match AV.still n st v with
 | some v'=>if (st.take n).all (AObj.lowB n) then some (v',st.take n) else none
 | none=>none
def runDefs:List ADef→St→Option St
 | [],st=>some st
 | .collected r::ds,st=>match st[r]? with
  | some (.defr (some []))=>runDefs ds (st.set r (.defr none))
  | _=>none
 | .call _ _::_,_=>none
def env0 (args:List AV) (n:Nat):Env:=args++List.replicate (n-args.length) .undef
def defOut (F:AFunc) (n:Nat) (u:Option AV) (x:AEx) (e:Env) (st:St):Option (Option AV×St) :=
 match x with
 | .pan _=>none
 | .exit _=>none
 | _=>match resultsA st e F.results with
  | none=>none
  | some _=>if F.keep then some (u,st) else
   match settle n (u.getD .nilIface) st with
   | some (v,st3)=>some (u.map fun _=>v,st3)
   | none=>none
def defBody (g:Task→St→Option Res) (f:FuncId) (F:AFunc) (args:List AV) (u:Option AV) (st:St):Option Res×Option AV :=
 match F.body with
 | .seq (.reg [⟨some d,.recover,none⟩,⟨some d',.mov (.t d''),none⟩]) c=>if d''=d∧d<(env0 args F.ntmps).length then (exec g f none c ⟨((env0 args F.ntmps).set d (u.getD .nilIface)).set d' (u.getD .nilIface),[]⟩ st,none) else (none,none)
 | c=>(exec g f none c ⟨env0 args F.ntmps,[]⟩ st,u)
def callDef (A:AProg) (g:Task→St→Option Res) (f:FuncId) (args:List AV) (u:Option AV) (st:St):Option (Option AV×St) :=
 match A.fn f with
 | none=>none
 | some F=>match defBody g f F args u st with
  | (some ⟨x,⟨e,[]⟩,st'⟩,u')=>defOut F st.length u' x e st'
  | _=>none
def runCalls (A:AProg) (g:Task→St→Option Res):List ADef→Option AV→St→Option (Option AV×St)
 | [],u,st=>some (u,st)
 | .call f args::ds,u,st=>match callDef A g f args u st with
  | some (u',st')=>runCalls A g ds u' st'
  | none=>none
 | .collected _::_,_,_=>none
def modeOf:AEx→Option (Option AV)
 | .pan v=>some (some v)
 | .exit _=>none
 | _=>some none
def AOp.calm:AOp→Bool
 | .call _ _ | .panic _=>false
 | _=>true
def ACode.noPlan:ACode→Bool
 | .plan ss=>ss.all fun s=>s.o.op.calm
 | .seq a b | .cond _ a b=>a.noPlan && b.noPlan
 | .block _ a | .loop a=>a.noPlan
 | _=>true
def envGone (x:AEx) (c:ACode):Bool :=
 match x with
 | .pan _=>!c.noPlan
 | _=>false
def lastA (F:AFunc) (n:Nat) (x:AEx) (e:Env):Option AV×St→Option Res
 | (some v,st)=>some ⟨.pan v,⟨[],[]⟩,st⟩
 | (none,st)=>if envGone x F.body=true then none else match resultsA st e F.results with
  | none=>none
  | some vs =>
   if F.keep then some ⟨.ret,⟨[oneOf vs],[]⟩,st⟩ else
   match settle n (oneOf vs) st with
   | some (v,st3)=>some ⟨.ret,⟨[v],[]⟩,st3⟩
   | none=>none
def leaveD (A:AProg) (g:Task→St→Option Res) (F:AFunc) (n:Nat) (x:AEx) (fr:Fr) (st:St):Option Res :=
 match modeOf x with
 | none=>none
 | some u=>match runCalls A g fr.defs u st with
  | none=>none
  | some q=>lastA F n x fr.env q
def callFn (A:AProg) (g:Task→St→Option Res) (f:FuncId) (args:List AV) (st:St):Option Res :=
 match A.fn f with
 | none=>none
 | some F =>
  match exec g f none F.body ⟨args++List.replicate (F.ntmps-args.length) .undef,[]⟩ st with
  | none=>none
  | some ⟨x,fr,st'⟩=>match runDefs fr.defs st' with
   | none=>leaveD A g F st.length x fr st'
   | some st''=>match x with
    | .pan v=>some ⟨.pan v,⟨[],[]⟩,st''⟩
    | .exit _=>none
    | _=>match resultsA st'' fr.env F.results with
     | none=>none
     | some vs =>
      if F.keep then some ⟨.ret,⟨[oneOf vs],[]⟩,st''⟩ else
      match settle st.length (oneOf vs) st'' with
      | some (v,st3)=>some ⟨.ret,⟨[v],[]⟩,st3⟩
      | none=>none
def roundEnd (r:Nat):Option Res→Option Res
 | some ⟨x,⟨_,[]⟩,st2⟩=>match st2[r]? with
  | some (.loop _ _ f2 site2 ps2 env2 d2)=>match x with
   | .nrm=>some ⟨.ret,⟨[.bool true],[]⟩,st2.set r (.loop .ready none f2 site2 ps2 env2 d2)⟩
   | .ret=>some ⟨.ret,⟨[.bool false],[]⟩,st2.set r (.loop .done (some .ret) f2 site2 ps2 env2 d2)⟩
   | .exit id=>some ⟨.ret,⟨[.bool false],[]⟩,st2.set r (.loop .done (some (.exit id)) f2 site2 ps2 env2 d2)⟩
   | .pan _=>none
  | _=>none
 | _=>none
def roundFn (A:AProg) (g:Task→St→Option Res) (r:Nat) (args:List AV) (st:St):Option Res :=
 match st[r]? with
 | some (.loop .ready _ f site ps env _)=>match A.fn f with
  | none=>none
  | some F=>match F.sites[site]? with
   | none=>none
   | some (asg,body) =>
    if args.length=ps.length then
     match exec g f (some r) asg ⟨(ps.zip args).foldl (fun e (t,a)=>e.set t a) env,[]⟩ st with
     | some ⟨.nrm,fr,st1⟩=>match st1[r]? with
      | some (.loop .ready pend1 f1 site1 ps1 env1 d1)=>roundEnd r (exec g f (some r) body fr (st1.set r (.loop .busy pend1 f1 site1 ps1 env1 d1)))
      | _=>none
     | _=>none
    else none
 | _=>none
def layer (A:AProg) (g:Task→St→Option Res):Task→St→Option Res
 | .call f args,st =>
  match A.prim f with
  | some h=>match h args st with
   | some (.ret v,st')=>some ⟨.ret,⟨[v],[]⟩,st'⟩
   | some (.pan v,st')=>some ⟨.pan v,⟨[],[]⟩,st'⟩
   | none=>none
  | none=>callFn A g f args st
 | .seqc f args,st =>
  match A.prim f with
  | some _=>none
  | none=>callFn A g f args st
 | .round r args,st=>roundFn A g r args st
 | .loop f rnd body fr,st =>
  match exec g f rnd body fr st with
  | some ⟨.nrm,fr',st'⟩=>g (.loop f rnd body fr') st'
  | r=>r
def runA (A:AProg):Nat→Task→St→Option Res
 | 0=>fun _ _=>none
 | n+1=>layer A (runA A n)
end Go.Proofs.YtgkhmmlemgikjaaGreatDoor.Ai
namespace Go.Proofs.YtgkhmmlemgikjaaGreatDoor.Ai
open Go
structure Inj where
 ρ:Nat→Option Nat
 τ:Nat→Nat→Option Value
 im:Nat→Nat→Option Value
 sz:Nat→Option Nat
 szρ:∀r n,sz r=some n→∃b,ρ r=some b
structure Inj.le (J J':Inj):Prop where
 ρ:∀r b,J.ρ r=some b→J'.ρ r=some b
 τ:∀i n v,J.τ i n=some v→J'.τ i n=some v
 im:∀b o v,J.im b o=some v→J'.im b o=some v
 sz:∀r n,J.sz r=some n→J'.sz r=some n
theorem Inj.le.refl (J:Inj):J.le J:=⟨fun _ _ h=>h,fun _ _ _ h=>h,fun _ _ _ h=>h,fun _ _ h=>h⟩
theorem Inj.le.trans {J J' J'':Inj} (h:J.le J') (h':J'.le J''):J.le J'' :=
 ⟨fun r b e=>h'.ρ r b (h.ρ r b e),fun i n v e=>h'.τ i n v (h.τ i n v e),fun b o v e=>h'.im b o v (h.im b o v e),fun r n e=>h'.sz r n (h.sz r n e)⟩
def Row (J:Inj) (b o:Nat) (xs:List Value):Prop:=∀i v,xs[i]?=some v→J.im b (o+i)=some v
def AV.isVar:AV→Bool
 | .tup _=>false
 | _=>true
mutual
def Rep (J:Inj):AV→Value→Prop
 | .bool b,x=>x=.bool b
 | .int k n,x=>x=.int k n
 | .str s,x=>∃ba,x=.string ba∧ba.data.toList=s
 | .agg cs,x=>∃arr,x=.agg arr∧Reps J cs arr.toList∧cs.all AV.isCell=true
 | .tup vs,x=>∃arr,x=.tuple arr∧Reps J vs arr.toList
 | .func fn a b,x=>match fn with
  | .func f=>∃a' b',x=.func (.func f) a' b'∧Reps J a a'.toList∧Reps J b b'.toList
  | .yield r=>a=[]∧b=[]∧∃l,J.ρ r=some l∧x=.func (.yield l) #[] #[]
  | _=>False
 | .nilFunc,x=>x=.nilFunc
 | .iface t v,x=>∃y,x=.iface t y∧Rep J v y
 | .nilIface,x=>x=.nilIface
 | .lst m es ap,x =>
  (∀id,ap=.tok id→J.τ id es.length=some x) ∧
  ((x = .slice none 0 0 ∧ es = []) ∨
   (∃a cap,x=.slice (some a) es.length cap∧(0<cap→a.spot=none)∧es.length≤cap∧(ap=.tight→cap=es.length)∧Elems J m es a.block a.off))
 | .sl r m off len cap,x=>∃b c,J.ρ r=some b∧x=.slice (some ⟨b,off,none⟩) len c∧len≤c∧(∀k,cap=some k→c=k)∧∃n,J.sz r=some n∧off+c * m≤n
 | .ptr r off,x=>∃b,J.ρ r=some b∧x=.pointer (some ⟨b,off,none⟩)
 | .iptr v,x=>∃a y,x=.pointer (some a)∧a.spot=none∧Rep J v y∧v.isVar=true∧Row J a.block a.off y.cells.toList
 | .nilPtr,x=>x=.pointer none
 | .map r,x=>∃b,J.ρ r=some b∧x=.map (some b)
 | .nilMap,x=>x=.map none
 | .nilSl,x=>x=.slice none 0 0
 | .any,x=>x.oneCell'=true∧x.cells=#[x]
def Reps (J:Inj):List AV→List Value→Prop
 | [],xs=>xs=[]
 | v::vs,xs=>∃y ys,xs=y::ys∧Rep J v y∧Reps J vs ys
def Elems (J:Inj) (m:Nat):List AV→Nat→Nat→Prop
 | [],_,_=>True
 | e::es,b,o=>(∃y,Rep J e y∧e.isVar=true∧y.cells.size=m∧Row J b o y.cells.toList)∧Elems J m es b (o+m)
end
mutual
theorem Rep.mono {J J':Inj} (h:J.le J'):∀(v:AV) (x:Value),Rep J v x→Rep J' v x
 | .bool _,_,r=>by simpa [Rep] using r
 | .int _ _,_,r=>by simpa [Rep] using r
 | .str _,_,r=>by simpa [Rep] using r
 | .nilFunc,_,r=>by simpa [Rep] using r
 | .nilIface,_,r=>by simpa [Rep] using r
 | .nilPtr,_,r=>by simpa [Rep] using r
 | .nilMap,_,r=>by simpa [Rep] using r
 | .nilSl,_,r=>by simpa [Rep] using r
 | .any,_,r=>by simpa [Rep] using r
 | .agg cs,x,r=>by
  simp only [Rep] at r ⊢;obtain ⟨arr,e,h1,h2⟩:=r;exact ⟨arr,e,Reps.mono h cs _ h1,h2⟩
 | .tup vs,x,r=>by
  simp only [Rep] at r ⊢;obtain ⟨arr,e,h1⟩:=r;exact ⟨arr,e,Reps.mono h vs _ h1⟩
 | .func fn a b,x,r=>by
  cases fn with
  | func f=>simp only [Rep] at r ⊢;obtain ⟨a',b',e,h1,h2⟩:=r;exact ⟨a',b',e,Reps.mono h a _ h1,Reps.mono h b _ h2⟩
  | yield l=>simp only [Rep] at r ⊢;obtain ⟨e1,e2,l',h1,e⟩:=r;exact ⟨e1,e2,l',h.ρ _ _ h1,e⟩
  | method n=>simp only [Rep] at r
  | methodOf t n=>simp only [Rep] at r
  | via t p f q=>simp only [Rep] at r
 | .iface t v,x,r=>by
  simp only [Rep] at r ⊢;obtain ⟨y,e,h1⟩:=r;exact ⟨y,e,Rep.mono h v _ h1⟩
 | .lst m es ap,x,r=>by
  simp only [Rep] at r ⊢
  obtain ⟨h1,h2⟩:=r
  refine ⟨fun id e=>h.τ _ _ _ (h1 id e),?_⟩
  rcases h2 with h2 | ⟨a,cap,e,h3,h4,h5,h6⟩
  ·exact .inl h2
  ·exact .inr ⟨a,cap,e,h3,h4,h5,Elems.mono h m es _ _ h6⟩
 | .sl r _ off len cap,x,q=>by
  simp only [Rep] at q ⊢;obtain ⟨b,c,h1,h2,h3,h4,n,h5,h6⟩:=q;exact ⟨b,c,h.ρ _ _ h1,h2,h3,h4,n,h.sz _ _ h5,h6⟩
 | .ptr r off,x,q=>by
  simp only [Rep] at q ⊢;obtain ⟨b,h1,h2⟩:=q;exact ⟨b,h.ρ _ _ h1,h2⟩
 | .map r,x,q=>by
  simp only [Rep] at q ⊢;obtain ⟨b,h1,h2⟩:=q;exact ⟨b,h.ρ _ _ h1,h2⟩
 | .iptr v,x,r=>by
  simp only [Rep] at r ⊢;obtain ⟨a,y,e,h1,h2,h3,h4⟩:=r
  exact ⟨a,y,e,h1,Rep.mono h v _ h2,h3,fun i v hv=>h.im _ _ _ (h4 i v hv)⟩
theorem Reps.mono {J J':Inj} (h:J.le J'):∀(vs:List AV) (xs:List Value),Reps J vs xs→Reps J' vs xs
 | [],_,r=>by simpa [Reps] using r
 | v::vs,xs,r=>by
  simp only [Reps] at r ⊢;obtain ⟨y,ys,e,h1,h2⟩:=r;exact ⟨y,ys,e,Rep.mono h v _ h1,Reps.mono h vs _ h2⟩
theorem Elems.mono {J J':Inj} (h:J.le J') (m:Nat):∀(es:List AV) (b o:Nat),Elems J m es b o→Elems J' m es b o
 | [],_,_,_=>by simp [Elems]
 | e::es,b,o,r=>by
  simp only [Elems] at r ⊢
  obtain ⟨⟨y,h1,h2,h3,h4⟩,h5⟩:=r
  exact ⟨⟨y,Rep.mono h e _ h1,h2,h3,fun i v hv=>h.im _ _ _ (h4 i v hv)⟩,Elems.mono h m es _ _ h5⟩
end
section
variable {J:Inj}
theorem Reps.length:∀{vs:List AV} {xs:List Value},Reps J vs xs→vs.length=xs.length
 | [],_,h=>by simp only [Reps] at h;simp [h]
 | v::vs,xs,h=>by simp only [Reps] at h;obtain ⟨y,ys,rfl,_,h2⟩:=h;simp [Reps.length h2]
theorem Reps.get:∀{vs:List AV} {xs:List Value},Reps J vs xs→∀(i:Nat) v,vs[i]?=some v→∃x,xs[i]?=some x∧Rep J v x
 | [],_,_,i,v,e=>by simp at e
 | u::vs,xs,h,i,v,e=>by
  simp only [Reps] at h;obtain ⟨y,ys,rfl,h1,h2⟩:=h
  cases i with
  | zero=>simp at e;subst e;exact ⟨y,by simp,h1⟩
  | succ i=>simp at e;obtain ⟨x,hx,hr⟩:=Reps.get h2 i v e;exact ⟨x,by simpa using hx,hr⟩
theorem Reps.append:∀{vs us:List AV} {xs ys:List Value},Reps J vs xs→Reps J us ys→Reps J (vs++us) (xs++ys)
 | [],_,_,_,h,h'=>by simp only [Reps] at h;subst h;simpa using h'
 | v::vs,us,xs,ys,h,h'=>by
  simp only [Reps] at h;obtain ⟨y,zs,rfl,h1,h2⟩:=h
  simp only [List.cons_append,Reps];exact ⟨y,zs++ys,rfl,h1,Reps.append h2 h'⟩
theorem Reps.take:∀{vs:List AV} {xs:List Value} (n:Nat),Reps J vs xs→Reps J (vs.take n) (xs.take n)
 | [],_,n,h=>by simp only [Reps] at h;subst h;simp [Reps]
 | v::vs,xs,n,h=>by
  simp only [Reps] at h;obtain ⟨y,zs,rfl,h1,h2⟩:=h
  cases n with
  | zero=>simp [Reps]
  | succ n=>simp only [List.take_succ_cons,Reps];exact ⟨y,_,rfl,h1,Reps.take n h2⟩
theorem Reps.drop:∀{vs:List AV} {xs:List Value} (n:Nat),Reps J vs xs→Reps J (vs.drop n) (xs.drop n)
 | [],_,n,h=>by simp only [Reps] at h;subst h;simp [Reps]
 | v::vs,xs,n,h=>by
  cases n with
  | zero=>simpa using h
  | succ n=>simp only [Reps] at h;obtain ⟨y,zs,rfl,h1,h2⟩:=h;simpa using Reps.drop n h2
theorem Reps.set:∀{vs:List AV} {xs:List Value} (n:Nat) {v:AV} {x:Value},Reps J vs xs→Rep J v x→Reps J (vs.set n v) (xs.set n x)
 | [],_,n,_,_,h,_=>by simp only [Reps] at h;subst h;simp [Reps]
 | u::vs,xs,n,v,x,h,hr=>by
  simp only [Reps] at h;obtain ⟨y,zs,rfl,h1,h2⟩:=h
  cases n with
  | zero=>simp only [List.set_cons_zero,Reps];exact ⟨x,zs,rfl,hr,h2⟩
  | succ n=>simp only [List.set_cons_succ,Reps];exact ⟨y,_,rfl,h1,Reps.set n h2 hr⟩
theorem Rep.undef:Rep J .undef Go.undef:=by simp [Rep,AV.undef,Go.undef,Reps]
theorem Rep.cells {v:AV} {x:Value} (h:Rep J v x):Reps J v.cells x.cells.toList:=by
 cases v with
 | agg cs=>simp only [Rep] at h;obtain ⟨arr,rfl,h1,_⟩:=h;exact h1
 | bool b=>simp only [Rep] at h;subst h;simp [AV.cells,Value.cells,Reps,Rep]
 | int k n=>simp only [Rep] at h;subst h;simp [AV.cells,Value.cells,Reps,Rep]
 | str s=>have h':=h;simp only [Rep] at h;obtain ⟨ba,rfl,_⟩:=h;simpa [AV.cells,Value.cells,Reps] using h'
 | tup vs=>have h':=h;simp only [Rep] at h;obtain ⟨ba,rfl,_⟩:=h;simpa [AV.cells,Value.cells,Reps] using h'
 | func fn a b =>
  have h':=h
  cases fn<;>simp only [Rep] at h
  ·obtain ⟨a',b',rfl,_⟩:=h;simpa [AV.cells,Value.cells,Reps] using h'
  ·obtain ⟨_,_,l,_,rfl⟩:=h;simpa [AV.cells,Value.cells,Reps] using h'
 | nilFunc=>simp only [Rep] at h;subst h;simp [AV.cells,Value.cells,Reps,Rep]
 | iface t v=>have h':=h;simp only [Rep] at h;obtain ⟨y,rfl,_⟩:=h;simpa [AV.cells,Value.cells,Reps] using h'
 | nilIface=>simp only [Rep] at h;subst h;simp [AV.cells,Value.cells,Reps,Rep]
 | lst m es ap =>
  have h':=h;simp only [Rep] at h
  obtain ⟨_,⟨rfl,_⟩ | ⟨a,cap,rfl,_⟩⟩:=h<;>simpa [AV.cells,Value.cells,Reps] using h'
 | sl r m off len cap=>have h':=h;simp only [Rep] at h;obtain ⟨b,c,_,rfl,_⟩:=h;simpa [AV.cells,Value.cells,Reps] using h'
 | ptr r off=>have h':=h;simp only [Rep] at h;obtain ⟨b,_,rfl⟩:=h;simpa [AV.cells,Value.cells,Reps] using h'
 | iptr v=>have h':=h;simp only [Rep] at h;obtain ⟨a,y,rfl,_⟩:=h;simpa [AV.cells,Value.cells,Reps] using h'
 | nilPtr=>simp only [Rep] at h;subst h;simp [AV.cells,Value.cells,Reps,Rep]
 | map r=>have h':=h;simp only [Rep] at h;obtain ⟨b,_,rfl⟩:=h;simpa [AV.cells,Value.cells,Reps] using h'
 | nilMap=>simp only [Rep] at h;subst h;simp [AV.cells,Value.cells,Reps,Rep]
 | nilSl=>simp only [Rep] at h;subst h;simp [AV.cells,Value.cells,Reps,Rep]
 | any=>have h':=h;simp only [Rep] at h;simpa [AV.cells,h.2,Reps] using h'
theorem Rep.oneCell {v:AV} {x:Value} (h:Rep J v x) (hc:v.isCell=true):x.oneCell'=true∧x.cells=#[x]:=by
 cases v with
 | agg cs=>simp [AV.isCell] at hc
 | tup vs=>simp [AV.isCell] at hc
 | bool b=>simp only [Rep] at h;subst h;simp [Value.oneCell',Value.cells]
 | int k n=>simp only [Rep] at h;subst h;simp [Value.oneCell',Value.cells]
 | str s=>simp only [Rep] at h;obtain ⟨ba,rfl,_⟩:=h;simp [Value.oneCell',Value.cells]
 | func fn a b =>
  cases fn<;>simp only [Rep] at h
  ·obtain ⟨a',b',rfl,_⟩:=h;simp [Value.oneCell',Value.cells]
  ·obtain ⟨_,_,l,_,rfl⟩:=h;simp [Value.oneCell',Value.cells]
 | nilFunc=>simp only [Rep] at h;subst h;simp [Value.oneCell',Value.cells]
 | iface t v=>simp only [Rep] at h;obtain ⟨y,rfl,_⟩:=h;simp [Value.oneCell',Value.cells]
 | nilIface=>simp only [Rep] at h;subst h;simp [Value.oneCell',Value.cells]
 | lst m es ap=>simp only [Rep] at h;obtain ⟨_,⟨rfl,_⟩ | ⟨a,cap,rfl,_⟩⟩:=h<;>simp [Value.oneCell',Value.cells]
 | sl r m off len cap=>simp only [Rep] at h;obtain ⟨b,c,_,rfl,_⟩:=h;simp [Value.oneCell',Value.cells]
 | ptr r off=>simp only [Rep] at h;obtain ⟨b,_,rfl⟩:=h;simp [Value.oneCell',Value.cells]
 | iptr v=>simp only [Rep] at h;obtain ⟨a,y,rfl,_⟩:=h;simp [Value.oneCell',Value.cells]
 | nilPtr=>simp only [Rep] at h;subst h;simp [Value.oneCell',Value.cells]
 | map r=>simp only [Rep] at h;obtain ⟨b,_,rfl⟩:=h;simp [Value.oneCell',Value.cells]
 | nilMap=>simp only [Rep] at h;subst h;simp [Value.oneCell',Value.cells]
 | nilSl=>simp only [Rep] at h;subst h;simp [Value.oneCell',Value.cells]
 | any=>simpa only [Rep] using h
theorem Reps.getD {vs:List AV} {xs:Array Value} (h:Reps J vs xs.toList) (i:Nat):Rep J (vs.getD i .undef) (xs.getD i Go.undef):=by
 rw [List.getD_eq_getElem?_getD,Array.getD_eq_getD_getElem?]
 cases hv:vs[i]? with
 | none =>
  have:xs[i]?=none:=by
   rw [List.getElem?_eq_none_iff] at hv;rw [Array.getElem?_eq_none_iff]
   have:=h.length;simp at this;omega
  rw [this];exact Rep.undef
 | some v =>
  obtain ⟨x,hx,hr⟩:=h.get i v hv
  have hx':xs[i]?=some x:=by simpa using hx
  rw [hx'];exact hr
end
end Go.Proofs.YtgkhmmlemgikjaaGreatDoor.Ai
namespace Go.Proofs.YtgkhmmlemgikjaaGreatDoor.Ai
open Go
def DefRep (J:Inj):ADef→Deferred→Prop
 | .collected r,d=>∃b,J.ρ r=some b∧d={ target:=.collected b,args:=#[] }
 | .call f args,d=>∃cap,d.target=.fn (.func f) cap∧Reps J args (d.args++cap).toList
def DefReps (J:Inj):List ADef→List Deferred→Prop
 | [],ds=>ds=[]
 | d::ds,xs=>∃y ys,xs=y::ys∧DefRep J d y∧DefReps J ds ys
theorem DefRep.mono {J J':Inj} (h:J.le J'):∀{d:ADef} {x:Deferred},DefRep J d x→DefRep J' d x
 | .collected _,_,⟨b,hb,e⟩=>⟨b,h.ρ _ _ hb,e⟩
 | .call _ _,_,⟨c,e,hr⟩=>⟨c,e,Reps.mono h _ _ hr⟩
theorem DefReps.mono {J J':Inj} (h:J.le J'):∀{d:List ADef} {x:List Deferred},DefReps J d x→DefReps J' d x
 | [],_,e=>e
 | _::_,_,⟨y,ys,e,h1,h2⟩=>⟨y,ys,e,h1.mono h,DefReps.mono h h2⟩
def pendCode:Option APend→Option Code
 | none=>none
 | some .ret=>some .ret
 | some (.exit id)=>some (.exit id)
def RepsM (J:Inj) (es:List (AV×AV)) (ents:List MapEntry):Prop :=
 es.length=ents.length∧∀(i:Nat) e,es[i]?=some e→∃x,ents[i]?=some x∧Rep J e.1 x.key∧Rep J e.2 x.val
theorem RepsM.mono {J J':Inj} (h:J.le J') {es:List (AV×AV)} {xs:List MapEntry} (r:RepsM J es xs):RepsM J' es xs :=
 ⟨r.1,fun i e he=>let ⟨x,hx,h1,h2⟩:=r.2 i e he;⟨x,hx,Rep.mono h _ _ h1,Rep.mono h _ _ h2⟩⟩
abbrev Sites:=FuncId→Nat→Code→Code→Prop
def Clear (fr:Nat×Nat) (n:Nat):Prop:=∀k,k<n→¬(fr.1≤k∧k<fr.2)
theorem Clear.zero (n:Nat):Clear (0,0) n:=fun k _ h=>absurd h.2 (Nat.not_lt_zero k)
def ObjSim (K:Sites) (J:Inj) (w:World) (r:Nat):AObj→Prop
 | .dead=>True
 | .cells ty cs=>∃b c t,J.ρ r=some b∧(∃fr,w.heap[b]?=some (.cells c t fr)∧Clear fr c.size)∧cs.length≤c.size∧Reps J cs (c.toList.take cs.length)∧cs.all AV.isCell=true∧(∀T,ty=some T→t=T∧c.size=cs.length)∧∃n,J.sz r=some n∧cs.length≤n∧n≤c.size
 | .tok m n ty=>(n=0∧∃s,J.τ r 0=some (.slice s 0 0)) ∨
   ∃a cap c t,J.τ r n=some (.slice (some a) n cap)∧a.spot=none∧0<cap∧n≤cap∧w.heap[a.block]?=some (.cells c t (0,0))∧a.off+cap * m≤c.size ∧
    (∀k v,a.off+n * m≤k→J.im a.block k≠some v)∧∀T,ty=some T→t=T∧a.off=0
 | .map es=>∃b ents clock,J.ρ r=some b∧w.heap[b]?=some (.map ents clock)∧RepsM J es ents.toList
 | .loop s pend f site ps env d=>∃b l,J.ρ r=some b∧w.heap[b]?=some (.loop l)∧l.state=s∧l.pending=pendCode pend∧K f site l.assign l.body ∧
   l.params.toList=ps∧Reps J env l.tmps.toList∧J.ρ d=some l.defers
 | .defr calls=>∃b ds,J.ρ r=some b∧w.heap[b]?=some (.deferred ds) ∧
   (match calls with | none=>ds=none | some l=>∃l',ds=some l'∧DefReps J l l')
def ownB (J:Inj) (r:Nat):AObj→Option Nat
 | .dead=>none
 | .tok _ n _=>match J.τ r n with
  | some (.slice (some a) _ cap)=>if cap=0 then none else some a.block
  | _=>none
 | _=>J.ρ r
def AObj.isTok:AObj→Bool
 | .tok _ _ _=>true
 | _=>false
structure Bs extends World where
 hid:Nat→Prop
 snap:Nat→Option Obj
structure Sim (K:Sites) (base:Bs) (J:Inj) (st:St) (w:World):Prop where
 os:w.os=base.os
 output:w.output=base.output
 size:base.heap.size≤w.heap.size
 old:∀b:Nat,b<base.heap.size→w.heap[b]?=base.heap[b]?
 imOk:∀b o v,J.im b o=some v→w.cell? ⟨b,o,none⟩=some v
 ρlt:∀r b,J.ρ r=some b→r<st.length∧b<w.heap.size
 τlt:∀i n v,J.τ i n=some v→i<st.length∧∀m l ty,st[i]?=some (.tok m l ty)→n≤l
 obj:∀(r:Nat) o,st[r]?=some o→ObjSim K J w r o
 own:∀(r:Nat) o b,st[r]?=some o→ownB J r o=some b→base.heap.size≤b∧b<w.heap.size∧∀(r':Nat) o',st[r']?=some o'→ownB J r' o'=some b→r'=r
 noIm:∀(r:Nat) o b,st[r]?=some o→ownB J r o=some b→o.isTok=false→∀k v,J.im b k≠some v
 hid:∀b,base.hid b→b<w.heap.size∧w.heap[b]?=base.snap b∧(∀k v,J.im b k≠some v)∧∀(r:Nat) o,st[r]?=some o→ownB J r o≠some b
theorem cell_of_heap {w:World} {b o:Nat} {c:Array Value} {t:TypeId} {fr:Nat×Nat} (h:w.heap[b]?=some (.cells c t fr)):w.cell? ⟨b,o,none⟩=c[o]?:=by
 simp [World.cell?,h]
theorem lt_of_cell {w:World} {b o:Nat} {v:Value} (h:w.cell? ⟨b,o,none⟩=some v):b<w.heap.size:=by
 unfold World.cell? at h
 split at h
 ·rename_i e;simp only at e;exact (Array.getElem?_eq_some_iff.1 e).1
 ·cases h
theorem cell_congr {w w':World} {b o:Nat} (h:w'.heap[b]?=w.heap[b]?):w'.cell? ⟨b,o,none⟩=w.cell? ⟨b,o,none⟩:=by
 simp [World.cell?,h]
theorem heap_lt {w:World} {b:Nat} {o:Obj} (h:w.heap[b]?=some o):b<w.heap.size:=(Array.getElem?_eq_some_iff.1 h).1
theorem push_old {w:World} {b:Nat} (o:Obj) (h:b<w.heap.size):(w.heap.push o)[b]?=w.heap[b]?:=by
 rw [Array.getElem?_push_lt h,Array.getElem?_eq_getElem h]
theorem ObjSim.frame {K:Sites} {J J':Inj} {w w':World} {r:Nat} {o:AObj} (h:ObjSim K J w r o) (hJ:J.le J')
  (hw:∀b,ownB J r o=some b→w'.heap[b]?=w.heap[b]?)
  (him:∀b,ownB J r o=some b→o.isTok=true→∀k v,J'.im b k=some v→J.im b k=some v):ObjSim K J' w' r o:=by
 cases o with
 | dead=>trivial
 | cells cs=>obtain ⟨b,c,t,h1,⟨fr,h2,hfr⟩,h3,h4,h5,h6,n,h7,h8⟩:=h;exact ⟨b,c,t,hJ.ρ _ _ h1,⟨fr,by rw [hw b h1];exact h2,hfr⟩,h3,Reps.mono hJ _ _ h4,h5,h6,n,hJ.sz _ _ h7,h8⟩
 | tok m n ty =>
  rcases h with ⟨h1,s,h2⟩ | ⟨a,cap,c,t,h1,h2,h0,h3,h4,h5,h6,h7⟩
  ·exact .inl ⟨h1,s,hJ.τ _ _ _ h2⟩
  ·have hb:ownB J r (.tok m n ty)=some a.block:=by simp [ownB,h1];omega
   exact .inr ⟨a,cap,c,t,hJ.τ _ _ _ h1,h2,h0,h3,by rw [hw _ hb];exact h4,h5,fun k v hk e=>h6 k v hk (him _ hb rfl k v e),h7⟩
 | map es=>obtain ⟨b,c,t,h1,h2,h3⟩:=h;exact ⟨b,c,t,hJ.ρ _ _ h1,by rw [hw b h1];exact h2,h3.mono hJ⟩
 | loop s p f site ps env d =>
  obtain ⟨b,l,h1,h2,h3,h4,h6,h7,h8,h9⟩:=h
  exact ⟨b,l,hJ.ρ _ _ h1,by rw [hw b h1];exact h2,h3,h4,h6,h7,Reps.mono hJ _ _ h8,hJ.ρ _ _ h9⟩
 | defr cs =>
  obtain ⟨b,ds,h1,h2,h3⟩:=h
  refine ⟨b,ds,hJ.ρ _ _ h1,by rw [hw b h1];exact h2,?_⟩
  cases cs with
  | none=>exact h3
  | some l=>obtain ⟨l',e,hl⟩:=h3;exact ⟨l',e,hl.mono hJ⟩
theorem ObjSim.own {K:Sites} {J:Inj} {w:World} {r:Nat} {o:AObj} (h:ObjSim K J w r o) (ho:o.isTok=false) (hd:o≠.dead):∃b,J.ρ r=some b∧ownB J r o=some b:=by
 cases o with
 | dead=>exact absurd rfl hd
 | tok m n ty=>simp [AObj.isTok] at ho
 | cells cs=>obtain ⟨b,c,t,h1,_⟩:=h;exact ⟨b,h1,h1⟩
 | map es=>obtain ⟨b,c,t,h1,_⟩:=h;exact ⟨b,h1,h1⟩
 | loop s p f site ps env d=>obtain ⟨b,l,h1,_⟩:=h;exact ⟨b,h1,h1⟩
 | defr cs=>obtain ⟨b,ds,h1,_⟩:=h;exact ⟨b,h1,h1⟩
section
variable {K:Sites} {base:Bs} {J:Inj} {st:St} {w:World}
theorem Sim.same (h:Sim K base J st w) {w':World} (hh:w'.heap=w.heap) (ho:w'.os=w.os) (hp:w'.output=w.output):Sim K base J st w':=by
 refine ⟨ho.trans h.os,hp.trans h.output,hh▸h.size,fun b hb=>hh▸h.old b hb,fun b o v e=>?_,fun r b e=>hh▸h.ρlt r b e,h.τlt,fun r o e=>?_,fun r o b e e'=>hh▸h.own r o b e e',h.noIm,fun b hb=>hh▸h.hid b hb⟩
 ·rw [cell_congr (w:=w) (by rw [hh])];exact h.imOk b o v e
 ·exact (h.obj r o e).frame (Inj.le.refl J) (fun b _=>by rw [hh]) (fun _ _ _ _ _ h=>h)
theorem Sim.push (h:Sim K base J st w) (o:Obj):Sim K base J st { w with heap:=w.heap.push o }:=by
 have hs:(w.heap.push o).size=w.heap.size+1:=Array.size_push _
 refine ⟨h.os,h.output,by show _≤(w.heap.push o).size;rw [hs];exact Nat.le_succ_of_le h.size,fun b hb=>?_,fun b o' v e=>?_,fun r b e=>⟨(h.ρlt r b e).1,?_⟩,h.τlt,fun r o' e=>?_,fun r o' b e e'=>?_,h.noIm,fun b hb=>?_⟩
 ·show (w.heap.push o)[b]?=_
  rw [push_old o (Nat.lt_of_lt_of_le hb h.size)];exact h.old b hb
 ·have:=h.imOk b o' v e
  rw [cell_congr (w:=w)];exact this
  exact push_old o (lt_of_cell this)
 ·show b<(w.heap.push o).size
  rw [hs];exact Nat.lt_succ_of_lt (h.ρlt r b e).2
 ·exact (h.obj r o' e).frame (Inj.le.refl J) (fun b hb=>push_old o (h.own r o' b e hb).2.1) (fun _ _ _ _ _ h=>h)
 ·obtain ⟨h1,h2,h3⟩:=h.own r o' b e e'
  exact ⟨h1,by show b<(w.heap.push o).size;rw [hs];exact Nat.lt_succ_of_lt h2,h3⟩
 ·obtain ⟨h1,h2,h3⟩:=h.hid b hb
  exact ⟨by show b<(w.heap.push o).size;rw [hs];exact Nat.lt_succ_of_lt h1,(push_old o h1).trans h2,h3⟩
def Inj.bind (J:Inj) (r b n:Nat):Inj:={ J with
 ρ:=fun i=>if i=r then some b else J.ρ i
 sz:=fun i=>if i=r then some n else J.sz i
 szρ:=fun i k h=>by
  by_cases hi:i=r
  ·exact ⟨b,if_pos hi⟩
  ·rw [if_neg hi] at h;rw [if_neg hi];exact J.szρ i k h }
theorem Sim.ρnew (h:Sim K base J st w):J.ρ st.length=none:=by
 cases e:J.ρ st.length with
 | none=>rfl
 | some b=>exact absurd (h.ρlt _ _ e).1 (Nat.lt_irrefl _)
theorem Sim.sznew (h:Sim K base J st w):J.sz st.length=none:=by
 cases e:J.sz st.length with
 | none=>rfl
 | some n=>obtain ⟨b,hb⟩:=J.szρ _ _ e;rw [h.ρnew] at hb;cases hb
theorem Sim.bind_le (h:Sim K base J st w) (b n:Nat):J.le (J.bind st.length b n) :=
 ⟨fun r b' e=>by
  show (if r=st.length then some b else J.ρ r)=some b'
  rw [if_neg (by rintro rfl;rw [h.ρnew] at e;cases e)];exact e,fun _ _ _ e=>e,fun _ _ _ e=>e,fun r k e=>by
  show (if r=st.length then some n else J.sz r)=some k
  rw [if_neg (by rintro rfl;rw [h.sznew] at e;cases e)];exact e⟩
theorem ownB_bind {r b n r':Nat} {o:AObj} (h:r'≠r):ownB (J.bind r b n) r' o=ownB J r' o:=by
 cases o<;>simp [ownB,Inj.bind,h]
theorem Sim.add (h:Sim K base J st w) {n:Nat} (o:Obj) (a:AObj) (ha:a.isTok=false) (hd:a≠.dead)
  (hobj:ObjSim K (J.bind st.length w.heap.size n) { w with heap:=w.heap.push o } st.length a) :
  Sim K base (J.bind st.length w.heap.size n) (st++[a]) { w with heap:=w.heap.push o }:=by
 have hs:(w.heap.push o).size=w.heap.size+1:=Array.size_push _
 have hp:=h.push o
 have hle:=h.bind_le w.heap.size n
 have hown:ownB (J.bind st.length w.heap.size n) st.length a=some w.heap.size:=by
  obtain ⟨b,h1,h2⟩:=hobj.own ha hd
  rw [h2,←h1];simp [Inj.bind]
 have hget:∀(r:Nat) x,(st++[a])[r]?=some x→(r<st.length∧st[r]?=some x)∨(r=st.length∧x=a):=by
  intro r x e
  rcases Nat.lt_trichotomy r st.length with hr | hr | hr
  ·rw [List.getElem?_append_left hr] at e;exact .inl ⟨hr,e⟩
  ·subst hr;simp at e;exact .inr ⟨rfl,e.symm⟩
  ·rw [List.getElem?_eq_none (by simp;omega)] at e;cases e
 refine ⟨hp.os,hp.output,hp.size,hp.old,hp.imOk,fun r b e=>?_,fun i n v e=>?_,fun r x e=>?_,fun r x b e e'=>?_,fun r x b e e' ht=>?_,fun b hb=>?_⟩
 ·by_cases hr:r=st.length
  ·subst hr;simp [Inj.bind] at e;subst e;exact ⟨by simp,by show _<(w.heap.push o).size;omega⟩
  ·simp [Inj.bind,hr] at e;have:=hp.ρlt r b e;exact ⟨by simp;omega,this.2⟩
 ·obtain ⟨h1,h2⟩:=hp.τlt i n v e
  refine ⟨by simp;omega,fun m l ty' e'=>h2 m l ty' ?_⟩
  rwa [List.getElem?_append_left h1] at e'
 ·rcases hget r x e with ⟨hr,e⟩ | ⟨rfl,rfl⟩
  ·exact (hp.obj r x e).frame hle (fun _ _=>rfl) (fun _ _ _ _ _ h=>h)
  ·exact hobj
 ·have hu:∀(r':Nat) x',r'<st.length→st[r']?=some x'→ownB (J.bind st.length w.heap.size n) r' x'=some b→b<w.heap.size∧ownB J r' x'=some b:=by
   intro r' x' hr' e1 e2
   rw [ownB_bind (by omega)] at e2
   exact ⟨(h.own r' x' b e1 e2).2.1,e2⟩
  rcases hget r x e with ⟨hr,e⟩ | ⟨rfl,rfl⟩
  ·obtain ⟨hb,e2⟩:=hu r x hr e e'
   obtain ⟨h1,h2,h3⟩:=hp.own r x b e e2
   refine ⟨h1,h2,fun r' x' e3 e4=>?_⟩
   rcases hget r' x' e3 with ⟨hr',e3⟩ | ⟨rfl,rfl⟩
   ·exact h3 r' x' e3 (hu r' x' hr' e3 e4).2
   ·rw [hown] at e4;cases e4;exact absurd hb (Nat.lt_irrefl _)
  ·rw [hown] at e';cases e'
   refine ⟨h.size,by show _<(w.heap.push o).size;omega,fun r' x' e3 e4=>?_⟩
   rcases hget r' x' e3 with ⟨hr',e3⟩ | ⟨rfl,_⟩
   ·exact absurd (hu r' x' hr' e3 e4).1 (Nat.lt_irrefl _)
   ·rfl
 ·rcases hget r x e with ⟨hr,e⟩ | ⟨rfl,rfl⟩
  ·rw [ownB_bind (by omega)] at e';exact hp.noIm r x b e e' ht
  ·rw [hown] at e';cases e'
   intro k v hv
   exact absurd (lt_of_cell (h.imOk _ _ _ hv)) (Nat.lt_irrefl _)
 ·obtain ⟨h1,h2,h3,h4⟩:=hp.hid b hb
  refine ⟨h1,h2,h3,fun r x e e'=>?_⟩
  rcases hget r x e with ⟨hr,e⟩ | ⟨rfl,rfl⟩
  ·rw [ownB_bind (by omega)] at e';exact h4 r x e e'
  ·rw [hown] at e';cases e';exact absurd (h.hid _ hb).1 (Nat.lt_irrefl _)
theorem Sim.upd (h:Sim K base J st w) {r b:Nat} {o:AObj} (ho:st[r]?=some o) (hb:J.ρ r=some b) (ht:o.isTok=false) (hd:o≠.dead)
  {w':World} {a:AObj} (ha:a.isTok=false) (had:a≠.dead) (hos:w'.os=w.os) (hout:w'.output=w.output) (hsz:w'.heap.size=w.heap.size)
  (hoth:∀b',b'≠b→w'.heap[b']?=w.heap[b']?) (hobj:ObjSim K J w' r a):Sim K base J (st.set r a) w':=by
 have hown:ownB J r o=some b:=by obtain ⟨b',h1,h2⟩:=(h.obj r o ho).own ht hd;rw [h2,←h1,hb]
 have howna:ownB J r a=some b:=by obtain ⟨b',h1,h2⟩:=hobj.own ha had;rw [h2,←h1,hb]
 have hrl:r<st.length:=by rcases Nat.lt_or_ge r st.length with h | h;exact h;rw [List.getElem?_eq_none h] at ho;cases ho
 obtain ⟨g1,g2,g3⟩:=h.own r o b ho hown
 have hget:∀(i:Nat) x,(st.set r a)[i]?=some x→(i≠r∧st[i]?=some x)∨(i=r∧x=a):=by
  intro i x e
  by_cases hi:i=r
  ·subst hi;rw [List.getElem?_set_self hrl] at e;cases e;exact .inr ⟨rfl,rfl⟩
  ·rw [List.getElem?_set_ne (fun h=>hi h.symm)] at e;exact .inl ⟨hi,e⟩
 refine ⟨hos.trans h.os,hout.trans h.output,hsz▸h.size,fun b' hb'=>?_,fun b' k v e=>?_,fun i b' e=>?_,fun i n v e=>?_,fun i x e=>?_,fun i x b' e e'=>?_,fun i x b' e e' hx=>?_,fun b' hb'=>?_⟩
 ·rw [hoth b' (by omega)];exact h.old b' hb'
 ·by_cases hbb:b'=b
  ·subst hbb;exact absurd e (h.noIm r o b' ho hown ht k v)
  ·rw [cell_congr (hoth b' hbb)];exact h.imOk b' k v e
 ·have:=h.ρlt i b' e;simp;omega
 ·obtain ⟨h1,h2⟩:=h.τlt i n v e
  refine ⟨by simpa using h1,fun m l ty' e'=>?_⟩
  rcases hget i _ e' with ⟨_,e'⟩ | ⟨_,e'⟩
  ·exact h2 m l ty' e'
  ·subst e';simp [AObj.isTok] at ha
 ·rcases hget i x e with ⟨hi,e⟩ | ⟨rfl,rfl⟩
  ·refine (h.obj i x e).frame (Inj.le.refl J) (fun b' hb'=>hoth b' ?_) (fun _ _ _ _ _ h=>h)
   rintro rfl;exact hi (g3 i x e hb')
  ·exact hobj
 ·rcases hget i x e with ⟨hi,e5⟩ | ⟨rfl,rfl⟩
  ·obtain ⟨f1,f2,f3⟩:=h.own i x b' e5 e'
   refine ⟨f1,hsz▸f2,fun i' x' e3 e4=>?_⟩
   rcases hget i' x' e3 with ⟨_,e3⟩ | ⟨h1,h2⟩
   ·exact f3 i' x' e3 e4
   ·rw [h1,h2,howna] at e4;cases e4;exact absurd (g3 i x e5 e') hi
  ·rw [howna] at e';cases e'
   refine ⟨g1,hsz▸g2,fun i' x' e3 e4=>?_⟩
   rcases hget i' x' e3 with ⟨_,e3⟩ | ⟨h,_⟩
   ·exact g3 i' x' e3 e4
   ·exact h
 ·rcases hget i x e with ⟨hi,e⟩ | ⟨rfl,rfl⟩
  ·exact h.noIm i x b' e e' hx
  ·rw [howna] at e';cases e';exact h.noIm i o b ho hown ht
 ·obtain ⟨f1,f2,f3,f4⟩:=h.hid b' hb'
  have hne:b'≠b:=by rintro rfl;exact f4 r o ho hown
  refine ⟨hsz▸f1,(hoth b' hne).trans f2,f3,fun i x e e'=>?_⟩
  rcases hget i x e with ⟨_,e⟩ | ⟨rfl,rfl⟩
  ·exact f4 i x e e'
  ·rw [howna] at e';cases e';exact hne rfl
def Inj.stay (J:Inj) (b:Nat) (c:Array Value):Inj:={ J with im:=fun b' o=>if b'=b then c[o]? else J.im b' o }
theorem Sim.imnew (h:Sim K base J st w) {b o:Nat} (hb:w.heap.size≤b):J.im b o=none:=by
 cases e:J.im b o with
 | none=>rfl
 | some v=>exact absurd (lt_of_cell (h.imOk _ _ _ e)) (by omega)
theorem Sim.stay_le (h:Sim K base J st w) (c:Array Value):J.le (J.stay w.heap.size c) :=
 ⟨fun _ _ e=>e,fun _ _ _ e=>e,fun b o v e=>by
  show (if b=w.heap.size then c[o]? else J.im b o)=some v
  rw [if_neg (by rintro rfl;rw [h.imnew (Nat.le_refl _)] at e;cases e)];exact e,fun _ _ e=>e⟩
theorem Sim.addStill (h:Sim K base J st w) (c:Array Value) (t:TypeId) (fr:Nat×Nat) :
  Sim K base (J.stay w.heap.size c) st { w with heap:=w.heap.push (.cells c t fr) }:=by
 have hp:=h.push (.cells c t fr)
 have hle:=h.stay_le c
 refine ⟨hp.os,hp.output,hp.size,hp.old,fun b o v e=>?_,hp.ρlt,hp.τlt,fun r x e=>?_,fun r x b e e'=>hp.own r x b e e',fun r x b e e' hx k v hv=>?_,fun b hb=>?_⟩
 ·by_cases hb:b=w.heap.size
  ·subst hb
   simp [Inj.stay] at e
   rw [cell_of_heap (c:=c) (t:=t) (fr:=fr) (by simp)];simpa using e
  ·simp [Inj.stay,hb] at e;exact hp.imOk b o v e
 ·refine (hp.obj r x e).frame hle (fun _ _=>rfl) (fun b hb _ k v hv=>?_)
  have:=(h.own r x b e hb).2.1
  simp [Inj.stay,Nat.ne_of_lt this] at hv;exact hv
 ·have:=(h.own r x b e e').2.1
  simp [Inj.stay,Nat.ne_of_lt this] at hv;exact hp.noIm r x b e e' hx k v hv
 ·obtain ⟨h1,h2,h3,h4⟩:=hp.hid b hb
  have:=(h.hid b hb).1
  exact ⟨h1,h2,fun k v hv=>by simp [Inj.stay,Nat.ne_of_lt this] at hv;exact h3 k v hv,h4⟩
theorem Sim.addDead (h:Sim K base J st w):Sim K base J (st++[.dead]) w:=by
 have hget:∀(r:Nat) x,(st++[AObj.dead])[r]?=some x→(r<st.length∧st[r]?=some x)∨x=.dead:=by
  intro r x e
  rcases Nat.lt_trichotomy r st.length with hr | hr | hr
  ·rw [List.getElem?_append_left hr] at e;exact .inl ⟨hr,e⟩
  ·subst hr;simp at e;exact .inr e.symm
  ·rw [List.getElem?_eq_none (by simp;omega)] at e;cases e
 refine ⟨h.os,h.output,h.size,h.old,h.imOk,fun r b e=>?_,fun i n v e=>?_,fun r x e=>?_,fun r x b e e'=>?_,fun r x b e e' ht=>?_,fun b hb=>?_⟩
 ·have:=h.ρlt r b e;simp;omega
 ·obtain ⟨h1,h2⟩:=h.τlt i n v e
  refine ⟨by simp;omega,fun m l ty' e'=>?_⟩
  rcases hget i _ e' with ⟨_,e'⟩ | e'
  ·exact h2 m l ty' e'
  ·cases e'
 ·rcases hget r x e with ⟨_,e⟩ | e
  ·exact h.obj r x e
  ·subst e;trivial
 ·rcases hget r x e with ⟨_,e⟩ | e
  ·obtain ⟨h1,h2,h3⟩:=h.own r x b e e'
   refine ⟨h1,h2,fun r' x' e3 e4=>?_⟩
   rcases hget r' x' e3 with ⟨_,e3⟩ | e3
   ·exact h3 r' x' e3 e4
   ·subst e3;cases e4
  ·subst e;cases e'
 ·rcases hget r x e with ⟨_,e⟩ | e
  ·exact h.noIm r x b e e' ht
  ·subst e;cases e'
 ·obtain ⟨h1,h2,h3,h4⟩:=h.hid b hb
  refine ⟨h1,h2,h3,fun r x e e'=>?_⟩
  rcases hget r x e with ⟨_,e⟩ | e
  ·exact h4 r x e e'
  ·subst e;cases e'
def Inj.grow (J:Inj) (id n:Nat) (v:Value) (b lo hi:Nat) (c:Array Value):Inj :=
 { J with
   τ:=fun i k=>if i=id∧k=n then some v else J.τ i k
   im:=fun b' o=>if b'=b∧lo≤o∧o<hi then c[o]? else J.im b' o }
theorem Inj.grow_le {id n:Nat} {v:Value} {b lo hi:Nat} {c:Array Value} (hτ:∀u,J.τ id n=some u→u=v) (him:∀k u,J.im b k=some u→c[k]?=some u) :
  J.le (J.grow id n v b lo hi c):=by
 refine ⟨fun _ _ e=>e,fun i k u e=>?_,fun b' o u e=>?_,fun _ _ e=>e⟩
 ·show (if i=id∧k=n then some v else J.τ i k)=some u
  split
  ·rename_i hh;obtain ⟨rfl,rfl⟩:=hh;rw [hτ u e]
  ·exact e
 ·show (if b'=b∧lo≤o∧o<hi then c[o]? else J.im b' o)=some u
  split
  ·rename_i hh;obtain ⟨rfl,_,_⟩:=hh;exact him o u e
  ·exact e
theorem Sim.tokSet (h:Sim K base J st w) {id n m:Nat} {ty:Option TypeId} {o:AObj} (ho:st[id]?=some o)
  (hd:(o=.dead∧∀k v,J.τ id k≠some v)∨∃m' n0 ty0,o=.tok m' n0 ty0)
  {w':World} {a:Addr} {cap:Nat} {c:Array Value} {t:TypeId}
  (hos:w'.os=w.os) (hout:w'.output=w.output) (hsz:w.heap.size≤w'.heap.size)
  (hoth:∀b',b'<w.heap.size→b'≠a.block→w'.heap[b']?=w.heap[b']?)
  (hb:w'.heap[a.block]?=some (.cells c t (0,0))) (hbase:base.heap.size≤a.block)
  (hown:∀(r':Nat) o',st[r']?=some o'→ownB J r' o'=some a.block→r'=id)
  (him:∀k v,J.im a.block k=some v→c[k]?=some v) (ha:a.spot=none) (hn:n≤cap) (hc0:0<cap) (hcs:a.off+cap * m≤c.size)
  (hbey:∀k v,a.off+n * m≤k→J.im a.block k≠some v)
  (hnh:¬base.hid a.block) (hτ:∀k v,J.τ id k=some v→k<n∨(k=n∧v=.slice (some a) n cap)) (hty:∀T,ty=some T→t=T∧a.off=0) :
  J.le (J.grow id n (.slice (some a) n cap) a.block a.off (a.off+n * m) c) ∧
  Sim K base (J.grow id n (.slice (some a) n cap) a.block a.off (a.off+n * m) c) (st.set id (.tok m n ty)) w':=by
 have hle:J.le (J.grow id n (.slice (some a) n cap) a.block a.off (a.off+n * m) c) :=
  Inj.grow_le (fun u e=>by rcases hτ n u e with h | ⟨_,h⟩;exact absurd h (Nat.lt_irrefl _);exact h) him
 refine ⟨hle,?_⟩
 have hil:id<st.length:=by rcases Nat.lt_or_ge id st.length with h | h;exact h;rw [List.getElem?_eq_none h] at ho;cases ho
 have hotok:o.isTok=true∨o=.dead:=by rcases hd with ⟨h,_⟩ | ⟨_,_,_,h⟩<;>subst h<;>simp [AObj.isTok]
 have hget:∀(i:Nat) x,(st.set id (.tok m n ty))[i]?=some x→(i≠id∧st[i]?=some x)∨(i=id∧x=.tok m n ty):=by
  intro i x e
  by_cases hi:i=id
  ·subst hi;rw [List.getElem?_set_self hil] at e;cases e;exact .inr ⟨rfl,rfl⟩
  ·rw [List.getElem?_set_ne (fun h=>hi h.symm)] at e;exact .inl ⟨hi,e⟩
 have hownB:∀(i:Nat) x,i≠id→ownB (J.grow id n (.slice (some a) n cap) a.block a.off (a.off+n * m) c) i x=ownB J i x:=by
  intro i x hi
  cases x<;>simp [ownB,Inj.grow,hi]
 have hownid:ownB (J.grow id n (.slice (some a) n cap) a.block a.off (a.off+n * m) c) id (.tok m n ty)=some a.block:=by
  simp [ownB,Inj.grow];omega
 have hbl:a.block<w'.heap.size:=heap_lt hb
 refine ⟨hos.trans h.os,hout.trans h.output,Nat.le_trans h.size hsz,fun b' hb'=>?_,fun b' k v e=>?_,fun r b' e=>?_,fun i k v e=>?_,fun i x e=>?_,fun i x b' e e'=>?_,fun i x b' e e' hx k v hv=>?_,fun b' hb'=>?_⟩
 ·rw [hoth b' (Nat.lt_of_lt_of_le hb' h.size) (by omega)];exact h.old b' hb'
 ·by_cases hbb:b'=a.block
  ·subst hbb
   rw [cell_of_heap hb]
   simp only [Inj.grow] at e
   split at e
   ·exact e
   ·exact him k v e
  ·have e':J.im b' k=some v:=by simpa [Inj.grow,hbb] using e
   have:=h.imOk b' k v e'
   rw [cell_congr (hoth b' (lt_of_cell this) hbb)];exact this
 ·have:=h.ρlt r b' e;simp;omega
 ·simp only [Inj.grow] at e
  split at e
  ·rename_i hh;obtain ⟨rfl,rfl⟩:=hh
   refine ⟨by simpa using hil,fun m' l ty' e'=>?_⟩
   rw [List.getElem?_set_self hil] at e';cases e';exact Nat.le_refl _
  ·obtain ⟨h1,h2⟩:=h.τlt i k v e
   refine ⟨by simpa using h1,fun m' l ty' e'=>?_⟩
   rcases hget i _ e' with ⟨_,e6⟩ | ⟨hi,e6⟩
   ·exact h2 m' l ty' e6
   ·cases e6
    subst hi
    rcases hτ k v e with h | ⟨h,_⟩<;>omega
 ·rcases hget i x e with ⟨hi,e⟩ | ⟨rfl,rfl⟩
  ·refine (h.obj i x e).frame hle (fun b' hb'=>hoth b' (h.own i x b' e hb').2.1 ?_) (fun b' hb' _ k v hv=>?_)
   ·rintro rfl;exact hi (hown i x e hb')
   ·have hne:b'≠a.block:=by rintro rfl;exact hi (hown i x e hb')
    simpa [Inj.grow,hne] using hv
  ·refine .inr ⟨a,cap,c,t,by simp [Inj.grow],ha,hc0,hn,hb,hcs,fun k v hk e=>?_,hty⟩
   simp only [Inj.grow] at e
   rw [if_neg (by omega)] at e
   exact hbey k v hk e
 ·rcases hget i x e with ⟨hi,e5⟩ | ⟨rfl,rfl⟩
  ·rw [hownB i x hi] at e'
   obtain ⟨f1,f2,f3⟩:=h.own i x b' e5 e'
   refine ⟨f1,Nat.lt_of_lt_of_le f2 hsz,fun i' x' e3 e4=>?_⟩
   rcases hget i' x' e3 with ⟨hi',e3⟩ | ⟨h1,h2⟩
   ·rw [hownB i' x' hi'] at e4;exact f3 i' x' e3 e4
   ·rw [h1,h2,hownid] at e4;cases e4;exact absurd (hown i x e5 e') hi
  ·rw [hownid] at e';cases e'
   refine ⟨hbase,hbl,fun i' x' e3 e4=>?_⟩
   rcases hget i' x' e3 with ⟨hi',e3⟩ | ⟨h1,_⟩
   ·rw [hownB i' x' hi'] at e4;exact hown i' x' e3 e4
   ·exact h1
 ·rcases hget i x e with ⟨hi,e5⟩ | ⟨rfl,rfl⟩
  ·rw [hownB i x hi] at e'
   have hne:b'≠a.block:=by rintro rfl;exact hi (hown i x e5 e')
   refine h.noIm i x b' e5 e' hx k v ?_
   simpa [Inj.grow,hne] using hv
  ·simp [AObj.isTok] at hx
 ·obtain ⟨f1,f2,f3,f4⟩:=h.hid b' hb'
  have hne:b'≠a.block:=by rintro rfl;exact hnh hb'
  refine ⟨Nat.lt_of_lt_of_le f1 hsz,(hoth b' f1 hne).trans f2,fun k v hv=>?_,fun i x e e'=>?_⟩
  ·simp [Inj.grow,hne] at hv;exact f3 k v hv
  ·rcases hget i x e with ⟨hi,e⟩ | ⟨rfl,rfl⟩
   ·rw [hownB i x hi] at e';exact f4 i x e e'
   ·rw [hownid] at e';cases e';exact hne rfl
def Inj.tokNil (J:Inj) (id:Nat) (v:Value):Inj:={ J with τ:=fun i k=>if i=id∧k=0 then some v else J.τ i k }
theorem Sim.τnew (h:Sim K base J st w) (k:Nat):J.τ st.length k=none:=by
 cases e:J.τ st.length k with
 | none=>rfl
 | some v=>exact absurd (h.τlt _ _ _ e).1 (Nat.lt_irrefl _)
theorem Sim.tokAdd0 (h:Sim K base J st w) (m:Nat) (s:Option Addr) :
  J.le (J.tokNil st.length (.slice s 0 0))∧Sim K base (J.tokNil st.length (.slice s 0 0)) (st++[.tok m 0 none]) w:=by
 have hle:J.le (J.tokNil st.length (.slice s 0 0)):=by
  refine ⟨fun _ _ e=>e,fun i k u e=>?_,fun _ _ _ e=>e,fun _ _ e=>e⟩
  show (if i=st.length∧k=0 then _ else J.τ i k)=some u
  rw [if_neg (by rintro ⟨rfl,_⟩;rw [h.τnew] at e;cases e)];exact e
 refine ⟨hle,?_⟩
 have hget:∀(r:Nat) x,(st++[AObj.tok m 0 none])[r]?=some x→(r<st.length∧st[r]?=some x)∨(r=st.length∧x=.tok m 0 none):=by
  intro r x e
  rcases Nat.lt_trichotomy r st.length with hr | hr | hr
  ·rw [List.getElem?_append_left hr] at e;exact .inl ⟨hr,e⟩
  ·subst hr;simp at e;exact .inr ⟨rfl,e.symm⟩
  ·rw [List.getElem?_eq_none (by simp;omega)] at e;cases e
 have hownB:∀(i:Nat) x,i<st.length→ownB (J.tokNil st.length (.slice s 0 0)) i x=ownB J i x:=by
  intro i x hi
  cases x<;>simp [ownB,Inj.tokNil,Nat.ne_of_lt hi]
 have hown0:ownB (J.tokNil st.length (.slice s 0 0)) st.length (.tok m 0 none)=none:=by
  cases s<;>simp [ownB,Inj.tokNil]
 refine ⟨h.os,h.output,h.size,h.old,h.imOk,fun r b e=>?_,fun i n v e=>?_,fun r x e=>?_,fun r x b e e'=>?_,fun r x b e e' ht=>?_,fun b hb=>?_⟩
 ·have:=h.ρlt r b e;simp;omega
 ·simp only [Inj.tokNil] at e
  split at e
  ·rename_i hh;obtain ⟨rfl,rfl⟩:=hh;exact ⟨by simp,fun m l _ _=>Nat.zero_le _⟩
  ·obtain ⟨h1,h2⟩:=h.τlt i n v e
   refine ⟨by simp;omega,fun m' l ty' e'=>h2 m' l ty' ?_⟩
   rwa [List.getElem?_append_left h1] at e'
 ·rcases hget r x e with ⟨hr,e⟩ | ⟨rfl,rfl⟩
  ·exact (h.obj r x e).frame hle (fun _ _=>rfl) (fun _ _ _ _ _ h=>h)
  ·exact .inl ⟨rfl,s,by simp [Inj.tokNil]⟩
 ·rcases hget r x e with ⟨hr,e⟩ | ⟨rfl,rfl⟩
  ·rw [hownB r x hr] at e'
   obtain ⟨h1,h2,h3⟩:=h.own r x b e e'
   refine ⟨h1,h2,fun r' x' e3 e4=>?_⟩
   rcases hget r' x' e3 with ⟨hr',e3⟩ | ⟨rfl,rfl⟩
   ·rw [hownB r' x' hr'] at e4;exact h3 r' x' e3 e4
   ·rw [hown0] at e4;cases e4
  ·rw [hown0] at e';cases e'
 ·rcases hget r x e with ⟨hr,e⟩ | ⟨rfl,rfl⟩
  ·rw [hownB r x hr] at e';exact h.noIm r x b e e' ht
  ·simp [AObj.isTok] at ht
 ·obtain ⟨h1,h2,h3,h4⟩:=h.hid b hb
  refine ⟨h1,h2,h3,fun r x e e'=>?_⟩
  rcases hget r x e with ⟨hr,e⟩ | ⟨rfl,rfl⟩
  ·rw [hownB r x hr] at e';exact h4 r x e e'
  ·rw [hown0] at e';cases e'
end
end Go.Proofs.YtgkhmmlemgikjaaGreatDoor.Ai
namespace Go.Proofs.YtgkhmmlemgikjaaGreatDoor.Ai
open Go
mutual
def constFits:AV→Value→Bool
 | .bool b,.bool a=>a == b
 | .int k b,.int l a=>k == l && a == b
 | .str l,.string s=>s.data.toList == l
 | .lst _ [] .tight,.slice none 0 0=>true
 | .nilFunc,.nilFunc=>true
 | .nilIface,.nilIface=>true
 | .nilPtr,.pointer none=>true
 | .nilMap,.map none=>true
 | .nilSl,.slice none 0 0=>true
 | .agg cs,.agg arr=>constsFit cs arr.toList && cs.all AV.isCell
 | .tup vs,.tuple arr=>constsFit vs arr.toList
 | .func (.func f) [] [],.func (.func g) a b=>f == g && a.isEmpty && b.isEmpty
 | _,_=>false
def constsFit:List AV→List Value→Bool
 | [],xs=>xs.isEmpty
 | v::vs,x::xs=>constFits v x && constsFit vs xs
 | _::_,[]=>false
end
section
variable (P:Program) (gl:List (Nat×AV))
def sizeT (t:TypeId):Option Nat:=(P.info? t).map (·.size)
def isAggT (t:TypeId):Option Bool :=
 match P.underlying t with
 | some (.struct _)=>some true
 | some (.array _ _)=>some true
 | some _=>some false
 | none=>none
def varFits (t:TypeId) (m:Nat) (agg:Bool):Bool:=sizeT P t == some m && isAggT P t == some agg && (agg || m == 1)
def elemFits (t:TypeId) (m:Nat):Bool :=
 match P.underlying t with
 | some (.slice e)=>varFits P e m (m != 1) && decide (1≤m)
 | _=>false
def elemBytes (t:TypeId):Nat :=
 match P.underlying t with
 | some (.slice e)=>((P.info? e).map (·.bytes)).getD 0
 | _=>0
def zeroOk (t:TypeId):Bool :=
 match P.underlying t with
 | some (.slice e)=>(match P.info? e with
  | some i=>(match i.zero with | some z=>z.cells.size == i.size | none=>false)
  | none=>false)
 | _=>false
def zeroFits (t:TypeId) (z:AV):Bool :=
 match (P.info? t).bind (·.zero) with
 | some v=>constFits z v && z.isVar
 | none=>false
def xFits (o:Operand) (x:AX):Bool :=
 match o,x with
 | .tmp i,.t j=>i == j
 | .const v,.k a=>constFits a v
 | .global g,.k (.iptr v)=>(gl.find? fun e=>e.1 == g).any fun e=>AV.beq e.2 v
 | .func f,.k (.func (.func g) [] [])=>f == g
 | _,_=>false
def xsFit:List Operand→List AX→Bool
 | [],[]=>true
 | o::os,x::xs=>xFits gl o x && xsFit os xs
 | _,_=>false
def oxFits:Option Operand→Option AX→Bool
 | none,none=>true
 | some o,some x=>xFits gl o x
 | _,_=>false
def partsFit (place:Nat→Option (Nat×Nat)):List (Nat×Operand)→List (Nat×Nat×AX)→Bool
 | [],[]=>true
 | (i,o)::os,(off,size,x)::xs=>(match place i with | some (a,b)=>a == off && b == size | none=>false) && xFits gl o x && partsFit place os xs
 | _,_=>false
def isK (t:TypeId) (q:TypeDesc→Bool):Bool :=
 match P.underlying t with
 | some d=>q d
 | none=>false
def kindD:TypeDesc→Nat
 | .int _=>0
 | .string=>1
 | .bool=>2
 | _=>4
def plainFields:List Field→List Nat→Nat→Bool
 | [],[],_=>true
 | f :: fs, k :: ks, off => f.name != "_" && f.offset == off && isK P f.type (fun d => kindD d == k) && decide (k < 3) && sizeT P f.type == some 1 && plainFields fs ks (off + 1)
 | _,_,_=>false
def asBuiltin:Op→Option (Builtin×List Operand×List TypeId)
 | .call c=>match c.callee with
  | .builtin b=>some (b,c.args.toList,c.argTypes.toList)
  | _=>none
 | _=>none
def callFits (c:Call) (y:AX) (ys:List AX):Bool :=
 match c.callee with
 | .value f=>xFits gl f y && xsFit gl c.args.toList ys
 | _=>false
def opFits (o:Op):AOp→Bool
 | .mov y=>match o with | .move x=>xFits gl x y | .assign x=>xFits gl x y | _=>false
 | .movT y=>match o with | .move x=>xFits gl x y | .assign x=>xFits gl x y | _=>false
 | .pick c a b=>match o with | .pick c' a' b'=>xFits gl c' c && xFits gl a' a && xFits gl b' b | _=>false
 | .new z _ ty=>match o with | .alloc t=>zeroFits P t z && z.cells.all AV.isCell && (match ty with | none=>true | some T=>T == t) | _=>false
 | .boxT T m y=>match o with | .box t x=>t == T && sizeT P t == some m && xFits gl x y | _=>false
 | .box m y _=>match o with | .box t x=>sizeT P t == some m && xFits gl x y | _=>false
 | .build zero ps=>match o with
  | .build t parts=>zeroFits P t (.agg zero) &&
   (match P.underlying t with
    | some (.struct fs)=>partsFit gl (fun i=>(fs[i]?).bind fun f=>(sizeT P f.type).map fun s=>(f.offset,s)) parts.toList ps && fs.all (fun f=>(sizeT P f.type).isSome)
    | some (.array _ e)=>(match sizeT P e with | some s=>partsFit gl (fun i=>some (i * s,s)) parts.toList ps | none=>false)
    | _=>false)
  | _=>false
 | .mkLit m zero ps _=>match o with
  | .buildSlice t len parts=>elemFits P t m && decide (len * m≤2 ^ 24) && zero.length == len * m && zero.all AV.isCell &&
   (match P.underlying t with
    | some (.slice e)=>(match (P.info? e).bind (·.zero) with
     | some z=>constsFit zero ((Array.range (len * m)).map (z.cells[· % z.cells.size]!)).toList
     | none=>false)
    | _=>false) && partsFit gl (fun i=>some (i * m,m)) parts.toList ps
  | _=>false
 | .load m agg y=>match o with | .load t x=>varFits P t m agg && xFits gl x y | _=>false
 | .store m y z=>match o with | .store t x v=>sizeT P t == some m && xFits gl x y && xFits gl v z | _=>false
 | .nilCheck y=>match o with | .nilCheck x=>xFits gl x y | _=>false
 | .bin op y z=>match o with | .binOp op' _ x v _=>op == op' && xFits gl x y && xFits gl v z | _=>false
 | .eqBool neg y z=>match o with
  | .binOp op t x v _=>op == (if neg then .neq else .eql) && isK P t (· matches .bool) && xFits gl x y && xFits gl v z
  | _=>false
 | .eqAgg ks neg y z=>match o with
  | .binOp op t x v _=>op == (if neg then .neq else .eql) && (match P.underlying t with | some (.struct fs)=>plainFields P fs.toList ks 0 | _=>false) &&
    !P.stoodInHeld t && !P.eqGuardType P.depth t && xFits gl x y && xFits gl v z
  | _=>false
 | .eqPtr neg y z=>match o with
  | .binOp op t x v _=>op == (if neg then .neq else .eql) && isK P t (· matches .pointer _) && xFits gl x y && xFits gl v z
  | _=>false
 | .eqIface neg y z=>match o with
  | .binOp op t x v _=>op == (if neg then .neq else .eql) && isK P t (· matches .interface _) && ((x matches .const _) || (v matches .const _)) && xFits gl x y && xFits gl v z
  | _=>false
 | .un op y=>match o with | .unOp op' _ x=>op == op' && xFits gl x y | _=>false
 | .convInt k y=>match o with
  | .convert s d x=>isK P s (· matches .int _) && (match P.underlying d with | some (.int l)=>l == k | _=>false) && xFits gl x y
  | _=>false
 | .convSame y=>match o with
  | .convert s d x=>isK P s (· matches .string) && isK P d (· matches .string) && xFits gl x y
  | _=>false
 | .convBytes _ y=>match o with
  | .convert s d x=>isK P s (· matches .string) && (match P.underlying d with | some (.slice e)=>isK P e (fun | .int .u8=>true | _=>false) | _=>false) && xFits gl x y
  | _=>false
 | .convStr y=>match o with
  | .convert s d x=>isK P d (· matches .string) && (match P.underlying s with | some (.slice e)=>isK P e (fun | .int .u8=>true | _=>false) | _=>false) && xFits gl x y
  | _=>false
 | .mkIface t y=>match o with | .makeInterface u x=>t == u && isK P t (fun | .interface _=>false | _=>true) && xFits gl x y | _=>false
 | .mkFunc f ys zs=>match o with | .makeFunc (.func g) a b=>f == g && xsFit gl a.toList ys && xsFit gl b.toList zs | _=>false
 | .mkMap=>match o with | .makeMap _ none=>true | _=>false
 | .mkSlice m bytes zero y z _=>match o with
  | .makeSlice t l c=>elemFits P t m && elemBytes P t == bytes && (match P.underlying t with | some (.slice e)=>zeroFits P e (if m != 1 then .agg zero else zero.headD .undef) | _=>false) &&
    zero.length == m && zero.all AV.isCell && xFits gl l y && xFits gl c z
  | _=>false
 | .sliceStr y lo hi=>match o with | .slice t x l h none=>isK P t (· matches .string) && xFits gl x y && oxFits gl l lo && oxFits gl h hi | _=>false
 | .sliceLst m y lo hi max=>match o with | .slice t x l h mx=>elemFits P t m && xFits gl x y && oxFits gl l lo && oxFits gl h hi && oxFits gl mx max | _=>false
 | .sliceArr n m y lo hi=>match o with
  | .slice t x l h none=>(match P.underlying t with
    | some (.array n' e)=>n' == n && sizeT P e == some m
    | some (.pointer a)=>(match P.underlying a with | some (.array n' e)=>n' == n && sizeT P e == some m | _=>false)
    | _=>false) && xFits gl x y && oxFits gl l lo && oxFits gl h hi
  | _=>false
 | .fieldAddr off size agg y=>match o with
  | .fieldAddr t x i=>(match P.underlying t with
    | some (.struct fs)=>(match fs[i]? with | some f=>f.offset == off && varFits P f.type size agg && decide (1≤size) | none=>false)
    | _=>false) && xFits gl x y
  | _=>false
 | .field off size agg y=>match o with
  | .field t x i=>(match P.underlying t with
    | some (.struct fs)=>(match fs[i]? with | some f=>f.offset == off && varFits P f.type size agg | none=>false)
    | _=>false) && xFits gl x y
  | _=>false
 | .indexAddr m agg arr y z=>match o with
  | .indexAddr t x i=>(match P.underlying t,arr with
    | some (.array n e),some n'=>n == n' && varFits P e m agg && decide (1≤m)
    | some (.slice e),none=>varFits P e m agg && decide (1≤m) && agg == (m != 1)
    | _,_=>false) && xFits gl x y && xFits gl i z
  | _=>false
 | .indexStr y z=>match o with | .index t x i=>isK P t (· matches .string) && xFits gl x y && xFits gl i z | _=>false
 | .indexArr n m agg y z=>match o with
  | .index t x i=>(match P.underlying t with | some (.array n' e)=>n == n' && varFits P e m agg | _=>false) && xFits gl x y && xFits gl i z
  | _=>false
 | .lookup kd zero ok y z=>match o with
  | .lookup t x i ok'=>ok == ok' && (match P.underlying t with | some (.map k e)=>isK P k (fun d=>kindD d == kd) && decide (kd<3) && zeroFits P e zero | _=>false) && xFits gl x y && xFits gl i z
  | _=>false
 | .mapUpdate kd y z u=>match o with
  | .mapUpdate t x i v=>(match P.underlying t with | some (.map k _)=>isK P k (fun d=>kindD d == kd) && decide (kd<3) | _=>false) && xFits gl x y && xFits gl i z && xFits gl v u
  | .insert t x i v=>(match P.underlying t with | some (.map k _)=>isK P k (fun d=>kindD d == kd) && decide (kd<3) | _=>false) && xFits gl x y && xFits gl i z && xFits gl v u
  | _=>false
 | .extract y i=>match o with | .extract x j=>i == j && xFits gl x y | _=>false
 | .assertT t zero ok y=>match o with
  | .typeAssert x _ u ok'=>t == u && ok == ok' && isK P u (fun | .interface _=>false | _=>true) && zeroFits P u zero && xFits gl x y
  | _=>false
 | .call y ys=>match o with | .call c=>callFits gl c y ys | _=>false
 | .lenStr y=>match asBuiltin o with
  | some (.len,[x],[t])=>xFits gl x y && isK P t (· matches .string)
  | _=>false
 | .lenSl y=>match asBuiltin o with
  | some (.len,[x],[t])=>xFits gl x y && isK P t (· matches .slice _)
  | _=>false
 | .lenMap y=>match asBuiltin o with
  | some (.len,[x],[t])=>xFits gl x y && isK P t (· matches .map _ _)
  | _=>false
 | .lenArr n=>match asBuiltin o with
  | some (.len,[_],[t])=>(match P.underlying t with
    | some (.array n' _)=>n == n'
    | some (.pointer a)=>(match P.underlying a with | some (.array n' _)=>n == n' | _=>false)
    | _=>false)
  | _=>false
 | .append m bytes ty y z=>match asBuiltin o with
  | some (.append,[x,v],[t,u])=>(match ty with | none=>true | some T=>(match P.underlying t with | some (.slice e)=>T == e | _=>false)) && elemFits P t m && zeroOk P t && elemBytes P t == bytes && isK P u (fun | .int _=>false | _=>true) && xFits gl x y && xFits gl v z
  | _=>false
 | .copy m y z=>match asBuiltin o with
  | some (.copy,[x,v],[t,_])=>elemFits P t m && xFits gl x y && xFits gl v z
  | _=>false
 | .appendM m bytes y z=>match asBuiltin o with
  | some (.append,[x,v],[t,u])=>elemFits P t m && zeroOk P t && elemBytes P t == bytes && isK P u (fun | .int _=>false | _=>true) && xFits gl x y && xFits gl v z
  | _=>false
 | .clearSl m zero y=>match asBuiltin o with
  | some (.clear,[x],[t])=>elemFits P t m && (match P.underlying t with | some (.slice e)=>(match (P.info? e).bind (·.zero) with | some v=>constsFit zero v.cells.toList && zero.all AV.isCell && v.cells.size == m | none=>false) | _=>false) && xFits gl x y
  | _=>false
 | .minmax isMax ys=>match asBuiltin o with
  | some (.min,args,_)=>!isMax && xsFit gl args ys
  | some (.max,args,_)=>isMax && xsFit gl args ys
  | _=>false
 | .panic y=>match o with
  | .panic x=>xFits gl x y
  | o=>match asBuiltin o with
   | some (.panic,[x],_)=>xFits gl x y
   | _=>false
 | .defer y ys=>match o with | .defer c=>callFits gl c y ys | _=>false
 | .vbox ..=>false
 | .valloc m=>match o with | .alloc t=>(match (P.info? t).bind (·.zero) with | some v=>v.cells.size == m | none=>false) | _=>false
 | .recover=>match asBuiltin o with | some (.recover,_,_)=>true | _=>false
def operFits (ops:Array Oper) (o:Oper) (a:AOper):Bool :=
 o.dst == a.dst && opFits P gl o.op a.op &&
 (match o.guard, a.guard with
  | none,none=>true
  | some (j,w),some (t,w')=>w == w' && ((ops[j]?).bind (·.dst)) == some t
  | _,_=>false)
def vsFits (o:Oper) (a:AOper):Bool :=
 match a with
 | ⟨some d,.vbox m d2 x,none⟩=>d2 == d && o.dst == none && o.guard.isNone && (match o.op with
  | .store t (.tmp d') v=>d' == d && sizeT P t == some m && xFits gl v x
  | _=>false)
 | _=>false
def isV (a:AOper):Option (Nat×Nat) :=
 match a with
 | ⟨some d,.valloc m,none⟩=>some (d,m)
 | _=>none
def vsOf (a:AOper):Option (Nat×Nat) :=
 match a with
 | ⟨some d,.vbox m _ _,none⟩=>some (d,m)
 | _=>none
def regFits (ops:Array Oper):List (Nat×Nat)→List Oper→List AOper→Bool
 | _,[],[]=>true
 | PD,o::os,a::as =>
  if operFits P gl ops o a then PD.all (fun p=>o.dst != some p.1) && regFits ops ((isV a).toList++PD) os as
  else vsFits P gl o a && (match vsOf a with | some p=>PD.contains p && regFits ops (PD.filter fun q=>q.1 != p.1) os as | none=>false)
 | _,_,_=>false
def isVs (ops:Array Oper) (s:AStep):Option (Nat×Nat) :=
 match ops[s.i]? with
 | some o=>if operFits P gl ops o s.o then none else vsOf s.o
 | none=>none
def planV (ops:Array Oper) (bf:Array Nat) (ss:List AStep):Bool :=
 ss.all (fun s=>match isVs P gl ops s with
  | some p=>ss.any (fun k=>isV k.o == some p && (bf.getD s.i 0).testBit k.i) && ss.all (fun s'=>match isVs P gl ops s' with | some q=>q.1 != p.1 || s'.i == s.i | none=>true)
  | none=>true) &&
 ss.all (fun k=>match isV k.o with
  | some p=>ss.all fun s=>s.i == k.i || (match ops[s.i]? with | some o=>o.dst != some p.1 | none=>true)
  | none=>true)
def AOper.selfOk (x:AOper):Bool :=
 match x.dst with
 | some d=>!(x.op.xs.isEmpty == false && (xTmps x.op.xs).contains d) && (match x.guard with | some (t,_)=>t != d | none=>true)
 | none=>true
def pairOk (bf:Array Nat) (x:AStep) (mid:List AStep) (y:AStep):Bool :=
 (!y.re.contains x.i || (x.o.selfOk && (mid++[y]).all fun z=>!z.o.writes x.o)) &&
 ((bf.getD y.i 0).testBit x.i ||
 (!x.o.writes y.o && !y.o.writes x.o && x.o.op.cls != 2 &&
  (y.o.op.cls != 2 || x.o.op.cls == 0 || y.re.contains x.i)))
def fromX (bf:Array Nat) (x:AStep):List AStep→List AStep→Bool
 | _,[]=>true
 | mid,y::ys=>pairOk bf x mid y && fromX bf x (mid++[y]) ys
def planPairs (bf:Array Nat):List AStep→Bool
 | []=>true
 | x::rest=>fromX bf x [] rest && planPairs bf rest
def planFits (ops:Array Oper) (ss:List AStep):Bool :=
 ss.length == ops.size && (List.range ops.size).all (fun i=>ss.any fun s=>s.i == i) &&
 ss.all (fun s=>match ops[s.i]? with | some o=>operFits P gl ops o s.o || vsFits P gl o s.o | none=>false) && planV P gl ops (Region.before ops) ss &&
 ops.toList.zipIdx.all (fun (o,i)=>o.after.all fun e=>!Region.binds .any e || decide (e.on<i)) &&
 ss.all (fun s=>s.o.op.cls == 2 || s.re.isEmpty) && planPairs (Region.before ops) ss
def codeFits (sites:List (ACode×ACode)):Code→ACode→Bool
 | .skip,.skip=>true
 | .label _,.skip=>true
 | .region _ ops false,.reg as=>regFits P gl ops [] ops.toList as
 | .region _ ops true,.plan ss=>planFits P gl ops ss
 | .seq a b,.seq a' b'=>codeFits sites a a' && codeFits sites b b'
 | .cond c a b,.cond x a' b'=>xFits gl c x && codeFits sites a a' && codeFits sites b b'
 | .block id a,.block id' a'=>id == id' && codeFits sites a a'
 | .loop a,.loop a'=>codeFits sites a a'
 | .exit id,.exit id'=>id == id'
 | .ret,.ret=>true
 | .rangeFunc f ps asg body,.rangeFunc x ps' site=>xFits gl f x && ps.toList == ps' &&
  (match sites[site]? with
   | some (a,b)=>codeFits sites asg a && codeFits sites body b && !Go.Reach.defers asg && !Go.Reach.defers body
   | none=>false)
 | _,_=>false
def resFits:ResultVar→ARes→Bool
 | .tmp i,.tmp j=>i == j
 | .cell i t,.cell j m agg=>i == j && varFits P t m agg
 | _,_=>false
def ressFit:List ResultVar→List ARes→Bool
 | [],[]=>true
 | r::rs,a::as=>resFits P r a && ressFit rs as
 | _,_=>false
def funcFits (f:FuncId) (F:AFunc):Bool :=
 match P.funcs[f]? with
 | some fn=>(match fn.body with
  | some c => fn.name != "runtime.NumGoroutine" && fn.ntmps == F.ntmps && ressFit P fn.results.toList F.results && codeFits P gl F.sites c F.body
  | none=>false)
 | none=>false
end
end Go.Proofs.YtgkhmmlemgikjaaGreatDoor.Ai
namespace Go.Proofs.YtgkhmmlemgikjaaGreatDoor.Ai
open Go
section
variable {J:Inj}
mutual
theorem constFits_rep:∀(a:AV) (v:Value),constFits a v=true→Rep J a v
 | .bool b,v,h=>by cases v<;>simp [constFits] at h;simp [Rep,h]
 | .int k n,v,h=>by cases v<;>simp [constFits] at h;simp [Rep,h]
 | .str l,v,h=>by cases v<;>simp [constFits] at h;simp [Rep,h]
 | .lst m es ap,v,h=>by
  cases es with
  | cons e es=>cases v<;>simp [constFits] at h
  | nil =>
   cases ap with
   | no=>cases v<;>simp [constFits] at h
   | tok id=>cases v<;>simp [constFits] at h
   | tight =>
    cases v with
    | slice a len cap =>
     cases a with
     | some a=>simp [constFits] at h
     | none =>
      cases len with
      | succ n=>simp [constFits] at h
      | zero =>
       cases cap with
       | succ n=>simp [constFits] at h
       | zero=>simp [Rep]
    | _=>simp [constFits] at h
 | .nilFunc,v,h=>by cases v<;>simp [constFits] at h;simp [Rep]
 | .nilIface,v,h=>by cases v<;>simp [constFits] at h;simp [Rep]
 | .nilPtr,v,h=>by
  cases v with
  | pointer a=>cases a with
   | none=>simp [Rep]
   | some a=>simp [constFits] at h
  | _=>simp [constFits] at h
 | .nilMap,v,h=>by
  cases v with
  | map a=>cases a with
   | none=>simp [Rep]
   | some a=>simp [constFits] at h
  | _=>simp [constFits] at h
 | .nilSl,v,h=>by
  cases v with
  | slice a len cap =>
   cases a with
   | some a=>simp [constFits] at h
   | none =>
    cases len with
    | succ n=>simp [constFits] at h
    | zero =>
     cases cap with
     | succ n=>simp [constFits] at h
     | zero=>simp [Rep]
  | _=>simp [constFits] at h
 | .agg cs,v,h=>by
  cases v with
  | agg arr=>simp only [constFits,Bool.and_eq_true] at h;simp only [Rep];exact ⟨arr,rfl,constsFit_reps cs _ h.1,h.2⟩
  | _=>simp [constFits] at h
 | .tup vs,v,h=>by
  cases v with
  | tuple arr=>simp only [constFits] at h;simp only [Rep];exact ⟨arr,rfl,constsFit_reps vs _ h⟩
  | _=>simp [constFits] at h
 | .func fn a b,v,h=>by
  cases fn with
  | func f =>
   cases a with
   | cons x a=>cases v<;>simp [constFits] at h
   | nil =>
    cases b with
    | cons x b=>cases v<;>simp [constFits] at h
    | nil =>
     cases v with
     | func fn' a' b' =>
      cases fn' with
      | func g =>
       simp only [constFits,Bool.and_eq_true,beq_iff_eq,Array.isEmpty_iff] at h
       obtain ⟨⟨rfl,rfl⟩,rfl⟩:=h
       simp [Rep,Reps]
      | _=>simp [constFits] at h
     | _=>simp [constFits] at h
  | _=>cases v<;>simp [constFits] at h
 | .iface t x,v,h=>by cases v<;>simp [constFits] at h
 | .sl r m off len cap,v,h=>by cases v<;>simp [constFits] at h
 | .ptr r off,v,h=>by cases v<;>simp [constFits] at h
 | .iptr x,v,h=>by cases v<;>simp [constFits] at h
 | .map r,v,h=>by cases v<;>simp [constFits] at h
 | .any,v,h=>by cases v<;>simp [constFits] at h
theorem constsFit_reps:∀(vs:List AV) (xs:List Value),constsFit vs xs=true→Reps J vs xs
 | [],xs,h=>by simp [constsFit] at h;simp [Reps,h]
 | v::vs,[],h=>by simp [constsFit] at h
 | v::vs,x::xs,h=>by
  simp only [constsFit,Bool.and_eq_true] at h
  simp only [Reps];exact ⟨x,xs,rfl,constFits_rep v x h.1,constsFit_reps vs xs h.2⟩
end
mutual
theorem beq_eq:∀(a b:AV),AV.beq a b=true→a=b
 | .bool a,y,h=>by cases y<;>simp [AV.beq] at h;rw [h]
 | .int k a,y,h=>by cases y<;>simp [AV.beq] at h;rw [h.1,h.2]
 | .str a,y,h=>by cases y<;>simp [AV.beq] at h;rw [h]
 | .agg a,y,h=>by
  cases y<;>simp [AV.beq] at h;rw [beqs_eq a _ h]
 | .tup a,y,h=>by cases y<;>simp [AV.beq] at h;rw [beqs_eq a _ h]
 | .func f a b,y,h=>by
  cases y<;>simp [AV.beq] at h;rw [h.1.1,beqs_eq a _ h.1.2,beqs_eq b _ h.2]
 | .nilFunc,y,h=>by cases y<;>simp [AV.beq] at h;rfl
 | .iface t v,y,h=>by cases y<;>simp [AV.beq] at h;rw [h.1,beq_eq v _ h.2]
 | .nilIface,y,h=>by cases y<;>simp [AV.beq] at h;rfl
 | .lst m a p,y,h=>by
  cases y<;>simp [AV.beq] at h;rw [h.1.1,beqs_eq a _ h.1.2,h.2]
 | .sl a b c d e,y,h=>by cases y<;>simp [AV.beq] at h;rw [h.1.1.1.1,h.1.1.1.2,h.1.1.2,h.1.2,h.2]
 | .ptr a b,y,h=>by cases y<;>simp [AV.beq] at h;rw [h.1,h.2]
 | .iptr a,y,h=>by cases y<;>simp [AV.beq] at h;rw [beq_eq a _ h]
 | .nilPtr,y,h=>by cases y<;>simp [AV.beq] at h;rfl
 | .map a,y,h=>by cases y<;>simp [AV.beq] at h;rw [h]
 | .nilMap,y,h=>by cases y<;>simp [AV.beq] at h;rfl
 | .nilSl,y,h=>by cases y<;>simp [AV.beq] at h;rfl
 | .any,y,h=>by cases y<;>simp [AV.beq] at h;rfl
theorem beqs_eq:∀(a b:List AV),AV.beqs a b=true→a=b
 | [],y,h=>by cases y<;>simp [AV.beqs] at h;rfl
 | a::x,y,h=>by
  cases y<;>simp [AV.beqs] at h;rw [beq_eq a _ h.1,beqs_eq x _ h.2]
end
mutual
theorem beq_refl:∀(a:AV),AV.beq a a=true
 | .bool a=>by simp [AV.beq]
 | .int k a=>by simp [AV.beq]
 | .str a=>by simp [AV.beq]
 | .agg a=>by simp [AV.beq,beqs_refl a]
 | .tup a=>by simp [AV.beq,beqs_refl a]
 | .func f a b=>by simp [AV.beq,beqs_refl a,beqs_refl b]
 | .nilFunc=>by simp [AV.beq]
 | .iface t v=>by simp [AV.beq,beq_refl v]
 | .nilIface=>by simp [AV.beq]
 | .lst m a p=>by simp [AV.beq,beqs_refl a]
 | .sl a b c d e=>by simp [AV.beq]
 | .ptr a b=>by simp [AV.beq]
 | .iptr a=>by simp [AV.beq,beq_refl a]
 | .nilPtr=>by simp [AV.beq]
 | .map a=>by simp [AV.beq]
 | .nilMap=>by simp [AV.beq]
 | .nilSl=>by simp [AV.beq]
 | .any=>by simp [AV.beq]
theorem beqs_refl:∀(a:List AV),AV.beqs a a=true
 | []=>by simp [AV.beqs]
 | a::x=>by simp [AV.beqs,beq_refl a,beqs_refl x]
end
def GlOk (gl:List (Nat×AV)) (J:Inj):Prop:=∀g v,(gl.find? fun e=>e.1 == g)=some (g,v)→Rep J (.iptr v) (.pointer (some ⟨g,0,none⟩))
theorem GlOk.mono {gl:List (Nat×AV)} {J J':Inj} (h:GlOk gl J) (hJ:J.le J'):GlOk gl J':=fun g v e=>Rep.mono hJ _ _ (h g v e)
theorem Rep.asLst {v:AV} {x:Value} (h:Rep J v x) {m:Nat}:Rep J (v.asLst m) x:=by
 unfold AV.asLst
 split
 ·simp only [Rep] at h ⊢
  exact ⟨fun id e=>(by cases e),.inl ⟨h,by simp⟩⟩
 ·exact h
theorem xFits_rep {gl:List (Nat×AV)} {e:Env} {a:Act} {o:Operand} {x:AX} (hE:Reps J e a.tmps.toList) (hG:GlOk gl J) (h:xFits gl o x=true):Rep J (x.ev e) (a.eval o):=by
 cases o with
 | tmp i =>
  cases x with
  | t j=>simp [xFits] at h;subst h;exact hE.getD i
  | k v=>simp [xFits] at h
 | const v =>
  cases x with
  | t j=>simp [xFits] at h
  | k a=>simp only [xFits] at h;exact constFits_rep _ _ h
 | global g =>
  cases x with
  | t j=>simp [xFits] at h
  | k v =>
   cases v<;>simp only [xFits,Bool.false_eq_true] at h
   rename_i v
   cases hf:gl.find? fun e=>e.1 == g with
   | none=>simp [hf] at h
   | some p =>
    obtain ⟨g',u⟩:=p
    have hp:=List.find?_some hf
    simp at hp;subst hp
    simp [hf] at h
    have:=beq_eq _ _ h
    subst this
    exact hG g' u hf
 | func f =>
  cases x with
  | t j=>simp [xFits] at h
  | k v =>
   cases v with
   | func fn a b =>
    cases fn with
    | func g =>
     cases a with
     | cons _ _=>simp [xFits] at h
     | nil=>cases b with
      | cons _ _=>simp [xFits] at h
      | nil=>simp [xFits] at h;subst h;simp [AX.ev,Act.eval,Rep,Reps]
    | _=>simp [xFits] at h
   | _=>simp [xFits] at h
theorem xsFit_reps {gl:List (Nat×AV)} {e:Env} {a:Act} (hE:Reps J e a.tmps.toList) (hG:GlOk gl J):∀{os:List Operand} {xs:List AX},xsFit gl os xs=true→Reps J (xs.map (AX.ev e)) (os.map a.eval)
 | [],[],_=>by simp [Reps]
 | [],_::_,h=>by simp [xsFit] at h
 | _::_,[],h=>by simp [xsFit] at h
 | o::os,x::xs,h=>by
  simp only [xsFit,Bool.and_eq_true] at h
  simp only [List.map_cons,Reps];exact ⟨_,_,rfl,xFits_rep hE hG h.1,xsFit_reps hE hG h.2⟩
end
/-! ### Cells read and written -/
theorem add_none {a:Addr} (h:a.spot=none) (n:Nat):a.add n=⟨a.block,a.off+n,none⟩:=by
 unfold Addr.add
 split
 ·rename_i e;subst e;cases a;simp at h ⊢;exact h
 ·cases a;simp at h ⊢;
theorem run_loadCellsFrom (P:Program) (w:World) (a:Addr):∀(n i:Nat) (acc:Array Value) (xs:List Value),xs.length=n →
  (∀(j:Nat) v,xs[j]?=some v→w.cell? (a.add (i+j))=some v)→(loadCellsFrom a i n acc).run P w=.ok (acc++xs.toArray) w
 | 0,i,acc,xs,hl,_=>by
  have:xs=[]:=List.eq_nil_of_length_eq_zero hl
  subst this;simp [loadCellsFrom]
 | n+1,i,acc,[],hl,_=>by simp at hl
 | n+1,i,acc,x::xs,hl,h=>by
  have h0:=h 0 x (by simp)
  simp only [loadCellsFrom,Sem.run_bind,run_load]
  rw [show a.add i=a.add (i+0) from rfl,h0]
  simp only [Result.andThen_ok]
  rw [run_loadCellsFrom P w a n (i+1) _ xs (by simpa using hl) (fun j v e=>by rw [show i+1+j=i+(j+1) by omega];exact h (j+1) v (by simpa using e))]
  congr 1
  apply Array.toList_inj.1;simp
theorem run_loadCells (P:Program) (w:World) (a:Addr) (xs:List Value) (h:∀(j:Nat) v,xs[j]?=some v→w.cell? (a.add j)=some v) :
  (loadCells a xs.length).run P w=.ok xs.toArray w:=by
 unfold loadCells
 rw [run_loadCellsFrom P w a xs.length 0 #[] xs rfl (fun j v e=>by rw [Nat.zero_add];exact h j v e)]
 simp
def putV:Array Value→Nat→List Value→Array Value
 | c,_,[]=>c
 | c,o,x::xs=>putV (c.setIfInBounds o x) (o+1) xs
theorem putV_size:∀(xs:List Value) (c:Array Value) (o:Nat),(putV c o xs).size=c.size
 | [],_,_=>rfl
 | x::xs,c,o=>by simp [putV,putV_size xs]
theorem setCell_heap {w:World} {b o:Nat} {c:Array Value} {t:TypeId} {fr:Nat×Nat} (v:Value) (h:w.heap[b]?=some (.cells c t fr)) :
  (w.setCell ⟨b,o,none⟩ v).heap[b]?=some (.cells (c.setIfInBounds o v) t fr):=by
 simp [World.setCell,Array.getElem?_modify,h]
theorem setCell_other {w:World} {b o b':Nat} (v:Value) (h:b'≠b):(w.setCell ⟨b,o,none⟩ v).heap[b']?=w.heap[b']?:=by
 simp [World.setCell,Array.getElem?_modify,Ne.symm h]
theorem run_storeCells (P:Program) (a:Addr) (ha:a.spot=none) (t:TypeId) (fr:Nat×Nat):∀(xs:List Value) (w:World) (i:Nat) (c:Array Value),
  w.heap[a.block]?=some (.cells c t fr)→Clear fr c.size→a.off+i+xs.length≤c.size→(∀x∈xs,x.oneCell'=true) →
  ∃w',(storeCells a xs i).run P w=.ok () w'∧w'.os=w.os∧w'.output=w.output∧w'.heap.size=w.heap.size∧(∀b',b'≠a.block→w'.heap[b']?=w.heap[b']?) ∧
   w'.heap[a.block]?=some (.cells (putV c (a.off+i) xs) t fr)
 | [],w,i,c,h,_,_,_=>⟨w,by simp [storeCells],rfl,rfl,rfl,fun _ _=>rfl,h⟩
 | x::xs,w,i,c,h,hc,hl,hx=>by
  have hcell:w.cell? ⟨a.block,a.off+i,none⟩=some (c[a.off+i]'(by simp at hl;omega)):=by rw [cell_of_heap h];simp at hl ⊢
  have hfr:w.frozen? ⟨a.block,a.off+i,none⟩=false:=by
   have:=hc (a.off+i) (by simp at hl;omega)
   simp only [World.frozen?,h]
   simp only [Bool.and_eq_false_iff,decide_eq_false_iff_not]
   omega
  have hh:=setCell_heap (o:=a.off+i) x h
  obtain ⟨w',h1,h2,h3,h4,h5,h6⟩:=run_storeCells P a ha t fr xs (w.setCell ⟨a.block,a.off+i,none⟩ x) (i+1) (c.setIfInBounds (a.off+i) x) hh (by simpa using hc) (by simp at hl ⊢;omega) (fun y hy=>hx y (by simp [hy]))
  refine ⟨w',?_,h2,h3,by rw [h4];simp [World.setCell],fun b' hb=>by rw [h5 b' hb,setCell_other x hb],?_⟩
  ·simp only [storeCells,Sem.run_bind]
   rw [run_store _ _ _ _ _ (hx x (by simp)),add_none ha,hcell]
   simp only [hfr,Bool.false_eq_true,if_false,Result.andThen_ok]
   exact h1
  ·rw [h6];rfl
theorem putCells_reps {J:Inj}:∀(vs:List AV) (xs:List Value) (cs:List AV) (c:Array Value) (o n:Nat),Reps J vs xs→Reps J cs (c.toList.take n) →
  Reps J (putCells cs o vs) ((putV c o xs).toList.take n)
 | [],xs,cs,c,o,n,h,h'=>by simp only [Reps] at h;subst h;exact h'
 | v::vs,xs,cs,c,o,n,h,h'=>by
  simp only [Reps] at h;obtain ⟨y,ys,rfl,h1,h2⟩:=h
  simp only [putCells,putV]
  refine putCells_reps vs ys _ _ _ n h2 ?_
  rw [Array.toList_setIfInBounds,List.take_set]
  exact h'.set o h1
theorem putCells_length:∀(vs:List AV) (cs:List AV) (o:Nat),(putCells cs o vs).length=cs.length
 | [],_,_=>rfl
 | v::vs,cs,o=>by simp [putCells,putCells_length vs]
theorem putCells_isCell:∀(vs:List AV) (cs:List AV) (o:Nat),cs.all AV.isCell=true→vs.all AV.isCell=true→(putCells cs o vs).all AV.isCell=true
 | [],_,_,h,_=>h
 | v::vs,cs,o,h,h'=>by
  simp only [List.all_cons,Bool.and_eq_true] at h'
  refine putCells_isCell vs _ _ ?_ h'.2
  rw [List.all_eq_true] at h ⊢
  intro x hx
  rcases List.mem_or_eq_of_mem_set hx with hx | hx
  ·exact h x hx
  ·rw [hx];exact h'.1
theorem Reps.oneCells {J:Inj}:∀{vs:List AV} {xs:List Value},Reps J vs xs→vs.all AV.isCell=true→∀x∈xs,x.oneCell'=true
 | [],xs,h,_,x,hx=>by simp only [Reps] at h;subst h;simp at hx
 | v::vs,xs,h,hc,x,hx=>by
  simp only [Reps] at h;obtain ⟨y,ys,rfl,h1,h2⟩:=h
  simp only [List.all_cons,Bool.and_eq_true] at hc
  rcases List.mem_cons.1 hx with rfl | hx
  ·exact (h1.oneCell hc.1).1
  ·exact h2.oneCells hc.2 x hx
end Go.Proofs.YtgkhmmlemgikjaaGreatDoor.Ai
namespace Go.Proofs.YtgkhmmlemgikjaaGreatDoor.Ai
open Go
section
variable {P:Program} {w:World}
theorem r_under {t:TypeId} {d:TypeDesc} (h:P.underlying t=some d):(underlying t).run P w=.ok d w:=by simp [underlying,h]
theorem r_info {t:TypeId} {i:TypeInfo} (h:P.info? t=some i):(typeInfo t).run P w=.ok i w:=by simp [typeInfo,h]
theorem r_size {t:TypeId} {m:Nat} (h:sizeT P t=some m):(sizeOf t).run P w=.ok m w:=by
 unfold sizeT at h
 cases hi:P.info? t with
 | none=>simp [hi] at h
 | some i=>simp [hi] at h;simp [sizeOf,r_info hi,h]
theorem r_isAgg {t:TypeId} {agg:Bool} (h:isAggT P t=some agg):(isAgg t).run P w=.ok agg w:=by
 unfold isAggT at h
 cases hu:P.underlying t with
 | none=>simp [hu] at h
 | some d=>cases d<;>simp [hu] at h<;>simp [isAgg,r_under hu,←h]
theorem r_zero {t:TypeId} {v:Value} (h:(P.info? t).bind (·.zero)=some v):(zeroValue t).run P w=.ok v w:=by
 cases hi:P.info? t with
 | none=>simp [hi] at h
 | some i=>simp [hi] at h;simp [zeroValue,r_info hi,h]
theorem varFits_iff {t:TypeId} {m:Nat} {agg:Bool} (h:varFits P t m agg=true):sizeT P t=some m∧isAggT P t=some agg∧(agg=false→m=1):=by
 simp [varFits] at h
 refine ⟨h.1.1,h.1.2,fun e=>?_⟩
 rcases h.2 with h | h
 ·rw [e] at h;cases h
 ·exact h
theorem r_loadVar {t:TypeId} {m:Nat} {agg:Bool} (hv:varFits P t m agg=true) {a:Addr} (ha:a.spot=none) (xs:List Value) (hl:xs.length=m)
  (h:∀(j:Nat) v,xs[j]?=some v→w.cell? ⟨a.block,a.off+j,none⟩=some v) :
  (loadVar t a).run P w=.ok (if agg then .agg xs.toArray else xs.headD Go.undef) w:=by
 obtain ⟨h1,h2,h3⟩:=varFits_iff hv
 unfold loadVar
 simp only [Sem.run_bind,r_isAgg h2,Result.andThen_ok]
 cases agg with
 | true =>
  simp only [if_true,Sem.run_bind,r_size h1,Result.andThen_ok]
  rw [←hl,run_loadCells P w a xs (fun j v e=>by rw [add_none ha];exact h j v e)]
  simp
 | false =>
  have hm:=h3 rfl
  simp only [Bool.false_eq_true,if_false]
  cases xs with
  | nil=>simp at hl;omega
  | cons x xs =>
   have:=h 0 x (by simp)
   have hh:w.cell? a=some x:=by
    have e:a=⟨a.block,a.off+0,none⟩:=by cases a;simp at ha ⊢;exact ha
    rw [e];exact this
   simp [run_load,hh]
end
def Did (P:Program) (K:Sites) (base:Bs) (J:Inj) (s:Sem Next) (w:World) (v:AV) (st':St):Prop :=
 ∃J' w' x,J.le J'∧Sim K base J' st' w'∧Rep J' v x∧(s.run P w=.ok (.value x) w'∨(s.run P w=.ok .skip w'∧x=Go.undef))
section
variable {P:Program} {gl:List (Nat×AV)} {K:Sites} {base:Bs} {J:Inj} {st st':St} {w:World} {a:Act} {e:Env} {o:Oper} {v:AV}
theorem Did.same {s:Sem Next} {x:Value} (hS:Sim K base J st w) (hr:Rep J v x) (h:s.run P w=.ok (.value x) w):Did P K base J s w v st :=
 ⟨J,w,x,Inj.le.refl J,hS,hr,.inl h⟩
theorem Did.of {s:Sem Next} {J':Inj} {w':World} {x:Value} (hJ:J.le J') (hS:Sim K base J' st' w') (hr:Rep J' v x) (h:s.run P w=.ok (.value x) w'):Did P K base J s w v st' :=
 ⟨J',w',x,hJ,hS,hr,.inl h⟩
variable (hS:Sim K base J st w) (hE:Reps J e a.tmps.toList) (hG:GlOk gl J)
include hS hE hG
theorem did_mov {y:AX} (hf:opFits P gl o.op (.mov y)=true) (h:opA (.mov y) e st=some (.val v st')):Did P K base J (execOp a.eval o) w v st':=by
 simp only [opA,Option.some.injEq,Nx.val.injEq] at h
 obtain ⟨rfl,rfl⟩:=h
 cases ho:o.op<;>simp only [ho,opFits,Bool.false_eq_true] at hf
 all_goals exact Did.same hS (xFits_rep hE hG hf) (by simp [execOp,ho])
theorem did_movT {y:AX} (hf:opFits P gl o.op (.movT y)=true) (h:opA (.movT y) e st=some (.val v st')):Did P K base J (execOp a.eval o) w v st':=by
 simp only [opA] at h
 split at h
 ·rename_i m hy
  simp only [Option.some.injEq,Nx.val.injEq] at h
  obtain ⟨rfl,rfl⟩:=h
  have key:∀x,xFits gl x y=true→∃s,a.eval x=.slice s 0 0:=by
   intro x hx
   have:=xFits_rep hE hG hx
   rw [hy] at this
   simp only [Rep] at this
   obtain ⟨_,⟨h,_⟩ | ⟨ad,cap,h,_,_,h5,_⟩⟩:=this
   ·exact ⟨none,h⟩
   ·have:=h5 trivial;simp at this;subst this;exact ⟨some ad,by simpa using h⟩
  have fin:∀x,xFits gl x y=true→((execOp a.eval o).run P w=.ok (.value (a.eval x)) w)→Did P K base J (execOp a.eval o) w (.lst m [] (.tok st.length)) (st++[.tok m 0 none]):=by
   intro x hx hr
   obtain ⟨s,hs⟩:=key x hx
   obtain ⟨hle,hS'⟩:=hS.tokAdd0 m s
   refine Did.of hle hS' ?_ hr
   rw [hs]
   simp only [Rep]
   refine ⟨fun id hid=>?_,?_⟩
   ·cases hid;simp [Inj.tokNil]
   ·cases s with
    | none=>exact .inl ⟨rfl,trivial⟩
    | some ad =>
     have:=xFits_rep hE hG hx
     rw [hy,hs] at this
     simp only [Rep] at this
     obtain ⟨_,⟨h,_⟩ | ⟨ad',cap,h,h3,h4,h5,h6⟩⟩:=this
     ·cases h
     ·cases h
      refine .inr ⟨ad,0,rfl,h3,Nat.le_refl _,fun h=>(by cases h),?_⟩
      simp [Elems]
  cases ho:o.op<;>simp only [ho,opFits,Bool.false_eq_true] at hf
  all_goals exact fin _ hf (by simp [execOp,ho])
 ·cases h
theorem did_pick {c x y:AX} (hf:opFits P gl o.op (.pick c x y)=true) (h:opA (.pick c x y) e st=some (.val v st')):Did P K base J (execOp a.eval o) w v st':=by
 cases ho:o.op<;>simp only [ho,opFits,Bool.false_eq_true] at hf
 simp only [Bool.and_eq_true] at hf
 simp only [opA] at h
 split at h
 ·rename_i t hc
  simp only [Option.some.injEq,Nx.val.injEq] at h
  obtain ⟨rfl,rfl⟩:=h
  have h1:=xFits_rep hE hG hf.1.1
  rw [hc] at h1
  simp only [Rep] at h1
  cases t
  ·exact Did.same hS (xFits_rep hE hG hf.2) (by simp [execOp,ho,h1,asBool])
  ·exact Did.same hS (xFits_rep hE hG hf.1.2) (by simp [execOp,ho,h1,asBool])
 ·cases h
omit hE hG in
theorem did_newVar {s:Sem Next} {t:TypeId} {z:AV} {x:Value} {mu:Bool} {ty:Option TypeId} (hty:∀T,ty=some T→t=T) (hz:Rep J z x) (hv:z.isVar=true) (hc:z.cells.all AV.isCell=true)
  (hs:s.run P w=.ok (.value (.pointer (some ⟨w.heap.size,0,none⟩))) { w with heap:=w.heap.push (.cells x.cells t) })
  (h:(if mu=true then some (Nx.val (.ptr st.length 0) (st++[.cells ty z.cells])) else some (.val (.iptr z) st))=some (.val v st')):Did P K base J s w v st':=by
 cases mu with
 | true =>
  simp only [if_true,Option.some.injEq,Nx.val.injEq] at h
  obtain ⟨rfl,rfl⟩:=h
  have hr:=hz.cells
  refine Did.of (hS.bind_le _ x.cells.size) (hS.add (.cells x.cells t) (.cells ty z.cells) rfl (by simp) ?_) ?_ hs
  ·refine ⟨w.heap.size,x.cells,t,by simp [Inj.bind],⟨(0,0),by simp,Clear.zero _⟩,by have:=hr.length;simp at this;omega,?_,hc,fun T hT=>⟨hty T hT,by have:=hr.length;simp at this;omega⟩,x.cells.size,by simp [Inj.bind],by have:=hr.length;simp at this;omega,Nat.le_refl _⟩
   have hl:=hr.length
   rw [List.take_of_length_le (by omega)]
   exact Reps.mono (hS.bind_le _ _) _ _ hr
  ·simp only [Rep];exact ⟨w.heap.size,by simp [Inj.bind],rfl⟩
 | false =>
  simp only [Bool.false_eq_true,if_false,Option.some.injEq,Nx.val.injEq] at h
  obtain ⟨rfl,rfl⟩:=h
  refine Did.of (hS.stay_le x.cells) (hS.addStill x.cells t (0,0)) ?_ hs
  simp only [Rep]
  refine ⟨⟨w.heap.size,0,none⟩,x,rfl,rfl,Rep.mono (hS.stay_le _) _ _ hz,hv,fun i u hu=>?_⟩
  simp only [Inj.stay,if_true,Nat.zero_add]
  simpa using hu
omit hE hG in
theorem did_new {z:AV} {mu:Bool} {ty:Option TypeId} (hf:opFits P gl o.op (.new z mu ty)=true) (h:opA (.new z mu ty) e st=some (.val v st')):Did P K base J (execOp a.eval o) w v st':=by
 cases ho:o.op<;>simp only [ho,opFits,Bool.false_eq_true] at hf
 rename_i t
 simp only [Bool.and_eq_true,zeroFits] at hf
 obtain ⟨⟨hf,hc⟩,hty⟩:=hf
 split at hf
 ·rename_i x hx
  simp only [Bool.and_eq_true] at hf
  have hz:=constFits_rep (J:=J) _ _ hf.1
  refine did_newVar hS (t:=t) (ty:=ty) (fun T hT=>by rw [hT] at hty;simpa using (beq_iff_eq.1 hty).symm) hz hf.2 hc ?_ (by simpa [opA] using h)
  simp [execOp,ho,Instr.alloc,r_zero hx,newVar,newRow]
 ·cases hf
omit hS hE hG in
theorem valloc_run {m:Nat} (hf:opFits P gl o.op (.valloc m)=true):∃(c:Array Value) (t:TypeId),c.size=m∧(execOp a.eval o).run P w=.ok (.value (.pointer (some ⟨w.heap.size,0,none⟩))) { w with heap:=w.heap.push (.cells c t (0,0)) }:=by
 cases ho:o.op<;>simp only [ho,opFits,Bool.false_eq_true] at hf
 rename_i t
 split at hf
 ·rename_i x hx
  refine ⟨x.cells,t,by simpa using hf,?_⟩
  simp [execOp,ho,Instr.alloc,r_zero hx,newVar,newRow]
 ·cases hf
omit hE hG in
theorem did_valloc {m:Nat} (hf:opFits P gl o.op (.valloc m)=true) (h:opA (.valloc m) e st=some (.val v st')):Did P K base J (execOp a.eval o) w v st':=by
 obtain ⟨c,t,_,hr⟩:=valloc_run (a:=a) (w:=w) hf
 simp only [opA] at h
 simp only [Option.some.injEq,Nx.val.injEq] at h
 obtain ⟨rfl,rfl⟩:=h
 exact Did.of (Inj.le.refl J) (hS.push _) (by simp [Rep,Value.oneCell',Value.cells]) hr
theorem did_box {m:Nat} {y:AX} {mu:Bool} (hf:opFits P gl o.op (.box m y mu)=true) (h:opA (.box m y mu) e st=some (.val v st')):Did P K base J (execOp a.eval o) w v st':=by
 cases ho:o.op<;>simp only [ho,opFits,Bool.false_eq_true] at hf
 rename_i t x
 simp only [Bool.and_eq_true] at hf
 simp only [opA] at h
 split at h
 ·rename_i hh
  refine did_newVar hS (t:=t) (fun _ hT=>by cases hT) (xFits_rep hE hG hf.2) ?_ hh.2 ?_ h
  ·cases hy:y.ev e<;>simp [AV.isVar]
   rw [hy] at hh;simp [AV.cells,AV.isCell] at hh
  ·simp [execOp,ho,Instr.box,newVar,newRow]
 ·cases h
theorem did_boxT {T:TypeId} {m:Nat} {y:AX} (hf:opFits P gl o.op (.boxT T m y)=true) (h:opA (.boxT T m y) e st=some (.val v st')):Did P K base J (execOp a.eval o) w v st':=by
 cases ho:o.op<;>simp only [ho,opFits,Bool.false_eq_true] at hf
 rename_i t x
 simp only [Bool.and_eq_true,beq_iff_eq] at hf
 obtain ⟨⟨hT,_⟩,hx⟩:=hf
 subst hT
 simp only [opA] at h
 split at h
 ·rename_i hh
  refine did_newVar hS (t:=t) (ty:=some t) (mu:=true) (fun _ hT=>Option.some.inj hT) (xFits_rep hE hG hx) ?_ hh.2 ?_ h
  ·cases hy:y.ev e<;>simp [AV.isVar]
   rw [hy] at hh;simp [AV.cells,AV.isCell] at hh
  ·simp [execOp,ho,Instr.box,newVar,newRow]
 ·cases h
theorem did_load {m:Nat} {agg:Bool} {y:AX} (hf:opFits P gl o.op (.load m agg y)=true) (h:opA (.load m agg y) e st=some (.val v st')):Did P K base J (execOp a.eval o) w v st':=by
 cases ho:o.op<;>simp only [ho,opFits,Bool.false_eq_true] at hf
 rename_i t x
 simp only [Bool.and_eq_true] at hf
 obtain ⟨hv,hx⟩:=hf
 have hr:=xFits_rep hE hG hx
 simp only [opA] at h
 cases hy:y.ev e<;>simp only [hy] at h<;>try (cases h;done)
 ·rename_i r off
  rw [hy] at hr
  simp only [Rep] at hr
  obtain ⟨b,hb,hx'⟩:=hr
  cases hst:st[r]? with
  | none=>simp [hst] at h
  | some ob =>
   cases ob<;>simp only [hst] at h<;>try (cases h;done)
   rename_i cs
   obtain ⟨b',c,tt,h1,⟨fr,h2,hfr⟩,h3,h4,h5,hty⟩:=hS.obj r _ hst
   rw [hb] at h1;cases h1
   cases htv:takeVar m agg cs off with
   | none=>simp [htv] at h
   | some u =>
    simp only [htv,Option.map_some,Option.some.injEq,Nx.val.injEq] at h
    obtain ⟨rfl,rfl⟩:=h
    obtain ⟨_,_,hm⟩:=varFits_iff hv
    have hcell:∀(j:Nat) x,(c.toList.drop off)[j]?=some x→w.cell? ⟨b,off+j,none⟩=some x:=by
     intro j x hj
     rw [cell_of_heap h2];rw [List.getElem?_drop] at hj;simpa using hj
    unfold takeVar at htv
    cases agg with
    | true =>
     simp only [if_true] at htv
     split at htv
     ·rename_i hle
      cases htv
      have hrr:Reps J ((cs.drop off).take m) ((c.toList.drop off).take m):=by
       have:=(h4.drop off).take m
       rw [List.drop_take,List.take_take] at this
       rwa [Nat.min_eq_left (by omega)] at this
      refine Did.same hS (x:=.agg ((c.toList.drop off).take m).toArray) ?_ ?_
      ·simp only [Rep]
       refine ⟨_,rfl,by simpa using hrr,?_⟩
       rw [List.all_eq_true] at h5 ⊢
       intro z hz;exact h5 z (List.mem_of_mem_drop (List.mem_of_mem_take hz))
      ·simp only [execOp,ho,Instr.loadAt,hx',Instr.sureAddr,Sem.run_bind,Sem.run_pure,Result.andThen_ok]
       rw [r_loadVar hv rfl ((c.toList.drop off).take m) (by simp;omega) (fun j x hj=>hcell j x (by rw [List.getElem?_take] at hj;split at hj;exact hj;cases hj))]
       simp
     ·cases htv
    | false =>
     simp only [Bool.false_eq_true,if_false] at htv
     have hm1:=hm rfl
     subst hm1
     obtain ⟨x,hx1,hx2⟩:=h4.get off u htv
     have hx3:c.toList[off]?=some x:=by rw [List.getElem?_take] at hx1;split at hx1;exact hx1;cases hx1
     refine Did.same hS hx2 ?_
     simp only [execOp,ho,Instr.loadAt,hx',Instr.sureAddr,Sem.run_bind,Sem.run_pure,Result.andThen_ok]
     rw [r_loadVar hv rfl [x] rfl (fun j y hj=>by
      cases j with
      | zero=>simp at hj;subst hj;exact hcell 0 x (by rw [List.getElem?_drop];exact hx3)
      | succ j=>simp at hj)]
     simp
 ·rename_i u
  rw [hy] at hr
  simp only [Rep] at hr
  obtain ⟨ad,y',hx',hsp,hry,hvar,hrow⟩:=hr
  obtain ⟨_,_,hm⟩:=varFits_iff hv
  have hcell:∀(j:Nat) x,y'.cells.toList[j]?=some x→w.cell? ⟨ad.block,ad.off+j,none⟩=some x:=fun j x hj=>hS.imOk _ _ _ (hrow j x hj)
  cases agg with
  | true =>
   simp only [if_true] at h
   cases u<;>simp only [] at h<;>try (cases h;done)
   rename_i cs
   split at h
   ·rename_i hl
    simp only [Option.some.injEq,Nx.val.injEq] at h
    obtain ⟨rfl,rfl⟩:=h
    have hry':=hry
    simp only [Rep] at hry
    obtain ⟨arr,rfl,hr1,_⟩:=hry
    refine Did.same hS hry' ?_
    simp only [execOp,ho,Instr.loadAt,hx',Instr.sureAddr,Sem.run_bind,Sem.run_pure,Result.andThen_ok]
    rw [r_loadVar hv hsp arr.toList (by rw [←hr1.length];exact hl) hcell]
    simp
   ·cases h
  | false =>
   simp only [Bool.false_eq_true,if_false] at h
   split at h
   ·rename_i hc
    simp only [Option.some.injEq,Nx.val.injEq] at h
    obtain ⟨rfl,rfl⟩:=h
    have hm1:=hm rfl
    subst hm1
    obtain ⟨_,hcs⟩:=hry.oneCell hc
    rw [hcs] at hcell
    refine Did.same hS hry ?_
    simp only [execOp,ho,Instr.loadAt,hx',Instr.sureAddr,Sem.run_bind,Sem.run_pure,Result.andThen_ok]
    rw [r_loadVar hv hsp [y'] rfl hcell]
    simp
   ·cases h
theorem did_store {m:Nat} {y z:AX} (hf:opFits P gl o.op (.store m y z)=true) (h:opA (.store m y z) e st=some (.val v st')):Did P K base J (execOp a.eval o) w v st':=by
 cases ho:o.op<;>simp only [ho,opFits,Bool.false_eq_true] at hf
 rename_i t x u
 simp only [Bool.and_eq_true,beq_iff_eq] at hf
 obtain ⟨⟨hv,hx⟩,hu⟩:=hf
 have hr:=xFits_rep hE hG hx
 have hru:=xFits_rep hE hG hu
 simp only [opA] at h
 cases hy:y.ev e<;>simp only [hy] at h<;>try (cases h;done)
 rename_i r off
 rw [hy] at hr
 simp only [Rep] at hr
 obtain ⟨b,hb,hx'⟩:=hr
 cases hst:st[r]? with
 | none=>simp [hst] at h
 | some ob =>
  cases ob<;>simp only [hst] at h<;>try (cases h;done)
  rename_i cs
  split at h
  ·rename_i hh
   obtain ⟨hl,hle,hcell⟩:=hh
   simp only [Option.some.injEq,Nx.val.injEq] at h
   obtain ⟨rfl,rfl⟩:=h
   obtain ⟨b',c,tt,h1,⟨fr,h2,hfr⟩,h3,h4,h5,hty⟩:=hS.obj r _ hst
   rw [hb] at h1;cases h1
   have hcs:=hru.cells
   have hlen:=hcs.length
   obtain ⟨w',g1,g2,g3,g4,g5,g6⟩:=run_storeCells P ⟨b,off,none⟩ rfl tt fr (a.eval u).cells.toList w 0 c h2 hfr (by simp at hlen ⊢;omega) (hcs.oneCells hcell)
   refine ⟨J,w',Go.undef,Inj.le.refl J,hS.upd hst hb rfl (by simp) rfl (by simp) g2 g3 g4 g5 ?_,Rep.undef,.inr ⟨?_,rfl⟩⟩
   ·refine ⟨b,_,tt,hb,⟨fr,g6,by rw [putV_size];exact hfr⟩,?_,?_,putCells_isCell _ _ _ h5 hcell,?_⟩
    ·rw [putCells_length,putV_size];exact h3
    ·rw [putCells_length];exact putCells_reps _ _ _ _ _ _ hcs h4
    ·rw [putCells_length,putV_size];exact hty
   ·have hsz:¬(a.eval u).cells.size≠m:=by simp at hlen;omega
    simp only [execOp,ho,Instr.storeAt,hx',Instr.sureAddr,Sem.run_bind,Sem.run_pure,Result.andThen_ok,storeVar,r_size hv,hsz,if_false,g1]
  ·cases h
theorem did_nilCheck {y:AX} (hf:opFits P gl o.op (.nilCheck y)=true) (h:opA (.nilCheck y) e st=some (.val v st')):Did P K base J (execOp a.eval o) w v st':=by
 cases ho:o.op<;>simp only [ho,opFits,Bool.false_eq_true] at hf
 rename_i x
 have hr:=xFits_rep hE hG hf
 simp only [opA] at h
 cases hy:y.ev e<;>simp only [hy] at h<;>try (cases h;done)
 all_goals
  simp only [Option.some.injEq,Nx.val.injEq] at h
  obtain ⟨rfl,rfl⟩:=h
  rw [hy] at hr
  refine Did.same hS hr ?_
 ·rename_i fn b c
  cases fn<;>simp only [Rep] at hr
  ·obtain ⟨a',b',e',_⟩:=hr;simp [execOp,ho,e']
  ·obtain ⟨_,_,l,_,e'⟩:=hr;simp [execOp,ho,e']
 ·simp only [Rep] at hr;obtain ⟨b,_,e'⟩:=hr;simp [execOp,ho,e']
 ·simp only [Rep] at hr;obtain ⟨ad,y',e',_⟩:=hr;simp [execOp,ho,e']
theorem did_extract {y:AX} {i:Nat} (hf:opFits P gl o.op (.extract y i)=true) (h:opA (.extract y i) e st=some (.val v st')):Did P K base J (execOp a.eval o) w v st':=by
 cases ho:o.op<;>simp only [ho,opFits,Bool.false_eq_true] at hf
 rename_i x j
 simp only [Bool.and_eq_true,beq_iff_eq] at hf
 obtain ⟨rfl,hf⟩:=hf
 have hr:=xFits_rep hE hG hf
 simp only [opA] at h
 cases hy:y.ev e<;>simp only [hy] at h<;>try (cases h;done)
 rename_i vs
 cases hv:vs[i]? with
 | none=>simp [hv] at h
 | some u =>
  simp only [hv,Option.map_some,Option.some.injEq,Nx.val.injEq] at h
  obtain ⟨rfl,rfl⟩:=h
  rw [hy] at hr
  simp only [Rep] at hr
  obtain ⟨arr,e',hr⟩:=hr
  obtain ⟨z,hz,hrz⟩:=hr.get i u hv
  have hz':arr[i]?=some z:=by simpa using hz
  exact Did.same hS hrz (by simp [execOp,ho,e',Instr.extract,hz'])
theorem did_mkIface {t:TypeId} {y:AX} (hf:opFits P gl o.op (.mkIface t y)=true) (h:opA (.mkIface t y) e st=some (.val v st')):Did P K base J (execOp a.eval o) w v st':=by
 cases ho:o.op<;>simp only [ho,opFits,Bool.false_eq_true] at hf
 rename_i u x
 simp only [Bool.and_eq_true,beq_iff_eq] at hf
 obtain ⟨⟨rfl,hk⟩,hf⟩:=hf
 have hr:=xFits_rep hE hG hf
 simp only [opA,Option.some.injEq,Nx.val.injEq] at h
 obtain ⟨rfl,rfl⟩:=h
 refine Did.same hS (x:=.iface t (a.eval x)) (by simp only [Rep];exact ⟨_,rfl,hr⟩) ?_
 unfold isK at hk
 split at hk
 ·rename_i d hd
  simp only [execOp,ho,Instr.makeInterface,Sem.run_bind,r_under hd,Result.andThen_ok]
  cases d<;>simp at hk ⊢
 ·cases hk
theorem did_mkFunc {f:FuncId} {ys zs:List AX} (hf:opFits P gl o.op (.mkFunc f ys zs)=true) (h:opA (.mkFunc f ys zs) e st=some (.val v st')):Did P K base J (execOp a.eval o) w v st':=by
 cases ho:o.op<;>simp only [ho,opFits,Bool.false_eq_true] at hf
 rename_i fn ss cs
 cases fn<;>simp only [Bool.false_eq_true] at hf
 simp only [Bool.and_eq_true,beq_iff_eq] at hf
 obtain ⟨⟨rfl,h1⟩,h2⟩:=hf
 simp only [opA,Option.some.injEq,Nx.val.injEq] at h
 obtain ⟨rfl,rfl⟩:=h
 refine Did.same hS (x:=.func (.func f) (ss.map a.eval) (cs.map a.eval)) ?_ (by simp [execOp,ho,Instr.makeFunc])
 simp only [Rep]
 exact ⟨_,_,rfl,by simpa using xsFit_reps hE hG h1,by simpa using xsFit_reps hE hG h2⟩
omit hE hG in
theorem did_mkMap (hf:opFits P gl o.op .mkMap=true) (h:opA .mkMap e st=some (.val v st')):Did P K base J (execOp a.eval o) w v st':=by
 cases ho:o.op<;>simp only [ho,opFits,Bool.false_eq_true] at hf
 rename_i t r
 cases r<;>simp only [Bool.false_eq_true] at hf
 simp only [opA,Option.some.injEq,Nx.val.injEq] at h
 obtain ⟨rfl,rfl⟩:=h
 refine Did.of (hS.bind_le _ 0) (hS.add (.map #[] 0) (.map []) rfl (by simp) ?_) ?_ (x:=.map (some w.heap.size)) ?_
 ·exact ⟨w.heap.size,#[],0,by simp [Inj.bind],by simp,by simp [RepsM]⟩
 ·simp only [Rep];exact ⟨w.heap.size,by simp [Inj.bind],rfl⟩
 ·simp [execOp,ho,Instr.makeMap]
end
end Go.Proofs.YtgkhmmlemgikjaaGreatDoor.Ai
namespace Go.Proofs.YtgkhmmlemgikjaaGreatDoor.Ai
open Go
theorem bytesLess_eq:∀x y:List UInt8,bytesLess x y=Op.bytesLess x y
 | x,[]=>by cases x<;>simp [bytesLess,Op.bytesLess]
 | [],_::_=>by simp [bytesLess,Op.bytesLess]
 | a::x,b::y=>by rw [bytesLess,Op.bytesLess,bytesLess_eq x y]
theorem baToList (b:ByteArray):b.toList=b.data.toList:=by
 have key:∀(n i:Nat) (r:List UInt8),b.size-i=n→ByteArray.toList.loop b i r=r.reverse++b.data.toList.drop i:=by
  intro n
  induction n with
  | zero =>
   intro i r hi
   unfold ByteArray.toList.loop
   rw [if_neg (by omega)]
   have:b.data.toList.drop i=[]:=by
    rw [List.drop_eq_nil_iff];simp;omega
   rw [this];simp
  | succ n ih =>
   intro i r hi
   unfold ByteArray.toList.loop
   rw [if_pos (by omega),ih (i+1) _ (by omega)]
   have hlt:i<b.data.toList.length:=by simp;omega
   rw [List.drop_eq_getElem_cons hlt]
   have:b.get! i=b.data.toList[i]:=by
    have h':i<b.data.size:=by simpa using hlt
    show b.data[i]! = _
    rw [getElem!_pos b.data i h'];simp
   rw [this];simp
 have:=key b.size 0 [] (by omega)
 simpa [ByteArray.toList] using this
theorem baAppend (x y:ByteArray):(x++y).data.toList=x.data.toList++y.data.toList:=by
 simp [ByteArray.data_append]
section
variable {P:Program} {w:World} {t:TypeId}
theorem r_equal {x y:Value} {b:Bool} (h:(Op.equalIn (9999+1) t x y).run P w=.ok b w):(Op.equal t x y).run P w=.ok b w:=h
theorem r_eqBool (h:P.underlying t=some .bool) (a b:Bool):(Op.equal t (.bool a) (.bool b)).run P w=.ok (a == b) w :=
 r_equal (by rw [Op.equalIn];simp [r_under h])
theorem r_eqPtrL {el:TypeId} (h:P.underlying t=some (.pointer el)) (q:Option Addr):(Op.equal t (.pointer none) (.pointer q)).run P w=.ok q.isNone w :=
 r_equal (by rw [Op.equalIn];simp [r_under h])
theorem r_eqPtrR {el:TypeId} (h:P.underlying t=some (.pointer el)) (q:Addr):(Op.equal t (.pointer (some q)) (.pointer none)).run P w=.ok false w :=
 r_equal (by rw [Op.equalIn];simp [r_under h])
theorem r_eqIfL {ms:Array (String×TypeId)} (h:P.underlying t=some (.interface ms)) (u:TypeId) (q:Value):(Op.equal t .nilIface (.iface u q)).run P w=.ok false w :=
 r_equal (by rw [Op.equalIn];simp [r_under h])
theorem r_eqIfR {ms:Array (String×TypeId)} (h:P.underlying t=some (.interface ms)) (u:TypeId) (q:Value):(Op.equal t (.iface u q) .nilIface).run P w=.ok false w :=
 r_equal (by rw [Op.equalIn];simp [r_under h])
theorem r_eqIfN {ms:Array (String×TypeId)} (h:P.underlying t=some (.interface ms)):(Op.equal t .nilIface .nilIface).run P w=.ok true w :=
 r_equal (by rw [Op.equalIn];simp [r_under h])
end
section
variable {P:Program} {gl:List (Nat×AV)} {K:Sites} {base:Bs} {J:Inj} {st st':St} {w:World} {a:Act} {e:Env} {o:Oper} {v:AV}
variable (hS:Sim K base J st w) (hE:Reps J e a.tmps.toList) (hG:GlOk gl J)
include hS hE hG
theorem did_bin {op:BinOp} {y z:AX} (hf:opFits P gl o.op (.bin op y z)=true) (h:opA (.bin op y z) e st=some (.val v st')):Did P K base J (execOp a.eval o) w v st':=by
 cases ho:o.op<;>simp only [ho,opFits,Bool.false_eq_true] at hf
 rename_i op' t x u t'
 simp only [Bool.and_eq_true,beq_iff_eq] at hf
 obtain ⟨⟨rfl,hx⟩,hu⟩:=hf
 have h1:=xFits_rep hE hG hx
 have h2:=xFits_rep hE hG hu
 simp only [opA] at h
 cases hb:binA op (y.ev e) (z.ev e) with
 | none=>simp [hb] at h
 | some r =>
  simp only [hb,Option.map_some,Option.some.injEq,Nx.val.injEq] at h
  obtain ⟨rfl,rfl⟩:=h
  cases hy:y.ev e<;>cases hz:z.ev e<;>simp only [hy,hz,binA] at hb<;>try (cases hb;done)
  ·rename_i k m l n
   rw [hy] at h1;rw [hz] at h2
   simp only [Rep] at h1 h2
   cases op
   case shl =>
    simp only [shiftOp] at hb
    split at hb
    ·cases hb
    ·rename_i hn
     cases hb
     refine Did.same hS (x:=.int k (k.wrap (m * 2 ^ (min n.toNat k.bits)))) (by simp [Rep]) ?_
     simp [execOp,ho,h1,h2,eqGuard,binOp,Op.shift,hn]
   case shr =>
    simp only [shiftOp] at hb
    split at hb
    ·cases hb
    ·rename_i hn
     cases hb
     refine Did.same hS (x:=.int k (m.fdiv (2 ^ (min n.toNat k.bits)))) (by simp [Rep]) ?_
     simp [execOp,ho,h1,h2,eqGuard,binOp,Op.shift,hn]
   case quo =>
    simp only [] at hb
    split at hb
    ·rename_i hk;subst hk
     simp only [intOp] at hb
     split at hb
     ·cases hb
     ·rename_i hn
      cases hb
      exact Did.same hS (by simp [Rep];rfl) (by simp [execOp,ho,h1,h2,eqGuard,binOp,Op.intDiv,hn])
    ·cases hb
   case rem =>
    simp only [] at hb
    split at hb
    ·rename_i hk;subst hk
     simp only [intOp] at hb
     split at hb
     ·cases hb
     ·rename_i hn
      cases hb
      exact Did.same hS (by simp [Rep];rfl) (by simp [execOp,ho,h1,h2,eqGuard,binOp,Op.intDiv,hn])
    ·cases hb
   all_goals
    simp only [] at hb
    split at hb
    ·rename_i hk;subst hk
     simp only [intOp] at hb
     cases hb
     exact Did.same hS (by simp [Rep];rfl) (by simp [execOp,ho,h1,h2,eqGuard,binOp,Op.intArith,Op.intBits,Op.intCmp])
    ·cases hb
  ·rename_i m n
   rw [hy] at h1;rw [hz] at h2
   simp only [Rep] at h1 h2
   obtain ⟨bm,h1,rfl⟩:=h1
   obtain ⟨bn,h2,rfl⟩:=h2
   cases op<;>simp only [strOp] at hb<;>try (cases hb;done)
   case add =>
    split at hb
    ·rename_i hle
     cases hb
     have hnot:¬(IntKind.i64.max<(bm.size:Int)+(bn.size:Int)):=by
      simp [IntKind.max,IntKind.signed,IntKind.bits] at hle ⊢;omega
     refine Did.same hS (x:=.string (bm++bn)) (by simp only [Rep];exact ⟨_,rfl,baAppend _ _⟩) ?_
     simp [execOp,ho,h1,h2,eqGuard,binOp,Op.stringOp,hnot]
    ·cases hb
   all_goals
    cases hb
    exact Did.same hS (by simp only [Rep];rfl) (by simp [execOp,ho,h1,h2,eqGuard,binOp,Op.stringOp,baToList,bytesLess_eq])
theorem did_eqBool {neg:Bool} {y z:AX} (hf:opFits P gl o.op (.eqBool neg y z)=true) (h:opA (.eqBool neg y z) e st=some (.val v st')):Did P K base J (execOp a.eval o) w v st':=by
 cases ho:o.op<;>simp only [ho,opFits,Bool.false_eq_true] at hf
 rename_i op' t x u t'
 simp only [Bool.and_eq_true,beq_iff_eq] at hf
 obtain ⟨⟨⟨rfl,hk⟩,hx⟩,hu⟩:=hf
 have h1:=xFits_rep hE hG hx
 have h2:=xFits_rep hE hG hu
 have hud:P.underlying t=some .bool:=by
  unfold isK at hk
  split at hk
  ·rename_i d hd;cases d<;>simp at hk;exact hd
  ·cases hk
 simp only [opA] at h
 cases hy:y.ev e<;>simp only [hy] at h<;>try (cases h;done)
 rename_i m
 cases hz:z.ev e<;>simp only [hz] at h<;>try (cases h;done)
 rename_i n
 simp only [Option.some.injEq,Nx.val.injEq] at h
 obtain ⟨rfl,rfl⟩:=h
 rw [hy] at h1;rw [hz] at h2
 simp only [Rep] at h1 h2
 cases neg
 ·exact Did.same hS (x:=.bool (m == n)) (by simp [Rep]) (by simp [execOp,ho,h1,h2,eqGuard,binOp,r_eqBool hud])
 ·exact Did.same hS (x:=.bool (!(m == n))) (by simp [Rep]) (by simp [execOp,ho,h1,h2,eqGuard,binOp,r_eqBool hud])
theorem did_eqPtr {neg:Bool} {y z:AX} (hf:opFits P gl o.op (.eqPtr neg y z)=true) (h:opA (.eqPtr neg y z) e st=some (.val v st')):Did P K base J (execOp a.eval o) w v st':=by
 cases ho:o.op<;>simp only [ho,opFits,Bool.false_eq_true] at hf
 rename_i op' t x u t'
 simp only [Bool.and_eq_true,beq_iff_eq] at hf
 obtain ⟨⟨⟨rfl,hk⟩,hx⟩,hu⟩:=hf
 have h1:=xFits_rep hE hG hx
 have h2:=xFits_rep hE hG hu
 obtain ⟨el,hud⟩:∃el,P.underlying t=some (.pointer el):=by
  unfold isK at hk
  split at hk
  ·rename_i d hd;cases d<;>simp at hk;exact ⟨_,hd⟩
  ·cases hk
 simp only [opA] at h
 have nilL:∀(q:Option Addr),a.eval x=.pointer none→a.eval u=.pointer q→v=.bool (if neg then !q.isNone else q.isNone)→st'=st→Did P K base J (execOp a.eval o) w v st':=by
  intro q e1 e2 e3 e4
  subst e3 e4
  refine Did.same hS (x:=.bool (if neg then !q.isNone else q.isNone)) (by simp [Rep]) ?_
  cases neg<;>cases q<;>simp [execOp,ho,e1,e2,eqGuard,binOp,r_eqPtrL hud]
 have nilR:∀(q:Addr),a.eval x=.pointer (some q)→a.eval u=.pointer none→v=.bool neg→st'=st→Did P K base J (execOp a.eval o) w v st':=by
  intro q e1 e2 e3 e4
  subst e3 e4
  refine Did.same hS (x:=.bool neg) (by simp [Rep]) ?_
  cases neg<;>simp [execOp,ho,e1,e2,eqGuard,binOp,r_eqPtrR hud]
 cases hy:y.ev e<;>simp only [hy] at h<;>try (cases h;done)
 all_goals cases hz:z.ev e<;>simp only [hz] at h<;>try (cases h;done)
 all_goals
  simp only [Option.some.injEq,Nx.val.injEq] at h
  obtain ⟨h3,h4⟩:=h
  rw [hy] at h1;rw [hz] at h2
  simp only [Rep] at h1 h2
 ·obtain ⟨b,_,e1⟩:=h1;exact nilR _ e1 h2 h3.symm h4.symm
 ·obtain ⟨ad,_,e1,_⟩:=h1;exact nilR _ e1 h2 h3.symm h4.symm
 ·obtain ⟨b,_,e2⟩:=h2;exact nilL _ h1 e2 (by rw [←h3];cases neg<;>rfl) h4.symm
 ·obtain ⟨ad,_,e2,_⟩:=h2;exact nilL _ h1 e2 (by rw [←h3];cases neg<;>rfl) h4.symm
 ·exact nilL none h1 h2 (by rw [←h3];cases neg<;>rfl) h4.symm
theorem did_eqIface {neg:Bool} {y z:AX} (hf:opFits P gl o.op (.eqIface neg y z)=true) (h:opA (.eqIface neg y z) e st=some (.val v st')):Did P K base J (execOp a.eval o) w v st':=by
 cases ho:o.op<;>simp only [ho,opFits,Bool.false_eq_true] at hf
 rename_i op' t x u t'
 simp only [Bool.and_eq_true,beq_iff_eq] at hf
 obtain ⟨⟨⟨⟨rfl,hk⟩,hcst⟩,hx⟩,hu⟩:=hf
 have h1:=xFits_rep hE hG hx
 have h2:=xFits_rep hE hG hu
 obtain ⟨el,hud⟩:∃el,P.underlying t=some (.interface el):=by
  unfold isK at hk
  split at hk
  ·rename_i d hd;cases d<;>simp at hk;exact ⟨_,hd⟩
  ·cases hk
 simp only [opA] at h
 cases hy:y.ev e<;>simp only [hy] at h<;>try (cases h;done)
 all_goals cases hz:z.ev e<;>simp only [hz] at h<;>try (cases h;done)
 all_goals
  simp only [Option.some.injEq,Nx.val.injEq] at h
  obtain ⟨rfl,rfl⟩:=h
  rw [hy] at h1;rw [hz] at h2
  simp only [Rep] at h1 h2
 ·obtain ⟨q,e1,_⟩:=h1
  refine Did.same hS (x:=.bool neg) (by simp [Rep]) ?_
  cases neg<;>simp [execOp,ho,e1,h2,eqGuard,binOp,r_eqIfR hud]
 ·obtain ⟨q,e2,_⟩:=h2
  refine Did.same hS (x:=.bool neg) (by simp [Rep]) ?_
  cases neg<;>simp [execOp,ho,h1,e2,eqGuard,binOp,r_eqIfL hud]
 ·refine Did.same hS (x:=.bool (!neg)) (by simp [Rep]) ?_
  have hg:∀bo:BinOp,(eqGuard bo t x u .nilIface .nilIface).run P w=.ok () w:=by
   intro bo
   cases x with
   | const c=>cases bo<;>simp [eqGuard]
   | _ =>
    cases u with
    | const c=>cases bo<;>simp [eqGuard]
    | _=>simp at hcst
  cases neg<;>simp [execOp,ho,h1,h2,hg,binOp,r_eqIfN hud]
theorem did_un {op:UnOp} {y:AX} (hf:opFits P gl o.op (.un op y)=true) (h:opA (.un op y) e st=some (.val v st')):Did P K base J (execOp a.eval o) w v st':=by
 cases ho:o.op<;>simp only [ho,opFits,Bool.false_eq_true] at hf
 rename_i op' t x
 simp only [Bool.and_eq_true,beq_iff_eq] at hf
 obtain ⟨rfl,hx⟩:=hf
 have h1:=xFits_rep hE hG hx
 simp only [opA] at h
 cases hy:y.ev e<;>simp only [hy,unA,Option.map_none] at h<;>try (cases h;done)
 all_goals
  rw [hy] at h1
  simp only [Rep] at h1
  cases op<;>simp only [Option.map_none,Option.map_some,Option.some.injEq,Nx.val.injEq] at h<;>try (cases h;done)
  all_goals
   obtain ⟨rfl,rfl⟩:=h
   exact Did.same hS (by simp only [Rep];rfl) (by simp [execOp,ho,h1,Op.unary,Op.intArith,Op.intBits])
theorem did_convInt {k:IntKind} {y:AX} (hf:opFits P gl o.op (.convInt k y)=true) (h:opA (.convInt k y) e st=some (.val v st')):Did P K base J (execOp a.eval o) w v st':=by
 cases ho:o.op<;>simp only [ho,opFits,Bool.false_eq_true] at hf
 rename_i s d x
 simp only [Bool.and_eq_true] at hf
 obtain ⟨⟨hs,hd⟩,hx⟩:=hf
 have h1:=xFits_rep hE hG hx
 obtain ⟨ks,hs⟩:∃ks,P.underlying s=some (.int ks):=by
  unfold isK at hs
  split at hs
  ·rename_i dd hd';cases dd<;>simp at hs;exact ⟨_,hd'⟩
  ·cases hs
 have hd':P.underlying d=some (.int k):=by
  split at hd
  ·rename_i l hl;simp at hd;rw [hl,hd]
  ·cases hd
 simp only [opA] at h
 cases hy:y.ev e<;>simp only [hy] at h<;>try (cases h;done)
 simp only [Option.some.injEq,Nx.val.injEq] at h
 obtain ⟨rfl,rfl⟩:=h
 rw [hy] at h1
 simp only [Rep] at h1
 exact Did.same hS (by simp only [Rep];rfl) (by simp [execOp,ho,h1,convert,r_under hs,r_under hd',Conv.intToInt])
theorem did_convSame {y:AX} (hf:opFits P gl o.op (.convSame y)=true) (h:opA (.convSame y) e st=some (.val v st')):Did P K base J (execOp a.eval o) w v st':=by
 cases ho:o.op<;>simp only [ho,opFits,Bool.false_eq_true] at hf
 rename_i s d x
 simp only [Bool.and_eq_true] at hf
 obtain ⟨⟨hs,hd⟩,hx⟩:=hf
 have h1:=xFits_rep hE hG hx
 have key:∀t,isK P t (· matches .string)=true→P.underlying t=some .string:=by
  intro t ht
  unfold isK at ht
  split at ht
  ·rename_i dd hd';cases dd<;>simp at ht;exact hd'
  ·cases ht
 simp only [opA] at h
 cases hy:y.ev e<;>simp only [hy] at h<;>try (cases h;done)
 simp only [Option.some.injEq,Nx.val.injEq] at h
 obtain ⟨rfl,rfl⟩:=h
 rw [hy] at h1
 have h1':=h1
 simp only [Rep] at h1
 obtain ⟨ba,e1,_⟩:=h1
 rw [e1] at h1'
 exact Did.same hS h1' (by simp [execOp,ho,e1,convert,r_under (key _ hs),r_under (key _ hd)])
omit hS hE hG in
theorem r_part {t:TypeId} {m off:Nat} {agg:Bool} {cs:List AV} {arr:Array Value} {u:AV} (hv:varFits P t m agg=true) (hr:Reps J cs arr.toList) (hc:cs.all AV.isCell=true)
  (h:takeVar m agg cs off=some u):∃x,(part t arr off).run P w=.ok x w∧Rep J u x∧u.isVar=true∧x.cells.toList=(arr.toList.drop off).take m:=by
 obtain ⟨h1,h2,h3⟩:=varFits_iff hv
 unfold takeVar at h
 cases agg with
 | true =>
  simp only [if_true] at h
  split at h
  ·rename_i hle
   cases h
   have hl:=hr.length
   refine ⟨.agg (arr.extract off (off+m)),by simp [part,r_isAgg h2,r_size h1],?_,rfl,by simp [Value.cells,List.take_drop,Nat.add_comm]⟩
   simp only [Rep]
   refine ⟨_,rfl,?_,?_⟩
   ·have:=(hr.drop off).take m
    simpa [List.take_drop,Nat.add_comm] using this
   ·rw [List.all_eq_true] at hc ⊢
    intro z hz;exact hc z (List.mem_of_mem_drop (List.mem_of_mem_take hz))
  ·cases h
 | false =>
  simp only [Bool.false_eq_true,if_false] at h
  obtain ⟨x,hx,hrx⟩:=hr.get off u h
  have hx':arr[off]?=some x:=by simpa using hx
  have hcu:u.isCell=true:=by rw [List.all_eq_true] at hc;exact hc u (List.mem_of_getElem? h)
  have hcx:=(hrx.oneCell hcu).2
  refine ⟨x,by simp [part,r_isAgg h2,hx'],hrx,by cases u<;>simp_all [AV.isCell,AV.isVar],?_⟩
  rw [hcx,h3 rfl]
  obtain ⟨hlt,hget⟩:=List.getElem?_eq_some_iff.1 hx
  rw [List.drop_eq_getElem_cons hlt,hget];simp
theorem did_field {off size:Nat} {agg:Bool} {y:AX} (hf:opFits P gl o.op (.field off size agg y)=true) (h:opA (.field off size agg y) e st=some (.val v st')):Did P K base J (execOp a.eval o) w v st':=by
 cases ho:o.op<;>simp only [ho,opFits,Bool.false_eq_true] at hf
 rename_i t x i
 simp only [Bool.and_eq_true] at hf
 obtain ⟨hf,hx⟩:=hf
 split at hf
 ·rename_i fs hud
  split at hf
  ·rename_i f hfi
   simp only [Bool.and_eq_true,beq_iff_eq] at hf
   obtain ⟨rfl,hv⟩:=hf
   have h1:=xFits_rep hE hG hx
   simp only [opA] at h
   cases hy:y.ev e<;>simp only [hy] at h<;>try (cases h;done)
   rename_i cs
   rw [hy] at h1
   simp only [Rep] at h1
   obtain ⟨arr,e1,hr,hc⟩:=h1
   cases htv:takeVar size agg cs f.offset with
   | none=>simp [htv] at h
   | some u =>
    simp only [htv,Option.map_some,Option.some.injEq,Nx.val.injEq] at h
    obtain ⟨rfl,rfl⟩:=h
    obtain ⟨z,hz,hrz,_⟩:=r_part (w:=w) hv hr hc htv
    exact Did.same hS hrz (by simp [execOp,ho,e1,Instr.field,r_under hud,hfi,asAgg,hz])
  ·cases hf
 ·cases hf
omit hS hE hG in
theorem Row.sub {b o n m:Nat} {xs ys:List Value} (h:Row J b o xs) (e:ys=(xs.drop n).take m):Row J b (o+n) ys:=by
 subst e
 intro i v hv
 rw [List.getElem?_take] at hv
 split at hv
 ·rw [List.getElem?_drop] at hv
  rw [Nat.add_assoc];exact h _ _ hv
 ·cases hv
theorem did_fieldAddr {off size:Nat} {agg:Bool} {y:AX} (hf:opFits P gl o.op (.fieldAddr off size agg y)=true) (h:opA (.fieldAddr off size agg y) e st=some (.val v st')):Did P K base J (execOp a.eval o) w v st':=by
 cases ho:o.op<;>simp only [ho,opFits,Bool.false_eq_true] at hf
 rename_i t x i
 simp only [Bool.and_eq_true] at hf
 obtain ⟨hf,hx⟩:=hf
 split at hf
 ·rename_i fs hud
  split at hf
  ·rename_i f hfi
   simp only [Bool.and_eq_true,beq_iff_eq,decide_eq_true_eq] at hf
   obtain ⟨⟨rfl,hv⟩,hsz⟩:=hf
   obtain ⟨hsize,_⟩:=varFits_iff hv
   have h1:=xFits_rep hE hG hx
   have hplace:∀ad:Addr,ad.spot=none→(fieldPlace ad f).run P w=.ok ⟨ad.block,ad.off+f.offset,none⟩ w:=by
    intro ad hsp
    have:¬size=0:=by omega
    simp [fieldPlace,r_size hsize,this,add_none hsp]
   simp only [opA] at h
   cases hy:y.ev e<;>simp only [hy] at h<;>try (cases h;done)
   ·rename_i r off
    simp only [Option.some.injEq,Nx.val.injEq] at h
    obtain ⟨rfl,rfl⟩:=h
    rw [hy] at h1
    simp only [Rep] at h1
    obtain ⟨b,hb,e1⟩:=h1
    refine Did.same hS (x:=.pointer (some ⟨b,off+f.offset,none⟩)) (by simp only [Rep];exact ⟨b,hb,rfl⟩) ?_
    simp [execOp,ho,e1,Instr.fieldAt,r_under hud,hfi,Instr.sureAddr,hplace]
   ·rename_i u
    cases u<;>simp only [] at h<;>try (cases h;done)
    rename_i cs
    rw [hy] at h1
    simp only [Rep] at h1
    obtain ⟨ad,y',e1,hsp,⟨arr,e2,hr,hc⟩,_,hrow⟩:=h1
    cases htv:takeVar size agg cs f.offset with
    | none=>simp [htv] at h
    | some u =>
     simp only [htv,Option.map_some,Option.some.injEq,Nx.val.injEq] at h
     obtain ⟨rfl,rfl⟩:=h
     obtain ⟨z,hz,hrz,hvar,hcells⟩:=r_part (w:=w) hv hr hc htv
     refine Did.same hS (x:=.pointer (some ⟨ad.block,ad.off+f.offset,none⟩)) ?_ ?_
     ·simp only [Rep]
      refine ⟨_,z,rfl,rfl,hrz,hvar,?_⟩
      rw [e2] at hrow
      exact Row.sub hrow hcells
     ·simp [execOp,ho,e1,Instr.fieldAt,r_under hud,hfi,Instr.sureAddr,hplace ad hsp]
  ·cases hf
 ·cases hf
end
end Go.Proofs.YtgkhmmlemgikjaaGreatDoor.Ai
namespace Go.Proofs.YtgkhmmlemgikjaaGreatDoor.Ai
open Go
section
variable {J:Inj}
theorem Elems.get {m:Nat}:∀{es:List AV} {b o:Nat},Elems J m es b o→∀(i:Nat) v,es[i]?=some v→∃y,Rep J v y∧v.isVar=true∧y.cells.size=m∧Row J b (o+i * m) y.cells.toList
 | [],_,_,_,i,v,e=>by simp at e
 | u::es,b,o,h,i,v,e=>by
  simp only [Elems] at h
  cases i with
  | zero=>simp at e;subst e;simpa using h.1
  | succ i =>
   simp at e
   obtain ⟨y,h1,h2,h3,h4⟩:=h.2.get i v e
   refine ⟨y,h1,h2,h3,?_⟩
   rw [show o+(i+1) * m=o+m+i * m by rw [Nat.add_mul,Nat.one_mul];omega];exact h4
theorem Elems.take {m:Nat}:∀{es:List AV} {b o:Nat} (n:Nat),Elems J m es b o→Elems J m (es.take n) b o
 | [],_,_,_,_=>by simp [Elems]
 | _::es,b,o,0,_=>by simp [Elems]
 | u::es,b,o,n+1,h=>by
  simp only [Elems] at h
  simp only [List.take_succ_cons,Elems]
  exact ⟨h.1,Elems.take n h.2⟩
theorem Elems.drop {m:Nat}:∀{es:List AV} {b o:Nat} (n:Nat),Elems J m es b o→Elems J m (es.drop n) b (o+n * m)
 | [],_,_,_,_=>by simp [Elems]
 | u::es,b,o,0,h=>by simpa using h
 | u::es,b,o,n+1,h=>by
  simp only [Elems] at h
  have:=Elems.drop n h.2
  rw [show o+m+n * m=o+(n+1) * m by rw [Nat.add_mul,Nat.one_mul];omega] at this
  simpa using this
theorem Elems.append {m:Nat}:∀{es es':List AV} {b o:Nat},Elems J m es b o→Elems J m es' b (o+es.length * m)→Elems J m (es++es') b o
 | [],es',b,o,_,h'=>by simpa using h'
 | u::es,es',b,o,h,h'=>by
  simp only [Elems] at h
  simp only [List.cons_append,Elems]
  refine ⟨h.1,h.2.append ?_⟩
  rw [show o+m+es.length * m=o+(u::es).length * m by simp [Nat.add_mul];omega];exact h'
end
theorem asBuiltin_eq {o:Op} {b:Builtin} {xs:List Operand} {ts:List TypeId} (h:asBuiltin o=some (b,xs,ts)):o=.call { callee:=.builtin b,args:=xs.toArray,argTypes:=ts.toArray }:=by
 cases o<;>simp [asBuiltin] at h
 rename_i c
 obtain ⟨callee,args,argTypes⟩:=c
 cases callee<;>simp at h
 obtain ⟨rfl,rfl,rfl⟩:=h
 simp
theorem r_builtin {P:Program} {w w':World} {a:Act} {o:Oper} {b:Builtin} {xs:List Operand} {ts:List TypeId} {x:Value} (ho:asBuiltin o.op=some (b,xs,ts))
  (h:∀cs,(builtin b ts.toArray o.type cs (xs.toArray.map a.eval)).run P w=.ok (.value x) w'):(execOp a.eval o).run P w=.ok (.value x) w':=by
 have:=asBuiltin_eq ho
 simp only [execOp,this,resolve,Sem.run_bind,Sem.run_pure,Result.andThen_ok,invoke]
 exact h _
theorem isK_some {P:Program} {t:TypeId} {q:TypeDesc→Bool} (h:isK P t q=true):∃d,P.underlying t=some d∧q d=true:=by
 unfold isK at h
 split at h
 ·exact ⟨_,by assumption,h⟩
 ·cases h
section
variable {P:Program} {gl:List (Nat×AV)} {K:Sites} {base:Bs} {J:Inj} {st st':St} {w:World} {a:Act} {e:Env} {o:Oper} {v:AV}
variable (hS:Sim K base J st w) (hE:Reps J e a.tmps.toList) (hG:GlOk gl J)
include hS hE hG
omit hS hE hG in
theorem aInt_rep {u:AV} {x:Value} {i:Int} (hr:Rep J u x) (h:aInt u=some i):∃k,x=.int k i:=by
 cases u<;>simp [aInt] at h
 subst h
 simp only [Rep] at hr
 exact ⟨_,hr⟩
theorem did_indexAddr {m:Nat} {agg:Bool} {arr:Option Nat} {y z:AX} (hf:opFits P gl o.op (.indexAddr m agg arr y z)=true) (h:opA (.indexAddr m agg arr y z) e st=some (.val v st')) :
  Did P K base J (execOp a.eval o) w v st':=by
 cases ho:o.op<;>simp only [ho,opFits,Bool.false_eq_true] at hf
 rename_i t x ix
 simp only [Bool.and_eq_true] at hf
 obtain ⟨⟨hf,hx⟩,hi⟩:=hf
 have h1:=xFits_rep hE hG hx
 have h2:=xFits_rep hE hG hi
 simp only [opA] at h
 cases hai:aInt (z.ev e) with
 | none=>simp [hai] at h
 | some i =>
  obtain ⟨k,hk⟩:=aInt_rep h2 hai
  simp only [hai] at h
  split at h
  ·cases h
  ·rename_i hneg
   have hi0:0≤i:=by omega
   cases arr with
   | some n =>
    split at hf
    ·rename_i n' el n'' hud harr
     cases harr
     simp only [Bool.and_eq_true,beq_iff_eq,decide_eq_true_eq] at hf
     obtain ⟨⟨rfl,hv⟩,hm⟩:=hf
     obtain ⟨hsize,_,_⟩:=varFits_iff hv
     cases hy:y.ev e<;>simp only [hy] at h<;>try (cases h;done)
     ·rename_i r off
      split at h
      ·rename_i hlt
       simp only [Option.some.injEq,Nx.val.injEq] at h
       obtain ⟨rfl,rfl⟩:=h
       rw [hy] at h1;simp only [Rep] at h1
       obtain ⟨b,hb,e1⟩:=h1
       refine Did.same hS (x:=.pointer (some ⟨b,off+i.toNat * m,none⟩)) (by simp only [Rep];exact ⟨b,hb,rfl⟩) ?_
       simp [execOp,ho,e1,hk,Instr.indexAt,asIntOf,r_under hud,Instr.sureAddr,hi0,hlt,r_size hsize,add_none]
      ·cases h
     ·rename_i u
      cases u<;>simp only [] at h<;>try (cases h;done)
      rename_i cs
      split at h
      ·rename_i hlt
       cases htv:takeVar m agg cs (i.toNat * m) with
       | none=>simp [htv] at h
       | some q =>
        simp only [htv,Option.map_some,Option.some.injEq,Nx.val.injEq] at h
        obtain ⟨rfl,rfl⟩:=h
        rw [hy] at h1;simp only [Rep] at h1
        obtain ⟨ad,y',e1,hsp,⟨arr,e2,hr,hc⟩,_,hrow⟩:=h1
        obtain ⟨q',hq,hrq,hvar,hcells⟩:=r_part (w:=w) hv hr hc htv
        refine Did.same hS (x:=.pointer (some ⟨ad.block,ad.off+i.toNat * m,none⟩)) ?_ ?_
        ·simp only [Rep]
         refine ⟨_,q',rfl,rfl,hrq,hvar,?_⟩
         rw [e2] at hrow
         exact Row.sub hrow hcells
        ·simp [execOp,ho,e1,hk,Instr.indexAt,asIntOf,r_under hud,Instr.sureAddr,hi0,hlt,r_size hsize,add_none hsp]
      ·cases h
    ·rename_i heq;cases heq
    ·cases hf
   | none =>
    split at hf
    ·rename_i heq;cases heq
    ·rename_i el hud harr
     simp only [Bool.and_eq_true,beq_iff_eq,decide_eq_true_eq] at hf
     obtain ⟨⟨hv,hm⟩,_⟩:=hf
     obtain ⟨hsize,_,_⟩:=varFits_iff hv
     cases hy:y.ev e<;>simp only [hy] at h<;>try (cases h;done)
     ·rename_i m' es ap
      split at h
      ·rename_i hmm
       subst hmm
       cases hes:es[i.toNat]? with
       | none=>simp [hes] at h
       | some q =>
        simp only [hes,Option.map_some,Option.some.injEq,Nx.val.injEq] at h
        obtain ⟨rfl,rfl⟩:=h
        rw [hy] at h1;simp only [Rep] at h1
        have hlt:i.toNat<es.length:=(List.getElem?_eq_some_iff.1 hes).1
        obtain ⟨_,⟨_,hnil⟩ | ⟨ad,cap,e1,hsp,hcap,_,hel⟩⟩:=h1
        ·subst hnil;simp at hlt
        ·obtain ⟨y',hr,hvar,hsz,hrow⟩:=hel.get i.toNat q hes
         refine Did.same hS (x:=.pointer (some ⟨ad.block,ad.off+i.toNat * m',none⟩)) ?_ ?_
         ·simp only [Rep];exact ⟨_,y',rfl,rfl,hr,hvar,hrow⟩
         ·have hlt':i<(es.length:Int):=by omega
          simp [execOp,ho,e1,hk,Instr.indexAt,asIntOf,r_under hud,hi0,hlt',r_size hsize,add_none (hsp (by omega))]
      ·cases h
     ·rename_i r m' off n cap
      split at h
      ·rename_i hmm
       obtain ⟨hmm,hlt⟩:=hmm
       subst hmm
       simp only [Option.some.injEq,Nx.val.injEq] at h
       obtain ⟨rfl,rfl⟩:=h
       rw [hy] at h1;simp only [Rep] at h1
       obtain ⟨b,c,hb,e1,_⟩:=h1
       refine Did.same hS (x:=.pointer (some ⟨b,off+i.toNat * m',none⟩)) (by simp only [Rep];exact ⟨b,hb,rfl⟩) ?_
       simp [execOp,ho,e1,hk,Instr.indexAt,asIntOf,r_under hud,hi0,hlt,r_size hsize,add_none]
      ·cases h
    ·cases hf
theorem did_indexStr {y z:AX} (hf:opFits P gl o.op (.indexStr y z)=true) (h:opA (.indexStr y z) e st=some (.val v st')):Did P K base J (execOp a.eval o) w v st':=by
 cases ho:o.op<;>simp only [ho,opFits,Bool.false_eq_true] at hf
 rename_i t x ix
 simp only [Bool.and_eq_true] at hf
 obtain ⟨⟨hf,hx⟩,hi⟩:=hf
 have h1:=xFits_rep hE hG hx
 have h2:=xFits_rep hE hG hi
 have hud:P.underlying t=some .string:=by
  unfold isK at hf
  split at hf
  ·rename_i dd hd';cases dd<;>simp at hf;exact hd'
  ·cases hf
 simp only [opA] at h
 cases hy:y.ev e<;>simp only [hy] at h<;>try (cases h;done)
 rename_i s
 cases hai:aInt (z.ev e) with
 | none=>simp [hai] at h
 | some i =>
  obtain ⟨k,hk⟩:=aInt_rep h2 hai
  simp only [hai] at h
  split at h
  ·cases h
  ·rename_i hneg
   have hi0:0≤i:=by omega
   cases hb:s[i.toNat]? with
   | none=>simp [hb] at h
   | some b =>
    simp only [hb,Option.map_some,Option.some.injEq,Nx.val.injEq] at h
    obtain ⟨rfl,rfl⟩:=h
    rw [hy] at h1;simp only [Rep] at h1
    obtain ⟨ba,e1,rfl⟩:=h1
    have hlt:i.toNat<ba.size:=by have:=(List.getElem?_eq_some_iff.1 hb).1;simpa using this
    have hb':ba[i.toNat]?=some b:=by
     rw [getElem?_pos ba i.toNat hlt]
     obtain ⟨_,hg⟩:=List.getElem?_eq_some_iff.1 hb
     rw [←hg];simp;rfl
    refine Did.same hS (x:=.int .u8 b.toNat) (by simp [Rep,byteV]) ?_
    simp [execOp,ho,e1,hk,Instr.index,asIntOf,r_under hud,hi0,hb']
theorem did_indexArr {n m:Nat} {agg:Bool} {y z:AX} (hf:opFits P gl o.op (.indexArr n m agg y z)=true) (h:opA (.indexArr n m agg y z) e st=some (.val v st')):Did P K base J (execOp a.eval o) w v st':=by
 cases ho:o.op<;>simp only [ho,opFits,Bool.false_eq_true] at hf
 rename_i t x ix
 simp only [Bool.and_eq_true] at hf
 obtain ⟨⟨hf,hx⟩,hi⟩:=hf
 have h1:=xFits_rep hE hG hx
 have h2:=xFits_rep hE hG hi
 split at hf
 ·rename_i n' el hud
  simp only [Bool.and_eq_true,beq_iff_eq] at hf
  obtain ⟨rfl,hv⟩:=hf
  obtain ⟨hsize,_,_⟩:=varFits_iff hv
  simp only [opA] at h
  cases hy:y.ev e<;>simp only [hy] at h<;>try (cases h;done)
  rename_i cs
  cases hai:aInt (z.ev e) with
  | none=>simp [hai] at h
  | some i =>
   obtain ⟨k,hk⟩:=aInt_rep h2 hai
   simp only [hai] at h
   split at h
   ·rename_i hlt
    cases htv:takeVar m agg cs (i.toNat * m) with
    | none=>simp [htv] at h
    | some q =>
     simp only [htv,Option.map_some,Option.some.injEq,Nx.val.injEq] at h
     obtain ⟨rfl,rfl⟩:=h
     rw [hy] at h1;simp only [Rep] at h1
     obtain ⟨arr,e1,hr,hc⟩:=h1
     obtain ⟨q',hq,hrq,_,_⟩:=r_part (w:=w) hv hr hc htv
     refine Did.same hS hrq ?_
     simp [execOp,ho,e1,hk,Instr.index,asIntOf,r_under hud,hlt.1,hlt.2,r_size hsize,hq]
   ·cases h
 ·cases hf
theorem did_lenStr {y:AX} (hf:opFits P gl o.op (.lenStr y)=true) (h:opA (.lenStr y) e st=some (.val v st')):Did P K base J (execOp a.eval o) w v st':=by
 simp only [opFits] at hf
 split at hf
 ·rename_i x t ho
  simp only [Bool.and_eq_true] at hf
  obtain ⟨hx,hk⟩:=hf
  have h1:=xFits_rep hE hG hx
  obtain ⟨d,hd,hk⟩:=isK_some hk
  cases d<;>simp at hk
  simp only [opA] at h
  cases hy:y.ev e<;>simp only [hy] at h<;>try (cases h;done)
  simp only [Option.some.injEq,Nx.val.injEq] at h
  obtain ⟨rfl,rfl⟩:=h
  rw [hy] at h1;simp only [Rep] at h1
  obtain ⟨ba,e1,rfl⟩:=h1
  exact Did.same hS (by simp only [Rep];rfl) (r_builtin ho (fun cs=>by simp [builtin,Builtin.len_,r_under hd,e1,goInt]))
 ·cases hf
theorem did_lenSl {y:AX} (hf:opFits P gl o.op (.lenSl y)=true) (h:opA (.lenSl y) e st=some (.val v st')):Did P K base J (execOp a.eval o) w v st':=by
 simp only [opFits] at hf
 split at hf
 ·rename_i x t ho
  simp only [Bool.and_eq_true] at hf
  obtain ⟨hx,hk⟩:=hf
  have h1:=xFits_rep hE hG hx
  obtain ⟨d,hd,hk⟩:=isK_some hk
  cases d<;>simp at hk
  simp only [opA] at h
  replace h1:=h1.asLst (m:=1)
  cases hy:(y.ev e).asLst 1<;>simp only [hy] at h<;>try (cases h;done)
  all_goals
   simp only [Option.some.injEq,Nx.val.injEq] at h
   obtain ⟨rfl,rfl⟩:=h
   rw [hy] at h1;simp only [Rep] at h1
  ·obtain ⟨_,⟨e1,e2⟩ | ⟨ad,cap,e1,_⟩⟩:=h1
   ·exact Did.same hS (by simp only [Rep];rfl) (r_builtin ho (fun cs=>by simp [builtin,Builtin.len_,r_under hd,e1,e2,goInt]))
   ·exact Did.same hS (by simp only [Rep];rfl) (r_builtin ho (fun cs=>by simp [builtin,Builtin.len_,r_under hd,e1,goInt]))
  ·obtain ⟨b,c,_,e1,_⟩:=h1
   exact Did.same hS (by simp only [Rep];rfl) (r_builtin ho (fun cs=>by simp [builtin,Builtin.len_,r_under hd,e1,goInt]))
 ·cases hf
omit hE hG in
theorem r_map {u:AV} {x:Value} {es:List (AV×AV)} (hr:Rep J u x)
  (h:mapOf st u=some es) :
  (x=.map none∧es=[]∧u=.nilMap)∨∃r b ents clock,u=.map r∧st[r]?=some (.map es)∧J.ρ r=some b∧x=.map (some b)∧w.heap[b]?=some (.map ents clock)∧RepsM J es ents.toList:=by
 cases u<;>simp only [mapOf] at h<;>try (cases h;done)
 ·rename_i r
  simp only [Rep] at hr
  obtain ⟨b,hb,e1⟩:=hr
  cases hst:st[r]? with
  | none=>simp [hst] at h
  | some ob =>
   cases ob<;>simp only [hst] at h<;>try (cases h;done)
   cases h
   obtain ⟨b',ents,clock,h1,h2,h3⟩:=hS.obj r _ hst
   rw [hb] at h1;cases h1
   exact .inr ⟨r,b,ents,clock,rfl,hst,hb,e1,h2,h3⟩
 ·cases h
  simp only [Rep] at hr
  exact .inl ⟨hr,rfl,rfl⟩
theorem did_lenMap {y:AX} (hf:opFits P gl o.op (.lenMap y)=true) (h:opA (.lenMap y) e st=some (.val v st')):Did P K base J (execOp a.eval o) w v st':=by
 simp only [opFits] at hf
 split at hf
 ·rename_i x t ho
  simp only [Bool.and_eq_true] at hf
  obtain ⟨hx,hk⟩:=hf
  have h1:=xFits_rep hE hG hx
  obtain ⟨d,hd,hk⟩:=isK_some hk
  cases d<;>simp at hk
  simp only [opA] at h
  cases hm:mapOf st (y.ev e) with
  | none=>simp [hm] at h
  | some es =>
   simp only [hm,Option.map_some,Option.some.injEq,Nx.val.injEq] at h
   obtain ⟨rfl,rfl⟩:=h
   rcases r_map hS h1 hm with ⟨e1,e2,_⟩ | ⟨r',b,ents,clock,_,_,_,e1,hh,hm⟩
   ·subst e2
    exact Did.same hS (x:=.int .i64 0) (by simp [Rep]) (r_builtin ho (fun cs=>by simp [builtin,Builtin.len_,r_under hd,e1,goInt]))
   ·have:=hm.1
    exact Did.same hS (x:=.int .i64 ents.size) (by simp [Rep,this]) (r_builtin ho (fun cs=>by simp [builtin,Builtin.len_,r_under hd,e1,goInt,getObj,Sem.run,hh]))
 ·cases hf
omit hE hG in
theorem did_lenArr {n:Nat} (hf:opFits P gl o.op (.lenArr n)=true) (h:opA (.lenArr n) e st=some (.val v st')):Did P K base J (execOp a.eval o) w v st':=by
 simp only [opFits] at hf
 split at hf
 ·rename_i x t ho
  simp only [opA,Option.some.injEq,Nx.val.injEq] at h
  obtain ⟨rfl,rfl⟩:=h
  split at hf
  ·rename_i n' el hd
   simp at hf;subst hf
   exact Did.same hS (by simp only [Rep];rfl) (r_builtin ho (fun cs=>by simp [builtin,Builtin.len_,r_under hd,goInt]))
  ·rename_i ar hd
   split at hf
   ·rename_i n' el hd'
    simp at hf;subst hf
    exact Did.same hS (by simp only [Rep];rfl) (r_builtin ho (fun cs=>by simp [builtin,Builtin.len_,r_under hd,r_under hd',goInt]))
   ·cases hf
  ·cases hf
 ·cases hf
omit hS hE hG in
theorem did_minmax_aux {isMax:Bool}:∀{us:List AV} {xs:List Value} {u v:AV} {x:Value},Rep J u x→Reps J us xs→minmaxA isMax u us=some v →
  ∃z,(xs.foldlM (if isMax then Builtin.max2 else Builtin.min2) x).run P w=.ok z w∧Rep J v z
 | [],xs,u,v,x,hr,hrs,h=>by
  simp only [Reps] at hrs;subst hrs
  simp only [minmaxA,Option.some.injEq] at h;subst h
  exact ⟨x,by simp,hr⟩
 | q::us,xs,u,v,x,hr,hrs,h=>by
  simp only [Reps] at hrs;obtain ⟨y,ys,rfl,h1,h2⟩:=hrs
  cases u<;>cases q<;>simp only [minmaxA] at h<;>try (cases h;done)
  split at h
  ·rename_i k m l n hk
   subst hk
   simp only [Rep] at hr h1
   subst hr h1
   obtain ⟨z,hz,hrz⟩:=did_minmax_aux (x:=.int k (if isMax then (if n > m then n else m) else (if n<m then n else m))) (by simp [Rep]) h2 h
   refine ⟨z,?_,hrz⟩
   rw [List.foldlM_cons,Sem.run_bind]
   cases isMax<;>simp [Builtin.min2,Builtin.max2] at hz ⊢<;>exact hz
  ·cases h
theorem did_minmax {isMax:Bool} {ys:List AX} (hf:opFits P gl o.op (.minmax isMax ys)=true) (h:opA (.minmax isMax ys) e st=some (.val v st')):Did P K base J (execOp a.eval o) w v st':=by
 have key:∀(args:List Operand),xsFit gl args ys=true→∃q qs z,args.map a.eval=q::qs∧(qs.foldlM (if isMax then Builtin.max2 else Builtin.min2) q).run P w=.ok z w∧Rep J v z∧st'=st:=by
  intro args hx
  have hr:=xsFit_reps hE hG hx
  simp only [opA] at h
  cases hm:ys.map (AX.ev e) with
  | nil=>simp [hm] at h
  | cons u us =>
   rw [hm] at hr
   simp only [Reps] at hr;obtain ⟨q,qs,hq,h1,h2⟩:=hr
   simp only [hm] at h
   cases hv:minmaxA isMax u us with
   | none=>simp [hv] at h
   | some r =>
    simp only [hv,Option.map_some,Option.some.injEq,Nx.val.injEq] at h
    obtain ⟨rfl,rfl⟩:=h
    obtain ⟨z,hz,hrz⟩:=did_minmax_aux (P:=P) (w:=w) h1 h2 hv
    exact ⟨q,qs,z,hq,hz,hrz,rfl⟩
 simp only [opFits] at hf
 split at hf
 ·rename_i args ts ho
  simp only [Bool.and_eq_true,Bool.not_eq_true'] at hf
  obtain ⟨rfl,hx⟩:=hf
  obtain ⟨q,qs,z,hq,hz,hrz,rfl⟩:=key args hx
  refine Did.same hS hrz (r_builtin ho (fun cs=>?_))
  simp only [builtin,Builtin.min_,Sem.run_bind]
  simp only [Bool.false_eq_true,if_false] at hz
  simp [hq,hz]
 ·rename_i args ts ho
  simp only [Bool.and_eq_true] at hf
  obtain ⟨rfl,hx⟩:=hf
  obtain ⟨q,qs,z,hq,hz,hrz,rfl⟩:=key args hx
  refine Did.same hS hrz (r_builtin ho (fun cs=>?_))
  simp only [builtin,Builtin.max_,Sem.run_bind]
  simp only [if_true] at hz
  simp [hq,hz]
 ·cases hf
end
end Go.Proofs.YtgkhmmlemgikjaaGreatDoor.Ai
namespace Go.Proofs.YtgkhmmlemgikjaaGreatDoor.Ai
open Go
section
variable {P:Program} {gl:List (Nat×AV)} {K:Sites} {base:Bs} {J:Inj} {st st':St} {w:World} {a:Act} {e:Env} {o:Oper} {v:AV}
theorem r_bound {l:Option Operand} {x:Option AX} {d top n:Nat} (hE:Reps J e a.tmps.toList) (hG:GlOk gl J) (hf:oxFits gl l x=true) (h:bound (x.map (AX.ev e)) d top=some n) :
  (l=none∧x=none∧n=d)∨∃lo k i,l=some lo∧a.eval lo=.int k i∧0≤i∧i≤(top:Int)∧n=i.toNat∧n≤top:=by
 cases l with
 | none =>
  cases x with
  | none=>simp [bound] at h;exact .inl ⟨rfl,rfl,h.symm⟩
  | some x=>simp [oxFits] at hf
 | some lo =>
  cases x with
  | none=>simp [oxFits] at hf
  | some x =>
   simp only [oxFits] at hf
   have hr:=xFits_rep hE hG hf
   simp only [Option.map_some] at h
   cases hx:x.ev e<;>rw [hx] at h hr<;>simp only [bound] at h<;>try (cases h;done)
   split at h
   ·rename_i hh
    cases h
    simp only [Rep] at hr
    exact .inr ⟨lo,_,_,rfl,hr,hh.1,hh.2,rfl,by omega⟩
   ·cases h
theorem r_sliceBound {k:IntKind} {i:Int} {y:Nat} {c:BoundsCode} (h0:0≤i) (h1:i≤(y:Int)):(Instr.sliceBound (.int k i) y c).run P w=.ok i.toNat w:=by
 simp [Instr.sliceBound,asIntOf,h0,h1]
theorem r_bounds {l h:Option Operand} {lo hi:Option AX} {isSlice:Bool} {len top cap l' h':Nat} (hE:Reps J e a.tmps.toList) (hG:GlOk gl J) (hl:oxFits gl l lo=true) (hh:oxFits gl h hi=true)
  (htop:top≤cap) (hlen:len≤cap) (b1:bound (hi.map (AX.ev e)) len top=some h') (b2:bound (lo.map (AX.ev e)) 0 h'=some l') :
  (Instr.sliceBounds isSlice len cap (l.map a.eval) (h.map a.eval) none).run P w=.ok (l',h',cap) w∧l'≤h'∧(h'≤top∨h'=len):=by
 rcases r_bound hE hG hh b1 with ⟨rfl,_,rfl⟩ | ⟨ho,k,i,rfl,e1,i0,i1,rfl,i2⟩
 ·rcases r_bound hE hG hl b2 with ⟨rfl,_,rfl⟩ | ⟨lo',k',i',rfl,e2,j0,j1,rfl,j2⟩
  ·simp [Instr.sliceBounds]
  ·simp [Instr.sliceBounds,e2,r_sliceBound j0 j1,j2]
 ·have i1':i≤(cap:Int):=by omega
  rcases r_bound hE hG hl b2 with ⟨rfl,_,rfl⟩ | ⟨lo',k',i',rfl,e2,j0,j1,rfl,j2⟩
  ·simp [Instr.sliceBounds,e1,r_sliceBound i0 i1',i2]
  ·simp [Instr.sliceBounds,e1,r_sliceBound i0 i1',e2,r_sliceBound j0 j1,i2,j2]
variable (hS:Sim K base J st w) (hE:Reps J e a.tmps.toList) (hG:GlOk gl J)
include hS hE hG
theorem did_sliceStr {y:AX} {lo hi:Option AX} (hf:opFits P gl o.op (.sliceStr y lo hi)=true) (h:opA (.sliceStr y lo hi) e st=some (.val v st')):Did P K base J (execOp a.eval o) w v st':=by
 cases ho:o.op<;>simp only [ho,opFits,Bool.false_eq_true] at hf
 rename_i t x l hh mx
 cases mx<;>simp only [Bool.false_eq_true] at hf
 simp only [Bool.and_eq_true] at hf
 obtain ⟨⟨⟨hk,hx⟩,hl⟩,hhi⟩:=hf
 obtain ⟨d,hd,hk⟩:=isK_some hk
 cases d<;>simp at hk
 have h1:=xFits_rep hE hG hx
 simp only [opA] at h
 cases hy:y.ev e<;>simp only [hy] at h<;>try (cases h;done)
 rename_i s
 rw [hy] at h1;simp only [Rep] at h1
 obtain ⟨ba,e1,rfl⟩:=h1
 cases b1:bound (hi.map (AX.ev e)) ba.data.toList.length ba.data.toList.length with
 | none=>simp only [b1,Option.bind_none] at h;cases h
 | some h' =>
  simp only [b1,Option.bind_some] at h
  cases b2:bound (lo.map (AX.ev e)) 0 h' with
  | none=>simp only [b2,Option.map_none] at h;cases h
  | some l' =>
   simp only [b2,Option.map_some,Option.some.injEq,Nx.val.injEq] at h
   obtain ⟨rfl,rfl⟩:=h
   have hsz:ba.data.toList.length=ba.size:=by simp
   rw [hsz] at b1
   obtain ⟨hr,hle,htop⟩:=r_bounds (P:=P) (w:=w) (isSlice:=false) hE hG hl hhi (Nat.le_refl _) (Nat.le_refl _) b1 b2
   refine Did.same hS (x:=.string (ba.extract l' h')) ?_ ?_
   ·simp only [Rep]
    refine ⟨_,rfl,?_⟩
    simp [ByteArray.data_extract,List.take_drop,Nat.add_sub_cancel' hle]
   ·simp [execOp,ho,e1,Instr.sliceAt,r_under hd,Instr.slice,hr]
theorem did_sliceLst {m:Nat} {y:AX} {lo hi max:Option AX} (hf:opFits P gl o.op (.sliceLst m y lo hi max)=true) (h:opA (.sliceLst m y lo hi max) e st=some (.val v st')) :
  Did P K base J (execOp a.eval o) w v st':=by
 cases ho:o.op<;>simp only [ho,opFits,Bool.false_eq_true] at hf
 rename_i t x l hh mx
 simp only [Bool.and_eq_true] at hf
 obtain ⟨⟨⟨⟨hel,hx⟩,hl⟩,hhi⟩,hmx⟩:=hf
 obtain ⟨el,hd,hsize⟩:∃el,P.underlying t=some (.slice el)∧sizeT P el=some m:=by
  unfold elemFits at hel
  split at hel
  ·rename_i el hd
   simp only [Bool.and_eq_true] at hel
   exact ⟨el,hd,(varFits_iff hel.1).1⟩
  ·cases hel
 have h1:=xFits_rep hE hG hx
 simp only [opA] at h
 -- the value that the cut gives,of a slice at an address or none
 have still:∀(m':Nat) (es:List AV) (ap:Ap) (l' h' cp:Nat) (ap':Ap),(m'=m∨es=[])→Rep J (.lst m' es ap) (a.eval x)→l'≤h'→h'≤es.length →
   (∀id,ap'≠.tok id)→(∀base' cap,a.eval x=.slice base' es.length cap→∃c',(Instr.sliceBounds true es.length cap (l.map a.eval) (hh.map a.eval) (mx.map a.eval)).run P w=.ok (l',h',c') w∧h'≤c'∧c'≤cap∧(ap'=.tight→c'=h')) →
   v=.lst m ((es.take h').drop l') ap'→st'=st→Did P K base J (execOp a.eval o) w v st':=by
  intro m' es ap l' h' cp ap' hmm hrep hle hle' hap hb hv hst
  subst hv hst
  simp only [Rep] at hrep
  obtain ⟨_,⟨e1,e2⟩ | ⟨ad,cap,e1,hsp,hcap,_,helm⟩⟩:=hrep
  ·subst e2
   simp at hle';subst hle'
   have hl0:l'=0:=by omega
   subst hl0
   obtain ⟨c',hr,g1,g2,_⟩:=hb none 0 e1
   have:c'=0:=by omega
   subst this
   refine Did.same hS (x:=.slice none 0 0) ?_ ?_
   ·simp only [Rep];exact ⟨fun id e=>absurd e (hap id),.inl (by simp)⟩
   ·simp only [execOp,ho,e1,Instr.sliceAt,Sem.run_bind,r_under hd,Result.andThen_ok,Instr.slice]
    simp at hr
    simp [hr,r_size hsize,r_under hd]
  ·obtain ⟨c',hr,g1,g2,g3⟩:=hb (some ad) cap e1
   refine Did.same hS (x:=.slice (if c'=l' then some ad else some (ad.add (l' * m))) (h'-l') (c'-l')) ?_ ?_
   ·simp only [Rep]
    refine ⟨fun id e=>absurd e (hap id),.inr ?_⟩
    have hlen:((es.take h').drop l').length=h'-l':=by simp;omega
    by_cases hc:c'=l'
    ·rw [if_pos hc]
     have h0:h'-l'=0:=by omega
     refine ⟨ad,c'-l',by rw [hlen],fun _=>hsp (by omega),by omega,fun e=>by rw [hlen];have:=g3 e;omega,?_⟩
     have:(es.take h').drop l'=[]:=List.eq_nil_of_length_eq_zero (by omega)
     rw [this];simp [Elems]
    ·rw [if_neg hc]
     have hsp:=hsp (by omega)
     refine ⟨ad.add (l' * m),c'-l',by rw [hlen],fun _=>by rw [add_none hsp],by omega,fun e=>by rw [hlen];have:=g3 e;omega,?_⟩
     rcases hmm with rfl | hnil
     ·rw [add_none hsp];exact (helm.take h').drop l'
     ·subst hnil;simp [Elems]
   ·simp only [execOp,ho,e1,Instr.sliceAt,Sem.run_bind,r_under hd,Result.andThen_ok,Instr.slice]
    simp [hr,r_size hsize,r_under hd]
 cases hy:y.ev e<;>simp only [hy] at h<;>try (cases h;done)
 ·rename_i m' es ap
  rw [hy] at h1
  split at h
  ·rename_i hmm
   cases max with
   | some mx' =>
    cases mx with
    | none=>simp [oxFits] at hmx
    | some mo =>
     simp only [] at h
     cases b0:bound (some (mx'.ev e)) 0 es.length with
     | none=>simp [b0] at h
     | some c =>
      simp only [b0,Option.bind_some] at h
      cases b1:bound (hi.map (AX.ev e)) 0 c with
      | none=>simp [b1] at h
      | some h' =>
       simp only [b1,Option.bind_some] at h
       cases b2:bound (lo.map (AX.ev e)) 0 h' with
       | none=>simp [b2] at h
       | some l' =>
        simp only [b2,Option.bind_some] at h
        split at h
        ·rename_i hsome
         simp only [Option.some.injEq,Nx.val.injEq] at h
         obtain ⟨h3,h4⟩:=h
         rcases r_bound hE hG hmx (by simpa using b0) with ⟨q,_,_⟩ | ⟨mo',k0,i0,q,e0,p0,p1,p2,p3⟩
         ·cases q
         cases q
         rcases r_bound hE hG hhi b1 with ⟨q,q',_⟩ | ⟨ho',k1,i1,q,e1,q0,q1,q2,q3⟩
         ·rw [q'] at hsome;simp at hsome
         subst q
         refine still m' es ap l' h' c (if h'=c then .tight else .no) hmm h1 ?_ (by omega) (fun id=>by split<;>simp) ?_ h3.symm h4.symm
         ·rcases r_bound hE hG hl b2 with ⟨_,_,rfl⟩ | ⟨_,_,_,_,_,_,_,_,r3⟩
          ·exact Nat.zero_le _
          ·exact r3
         ·intro base' cap hev
          refine ⟨c,?_,q3,?_,fun ht=>by split at ht;omega;cases ht⟩
          ·have hcap:es.length≤cap:=by
            simp only [Rep] at h1
            obtain ⟨_,⟨e1,e2⟩ | ⟨ad,cap',e1,_,hcap,_⟩⟩:=h1
            ·subst e2;exact Nat.zero_le _
            ·rw [e1] at hev;cases hev;exact hcap
           have p1':i0≤(cap:Int):=by omega
           have q1':i1≤(i0.toNat:Int):=by omega
           subst p2 q2
           rcases r_bound hE hG hl b2 with ⟨rfl,_,rfl⟩ | ⟨lo',k2,i2,rfl,e2,r0,r1,rfl,r3⟩
           ·simp [Instr.sliceBounds,e0,e1,r_sliceBound p0 p1',r_sliceBound q0 q1']
           ·simp [Instr.sliceBounds,e0,e1,e2,r_sliceBound p0 p1',r_sliceBound q0 q1',r_sliceBound r0 r1]
          ·simp only [Rep] at h1
           obtain ⟨_,⟨e1,e2⟩ | ⟨ad,cap',e1,_,hcap,_⟩⟩:=h1
           ·subst e2;simp at p3;omega
           ·rw [e1] at hev;cases hev;omega
        ·cases h
   | none =>
    cases mx with
    | some mo=>simp [oxFits] at hmx
    | none =>
     simp only [] at h
     cases b1:bound (hi.map (AX.ev e)) es.length es.length with
     | none=>simp [b1] at h
     | some h' =>
      simp only [b1,Option.bind_some] at h
      cases b2:bound (lo.map (AX.ev e)) 0 h' with
      | none=>simp [b2] at h
      | some l' =>
       simp only [b2,Option.map_some,Option.some.injEq,Nx.val.injEq] at h
       obtain ⟨h3,h4⟩:=h
       have hcapof:∀base' cap,a.eval x=.slice base' es.length cap→es.length≤cap∧(ap=.tight→cap=es.length):=by
        intro base' cap hev
        simp only [Rep] at h1
        obtain ⟨_,⟨e1,e2⟩ | ⟨ad,cap',e1,_,hcap,ht,_⟩⟩:=h1
        ·subst e2;rw [e1] at hev;cases hev;simp
        ·rw [e1] at hev;cases hev;exact ⟨hcap,ht⟩
       have hh':l'≤h'∧h'≤es.length:=by
        constructor
        ·rcases r_bound hE hG hl b2 with ⟨_,_,rfl⟩ | ⟨_,_,_,_,_,_,_,_,r3⟩
         ·exact Nat.zero_le _
         ·exact r3
        ·rcases r_bound hE hG hhi b1 with ⟨_,_,rfl⟩ | ⟨_,_,_,_,_,_,_,_,r3⟩
         ·exact Nat.le_refl _
         ·exact r3
       refine still m' es ap l' h' 0 (if h'=es.length∧ap=.tight then .tight else .no) hmm h1 hh'.1 hh'.2 (fun id=>by split<;>simp) ?_ h3.symm h4.symm
       intro base' cap hev
       obtain ⟨hc1,hc2⟩:=hcapof base' cap hev
       obtain ⟨hr,_,_⟩:=r_bounds (P:=P) (w:=w) (isSlice:=true) hE hG hl hhi hc1 hc1 b1 b2
       refine ⟨cap,hr,by omega,Nat.le_refl _,fun ht=>?_⟩
       split at ht
       ·rename_i hq;have:=hc2 hq.2;omega
       ·cases ht
  ·cases h
 ·rename_i r m' off n cap
  split at h
  ·rename_i hmm
   obtain ⟨rfl,hnone⟩:=hmm
   cases max with
   | some mx'=>simp at hnone
   | none =>
    cases mx with
    | some mo=>simp [oxFits] at hmx
    | none =>
     rw [hy] at h1;simp only [Rep] at h1
     obtain ⟨b,c,hb,e1,hnc,hcap,sn,hsn,hsl⟩:=h1
     have hmul:∀q,q≤c→off+q * m'+(c-q) * m'≤sn:=fun q hq=>by
      have:q * m'+(c-q) * m'=c * m':=by rw [←Nat.add_mul];congr 1;omega
      omega
     cases cap with
     | some c' =>
      have:=hcap c' rfl;subst this
      simp only [] at h
      cases b1:bound (hi.map (AX.ev e)) n c with
      | none=>simp [b1] at h
      | some h' =>
       simp only [b1,Option.bind_some] at h
       cases b2:bound (lo.map (AX.ev e)) 0 h' with
       | none=>simp [b2] at h
       | some l' =>
        simp only [b2,Option.bind_some] at h
        obtain ⟨hr,hle,htop⟩:=r_bounds (P:=P) (w:=w) (isSlice:=true) hE hG hl hhi (Nat.le_refl _) hnc b1 b2
        have hhc:h'≤c:=by omega
        split at h
        ·rename_i hlt
         simp only [Option.some.injEq,Nx.val.injEq] at h
         obtain ⟨rfl,rfl⟩:=h
         refine Did.same hS (x:=.slice (some ⟨b,off+l' * m',none⟩) (h'-l') (c-l')) ?_ ?_
         ·simp only [Rep];exact ⟨b,c-l',hb,rfl,by omega,(fun k e=>by cases e;rfl),sn,hsn,hmul l' (by omega)⟩
         ·have hne:¬c=l':=by omega
          simp [execOp,ho,e1,Instr.sliceAt,r_under hd,Instr.slice,hr,r_size hsize,hne,add_none]
        ·simp only [Option.some.injEq,Nx.val.injEq] at h
         obtain ⟨rfl,rfl⟩:=h
         have hcl:c=l':=by omega
         have hhl:h'=l':=by omega
         refine Did.same hS (x:=.slice (some ⟨b,off,none⟩) 0 0) ?_ ?_
         ·simp only [Rep];exact ⟨fun id e=>(by cases e),.inr ⟨_,0,rfl,fun _=>rfl,Nat.le_refl _,fun _=>rfl,by simp [Elems]⟩⟩
         ·subst hcl hhl
          simp [execOp,ho,e1,Instr.sliceAt,r_under hd,Instr.slice,hr,r_size hsize]
     | none =>
      simp only [] at h
      cases b1:bound (hi.map (AX.ev e)) n n with
      | none=>simp [b1] at h
      | some h' =>
       simp only [b1,Option.bind_some] at h
       cases b2:bound (lo.map (AX.ev e)) 0 h' with
       | none=>simp [b2] at h
       | some l' =>
        simp only [b2,Option.bind_some] at h
        obtain ⟨hr,hle,htop⟩:=r_bounds (P:=P) (w:=w) (isSlice:=true) hE hG hl hhi hnc hnc b1 b2
        have hhc:h'≤n:=by omega
        split at h
        ·rename_i hlt
         simp only [Option.some.injEq,Nx.val.injEq] at h
         obtain ⟨rfl,rfl⟩:=h
         refine Did.same hS (x:=.slice (some ⟨b,off+l' * m',none⟩) (h'-l') (c-l')) ?_ ?_
         ·simp only [Rep];exact ⟨b,c-l',hb,rfl,by omega,(fun k e=>by cases e),sn,hsn,hmul l' (by omega)⟩
         ·have hne:¬c=l':=by omega
          simp [execOp,ho,e1,Instr.sliceAt,r_under hd,Instr.slice,hr,r_size hsize,hne,add_none]
        ·simp only [Option.some.injEq,Nx.val.injEq] at h
         obtain ⟨rfl,rfl⟩:=h
         have hhl:h'=l':=by omega
         subst hhl
         refine Did.same hS (x:=.slice (if c=h' then some ⟨b,off,none⟩ else some ⟨b,off+h' * m',none⟩) 0 (c-h')) ?_ ?_
         ·simp only [Rep]
          refine ⟨fun id e=>(by cases e),.inr ?_⟩
          by_cases hc:c=h'
          ·rw [if_pos hc];exact ⟨_,_,rfl,fun _=>rfl,Nat.zero_le _,fun e=>(by cases e),by simp [Elems]⟩
          ·rw [if_neg hc];exact ⟨_,_,rfl,fun _=>rfl,Nat.zero_le _,fun e=>(by cases e),by simp [Elems]⟩
         ·by_cases hc:c=h'
          ·subst hc;simp [execOp,ho,e1,Instr.sliceAt,r_under hd,Instr.slice,hr,r_size hsize]
          ·simp [execOp,ho,e1,Instr.sliceAt,r_under hd,Instr.slice,hr,r_size hsize,hc,add_none]
  ·cases h
theorem did_sliceArr {n m:Nat} {y:AX} {lo hi:Option AX} (hf:opFits P gl o.op (.sliceArr n m y lo hi)=true) (h:opA (.sliceArr n m y lo hi) e st=some (.val v st')) :
  Did P K base J (execOp a.eval o) w v st':=by
 cases ho:o.op<;>simp only [ho,opFits,Bool.false_eq_true] at hf
 rename_i t x l hh mx
 cases mx<;>simp only [Bool.false_eq_true] at hf
 simp only [Bool.and_eq_true] at hf
 obtain ⟨⟨⟨hk,hx⟩,hl⟩,hhi⟩:=hf
 have h1:=xFits_rep hE hG hx
 simp only [opA] at h
 cases hy:y.ev e<;>simp only [hy] at h<;>try (cases h;done)
 rename_i r off
 rw [hy] at h1;simp only [Rep] at h1
 obtain ⟨b,hb,e1⟩:=h1
 cases hst:st[r]? with
 | none=>simp [hst] at h
 | some ob =>
 cases ob<;>simp only [hst] at h<;>try (cases h;done)
 rename_i ty0 cs0
 split at h
 case isFalse=>cases h
 rename_i hsize0
 obtain ⟨b',cc,tt,q1,_,q3,_,_,_,sn,hsn,hsc,_⟩:=hS.obj r _ hst
 have hsl:off+n * m≤sn:=by omega
 cases b1:bound (hi.map (AX.ev e)) n n with
 | none=>simp [b1] at h
 | some h' =>
  simp only [b1,Option.bind_some] at h
  cases b2:bound (lo.map (AX.ev e)) 0 h' with
  | none=>simp [b2] at h
  | some l' =>
   simp only [b2,Option.bind_some] at h
   obtain ⟨hr,hle,htop⟩:=r_bounds (P:=P) (w:=w) (isSlice:=false) hE hG hl hhi (Nat.le_refl _) (Nat.le_refl _) b1 b2
   have hhc:h'≤n:=by omega
   have hrun:(execOp a.eval o).run P w=.ok (.value (.slice (some (if n=l' then ⟨b,off,none⟩ else ⟨b,off+l' * m,none⟩)) (h'-l') (n-l'))) w:=by
    split at hk
    ·rename_i n' el hd
     simp only [Bool.and_eq_true,beq_iff_eq] at hk
     obtain ⟨rfl,hsize⟩:=hk
     by_cases hc:n'=l'
     ·subst hc;simp [execOp,ho,e1,Instr.sliceAt,r_under hd,Instr.sureAddr,hr,r_size hsize]
     ·simp [execOp,ho,e1,Instr.sliceAt,r_under hd,Instr.sureAddr,hr,r_size hsize,hc,add_none]
    ·rename_i ar hd
     split at hk
     ·rename_i n' el hd'
      simp only [Bool.and_eq_true,beq_iff_eq] at hk
      obtain ⟨rfl,hsize⟩:=hk
      by_cases hc:n'=l'
      ·subst hc;simp [execOp,ho,e1,Instr.sliceAt,r_under hd,Instr.slice,asAddr,r_under hd',hr,r_size hsize]
      ·simp [execOp,ho,e1,Instr.sliceAt,r_under hd,Instr.slice,asAddr,r_under hd',hr,r_size hsize,hc,add_none]
     ·cases hk
    ·cases hk
   split at h
   ·rename_i hlt
    simp only [Option.some.injEq,Nx.val.injEq] at h
    obtain ⟨rfl,rfl⟩:=h
    have hne:¬n=l':=by omega
    rw [if_neg hne] at hrun
    refine Did.same hS ?_ hrun
    simp only [Rep]
    refine ⟨b,n-l',hb,rfl,by omega,(fun k e=>by cases e;rfl),sn,hsn,?_⟩
    have:l' * m+(n-l') * m=n * m:=by rw [←Nat.add_mul];congr 1;omega
    omega
   ·simp only [Option.some.injEq,Nx.val.injEq] at h
    obtain ⟨rfl,rfl⟩:=h
    have hcl:n=l':=by omega
    have hhl:h'=l':=by omega
    refine Did.same hS ?_ hrun
    simp only [Rep]
    refine ⟨fun id e=>(by cases e),.inr ⟨if n=l' then ⟨b,off,none⟩ else ⟨b,off+l' * m,none⟩,n-l',by simp;omega,fun _=>by split<;>rfl,Nat.zero_le _,fun _=>by simp;omega,by simp [Elems]⟩⟩
end
end Go.Proofs.YtgkhmmlemgikjaaGreatDoor.Ai
