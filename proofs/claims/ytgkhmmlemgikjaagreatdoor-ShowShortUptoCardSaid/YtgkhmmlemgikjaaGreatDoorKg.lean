/- Part Kg. No condition. -/
import Derived.Test.YtgkhmmlemgikjaaGreatDoorKf
import Derived.Test.YtgkhmmlemgikjaaGreatDoorKe
set_option linter.unusedVariables false
set_option linter.unusedSimpArgs false
namespace Go.Proofs.YtgkhmmlemgikjaaGreatDoor
open Go Ai
abbrev Tk:=Lx.Tok
structure Rd where
 i:Nat
 xs:List Ex
 c:Int
 b:Int
def Rd.adv (R:Rd):Rd:={ R with i:=R.i+1 }
abbrev RM (α:Type):=Rd→α×Rd
section
variable (L:List Tk)
def tkF (R:Rd):Tk:=L.getD R.i ⟨5,[],0,0⟩
def posF (R:Rd):Int:=(tkF L R).pos
def failR (e:Int) (R:Rd):Rd:=if R.c=0 then { R with c:=e,b:=posF L R } else R
def isR (w:Sx) (R:Rd):Bool:=decide (R.c=0) && ((decide ((tkF L R).kind=3) || decide ((tkF L R).kind=4)) && decide ((tkF L R).text=w))
def wantR (w:Sx) (R:Rd):Rd:=if isR L w R then R.adv else failR L 2 R
def nameR:RM Sx:=fun R=>if R.c=0∧(tkF L R).kind=1 then ((tkF L R).text,R.adv) else ([],failR L 2 R)
def putR (x:Ex):RM Int:=fun R=>((R.xs.length:Int),{ R with xs:=R.xs++[x] })
def kindR:RM Int:=fun R=>if isR L [98,111,111,108] R then (2,R.adv) else (1,wantR L [102,105,120] R)
def lvTab:List (Sx×Int×Int):=[([111,114],1,14),([97,110,100],2,13),([60],3,10),([60,61],3,11),([61,61],3,12),([43],4,6),([45],4,7),([42],5,8),([47],5,9)]
def levelR (R:Rd):Int×Int:=match lvTab.find? fun e=>isR L e.1 R with
 | some e=>e.2
 | none=>(0,0)
def preTab:List (Sx×Int):=[([45],4),([110,111,116],5),([112,114,101],16),([115,113,114,116],21)]
def preR (R:Rd):Int:=match preTab.find? fun e=>isR L e.1 R with
 | some e=>e.2
 | none=>0
def chainF (B:RM Int) (least:Int):Nat→Int→RM Int
 | 0,a,R=>(a,R)
 | m + 1, a, R => if R.c = 0 then
     if (levelR L R).1=least then
      let b:=B R.adv
      let q:=putR ⟨(levelR L R).2,a,b.1,0,[],[],0,[],.tight,posF L R⟩ b.2
      if least=3 then q else chainF B least m q.1 q.2
     else (a,R)
  else (a,R)
def binF (P:RM Int):Nat→RM Int
 | 0,R=>P R
 | n+1,R=>chainF L (binF P n) (5-(n:Int)) L.length (binF P n R).1 (binF P n R).2
def argsF (E:RM Int):Nat→List Int→RM (List Int)
 | 0,l,R=>(l,R)
 | m+1,l,R=>if isR L [44] R then argsF E m (l++[(E R.adv).1]) (E R.adv).2 else (l,R)
def callF (E:RM Int):RM (List Int):=fun R=>if isR L [41] R then ([],R.adv) else
 let a:=E R
 let q:=argsF L E L.length [a.1] a.2
 (q.1,wantR L [41] q.2)
def atomF (E:RM Int):RM Int:=fun R =>
 let t:=tkF L R
 if t.kind=2 then putR ⟨1,0,0,0,[],[],t.v,[],.tight,t.pos⟩ R.adv else
 if isR L [116,114,117,101] R then putR ⟨2,0,0,0,[],[],1,[],.tight,t.pos⟩ R.adv else
 if isR L [102,97,108,115,101] R then putR ⟨2,0,0,0,[],[],0,[],.tight,t.pos⟩ R.adv else
 if t.kind=1 then
  if isR L [105,115] R.adv then
   let s:=nameR L R.adv.adv
   putR ⟨20,0,0,0,t.text,s.1,0,[],.tight,t.pos⟩ s.2
  else if isR L [40] R.adv then
   let q:=callF L E R.adv.adv
   putR ⟨19,0,0,0,t.text,[],0,q.1,endAp q.1.length,t.pos⟩ q.2
  else putR ⟨3,0,0,0,t.text,[],0,[],.tight,t.pos⟩ R.adv
 else
  let e:=E (wantR L [40] R)
  (e.1,wantR L [41] e.2)
def prefB (E P:RM Int):RM Int:=fun R=>if preR L R=0 then atomF L E R else
 let a:=P R.adv
 putR ⟨preR L R,a.1,0,0,[],[],0,[],.tight,posF L R⟩ a.2
def exprB (E P : RM Int) : RM Int := fun R => if isR L [105, 102] R then
    let a:=E R.adv
    let b:=E (wantR L [116,104,101,110] a.2)
    let c:=E (wantR L [101,108,115,101] b.2)
    putR ⟨15,a.1,b.1,c.1,[],[],0,[],.tight,posF L R⟩ c.2
 else
  let a:=binF L P 5 R
  if isR L [45,62] a.2 || isR L [102,98,121] a.2 then
   let b:=E a.2.adv
   putR ⟨if isR L [102,98,121] a.2 then 18 else 17,a.1,b.1,0,[],[],0,[],.tight,posF L a.2⟩ b.2
  else a
def epF:Nat→RM Int×RM Int
 | 0=>(fun R=>(0,failR L 3 R),fun R=>(0,failR L 3 R))
 | f+1=>(fun R=>if R.c=0 then exprB L (epF f).1 (epF f).2 R else (0,R),fun R=>if R.c=0 then prefB L (epF f).1 (epF f).2 R else (0,R))
def exprF:RM Int:=(epF L 30).1
def pmsF:Nat→List Pm→RM (List Pm)
 | 0,l,R=>(l,R)
 | m + 1, l, R => if R.c = 0 then
     let n:=nameR L R
     let k:=kindR L (wantR L [58] n.2)
     if isR L [44] k.2 then pmsF m (l++[⟨n.1,k.1⟩]) k.2.adv else (l++[⟨n.1,k.1⟩],wantR L [41] k.2)
  else (l,R)
def paramsF:RM (List Pm):=fun R=>if isR L [41] (wantR L [40] R) then ([],(wantR L [40] R).adv) else pmsF L L.length [] (wantR L [40] R)
def stsF:Nat→List Sx→RM (List Sx)
 | 0,l,R=>(l,R)
 | m+1,l,R=>if isR L [44] R then stsF m (l++[(nameR L R.adv).1]) (nameR L R.adv).2 else (l,R)
def finR (x:It) (R:Rd):(It×Bool)×Rd:=((x,decide ((wantR L [59] R).c=0)),wantR L [59] R)
def itmF (all:Bool):RM (It×Bool):=fun R =>
 let p:=posF L R
 if isR L [108,101,116] R then
  let n:=nameR L R.adv
  let k:=kindR L (wantR L [58] n.2)
  let e:=exprF L (wantR L [61] k.2)
  finR L ⟨1,n.1,k.1,e.1,0,[],.tight,[],[],p⟩ e.2
 else if all && isR L [100,101,114] R then
  let n:=nameR L R.adv
  let e:=exprF L (wantR L [61] n.2)
  let f:=exprF L (wantR L [105,110,105,116] e.2)
  finR L ⟨2,n.1,0,e.1,f.1,[],.tight,[],[],p⟩ f.2
 else if all && isR L [114,101,115,101,116] R then
  let n:=nameR L R.adv
  let f:=exprF L (wantR L [111,110] n.2)
  let e:=exprF L (wantR L [61] f.2)
  finR L ⟨3,n.1,0,e.1,f.1,[],.tight,[],[],p⟩ e.2
 else if all && isR L [109,101,109] R then
  let n:=nameR L R.adv
  let k:=kindR L (wantR L [58] n.2)
  let e:=exprF L (wantR L [105,110,105,116] k.2)
  finR L ⟨4,n.1,k.1,e.1,0,[],.tight,[],[],p⟩ e.2
 else if all && isR L [111,110] R then
  let f:=exprF L R.adv
  let n:=nameR L (wantR L [115,101,116] f.2)
  let e:=exprF L (wantR L [61] n.2)
  finR L ⟨5,n.1,0,e.1,f.1,[],.tight,[],[],p⟩ e.2
 else if all && isR L [109,111,100,101] R then
  let n:=nameR L R.adv
  let s:=nameR L (wantR L [123] n.2)
  let q:=stsF L L.length [s.1] s.2
  finR L ⟨6,n.1,0,0,0,q.1,.no,[],[],p⟩ (wantR L [125] q.2)
 else if all && isR L [102,114,111,109] R then
  let n:=nameR L R.adv
  let s:=nameR L (wantR L [46] n.2)
  let f:=exprF L (wantR L [111,110] s.2)
  let x:=nameR L (wantR L [103,111,116,111] f.2)
  finR L ⟨7,n.1,0,0,f.1,[],.tight,s.1,x.1,p⟩ x.2
 else if all && isR L [111,117,116] R then
  let n:=nameR L R.adv
  finR L ⟨8,n.1,0,0,0,[],.tight,[],[],p⟩ n.2
 else ((⟨0,[],0,0,0,[],.tight,[],[],p⟩,false),R)
def itsF (all:Bool):Nat→List It→RM (List It)
 | 0,l,R=>(l,R)
 | m + 1, l, R => if R.c = 0 then
     let x:=itmF L all R
     if x.1.2 then itsF all m (l++[x.1.1]) x.2 else (l,x.2)
  else (l,R)
def declB (k:Int) (p:Int) (R:Rd):Dc×Rd :=
 let n:=nameR L R
 let q:=paramsF L n.2
 if k=3 then
  let l:=itsF L true L.length [] (wantR L [123] q.2)
  (⟨3,n.1,q.1,endAp q.1.length,l.1,endAp l.1.length,0,0,p⟩,wantR L [125] l.2)
 else
  let t:=kindR L (wantR L [58] q.2)
  if k=1 then
   let e:=exprF L (wantR L [61] t.2)
   (⟨1,n.1,q.1,endAp q.1.length,[],.tight,t.1,e.1,p⟩,wantR L [59] e.2)
  else
   let l:=itsF L false L.length [] (wantR L [123] t.2)
   let e:=exprF L (wantR L [114,101,116,117,114,110] l.2)
   (⟨2,n.1,q.1,endAp q.1.length,l.1,endAp l.1.length,t.1,e.1,p⟩,wantR L [125] (wantR L [59] e.2))
def dclF:RM Dc:=fun R =>
 if isR L [102,117,110] R then declB L 1 (posF L R) R.adv else
 if isR L [110,111,100,101] R then declB L 2 (posF L R) R.adv else declB L 3 (posF L R) (wantR L [104,121,98,114,105,100] R)
def dclsF:Nat→List Dc→RM (List Dc)
 | 0,l,R=>(l,R)
 | m+1,l,R=>if R.c=0∧(tkF L R).kind≠5 then dclsF m (l++[(dclF L R).1]) (dclF L R).2 else (l,R)
def endR (R:Rd):Rd:=if R.c=0∧(tkF L R).kind≠5 then failR L 2 R else R
def readF (ex : Bool) : (List Dc × Int) × Rd := if ex then
    let e:=exprF L ⟨0,[],0,0⟩
    (([],e.1),endR L e.2)
 else
  let l:=dclsF L L.length [] ⟨0,[],0,0⟩
  ((l.1,0),endR L l.2)
end
def noPg:Pg:=⟨[],.tight,[],.tight⟩
def parseF (s:Sx) (ex:Bool):Pg×Int×Int×Int:=if 20000<s.length then (noPg,0,10,0) else match Lx.lexK s 0 with
 | .error p=>(noPg,0,1,p)
 | .ok ts =>
  let q:=readF ts ex
  if q.2.c=0 then (⟨q.1.1,endAp q.1.1.length,q.2.xs,endAp q.2.xs.length⟩,q.1.2,0,0) else (noPg,0,q.2.c,q.2.b)
end Go.Proofs.YtgkhmmlemgikjaaGreatDoor
namespace Go.Proofs.YtgkhmmlemgikjaaGreatDoor
open Go Ai
theorem fn44:A.fn 44=some a44:=by kernel_rfl
theorem prim44:A.prim 44=none:=by kernel_rfl
theorem fn74:A.fn 74=some a74:=by kernel_rfl
theorem prim74:A.prim 74=none:=by kernel_rfl
theorem fn70:A.fn 70=some a70:=by kernel_rfl
theorem prim70:A.prim 70=none:=by kernel_rfl
theorem fn71:A.fn 71=some a71:=by kernel_rfl
theorem prim71:A.prim 71=none:=by kernel_rfl
theorem fn75:A.fn 75=some a75:=by kernel_rfl
theorem prim75:A.prim 75=none:=by kernel_rfl
theorem fn72:A.fn 72=some a72:=by kernel_rfl
theorem prim72:A.prim 72=none:=by kernel_rfl
theorem fn69:A.fn 69=some a69:=by kernel_rfl
theorem prim69:A.prim 69=none:=by kernel_rfl
theorem fn78:A.fn 78=some a78:=by kernel_rfl
theorem prim78:A.prim 78=none:=by kernel_rfl
theorem fn116:A.fn 116=some a116:=by kernel_rfl
theorem prim116:A.prim 116=none:=by kernel_rfl
def w116_0:List Nat:=a116_0.writes
def rdCs (L:List Tk) (dv:AV) (dp:Nat) (R:Rd) (es:List AV) (o:Ap):List AV:=[.lst 4 (L.map Lx.Tok.av) .no,.int .i64 R.i,dv,.lst 9 es o,.int .i64 dp,.int .i64 R.c,.int .i64 R.b]
structure Tks (L:List Tk):Prop where
 len:L.length≤20001
 last:∀t,L[L.length-1]?=some t→t.kind=5
 text:∀t∈L,t.text.length≤20000
structure RdOk (n r:Nat) (L:List Tk) (dv:AV) (dp:Nat) (s:St) (R:Rd):Prop where
 cell:∃es o,s[r]?=some (.cells none (rdCs L dv dp R es o))∧es.length=R.xs.length∧Own s n 9 (some 62) o R.xs.length∧(∀S,AV.stills n S es=some (R.xs.map Ex.av))
 ok:StOk s
 le:n≤r
 lt:R.i<L.length
 xl:R.xs.length≤R.i
 tk:Tks L
 dp:dp≤31
structure Keep (n r:Nat) (s s':St):Prop where
 g:Grew n s s'
 k:∀j o,j≠r→s[j]?=some o→(∀l,o≠.tok 9 l (some 62))→s'[j]?=some o
theorem Keep.refl {n r:Nat} {s:St}:Keep n r s s:=⟨.refl,fun _ _ _ h _=>h⟩
theorem Keep.trans {n r:Nat} {a b c:St} (h:Keep n r a b) (g:Keep n r b c):Keep n r a c:=⟨h.g.trans g.g,fun j o h1 h2 h3=>g.k j o h1 (h.k j o h1 h2 h3) h3⟩
theorem Keep.app {n r:Nat} {s:St} {o:AObj} (hn:n≤s.length) (ho:AObj.lowB (s.length+1) o=true):Keep n r s (s++[o]) :=
 ⟨⟨by rw [List.take_append_of_le_length hn],by simp,fun h=>h.snoc ho⟩,fun j o _ h _=>by rw [List.getElem?_append_left (List.getElem?_eq_some_iff.1 h).1];exact h⟩
theorem Keep.set {n r:Nat} {s:St} {o:AObj} (hn:n≤r) (ho:AObj.lowB s.length o=true):Keep n r s (s.set r o) :=
 ⟨⟨by rw [List.take_set,List.set_eq_of_length_le (by simp;omega)],by simp,fun h=>h.set' ho⟩,fun j o h1 h _=>by rw [List.getElem?_set_ne (fun e=>h1 e.symm)];exact h⟩
theorem Keep.own {n r b m k:Nat} {s s':St} {ty:Option TypeId} {ap:Ap} (h:Keep n r s s') (ho:Own s b m ty ap k) (hm:m≠9∨ty≠some 62) {cs:List AV} (hr:s[r]?=some (.cells none cs)):Own s' b m ty ap k:=by
 rcases ho with ho | ⟨h0,id,h1,h2,h3⟩
 ·exact .inl ho
 ·refine .inr ⟨h0,id,h1,h2,h.k id _ ?_ h3 ?_⟩
  ·rintro rfl;rw [hr] at h3;cases h3
  ·intro l e;cases e;rcases hm with h | h<;>exact h rfl
section
variable {n r:Nat} {L:List Tk} {dv:AV} {dp:Nat} {s:St} {R:Rd}
theorem RdOk.get (q:RdOk n r L dv dp s R):L[R.i]?=some (tkF L R):=by
 have:=q.lt;simp [tkF,List.getD_eq_getElem?_getD,this]
theorem RdOk.len (q:RdOk n r L dv dp s R):r<s.length:=by
 obtain ⟨es,o,h,_⟩:=q.cell
 exact (List.getElem?_eq_some_iff.1 h).1
theorem RdOk.adv (q:RdOk n r L dv dp s R) (h:(tkF L R).kind≠5):R.i+1<L.length:=by
 have h1:=q.lt
 rcases Nat.lt_or_ge (R.i+1) L.length with h2 | h2
 ·exact h2
 ·have e:L.length-1=R.i:=by omega
  have:=q.tk.last _ (by rw [e];exact q.get)
  exact absurd this h
theorem RdOk.app (q:RdOk n r L dv dp s R) {o:AObj} (ho:AObj.lowB (s.length+1) o=true):RdOk n r L dv dp (s++[o]) R:=by
 obtain ⟨es,p,h1,h2,h3,h4⟩:=q.cell
 exact { q with cell:=⟨es,p,by rw [List.getElem?_append_left q.len];exact h1,h2,h3.snoc,h4⟩,ok:=q.ok.snoc ho }
theorem RdOk.upd (q:RdOk n r L dv dp s R) {es:List AV} {o:Ap} (hr:s[r]?=some (.cells none (rdCs L dv dp R es o))) {R':Rd} {z zd c b:Int} {dp':Nat} (hxs:R'.xs=R.xs) (hz:z=R'.i) (hzd:zd=dp') (hc:c=R'.c) (hb:b=R'.b) (hi:R'.i<L.length) (hx:R.xs.length≤R'.i) (hd:dp'≤31) :
  RdOk n r L dv dp' (s.set r (.cells none [.lst 4 (L.map Lx.Tok.av) .no,.int .i64 z,dv,.lst 9 es o,.int .i64 zd,.int .i64 c,.int .i64 b])) R' ∧
  Keep n r s (s.set r (.cells none [.lst 4 (L.map Lx.Tok.av) .no,.int .i64 z,dv,.lst 9 es o,.int .i64 zd,.int .i64 c,.int .i64 b])):=by
 obtain ⟨i,xs,c',b'⟩:=R'
 simp only at hxs hz hc hb hi hx
 subst hz;subst hzd;subst hc;subst hb;subst hxs
 obtain ⟨es',p,h1,h2,h3,h4⟩:=q.cell
 rw [h1] at hr
 have e:=(AObj.cells.inj (Option.some.inj hr)).2
 simp only [rdCs,List.cons.injEq,AV.lst.injEq,true_and,and_true] at e
 obtain ⟨rfl,rfl⟩:=e
 have hlow:AObj.lowB s.length (.cells none [.lst 4 (L.map Lx.Tok.av) .no,.int .i64 i,dv,.lst 9 es' p,.int .i64 dp',.int .i64 c,.int .i64 b])=true:=by
  have:=q.ok.get h1
  simpa [AObj.lowB,rdCs,AV.lowsB,AV.lowB] using this
 have hs:∀o',Own (s.set r o') n 9 (some 62) p R.xs.length:=by
  intro o'
  rcases h3 with h3 | ⟨h0,id,e1,e2,e3⟩
  ·exact .inl h3
  ·refine .inr ⟨h0,id,e1,e2,?_⟩
   rw [List.getElem?_set_ne]
   ·exact e3
   ·rintro rfl;rw [h1] at e3;cases e3
 exact ⟨⟨⟨es',p,by simp [rdCs,q.len],h2,hs _,h4⟩,q.ok.set' hlow,q.le,hi,hx,q.tk,hd⟩,.set q.le hlow⟩
end
def Does (n r:Nat) (L:List Tk) (dv:AV) (dp dp':Nat) (f:Nat) (args:List AV) (s:St) (R':Rd) (V:AV):Prop :=
 ∃s',runL A (.call f (.ptr r 0::args)) s=some ⟨.ret,⟨[V],[]⟩,s'⟩∧RdOk n r L dv dp' s' R'∧Keep n r s s'
theorem does_of {n r:Nat} {L:List Tk} {dv:AV} {dp dp' f:Nat} {args:List AV} {s:St} {R':Rd} {V:AV} {F:AFunc} {N:Nat} (hp:A.prim f=none) (hf:A.fn f=some F) (hk:F.keep=true) (hN:(AV.ptr r 0::args).length+(F.ntmps-(AV.ptr r 0::args).length)=N)
  (h:∀e:Env,e.length=N→(∀i,AX.ev e (.t i)=(AV.ptr r 0::args).getD i .undef)→∀K:PostQ,
   (∀x e s',(x=.ret∨x=.nrm)→RdOk n r L dv dp' s' R'→Keep n r s s'→(∃vs,resultsA s' e F.results=some vs∧oneOf vs=V)→K x e [] s')→AW A f none F.body e [] s K):Does n r L dv dp dp' f args s R' V:=by
 obtain ⟨s',⟨h1,h2⟩,h3,_⟩:=task_of_aw_keep_ex (A:=A) (st:=s) (v:=V) (fun s'=>RdOk n r L dv dp' s' R'∧Keep n r s s') hp hf hk hN
  (fun e he ha K hK=>h e he ha K fun x e s' hx h1 h2 h3=>hK x e s' hx ⟨h1,h2⟩ h3)
 exact ⟨s',h3,h1,h2⟩
section
variable {n r:Nat} {L:List Tk} {dv:AV} {dp:Nat} {s:St} {R:Rd}
theorem tok_low {m:Nat} (t:Tk):AObj.lowB m (.cells none [.int .i64 t.kind,.str t.text,.int .i64 t.v,.int .i64 t.pos])=true:=rfl
theorem fail_does (q:RdOk n r L dv dp s R) (c:Int):Does n r L dv dp dp 44 [.int .i64 c] s (failR L c R) (.tup []):=by
 obtain ⟨es,o,hr,hl,ho,hst⟩:=q.cell
 have hr0:=hr
 simp only [rdCs] at hr
 have hg:=q.get
 refine does_of (N:=26) prim44 fn44 rfl rfl ?_
 intro e he ha K hK
 have a0:=ha 0
 have a1:=ha 1
 clear ha
 simp at a0 a1
 by_cases hc:R.c=0
 ·simp [a44,he,a0,a1,hr,hc,hg,Lx.Tok.av,Ai.beq_refl]
  have u:=q.upd hr0 (R':=⟨R.i,R.xs,c,posF L R⟩) (dp':=dp) rfl rfl rfl rfl rfl q.lt q.xl q.dp
  exact hK _ _ _ (.inr rfl) (by simpa [failR,hc,posF] using u.1) u.2 ⟨_,rfl,rfl⟩
 ·simp [a44,he,a0,a1,hr,hc]
  exact hK _ _ _ (.inr rfl) (by simpa [failR,hc] using q) .refl ⟨_,rfl,rfl⟩
theorem is_does (q:RdOk n r L dv dp s R) (w:Sx):Does n r L dv dp dp 74 [.str w] s R (.bool (isR L w R)):=by
 obtain ⟨es,o,hr,hl,ho,hst⟩:=q.cell
 simp only [rdCs] at hr
 have hg:=q.get
 have hr1:∀x:AObj,(s++[x])[r]?=some (.cells none [.lst 4 (L.map Lx.Tok.av) .no,.int .i64 R.i,dv,.lst 9 es o,.int .i64 dp,.int .i64 R.c,.int .i64 R.b]):=fun x=>by rw [List.getElem?_append_left q.len];exact hr
 refine does_of (N:=38) prim74 fn74 rfl rfl ?_
 intro e he ha K hK
 have a0:=ha 0
 have a1:=ha 1
 clear ha
 simp at a0 a1
 have e:=q.app (tok_low (tkF L R))
 have k:Keep n r s _:=.app (by have:=q.le;have:=q.len;omega) (tok_low (tkF L R))
 obtain ⟨t,ht⟩:∃t,t=tkF L R:=⟨_,rfl⟩
 rw [←ht] at hg e k
 by_cases hc:R.c=0
 ·by_cases h3:t.kind=3
  ·rw [h3] at e k
   simp [a74,he,a0,a1,hr,hr1,hg,Lx.Tok.av,Ai.beq_refl,hc,h3]
   exact hK _ _ _ (.inl rfl) e k ⟨_,rfl,by simp [he,isR,←ht,hc,h3]⟩
  ·have h3':¬(t.kind:Int)=3:=by omega
   by_cases h4:t.kind=4
   ·rw [h4] at e k
    simp [a74,he,a0,a1,hr,hr1,hg,Lx.Tok.av,Ai.beq_refl,hc,h4]
    exact hK _ _ _ (.inl rfl) e k ⟨_,rfl,by simp [he,isR,←ht,hc,h4]⟩
   ·have h4':¬(t.kind:Int)=4:=by omega
    simp [a74,he,a0,a1,hr,hr1,hg,Lx.Tok.av,Ai.beq_refl,hc,h3,h4,h3',h4']
    exact hK _ _ _ (.inl rfl) e k ⟨_,rfl,by simp [he,isR,←ht,hc,h3,h4]⟩
 ·simp [a74,he,a0,a1,hr,hr1,hg,Lx.Tok.av,Ai.beq_refl,hc]
  exact hK _ _ _ (.inl rfl) e k ⟨_,rfl,by simp [he,isR,hc]⟩
theorem isR_kind {w:Sx} (h:isR L w R=true):(tkF L R).kind≠5:=by
 simp only [isR,Bool.and_eq_true,Bool.or_eq_true,decide_eq_true_eq] at h;omega
theorem isR_c {w:Sx} (h:isR L w R=true):R.c=0:=by
 simp only [isR,Bool.and_eq_true,decide_eq_true_eq] at h;exact h.1
theorem RdOk.next (q:RdOk n r L dv dp s R) (h:(tkF L R).kind≠5) {es:List AV} {o:Ap} (hr:s[r]?=some (.cells none (rdCs L dv dp R es o))) :
  RdOk n r L dv dp (s.set r (.cells none [.lst 4 (L.map Lx.Tok.av) .no,.int .i64 ((R.i:Int)+1),dv,.lst 9 es o,.int .i64 dp,.int .i64 R.c,.int .i64 R.b])) R.adv ∧
  Keep n r s (s.set r (.cells none [.lst 4 (L.map Lx.Tok.av) .no,.int .i64 ((R.i:Int)+1),dv,.lst 9 es o,.int .i64 dp,.int .i64 R.c,.int .i64 R.b])) :=
 q.upd hr (R':=R.adv) rfl (by simp [Rd.adv]) rfl rfl rfl (q.adv h) (by have:=q.xl;simp [Rd.adv];omega) q.dp
def tookR (L:List Tk) (w:Sx) (R:Rd):Rd:=if isR L w R then R.adv else R
theorem RdOk.w1 (q:RdOk n r L dv dp s R):IntKind.i64.wrap ((R.i:Int)+1)=(R.i:Int)+1:=by
 have:=q.lt;have:=q.tk.len;exact wrap_i64 (by omega) (by omega)
theorem took_does (q:RdOk n r L dv dp s R) (w:Sx):Does n r L dv dp dp 70 [.str w] s (tookR L w R) (.bool (isR L w R)):=by
 obtain ⟨s1,c1,q1,k1⟩:=is_does q w
 obtain ⟨es,o,hr,hl,ho,hst⟩:=q1.cell
 have hr0:=hr
 simp only [rdCs] at hr
 have w1:=q1.w1
 refine does_of (N:=16) prim70 fn70 rfl rfl ?_
 intro e he ha K hK
 have a0:=ha 0
 have a1:=ha 1
 clear ha
 simp at a0 a1
 cases hb:isR L w R with
 | false =>
  rw [hb] at c1
  simp [a70,he,a0,a1,c1]
  exact hK _ _ _ (.inl rfl) (by simpa [tookR,hb] using q1) k1 ⟨_,rfl,by simp [he,hb]⟩
 | true =>
  rw [hb] at c1
  have u:=q1.next (isR_kind hb) hr0
  simp [a70,he,a0,a1,c1,hr,w1]
  exact hK _ _ _ (.inl rfl) (by simpa [tookR,hb] using u.1) (k1.trans u.2) ⟨_,rfl,by simp [he,hb]⟩
theorem want_does (q:RdOk n r L dv dp s R) (w:Sx):Does n r L dv dp dp 71 [.str w] s (wantR L w R) (.tup []):=by
 obtain ⟨s1,c1,q1,k1⟩:=took_does q w
 obtain ⟨s2,c2,q2,k2⟩:=fail_does q1 2
 refine does_of (N:=10) prim71 fn71 rfl rfl ?_
 intro e he ha K hK
 have a0:=ha 0
 have a1:=ha 1
 clear ha
 simp at a0 a1
 cases hb:isR L w R with
 | false =>
  rw [hb] at c1
  simp [a71,he,a0,a1,c1,c2]
  exact hK _ _ _ (.inr rfl) (by simpa [tookR,wantR,hb] using q2) (k1.trans k2) ⟨_,rfl,rfl⟩
 | true =>
  rw [hb] at c1
  simp [a71,he,a0,a1,c1]
  exact hK _ _ _ (.inr rfl) (by simpa [tookR,wantR,hb] using q1) k1 ⟨_,rfl,rfl⟩
theorem name_does (q:RdOk n r L dv dp s R):Does n r L dv dp dp 75 [] s (nameR L R).2 (.str (nameR L R).1):=by
 obtain ⟨es,o,hr,hl,ho,hst⟩:=q.cell
 have hr0:=hr
 simp only [rdCs] at hr
 have hg:=q.get
 have w1:=q.w1
 obtain ⟨s2,c2,q2,k2⟩:=fail_does q 2
 refine does_of (N:=44) prim75 fn75 rfl rfl ?_
 intro e he ha K hK
 have a0:=ha 0
 clear ha
 simp at a0
 by_cases hc:R.c=0
 ·by_cases h1:(tkF L R).kind=1
  ·have u:=q.next (by omega) hr0
   have hs:∀o:AObj,(s.set r o)[r]?=some o:=fun o=>by simp [q.len]
   have w2:IntKind.i64.wrap (R.i:Int)=R.i:=by have:=q.lt;have:=q.tk.len;exact wrap_i64 (by omega) (by omega)
   simp [a75,he,a0,hr,hc,hg,Lx.Tok.av,Ai.beq_refl,h1,w1,hs,w2]
   exact hK _ _ _ (.inl rfl) (by simpa [nameR,hc,h1] using u.1) (by simpa [hc] using u.2) ⟨_,rfl,by simp [he,nameR,hc,h1]⟩
  ·have h1':¬((tkF L R).kind:Int)=1:=by omega
   simp [a75,he,a0,hr,hc,hg,Lx.Tok.av,Ai.beq_refl,h1',c2]
   exact hK _ _ _ (.inl rfl) (by simpa [nameR,hc,h1] using q2) k2 ⟨_,rfl,by simp [he,nameR,hc,h1]⟩
 ·simp [a75,he,a0,hr,hc,c2]
  exact hK _ _ _ (.inl rfl) (by simpa [nameR,hc] using q2) k2 ⟨_,rfl,by simp [he,nameR,hc]⟩
theorem kind_does (q:RdOk n r L dv dp s R):Does n r L dv dp dp 78 [] s (kindR L R).2 (.int .i64 (kindR L R).1):=by
 obtain ⟨s1,c1,q1,k1⟩:=took_does q [98,111,111,108]
 obtain ⟨s2,c2,q2,k2⟩:=want_does q1 [102,105,120]
 refine does_of (N:=7) prim78 fn78 rfl rfl ?_
 intro e he ha K hK
 have a0:=ha 0
 clear ha
 simp at a0
 cases hb:isR L [98,111,111,108] R with
 | true =>
  rw [hb] at c1
  simp [a78,he,a0,c1]
  exact hK _ _ _ (.inl rfl) (by simpa [tookR,kindR,hb] using q1) k1 ⟨_,rfl,by simp [he,kindR,hb]⟩
 | false =>
  rw [hb] at c1
  simp [a78,he,a0,c1,c2]
  exact hK _ _ _ (.inl rfl) (by simpa [tookR,kindR,hb] using q2) (k1.trans k2) ⟨_,rfl,by simp [he,kindR,hb]⟩
theorem append_keep {st st':St} {n m k bytes:Nat} {ty:Option TypeId} {es ys:List AV} {ap ap0:Ap} {v:AV} (ho:Own st n m ty ap k) (h:appendA m bytes ty st (.lst m es ap) (.lst m ys ap0)=some (.val v st')) {j:Nat} {o:AObj} (hj:st[j]?=some o) (hn:∀l,o≠.tok m l ty):st'[j]?=some o:=by
 unfold appendA at h
 simp only [Option.bind_eq_some_iff] at h
 obtain ⟨zs,_,h⟩:=h
 simp only [AV.asLst] at h
 split at h
 ·split at h
  ·split at h
   ·cases h;exact hj
   ·cases h;rw [List.getElem?_append_left (List.getElem?_eq_some_iff.1 hj).1];exact hj
  ·rename_i id
   split at h
   ·split at h
    ·cases h;exact hj
    ·cases h
     have:id≠j:=by
      rintro rfl
      rcases ho with ⟨_,h⟩ | ⟨_,id2,h,_,h3⟩
      ·cases h
      ·cases h;rw [hj] at h3;exact hn _ (Option.some.inj h3)
     rw [List.getElem?_set_ne this];exact hj
   ·cases h
  ·cases h
 ·cases h
theorem stills_app {n:Nat} {S:St}:∀{a b a' b':List AV},AV.stills n S a=some a'→AV.stills n S b=some b'→AV.stills n S (a++b)=some (a'++b')
 | [],b,a',b',h,g=>by cases h;exact g
 | x::a,b,a',b',h,g=>by
  simp only [AV.stills] at h
  split at h
  ·rename_i x' a2 h1 h2
   cases h
   have:=stills_app h2 g
   simp only [List.cons_append,AV.stills,h1,this]
  ·cases h
theorem put_does (q:RdOk n r L dv dp s R) {x:Ex} {v:AV} (hx:R.xs.length+1≤R.i) (hv:∃ap,v=Ex.av { x with ap:=ap }) (hst:∀S,AV.still n S v=some x.av) (hlow:AV.lowB s.length v=true) :
  Does n r L dv dp dp 72 [v] s (putR x R).2 (.int .i64 (putR x R).1):=by
 obtain ⟨es,o,hr,hl,ho,hst0⟩:=q.cell
 obtain ⟨ap,rfl⟩:=hv
 have hr0:=hr
 simp only [rdCs] at hr
 have hi:=q.lt
 have htl:=q.tk.len
 obtain ⟨o',s',p1,p2,p3,_⟩:=append_own (b:=n) (st:=s) (m:=9) (bytes:=104) (ty:=some 62) (es:=es) (ys:=[Ex.av { x with ap:=ap }]) (ap:=o) (ap0:=.tight) (by have:=q.le;have:=q.len;omega) (by rw [hl];exact ho.weak) (by simp) (by simp [Ai.great];omega) (by omega)
 have hk:Keep n r s s':=⟨p3,fun j p _ h1 h2=>append_keep ho p1 h1 h2⟩
 have hr':s'[r]?=some (.cells none (rdCs L dv dp R es o)):=append_keep ho p1 hr0 nofun
 have hrl:=(List.getElem?_eq_some_iff.1 hr').1
 have hlow':AObj.lowB s'.length (.cells none [.lst 4 (L.map Lx.Tok.av) .no,.int .i64 R.i,dv,.lst 9 (es++[Ex.av { x with ap:=ap }]) o',.int .i64 dp,.int .i64 R.c,.int .i64 R.b])=true:=by
  have h1:=(p3.ok q.ok).get hr'
  have h2:AV.lowB s'.length (Ex.av { x with ap:=ap })=true:=AV.low_le p3.len _ hlow
  have h3:AV.lowsB s'.length es=true:=by
   have:=h1;simp only [rdCs,AObj.lowB,AV.lowsB,AV.lowB,Bool.and_eq_true] at this;exact this.2.2.2.1.1
  have h4:=own_low p2.weak (lows_append h3 (b:=[Ex.av { x with ap:=ap }]) (by simpa [AV.lowsB] using h2))
  simp only [rdCs,AObj.lowB,AV.lowsB,Bool.and_eq_true] at h1 ⊢
  exact ⟨h1.1,h1.2.1,h1.2.2.1,h4,h1.2.2.2.2⟩
 have u:RdOk n r L dv dp (s'.set r (.cells none [.lst 4 (L.map Lx.Tok.av) .no,.int .i64 R.i,dv,.lst 9 (es++[Ex.av { x with ap:=ap }]) o',.int .i64 dp,.int .i64 R.c,.int .i64 R.b])) (putR x R).2:=by
  refine { q with cell:=⟨_,_,by simp [rdCs,hrl,putR];exact ⟨rfl,rfl⟩,by simp [putR,hl],?_,?_⟩,ok:=(p3.ok q.ok).set' hlow',xl:=by simp [putR];omega }
  ·rw [show (putR x R).2.xs.length=(es++[Ex.av { x with ap:=ap }]).length by simp [putR,hl]]
   rcases p2 with p2 | ⟨h0,id,e1,e2,e3⟩
   ·exact .inl p2
   ·refine .inr ⟨h0,id,e1,e2,?_⟩
    rw [List.getElem?_set_ne]
    ·exact e3
    ·rintro rfl;rw [hr'] at e3;cases e3
  ·intro S
   have:=stills_app (hst0 S) (b:=[Ex.av { x with ap:=ap }]) (b':=[x.av]) (by simp only [AV.stills,hst S])
   simpa [putR] using this
 have w2:IntKind.i64.wrap (R.xs.length:Int)=R.xs.length:=wrap_i64 (by omega) (by omega)
 have hs:∀o:AObj,(s'.set r o)[r]?=some o:=fun o=>by simp [hrl]
 simp only [rdCs] at hr'
 refine does_of (N:=24) prim72 fn72 rfl rfl ?_
 intro e he ha K hK
 have a0:=ha 0
 have a1:=ha 1
 clear ha
 simp at a0 a1
 simp only [Ex.av,Ex.cs] at a1 p1 u
 simp [a72,he,a0,a1,hr,p1,hr',hs,Ai.beq_refl,hl,w2]
 exact hK _ _ _ (.inl rfl) u (hk.trans (.set q.le hlow')) ⟨_,rfl,by simp [he,putR]⟩
end
end Go.Proofs.YtgkhmmlemgikjaaGreatDoor
namespace Go.Proofs.YtgkhmmlemgikjaaGreatDoor
open Go Ai
section
variable {n r:Nat} {L:List Tk} {dv:AV} {dp:Nat} {s:St} {R:Rd}
def enterR (L:List Tk) (dp:Nat) (R:Rd):Rd:=if R.c=0∧dp=30 then failR L 3 R else R
theorem enter_does (q:RdOk n r L dv dp s R) (hd:dp≤30):Does n r L dv dp (dp+1) 69 [] s (enterR L dp R) (.bool (decide ((enterR L dp R).c=0))):=by
 obtain ⟨es,o,hr,hl,ho,hst⟩:=q.cell
 have hr0:=hr
 simp only [rdCs] at hr
 have hs:∀o:AObj,(s.set r o)[r]?=some o:=fun o=>by simp [q.len]
 have wd:IntKind.i64.wrap ((dp:Int)+1)=(dp:Int)+1:=wrap_i64 (by omega) (by omega)
 by_cases hc:R.c=0
 ·by_cases h30:dp=30
  ·obtain ⟨s1,c1,q1,k1⟩:=fail_does q 3
   obtain ⟨es1,o1,hr1,_⟩:=q1.cell
   have e3:(failR L 3 R).c=3:=by simp [failR,hc]
   have u:=q1.upd hr1 (R':=failR L 3 R) (dp':=dp+1) rfl rfl rfl e3.symm rfl q1.lt q1.xl (by omega)
   have hs1:∀o:AObj,(s1.set r o)[r]?=some o:=fun o=>by simp [q1.len]
   simp only [rdCs] at hr1
   refine does_of (N:=31) prim69 fn69 rfl rfl ?_
   intro e he ha K hK
   have a0:=ha 0
   clear ha
   simp at a0
   subst h30
   rw [e3] at hr1
   simp [a69,he,a0,hr,hc,c1,hr1,hs1,wrap_i64]
   exact hK _ _ _ (.inl rfl) (by simpa [enterR,hc] using u.1) (k1.trans (by simpa using u.2)) ⟨_,rfl,by simp [he,enterR,hc,e3]⟩
  ·have u:=q.upd hr0 (R':=R) (dp':=dp+1) (c:=0) rfl rfl rfl hc.symm rfl q.lt q.xl (by omega)
   have h30':¬(dp:Int)=30:=by omega
   refine does_of (N:=31) prim69 fn69 rfl rfl ?_
   intro e he ha K hK
   have a0:=ha 0
   clear ha
   simp at a0
   simp [a69,he,a0,hr,hc,h30',hs,wd]
   exact hK _ _ _ (.inl rfl) (by simpa [enterR,h30] using u.1) (by simpa using u.2) ⟨_,rfl,by simp [he,enterR,hc,h30]⟩
 ·have u:=q.upd hr0 (R':=R) (dp':=dp+1) rfl rfl rfl rfl rfl q.lt q.xl (by omega)
  refine does_of (N:=31) prim69 fn69 rfl rfl ?_
  intro e he ha K hK
  have a0:=ha 0
  clear ha
  simp at a0
  simp [a69,he,a0,hr,hc,hs,wd]
  exact hK _ _ _ (.inl rfl) (by simpa [enterR,hc] using u.1) (by simpa using u.2) ⟨_,rfl,by simp [he,enterR,hc]⟩
theorem find_drop {α:Type} {p:α→Bool} {l:List α} {i:Nat} (h:i<l.length):(l.drop i).find? p=if p l[i] then some l[i] else (l.drop (i+1)).find? p:=by
 rw [List.drop_eq_getElem_cons h,List.find?_cons];cases p l[i]<;>rfl
theorem level_does (q:RdOk n r L dv dp s R):Does n r L dv dp dp 116 [] s R (.tup [.int .i64 (levelR L R).1,.int .i64 (levelR L R).2]):=by
 refine does_of (N:=31) prim116 fn116 rfl rfl ?_
 intro e he ha K hK
 have a0:=ha 0
 clear ha
 simp at a0
 simp [a116,he,a0]
 generalize hE:(List.set _ 7 _:Env)=E
 have heE:E.length=31:=by subst hE;simp [he]
 have k0:AX.ev E (.t 0)=.ptr r 0:=by subst hE;simp [he,a0]
 have k4:AX.ev E (.t 4)=.lst 1 (lvTab.map fun e=>.str e.1) .tight:=by subst hE;simp [he];rfl
 have k5:AX.ev E (.t 5)=.lst 1 (lvTab.map fun e=>.int .i64 e.2.1) .tight:=by subst hE;simp [he];rfl
 have k6:AX.ev E (.t 6)=.lst 1 (lvTab.map fun e=>.int .i64 e.2.2) .tight:=by subst hE;simp [he];rfl
 have k7:AX.ev E (.t 7)=.int .i64 0:=by subst hE;simp [he]
 clear hE
 obtain ⟨T0,hT⟩:∃T0,T0=lvTab.find? fun e=>isR L e.1 R:=⟨_,rfl⟩
 have hv:levelR L R=T0.elim (0,0) (·.2):=by rw [hT,levelR];cases lvTab.find? fun e=>isR L e.1 R<;>rfl
 rw [hv] at hK
 refine aw_loop (W:=w116_0) rfl (fun m e ds s1=>ds=[]∧∃i:Nat,i+m=lvTab.length∧AX.ev e (.t 7)=.int .i64 i∧RdOk n r L dv dp s1 R∧Keep n r s s1∧(lvTab.drop i).find? (fun e=>isR L e.1 R)=T0) lvTab.length ⟨rfl,0,by simp,k7,q,.refl,hT.symm⟩ ?_
 clear hT hv
 rintro m e1 ds s1 hs ⟨rfl,i,hm,g7,q1,k1,hf⟩ K1 kn kx
 have he1:e1.length=31:=by simp [hs.1,heE]
 have k0:=hs.ev 0 rfl k0
 have k4:=hs.ev 4 rfl k4
 have k5:=hs.ev 5 rfl k5
 have k6:=hs.ev 6 rfl k6
 have h9:lvTab.length=9:=rfl
 by_cases hi:i<lvTab.length
 ·obtain ⟨s2,c2,q2,k2⟩:=is_does q1 lvTab[i].1
  rw [find_drop hi] at hf
  have w1:IntKind.i64.wrap ((i:Int)+1)=(i:Int)+1:=wrap_i64 (by omega) (by omega)
  generalize lvTab=T at *
  cases hb:isR L T[i].1 R with
  | true =>
   rw [hb] at c2
   simp [a116_0,k0,k4,k5,k6,g7,he1,hi,c2,Ai.beq_refl]
   refine kx _ _ _ _ nofun fun hs'=>?_
   rw [hb,if_pos rfl] at hf
   simp
   exact hK _ _ _ (.inl rfl) q2 (k1.trans k2) ⟨_,rfl,by simp [he1,←hf]⟩
  | false =>
   rw [hb] at c2
   simp [hb] at hf
   simp [a116_0,k0,k4,k5,k6,g7,he1,hi,c2,w1]
   exact kn (m-1) _ _ _ (by omega) ⟨rfl,i+1,by omega,by simp [he1],q2,k1.trans k2,hf⟩
 ·rw [List.drop_eq_nil_of_le (by omega)] at hf
  have hi':¬(i:Int)<9:=by omega
  simp [a116_0,k4,g7,he1,hi',h9]
  refine kx _ _ _ _ nofun fun hs'=>?_
  simp
  exact hK _ _ _ (.inl rfl) q1 k1 ⟨_,rfl,by simp [he1,←hf]⟩
end
end Go.Proofs.YtgkhmmlemgikjaaGreatDoor
namespace Go.Proofs.YtgkhmmlemgikjaaGreatDoor
open Go Ai
structure Step (R R':Rd):Prop where
 i:R.i≤R'.i
 x:R'.xs.length+R.i≤R.xs.length+R'.i
 c:R'.c=0→R.c=0
 m:R.xs.length≤R'.xs.length
theorem Step.refl {R:Rd}:Step R R:=⟨Nat.le_refl _,Nat.le_refl _,id,Nat.le_refl _⟩
theorem Step.trans {a b c:Rd} (h:Step a b) (g:Step b c):Step a c:=⟨by have:=h.i;have:=g.i;omega,by have:=h.x;have:=g.x;omega,fun x=>h.c (g.c x),Nat.le_trans h.m g.m⟩
theorem Step.adv {R:Rd}:Step R R.adv:=⟨by simp [Rd.adv],by simp [Rd.adv],id,Nat.le_refl _⟩
theorem Step.fail {L:List Tk} {c:Int} {R:Rd}:Step R (failR L c R):=by
 unfold failR;split
 ·rename_i h;exact ⟨Nat.le_refl _,Nat.le_refl _,fun _=>h,Nat.le_refl _⟩
 ·exact .refl
theorem Step.want {L:List Tk} {w:Sx} {R:Rd}:Step R (wantR L w R):=by unfold wantR;split;exact .adv;exact .fail
theorem Step.name {L:List Tk} {R:Rd}:Step R (nameR L R).2:=by unfold nameR;split;exact .adv;exact .fail
theorem Step.kind {L:List Tk} {R:Rd}:Step R (kindR L R).2:=by unfold kindR;split;exact .adv;exact .want
theorem Step.put {x:Ex} {R R':Rd} (h:Step R.adv R'):Step R (putR x R').2:=⟨by have:=h.i;simp [putR,Rd.adv] at *;omega,by have:=h.x;simp [putR,Rd.adv] at *;omega,fun e=>h.c e,by have:=h.m;simp [putR,Rd.adv] at *;omega⟩
def GoesOn {α:Type} (E:RM α):Prop:=∀R,Step R (E R).2
theorem Step.args {L:List Tk} {E:RM Int} (hE:GoesOn E):∀(m:Nat) (l:List Int) (R:Rd),Step R (argsF L E m l R).2
 | 0,_,_=>.refl
 | m+1,l,R=>by
  rw [argsF];split
  ·exact (Step.adv.trans (hE _)).trans (Step.args hE m _ _)
  ·exact .refl
theorem Step.call {L:List Tk} {E:RM Int} (hE:GoesOn E) (R:Rd):Step R (callF L E R).2:=by
 unfold callF;split
 ·exact .adv
 ·exact ((hE R).trans (Step.args hE _ _ _)).trans .want
theorem Step.atom {L:List Tk} {E:RM Int} (hE:GoesOn E) (R:Rd):Step R (atomF L E R).2:=by
 unfold atomF
 simp only []
 repeat' split
 ·exact .put .refl
 ·exact .put .refl
 ·exact .put .refl
 ·exact .put (Step.adv.trans .name)
 ·exact .put (Step.adv.trans (.call hE _))
 ·exact .put .refl
 ·exact (Step.want.trans (hE _)).trans .want
theorem Step.chain {L:List Tk} {B:RM Int} (hB:GoesOn B) {least:Int}:∀(m:Nat) (a:Int) (R:Rd),Step R (chainF L B least m a R).2
 | 0,_,_=>.refl
 | m+1,a,R=>by
  rw [chainF];repeat' split
  ·exact .put (hB _)
  ·exact Step.trans (.put (hB _)) (Step.chain hB m _ _)
  ·exact .refl
  ·exact .refl
theorem Step.bin {L:List Tk} {P:RM Int} (hP:GoesOn P):∀n,GoesOn (binF L P n)
 | 0=>hP
 | n+1=>fun R=>(Step.bin hP n R).trans (Step.chain (Step.bin hP n) _ _ _)
theorem Step.pref {L:List Tk} {E P:RM Int} (hE:GoesOn E) (hP:GoesOn P):GoesOn (prefB L E P):=fun R=>by
 unfold prefB;split
 ·exact .atom hE R
 ·exact .put (hP _)
theorem Step.expr {L:List Tk} {E P:RM Int} (hE:GoesOn E) (hP:GoesOn P):GoesOn (exprB L E P):=fun R=>by
 unfold exprB;simp only [];split;rotate_left
 split
 ·exact (Step.bin hP 5 R).trans (.put (hE _))
 ·exact Step.bin hP 5 R
 ·exact .put ((((hE _).trans .want).trans (hE _)).trans (.trans .want (hE _)))
theorem Step.ep {L:List Tk}:∀f,GoesOn (epF L f).1∧GoesOn (epF L f).2
 | 0=>⟨fun _=>.fail,fun _=>.fail⟩
 | f+1=>by
  have h:=Step.ep (L:=L) f
  refine ⟨fun R=>?_,fun R=>?_⟩<;>simp only [epF]<;>split
  ·exact .expr h.1 h.2 R
  ·exact .refl
  ·exact .pref h.1 h.2 R
  ·exact .refl
def GoodE (L:List Tk) (E:RM Int) (f dp:Nat):Prop:=∀(n r:Nat) (dv:AV) (s:St) (R:Rd),RdOk n r L dv dp s R→Does n r L dv dp dp f [] s (E R).2 (.int .i64 (E R).1)
theorem own_stl {st:St} {n b m k:Nat} {ty:Option TypeId} {ap:Ap} {es:List AV} (h:Own st b m ty ap k) (hn:n≤b) {S:St} {es':List AV} (hes:AV.stills n S es=some es'):AV.still n S (.lst m es ap)=some (.lst m es' (endAp k)):=by
 rcases h with ⟨h0,rfl⟩ | ⟨h0,id,rfl,hid,_⟩
 ·simp [AV.still,hes,endAp,h0]
 ·simp [AV.still,hes,endAp,show ¬id<n by omega,show k≠0 by omega]
section
variable {n r:Nat} {L:List Tk} {dv:AV} {dp:Nat} {s:St} {R:Rd}
theorem put1 (q:RdOk n r L dv dp s R) (k a b c:Int) (nn ss:Sx) (v p:Int) (hx:R.xs.length+1≤R.i):Does n r L dv dp dp 72 [.agg [.int .i64 k,.int .i64 a,.int .i64 b,.int .i64 c,.str nn,.str ss,.int .i64 v,.lst 1 [] .tight,.int .i64 p]] s
  (putR ⟨k,a,b,c,nn,ss,v,[],.tight,p⟩ R).2 (.int .i64 (putR ⟨k,a,b,c,nn,ss,v,[],.tight,p⟩ R).1) :=
 put_does q (x:=⟨k,a,b,c,nn,ss,v,[],.tight,p⟩) hx ⟨.tight,rfl⟩ (fun S=>by simp [AV.still,AV.stills,Ex.av,Ex.cs,ints]) rfl
theorem RdOk.push {s1:St} {m bytes:Nat} {ty:Option TypeId} {ap ap0:Ap} {l:List AV} {x:AV} (q:RdOk n r L dv dp s1 R) (k:Keep n r s s1) (ho:Own s1 s.length m ty ap l.length) (hm:m≠9∨ty≠some 62) (hn:n≤s.length) (hl:l.length≤4000000000) (hby:bytes≤256) :
  ∃ap' s2,appendA m bytes ty s1 (.lst m l ap) (.lst m [x] ap0)=some (.val (.lst m (l++[x]) ap') s2)∧Own s2 s.length m ty ap' (l++[x]).length∧RdOk n r L dv dp s2 R∧Keep n r s s2∧s1.length≤s2.length∧∀(j:Nat) (o:AObj),s1[j]?=some o→(∀l,o≠AObj.tok m l ty)→s2[j]?=some o:=by
 obtain ⟨ap',s2,p1,p2,p3,_⟩:=append_own (b:=s.length) (st:=s1) (m:=m) (bytes:=bytes) (ty:=ty) (es:=l) (ys:=[x]) (ap:=ap) (ap0:=ap0) k.g.len ho.weak (by simp) (by simp [Ai.great];omega) hby
 obtain ⟨es,o,h1,h2,h3,h4⟩:=q.cell
 have hk:∀(j:Nat) (o:AObj),s1[j]?=some o→(∀l,o≠AObj.tok m l ty)→s2[j]?=some o:=fun j o=>append_keep ho p1
 refine ⟨ap',s2,p1,p2,{ q with cell:=⟨es,o,hk _ _ h1 nofun,h2,?_,h4⟩,ok:=p3.ok q.ok },⟨?_,?_⟩,p3.len,hk⟩
 ·rcases h3 with h3 | ⟨h0,id,e1,e2,e3⟩
  ·exact .inl h3
  ·refine .inr ⟨h0,id,e1,e2,hk _ _ e3 ?_⟩
   intro l e;cases e;rcases hm with h | h<;>exact h rfl
 ·refine ⟨?_,by have:=k.g.len;have:=p3.len;omega,fun h=>p3.ok (k.g.ok h)⟩
  rw [←k.g.take]
  have e:=congrArg (List.take n) p3.take
  rwa [List.take_take,List.take_take,Nat.min_eq_left hn] at e
 ·intro j o h1 h2 h3
  have:=k.k j o h1 h2 h3
  have hj:=(List.getElem?_eq_some_iff.1 h2).1
  have e:=p3.take
  have hj':(s2.take s.length)[j]?=(s1.take s.length)[j]?:=by rw [e]
  rw [List.getElem?_take_of_lt hj,List.getElem?_take_of_lt hj] at hj'
  rw [hj'];exact this
end
end Go.Proofs.YtgkhmmlemgikjaaGreatDoor
namespace Go.Proofs.YtgkhmmlemgikjaaGreatDoor
open Go Ai
theorem fn137:A.fn 137=some a137:=by kernel_rfl
theorem prim137:A.prim 137=none:=by kernel_rfl
def w137_0:List Nat:=a137_0.writes
section
variable {n r:Nat} {L:List Tk} {dv:AV} {dp:Nat} {s:St} {R:Rd}
theorem put19 {b:Nat} {ap:Ap} {l:List Int} (q:RdOk n r L dv dp s R) (o:Own s b 1 (some 3) ap l.length) (hb:n≤b) (nn:Sx) (p:Int) (hx:R.xs.length+1≤R.i):Does n r L dv dp dp 72 [.agg [.int .i64 19,.int .i64 0,.int .i64 0,.int .i64 0,.str nn,.str [],.int .i64 0,.lst 1 (ints l) ap,.int .i64 p]] s
  (putR ⟨19,0,0,0,nn,[],0,l,endAp l.length,p⟩ R).2 (.int .i64 (putR ⟨19,0,0,0,nn,[],0,l,endAp l.length,p⟩ R).1):=by
 refine put_does q (x:=⟨19,0,0,0,nn,[],0,l,endAp l.length,p⟩) hx ⟨ap,rfl⟩ (fun S=>?_) ?_
 ·have:=own_stl o hb (S:=S) (es:=ints l) (stills_ints _ _ _)
  simp only [Ex.av,Ex.cs]
  generalize AV.lst 1 (ints l) ap=V at *
  simp [AV.still,AV.stills,this]
 ·have:=own_low o.weak (es:=ints l) (lows_ints _ _)
  generalize AV.lst 1 (ints l) ap=V at *
  simp [AV.lowB,AV.lowsB,this]
theorem argsF_end {E:RM Int} {l:List Int} (h:isR L [44] R=false):∀m,argsF L E m l R=(l,R)
 | 0=>rfl
 | m+1=>by simp [argsF,h]
theorem atom_does {E:RM Int} (hS:GoesOn E) (hE:GoodE L E 42 dp) (q:RdOk n r L dv dp s R):Does n r L dv dp dp 137 [] s (atomF L E R).2 (.int .i64 (atomF L E R).1):=by
 obtain ⟨es,o,hr,hl,ho,hst⟩:=q.cell
 simp only [rdCs] at hr
 have hg:=q.get
 have q0:=q.app (tok_low (tkF L R))
 have hnl:n≤s.length:=by have:=q.le;have:=q.len;omega
 have hrl:=q.len
 have k0:Keep n r s _:=.app hnl (tok_low (tkF L R))
 have g0:(s++[AObj.cells none [.int .i64 (tkF L R).kind,.str (tkF L R).text,.int .i64 (tkF L R).v,.int .i64 (tkF L R).pos]])[s.length]?=some (AObj.cells none [.int .i64 (tkF L R).kind,.str (tkF L R).text,.int .i64 (tkF L R).v,.int .i64 (tkF L R).pos]):=last_obj
 have hxl:=q.xl
 have hne:s.length≠r:=by omega
 obtain ⟨t,ht⟩:∃t,t=tkF L R:=⟨_,rfl⟩
 rw [←ht] at hg q0 k0 g0
 have hr1:∀x:AObj,(s++[x])[r]?=some (.cells none [.lst 4 (L.map Lx.Tok.av) .no,.int .i64 R.i,dv,.lst 9 es o,.int .i64 dp,.int .i64 R.c,.int .i64 R.b]):=fun x=>by rw [List.getElem?_append_left q.len];exact hr
 refine does_of (N:=110) prim137 fn137 rfl rfl ?_
 intro e he ha K hK
 have a0:=ha 0
 clear ha
 simp at a0
 simp [a137,he,a0,hr,hr1,hg,Lx.Tok.av,Ai.beq_refl,g0]
 generalize hS0:s++[AObj.cells none [.int .i64 t.kind,.str t.text,.int .i64 t.v,.int .i64 t.pos]]=s0 at q0 k0 g0 ⊢
 by_cases h2:t.kind=2
 ·obtain ⟨es0,o0,hr0,_⟩:=q0.cell
  have u:=q0.next (by rw [←ht];omega) hr0
  have w1:=q0.w1
  simp only [rdCs] at hr0
  have g1:∀o:AObj,(s0.set r o)[s.length]?=_:=fun o=>(List.getElem?_set_ne (fun e=>hne e.symm)).trans g0
  obtain ⟨s1,c1,q1,k1⟩:=put1 u.1 1 0 0 0 [] [] t.v t.pos (by simp [Rd.adv];omega)
  simp [h2,he,a0,g0,hr0,w1,g1,c1]
  have ea:atomF L E R=putR ⟨1,0,0,0,[],[],t.v,[],.tight,t.pos⟩ R.adv:=by simp [atomF,←ht,h2]
  rw [ea] at hK
  exact hK _ _ _ (.inl rfl) q1 ((k0.trans u.2).trans k1) ⟨_,rfl,by simp [he]⟩
 have h2':¬(t.kind:Int)=2:=by omega
 obtain ⟨s1,c1,q1,k1⟩:=took_does q0 [116,114,117,101]
 have g1:=k1.k _ _ hne g0 nofun
 cases ht1:isR L [116,114,117,101] R with
 | true =>
  rw [ht1] at c1
  have e1:tookR L [116,114,117,101] R=R.adv:=by simp [tookR,ht1]
  rw [e1] at q1
  obtain ⟨s2,c2,q2,k2⟩:=put1 q1 2 0 0 0 [] [] 1 t.pos (by simp [Rd.adv];omega)
  simp [h2',he,a0,c1,g1,c2]
  have ea:atomF L E R=putR ⟨2,0,0,0,[],[],1,[],.tight,t.pos⟩ R.adv:=by simp [atomF,←ht,h2,ht1]
  rw [ea] at hK
  exact hK _ _ _ (.inl rfl) q2 ((k0.trans k1).trans k2) ⟨_,rfl,by simp [he]⟩
 | false =>
 rw [ht1] at c1
 have e1:tookR L [116,114,117,101] R=R:=by simp [tookR,ht1]
 rw [e1] at q1
 obtain ⟨s2,c2,q2,k2⟩:=took_does q1 [102,97,108,115,101]
 have g2:=k2.k _ _ hne g1 nofun
 cases ht2:isR L [102,97,108,115,101] R with
 | true =>
  rw [ht2] at c2
  have e2:tookR L [102,97,108,115,101] R=R.adv:=by simp [tookR,ht2]
  rw [e2] at q2
  obtain ⟨s3,c3,q3,k3⟩:=put1 q2 2 0 0 0 [] [] 0 t.pos (by simp [Rd.adv];omega)
  simp [h2',he,a0,c1,g1,c2,g2,c3]
  have ea:atomF L E R=putR ⟨2,0,0,0,[],[],0,[],.tight,t.pos⟩ R.adv:=by simp [atomF,←ht,h2,ht1,ht2]
  rw [ea] at hK
  exact hK _ _ _ (.inl rfl) q3 (((k0.trans k1).trans k2).trans k3) ⟨_,rfl,by simp [he]⟩
 | false =>
 rw [ht2] at c2
 have e2:tookR L [102,97,108,115,101] R=R:=by simp [tookR,ht2]
 rw [e2] at q2
 have k02:=(k0.trans k1).trans k2
 simp [h2',he,a0,c1,g1,c2,g2]
 clear c1 c2 g0 g1 k1 k2 q0 q1 k0 hr1 hr hg ho hst
 by_cases h1:t.kind=1
 ·obtain ⟨es2,o2,hr2,_⟩:=q2.cell
  have u:=q2.next (by rw [←ht];omega) hr2
  have w1:=q2.w1
  simp only [rdCs] at hr2
  simp [h1,he,a0,hr2,w1]
  have g3:∀o:AObj,(s2.set r o)[s.length]?=_:=fun o=>(List.getElem?_set_ne (fun e=>hne e.symm)).trans g2
  generalize hS3:s2.set r _=s3 at u ⊢
  have g3':=(congrArg (fun z:St=>z[s.length]?) hS3).symm.trans (g3 _)
  obtain ⟨q3,k3⟩:=u
  obtain ⟨s4,c4,q4,k4⟩:=took_does q3 [105,115]
  have g4:=k4.k _ _ hne g3' nofun
  have k04:=(k02.trans k3).trans k4
  clear g3 g3' hS3 hr2 g2 q3 q2 k02 k3 k4
  cases ht3:isR L [105,115] R.adv with
  | true =>
   rw [ht3] at c4
   have e4:tookR L [105,115] R.adv=R.adv.adv:=by simp [tookR,ht3]
   rw [e4] at q4
   obtain ⟨s5,c5,q5,k5⟩:=name_does q4
   have g5:=k5.k _ _ hne g4 nofun
   have S6:Step R.adv.adv (nameR L R.adv.adv).2:=.name
   obtain ⟨s6,c6,q6,k6⟩:=put1 q5 20 0 0 0 t.text (nameR L R.adv.adv).1 0 t.pos (by have:=S6.x;have:=S6.i;simp [Rd.adv] at *;omega)
   simp [he,a0,c4,g4,c5,g5,c6,Ai.beq_refl]
   have ea:atomF L E R=putR ⟨20,0,0,0,t.text,(nameR L R.adv.adv).1,0,[],.tight,t.pos⟩ (nameR L R.adv.adv).2:=by simp [atomF,←ht,h2,ht1,ht2,h1,ht3]
   rw [ea] at hK
   exact hK _ _ _ (.inl rfl) q6 ((k04.trans k5).trans k6) ⟨_,rfl,by simp [he]⟩
  | false =>
  rw [ht3] at c4
  have e4:tookR L [105,115] R.adv=R.adv:=by simp [tookR,ht3]
  rw [e4] at q4
  obtain ⟨s5,c5,q5,k5⟩:=took_does q4 [40]
  have g5:=k5.k _ _ hne g4 nofun
  have k05:=k04.trans k5
  cases ht4:isR L [40] R.adv with
  | false =>
   rw [ht4] at c5
   have e5:tookR L [40] R.adv=R.adv:=by simp [tookR,ht4]
   rw [e5] at q5
   obtain ⟨s6,c6,q6,k6⟩:=put1 q5 3 0 0 0 t.text [] 0 t.pos (by simp [Rd.adv];omega)
   simp [he,a0,c4,g4,c5,g5,c6]
   have ea:atomF L E R=putR ⟨3,0,0,0,t.text,[],0,[],.tight,t.pos⟩ R.adv:=by simp [atomF,←ht,h2,ht1,ht2,h1,ht3,ht4]
   rw [ea] at hK
   exact hK _ _ _ (.inl rfl) q6 (k05.trans k6) ⟨_,rfl,by simp [he]⟩
  | true =>
  rw [ht4] at c5
  have e5:tookR L [40] R.adv=R.adv.adv:=by simp [tookR,ht4]
  rw [e5] at q5
  simp [he,a0,c4,g4,c5]
  have ea:atomF L E R=putR ⟨19,0,0,0,t.text,[],0,(callF L E R.adv.adv).1,endAp (callF L E R.adv.adv).1.length,t.pos⟩ (callF L E R.adv.adv).2:=by simp [atomF,←ht,h2,ht1,ht2,h1,ht3,ht4]
  rw [ea] at hK
  have Sc:=Step.call (L:=L) hS R.adv.adv
  have hxl5:=q5.xl
  obtain ⟨s6,c6,q6,k6⟩:=took_does q5 [41]
  have g6:=k6.k _ _ hne g5 nofun
  have k06:=k05.trans k6
  cases ht5:isR L [41] R.adv.adv with
  | true =>
   rw [ht5] at c6
   have e6:tookR L [41] R.adv.adv=R.adv.adv.adv:=by simp [tookR,ht5]
   have ec:callF L E R.adv.adv=([],R.adv.adv.adv):=by simp [callF,ht5]
   rw [e6] at q6
   rw [ec] at hK
   obtain ⟨s7,c7,q7,k7⟩:=put1 q6 19 0 0 0 t.text [] 0 t.pos (by simp [Rd.adv];omega)
   simp [he,a0,c6,g6,c7]
   exact hK _ _ _ (.inl rfl) q7 (k06.trans k7) ⟨_,rfl,by simp [he];rfl⟩
  | false =>
  rw [ht5] at c6
  have e6:tookR L [41] R.adv.adv=R.adv.adv:=by simp [tookR,ht5]
  rw [e6] at q6
  obtain ⟨s7,c7,q7,k7⟩:=hE _ _ _ _ _ q6
  have g7:=k7.k _ _ hne g6 nofun
  have k07:=k06.trans k7
  obtain ⟨ap,s8,p8,o8,q8,k08,l8,m8⟩:=q7.push (l:=[]) (x:=.int .i64 (E R.adv.adv).1) (ap0:=.tight) (ap:=.tight) (m:=1) (ty:=some 3) (bytes:=8) k07 .nil (.inl (by decide)) hnl (by simp) (by decide)
  have g8:=m8 _ _ g7 nofun
  rw [h1] at g8
  simp [he,a0,c6,g6,c7,p8]
  generalize hEv:(List.set _ 4 (AV.lst 1 _ _):Env)=Ev
  have heE:Ev.length=110:=by subst hEv;simp [he]
  have b0:AX.ev Ev (.t 0)=.ptr r 0:=by subst hEv;simp [he,a0]
  have b3:AX.ev Ev (.t 3)=.ptr s.length 0:=by subst hEv;simp [he]
  have b4:AX.ev Ev (.t 4)=.lst 1 (ints [(E R.adv.adv).1]) ap:=by subst hEv;simp [he,ints]
  clear hEv c4 c5 c6 c7 p8 g4 g5 g6 g7 m8 q4 q5 q6 q7 k5 k6 k7
  have hfin:callF L E R.adv.adv=((argsF L E L.length [(E R.adv.adv).1] (E R.adv.adv).2).1,wantR L [41] (argsF L E L.length [(E R.adv.adv).1] (E R.adv.adv).2).2):=by simp [callF,ht5]
  have Sa:=hS R.adv.adv
  rw [hfin] at hK
  generalize hq:argsF L E L.length [(E R.adv.adv).1] (E R.adv.adv).2=Q at hK hfin
  refine aw_loop (W:=w137_0) rfl (fun m e ds sx=>ds=[]∧∃l Rx ap,argsF L E m l Rx=Q∧L.length≤m+Rx.i∧l.length≤Rx.i∧Step (E R.adv.adv).2 Rx∧RdOk n r L dv dp sx Rx∧Keep n r s sx∧Own sx s.length 1 (some 3) ap l.length∧sx[s.length]?=some (AObj.cells none [.int .i64 1,.str t.text,.int .i64 t.v,.int .i64 t.pos])∧AX.ev e (.t 4)=.lst 1 (ints l) ap)
   L.length ⟨rfl,_,_,_,hq,by omega,by have:=Sa.i;simp [Rd.adv] at *;omega,.refl,q8,k08,by simpa using o8,g8,b4⟩ ?_
  clear hq g8 q8 k08 o8 b4 ap
  rintro m e1 ds sx hs ⟨rfl,l,Rx,ap,hq,hm,hll,hst,qx,kx',ox,gx,b4⟩ K1 kn kx
  have he1:e1.length=110:=by simp [hs.1,heE]
  have b0:=hs.ev 0 rfl b0
  have b3:=hs.ev 3 rfl b3
  obtain ⟨s9,c9,q9,k9⟩:=took_does qx [44]
  have g9:=k9.k _ _ hne gx nofun
  obtain ⟨esx,opx,hrx,_⟩:=qx.cell
  have o9:=k9.own ox (.inl (by decide)) hrx
  cases hc:isR L [44] Rx with
  | true =>
   rw [hc] at c9
   have e9:tookR L [44] Rx=Rx.adv:=by simp [tookR,hc]
   rw [e9] at q9
   obtain ⟨s10,c10,q10,k10⟩:=hE _ _ _ _ _ q9
   obtain ⟨es9,op9,hr9,_⟩:=q9.cell
   have o10:=k10.own o9 (.inl (by decide)) hr9
   obtain ⟨ap',s11,p11,o11,q11,k11,l11,m11⟩:=q10.push (l:=ints l) (x:=.int .i64 (E Rx.adv).1) (ap0:=.tight) (ap:=ap) (m:=1) (ty:=some 3) (bytes:=8) ((kx'.trans k9).trans k10) (by simpa [ints_length] using o10) (.inl (by decide)) hnl (by rw [ints_length];have:=qx.lt;have:=qx.tk.len;omega) (by decide)
   have hlt:=qx.lt
   cases m with
   | zero=>omega
   | succ m =>
   rw [argsF,if_pos hc] at hq
   have Sx:=hS Rx.adv
   simp [a137_0,b0,b4,he1,c9,c10,p11]
   refine kn m _ _ _ (by omega) ⟨rfl,_,_,ap',hq,by have:=Sx.i;simp [Rd.adv] at *;omega,by have:=Sx.i;simp [Rd.adv] at *;omega,(hst.trans .adv).trans Sx,q11,k11,by simpa [ints] using o11,m11 _ _ (k10.k _ _ hne g9 nofun) nofun,by simp [he1,ints]⟩
  | false =>
   rw [hc] at c9
   have e9:tookR L [44] Rx=Rx:=by simp [tookR,hc]
   rw [e9] at q9
   rw [argsF_end hc] at hq
   subst hq
   simp [a137_0,b0,he1,c9]
   refine kx _ _ _ _ nofun fun hs'=>?_
   obtain ⟨s10,c10,q10,k10⟩:=want_does q9 [41]
   obtain ⟨es9,op9,hr9,_⟩:=q9.cell
   have o10:=k10.own o9 (.inl (by decide)) hr9
   have Sw:=Step.want (L:=L) (w:=[41]) (R:=Rx)
   obtain ⟨s11,c11,q11,k11⟩:=put19 q10 o10 hnl t.text t.pos (by have:=Sw.i;have:=Sw.x;have:=hst.i;have:=hst.x;have:=Sa.i;have:=Sa.x;simp [Rd.adv] at *;omega)
   have g10:=k10.k _ _ hne g9 nofun
   simp [he1,b0,b3,b4,c10,g10,c11]
   exact hK _ _ _ (.inl rfl) q11 (((kx'.trans k9).trans k10).trans k11) ⟨_,rfl,by simp [he1]⟩
 ·have h1':¬(t.kind:Int)=1:=by omega
  obtain ⟨s3,c3,q3,k3⟩:=want_does q2 [40]
  obtain ⟨s4,c4,q4,k4⟩:=hE _ _ _ _ _ q3
  obtain ⟨s5,c5,q5,k5⟩:=want_does q4 [41]
  simp [h1',he,a0,c3,c4,c5]
  have ea:atomF L E R=((E (wantR L [40] R)).1,wantR L [41] (E (wantR L [40] R)).2):=by simp [atomF,←ht,h2,ht1,ht2,h1]
  rw [ea] at hK
  exact hK _ _ _ (.inl rfl) q5 (((k02.trans k3).trans k4).trans k5) ⟨_,rfl,by simp [he]⟩
end
end Go.Proofs.YtgkhmmlemgikjaaGreatDoor
namespace Go.Proofs.YtgkhmmlemgikjaaGreatDoor
open Go Ai
theorem fn73:A.fn 73=some a73:=by kernel_rfl
theorem prim73:A.prim 73=none:=by kernel_rfl
def w73_0:List Nat:=a73_0.writes
theorem fn115:A.fn 115=some a115:=by kernel_rfl
theorem prim115:A.prim 115=none:=by kernel_rfl
def w115_0:List Nat:=a115_0.writes
theorem fn42:A.fn 42=some a42:=by kernel_rfl
theorem prim42:A.prim 42=none:=by kernel_rfl
theorem chainF_end {L:List Tk} {B:RM Int} {least a:Int} {R:Rd} (h:R.c=0→(levelR L R).1≠least):∀m,chainF L B least m a R=(a,R)
 | 0=>rfl
 | m+1=>by
  rw [chainF];split
  ·rename_i hc;rw [if_neg (h hc)]
  ·rfl
theorem levelR_kind {L:List Tk} {R:Rd} (h:(levelR L R).1≠0):(tkF L R).kind≠5:=by
 unfold levelR at h
 split at h
 ·rename_i e he
  have:=List.find?_some he
  exact isR_kind this
 ·exact absurd rfl h
section
variable {n r:Nat} {L:List Tk} {dv:AV} {dp:Nat} {s:St} {R:Rd}
theorem bin_does {P:RM Int} (hS:GoesOn P) (hP:GoodE L P 115 dp):∀(k:Nat),k≤5→∀(n r:Nat) (dv:AV) (s:St) (R:Rd) (least:Int),least=6-(k:Int)→RdOk n r L dv dp s R→Does n r L dv dp dp 73 [.int .i64 least] s (binF L P k R).2 (.int .i64 (binF L P k R).1):=by
 intro k
 induction k with
 | zero =>
  intro _ n r dv s R least hl q
  obtain ⟨s1,c1,q1,k1⟩:=hP _ _ _ _ _ q
  subst hl
  refine does_of (N:=66) prim73 fn73 rfl rfl ?_
  intro e he ha K hK
  have a0:=ha 0
  have a1:=ha 1
  clear ha
  simp at a0 a1
  simp [a73,he,a0,a1,c1]
  exact hK _ _ _ (.inl rfl) q1 k1 ⟨_,rfl,by simp [he,binF]⟩
 | succ k ih =>
 intro hk n r dv s R least hl q
 have w1:IntKind.i64.wrap (least+1)=least+1:=wrap_i64 (by omega) (by omega)
 obtain ⟨s1,c1,q1,k1⟩:=ih (by omega) n r dv s R (least+1) (by omega) q
 have hgt:¬(5<least):=by omega
 have hb:binF L P (k+1) R=chainF L (binF L P k) least L.length (binF L P k R).1 (binF L P k R).2:=by rw [binF,show (5:Int)-k=least by omega]
 have hB:GoesOn (binF L P k):=Step.bin hS k
 rw [hb]
 refine does_of (N:=66) prim73 fn73 rfl rfl ?_
 intro e he ha K hK
 have a0:=ha 0
 have a1:=ha 1
 clear ha
 simp at a0 a1
 simp [a73,he,a0,a1,c1,w1,hgt]
 generalize hEv:(List.set _ 5 _:Env)=Ev
 have heE:Ev.length=66:=by subst hEv;simp [he]
 have b0:AX.ev Ev (.t 0)=.ptr r 0:=by subst hEv;simp [he,a0]
 have b1:AX.ev Ev (.t 1)=.int .i64 least:=by subst hEv;simp [he,a1]
 have b5:AX.ev Ev (.t 5)=.int .i64 (binF L P k R).1:=by subst hEv;simp [he]
 clear hEv c1
 generalize hq:chainF L (binF L P k) least L.length (binF L P k R).1 (binF L P k R).2=Q at hK
 refine aw_loop (W:=w73_0) rfl (fun m e ds sx=>ds=[]∧∃a Rx,chainF L (binF L P k) least m a Rx=Q∧(Rx.c=0→L.length≤m+Rx.i)∧RdOk n r L dv dp sx Rx∧Keep n r s sx∧AX.ev e (.t 5)=.int .i64 a) L.length ⟨rfl,_,_,hq,by omega,q1,k1,b5⟩ ?_
 clear hq q1 k1 b5
 rintro m e1 ds sx hs ⟨rfl,a,Rx,hq,hm,qx,kx',b5⟩ K1 kn kx
 have he1:e1.length=66:=by simp [hs.1,heE]
 have b0:=hs.ev 0 rfl b0
 have b1:=hs.ev 1 rfl b1
 obtain ⟨es,o,hr,_⟩:=qx.cell
 simp only [rdCs] at hr
 by_cases hc:Rx.c=0
 ·obtain ⟨s2,c2,q2,k2⟩:=level_does qx
  by_cases hlv:(levelR L Rx).1=least
  ·have hkind:(tkF L Rx).kind≠5:=levelR_kind (by rw [hlv];omega)
   have hg:=q2.get
   obtain ⟨es2,o2,hr2,_⟩:=q2.cell
   have u:=q2.next hkind hr2
   have wi:=q2.w1
   simp only [rdCs] at hr2
   obtain ⟨s3,c3,q3,k3⟩:=ih (by omega) n r dv _ _ (least+1) (by omega) u.1
   have hx:=qx.xl
   have Sb:=hB Rx.adv
   have hlt:=qx.lt
   have S1:Step Rx (putR ⟨(levelR L Rx).2,a,(binF L P k Rx.adv).1,0,[],[],0,[],.tight,posF L Rx⟩ (binF L P k Rx.adv).2).2:=.put Sb
   obtain ⟨s4,c4,q4,k4⟩:=put1 q3 (levelR L Rx).2 a (binF L P k Rx.adv).1 0 [] [] 0 (posF L Rx) (by have:=Sb.i;have:=Sb.x;simp [Rd.adv] at *;omega)
   simp only [posF] at c4
   rw [hc] at c3
   simp [a73_0,b0,b1,b5,he1,hr,hc,c2,hlv,hr2,hg,Lx.Tok.av,Ai.beq_refl,wi,w1,c3,c4]
   have hm:=hm hc
   cases m with
   | zero=>omega
   | succ m =>
   rw [chainF,if_pos hc,if_pos hlv] at hq
   by_cases h3:least=3
   ·rw [if_pos h3] at hq
    simp [h3,he1]
    refine kx _ _ _ _ nofun fun hs'=>?_
    simp
    exact hK _ _ _ (.inl rfl) (by rw [←hq];exact q4) ((((kx'.trans k2).trans u.2).trans k3).trans k4) ⟨_,rfl,by simp [he1,←hq,posF]⟩
   ·rw [if_neg h3] at hq
    simp [h3,he1]
    refine kn m _ _ _ (by omega) ⟨rfl,_,_,hq,fun _=>?_,q4,(((kx'.trans k2).trans u.2).trans k3).trans k4,by simp [he1,posF]⟩
    have:=Sb.i
    simp [putR,Rd.adv] at *;omega
  ·rw [chainF_end fun _=>hlv] at hq
   subst hq
   simp [a73_0,b0,b1,b5,he1,hr,hc,c2,hlv]
   refine kx _ _ _ _ nofun fun hs'=>?_
   simp
   exact hK _ _ _ (.inl rfl) q2 (kx'.trans k2) ⟨_,rfl,by simp [he1]⟩
 ·rw [chainF_end fun h=>absurd h hc] at hq
  subst hq
  simp [a73_0,b0,b5,he1,hr,hc]
  refine kx _ _ _ _ nofun fun hs'=>?_
  simp [he1,b5]
  exact hK _ _ _ (.inl rfl) qx kx' ⟨_,rfl,by simp [he1]⟩
theorem preTab_pos:∀e∈preTab,e.2≠0:=by decide
theorem isR_adv {w:Sx} (h:isR L w R=true):tookR L w R=R.adv:=by simp [tookR,h]
theorem isR_stay {w:Sx} (h:isR L w R=false):tookR L w R=R:=by simp [tookR,h]
theorem RdOk.up (q:RdOk n r L dv (dp+1) s R) (hd:dp≤30) {es:List AV} {o:Ap} (hr:s[r]?=some (.cells none (rdCs L dv (dp+1) R es o))) :
  RdOk n r L dv dp (s.set r (.cells none [.lst 4 (L.map Lx.Tok.av) .no,.int .i64 R.i,dv,.lst 9 es o,.int .i64 dp,.int .i64 R.c,.int .i64 R.b])) R ∧
  Keep n r s (s.set r (.cells none [.lst 4 (L.map Lx.Tok.av) .no,.int .i64 R.i,dv,.lst 9 es o,.int .i64 dp,.int .i64 R.c,.int .i64 R.b])) :=
 q.upd hr rfl rfl rfl rfl rfl q.lt q.xl (by omega)
theorem pref_does {E P:RM Int} (hSE:GoesOn E) (hSP:GoesOn P) (hE:GoodE L E 42 (dp+1)) (hP:GoodE L P 115 (dp+1)) (hd:dp<30) (q:RdOk n r L dv dp s R):Does n r L dv dp dp 115 [] s (if R.c=0 then prefB L E P R else (0,R)).2 (.int .i64 (if R.c=0 then prefB L E P R else (0,R)).1):=by
 obtain ⟨s1,c1,q1,k1⟩:=enter_does q (by omega)
 have ee:enterR L dp R=R:=by unfold enterR;rw [if_neg];omega
 rw [ee] at c1 q1
 have wd:IntKind.i64.wrap (dp:Int)=dp:=wrap_i64 (by omega) (by omega)
 by_cases hc:R.c=0
 ·rw [if_pos hc]
  have hg:=q1.get
  obtain ⟨es1,o1,hr1,_⟩:=q1.cell
  simp only [rdCs] at hr1
  have hx:=q1.xl
  refine does_of (N:=63) prim115 fn115 rfl rfl ?_
  intro e he ha K hK
  have a0:=ha 0
  clear ha
  simp at a0
  simp [a115,he,a0,c1,hc,hr1,hg,Lx.Tok.av,Ai.beq_refl]
  generalize hEv:(List.set _ 8 _:Env)=Ev
  have heE:Ev.length=63:=by subst hEv;simp [he]
  have b0:AX.ev Ev (.t 0)=.ptr r 0:=by subst hEv;simp [he,a0]
  have b3:AX.ev Ev (.t 3)=.int .i64 0:=by subst hEv;simp [he]
  have b4:AX.ev Ev (.t 4)=.int .i64 (posF L R):=by subst hEv;simp [he,posF]
  have b5:AX.ev Ev (.t 5)=.lst 1 (preTab.map fun e=>.str e.1) .tight:=by subst hEv;simp [he];rfl
  have b6:AX.ev Ev (.t 6)=.lst 1 (preTab.map fun e=>.int .i64 e.2) .tight:=by subst hEv;simp [he];rfl
  have b7:AX.ev Ev (.t 7)=.int .i64 0:=by subst hEv;simp [he]
  have b8:AX.ev Ev (.t 8)=.int .i64 0:=by subst hEv;simp [he]
  clear hEv c1 hr1 hg
  obtain ⟨T0,hT⟩:∃T0,T0=preTab.find? fun e=>isR L e.1 R:=⟨_,rfl⟩
  have hv:preR L R=T0.elim 0 (·.2):=by rw [hT,preR];cases preTab.find? fun e=>isR L e.1 R<;>rfl
  have hT0:∀e,T0=some e→e.2≠0:=fun e h=>preTab_pos e (List.mem_of_find?_eq_some (hT▸h))
  have h4:preTab.length=4:=rfl
  refine aw_loop (W:=w115_0) rfl (fun m e ds sx=>ds=[]∧∃i:Nat,i+m=preTab.length∧AX.ev e (.t 8)=.int .i64 i∧Keep n r s sx∧((AX.ev e (.t 7)=.int .i64 0∧(preTab.drop i).find? (fun e=>isR L e.1 R)=T0∧RdOk n r L dv (dp+1) sx R) ∨
   (∃x,T0=some x∧AX.ev e (.t 7)=.int .i64 x.2∧RdOk n r L dv (dp+1) sx R.adv))) preTab.length ⟨rfl,0,by simp,b8,k1,.inl ⟨b7,hT.symm,q1⟩⟩ ?_
  clear hT q1 k1 b7 b8
  rintro m e1 ds sx hs ⟨rfl,i,hm,b8,kx',hor⟩ K1 kn kx
  have he1:e1.length=63:=by simp [hs.1,heE]
  have b0:=hs.ev 0 rfl b0
  have b3:=hs.ev 3 rfl b3
  have b4:=hs.ev 4 rfl b4
  have b5:=hs.ev 5 rfl b5
  have b6:=hs.ev 6 rfl b6
  rcases hor with ⟨b7,hf,qx⟩ | ⟨x,hx0,b7,qx⟩
  ·by_cases hi:i<preTab.length
   ·have hi4:(i:Int)<4:=by omega
    obtain ⟨s2,c2,q2,k2⟩:=took_does qx preTab[i].1
    rw [find_drop hi] at hf
    have w1:IntKind.i64.wrap ((i:Int)+1)=(i:Int)+1:=wrap_i64 (by omega) (by omega)
    generalize preTab=T at *
    cases hb:isR L T[i].1 R with
    | true =>
     rw [hb] at c2
     rw [hb,if_pos rfl] at hf
     rw [isR_adv hb] at q2
     simp [a115_0,b0,b5,b6,b7,b8,he1,hi,hi4,c2,w1]
     exact kn (m-1) _ _ _ (by omega) ⟨rfl,i+1,by omega,by simp [he1],kx'.trans k2,.inr ⟨_,hf.symm,by simp [he1],q2⟩⟩
    | false =>
     rw [hb] at c2
     simp [hb] at hf
     rw [isR_stay hb] at q2
     simp [a115_0,b0,b5,b6,b7,b8,he1,hi,hi4,c2,w1]
     exact kn (m-1) _ _ _ (by omega) ⟨rfl,i+1,by omega,by simp [he1],kx'.trans k2,.inl ⟨by simp [he1,b7],hf,q2⟩⟩
   ·rw [List.drop_eq_nil_of_le (by omega)] at hf
    have hf:T0=none:=hf.symm
    subst hf
    have hi':¬(i:Int)<4:=by omega
    obtain ⟨s2,c2,q2,k2⟩:=atom_does hSE hE qx
    obtain ⟨es2,o2,hr2,_⟩:=q2.cell
    have u:=q2.up (by omega) hr2
    simp only [rdCs] at hr2
    simp [a115_0,b7,b8,he1,hi']
    refine kx _ _ _ _ nofun fun hs'=>?_
    simp [he1,b0,b7,c2,hr2,wd]
    have ea:prefB L E P R=atomF L E R:=by simp [prefB,hv]
    rw [ea] at hK
    exact hK _ _ _ (.inl rfl) u.1 ((kx'.trans k2).trans u.2) ⟨_,rfl,by simp [he1]⟩
  ·subst hx0
   have hx2:=hT0 x rfl
   obtain ⟨s2,c2,q2,k2⟩:=hP _ _ _ _ _ qx
   have Sp:=hSP R.adv
   obtain ⟨s3,c3,q3,k3⟩:=put1 q2 x.2 (P R.adv).1 0 0 [] [] 0 (posF L R) (by have:=Sp.i;have:=Sp.x;simp [Rd.adv] at *;omega)
   obtain ⟨es2,o2,hr2,_⟩:=q3.cell
   have u:=q3.up (by omega) hr2
   simp only [rdCs] at hr2
   have hv:preR L R=x.2:=hv
   have ea:prefB L E P R=putR ⟨x.2,(P R.adv).1,0,0,[],[],0,[],.tight,posF L R⟩ (P R.adv).2:=by simp [prefB,hv,hx2]
   rw [ea] at hK
   by_cases hi4:(i:Int)<4<;>simp [a115_0,b7,b8,he1,hx2,hi4]<;>refine kx _ _ _ _ nofun fun hs'=>?_
   all_goals
    simp [he1,b0,b4,b7,hx2,c2,c3,hr2,wd]
    exact hK _ _ _ (.inl rfl) u.1 (((kx'.trans k2).trans k3).trans u.2) ⟨_,rfl,by simp [he1]⟩
 ·rw [if_neg hc]
  obtain ⟨es1,o1,hr1,_⟩:=q1.cell
  have u:=q1.up (by omega) hr1
  simp only [rdCs] at hr1
  refine does_of (N:=63) prim115 fn115 rfl rfl ?_
  intro e he ha K hK
  have a0:=ha 0
  clear ha
  simp at a0
  simp [a115,he,a0,c1,hc,hr1,wd]
  exact hK _ _ _ (.inl rfl) u.1 (k1.trans u.2) ⟨_,rfl,by simp [he]⟩
theorem expr_does {E P:RM Int} (hSE:GoesOn E) (hSP:GoesOn P) (hE:GoodE L E 42 (dp+1)) (hP:GoodE L P 115 (dp+1)) (hd:dp<30) (q:RdOk n r L dv dp s R):Does n r L dv dp dp 42 [] s (if R.c=0 then exprB L E P R else (0,R)).2 (.int .i64 (if R.c=0 then exprB L E P R else (0,R)).1):=by
 obtain ⟨s1,c1,q1,k1⟩:=enter_does q (by omega)
 have ee:enterR L dp R=R:=by unfold enterR;rw [if_neg];omega
 rw [ee] at c1 q1
 have wd:IntKind.i64.wrap (dp:Int)=dp:=wrap_i64 (by omega) (by omega)
 by_cases hc:R.c=0
 ·rw [if_pos hc]
  have hg:=q1.get
  obtain ⟨es1,o1,hr1,_⟩:=q1.cell
  simp only [rdCs] at hr1
  have hx:=q1.xl
  obtain ⟨s2,c2,q2,k2⟩:=took_does q1 [105,102]
  cases hif:isR L [105,102] R with
  | true =>
   rw [hif] at c2
   rw [isR_adv hif] at q2
   obtain ⟨s3,c3,q3,k3⟩:=hE _ _ _ _ _ q2
   obtain ⟨s4,c4,q4,k4⟩:=want_does q3 [116,104,101,110]
   obtain ⟨s5,c5,q5,k5⟩:=hE _ _ _ _ _ q4
   obtain ⟨s6,c6,q6,k6⟩:=want_does q5 [101,108,115,101]
   obtain ⟨s7,c7,q7,k7⟩:=hE _ _ _ _ _ q6
   have S7:=(((hSE R.adv).trans (.want (L:=L) (w:=[116,104,101,110]))).trans (hSE _)).trans (.trans (.want (L:=L) (w:=[101,108,115,101])) (hSE _))
   obtain ⟨s8,c8,q8,k8⟩:=put1 q7 15 (E R.adv).1 (E (wantR L [116,104,101,110] (E R.adv).2)).1 (E (wantR L [101,108,115,101] (E (wantR L [116,104,101,110] (E R.adv).2)).2)).1 [] [] 0 (posF L R) (by have:=S7.i;have:=S7.x;simp [Rd.adv] at *;omega)
   obtain ⟨es2,o2,hr2,_⟩:=q8.cell
   have u:=q8.up (by omega) hr2
   simp only [rdCs] at hr2
   simp only [posF] at c8
   refine does_of (N:=80) prim42 fn42 rfl rfl ?_
   intro e he ha K hK
   have a0:=ha 0
   clear ha
   simp at a0
   simp [a42,he,a0,c1,hc,hr1,hg,Lx.Tok.av,Ai.beq_refl,c2,c3,c4,c5,c6,c7,c8,hr2,wd]
   have ea:exprB L E P R=putR ⟨15,(E R.adv).1,(E (wantR L [116,104,101,110] (E R.adv).2)).1,(E (wantR L [101,108,115,101] (E (wantR L [116,104,101,110] (E R.adv).2)).2)).1,[],[],0,[],.tight,posF L R⟩ (E (wantR L [101,108,115,101] (E (wantR L [116,104,101,110] (E R.adv).2)).2)).2:=by simp [exprB,hif]
   rw [ea] at hK
   exact hK _ _ _ (.inl rfl) u.1 (((k1.trans k2).trans ((k3.trans k4).trans (k5.trans k6))).trans ((k7.trans k8).trans u.2)) ⟨_,rfl,by simp [he,posF]⟩
  | false =>
  rw [hif] at c2
  rw [isR_stay hif] at q2
  obtain ⟨s3,c3,q3,k3⟩:=bin_does hSP hP 5 (by omega) _ _ _ _ _ 1 (by decide) q2
  have Sb:=Step.bin (L:=L) hSP 5 R
  obtain ⟨A1,hA⟩:∃A1,A1=binF L P 5 R:=⟨_,rfl⟩
  have ea:exprB L E P R=if isR L [45,62] A1.2 || isR L [102,98,121] A1.2 then putR ⟨if isR L [102,98,121] A1.2 then 18 else 17,A1.1,(E A1.2.adv).1,0,[],[],0,[],.tight,posF L A1.2⟩ (E A1.2.adv).2 else A1:=by simp [exprB,hif,hA]
  rw [←hA] at c3 q3 Sb
  clear hA
  have hg3:=q3.get
  obtain ⟨es3,o3,hr3,_⟩:=q3.cell
  simp only [rdCs] at hr3
  obtain ⟨s4,c4,q4,k4⟩:=is_does q3 [102,98,121]
  obtain ⟨s5,c5,q5,k5⟩:=took_does q4 [45,62]
  have k05:=(k1.trans k2).trans ((k3.trans k4).trans k5)
  rw [ea]
  cases har:isR L [45,62] A1.2 with
  | true =>
   rw [har] at c5
   rw [isR_adv har] at q5
   have hfb:isR L [102,98,121] A1.2=false:=by
    cases h:isR L [102,98,121] A1.2 with
    | false=>rfl
    | true =>
     simp only [isR,Bool.and_eq_true,decide_eq_true_eq] at har h
     have:=har.2.2.symm.trans h.2.2;cases this
   rw [hfb] at c4
   obtain ⟨s6,c6,q6,k6⟩:=hE _ _ _ _ _ q5
   have S6:=hSE A1.2.adv
   have h3x:=q3.xl
   obtain ⟨s7,c7,q7,k7⟩:=put1 q6 17 A1.1 (E A1.2.adv).1 0 [] [] 0 (posF L A1.2) (by have:=S6.i;have:=S6.x;simp [Rd.adv] at *;omega)
   obtain ⟨es2,o2,hr2,_⟩:=q7.cell
   have u:=q7.up (by omega) hr2
   simp only [rdCs] at hr2
   simp only [posF] at c7
   simp only [hfb,Bool.true_or,if_true,Bool.false_eq_true,if_false]
   refine does_of (N:=80) prim42 fn42 rfl rfl ?_
   intro e he ha K hK
   have a0:=ha 0
   clear ha
   simp at a0
   simp [a42,he,a0,c1,hc,hr1,hg,Lx.Tok.av,Ai.beq_refl,c2,c3,hg3,hr3,c4,c5,c6,c7,hr2,wd]
   exact hK _ _ _ (.inl rfl) u.1 ((k05.trans k6).trans (k7.trans u.2)) ⟨_,rfl,by simp [he,posF]⟩
  | false =>
  rw [har] at c5
  rw [isR_stay har] at q5
  obtain ⟨s6,c6,q6,k6⟩:=took_does q5 [102,98,121]
  cases hfb:isR L [102,98,121] A1.2 with
  | true =>
   rw [hfb] at c4 c6
   rw [isR_adv hfb] at q6
   obtain ⟨s7,c7,q7,k7⟩:=hE _ _ _ _ _ q6
   have S6:=hSE A1.2.adv
   have h3x:=q3.xl
   obtain ⟨s8,c8,q8,k8⟩:=put1 q7 18 A1.1 (E A1.2.adv).1 0 [] [] 0 (posF L A1.2) (by have:=S6.i;have:=S6.x;simp [Rd.adv] at *;omega)
   obtain ⟨es2,o2,hr2,_⟩:=q8.cell
   have u:=q8.up (by omega) hr2
   simp only [rdCs] at hr2
   simp only [posF] at c8
   simp only [Bool.or_true,if_true]
   refine does_of (N:=80) prim42 fn42 rfl rfl ?_
   intro e he ha K hK
   have a0:=ha 0
   clear ha
   simp at a0
   simp [a42,he,a0,c1,hc,hr1,hg,Lx.Tok.av,Ai.beq_refl,c2,c3,hg3,hr3,c4,c5,c6,c7,c8,hr2,wd]
   exact hK _ _ _ (.inl rfl) u.1 ((k05.trans (k6.trans k7)).trans (k8.trans u.2)) ⟨_,rfl,by simp [he,posF]⟩
  | false =>
   rw [hfb] at c4 c6
   rw [isR_stay hfb] at q6
   obtain ⟨es2,o2,hr2,_⟩:=q6.cell
   have u:=q6.up (by omega) hr2
   simp only [rdCs] at hr2
   simp only [Bool.or_false,Bool.false_eq_true,if_false]
   refine does_of (N:=80) prim42 fn42 rfl rfl ?_
   intro e he ha K hK
   have a0:=ha 0
   clear ha
   simp at a0
   simp [a42,he,a0,c1,hc,hr1,hg,Lx.Tok.av,Ai.beq_refl,c2,c3,hg3,hr3,c4,c5,c6,hr2,wd]
   exact hK _ _ _ (.inl rfl) u.1 ((k05.trans k6).trans u.2) ⟨_,rfl,by simp [he]⟩
 ·rw [if_neg hc]
  obtain ⟨es1,o1,hr1,_⟩:=q1.cell
  have u:=q1.up (by omega) hr1
  simp only [rdCs] at hr1
  refine does_of (N:=80) prim42 fn42 rfl rfl ?_
  intro e he ha K hK
  have a0:=ha 0
  clear ha
  simp at a0
  simp [a42,he,a0,c1,hc,hr1,wd]
  exact hK _ _ _ (.inl rfl) u.1 (k1.trans u.2) ⟨_,rfl,by simp [he]⟩
theorem deep_does (q:RdOk n r L dv 30 s R):Does n r L dv 30 30 42 [] s (failR L 3 R) (.int .i64 0)∧Does n r L dv 30 30 115 [] s (failR L 3 R) (.int .i64 0):=by
 obtain ⟨s1,c1,q1,k1⟩:=enter_does q (by omega)
 have ee:enterR L 30 R=failR L 3 R:=by unfold enterR failR;split<;>simp_all
 rw [ee] at c1 q1
 have hc:(failR L 3 R).c≠0:=by unfold failR;split<;>simp_all
 obtain ⟨es1,o1,hr1,_⟩:=q1.cell
 have u:=q1.up (by omega) hr1
 simp only [rdCs] at hr1
 constructor
 ·refine does_of (N:=80) prim42 fn42 rfl rfl ?_
  intro e he ha K hK
  have a0:=ha 0
  clear ha
  simp at a0
  simp [a42,he,a0,c1,hc,hr1,wrap_i64]
  exact hK _ _ _ (.inl rfl) u.1 (k1.trans u.2) ⟨_,rfl,by simp [he]⟩
 ·refine does_of (N:=63) prim115 fn115 rfl rfl ?_
  intro e he ha K hK
  have a0:=ha 0
  clear ha
  simp at a0
  simp [a115,he,a0,c1,hc,hr1,wrap_i64]
  exact hK _ _ _ (.inl rfl) u.1 (k1.trans u.2) ⟨_,rfl,by simp [he]⟩
theorem ep_good:∀f,f≤30→GoodE L (epF L f).1 42 (30-f)∧GoodE L (epF L f).2 115 (30-f)
 | 0,_=>⟨fun _ _ _ _ _ q=>(deep_does q).1,fun _ _ _ _ _ q=>(deep_does q).2⟩
 | f+1,h=>by
  have ih:=ep_good f (by omega)
  have hS:=Step.ep (L:=L) f
  rw [show 30-f=30-(f+1)+1 by omega] at ih
  exact ⟨fun _ _ _ _ _ q=>expr_does hS.1 hS.2 ih.1 ih.2 (by omega) q,fun _ _ _ _ _ q=>pref_does hS.1 hS.2 ih.1 ih.2 (by omega) q⟩
theorem Step.exprF:GoesOn (exprF L):=(Step.ep 30).1
theorem exprF_does (q:RdOk n r L dv 0 s R):Does n r L dv 0 0 42 [] s (exprF L R).2 (.int .i64 (exprF L R).1):=(ep_good 30 (by omega)).1 _ _ _ _ _ q
end
end Go.Proofs.YtgkhmmlemgikjaaGreatDoor
namespace Go.Proofs.YtgkhmmlemgikjaaGreatDoor
open Go Ai
theorem fn76:A.fn 76=some a76:=by kernel_rfl
theorem prim76:A.prim 76=none:=by kernel_rfl
def w76_0:List Nat:=a76_0.writes
def DoesV (n r:Nat) (L:List Tk) (dv:AV) (f:Nat) (args:List AV) (s:St) (R':Rd) (P:St→AV→Prop):Prop :=
 ∃V s',runL A (.call f (.ptr r 0::args)) s=some ⟨.ret,⟨[V],[]⟩,s'⟩∧RdOk n r L dv 0 s' R'∧Keep n r s s'∧P s' V
theorem doesv_of {n r:Nat} {L:List Tk} {dv:AV} {f:Nat} {args:List AV} {s:St} {R':Rd} {P:St→AV→Prop} {F:AFunc} {N:Nat} (hp:A.prim f=none) (hf:A.fn f=some F) (hk:F.keep=true) (hN:(AV.ptr r 0::args).length+(F.ntmps-(AV.ptr r 0::args).length)=N)
  (h:∀e:Env,e.length=N→(∀i,AX.ev e (.t i)=(AV.ptr r 0::args).getD i .undef)→∀K:PostQ,
   (∀x e s' V,(x=.ret∨x=.nrm)→RdOk n r L dv 0 s' R'→Keep n r s s'→P s' V→(∃vs,resultsA s' e F.results=some vs∧oneOf vs=V)→K x e [] s')→AW A f none F.body e [] s K):DoesV n r L dv f args s R' P:=by
 obtain ⟨V,s',⟨h1,h2,h4⟩,h3,_⟩:=Ai.task_of_aw_keep_ev (A:=A) (st:=s) (fun V s'=>RdOk n r L dv 0 s' R'∧Keep n r s s'∧P s' V) hp hf hk hN
  (fun e he ha K hK=>h e he ha K fun x e s' V hx h1 h2 h3 h4=>hK x e s' V hx ⟨h1,h2,h3⟩ h4)
 exact ⟨V,s',h3,h1,h2,h4⟩
def OwnL (n m:Nat) (ty:Option TypeId) (b:Nat) (es:List AV) (s:St) (V:AV):Prop:=∃ap,V=.lst m es ap∧Own s b m ty ap es.length
section
variable {n r:Nat} {L:List Tk} {dv:AV} {s:St} {R:Rd}
theorem pmsF_end (h:R.c≠0) {l:List Pm}:∀m,pmsF L m l R=(l,R)
 | 0=>rfl
 | m+1=>by rw [pmsF,if_neg h]
theorem pms_low {k:Nat} (l:List Pm):AV.lowsB k (l.map Pm.av)=true:=lows_all fun x hx=>by obtain ⟨i,_,rfl⟩:=List.mem_map.1 hx;rfl
theorem params_does (q:RdOk n r L dv 0 s R):DoesV n r L dv 76 [] s (paramsF L R).2 (OwnL n 2 (some 77) s.length ((paramsF L R).1.map Pm.av)):=by
 obtain ⟨s1,c1,q1,k1⟩:=want_does q [40]
 obtain ⟨s2,c2,q2,k2⟩:=took_does q1 [41]
 have hnl:n≤s.length:=by have:=q.le;have:=q.len;omega
 refine doesv_of (N:=34) prim76 fn76 rfl rfl ?_
 intro e he ha K hK
 have a0:=ha 0
 clear ha
 simp at a0
 generalize hR1:wantR L [40] R=R1 at *
 cases hb:isR L [41] R1 with
 | true =>
  rw [hb] at c2
  rw [isR_adv hb] at q2
  have ea:paramsF L R=([],R1.adv):=by simp [paramsF,hR1,hb]
  rw [ea] at hK
  simp [a76,he,a0,c1,c2]
  exact hK _ _ _ _ (.inl rfl) q2 (k1.trans k2) ⟨.tight,rfl,.nil⟩ ⟨_,rfl,by simp [he]⟩
 | false =>
 rw [hb] at c2
 rw [isR_stay hb] at q2
 have ea:paramsF L R=pmsF L L.length [] R1:=by simp [paramsF,hR1,hb]
 rw [ea] at hK
 simp [a76,he,a0,c1,c2]
 generalize hEv:(List.set _ 8 _:Env)=Ev
 have heE:Ev.length=34:=by subst hEv;simp [he]
 have b0:AX.ev Ev (.t 0)=.ptr r 0:=by subst hEv;simp [he,a0]
 have b3:AX.ev Ev (.t 3)=.lst 2 (([]:List Pm).map Pm.av) .tight:=by subst hEv;simp [he]
 clear hEv c1 c2 ea hb hR1
 generalize hq:pmsF L L.length [] R1=Q at hK
 refine aw_loop (W:=w76_0) rfl (fun m e ds sx=>ds=[]∧∃l Rx ap,pmsF L m l Rx=Q∧(Rx.c=0→L.length≤m+Rx.i)∧l.length≤Rx.i∧RdOk n r L dv 0 sx Rx∧Keep n r s sx∧Own sx s.length 2 (some 77) ap (l.map Pm.av).length∧AX.ev e (.t 3)=.lst 2 (l.map Pm.av) ap) L.length
  ⟨rfl,[],R1,.tight,hq,by omega,by simp,q2,k1.trans k2,.nil,b3⟩ ?_
 clear hq q1 k1 q2 k2 b3 R1
 rintro m e1 ds sx hs ⟨rfl,l,Rx,ap,hq,hm,hll,qx,kx',ox,b3⟩ K1 kn kx
 have he1:e1.length=34:=by simp [hs.1,heE]
 have b0:=hs.ev 0 rfl b0
 obtain ⟨es,o,hr,_⟩:=qx.cell
 have hr0:=hr
 simp only [rdCs] at hr
 by_cases hc:Rx.c=0
 ·have hm:=hm hc
  have hlt:=qx.lt
  have htl:=qx.tk.len
  cases m with
  | zero=>omega
  | succ m =>
  rw [pmsF,if_pos hc] at hq
  simp only [] at hq
  obtain ⟨s1,c1,q1,k1⟩:=name_does qx
  obtain ⟨s2,c2,q2,k2⟩:=want_does q1 [58]
  obtain ⟨s3,c3,q3,k3⟩:=kind_does q2
  have S3:=(Step.name (L:=L) (R:=Rx)).trans ((Step.want (L:=L) (w:=[58]) (R:=(nameR L Rx).2)).trans (.kind (L:=L)))
  have o3:=((k1.trans k2).trans k3).own ox (.inl (by decide)) hr0
  generalize (nameR L Rx).1=nm at *
  generalize (kindR L (wantR L [58] (nameR L Rx).2)).1=kd at *
  generalize (kindR L (wantR L [58] (nameR L Rx).2)).2=R3 at *
  obtain ⟨ap',s4,p4,o4,q4,k4,_⟩:=q3.push (l:=l.map Pm.av) (x:=Pm.av ⟨nm,kd⟩) (ap0:=.tight) (ap:=ap) (m:=2) (ty:=some 77) (bytes:=24) (kx'.trans ((k1.trans k2).trans k3)) o3 (.inl (by decide)) hnl (by simp;omega) (by decide)
  obtain ⟨s5,c5,q5,k5⟩:=took_does q4 [44]
  obtain ⟨es4,op4,hr4,_⟩:=q4.cell
  have o5:=k5.own o4 (.inl (by decide)) hr4
  simp only [Pm.av] at p4
  cases hb:isR L [44] R3 with
  | true =>
   rw [hb] at c5
   rw [isR_adv hb] at q5
   rw [if_pos hb] at hq
   simp [a76_0,b0,b3,he1,hr,hc,c1,c2,c3,p4,c5,Pm.av]
   exact kn m _ _ _ (by omega) ⟨rfl,_,_,ap',hq,fun _=>by have:=S3.i;simp [Rd.adv];omega,by have:=S3.i;simp [Rd.adv];omega,q5,k4.trans k5,by simpa using o5,by simp [he1,Pm.av]⟩
  | false =>
   rw [hb] at c5
   rw [isR_stay hb] at q5
   rw [if_neg (by simp [hb])] at hq
   subst hq
   obtain ⟨s6,c6,q6,k6⟩:=want_does q5 [41]
   obtain ⟨es5,op5,hr5,_⟩:=q5.cell
   have o6:=k6.own o5 (.inl (by decide)) hr5
   simp [a76_0,b0,b3,he1,hr,hc,c1,c2,c3,p4,c5,c6,Pm.av]
   refine kx _ _ _ _ nofun fun hs'=>?_
   simp
   exact hK _ _ _ _ (.inl rfl) q6 (k4.trans (k5.trans k6)) ⟨ap',rfl,by simpa using o6⟩ ⟨_,rfl,by simp [he1,Pm.av]⟩
 ·rw [pmsF_end hc] at hq
  subst hq
  simp [a76_0,b0,he1,hr,hc]
  refine kx _ _ _ _ nofun fun hs'=>?_
  simp [he1,b3]
  exact hK _ _ _ _ (.inl rfl) qx kx' ⟨ap,rfl,ox⟩ ⟨_,rfl,by simp [he1]⟩
end
end Go.Proofs.YtgkhmmlemgikjaaGreatDoor
namespace Go.Proofs.YtgkhmmlemgikjaaGreatDoor
open Go Ai
theorem fn117:A.fn 117=some a117:=by kernel_rfl
theorem prim117:A.prim 117=none:=by kernel_rfl
def w117_0:List Nat:=a117_0.writes
structure Cel (n r:Nat) (L:List Tk) (dv:AV) (b c0 c:Nat) (s0:St) (Z:List AV) (s:St) (R:Rd) (cs:List AV):Prop where
 q:RdOk n r L dv 0 s R
 k:Keep n r s0 s
 g:s[c]?=some (.cells none cs)
 z:s[c0]?=some (.cells none Z)
 bn:n≤b
 bs:b=s0.length
 hc:b≤c
 hz:b≤c0
 ne:c0≠c
 nc:c≠r
 nz:c0≠r
section
variable {n r:Nat} {L:List Tk} {dv:AV} {b c0 c:Nat} {s0:St} {Z:List AV} {s:St} {R:Rd} {cs:List AV}
theorem Cel.to (h:Cel n r L dv b c0 c s0 Z s R cs) {s':St} {R':Rd} (q:RdOk n r L dv 0 s' R') (k:Keep n r s s'):Cel n r L dv b c0 c s0 Z s' R' cs :=
 { h with q:=q,k:=h.k.trans k,g:=k.k _ _ h.nc h.g nofun,z:=k.k _ _ h.nz h.z nofun }
theorem Cel.call (h:Cel n r L dv b c0 c s0 Z s R cs) {f:Nat} {args:List AV} {R':Rd} {V:AV} (d:Does n r L dv 0 0 f args s R' V) :
  ∃s',runL A (.call f (.ptr r 0::args)) s=some ⟨.ret,⟨[V],[]⟩,s'⟩∧Cel n r L dv b c0 c s0 Z s' R' cs:=by
 obtain ⟨s',h1,h2,h3⟩:=d
 exact ⟨s',h1,h.to h2 h3⟩
theorem Keep.setc {n r c:Nat} {s0 s:St} {o:AObj} (h:Keep n r s0 s) (hn:n≤s0.length) (hc:s0.length≤c) (ho:AObj.lowB s.length o=true):Keep n r s0 (s.set c o):=by
 refine ⟨⟨?_,by rw [List.length_set];exact h.g.len,fun q=>(h.g.ok q).set' ho⟩,fun j p h1 h2 h3=>?_⟩
 ·rw [←h.g.take,List.take_set,List.set_eq_of_length_le (by simp;omega)]
 ·have:=(List.getElem?_eq_some_iff.1 h2).1
  rw [List.getElem?_set_ne (by omega)];exact h.k j p h1 h2 h3
theorem RdOk.setc {c:Nat} {cs0:List AV} {o:AObj} (q:RdOk n r L dv 0 s R) (hc:s[c]?=some (.cells none cs0)) (hne:c≠r) (ho:AObj.lowB s.length o=true):RdOk n r L dv 0 (s.set c o) R:=by
 obtain ⟨es,p,h1,h2,h3,h4⟩:=q.cell
 refine { q with cell:=⟨es,p,by rw [List.getElem?_set_ne hne];exact h1,h2,?_,h4⟩,ok:=q.ok.set' ho }
 rcases h3 with h3 | ⟨h0,id,e1,e2,e3⟩
 ·exact .inl h3
 ·refine .inr ⟨h0,id,e1,e2,?_⟩
  rw [List.getElem?_set_ne]
  ·exact e3
  ·rintro rfl;rw [hc] at e3;cases e3
theorem Cel.set (h:Cel n r L dv b c0 c s0 Z s R cs) (cs':List AV) (hl:AV.lowsB s.length cs'=true):Cel n r L dv b c0 c s0 Z (s.set c (.cells none cs')) R cs':=by
 have hlt:=(List.getElem?_eq_some_iff.1 h.g).1
 exact { h with q:=h.q.setc h.g h.nc hl,k:=h.k.setc (h.bs▸h.bn) (h.bs▸h.hc) hl,g:=by simp [hlt],z:=by rw [List.getElem?_set_ne h.ne.symm];exact h.z }
theorem Cel.seti (h:Cel n r L dv b c0 c s0 Z s R cs) (i:Nat) (v:AV) (hl:AV.lowB s.length v=true):Cel n r L dv b c0 c s0 Z (s.set c (.cells none (cs.set i v))) R (cs.set i v):=h.set _ (lows_set (h.q.ok.get h.g) hl)
theorem Cel.last (h:Cel n r L dv b c0 c s0 Z s R cs):∃es o,s[r]?=some (.cells none [.lst 4 (L.map Lx.Tok.av) .no,.int .i64 R.i,dv,.lst 9 es o,.int .i64 ↑(0:Nat),.int .i64 R.c,.int .i64 R.b])∧RdOk n r L dv 0 (s.set c0 (.cells none cs)) R∧Keep n r s0 (s.set c0 (.cells none cs))∧c0<s.length∧∀x:AObj,(s.set c0 x)[r]?=s[r]?:=by
 obtain ⟨es,o,hr,_⟩:=h.q.cell
 have lw:=h.q.ok.get h.g
 exact ⟨es,o,hr,h.q.setc h.z h.nz lw,h.k.setc (h.bs▸h.bn) (h.bs▸h.hz) lw,(List.getElem?_eq_some_iff.1 h.z).1,fun x=>List.getElem?_set_ne h.nz⟩
theorem Cel.own (h:Cel n r L dv b c0 c s0 Z s R cs) {m k d:Nat} {ty:Option TypeId} {ap:Ap} (ho:Own s d m ty ap k) {o:AObj}:Own (s.set c o) d m ty ap k:=by
 rcases ho with ho | ⟨h0,id,e1,e2,e3⟩
 ·exact .inl ho
 ·refine .inr ⟨h0,id,e1,e2,?_⟩
  rw [List.getElem?_set_ne]
  ·exact e3
  ·rintro rfl;rw [h.g] at e3;cases e3
theorem stsF_end {l:List Sx} (h:isR L [44] R=false):∀m,stsF L m l R=(l,R)
 | 0=>rfl
 | m+1=>by simp [stsF,h]
theorem Cel.push (h:Cel n r L dv b c0 c s0 Z s R cs) {m bytes:Nat} {ty:Option TypeId} {ap ap0:Ap} {l:List AV} {x:AV} (ho:Own s s0.length m ty ap l.length) (hm:m≠9∨ty≠some 62) (hl:l.length≤4000000000) (hby:bytes≤256) :
  ∃ap' s2,appendA m bytes ty s (.lst m l ap) (.lst m [x] ap0)=some (.val (.lst m (l++[x]) ap') s2)∧Own s2 s0.length m ty ap' (l++[x]).length∧Cel n r L dv b c0 c s0 Z s2 R cs:=by
 obtain ⟨ap',s2,p,o,q,k,_,g⟩:=h.q.push (bytes:=bytes) (x:=x) (ap0:=ap0) h.k ho hm (h.bs▸h.bn) hl hby
 exact ⟨ap',s2,p,o,{ h with q:=q,k:=k,g:=g _ _ h.g nofun,z:=g _ _ h.z nofun }⟩
def ItP (n b:Nat) (x:It) (ok:Bool) (s:St) (V:AV):Prop:=∃ap,V=.tup [It.av { x with ap:=ap },.bool ok]∧AV.lowB s.length (.lst 1 (strs x.ss) ap)=true∧∀S,AV.still n S (.lst 1 (strs x.ss) ap)=some (.lst 1 (strs x.ss) x.ap)
set_option maxHeartbeats 1000000 in
theorem item_does (q:RdOk n r L dv 0 s R) (all:Bool):DoesV n r L dv 117 [.bool all] s (itmF L all R).2 (ItP n s.length (itmF L all R).1.1 (itmF L all R).1.2):=by
 obtain ⟨es,o,hr,_⟩:=q.cell
 simp only [rdCs] at hr
 have hg:=q.get
 have hnl:n≤s.length:=by have:=q.le;have:=q.len;omega
 have hrl:=q.len
 have hr1:∀x y:AObj,(s++[x,y])[r]?=some (.cells none [.lst 4 (L.map Lx.Tok.av) .no,.int .i64 R.i,dv,.lst 9 es o,.int .i64 ↑(0:Nat),.int .i64 R.c,.int .i64 R.b]):=fun x y=>by rw [List.getElem?_append_left q.len];exact hr
 refine doesv_of (N:=191) prim117 fn117 rfl rfl ?_
 intro e he ha K hK
 have a0:=ha 0
 have a1:=ha 1
 clear ha
 simp at a0 a1
 simp [a117,he,a0,a1,hr,hr1,hg,Lx.Tok.av,Ai.beq_refl]
 generalize hEv:(List.set _ 21 _:Env)=Ev
 have heE:Ev.length=191:=by subst hEv;simp [he]
 have b0:AX.ev Ev (.t 0)=.ptr r 0:=by subst hEv;simp [he,a0]
 have b1:AX.ev Ev (.t 1)=.bool all:=by subst hEv;simp [he,a1]
 have b4:AX.ev Ev (.t 4)=.ptr s.length 0:=by subst hEv;simp [he]
 have b6:AX.ev Ev (.t 6)=.ptr (s.length+1) 0:=by subst hEv;simp [he]
 clear hEv he a0 a1
 replace he:=heE
 have Z0:Cel n r L dv s.length s.length (s.length+1) s [.int .i64 0,.str [],.int .i64 0,.int .i64 0,.int .i64 0,.lst 1 [] .tight,.str [],.str [],.int .i64 0] (s++[.cells none [.int .i64 0,.str [],.int .i64 0,.int .i64 0,.int .i64 0,.lst 1 [] .tight,.str [],.str [],.int .i64 0],.cells none [.int .i64 0,.str [],.int .i64 0,.int .i64 0,.int .i64 0,.lst 1 [] .tight,.str [],.str [],.int .i64 (tkF L R).pos]]) R [.int .i64 0,.str [],.int .i64 0,.int .i64 0,.int .i64 0,.lst 1 [] .tight,.str [],.str [],.int .i64 (tkF L R).pos]:=by
  have q1:=q.app (o:=.cells none [.int .i64 0,.str [],.int .i64 0,.int .i64 0,.int .i64 0,.lst 1 [] .tight,.str [],.str [],.int .i64 0]) rfl
  have q2:=q1.app (o:=.cells none [.int .i64 0,.str [],.int .i64 0,.int .i64 0,.int .i64 0,.lst 1 [] .tight,.str [],.str [],.int .i64 (tkF L R).pos]) rfl
  rw [List.append_assoc] at q2
  refine ⟨q2,?_,by simp,by simp,hnl,rfl,by omega,by omega,by omega,by omega,by omega⟩
  have:=(Keep.app (r:=r) (o:=.cells none [.int .i64 0,.str [],.int .i64 0,.int .i64 0,.int .i64 0,.lst 1 [] .tight,.str [],.str [],.int .i64 0]) hnl rfl).trans (Keep.app (o:=.cells none [.int .i64 0,.str [],.int .i64 0,.int .i64 0,.int .i64 0,.lst 1 [] .tight,.str [],.str [],.int .i64 (tkF L R).pos]) (by simp;omega) rfl)
  rwa [List.append_assoc] at this
 generalize hS0:(s++[_,_]:St)=s00 at Z0 ⊢
 clear hS0 hr1 hr hg
 -- printed by mk_item.py
 obtain ⟨s1,c1,Z1⟩:=Z0.call (took_does Z0.q [108,101,116])
 cases h1:isR L [108,101,116] R with
 | true =>
  rw [h1] at c1
  rw [isR_adv h1] at Z1
  have Y1:=Z1.seti 0 (.int .i64 1) rfl
  obtain ⟨u2,d2,Y2⟩:=Y1.call (name_does Y1.q)
  have Y3:=Y2.seti 1 (.str (nameR L R.adv).1) rfl
  obtain ⟨u4,d4,Y4⟩:=Y3.call (want_does Y3.q [58])
  obtain ⟨u5,d5,Y5⟩:=Y4.call (kind_does Y4.q)
  have Y6:=Y5.seti 2 (.int .i64 (kindR L (wantR L [58] (nameR L R.adv).2)).1) rfl
  obtain ⟨u7,d7,Y7⟩:=Y6.call (want_does Y6.q [61])
  obtain ⟨u8,d8,Y8⟩:=Y7.call (exprF_does Y7.q)
  have Y9:=Y8.seti 3 (.int .i64 (exprF L (wantR L [61] (kindR L (wantR L [58] (nameR L R.adv).2)).2)).1) rfl
  obtain ⟨u10,d10,Y10⟩:=Y9.call (want_does Y9.q [59])
  dsimp only [List.set] at *
  obtain ⟨es9,o9,hr9,f1,f2,f3,f4⟩:=Y10.last
  have ea:itmF L all R=finR L ⟨1,(nameR L R.adv).1,(kindR L (wantR L [58] (nameR L R.adv).2)).1,(exprF L (wantR L [61] (kindR L (wantR L [58] (nameR L R.adv).2)).2)).1,0,[],.tight,[],[],(tkF L R).pos⟩ (exprF L (wantR L [61] (kindR L (wantR L [58] (nameR L R.adv).2)).2)).2:=by simp [itmF,posF,h1]
  rw [ea] at hK
  simp [he,b0,b1,b4,b6,c1,Z1.g,Y1.g,d2,Y2.g,Y3.g,d4,Y4.g,d5,Y5.g,Y6.g,d7,Y7.g,d8,Y8.g,Y9.g,d10,Y10.g,Y10.z,hr9,f4,Ai.beq_refl]
  refine hK _ _ _ _ (.inl rfl) f1 f2 ⟨.tight,rfl,rfl,fun S=>rfl⟩ ⟨[_,_],?_,rfl⟩
  simp [a117,he,b4,f3,takeVar,finR,It.av,It.cs,strs]
 | false =>
 rw [h1] at c1
 rw [isR_stay h1] at Z1
 simp [he,b0,b1,c1]
 cases all with
 | false =>
  obtain ⟨_,_,_,f1,f2,f3,_⟩:=Z1.last
  have ea:itmF L false R=((⟨0,[],0,0,0,[],.tight,[],[],(tkF L R).pos⟩,false),R):=by simp [itmF,posF,h1]
  rw [ea] at hK
  simp [he,b0,b1,b4,b6,c1,Z1.g,Z1.z]
  refine hK _ _ _ (.tup [.agg [.int .i64 0,.str [],.int .i64 0,.int .i64 0,.int .i64 0,.lst 1 [] .tight,.str [],.str [],.int .i64 (tkF L R).pos],.bool false]) (.inl rfl) f1 f2 ⟨.tight,rfl,rfl,fun S=>rfl⟩ ⟨[.agg [.int .i64 0,.str [],.int .i64 0,.int .i64 0,.int .i64 0,.lst 1 [] .tight,.str [],.str [],.int .i64 (tkF L R).pos],.bool false],?_,rfl⟩
  simp [a117,he,b4,f3,takeVar]
 | true =>
 obtain ⟨s2,c2,Z2⟩:=Z1.call (took_does Z1.q [100,101,114])
 cases h2:isR L [100,101,114] R with
 | true =>
  rw [h2] at c2
  rw [isR_adv h2] at Z2
  have Y1:=Z2.seti 0 (.int .i64 2) rfl
  obtain ⟨u2,d2,Y2⟩:=Y1.call (name_does Y1.q)
  have Y3:=Y2.seti 1 (.str (nameR L R.adv).1) rfl
  obtain ⟨u4,d4,Y4⟩:=Y3.call (want_does Y3.q [61])
  obtain ⟨u5,d5,Y5⟩:=Y4.call (exprF_does Y4.q)
  have Y6:=Y5.seti 3 (.int .i64 (exprF L (wantR L [61] (nameR L R.adv).2)).1) rfl
  obtain ⟨u7,d7,Y7⟩:=Y6.call (want_does Y6.q [105,110,105,116])
  obtain ⟨u8,d8,Y8⟩:=Y7.call (exprF_does Y7.q)
  have Y9:=Y8.seti 4 (.int .i64 (exprF L (wantR L [105,110,105,116] (exprF L (wantR L [61] (nameR L R.adv).2)).2)).1) rfl
  obtain ⟨u10,d10,Y10⟩:=Y9.call (want_does Y9.q [59])
  dsimp only [List.set] at *
  obtain ⟨es9,o9,hr9,f1,f2,f3,f4⟩:=Y10.last
  have ea:itmF L true R=finR L ⟨2,(nameR L R.adv).1,0,(exprF L (wantR L [61] (nameR L R.adv).2)).1,(exprF L (wantR L [105,110,105,116] (exprF L (wantR L [61] (nameR L R.adv).2)).2)).1,[],.tight,[],[],(tkF L R).pos⟩ (exprF L (wantR L [105,110,105,116] (exprF L (wantR L [61] (nameR L R.adv).2)).2)).2:=by simp [itmF,posF,h1,h2]
  rw [ea] at hK
  simp [he,b0,b1,b4,b6,c2,Z2.g,Y1.g,d2,Y2.g,Y3.g,d4,Y4.g,d5,Y5.g,Y6.g,d7,Y7.g,d8,Y8.g,Y9.g,d10,Y10.g,Y10.z,hr9,f4,Ai.beq_refl]
  refine hK _ _ _ _ (.inl rfl) f1 f2 ⟨.tight,rfl,rfl,fun S=>rfl⟩ ⟨[_,_],?_,rfl⟩
  simp [a117,he,b4,f3,takeVar,finR,It.av,It.cs,strs]
 | false =>
 rw [h2] at c2
 rw [isR_stay h2] at Z2
 simp [he,b0,b1,c2]
 obtain ⟨s3,c3,Z3⟩:=Z2.call (took_does Z2.q [114,101,115,101,116])
 cases h3:isR L [114,101,115,101,116] R with
 | true =>
  rw [h3] at c3
  rw [isR_adv h3] at Z3
  have Y1:=Z3.seti 0 (.int .i64 3) rfl
  obtain ⟨u2,d2,Y2⟩:=Y1.call (name_does Y1.q)
  have Y3:=Y2.seti 1 (.str (nameR L R.adv).1) rfl
  obtain ⟨u4,d4,Y4⟩:=Y3.call (want_does Y3.q [111,110])
  obtain ⟨u5,d5,Y5⟩:=Y4.call (exprF_does Y4.q)
  have Y6:=Y5.seti 4 (.int .i64 (exprF L (wantR L [111,110] (nameR L R.adv).2)).1) rfl
  obtain ⟨u7,d7,Y7⟩:=Y6.call (want_does Y6.q [61])
  obtain ⟨u8,d8,Y8⟩:=Y7.call (exprF_does Y7.q)
  have Y9:=Y8.seti 3 (.int .i64 (exprF L (wantR L [61] (exprF L (wantR L [111,110] (nameR L R.adv).2)).2)).1) rfl
  obtain ⟨u10,d10,Y10⟩:=Y9.call (want_does Y9.q [59])
  dsimp only [List.set] at *
  obtain ⟨es9,o9,hr9,f1,f2,f3,f4⟩:=Y10.last
  have ea:itmF L true R=finR L ⟨3,(nameR L R.adv).1,0,(exprF L (wantR L [61] (exprF L (wantR L [111,110] (nameR L R.adv).2)).2)).1,(exprF L (wantR L [111,110] (nameR L R.adv).2)).1,[],.tight,[],[],(tkF L R).pos⟩ (exprF L (wantR L [61] (exprF L (wantR L [111,110] (nameR L R.adv).2)).2)).2:=by simp [itmF,posF,h1,h2,h3]
  rw [ea] at hK
  simp [he,b0,b1,b4,b6,c3,Z3.g,Y1.g,d2,Y2.g,Y3.g,d4,Y4.g,d5,Y5.g,Y6.g,d7,Y7.g,d8,Y8.g,Y9.g,d10,Y10.g,Y10.z,hr9,f4,Ai.beq_refl]
  refine hK _ _ _ _ (.inl rfl) f1 f2 ⟨.tight,rfl,rfl,fun S=>rfl⟩ ⟨[_,_],?_,rfl⟩
  simp [a117,he,b4,f3,takeVar,finR,It.av,It.cs,strs]
 | false =>
 rw [h3] at c3
 rw [isR_stay h3] at Z3
 simp [he,b0,b1,c3]
 obtain ⟨s4,c4,Z4⟩:=Z3.call (took_does Z3.q [109,101,109])
 cases h4:isR L [109,101,109] R with
 | true =>
  rw [h4] at c4
  rw [isR_adv h4] at Z4
  have Y1:=Z4.seti 0 (.int .i64 4) rfl
  obtain ⟨u2,d2,Y2⟩:=Y1.call (name_does Y1.q)
  have Y3:=Y2.seti 1 (.str (nameR L R.adv).1) rfl
  obtain ⟨u4,d4,Y4⟩:=Y3.call (want_does Y3.q [58])
  obtain ⟨u5,d5,Y5⟩:=Y4.call (kind_does Y4.q)
  have Y6:=Y5.seti 2 (.int .i64 (kindR L (wantR L [58] (nameR L R.adv).2)).1) rfl
  obtain ⟨u7,d7,Y7⟩:=Y6.call (want_does Y6.q [105,110,105,116])
  obtain ⟨u8,d8,Y8⟩:=Y7.call (exprF_does Y7.q)
  have Y9:=Y8.seti 3 (.int .i64 (exprF L (wantR L [105,110,105,116] (kindR L (wantR L [58] (nameR L R.adv).2)).2)).1) rfl
  obtain ⟨u10,d10,Y10⟩:=Y9.call (want_does Y9.q [59])
  dsimp only [List.set] at *
  obtain ⟨es9,o9,hr9,f1,f2,f3,f4⟩:=Y10.last
  have ea:itmF L true R=finR L ⟨4,(nameR L R.adv).1,(kindR L (wantR L [58] (nameR L R.adv).2)).1,(exprF L (wantR L [105,110,105,116] (kindR L (wantR L [58] (nameR L R.adv).2)).2)).1,0,[],.tight,[],[],(tkF L R).pos⟩ (exprF L (wantR L [105,110,105,116] (kindR L (wantR L [58] (nameR L R.adv).2)).2)).2:=by simp [itmF,posF,h1,h2,h3,h4]
  rw [ea] at hK
  simp [he,b0,b1,b4,b6,c4,Z4.g,Y1.g,d2,Y2.g,Y3.g,d4,Y4.g,d5,Y5.g,Y6.g,d7,Y7.g,d8,Y8.g,Y9.g,d10,Y10.g,Y10.z,hr9,f4,Ai.beq_refl]
  refine hK _ _ _ _ (.inl rfl) f1 f2 ⟨.tight,rfl,rfl,fun S=>rfl⟩ ⟨[_,_],?_,rfl⟩
  simp [a117,he,b4,f3,takeVar,finR,It.av,It.cs,strs]
 | false =>
 rw [h4] at c4
 rw [isR_stay h4] at Z4
 simp [he,b0,b1,c4]
 obtain ⟨s5,c5,Z5⟩:=Z4.call (took_does Z4.q [111,110])
 cases h5:isR L [111,110] R with
 | true =>
  rw [h5] at c5
  rw [isR_adv h5] at Z5
  have Y1:=Z5.seti 0 (.int .i64 5) rfl
  obtain ⟨u2,d2,Y2⟩:=Y1.call (exprF_does Y1.q)
  have Y3:=Y2.seti 4 (.int .i64 (exprF L R.adv).1) rfl
  obtain ⟨u4,d4,Y4⟩:=Y3.call (want_does Y3.q [115,101,116])
  obtain ⟨u5,d5,Y5⟩:=Y4.call (name_does Y4.q)
  have Y6:=Y5.seti 1 (.str (nameR L (wantR L [115,101,116] (exprF L R.adv).2)).1) rfl
  obtain ⟨u7,d7,Y7⟩:=Y6.call (want_does Y6.q [61])
  obtain ⟨u8,d8,Y8⟩:=Y7.call (exprF_does Y7.q)
  have Y9:=Y8.seti 3 (.int .i64 (exprF L (wantR L [61] (nameR L (wantR L [115,101,116] (exprF L R.adv).2)).2)).1) rfl
  obtain ⟨u10,d10,Y10⟩:=Y9.call (want_does Y9.q [59])
  dsimp only [List.set] at *
  obtain ⟨es9,o9,hr9,f1,f2,f3,f4⟩:=Y10.last
  have ea:itmF L true R=finR L ⟨5,(nameR L (wantR L [115,101,116] (exprF L R.adv).2)).1,0,(exprF L (wantR L [61] (nameR L (wantR L [115,101,116] (exprF L R.adv).2)).2)).1,(exprF L R.adv).1,[],.tight,[],[],(tkF L R).pos⟩ (exprF L (wantR L [61] (nameR L (wantR L [115,101,116] (exprF L R.adv).2)).2)).2:=by simp [itmF,posF,h1,h2,h3,h4,h5]
  rw [ea] at hK
  simp [he,b0,b1,b4,b6,c5,Z5.g,Y1.g,d2,Y2.g,Y3.g,d4,Y4.g,d5,Y5.g,Y6.g,d7,Y7.g,d8,Y8.g,Y9.g,d10,Y10.g,Y10.z,hr9,f4,Ai.beq_refl]
  refine hK _ _ _ _ (.inl rfl) f1 f2 ⟨.tight,rfl,rfl,fun S=>rfl⟩ ⟨[_,_],?_,rfl⟩
  simp [a117,he,b4,f3,takeVar,finR,It.av,It.cs,strs]
 | false =>
 rw [h5] at c5
 rw [isR_stay h5] at Z5
 simp [he,b0,b1,c5]
 obtain ⟨s6,c6,Z6⟩:=Z5.call (took_does Z5.q [109,111,100,101])
 cases h6:isR L [109,111,100,101] R with
 | true =>
  rw [h6] at c6
  rw [isR_adv h6] at Z6
  have Y1:=Z6.set [.int .i64 6,.str [],.int .i64 0,.int .i64 0,.int .i64 0,.lst 1 [] .tight,.str [],.str [],.int .i64 (tkF L R).pos] rfl
  obtain ⟨u2,d2,Y2⟩:=Y1.call (name_does Y1.q)
  generalize hn:nameR L R.adv=N1 at *
  have Y3:=Y2.set [.int .i64 6,.str N1.1,.int .i64 0,.int .i64 0,.int .i64 0,.lst 1 [] .tight,.str [],.str [],.int .i64 (tkF L R).pos] rfl
  obtain ⟨u4,d4,Y4⟩:=Y3.call (want_does Y3.q [123])
  obtain ⟨u5,d5,Y5⟩:=Y4.call (name_does Y4.q)
  have hlt5:=Y5.q.lt
  generalize hn2:nameR L (wantR L [123] N1.2)=N2 at *
  obtain ⟨ap6,u6,d6,o6,Y6⟩:=Y5.push (l:=[]) (x:=.str N2.1) (ap0:=.tight) (ap:=.tight) (m:=1) (ty:=some 9) (bytes:=16) .nil (.inl (by decide)) (by simp) (by decide)
  have Y7:=Y6.set [.int .i64 6,.str N1.1,.int .i64 0,.int .i64 0,.int .i64 0,.lst 1 (strs [N2.1]) ap6,.str [],.str [],.int .i64 (tkF L R).pos] (by have:=own_low o6.weak (es:=[AV.str N2.1]) rfl;simp only [AV.lowsB,strs,List.map_cons,List.map_nil,this];rfl)
  have o7:=Y6.own (o:=.cells none [.int .i64 6,.str N1.1,.int .i64 0,.int .i64 0,.int .i64 0,.lst 1 (strs [N2.1]) ap6,.str [],.str [],.int .i64 (tkF L R).pos]) o6
  simp only [strs,List.map_cons,List.map_nil] at Y7 o7
  simp [he,b0,b1,b4,b6,c6,Z6.g,Y1.g,d2,Y2.g,Y3.g,d4,Y4.g,d5,Y5.g,d6,Y6.g,Ai.beq_refl]
  generalize hEv:(List.set _ 135 _:Env)=E2
  have he2:E2.length=191:=by subst hEv;simp [he]
  have b0:AX.ev E2 (.t 0)=.ptr r 0:=by subst hEv;simp [he,b0]
  have b4:AX.ev E2 (.t 4)=.ptr s.length 0:=by subst hEv;simp [he,b4]
  have b6:AX.ev E2 (.t 6)=.ptr (s.length+1) 0:=by subst hEv;simp [he,b6]
  clear hEv
  obtain ⟨Q,hq⟩:∃Q,stsF L L.length [N2.1] N2.2=Q:=⟨_,rfl⟩
  have ea:itmF L true R=finR L ⟨6,N1.1,0,0,0,Q.1,.no,[],[],(tkF L R).pos⟩ (wantR L [125] Q.2):=by simp [itmF,posF,h1,h2,h3,h4,h5,h6,hn,hn2,hq]
  rw [ea] at hK
  have hi1:1≤N2.2.i:=by
   have a1:=(Step.name (L:=L) (R:=R.adv)).i
   have a2:=(Step.want (L:=L) (w:=[123]) (R:=N1.2)).i
   have a3:=(Step.name (L:=L) (R:=wantR L [123] N1.2)).i
   rw [hn] at a1
   rw [hn2] at a3
   simp [Rd.adv] at a1;omega
  refine aw_loop (W:=w117_0) rfl (fun m e ds sx=>ds=[]∧∃l Rx ap,stsF L m l Rx=Q∧L.length≤m+Rx.i∧l.length≤Rx.i∧l≠[]∧Cel n r L dv s.length s.length (s.length+1) s [.int .i64 0,.str [],.int .i64 0,.int .i64 0,.int .i64 0,.lst 1 [] .tight,.str [],.str [],.int .i64 0] sx Rx [.int .i64 6,.str N1.1,.int .i64 0,.int .i64 0,.int .i64 0,.lst 1 (strs l) ap,.str [],.str [],.int .i64 (tkF L R).pos]∧Own sx s.length 1 (some 9) ap (strs l).length) L.length
   ⟨rfl,[N2.1],N2.2,ap6,hq,by omega,by simpa using hi1,by simp,by simpa [strs] using Y7,by simpa [strs] using o7⟩ ?_
  clear hq ea hi1 o7 o6 Y7 Y6 Y5 Y4 Y3 Y2 Y1 d2 d4 d5 d6 c6 Z6 Z5 Z4 Z3 Z2 Z1 Z0 ap6
  rintro m e1 ds sx hs ⟨rfl,l,Rx,ap,hq,hm,hll,hne,Y,ox⟩ K1 kn kx
  have he1:e1.length=191:=by simp [hs.1,he2]
  have b0:=hs.ev 0 rfl b0
  have b4:=hs.ev 4 rfl b4
  have b6:=hs.ev 6 rfl b6
  obtain ⟨u1,d1,q1,k1⟩:=took_does Y.q [44]
  obtain ⟨es0,p0,hr0,_⟩:=Y.q.cell
  have o1:=k1.own ox (.inl (by decide)) hr0
  have Y1:=Y.to q1 k1
  have hlx:=Y.q.lt
  have htl:=Y.q.tk.len
  cases hc:isR L [44] Rx with
  | true =>
   rw [hc] at d1
   rw [isR_adv hc] at Y1
   cases m with
   | zero=>omega
   | succ m =>
   rw [stsF,if_pos hc] at hq
   obtain ⟨u2,d2,q2,k2⟩:=name_does Y1.q
   have Sn:=(Step.name (L:=L) (R:=Rx.adv)).i
   obtain ⟨es1,p1,hr1,_⟩:=Y1.q.cell
   have o2:=k2.own o1 (.inl (by decide)) hr1
   have Y2:=Y1.to q2 k2
   generalize nameR L Rx.adv=N3 at *
   obtain ⟨ap3,u3,d3,o3,Y3⟩:=Y2.push (l:=strs l) (x:=.str N3.1) (ap0:=.tight) (ap:=ap) (m:=1) (ty:=some 9) (bytes:=16) o2 (.inl (by decide)) (by rw [strs_length];omega) (by decide)
   have es:strs l++[.str N3.1]=strs (l++[N3.1]):=by simp [strs]
   rw [es] at o3
   have lws:AV.lowsB u3.length (strs (l++[N3.1]))=true:=lows_all fun x hx=>by obtain ⟨i,_,rfl⟩:=List.mem_map.1 hx;rfl
   have Y4:=Y3.set [.int .i64 6,.str N1.1,.int .i64 0,.int .i64 0,.int .i64 0,.lst 1 (strs (l++[N3.1])) ap3,.str [],.str [],.int .i64 (tkF L R).pos] (by have:=own_low o3.weak lws;simp only [AV.lowsB,this];rfl)
   have o4:=Y3.own (o:=.cells none [.int .i64 6,.str N1.1,.int .i64 0,.int .i64 0,.int .i64 0,.lst 1 (strs (l++[N3.1])) ap3,.str [],.str [],.int .i64 (tkF L R).pos]) o3
   rw [es] at d3
   simp [a117_0,b0,b6,he1,d1,Y1.g,d2,Y2.g,d3,Y3.g,Ai.beq_refl]
   exact kn m _ _ _ (by omega) ⟨rfl,_,_,ap3,hq,by simp [Rd.adv] at *;omega,by simp [Rd.adv] at *;omega,by simp,Y4,o4⟩
  | false =>
   rw [hc] at d1
   rw [isR_stay hc] at Y1
   rw [stsF_end hc] at hq
   subst hq
   obtain ⟨u2,d2,q2,k2⟩:=want_does Y1.q [125]
   obtain ⟨es1,p1,hr1,_⟩:=Y1.q.cell
   have o2:=k2.own o1 (.inl (by decide)) hr1
   have Y2:=Y1.to q2 k2
   obtain ⟨u3,d3,q3,k3⟩:=want_does Y2.q [59]
   obtain ⟨es2,p2,hr2,_⟩:=Y2.q.cell
   have o3:=k3.own o2 (.inl (by decide)) hr2
   have Y3:=Y2.to q3 k3
   obtain ⟨es9,o9,hr9,f1,f2,f3,f4⟩:=Y3.last
   have lws:AV.lowsB u3.length (strs l)=true:=lows_all fun x hx=>by obtain ⟨i,_,rfl⟩:=List.mem_map.1 hx;rfl
   have lwl:=own_low o3.weak lws
   have lst:∀S,AV.still n S (.lst 1 (strs l) ap)=some (.lst 1 (strs l) .no):=fun S=>by
    have:=own_stl o3 hnl (S:=S) (es:=strs l) (es':=strs l) (stills_of fun x hx=>by obtain ⟨i,_,rfl⟩:=List.mem_map.1 hx;rfl)
    rw [this,endAp,if_neg (by rw [strs_length];simpa using hne)]
   simp [a117_0,b0,he1,d1]
   refine kx _ _ _ _ nofun fun hs'=>?_
   simp [he1,b0,b4,b6,d2,d3,Y3.g,Y3.z,hr9,f4,Ai.beq_refl]
   refine hK _ _ _ (.tup [.agg [.int .i64 6,.str N1.1,.int .i64 0,.int .i64 0,.int .i64 0,.lst 1 (strs l) ap,.str [],.str [],.int .i64 (tkF L R).pos],.bool (decide ((wantR L [59] (wantR L [125] Rx)).c=0))]) (.inl rfl) f1 f2 ⟨ap,rfl,?_,lst⟩ ⟨[.agg [.int .i64 6,.str N1.1,.int .i64 0,.int .i64 0,.int .i64 0,.lst 1 (strs l) ap,.str [],.str [],.int .i64 (tkF L R).pos],.bool (decide ((wantR L [59] (wantR L [125] Rx)).c=0))],?_,rfl⟩
   ·rw [List.length_set];exact lwl
   ·simp [a117,he1,b4,f3,takeVar]
 | false =>
 rw [h6] at c6
 rw [isR_stay h6] at Z6
 simp [he,b0,b1,c6]
 obtain ⟨s7,c7,Z7⟩:=Z6.call (took_does Z6.q [102,114,111,109])
 cases h7:isR L [102,114,111,109] R with
 | true =>
  rw [h7] at c7
  rw [isR_adv h7] at Z7
  have Y1:=Z7.seti 0 (.int .i64 7) rfl
  obtain ⟨u2,d2,Y2⟩:=Y1.call (name_does Y1.q)
  have Y3:=Y2.seti 1 (.str (nameR L R.adv).1) rfl
  obtain ⟨u4,d4,Y4⟩:=Y3.call (want_does Y3.q [46])
  obtain ⟨u5,d5,Y5⟩:=Y4.call (name_does Y4.q)
  have Y6:=Y5.seti 6 (.str (nameR L (wantR L [46] (nameR L R.adv).2)).1) rfl
  obtain ⟨u7,d7,Y7⟩:=Y6.call (want_does Y6.q [111,110])
  obtain ⟨u8,d8,Y8⟩:=Y7.call (exprF_does Y7.q)
  have Y9:=Y8.seti 4 (.int .i64 (exprF L (wantR L [111,110] (nameR L (wantR L [46] (nameR L R.adv).2)).2)).1) rfl
  obtain ⟨u10,d10,Y10⟩:=Y9.call (want_does Y9.q [103,111,116,111])
  obtain ⟨u11,d11,Y11⟩:=Y10.call (name_does Y10.q)
  have Y12:=Y11.seti 7 (.str (nameR L (wantR L [103,111,116,111] (exprF L (wantR L [111,110] (nameR L (wantR L [46] (nameR L R.adv).2)).2)).2)).1) rfl
  obtain ⟨u13,d13,Y13⟩:=Y12.call (want_does Y12.q [59])
  dsimp only [List.set] at *
  obtain ⟨es9,o9,hr9,f1,f2,f3,f4⟩:=Y13.last
  have ea:itmF L true R=finR L ⟨7,(nameR L R.adv).1,0,0,(exprF L (wantR L [111,110] (nameR L (wantR L [46] (nameR L R.adv).2)).2)).1,[],.tight,(nameR L (wantR L [46] (nameR L R.adv).2)).1,(nameR L (wantR L [103,111,116,111] (exprF L (wantR L [111,110] (nameR L (wantR L [46] (nameR L R.adv).2)).2)).2)).1,(tkF L R).pos⟩ (nameR L (wantR L [103,111,116,111] (exprF L (wantR L [111,110] (nameR L (wantR L [46] (nameR L R.adv).2)).2)).2)).2:=by simp [itmF,posF,h1,h2,h3,h4,h5,h6,h7]
  rw [ea] at hK
  simp [he,b0,b1,b4,b6,c7,Z7.g,Y1.g,d2,Y2.g,Y3.g,d4,Y4.g,d5,Y5.g,Y6.g,d7,Y7.g,d8,Y8.g,Y9.g,d10,Y10.g,d11,Y11.g,Y12.g,d13,Y13.g,Y13.z,hr9,f4,Ai.beq_refl]
  refine hK _ _ _ _ (.inl rfl) f1 f2 ⟨.tight,rfl,rfl,fun S=>rfl⟩ ⟨[_,_],?_,rfl⟩
  simp [a117,he,b4,f3,takeVar,finR,It.av,It.cs,strs]
 | false =>
 rw [h7] at c7
 rw [isR_stay h7] at Z7
 simp [he,b0,b1,c7]
 obtain ⟨s8,c8,Z8⟩:=Z7.call (took_does Z7.q [111,117,116])
 cases h8:isR L [111,117,116] R with
 | true =>
  rw [h8] at c8
  rw [isR_adv h8] at Z8
  have Y1:=Z8.seti 0 (.int .i64 8) rfl
  obtain ⟨u2,d2,Y2⟩:=Y1.call (name_does Y1.q)
  have Y3:=Y2.seti 1 (.str (nameR L R.adv).1) rfl
  obtain ⟨u4,d4,Y4⟩:=Y3.call (want_does Y3.q [59])
  dsimp only [List.set] at *
  obtain ⟨es9,o9,hr9,f1,f2,f3,f4⟩:=Y4.last
  have ea:itmF L true R=finR L ⟨8,(nameR L R.adv).1,0,0,0,[],.tight,[],[],(tkF L R).pos⟩ (nameR L R.adv).2:=by simp [itmF,posF,h1,h2,h3,h4,h5,h6,h7,h8]
  rw [ea] at hK
  simp [he,b0,b1,b4,b6,c8,Z8.g,Y1.g,d2,Y2.g,Y3.g,d4,Y4.g,Y4.z,hr9,f4,Ai.beq_refl]
  refine hK _ _ _ _ (.inl rfl) f1 f2 ⟨.tight,rfl,rfl,fun S=>rfl⟩ ⟨[_,_],?_,rfl⟩
  simp [a117,he,b4,f3,takeVar,finR,It.av,It.cs,strs]
 | false =>
 rw [h8] at c8
 rw [isR_stay h8] at Z8
 simp [he,b0,b1,c8]
 obtain ⟨_,_,_,f1,f2,f3,_⟩:=Z8.last
 have ea:itmF L true R=((⟨0,[],0,0,0,[],.tight,[],[],(tkF L R).pos⟩,false),R):=by simp [itmF,posF,h1,h2,h3,h4,h5,h6,h7,h8]
 rw [ea] at hK
 simp [he,b0,b1,b4,b6,Z8.g,Z8.z]
 refine hK _ _ _ (.tup [.agg [.int .i64 0,.str [],.int .i64 0,.int .i64 0,.int .i64 0,.lst 1 [] .tight,.str [],.str [],.int .i64 (tkF L R).pos],.bool false]) (.inl rfl) f1 f2 ⟨.tight,rfl,rfl,fun S=>rfl⟩ ⟨[.agg [.int .i64 0,.str [],.int .i64 0,.int .i64 0,.int .i64 0,.lst 1 [] .tight,.str [],.str [],.int .i64 (tkF L R).pos],.bool false],?_,rfl⟩
 simp [a117,he,b4,f3,takeVar]
end
end Go.Proofs.YtgkhmmlemgikjaaGreatDoor
namespace Go.Proofs.YtgkhmmlemgikjaaGreatDoor
open Go Ai
theorem fn77:A.fn 77=some a77:=by kernel_rfl
theorem prim77:A.prim 77=none:=by kernel_rfl
def w77_0:List Nat:=a77_0.writes
theorem fn43:A.fn 43=some a43:=by kernel_rfl
theorem prim43:A.prim 43=none:=by kernel_rfl
theorem Step.fin {L:List Tk} {x:It} {R0 R:Rd} (h:Step R0 R):Step R0 (finR L x R).2:=h.trans .want
theorem Step.sts {L:List Tk}:∀(m:Nat) (l:List Sx) (R:Rd),Step R (stsF L m l R).2
 | 0,_,_=>.refl
 | m+1,l,R=>by
  rw [stsF];split
  ·exact (Step.adv.trans .name).trans (Step.sts m _ _)
  ·exact .refl
theorem Step.item {L:List Tk} {all:Bool} {R:Rd}:(itmF L all R).1.2=false∧(itmF L all R).2=R∨Step R.adv (itmF L all R).2:=by
 have E:=Step.exprF (L:=L)
 have W:∀w (R:Rd),Step R (wantR L w R):=fun _ _=>.want
 have N:∀R:Rd,Step R (nameR L R).2:=fun _=>.name
 have T:∀R:Rd,Step R (kindR L R).2:=fun _=>.kind
 unfold itmF
 simp only []
 split
 ·exact .inr (.fin ((((N _).trans (W _ _)).trans (T _)).trans ((W _ _).trans (E _))))
 split
 ·exact .inr (.fin ((((N _).trans (W _ _)).trans (E _)).trans ((W _ _).trans (E _))))
 split
 ·exact .inr (.fin ((((N _).trans (W _ _)).trans (E _)).trans ((W _ _).trans (E _))))
 split
 ·exact .inr (.fin ((((N _).trans (W _ _)).trans (T _)).trans ((W _ _).trans (E _))))
 split
 ·exact .inr (.fin ((((E _).trans (W _ _)).trans (N _)).trans ((W _ _).trans (E _))))
 split
 ·exact .inr (.fin ((((N _).trans (W _ _)).trans (N _)).trans ((Step.sts _ _ _).trans (W _ _))))
 split
 ·exact .inr (.fin ((((N _).trans (W _ _)).trans (N _)).trans (((W _ _).trans (E _)).trans ((W _ _).trans (N _)))))
 split
 ·exact .inr (.fin (N _))
 ·exact .inl ⟨rfl,rfl⟩
def ItsP (n b:Nat) (l:List It) (s:St) (V:AV):Prop:=∃es ap,V=.lst 9 es ap∧Own s b 9 (some 36) ap es.length∧es.length=l.length∧AV.lowsB s.length es=true∧∀S,AV.stills n S es=some (l.map It.av)
section
variable {n r:Nat} {L:List Tk} {dv:AV} {s:St} {R:Rd}
theorem itsF_end (h:R.c≠0) {all:Bool} {l:List It}:∀m,itsF L all m l R=(l,R)
 | 0=>rfl
 | m+1=>by rw [itsF,if_neg h]
theorem it_low {k:Nat} {x:It} (h:AV.lowB k (.lst 1 (strs x.ss) x.ap)=true):AV.lowB k x.av=true:=by
 simp only [It.av,It.cs]
 generalize AV.lst 1 (strs x.ss) x.ap=V at *
 simp [AV.lowB,AV.lowsB,h]
theorem it_still {S:St} {x:It} {ap:Ap} (h:AV.still n S (.lst 1 (strs x.ss) x.ap)=some (.lst 1 (strs x.ss) ap)):AV.still n S x.av=some (It.av { x with ap:=ap }):=by
 simp only [It.av,It.cs]
 generalize AV.lst 1 (strs x.ss) x.ap=V at *
 generalize AV.lst 1 (strs x.ss) ap=W at *
 simp [AV.still,AV.stills,h]
theorem items_does (q:RdOk n r L dv 0 s R) (all:Bool):DoesV n r L dv 77 [.bool all] s (itsF L all L.length [] R).2 (ItsP n s.length (itsF L all L.length [] R).1):=by
 have hnl:n≤s.length:=by have:=q.le;have:=q.len;omega
 have hrl:=q.len
 refine doesv_of (N:=28) prim77 fn77 rfl rfl ?_
 intro e he ha K hK
 have a0:=ha 0
 have a1:=ha 1
 clear ha
 simp at a0 a1
 simp [a77,he,a0,a1]
 generalize hEv:(List.set _ 5 _:Env)=Ev
 have heE:Ev.length=28:=by subst hEv;simp [he]
 have b0:AX.ev Ev (.t 0)=.ptr r 0:=by subst hEv;simp [he,a0]
 have b1:AX.ev Ev (.t 1)=.bool all:=by subst hEv;simp [he,a1]
 have b5:AX.ev Ev (.t 5)=.lst 9 [] .tight:=by subst hEv;simp [he]
 clear hEv he a0 a1
 generalize hq:itsF L all L.length [] R=Q at hK
 refine aw_loop (W:=w77_0) rfl (fun m e ds sx=>ds=[]∧∃l Rx es ap,itsF L all m l Rx=Q∧(Rx.c=0→L.length≤m+Rx.i)∧l.length≤Rx.i∧RdOk n r L dv 0 sx Rx∧Keep n r s sx∧Own sx s.length 9 (some 36) ap es.length∧es.length=l.length∧AV.lowsB sx.length es=true∧(∀S,AV.stills n S es=some (l.map It.av))∧AX.ev e (.t 5)=.lst 9 es ap) L.length
  ⟨rfl,[],R,[],.tight,hq,by omega,by simp,q,.refl,.nil,rfl,rfl,fun _=>rfl,b5⟩ ?_
 clear hq b5
 rintro m e1 ds sx hs ⟨rfl,l,Rx,es,ap,hq,hm,hll,qx,kx',ox,hel,hlow,hst,b5⟩ K1 kn kx
 have he1:e1.length=28:=by simp [hs.1,heE]
 have b0:=hs.ev 0 rfl b0
 have b1:=hs.ev 1 rfl b1
 obtain ⟨xs,o,hr,_⟩:=qx.cell
 have hr0:=hr
 simp only [rdCs] at hr
 by_cases hc:Rx.c=0
 ·have hm:=hm hc
  have hlt:=qx.lt
  have htl:=qx.tk.len
  cases m with
  | zero=>omega
  | succ m =>
  rw [itsF,if_pos hc] at hq
  simp only [] at hq
  obtain ⟨V,s1,c1,q1,k1,ap1,rfl,lw1,st1⟩:=item_does qx all
  have Si:=Step.item (L:=L) (all:=all) (R:=Rx)
  have o1:=k1.own ox (.inr (by decide)) hr0
  generalize itmF L all Rx=X at *
  obtain ⟨⟨x,ok⟩,R1⟩:=X
  simp only [] at hq c1 q1 lw1 st1 Si
  have hlx:AV.lowB s1.length (It.av { x with ap:=ap1 })=true:=it_low lw1
  have hsx:∀S,AV.still n S (It.av { x with ap:=ap1 })=some x.av:=fun S=>it_still (x:={ x with ap:=ap1 }) (st1 S)
  have lwc:AObj.lowB (s1.length+1) (.cells none (It.cs { x with ap:=ap1 }))=true:=AObj.low_le (Nat.le_succ _) _ hlx
  have q2:=q1.app lwc
  have k2:Keep n r s1 (s1++[.cells none (It.cs { x with ap:=ap1 })]):=.app (by have:=q1.le;have:=q1.len;omega) lwc
  have o2:=o1.snoc (o:=.cells none (It.cs { x with ap:=ap1 }))
  simp only [It.av,It.cs] at c1
  cases hok:ok with
  | false =>
   rw [hok] at c1
   rw [if_neg (by simp [hok])] at hq
   subst hq
   simp [a77_0,b0,b1,b5,he1,hr,hc,c1]
   refine kx _ _ _ _ nofun fun hs'=>?_
   simp
   exact hK _ _ _ (.lst 9 es ap) (.inl rfl) q2 (kx'.trans (k1.trans k2)) ⟨es,ap,rfl,o2,hel,AV.lows_le (by have:=k1.g.len;simp;omega) _ hlow,hst⟩ ⟨_,rfl,by simp [he1]⟩
  | true =>
   rw [hok] at c1
   rw [if_pos (by simp [hok])] at hq
   have hi1:Rx.i+1≤R1.i:=by
    rcases Si with ⟨h,_⟩ | h
    ·rw [hok] at h;cases h
    ·have:=h.i;simpa [Rd.adv] using this
   obtain ⟨ap',s3,p3,o3,q3,k3,l3,_⟩:=q2.push (l:=es) (x:=It.av { x with ap:=ap1 }) (ap0:=.tight) (ap:=ap) (m:=9) (ty:=some 36) (bytes:=112) (kx'.trans (k1.trans k2)) o2 (.inr (by decide)) hnl (by omega) (by decide)
   have l1:=k1.g.len
   have l2:=k2.g.len
   simp only [It.av,It.cs] at p3
   simp [a77_0,b0,b1,b5,he1,hr,hc,c1,p3]
   refine kn m _ _ _ (by omega) ⟨rfl,_,R1,_,ap',hq,fun _=>by omega,by simp;omega,q3,k3,o3,by simp [hel],?_,fun S=>?_,by simp [he1,It.av,It.cs]⟩
   ·exact lows_append (AV.lows_le (by omega) _ hlow) (by simp only [AV.lowsB,Bool.and_true];exact AV.low_le (by omega) _ hlx)
   ·have:=stills_app (hst S) (b:=[It.av { x with ap:=ap1 }]) (b':=[x.av]) (by simp only [AV.stills,hsx S])
    simpa using this
 ·rw [itsF_end hc] at hq
  subst hq
  simp [a77_0,b0,b5,he1,hr,hc]
  refine kx _ _ _ _ nofun fun hs'=>?_
  simp [he1,b5]
  exact hK _ _ _ (.lst 9 es ap) (.inl rfl) qx kx' ⟨es,ap,rfl,ox,hel,hlow,hst⟩ ⟨_,rfl,by simp [he1]⟩
end
section
variable {n r:Nat} {L:List Tk} {dv:AV} {b c0 c:Nat} {s0:St} {Z:List AV} {s:St} {R:Rd} {cs:List AV}
def DcP (n:Nat) (d:Dc) (s:St) (V:AV):Prop:=∃l1 ap1 l2 ap2,V=.agg [.int .i64 d.k,.str d.n,.lst 2 l1 ap1,.lst 9 l2 ap2,.int .i64 d.t,.int .i64 d.e,.int .i64 d.p]∧AV.lowB s.length V=true ∧
 (∀S,AV.still n S (.lst 2 l1 ap1)=some (.lst 2 (d.ps.map Pm.av) d.pap))∧∀S,AV.still n S (.lst 9 l2 ap2)=some (.lst 9 (d.its.map It.av) d.iap)
theorem Cel.fin (h:Cel n r L dv b c0 c s0 Z s R cs):RdOk n r L dv 0 (s.set c0 (.cells none cs)) R∧Keep n r s0 (s.set c0 (.cells none cs))∧AV.lowB s.length (.agg cs)=true :=
 have lw:=h.q.ok.get h.g
 ⟨h.q.setc h.z h.nz lw,h.k.setc (h.bs▸h.bn) (h.bs▸h.hz) lw,lw⟩
theorem Cel.nle (h:Cel n r L dv b c0 c s0 Z s R cs):n≤s.length:=by have:=h.q.le;have:=h.q.len;omega
theorem pms_stl {m k:Nat} {t:St} {ap:Ap} {l:List Pm} (h:Own t m 2 (some 77) ap (l.map Pm.av).length) (hn:n≤m) (S:St):AV.still n S (.lst 2 (l.map Pm.av) ap)=some (.lst 2 (l.map Pm.av) (endAp l.length)):=by
 have:=own_stl h hn (S:=S) (es:=l.map Pm.av) (es':=l.map Pm.av) (stills_of fun x hx=>by obtain ⟨i,_,rfl⟩:=List.mem_map.1 hx;rfl)
 simpa using this
theorem its_stl {m:Nat} {t:St} {ap:Ap} {es:List AV} {l:List It} (h:Own t m 9 (some 36) ap es.length) (hn:n≤m) (hl:es.length=l.length) (hs:∀S,AV.stills n S es=some (l.map It.av)) (S:St):AV.still n S (.lst 9 es ap)=some (.lst 9 (l.map It.av) (endAp l.length)):=by
 have:=own_stl h hn (hs S)
 rwa [hl] at this
end
section
variable {n r:Nat} {L:List Tk} {dv:AV} {s:St} {R:Rd}
set_option maxHeartbeats 1000000 in
theorem decl_does (q:RdOk n r L dv 0 s R):DoesV n r L dv 43 [] s (dclF L R).2 (DcP n (dclF L R).1):=by
 obtain ⟨es,o,hr,_⟩:=q.cell
 simp only [rdCs] at hr
 have hg:=q.get
 have hnl:n≤s.length:=by have:=q.le;have:=q.len;omega
 have hrl:=q.len
 have hr1:∀x y:AObj,(s++[x,y])[r]?=some (.cells none [.lst 4 (L.map Lx.Tok.av) .no,.int .i64 R.i,dv,.lst 9 es o,.int .i64 ↑(0:Nat),.int .i64 R.c,.int .i64 R.b]):=fun x y=>by rw [List.getElem?_append_left q.len];exact hr
 refine doesv_of (N:=73) prim43 fn43 rfl rfl ?_
 intro e he ha K hK
 have a0:=ha 0
 clear ha
 simp at a0
 simp [a43,he,a0,hr,hr1,hg,Lx.Tok.av,Ai.beq_refl]
 generalize hEv:(List.set _ 16 _:Env)=Ev
 have heE:Ev.length=73:=by subst hEv;simp [he]
 have b0:AX.ev Ev (.t 0)=.ptr r 0:=by subst hEv;simp [he,a0]
 have b2:AX.ev Ev (.t 2)=.ptr s.length 0:=by subst hEv;simp [he]
 have b3:AX.ev Ev (.t 3)=.ptr (s.length+1) 0:=by subst hEv;simp [he]
 clear hEv he a0
 replace he:=heE
 have Z0:Cel n r L dv s.length s.length (s.length+1) s [.int .i64 0,.str [],.lst 2 [] .tight,.lst 9 [] .tight,.int .i64 0,.int .i64 0,.int .i64 0] (s++[.cells none [.int .i64 0,.str [],.lst 2 [] .tight,.lst 9 [] .tight,.int .i64 0,.int .i64 0,.int .i64 0],.cells none [.int .i64 0,.str [],.lst 2 [] .tight,.lst 9 [] .tight,.int .i64 0,.int .i64 0,.int .i64 (tkF L R).pos]]) R [.int .i64 0,.str [],.lst 2 [] .tight,.lst 9 [] .tight,.int .i64 0,.int .i64 0,.int .i64 (tkF L R).pos]:=by
  have q1:=q.app (o:=.cells none [.int .i64 0,.str [],.lst 2 [] .tight,.lst 9 [] .tight,.int .i64 0,.int .i64 0,.int .i64 0]) rfl
  have q2:=q1.app (o:=.cells none [.int .i64 0,.str [],.lst 2 [] .tight,.lst 9 [] .tight,.int .i64 0,.int .i64 0,.int .i64 (tkF L R).pos]) rfl
  rw [List.append_assoc] at q2
  refine ⟨q2,?_,by simp,by simp,hnl,rfl,by omega,by omega,by omega,by omega,by omega⟩
  have:=(Keep.app (r:=r) (o:=.cells none [.int .i64 0,.str [],.lst 2 [] .tight,.lst 9 [] .tight,.int .i64 0,.int .i64 0,.int .i64 0]) hnl rfl).trans (Keep.app (o:=.cells none [.int .i64 0,.str [],.lst 2 [] .tight,.lst 9 [] .tight,.int .i64 0,.int .i64 0,.int .i64 (tkF L R).pos]) (by simp;omega) rfl)
  rwa [List.append_assoc] at this
 generalize hS0:(s++[_,_]:St)=s00 at Z0 ⊢
 clear hS0 hr1 hr hg
 obtain ⟨s1,c1,Z1⟩:=Z0.call (took_does Z0.q [102,117,110])
 cases h1:isR L [102,117,110] R with
 | true =>
  rw [h1] at c1
  rw [isR_adv h1] at Z1
  have ea:dclF L R=declB L 1 (posF L R) R.adv:=by simp [dclF,h1]
  rw [ea] at hK
  generalize R.adv=R1 at *
  have Y1:=Z1.seti 0 (.int .i64 1) rfl
  obtain ⟨s2,c2,Y2⟩:=Y1.call (name_does Y1.q)
  have Y3:=Y2.seti 1 (.str (nameR L R1).1) rfl
  obtain ⟨_,s4,c4,q4,k4,ap4,rfl,o4⟩:=params_does Y3.q
  have Y4:=Y3.to q4 k4
  have w4:=own_low o4.weak (pms_low (k:=s4.length) (paramsF L (nameR L R1).2).1)
  have f4:=pms_stl (k:=0) o4 Y3.nle
  have Y5:=Y4.seti 2 _ w4
  obtain ⟨s6,c6,Y6⟩:=Y5.call (want_does Y5.q [58])
  obtain ⟨s7,c7,Y7⟩:=Y6.call (kind_does Y6.q)
  have Y8:=Y7.seti 4 (.int .i64 (kindR L (wantR L [58] (paramsF L (nameR L R1).2).2)).1) rfl
  obtain ⟨s9,c9,Y9⟩:=Y8.call (want_does Y8.q [61])
  obtain ⟨s10,c10,Y10⟩:=Y9.call (exprF_does Y9.q)
  have Y11:=Y10.seti 5 (.int .i64 (exprF L (wantR L [61] (kindR L (wantR L [58] (paramsF L (nameR L R1).2).2)).2)).1) rfl
  obtain ⟨s12,c12,Y12⟩:=Y11.call (want_does Y11.q [59])
  dsimp only [List.set] at *
  obtain ⟨f1,f2,f3⟩:=Y12.fin
  have lz:=(List.getElem?_eq_some_iff.1 Y12.z).1
  simp [he,b0,b2,b3,c1,Z1.g,Y1.g,c2,Y2.g,Y3.g,c4,Y4.g,Y5.g,c6,Y6.g,c7,Y7.g,Y8.g,c9,Y9.g,c10,Y10.g,Y11.g,c12,Y12.g,Y12.z]
  refine hK _ _ _ (.agg [.int .i64 1,.str (nameR L R1).1,.lst 2 ((paramsF L (nameR L R1).2).1.map Pm.av) ap4,.lst 9 [] .tight,.int .i64 (kindR L (wantR L [58] (paramsF L (nameR L R1).2).2)).1,.int .i64 (exprF L (wantR L [61] (kindR L (wantR L [58] (paramsF L (nameR L R1).2).2)).2)).1,.int .i64 (tkF L R).pos]) (.inl rfl) (by simpa [declB] using f1) f2 ⟨_,ap4,_,.tight,rfl,by rw [List.length_set];exact f3,by simpa [declB] using f4,fun S=>rfl⟩ ⟨[.agg [.int .i64 1,.str (nameR L R1).1,.lst 2 ((paramsF L (nameR L R1).2).1.map Pm.av) ap4,.lst 9 [] .tight,.int .i64 (kindR L (wantR L [58] (paramsF L (nameR L R1).2).2)).1,.int .i64 (exprF L (wantR L [61] (kindR L (wantR L [58] (paramsF L (nameR L R1).2).2)).2)).1,.int .i64 (tkF L R).pos]],?_,rfl⟩
  simp [a43,he,b2,lz,takeVar]
 | false =>
 rw [h1] at c1
 rw [isR_stay h1] at Z1
 obtain ⟨s2,c2,Z2⟩:=Z1.call (took_does Z1.q [110,111,100,101])
 cases h2:isR L [110,111,100,101] R with
 | true =>
  rw [h2] at c2
  rw [isR_adv h2] at Z2
  have ea:dclF L R=declB L 2 (posF L R) R.adv:=by simp [dclF,h1,h2]
  rw [ea] at hK
  generalize R.adv=R1 at *
  have Y1:=Z2.seti 0 (.int .i64 2) rfl
  obtain ⟨s3,c3,Y2⟩:=Y1.call (name_does Y1.q)
  have Y3:=Y2.seti 1 (.str (nameR L R1).1) rfl
  obtain ⟨_,s4,c4,q4,k4,ap4,rfl,o4⟩:=params_does Y3.q
  have Y4:=Y3.to q4 k4
  have w4:=own_low o4.weak (pms_low (k:=s4.length) (paramsF L (nameR L R1).2).1)
  have f4:=pms_stl (k:=0) o4 Y3.nle
  have Y5:=Y4.seti 2 _ w4
  generalize hQ:paramsF L (nameR L R1).2=Q at *
  obtain ⟨s6,c6,Y6⟩:=Y5.call (want_does Y5.q [58])
  obtain ⟨s7,c7,Y7⟩:=Y6.call (kind_does Y6.q)
  have Y8:=Y7.seti 4 (.int .i64 (kindR L (wantR L [58] Q.2)).1) rfl
  obtain ⟨s9,c9,Y9⟩:=Y8.call (want_does Y8.q [123])
  obtain ⟨_,s10,c10,q10,k10,es10,ap10,rfl,o10,e10,l10,t10⟩:=items_does Y9.q false
  have Y10:=Y9.to q10 k10
  have w10:=own_low o10.weak l10
  have f10:=its_stl o10 Y9.nle e10 t10
  have Y11:=Y10.seti 3 _ w10
  generalize hI:itsF L false L.length [] (wantR L [123] (kindR L (wantR L [58] Q.2)).2)=I at *
  obtain ⟨s12,c12,Y12⟩:=Y11.call (want_does Y11.q [114,101,116,117,114,110])
  obtain ⟨s13,c13,Y13⟩:=Y12.call (exprF_does Y12.q)
  have Y14:=Y13.seti 5 (.int .i64 (exprF L (wantR L [114,101,116,117,114,110] I.2)).1) rfl
  obtain ⟨s15,c15,Y15⟩:=Y14.call (want_does Y14.q [59])
  obtain ⟨s16,c16,Y16⟩:=Y15.call (want_does Y15.q [125])
  dsimp only [List.set] at *
  obtain ⟨f1,f2,f3⟩:=Y16.fin
  have lz:=(List.getElem?_eq_some_iff.1 Y16.z).1
  have eb:declB L 2 (posF L R) R1=(⟨2,(nameR L R1).1,Q.1,endAp Q.1.length,I.1,endAp I.1.length,(kindR L (wantR L [58] Q.2)).1,(exprF L (wantR L [114,101,116,117,114,110] I.2)).1,(tkF L R).pos⟩,wantR L [125] (wantR L [59] (exprF L (wantR L [114,101,116,117,114,110] I.2)).2)):=by simp [declB,hQ,hI,posF]
  rw [eb] at hK
  simp [he,b0,b2,b3,c1,Z1.g,c2,Z2.g,Y1.g,c3,Y2.g,Y3.g,c4,Y4.g,Y5.g,c6,Y6.g,c7,Y7.g,Y8.g,c9,Y9.g,c10,Y10.g,Y11.g,c12,Y12.g,c13,Y13.g,Y14.g,c15,Y15.g,c16,Y16.g,Y16.z]
  refine hK _ _ _ (.agg [.int .i64 2,.str (nameR L R1).1,.lst 2 (Q.1.map Pm.av) ap4,.lst 9 es10 ap10,.int .i64 (kindR L (wantR L [58] Q.2)).1,.int .i64 (exprF L (wantR L [114,101,116,117,114,110] I.2)).1,.int .i64 (tkF L R).pos]) (.inl rfl) f1 f2 ⟨_,ap4,_,ap10,rfl,by rw [List.length_set];exact f3,f4,f10⟩ ⟨[.agg [.int .i64 2,.str (nameR L R1).1,.lst 2 (Q.1.map Pm.av) ap4,.lst 9 es10 ap10,.int .i64 (kindR L (wantR L [58] Q.2)).1,.int .i64 (exprF L (wantR L [114,101,116,117,114,110] I.2)).1,.int .i64 (tkF L R).pos]],?_,rfl⟩
  simp [a43,he,b2,lz,takeVar]
 | false =>
  rw [h2] at c2
  rw [isR_stay h2] at Z2
  have ea:dclF L R=declB L 3 (posF L R) (wantR L [104,121,98,114,105,100] R):=by simp [dclF,h1,h2]
  rw [ea] at hK
  have Y0:=Z2.seti 0 (.int .i64 3) rfl
  obtain ⟨s3,c3,Y1⟩:=Y0.call (want_does Y0.q [104,121,98,114,105,100])
  generalize wantR L [104,121,98,114,105,100] R=R1 at *
  obtain ⟨s4,c4,Y2⟩:=Y1.call (name_does Y1.q)
  have Y3:=Y2.seti 1 (.str (nameR L R1).1) rfl
  obtain ⟨_,s5,c5,q5,k5,ap5,rfl,o5⟩:=params_does Y3.q
  have Y4:=Y3.to q5 k5
  have w5:=own_low o5.weak (pms_low (k:=s5.length) (paramsF L (nameR L R1).2).1)
  have f5:=pms_stl (k:=0) o5 Y3.nle
  have Y5:=Y4.seti 2 _ w5
  generalize hQ:paramsF L (nameR L R1).2=Q at *
  obtain ⟨s9,c9,Y9⟩:=Y5.call (want_does Y5.q [123])
  obtain ⟨_,s10,c10,q10,k10,es10,ap10,rfl,o10,e10,l10,t10⟩:=items_does Y9.q true
  have Y10:=Y9.to q10 k10
  have w10:=own_low o10.weak l10
  have f10:=its_stl o10 Y9.nle e10 t10
  have Y11:=Y10.seti 3 _ w10
  generalize hI:itsF L true L.length [] (wantR L [123] Q.2)=I at *
  obtain ⟨s16,c16,Y16⟩:=Y11.call (want_does Y11.q [125])
  dsimp only [List.set] at *
  obtain ⟨f1,f2,f3⟩:=Y16.fin
  have lz:=(List.getElem?_eq_some_iff.1 Y16.z).1
  have eb:declB L 3 (posF L R) R1=(⟨3,(nameR L R1).1,Q.1,endAp Q.1.length,I.1,endAp I.1.length,0,0,(tkF L R).pos⟩,wantR L [125] I.2):=by simp [declB,hQ,hI,posF]
  rw [eb] at hK
  simp [he,b0,b2,b3,c1,Z1.g,c2,Z2.g,Y0.g,c3,Y1.g,c4,Y2.g,Y3.g,c5,Y4.g,Y5.g,c9,Y9.g,c10,Y10.g,Y11.g,c16,Y16.g,Y16.z]
  refine hK _ _ _ (.agg [.int .i64 3,.str (nameR L R1).1,.lst 2 (Q.1.map Pm.av) ap5,.lst 9 es10 ap10,.int .i64 0,.int .i64 0,.int .i64 (tkF L R).pos]) (.inl rfl) f1 f2 ⟨_,ap5,_,ap10,rfl,by rw [List.length_set];exact f3,f5,f10⟩ ⟨[.agg [.int .i64 3,.str (nameR L R1).1,.lst 2 (Q.1.map Pm.av) ap5,.lst 9 es10 ap10,.int .i64 0,.int .i64 0,.int .i64 (tkF L R).pos]],?_,rfl⟩
  simp [a43,he,b2,lz,takeVar]
end
end Go.Proofs.YtgkhmmlemgikjaaGreatDoor
namespace Go.Proofs.YtgkhmmlemgikjaaGreatDoor
open Go Ai
theorem fn20:A.fn 20=some a20:=by kernel_rfl
theorem prim20:A.prim 20=none:=by kernel_rfl
def w20_0:List Nat:=a20_0.writes
structure TkOk (m:Nat) (t:Tk):Prop where
 n:t.text≠[]
 v:0≤t.v
 k:t.kind≠5
 len:t.text.length≤m
theorem tokOf_ok {c:UInt8} {l:Sx} {p:Nat} {x:Tk} (h:Lx.tokOf (c::l) p=(x,true)):TkOk (l.length+1) x:=by
 have h1:=Lx.tokOf_le h
 have h2:=Lx.tokOf_pos (c:=c) (l:=l) (pos:=p) (by rw [h])
 rw [h] at h2
 refine ⟨fun e=>by rw [e] at h2;simp at h2,?_,?_,by simpa using h1⟩
 all_goals
  simp only [Lx.tokOf] at h
  repeat' split at h
  all_goals (simp only [Prod.mk.injEq] at h;obtain ⟨h,_⟩:=h;subst h;try simp)
 simp only [Lx.valP]
 repeat' split
 all_goals simp
theorem lexS_ok:∀(k:Nat) (l:Sx) (p:Nat) (ts:List Tk),l.length≤k→Lx.lexS l p=.ok ts→∃us q,ts=us++[⟨5,[],0,q⟩]∧us.length≤l.length∧∀t∈us,TkOk l.length t:=by
 intro k
 induction k with
 | zero =>
  intro l p ts hl h
  have:l=[]:=by cases l with | nil=>rfl | cons=>simp at hl
  subst this
  rw [Lx.lexS_nil] at h
  cases h
  exact ⟨[],p,rfl,by simp,by simp⟩
 | succ k ih =>
  intro l p ts hl h
  cases l with
  | nil =>
   rw [Lx.lexS_nil] at h
   cases h
   exact ⟨[],p,rfl,by simp,by simp⟩
  | cons c l =>
  obtain ⟨⟨x,b⟩,hx⟩:∃x,x=Lx.tokOf (c::l) p:=⟨_,rfl⟩
  cases b with
  | false=>rw [Lx.lexS_bad (by rw [←hx])] at h;cases h
  | true =>
   rw [Lx.lexS_tok hx.symm,Lx.lexK] at h
   have hx0:=tokOf_ok hx.symm
   have hlen:0<x.text.length:=List.length_pos_iff.2 hx0.n
   generalize hr:Lx.lexS _ _=res at h
   cases res with
   | error e=>cases h
   | ok ts' =>
    cases h
    have h1:=List.length_drop (l:=(c::l).drop x.text.length) (i:=Lx.skipN false ((c::l).drop x.text.length))
    have h2:=List.length_drop (l:=c::l) (i:=x.text.length)
    simp only [List.length_cons] at h2 hl
    obtain ⟨us,q,e1,e2,e3⟩:=ih _ _ _ (by omega) hr
    refine ⟨x::us,q,by rw [e1];rfl,by simp;omega,fun t ht=>?_⟩
    rcases List.mem_cons.1 ht with rfl | ht
    ·simpa using hx0
    ·have:=e3 t ht;exact ⟨this.n,this.v,this.k,by have:=this.len;simp;omega⟩
theorem lexK_ok {s:Sx} {ts:List Tk} (h:Lx.lexK s 0=.ok ts):∃us q,ts=us++[⟨5,[],0,q⟩]∧us.length≤s.length∧∀t∈us,TkOk s.length t:=by
 rw [Lx.lexK] at h
 obtain ⟨us,q,e1,e2,e3⟩:=lexS_ok _ _ _ _ (Nat.le_refl _) h
 have h1:=List.length_drop (l:=s) (i:=Lx.skipN false s)
 exact ⟨us,q,e1,by omega,fun t ht=>by have:=e3 t ht;exact ⟨this.n,this.v,this.k,by have:=this.len;omega⟩⟩
theorem lexK_tks {s:Sx} (hs:s.length≤20000) {ts:List Tk} (h:Lx.lexK s 0=.ok ts):Tks ts∧0<ts.length:=by
 obtain ⟨us,q,rfl,e2,e3⟩:=lexK_ok h
 refine ⟨⟨by simp;omega,fun t ht=>?_,fun t ht=>?_⟩,by simp⟩
 ·simp at ht;subst ht;rfl
 ·rcases List.mem_append.1 ht with ht | ht
  ·have:=(e3 t ht).len;omega
  ·simp at ht;subst ht;simp
theorem Step.pms {L:List Tk}:∀(m:Nat) (l:List Pm) (R:Rd),Step R (pmsF L m l R).2
 | 0,_,_=>.refl
 | m+1,l,R=>by
  rw [pmsF];simp only []
  split
  ·split
   ·exact ((Step.name.trans .want).trans .kind).trans (Step.adv.trans (Step.pms m _ _))
   ·exact ((Step.name.trans .want).trans .kind).trans .want
  ·exact .refl
theorem Step.params {L:List Tk} {R:Rd}:Step R (paramsF L R).2:=by
 unfold paramsF;split
 ·exact Step.want.trans .adv
 ·exact Step.want.trans (.pms _ _ _)
theorem Step.items {L:List Tk} {all:Bool}:∀(m:Nat) (l:List It) (R:Rd),Step R (itsF L all m l R).2
 | 0,_,_=>.refl
 | m+1,l,R=>by
  have h:Step R (itmF L all R).2:=by
   rcases Step.item (L:=L) (all:=all) (R:=R) with ⟨_,h⟩ | h
   ·rw [h];exact .refl
   ·exact Step.adv.trans h
  rw [itsF];simp only []
  repeat' split
  ·exact h.trans (Step.items m _ _)
  ·exact h
  ·exact .refl
theorem Step.declB {L:List Tk} {k p:Int} {R:Rd}:Step R (declB L k p R).2:=by
 have E:=Step.exprF (L:=L)
 have W:∀w (R:Rd),Step R (wantR L w R):=fun _ _=>.want
 unfold Go.Proofs.YtgkhmmlemgikjaaGreatDoor.declB
 simp only []
 repeat' split
 ·exact (((Step.name.trans .params).trans (W _ _)).trans (.items _ _ _)).trans (W _ _)
 ·exact (((Step.name.trans .params).trans (W _ _)).trans .kind).trans (((W _ _).trans (E _)).trans (W _ _))
 ·exact ((((Step.name.trans .params).trans (W _ _)).trans .kind).trans ((W _ _).trans (.items _ _ _))).trans ((((W _ _).trans (E _)).trans (W _ _)).trans (W _ _))
theorem Step.decl {L:List Tk} {R:Rd}:Step R (dclF L R).2∧((dclF L R).2.c=0→R.i+1≤(dclF L R).2.i):=by
 have key:∀{k p:Int},Step R (Go.Proofs.YtgkhmmlemgikjaaGreatDoor.declB L k p R.adv).2∧((Go.Proofs.YtgkhmmlemgikjaaGreatDoor.declB L k p R.adv).2.c=0→R.i+1≤(Go.Proofs.YtgkhmmlemgikjaaGreatDoor.declB L k p R.adv).2.i):=by
  intro k p
  have h:=Step.declB (L:=L) (k:=k) (p:=p) (R:=R.adv)
  exact ⟨Step.adv.trans h,fun _=>h.i⟩
 unfold dclF
 repeat' split
 ·exact key
 ·exact key
 ·unfold wantR
  split
  ·exact key
  ·have h:=Step.declB (L:=L) (k:=3) (p:=posF L R) (R:=failR L 2 R)
   refine ⟨Step.fail.trans h,fun e=>?_⟩
   have:=h.c e
   unfold failR at this
   split at this<;>simp_all
section
variable {n r:Nat} {L:List Tk} {dv:AV} {s:St} {R:Rd}
theorem dclsF_end (h:¬(R.c=0∧(tkF L R).kind≠5)) {l:List Dc}:∀m,dclsF L m l R=(l,R)
 | 0=>rfl
 | m+1=>by rw [dclsF,if_neg h]
theorem dc_still {S:St} {d:Dc} {V:AV} (h:DcP n d s V):AV.still n S V=some d.av:=by
 obtain ⟨l1,ap1,l2,ap2,rfl,_,h1,h2⟩:=h
 have h1:=h1 S
 have h2:=h2 S
 simp only [Dc.av,Dc.cs]
 generalize AV.lst 2 l1 ap1=V1 at *
 generalize AV.lst 9 l2 ap2=V2 at *
 generalize AV.lst 2 (d.ps.map Pm.av) d.pap=W1 at *
 generalize AV.lst 9 (d.its.map It.av) d.iap=W2 at *
 simp [AV.still,AV.stills,h1,h2]
theorem RdOk.decls (q:RdOk n r L dv 0 s R) {es:List AV} {o:Ap} (hr:s[r]?=some (.cells none (rdCs L dv 0 R es o))) {dv':AV} (hd:AV.lowB s.length dv'=true) :
  RdOk n r L dv' 0 (s.set r (.cells none [.lst 4 (L.map Lx.Tok.av) .no,.int .i64 R.i,dv',.lst 9 es o,.int .i64 0,.int .i64 R.c,.int .i64 R.b])) R ∧
  Keep n r s (s.set r (.cells none [.lst 4 (L.map Lx.Tok.av) .no,.int .i64 R.i,dv',.lst 9 es o,.int .i64 0,.int .i64 R.c,.int .i64 R.b])):=by
 obtain ⟨es',p,h1,h2,h3,h4⟩:=q.cell
 rw [h1] at hr
 have e:=(AObj.cells.inj (Option.some.inj hr)).2
 simp only [rdCs,List.cons.injEq,AV.lst.injEq,true_and,and_true] at e
 obtain ⟨rfl,rfl⟩:=e
 have hlow:AObj.lowB s.length (.cells none [.lst 4 (L.map Lx.Tok.av) .no,.int .i64 R.i,dv',.lst 9 es' p,.int .i64 0,.int .i64 R.c,.int .i64 R.b])=true:=by
  have:=q.ok.get h1
  simp only [AObj.lowB,rdCs,AV.lowsB,Bool.and_eq_true] at this ⊢
  exact ⟨this.1,this.2.1,hd,this.2.2.2⟩
 have hs:∀o',Own (s.set r o') n 9 (some 62) p R.xs.length:=by
  intro o'
  rcases h3 with h3 | ⟨h0,id,e1,e2,e3⟩
  ·exact .inl h3
  ·refine .inr ⟨h0,id,e1,e2,?_⟩
   rw [List.getElem?_set_ne]
   ·exact e3
   ·rintro rfl;rw [h1] at e3;cases e3
 exact ⟨{ q with cell:=⟨es',p,by simp [rdCs,q.len],h2,hs _,h4⟩,ok:=q.ok.set' hlow },.set q.le hlow⟩
end
structure Fin (st:St) (L:List Tk) (sx:St) (R:Rd) (ds:List Dc):Prop where
 q:∃es ap,RdOk st.length (st.length+3) L (.lst 7 es ap) 0 sx R∧Own sx st.length 7 (some 33) ap es.length∧es.length=ds.length∧AV.lowsB sx.length es=true∧∀S,AV.stills st.length S es=some (ds.map Dc.av)
 z:sx[st.length]?=some (.cells none [.lst 7 [] .tight,.lst 9 [] .tight])
 f:sx[st.length+1]?=some (.cells none [.int .i64 0,.int .i64 0])
 t:sx.take st.length=st
theorem dc_loop {st sx:St} {L:List Tk} (h:Fin st L sx ⟨0,[],0,0⟩ []) {Ev:Env} (he:Ev.length=101) (b9:AX.ev Ev (.t 9)=.ptr (st.length+3) 0) {Q:PostQ}
  (hQ:∀e2 s2,Same w20_0 Ev e2→Fin st L s2 (dclsF L L.length [] ⟨0,[],0,0⟩).2 (dclsF L L.length [] ⟨0,[],0,0⟩).1→Q (.exit 0) e2 [] s2):AW A 20 none (.loop a20_0) Ev [] sx Q:=by
 generalize hq:dclsF L L.length [] ⟨0,[],0,0⟩=D at hQ
 refine aw_loop (W:=w20_0) rfl (fun m e ds s=>ds=[]∧∃l R,dclsF L m l R=D∧(R.c=0→L.length≤m+R.i∧l.length≤R.i)∧Fin st L s R l) L.length ⟨rfl,[],_,hq,fun _=>⟨by simp,by simp⟩,h⟩ ?_
 clear h hq
 rintro m e1 ds s hs ⟨rfl,l,R,hq,hm,F⟩ K1 kn kx
 have he1:e1.length=101:=by simp [hs.1,he]
 have b9:=hs.ev 9 rfl b9
 obtain ⟨des,dap,q,od,hdl,hdw,hds⟩:=F.q
 obtain ⟨es,o,hr,_⟩:=q.cell
 have hr0:=hr
 simp only [rdCs] at hr
 have hg:=q.get
 have hnl:st.length≤s.length:=by have:=q.len;omega
 by_cases hc:R.c=0∧(tkF L R).kind≠5
 ·have h5:¬((tkF L R).kind:Int)=5:=by have:=hc.2;omega
  obtain ⟨hm,hll⟩:=hm hc.1
  have hlt:=q.lt
  have htl:=q.tk.len
  cases m with
  | zero=>omega
  | succ m =>
  rw [dclsF,if_pos hc] at hq
  obtain ⟨V,s1,c1,q1,k1,P1⟩:=decl_does q
  have Sd:=Step.decl (L:=L) (R:=R)
  have o1:=k1.own od (.inl (by decide)) hr0
  generalize dclF L R=X at *
  obtain ⟨d,R1⟩:=X
  simp only [] at hq c1 q1 P1 Sd
  have hsd:=fun S=>dc_still (S:=S) P1
  obtain ⟨l1,ap1,l2,ap2,rfl,lw1,_⟩:=P1
  have q2:=q1.app (o:=.cells none [.int .i64 d.k,.str d.n,.lst 2 l1 ap1,.lst 9 l2 ap2,.int .i64 d.t,.int .i64 d.e,.int .i64 d.p]) (AV.low_le (Nat.le_succ _) _ lw1)
  have k2:=Keep.app (n:=st.length) (r:=st.length+3) (s:=s1) (o:=.cells none [.int .i64 d.k,.str d.n,.lst 2 l1 ap1,.lst 9 l2 ap2,.int .i64 d.t,.int .i64 d.e,.int .i64 d.p]) (by have:=k1.g.len;omega) (AV.low_le (Nat.le_succ _) _ lw1)
  have o2:=o1.snoc (o:=.cells none [.int .i64 d.k,.str d.n,.lst 2 l1 ap1,.lst 9 l2 ap2,.int .i64 d.t,.int .i64 d.e,.int .i64 d.p])
  have g2:(s1++[AObj.cells none [.int .i64 d.k,.str d.n,.lst 2 l1 ap1,.lst 9 l2 ap2,.int .i64 d.t,.int .i64 d.e,.int .i64 d.p]])[s1.length]?=_:=last_obj
  have hz:=k2.k _ _ (by omega) (k1.k _ _ (by omega) F.z nofun) nofun
  have hf:=k2.k _ _ (by omega) (k1.k _ _ (by omega) F.f nofun) nofun
  have ht:(s1++[AObj.cells none [.int .i64 d.k,.str d.n,.lst 2 l1 ap1,.lst 9 l2 ap2,.int .i64 d.t,.int .i64 d.e,.int .i64 d.p]]).take st.length=st:=(k1.trans k2).g.take.trans F.t
  obtain ⟨es2,p2,hr2,_⟩:=q2.cell
  have hdw2:AV.lowsB (s1++[AObj.cells none [.int .i64 d.k,.str d.n,.lst 2 l1 ap1,.lst 9 l2 ap2,.int .i64 d.t,.int .i64 d.e,.int .i64 d.p]]).length des=true:=AV.lows_le (k1.trans k2).g.len _ hdw
  have lw2:AV.lowB (s1++[AObj.cells none [.int .i64 d.k,.str d.n,.lst 2 l1 ap1,.lst 9 l2 ap2,.int .i64 d.t,.int .i64 d.e,.int .i64 d.p]]).length (.agg [.int .i64 d.k,.str d.n,.lst 2 l1 ap1,.lst 9 l2 ap2,.int .i64 d.t,.int .i64 d.e,.int .i64 d.p])=true:=AV.low_le k2.g.len _ lw1
  have hr20:=hr2
  simp only [rdCs] at hr2
  have hl1:s1.length≠st.length+3:=by have:=q1.len;omega
  simp [a20_0,b9,he1,hr,hc.1,hg,Lx.Tok.av,Ai.beq_refl,h5,c1]
  generalize hS2:s1++[AObj.cells none [.int .i64 d.k,.str d.n,.lst 2 l1 ap1,.lst 9 l2 ap2,.int .i64 d.t,.int .i64 d.e,.int .i64 d.p]]=s2 at *
  obtain ⟨ap',s3,p3,o3,g3⟩:∃ap' s3,appendA 7 96 (some 33) s2 (.lst 7 des dap) (.lst 7 [.agg [.int .i64 d.k,.str d.n,.lst 2 l1 ap1,.lst 9 l2 ap2,.int .i64 d.t,.int .i64 d.e,.int .i64 d.p]] .tight)=some (.val (.lst 7 (des++[.agg [.int .i64 d.k,.str d.n,.lst 2 l1 ap1,.lst 9 l2 ap2,.int .i64 d.t,.int .i64 d.e,.int .i64 d.p]]) ap') s3) ∧
    Own s3 st.length 7 (some 33) ap' (des++[AV.agg [.int .i64 d.k,.str d.n,.lst 2 l1 ap1,.lst 9 l2 ap2,.int .i64 d.t,.int .i64 d.e,.int .i64 d.p]]).length∧Grew st.length s2 s3:=by
   obtain ⟨ap',s3,h1,h2,h3,_⟩:=append_own (bytes:=96) (es:=des) (ys:=[AV.agg [.int .i64 d.k,.str d.n,.lst 2 l1 ap1,.lst 9 l2 ap2,.int .i64 d.t,.int .i64 d.e,.int .i64 d.p]]) (ap0:=.tight) (by have:=q2.len;omega) o2.weak (by simp) (by simp [Ai.great];omega) (by omega)
   exact ⟨ap',s3,h1,h2,h3⟩
  have hk3:∀(j:Nat) (o:AObj),s2[j]?=some o→(∀l,o≠AObj.tok 7 l (some 33))→s3[j]?=some o:=fun j o=>append_keep o2 p3
  have q3:RdOk st.length (st.length+3) L (.lst 7 des dap) 0 s3 R1:=by
   obtain ⟨es,o,h1,h2,h3,h4⟩:=q2.cell
   refine { q2 with cell:=⟨es,o,hk3 _ _ h1 nofun,h2,?_,h4⟩,ok:=g3.ok q2.ok }
   rcases h3 with h3 | ⟨h0,id,e1,e2,e3⟩
   ·exact .inl h3
   ·exact .inr ⟨h0,id,e1,e2,hk3 _ _ e3 nofun⟩
  have hr3:=hk3 _ _ hr20 nofun
  have lwd:AV.lowsB s3.length [AV.agg [.int .i64 d.k,.str d.n,.lst 2 l1 ap1,.lst 9 l2 ap2,.int .i64 d.t,.int .i64 d.e,.int .i64 d.p]]=true:=by rw [AV.lowsB,AV.low_le g3.len _ lw2];rfl
  have lwe:=lows_append (AV.lows_le g3.len _ hdw2) lwd
  have lw3:=own_low o3.weak lwe
  have u:=q3.decls hr3 lw3
  simp only [rdCs] at hr3
  simp [he1,b9,hr2,g2,p3,hr3,Ai.beq_refl]
  refine kn m _ _ _ (by omega) ⟨rfl,_,R1,hq,fun e=>?_,⟨⟨_,ap',u.1,?_,by simp [hdl],?_,fun S=>?_⟩,?_,?_,?_⟩⟩
  ·have:=Sd.2 e;simp;omega
  ·rcases o3 with h | ⟨h0,id,e1,e2,e3⟩
   ·exact .inl h
   ·refine .inr ⟨h0,id,e1,e2,?_⟩
    rw [List.getElem?_set_ne]
    ·exact e3
    ·rintro rfl;rw [hr3] at e3;cases e3
  ·rw [List.length_set]
   exact lwe
  ·have:=stills_app (hds S) (b:=[AV.agg [.int .i64 d.k,.str d.n,.lst 2 l1 ap1,.lst 9 l2 ap2,.int .i64 d.t,.int .i64 d.e,.int .i64 d.p]]) (b':=[d.av]) (by simp only [AV.stills,hsd S])
   simpa using this
  ·rw [List.getElem?_set_ne (by omega)];exact hk3 _ _ hz nofun
  ·rw [List.getElem?_set_ne (by omega)];exact hk3 _ _ hf nofun
  ·rw [List.take_set,List.set_eq_of_length_le (by simp;omega),g3.take];exact ht
 ·rw [dclsF_end hc] at hq
  subst hq
  by_cases hc0:R.c=0
  ·have h5:(tkF L R).kind=5:=by
    rcases Classical.em ((tkF L R).kind=5) with h | h
    ·exact h
    ·exact absurd ⟨hc0,h⟩ hc
   simp [a20_0,b9,he1,hr,hc0,hg,Lx.Tok.av,Ai.beq_refl,h5]
   exact kx _ _ _ _ nofun fun hs'=>hQ _ _ hs' F
  ·simp [a20_0,b9,he1,hr,hc0]
   exact kx _ _ _ _ nofun fun hs'=>hQ _ _ hs' F
end Go.Proofs.YtgkhmmlemgikjaaGreatDoor
namespace Go.Proofs.YtgkhmmlemgikjaaGreatDoor
open Go Ai
theorem fin_still {n:Nat} {S:St} {des es:List AV} {dap o:Ap} {ds:List Dc} {xs:List Ex} (h1:∀S,AV.still n S (.lst 7 des dap)=some (.lst 7 (ds.map Dc.av) (endAp des.length))) (h2:∀S,AV.still n S (.lst 9 es o)=some (.lst 9 (xs.map Ex.av) (endAp xs.length))) (hl:des.length=ds.length) (e c:Int) :
  AV.still n S (.tup [.agg [.lst 7 des dap,.lst 9 es o],.int .i64 e,.agg [.int .i64 c,.int .i64 0]])=some (.tup [.agg [.lst 7 (ds.map Dc.av) (endAp ds.length),.lst 9 (xs.map Ex.av) (endAp xs.length)],.int .i64 e,.agg [.int .i64 c,.int .i64 0]]):=by
 have h1:=h1 S
 have h2:=h2 S
 rw [hl] at h1
 generalize AV.lst 7 des dap=V1 at *
 generalize AV.lst 9 es o=V2 at *
 generalize AV.lst 7 (ds.map Dc.av) (endAp ds.length)=W1 at *
 generalize AV.lst 9 (xs.map Ex.av) (endAp xs.length)=W2 at *
 simp [AV.still,AV.stills,h1,h2]
set_option maxHeartbeats 1000000 in
theorem parse_call {s:Sx} (hs:s.length≤281474976710656) (ex:Bool) {st:St} (hst:StOk st) :
  runL A (.call 20 [.str s,.bool ex]) st=some ⟨.ret,⟨[.tup [(parseF s ex).1.av,.int .i64 (parseF s ex).2.1,.agg [.int .i64 (parseF s ex).2.2.1,.int .i64 (parseF s ex).2.2.2]]],[]⟩,st⟩:=by
 have o1:StOk (st++[AObj.cells none [.lst 7 [] .tight,.lst 9 [] .tight],.cells none [.int .i64 0,.int .i64 0]]):=by
  have:=(hst.snoc (o:=.cells none [.lst 7 [] .tight,.lst 9 [] .tight]) rfl).snoc (o:=.cells none [.int .i64 0,.int .i64 0]) rfl
  rwa [List.append_assoc] at this
 have hlex:=Lx.refLex_call hs o1
 have bad:∀c p:Int,c≠0→Lx.lexP s=(Lx.noToks,Lx.flt c p)→parseF s ex=(noPg,0,c,p)→runL A (.call 20 [.str s,.bool ex]) st=some ⟨.ret,⟨[.tup [(parseF s ex).1.av,.int .i64 (parseF s ex).2.1,.agg [.int .i64 (parseF s ex).2.2.1,.int .i64 (parseF s ex).2.2.2]]],[]⟩,st⟩:=by
  intro c p hc h1 h2
  rw [h1] at hlex
  rw [h2]
  simp only [Lx.noToks,Lx.flt] at hlex
  refine (task_of_aw (N:=101) prim20 fn20 rfl rfl hst ?_).1
  intro e he ha K hK
  have a0:=ha 0
  have a1:=ha 1
  clear ha
  simp at a0 a1
  simp [a20,he,a0,a1,hlex,hc,Ai.beq_refl]
  exact hK _ _ _ (.inl rfl) (by simp) ⟨[.agg [.lst 7 [] .tight,.lst 9 [] .tight],.int .i64 0,.agg [.int .i64 c,.int .i64 p]],by simp [a20,he,takeVar],by simp [noPg,Pg.av,AV.still,AV.stills]⟩
 by_cases hbig:20000<s.length
 ·exact bad 10 0 (by decide) (by simp [Lx.lexP,hbig]) (by simp [parseF,hbig])
 cases hlx:Lx.lexK s 0 with
 | error p=>exact bad 1 p (by decide) (by simp [Lx.lexP,hbig,hlx]) (by simp [parseF,hbig,hlx])
 | ok ts =>
 clear bad
 obtain ⟨htk,hpos⟩:=lexK_tks (by omega) hlx
 have hP:Lx.lexP s=(Lx.toksAv ts,Lx.flt 0 0):=by simp [Lx.lexP,hbig,hlx]
 rw [hP] at hlex
 simp only [Lx.toksAv,Lx.flt] at hlex
 have F0:Fin st ts (st++[.cells none [.lst 7 [] .tight,.lst 9 [] .tight],.cells none [.int .i64 0,.int .i64 0],.cells none [.int .i64 0,.int .i64 0],.cells none [.lst 4 (ts.map Lx.Tok.av) .no,.int .i64 0,.lst 7 [] .tight,.lst 9 [] .tight,.int .i64 0,.int .i64 0,.int .i64 0]]) ⟨0,[],0,0⟩ []:=by
  refine ⟨⟨[],.tight,⟨⟨[],.tight,by simp [rdCs],rfl,.nil,fun _=>rfl⟩,?_,by omega,hpos,by simp,htk,by omega⟩,.nil,rfl,rfl,fun _=>rfl⟩,by simp,by simp,by simp⟩
  have:=(o1.snoc (o:=.cells none [.int .i64 0,.int .i64 0]) rfl).snoc (o:=.cells none [.lst 4 (ts.map Lx.Tok.av) .no,.int .i64 0,.lst 7 [] .tight,.lst 9 [] .tight,.int .i64 0,.int .i64 0,.int .i64 0]) (by
   have:∀k,AV.lowsB k (ts.map Lx.Tok.av)=true:=fun k=>lows_all fun x hx=>by obtain ⟨i,_,rfl⟩:=List.mem_map.1 hx;rfl
   simp [AObj.lowB,AV.lowsB,AV.lowB,this])
  simpa using this
 refine (task_of_aw (N:=101) prim20 fn20 rfl rfl hst ?_).1
 intro e he ha K hK
 have a0:=ha 0
 have a1:=ha 1
 clear ha
 simp at a0 a1
 cases ex with
 | true =>
  obtain ⟨des,dap,qe,od,hdl,hdw,hds⟩:=F0.q
  have hdes:des=[]:=List.eq_nil_of_length_eq_zero hdl
  obtain ⟨s1,c1,q1,k1⟩:=exprF_does qe
  simp [a20,he,a0,a1,hlex,c1]
  obtain ⟨E1,hE1⟩:∃E1,E1=exprF ts ⟨0,[],0,0⟩:=⟨_,rfl⟩
  rw [←hE1] at q1 ⊢
  obtain ⟨es0,p0,hr0,_⟩:=qe.cell
  have F:Fin st ts s1 E1.2 []:=⟨⟨des,dap,q1,k1.own od (.inl (by decide)) hr0,hdl,AV.lows_le k1.g.len _ hdw,hds⟩,k1.k _ _ (by omega) F0.z nofun,k1.k _ _ (by omega) F0.f nofun,k1.g.take.trans F0.t⟩
  clear q1 hr0 od hdl hdw hds qe c1 k1
  obtain ⟨Re,hRe⟩:∃Re,Re=E1.2:=⟨_,rfl⟩
  obtain ⟨sx,hsx⟩:∃sx,sx=s1:=⟨_,rfl⟩
  rw [←hRe,←hsx] at F
  rw [←hsx]
  clear hsx des hdes
  obtain ⟨des,dap,qe,od,hdl,hdw,hds⟩:=F.q
  obtain ⟨es9,o9,hr9,hl9,ho9,hs9⟩:=qe.cell
  simp only [rdCs] at hr9
  have hg9:=qe.get
  have hzl:=(List.getElem?_eq_some_iff.1 F.z).1
  have hfl:=(List.getElem?_eq_some_iff.1 F.f).1
  have z1:=F.z
  have f1:=F.f
  have zr:∀x:AObj,(sx.set st.length x)[st.length+3]?=sx[st.length+3]?:=fun x=>List.getElem?_set_ne (by omega)
  have zf:∀x:AObj,(sx.set st.length x)[st.length+1]?=sx[st.length+1]?:=fun x=>List.getElem?_set_ne (by omega)
  have tk:∀x y:AObj,((sx.set st.length x).set (st.length+1) y).take st.length=st:=fun x y=>by
   rw [List.take_set,List.set_eq_of_length_le (by simp;omega),List.take_set,List.set_eq_of_length_le (by simp;omega)];exact F.t
  by_cases hc:Re.c=0
  ·by_cases h5:(tkF ts Re).kind=5
   ·simp [he,a0,a1,hr9,hc,hg9,Lx.Tok.av,h5,Ai.beq_refl,z1,f1,zr,zf]
    have hQ:parseF s true=(⟨([]:List Dc),endAp (([]:List Dc)).length,Re.xs,endAp Re.xs.length⟩,E1.1,0,0):=by simp [parseF,hbig,hlx,readF,←hE1,←hRe,endR,h5,hc]
    rw [hQ] at hK
    refine hK _ _ _ (.inl rfl) (by simpa using tk _ _) ⟨[.agg [.lst 7 des dap,.lst 9 es9 o9],.int .i64 (E1.1),.agg [.int .i64 0,.int .i64 0]],?_,?_⟩
    ·simp [a20,he,a0,a1,takeVar,hzl,hfl,List.getElem?_set]
    ·simp only [oneOf,Pg.av]
     exact fin_still (fun S=>own_stl od (Nat.le_refl _) (hds S)) (fun S=>own_stl ho9 (Nat.le_refl _) (hs9 S)) hdl _ _
   ·have h5':¬((tkF ts Re).kind:Int)=5:=by omega
    obtain ⟨s2,c2,q2,k2⟩:=fail_does qe 2
    have e2:failR ts 2 Re={ Re with c:=2,b:=posF ts Re }:=by simp [failR,hc]
    obtain ⟨es2,o2,hr2,_⟩:=q2.cell
    have zz:=k2.k _ _ (by omega) F.z nofun
    have ff:=k2.k _ _ (by omega) F.f nofun
    have hl2:=k2.g.len
    rw [e2] at hr2
    simp only [rdCs] at hr2
    have zr2:∀x:AObj,(s2.set st.length x)[st.length+3]?=s2[st.length+3]?:=fun x=>List.getElem?_set_ne (by omega)
    have zf2:∀x:AObj,(s2.set st.length x)[st.length+1]?=s2[st.length+1]?:=fun x=>List.getElem?_set_ne (by omega)
    have hzl2:st.length<s2.length:=by omega
    have hfl2:st.length+1<s2.length:=by omega
    simp [he,a0,a1,hr9,hc,hg9,Lx.Tok.av,h5',Ai.beq_refl,c2,hr2,zz,ff,zr2,zf2]
    have hQ:parseF s true=(noPg,0,2,posF ts Re):=by simp [parseF,hbig,hlx,readF,←hE1,←hRe,endR,h5,hc,failR]
    rw [hQ] at hK
    refine hK _ _ _ (.inl rfl) ?_ ⟨[.agg [.lst 7 [] .tight,.lst 9 [] .tight],.int .i64 0,.agg [.int .i64 2,.int .i64 (posF ts Re)]],?_,?_⟩
    ·rw [List.take_set,List.set_eq_of_length_le (by simp;omega),List.take_set,List.set_eq_of_length_le (by simp;omega)];exact k2.g.take.trans F.t
    ·simp [a20,he,a0,a1,takeVar,hzl2,hfl2,List.getElem?_set]
    ·simp [noPg,Pg.av,AV.still,AV.stills]
  ·simp [he,a0,a1,hr9,hc,Ai.beq_refl,z1,f1,zr,zf]
   have hQ:parseF s true=(noPg,0,Re.c,Re.b):=by simp [parseF,hbig,hlx,readF,←hE1,←hRe,endR,hc]
   rw [hQ] at hK
   refine hK _ _ _ (.inl rfl) (by simpa using tk _ _) ⟨[.agg [.lst 7 [] .tight,.lst 9 [] .tight],.int .i64 0,.agg [.int .i64 Re.c,.int .i64 Re.b]],?_,?_⟩
   ·simp [a20,he,a0,a1,takeVar,hzl,hfl,List.getElem?_set]
   ·simp [noPg,Pg.av,AV.still,AV.stills]
 | false =>
  simp [a20,he,a0,a1,hlex]
  generalize hEv:(List.set _ 25 _:Env)=Ev
  have heE:Ev.length=101:=by subst hEv;simp [he]
  have b4:AX.ev Ev (.t 4)=.ptr st.length 0:=by subst hEv;simp [he]
  have b6:AX.ev Ev (.t 6)=.ptr (st.length+1) 0:=by subst hEv;simp [he]
  have b9:AX.ev Ev (.t 9)=.ptr (st.length+3) 0:=by subst hEv;simp [he]
  have b10:AX.ev Ev (.t 10)=.int .i64 0:=by subst hEv;simp [he]
  clear hEv
  refine dc_loop F0 heE b9 fun e2 sx hs F=>?_
  have he2:e2.length=101:=by simp [hs.1,heE]
  have b4:=hs.ev 4 rfl b4
  have b6:=hs.ev 6 rfl b6
  have b9:=hs.ev 9 rfl b9
  have b10:=hs.ev 10 rfl b10
  simp
  obtain ⟨D,hD⟩:∃D,D=dclsF ts ts.length [] ⟨0,[],0,0⟩:=⟨_,rfl⟩
  rw [←hD] at F
  obtain ⟨Re,hRe⟩:∃Re,Re=D.2:=⟨_,rfl⟩
  rw [←hRe] at F
  obtain ⟨des,dap,qe,od,hdl,hdw,hds⟩:=F.q
  obtain ⟨es9,o9,hr9,hl9,ho9,hs9⟩:=qe.cell
  simp only [rdCs] at hr9
  have hg9:=qe.get
  have hzl:=(List.getElem?_eq_some_iff.1 F.z).1
  have hfl:=(List.getElem?_eq_some_iff.1 F.f).1
  have z1:=F.z
  have f1:=F.f
  have zr:∀x:AObj,(sx.set st.length x)[st.length+3]?=sx[st.length+3]?:=fun x=>List.getElem?_set_ne (by omega)
  have zf:∀x:AObj,(sx.set st.length x)[st.length+1]?=sx[st.length+1]?:=fun x=>List.getElem?_set_ne (by omega)
  have tk:∀x y:AObj,((sx.set st.length x).set (st.length+1) y).take st.length=st:=fun x y=>by
   rw [List.take_set,List.set_eq_of_length_le (by simp;omega),List.take_set,List.set_eq_of_length_le (by simp;omega)];exact F.t
  by_cases hc:Re.c=0
  ·by_cases h5:(tkF ts Re).kind=5
   ·simp [he2,b4,b6,b9,b10,hr9,hc,hg9,Lx.Tok.av,h5,Ai.beq_refl,z1,f1,zr,zf]
    have hQ:parseF s false=(⟨D.1,endAp (D.1).length,Re.xs,endAp Re.xs.length⟩,0,0,0):=by simp [parseF,hbig,hlx,readF,←hD,←hRe,endR,h5,hc]
    rw [hQ] at hK
    refine hK _ _ _ (.inl rfl) (by simpa using tk _ _) ⟨[.agg [.lst 7 des dap,.lst 9 es9 o9],.int .i64 (0),.agg [.int .i64 0,.int .i64 0]],?_,?_⟩
    ·simp [a20,he2,b4,b6,b9,b10,takeVar,hzl,hfl,List.getElem?_set]
    ·simp only [oneOf,Pg.av]
     exact fin_still (fun S=>own_stl od (Nat.le_refl _) (hds S)) (fun S=>own_stl ho9 (Nat.le_refl _) (hs9 S)) hdl _ _
   ·have h5':¬((tkF ts Re).kind:Int)=5:=by omega
    obtain ⟨s2,c2,q2,k2⟩:=fail_does qe 2
    have e2:failR ts 2 Re={ Re with c:=2,b:=posF ts Re }:=by simp [failR,hc]
    obtain ⟨es2,o2,hr2,_⟩:=q2.cell
    have zz:=k2.k _ _ (by omega) F.z nofun
    have ff:=k2.k _ _ (by omega) F.f nofun
    have hl2:=k2.g.len
    rw [e2] at hr2
    simp only [rdCs] at hr2
    have zr2:∀x:AObj,(s2.set st.length x)[st.length+3]?=s2[st.length+3]?:=fun x=>List.getElem?_set_ne (by omega)
    have zf2:∀x:AObj,(s2.set st.length x)[st.length+1]?=s2[st.length+1]?:=fun x=>List.getElem?_set_ne (by omega)
    have hzl2:st.length<s2.length:=by omega
    have hfl2:st.length+1<s2.length:=by omega
    simp [he2,b4,b6,b9,b10,hr9,hc,hg9,Lx.Tok.av,h5',Ai.beq_refl,c2,hr2,zz,ff,zr2,zf2]
    have hQ:parseF s false=(noPg,0,2,posF ts Re):=by simp [parseF,hbig,hlx,readF,←hD,←hRe,endR,h5,hc,failR]
    rw [hQ] at hK
    refine hK _ _ _ (.inl rfl) ?_ ⟨[.agg [.lst 7 [] .tight,.lst 9 [] .tight],.int .i64 0,.agg [.int .i64 2,.int .i64 (posF ts Re)]],?_,?_⟩
    ·rw [List.take_set,List.set_eq_of_length_le (by simp;omega),List.take_set,List.set_eq_of_length_le (by simp;omega)];exact k2.g.take.trans F.t
    ·simp [a20,he2,b4,b6,b9,b10,takeVar,hzl2,hfl2,List.getElem?_set]
    ·simp [noPg,Pg.av,AV.still,AV.stills]
  ·simp [he2,b4,b6,b9,b10,hr9,hc,Ai.beq_refl,z1,f1,zr,zf]
   have hQ:parseF s false=(noPg,0,Re.c,Re.b):=by simp [parseF,hbig,hlx,readF,←hD,←hRe,endR,hc]
   rw [hQ] at hK
   refine hK _ _ _ (.inl rfl) (by simpa using tk _ _) ⟨[.agg [.lst 7 [] .tight,.lst 9 [] .tight],.int .i64 0,.agg [.int .i64 Re.c,.int .i64 Re.b]],?_,?_⟩
   ·simp [a20,he2,b4,b6,b9,b10,takeVar,hzl,hfl,List.getElem?_set]
   ·simp [noPg,Pg.av,AV.still,AV.stills]
end Go.Proofs.YtgkhmmlemgikjaaGreatDoor
