/- Part Jf. No condition. -/
import Derived.Test.YtefildelnccljaaGreatJe
import Derived.Test.YtefildelnccljaaGreatEc
set_option linter.unusedVariables false
set_option linter.unusedSimpArgs false
namespace Go.Proofs.YtefildelnccljaaGreat
open Go Ai
theorem fn97:A.fn 97=some a97:=by kernel_rfl
theorem prim97:A.prim 97=none:=by kernel_rfl
theorem fn60:A.fn 60=some a60:=by kernel_rfl
theorem prim60:A.prim 60=none:=by kernel_rfl
def w60_0:List Nat:=a60_0.writes
def w60_1:List Nat:=a60_1.writes
structure Vr where
 n:Sx
 s:Int
 t:Int
 i:Int
 deriving DecidableEq
def Vr.cs (v:Vr):List AV:=[.str v.n,.int .i64 v.s,.int .i64 v.t,.int .i64 v.i]
def Vr.av (v:Vr):AV:=.agg v.cs
@[simp] theorem Vr.cs_len (x:Vr):x.cs.length=4:=rfl
def vr0:Vr:=⟨[],0,0,0⟩
theorem Vr.low (v:Vr) (n:Nat):AV.lowsB n v.cs=true:=by simp [Vr.cs,AV.lowsB,AV.lowB]
theorem stills_vrs (n:Nat) (st:St) (l:List Vr):AV.stills n st (l.map Vr.av)=some (l.map Vr.av):=stills_map fun x _=>by simp [Vr.av,Vr.cs,AV.stills]
def makesF (x:It) (i:Int):Option Vr :=
 if x.k=1 then some ⟨x.n,2,x.t,i⟩ else if x.k=2 then some ⟨x.n,3,1,i⟩ else if x.k=4 then some ⟨x.n,4,x.t,i⟩ else if x.k=6 then some ⟨x.n,5,0,i⟩ else none
theorem makes_i (x:It) (i:Int):makesF x i=(makesF x 0).map fun u=>{ u with i:=i }:=by
 unfold makesF
 by_cases h1:x.k=1<;>by_cases h2:x.k=2<;>by_cases h4:x.k=4<;>by_cases h6:x.k=6<;>simp [h1,h2,h4,h6]
def itV:List It→Int→List Vr
 | [],_=>[]
 | x::l,i=>(makesF x i).toList++itV l (i+1)
def parV:List Pm→Int→List Vr
 | [],_=>[]
 | q::l,i=>⟨q.n,1,q.t,i⟩::parV l (i+1)
def varsF (d:Dc):List Vr:=parV d.ps 0++itV d.its 0
theorem makes_call {x:It} (hx:x.Ok) {st:St} (hst:StOk st):runL A (.call 97 [x.av]) st=some ⟨.ret,⟨[.tup [((makesF x 0).getD vr0).av,.bool (makesF x 0).isSome]],[]⟩,st⟩:=by
 refine (task_of_aw (N:=31) prim97 fn97 rfl rfl hst ?_).1
 intro e he ha K hK
 have a0:=ha 0
 clear ha
 simp [It.av,It.cs] at a0
 simp [a97,he,a0]
 repeat' ((first | refine conda_splitn (fun h=>?_) (fun h=>?_) | refine grda_splitn (fun h=>?_) (fun h=>?_) | refine conda_split (fun h=>?_) (fun h=>?_) | refine grda_split (fun h=>?_) (fun h=>?_))<;>simp [he,a0,h])
 all_goals (refine hK _ _ _ (.inl rfl) (by simp) ⟨[((makesF x 0).getD vr0).av,.bool (makesF x 0).isSome],?_,?_⟩<;>clear hK<;>simp_all [a97,AV.stills,makesF,Vr.av,Vr.cs,vr0])
theorem vars60_call {d:Dc} (hd:d.Ok) {st:St} (hst:StOk st):runL A (.call 60 [d.av]) st=some ⟨.ret,⟨[.lst 4 ((varsF d).map Vr.av) (endAp (varsF d).length)],[]⟩,st⟩:=by
 refine (task_of_aw (N:=50) prim60 fn60 rfl rfl hst ?_).1
 intro e he ha K hK
 have a0:=ha 0
 clear ha
 simp [Dc.av,Dc.cs] at a0
 simp [a60,he,a0]
 have hps:=hd.ps
 have hits:=hd.its
 refine aw_loop (W:=w60_1) rfl (fun m e ds s=>ds=[]∧∃(i:Nat) (v:AV) (acc:List Vr),i+m=d.ps.length∧acc.length≤i∧acc++parV (d.ps.drop i) i=parV d.ps 0∧Fit st s∧Lv st s 4 (some 47) v (acc.map Vr.av) ∧
   AX.ev e (.t 13)=.int .i64 i∧AX.ev e (.t 3)=v) d.ps.length
  ⟨rfl,0,_,[],by simp,by simp,by simp,.refl hst,.nil,by simp [he],by simp [he]⟩ ?_
 rintro m e1 ds s hs ⟨rfl,i,v,acc,hm,hlen,hacc,hf,hv,g13,g3⟩ K1 kn kx
 have he1:e1.length=50:=by simp [hs.1,he]
 have g1:=hs.ev 1 rfl (v:=.iptr (.agg d.cs)) (by simp [he,a0,Dc.cs])
 have g11:=hs.ev 11 rfl (v:=.lst 2 (d.ps.map Pm.av) d.pap) (by simp [he,a0])
 have g12:=hs.ev 12 rfl (v:=.int .i64 d.ps.length) (by simp [he,a0])
 by_cases hi:i<d.ps.length
 ·obtain ⟨q,hq⟩:∃q,q=d.ps[i]:=⟨_,rfl⟩
  have hgq:(d.ps.map Pm.av)[i]'(by simpa using hi)=.agg [.str q.n,.int .i64 q.t]:=by simp [Pm.av,hq]
  have hf1:Fit st (s++[.cells none [.str q.n,.int .i64 q.t]]):=hf.cells (by simp [AV.lowsB,AV.lowB])
  obtain ⟨v',s',p1,p2,p3,p4⟩:=(hv.obj (o:=.cells none [.str q.n,.int .i64 q.t])).push (bytes:=40) (x:=Vr.av ⟨q.n,1,q.t,i⟩) (ap:=.tight) hf1 (by simp;omega) (by omega)
  have w1:IntKind.i64.wrap ((i:Int)+1)=(i:Int)+1:=wrap_i64 (by omega) (by omega)
  simp [Vr.av,Vr.cs] at p1
  simp [a60_1,g11,g12,g13,g3,he1,hi,hgq,p1,w1]
  rw [drop_get hi,←hq] at hacc
  exact kn (m-1) _ _ _ (by omega) ⟨rfl,i+1,v',acc++[⟨q.n,1,q.t,i⟩],by omega,by simp;omega,by rw [←hacc];simp [parV],p3,by simpa using p2,by simp [he1],by simp [he1]⟩
 ·have hil:i=d.ps.length:=by omega
  simp [a60_1,g12,g13,he1,hi]
  refine kx _ _ _ _ nofun fun hs'=>?_
  rw [hil,List.drop_length] at hacc
  simp [parV] at hacc
  clear kn kx hs hs'
  simp only [Dc.cs] at g1
  simp [he1,g1]
  refine aw_loop (W:=w60_0) rfl (fun m e ds s=>ds=[]∧∃(i:Nat) (v:AV) (acc:List Vr),i+m=d.its.length∧acc.length≤d.ps.length+i∧acc++itV (d.its.drop i) i=varsF d∧Fit st s∧Lv st s 4 (some 47) v (acc.map Vr.av) ∧
    AX.ev e (.t 31)=.int .i64 i∧AX.ev e (.t 3)=v) d.its.length
   ⟨rfl,0,v,acc,by simp,by omega,by simp [varsF,hacc],hf,hv,by simp [he1],by simp [he1,g3]⟩ ?_
  clear hv hf hacc hlen hm g3 hil hi g13 i m
  rintro m e2 ds s hs ⟨rfl,i,v,acc,hm,hlen,hacc,hf,hv,g31,g3⟩ K2 kn kx
  have he2:e2.length=50:=by simp [hs.1,he1]
  have g29:=hs.ev 29 rfl (v:=.lst 9 (d.its.map It.av) d.iap) (by simp [he1,g1])
  have g30:=hs.ev 30 rfl (v:=.int .i64 d.its.length) (by simp [he1,g1])
  by_cases hi:i<d.its.length
  ·obtain ⟨x,hx⟩:∃x,x=d.its[i]:=⟨_,rfl⟩
   have hxo:x.Ok:=by rw [hx];exact hd.item _ (List.getElem_mem hi)
   have hgx:(d.its.map It.av)[i]'(by simpa using hi)=.agg x.cs:=by simp [It.av,hx]
   have hf1:Fit st (s++[.cells none x.cs]):=hf.cells (It.low hxo _)
   have hmk:=makes_call hxo hf1.ok
   rw [drop_get hi,←hx,itV] at hacc
   have w1:IntKind.i64.wrap ((i:Int)+1)=(i:Int)+1:=wrap_i64 (by omega) (by omega)
   have hf2:∀u:Vr,Fit st (s++[.cells none x.cs]++[.cells none u.cs]):=fun u=>hf1.cells (u.low _)
   simp only [It.av,It.cs] at hgx hmk hf1 hf2
   cases hmx:makesF x 0 with
   | none =>
    have hmi:makesF x i=none:=by rw [makes_i,hmx];rfl
    rw [hmx] at hmk
    simp [Vr.av,Vr.cs,vr0] at hmk
    have hf3:=hf2 vr0
    simp [Vr.cs,vr0] at hf3
    simp [a60_0,g29,g30,g31,g3,he2,hi,hgx,hmk,w1]
    exact kn (m-1) _ _ _ (by omega) ⟨rfl,i+1,v,acc,by omega,by omega,by rw [←hacc,hmi];simp,hf3,by simpa using (hv.obj).obj,by simp [he2],by simp [he2,g3]⟩
   | some u =>
    have hmi:makesF x i=some { u with i:=i }:=by rw [makes_i,hmx];rfl
    rw [hmx] at hmk
    simp [Vr.av,Vr.cs] at hmk
    have hf3:=hf2 { u with i:=i }
    obtain ⟨v',s',p1,p2,p3,p4⟩:=(hv.obj (o:=.cells none x.cs)).obj (o:=.cells none ({ u with i:=i }:Vr).cs) |>.push (bytes:=40) (x:=Vr.av { u with i:=i }) (ap:=.tight) (by simpa [It.cs] using hf3) (by simp;omega) (by omega)
    simp [Vr.av,Vr.cs,It.cs] at p1
    simp [a60_0,g29,g30,g31,g3,he2,hi,hgx,hmk,w1,p1]
    exact kn (m-1) _ _ _ (by omega) ⟨rfl,i+1,v',acc++[{ u with i:=i }],by omega,by simp;omega,by rw [←hacc,hmi];simp,p3,by simpa using p2,by simp [he2],by simp [he2]⟩
  ·have hil:i=d.its.length:=by omega
   rw [hil,List.drop_length] at hacc
   simp [itV] at hacc
   subst hacc
   simp [a60_0,g30,g31,he2,hi]
   refine kx _ _ _ _ nofun fun hs'=>?_
   simp [he2,g3]
   have hsl:=hv.still (stills_vrs _ _ _)
   exact hK _ _ _ (.inl rfl) hf.take ⟨_,rfl,by simp at hsl;simp [he2,-AV.still,hsl]⟩
end Go.Proofs.YtefildelnccljaaGreat
namespace Go.Proofs.YtefildelnccljaaGreat
open Go Ai
theorem fn30:A.fn 30=some a30:=by kernel_rfl
theorem prim30:A.prim 30=none:=by kernel_rfl
def w30_0:List Nat:=a30_0.writes
def w30_1:List Nat:=a30_1.writes
theorem fn32:A.fn 32=some a32:=by kernel_rfl
theorem prim32:A.prim 32=none:=by kernel_rfl
def w32_0:List Nat:=a32_0.writes
theorem makes_none {x:It} {i:Int} (h1:x.k≠1) (h2:x.k≠2) (h4:x.k≠4) (h6:x.k≠6):makesF x i=none:=by simp [makesF,h1,h2,h4,h6]
theorem vars30_call {d:Dc} (hd:d.Ok) {st:St} (hst:StOk st):runL A (.call 30 [d.av]) st=some ⟨.ret,⟨[.lst 4 ((varsF d).map Vr.av) (endAp (varsF d).length)],[]⟩,st⟩:=by
 refine (task_of_aw (N:=86) prim30 fn30 rfl rfl hst ?_).1
 intro e he ha K hK
 have a0:=ha 0
 clear ha
 simp [Dc.av,Dc.cs] at a0
 simp [a30,he,a0]
 have hps:=hd.ps
 have hits:=hd.its
 refine aw_loop (W:=w30_1) rfl (fun m e ds s=>ds=[]∧∃(i:Nat) (v:AV) (acc:List Vr),i+m=d.ps.length∧acc.length≤i∧acc++parV (d.ps.drop i) i=parV d.ps 0∧Fit st s∧Lv st s 4 (some 47) v (acc.map Vr.av) ∧
   AX.ev e (.t 4)=.int .i64 i∧AX.ev e (.t 3)=v) d.ps.length
  ⟨rfl,0,_,[],by simp,by simp,by simp,.refl hst,.nil,by simp [he],by simp [he]⟩ ?_
 rintro m e1 ds s hs ⟨rfl,i,v,acc,hm,hlen,hacc,hf,hv,g4,g3⟩ K1 kn kx
 have he1:e1.length=86:=by simp [hs.1,he]
 have g1:=hs.ev 1 rfl (v:=.iptr (.agg d.cs)) (by simp [he,a0,Dc.cs])
 simp only [Dc.cs] at g1
 by_cases hi:i<d.ps.length
 ·obtain ⟨q,hq⟩:∃q,q=d.ps[i]:=⟨_,rfl⟩
  have hgq:(d.ps.map Pm.av)[i]'(by simpa using hi)=.agg [.str q.n,.int .i64 q.t]:=by simp [Pm.av,hq]
  obtain ⟨v',s',p1,p2,p3,p4⟩:=hv.push (bytes:=40) (x:=Vr.av ⟨q.n,1,q.t,i⟩) (ap:=.tight) hf (by simp;omega) (by omega)
  have w1:IntKind.i64.wrap ((i:Int)+1)=(i:Int)+1:=wrap_i64 (by omega) (by omega)
  simp [Vr.av,Vr.cs] at p1
  simp [a30_1,g1,g4,g3,he1,hi,hgq,p1,w1]
  rw [drop_get hi,←hq] at hacc
  exact kn (m-1) _ _ _ (by omega) ⟨rfl,i+1,v',acc++[⟨q.n,1,q.t,i⟩],by omega,by simp;omega,by rw [←hacc];simp [parV],p3,by simpa using p2,by simp [he1],by simp [he1]⟩
 ·have hil:i=d.ps.length:=by omega
  simp [a30_1,g1,g4,he1,hi]
  refine kx _ _ _ _ nofun fun hs'=>?_
  rw [hil,List.drop_length] at hacc
  simp [parV] at hacc
  clear kn kx hs hs'
  simp [he1]
  refine aw_loop (W:=w30_0) rfl (fun m e ds s=>ds=[]∧∃(i:Nat) (v:AV) (acc:List Vr),i+m=d.its.length∧acc.length≤d.ps.length+i∧acc++itV (d.its.drop i) i=varsF d∧Fit st s∧Lv st s 4 (some 47) v (acc.map Vr.av) ∧
    AX.ev e (.t 5)=.int .i64 i∧AX.ev e (.t 3)=v) d.its.length
   ⟨rfl,0,v,acc,by simp,by omega,by simp [varsF,hacc],hf,hv,by simp [he1],by simp [he1,g3]⟩ ?_
  clear hv hf hacc hlen hm g3 hil hi g4
  rintro m e2 ds s hs ⟨rfl,i,v,acc,hm,hlen,hacc,hf,hv,g5,g3⟩ K2 kn kx
  have he2:e2.length=86:=by simp [hs.1,he1]
  have g1:=hs.ev 1 rfl (v:=.iptr (.agg d.cs)) (by simp [he1,g1,Dc.cs])
  simp only [Dc.cs] at g1
  by_cases hi:i<d.its.length
  ·obtain ⟨x,hx⟩:∃x,x=d.its[i]:=⟨_,rfl⟩
   have hxo:x.Ok:=by rw [hx];exact hd.item _ (List.getElem_mem hi)
   have hgx:(d.its.map It.av)[i]'(by simpa using hi)=.agg x.cs:=by simp [It.av,hx]
   have hf1:Fit st (s++[.cells none x.cs]):=hf.cells (It.low hxo _)
   rw [drop_get hi,←hx,itV] at hacc
   have w1:IntKind.i64.wrap ((i:Int)+1)=(i:Int)+1:=wrap_i64 (by omega) (by omega)
   have one:∀u:Vr,makesF x i=some u→∃v' s',appendA 4 40 (some 47) (s++[.cells none x.cs]) v (.lst 4 [.agg u.cs] .tight)=some (.val v' s')∧Lv st s' 4 (some 47) v' ((acc++[u]).map Vr.av)∧Fit st s':=by
    intro u hu
    obtain ⟨v',s',p1,p2,p3,p4⟩:=(hv.obj (o:=.cells none x.cs)).push (bytes:=40) (x:=Vr.av u) (ap:=.tight) hf1 (by simp;omega) (by omega)
    exact ⟨v',s',p1,by simpa using p2,p3⟩
   simp only [It.cs] at hgx one hf1
   by_cases h1:x.k=1
   ·have hmi:makesF x i=some ⟨x.n,2,x.t,i⟩:=by simp [makesF,h1]
    obtain ⟨v',s',p1,p2,p3⟩:=one _ hmi
    simp [Vr.cs,h1] at p1
    simp [a30_0,g1,g5,g3,he2,hi,hgx,w1,p1,h1]
    exact kn (m-1) _ _ _ (by omega) ⟨rfl,i+1,v',acc++[⟨x.n,2,x.t,i⟩],by omega,by simp;omega,by rw [←hacc,hmi];simp,p3,p2,by simp [he2],by simp [he2]⟩
   by_cases h2:x.k=2
   ·have hmi:makesF x i=some ⟨x.n,3,1,i⟩:=by simp [makesF,h2]
    obtain ⟨v',s',p1,p2,p3⟩:=one _ hmi
    simp [Vr.cs,h2] at p1
    simp [a30_0,g1,g5,g3,he2,hi,hgx,w1,p1,h2]
    exact kn (m-1) _ _ _ (by omega) ⟨rfl,i+1,v',acc++[⟨x.n,3,1,i⟩],by omega,by simp;omega,by rw [←hacc,hmi];simp,p3,p2,by simp [he2],by simp [he2]⟩
   by_cases h4:x.k=4
   ·have hmi:makesF x i=some ⟨x.n,4,x.t,i⟩:=by simp [makesF,h4]
    obtain ⟨v',s',p1,p2,p3⟩:=one _ hmi
    simp [Vr.cs,h4] at p1
    simp [a30_0,g1,g5,g3,he2,hi,hgx,w1,p1,h4]
    exact kn (m-1) _ _ _ (by omega) ⟨rfl,i+1,v',acc++[⟨x.n,4,x.t,i⟩],by omega,by simp;omega,by rw [←hacc,hmi];simp,p3,p2,by simp [he2],by simp [he2]⟩
   by_cases h6:x.k=6
   ·have hmi:makesF x i=some ⟨x.n,5,0,i⟩:=by simp [makesF,h6]
    obtain ⟨v',s',p1,p2,p3⟩:=one _ hmi
    simp [Vr.cs,h6] at p1
    simp [a30_0,g1,g5,g3,he2,hi,hgx,w1,p1,h6]
    exact kn (m-1) _ _ _ (by omega) ⟨rfl,i+1,v',acc++[⟨x.n,5,0,i⟩],by omega,by simp;omega,by rw [←hacc,hmi];simp,p3,p2,by simp [he2],by simp [he2]⟩
   have hmi:makesF x i=none:=makes_none h1 h2 h4 h6
   simp [a30_0,g1,g5,g3,he2,hi,hgx,w1,h1,h2,h4,h6]
   exact kn (m-1) _ _ _ (by omega) ⟨rfl,i+1,v,acc,by omega,by omega,by rw [←hacc,hmi];simp,hf1,by simpa using hv.obj,by simp [he2],by simp [he2,g3]⟩
  ·have hil:i=d.its.length:=by omega
   rw [hil,List.drop_length] at hacc
   simp [itV] at hacc
   subst hacc
   simp [a30_0,g1,g5,he2,hi]
   refine kx _ _ _ _ nofun fun hs'=>?_
   simp [he2,g3]
   have hsl:=hv.still (stills_vrs _ _ _)
   exact hK _ _ _ (.inl rfl) hf.take ⟨_,rfl,by simp at hsl;simp [he2,-AV.still,hsl]⟩
theorem varsF_len {d:Dc} (hd:d.Ok):(varsF d).length≤2097152:=by
 have h1:∀(l:List Pm) (i:Int),(parV l i).length=l.length:=by
  intro l;induction l with
  | nil=>intro i;rfl
  | cons x l ih=>intro i;simp [parV,ih]
 have h2:∀(l:List It) (i:Int),(itV l i).length≤l.length:=by
  intro l;induction l with
  | nil=>intro i;simp [itV]
  | cons x l ih => intro i; have := ih (i + 1); have : (makesF x i).toList.length ≤ 1 := by cases makesF x i <;> simp
                   simp [itV];omega
 have:=hd.ps;have:=hd.its;have:=h2 d.its 0
 simp [varsF,h1];omega
def findL (l:List Vr) (n:Sx):Option Vr:=l.find? fun v=>decide (v.n=n)
def findF (d:Dc) (n:Sx):Option Vr:=findL (varsF d) n
theorem refFind_call {d:Dc} (hd:d.Ok) {n:Sx} {st:St} (hst:StOk st):runL A (.call 32 [d.av,.str n]) st=some ⟨.ret,⟨[.tup [((findF d n).getD vr0).av,.bool (findF d n).isSome]],[]⟩,st⟩:=by
 have hvl:=varsF_len hd
 have h30:∀s,StOk s→_:=fun s hs=>vars30_call hd (st:=s) hs
 simp only [Dc.av,Dc.cs] at h30
 refine (task_of_aw (N:=28) prim32 fn32 rfl rfl hst ?_).1
 intro e he ha K hK
 have a0:=ha 0
 have a1:=ha 1
 clear ha
 simp [Dc.av,Dc.cs] at a0 a1
 have hf0:Fit st (st++[.cells none vr0.cs]):=(Fit.refl hst).cells (Vr.low _ _)
 have h30':=h30 _ hf0.ok
 simp [Vr.cs,vr0] at h30'
 simp [a32,he,a0,a1,h30']
 refine aw_loop (W:=w32_0) rfl (fun m e ds s=>ds=[]∧s=st++[.cells none vr0.cs]∧∃i:Nat,i+m=(varsF d).length∧findF d n=findL ((varsF d).drop i) n∧AX.ev e (.t 7)=.int .i64 i) (varsF d).length
  ⟨rfl,by simp [Vr.cs,vr0],0,by simp,rfl,by simp [he]⟩ ?_
 rintro m e1 ds s hs ⟨rfl,rfl,i,hm,hspec,g7⟩ K1 kn kx
 have he1:e1.length=28:=by simp [hs.1,he]
 have g1:=hs.ev 1 rfl (v:=.str n) (by simp [he,a1])
 have g4:=hs.ev 4 rfl (v:=.ptr st.length 0) (by simp [he])
 have g6:=hs.ev 6 rfl (v:=.lst 4 ((varsF d).map Vr.av) (endAp (varsF d).length)) (by simp [he])
 by_cases hi:i<(varsF d).length
 ·obtain ⟨v,hv⟩:∃v,v=(varsF d)[i]:=⟨_,rfl⟩
  have hgv:((varsF d).map Vr.av)[i]'(by simpa using hi)=.agg v.cs:=by simp [Vr.av,hv]
  simp only [Vr.cs] at hgv
  rw [drop_get hi,←hv,findL,List.find?_cons] at hspec
  have w1:IntKind.i64.wrap ((i:Int)+1)=(i:Int)+1:=wrap_i64 (by omega) (by omega)
  by_cases hb:v.n=n
  ·simp [hb] at hspec
   simp [a32_0,g1,g4,g6,g7,he1,hi,hgv,hb,vr0,Vr.cs]
   refine kx _ _ _ _ nofun fun hs'=>?_
   simp
   exact hK _ _ _ (.inl rfl) (by simp) ⟨[((findF d n).getD vr0).av,.bool (findF d n).isSome],by simp [a32,he1,g4,hspec,Vr.av,Vr.cs,hb],by simp [Vr.av,Vr.cs,AV.stills]⟩
  ·simp [hb] at hspec
   simp [a32_0,g1,g4,g6,g7,he1,hi,hgv,hb,w1]
   exact kn (m-1) _ _ _ (by omega) ⟨rfl,rfl,i+1,by omega,by simpa [findL] using hspec,by simp [he1]⟩
 ·have hil:i=(varsF d).length:=by omega
  rw [hil,List.drop_length] at hspec
  simp [findL] at hspec
  simp [a32_0,g6,g7,he1,hi]
  refine kx _ _ _ _ nofun fun hs'=>?_
  simp [he1,g4,vr0,Vr.cs]
  exact hK _ _ _ (.inl rfl) (by simp) ⟨[((findF d n).getD vr0).av,.bool (findF d n).isSome],by simp [a32,he1,g4,hspec,Vr.av,Vr.cs,vr0],by simp [Vr.av,Vr.cs,AV.stills]⟩
end Go.Proofs.YtefildelnccljaaGreat
namespace Go.Proofs.YtefildelnccljaaGreat
open Go Ai
theorem fn62:A.fn 62=some a62:=by kernel_rfl
theorem prim62:A.prim 62=none:=by kernel_rfl
def w62_0:List Nat:=a62_0.writes
theorem fn25:A.fn 25=some a25:=by kernel_rfl
theorem prim25:A.prim 25=none:=by kernel_rfl
theorem fn27:A.fn 27=some a27:=by kernel_rfl
theorem prim27:A.prim 27=none:=by kernel_rfl
def rootsJ (x:It):List Int:=(if x.k≤5 then [x.e] else [])++(if hasF x.k then [x.f] else [])
def rootsN (d:Dc):List Int:=d.its.flatMap rootsJ++(if d.k=3 then [] else [d.e])
theorem rootsJ_len (x:It):(rootsJ x).length≤2:=by unfold rootsJ;split<;>split<;>simp
theorem roots62_call {d:Dc} (hd:d.Ok) {st:St} (hst:StOk st):runL A (.call 62 [d.av]) st=some ⟨.ret,⟨[.lst 1 (ints (rootsN d)) (endAp (rootsN d).length)],[]⟩,st⟩:=by
 refine (task_of_aw (N:=54) prim62 fn62 rfl rfl hst ?_).1
 intro e he ha K hK
 have a0:=ha 0
 clear ha
 simp [Dc.av,Dc.cs] at a0
 simp [a62,he,a0]
 have hits:=hd.its
 refine aw_loop (W:=w62_0) rfl (fun m e ds s=>ds=[]∧∃(i:Nat) (v:AV) (acc:List Int),i+m=d.its.length∧acc.length≤2 * i∧acc++(d.its.drop i).flatMap rootsJ=d.its.flatMap rootsJ∧Fit st s∧Lv st s 1 (some 3) v (ints acc) ∧
   AX.ev e (.t 9)=.int .i64 i∧AX.ev e (.t 3)=v) d.its.length
  ⟨rfl,0,_,[],by simp,by simp,by simp,.refl hst,.nil,by simp [he],by simp [he]⟩ ?_
 rintro m e1 ds s hs ⟨rfl,i,v,acc,hm,hlen,hacc,hf,hv,g9,g3⟩ K1 kn kx
 have he1:e1.length=54:=by simp [hs.1,he]
 have g1:=hs.ev 1 rfl (v:=.iptr (.agg d.cs)) (by simp [he,a0,Dc.cs])
 have g7:=hs.ev 7 rfl (v:=.lst 9 (d.its.map It.av) d.iap) (by simp [he,a0])
 have g8:=hs.ev 8 rfl (v:=.int .i64 d.its.length) (by simp [he,a0])
 simp only [Dc.cs] at g1
 have one:∀(u:Int) (acc:List Int) (v:AV) (s:St),acc.length≤4000000→Fit st s→Lv st s 1 (some 3) v (ints acc) →
   ∃v' s',appendA 1 8 (some 3) s v (.lst 1 [.int .i64 u] .tight)=some (.val v' s')∧Lv st s' 1 (some 3) v' (ints (acc++[u]))∧Fit st s'∧Steady 0 s s':=by
  intro u acc v s hl hf hv
  obtain ⟨v',s',p1,p2,p3,p4⟩:=hv.push (bytes:=8) (x:=.int .i64 u) (ap:=.tight) hf (by simp [ints];omega) (by omega)
  exact ⟨v',s',p1,by simpa [ints] using p2,p3,p4⟩
 by_cases hi:i<d.its.length
 ·obtain ⟨x,hx⟩:∃x,x=d.its[i]:=⟨_,rfl⟩
  have hxo:x.Ok:=by rw [hx];exact hd.item _ (List.getElem_mem hi)
  have hgx:(d.its.map It.av)[i]'(by simpa using hi)=.agg x.cs:=by simp [It.av,hx]
  have hf1:Fit st (s++[.cells none x.cs]):=hf.cells (It.low hxo _)
  have hv1:=hv.obj (o:=.cells none x.cs)
  have hg1:(s++[.cells none x.cs])[s.length]?=some (.cells none x.cs):=by simp
  rw [drop_get hi,←hx,List.flatMap_cons,←List.append_assoc] at hacc
  have w1:IntKind.i64.wrap ((i:Int)+1)=(i:Int)+1:=wrap_i64 (by omega) (by omega)
  have close:∀e2 v' s',AX.ev e2 (.t 9)=.int .i64 (i+1)→AX.ev e2 (.t 3)=v'→Fit st s'→Lv st s' 1 (some 3) v' (ints (acc++rootsJ x))→K1 .nrm e2 [] s':=by
   intro e2 v' s' h9 h3 hf' hv'
   have:=rootsJ_len x
   exact kn (m-1) _ _ _ (by omega) ⟨rfl,i+1,v',acc++rootsJ x,by omega,by simp;omega,hacc,hf',hv',by simpa using h9,h3⟩
  generalize hs1:s++[.cells none x.cs]=s1 at hf1 hv1 hg1
  have hF:hasF x.k=(decide (x.k=2) || decide (x.k=3) || decide (x.k=5) || decide (x.k=7)):=rfl
  obtain ⟨v2,s2,p1,p2,p3,p4⟩:=one x.e acc v s1 (by omega) hf1 hv1
  obtain ⟨v3,s3,q1,q2,q3,q4⟩:=one x.f (acc++[x.e]) v2 s2 (by simp;omega) p3 p2
  obtain ⟨v4,s4,r1,r2,r3,r4⟩:=one x.f acc v s1 (by omega) hf1 hv1
  have hg2:=p4.obj hg1
  have hg3:=q4.obj hg2
  simp only [It.cs] at hgx hs1 hg1 hg2 hg3
  by_cases h5:x.k≤5
  ·simp [a62_0,g7,g8,g9,g3,he1,hi,hgx,hs1,hg1,h5,p1,hg2]
   by_cases h2:x.k=2
   ·simp [h2,he1,hg2,q1,w1,g9]
    exact close _ v3 s3 (by simp [he1]) (by simp [he1]) q3 (by simpa [rootsJ,hasF,h2] using q2)
   by_cases h3:x.k=3
   ·simp [h3,he1,hg2,q1,w1,g9]
    exact close _ v3 s3 (by simp [he1]) (by simp [he1]) q3 (by simpa [rootsJ,hasF,h3] using q2)
   by_cases h4:x.k=5
   ·simp [h4,he1,hg2,q1,w1,g9]
    exact close _ v3 s3 (by simp [he1]) (by simp [he1]) q3 (by simpa [rootsJ,hasF,h4] using q2)
   have h7:¬x.k=7:=by omega
   simp [h2,h3,h4,h7,he1,hg2,w1,g9]
   exact close _ v2 s2 (by simp [he1]) (by simp [he1]) p3 (by simpa [rootsJ,hasF,h2,h3,h4,h7,h5] using p2)
  ·have h2:¬x.k=2:=by omega
   have h3:¬x.k=3:=by omega
   have h4:¬x.k=5:=by omega
   simp [a62_0,g7,g8,g9,g3,he1,hi,hgx,hs1,hg1,h5,h2,h3,h4]
   by_cases h7:x.k=7
   ·simp [h7,he1,hg1,r1,w1,g9,g3]
    exact close _ v4 s4 (by simp [he1]) (by simp [he1]) r3 (by simpa [rootsJ,hasF,h7] using r2)
   ·simp [h7,he1,hg1,w1,g9]
    exact close _ v s1 (by simp [he1]) (by simp [he1,g3]) hf1 (by simpa [rootsJ,hasF,h2,h3,h4,h7,h5] using hv1)
 ·have hil:i=d.its.length:=by omega
  rw [hil,List.drop_length] at hacc
  simp at hacc
  simp [a62_0,g8,g9,he1,hi]
  refine kx _ _ _ _ nofun fun hs'=>?_
  by_cases hk:d.k=3
  ·have hr:rootsN d=acc:=by simp [rootsN,hacc,hk]
   simp [he1,g1,g3,hk]
   have hsl:=hv.still (stills_ints _ _ _)
   rw [ints_length] at hsl
   exact hK _ _ _ (.inl rfl) hf.take ⟨_,rfl,by rw [hr];simp [he1,-AV.still,hsl]⟩
  ·have hr:rootsN d=acc++[d.e]:=by simp [rootsN,hacc,hk]
   obtain ⟨v2,s2,p1,p2,p3,p4⟩:=one d.e acc v s (by omega) hf hv
   simp [he1,g1,g3,hk,p1]
   have hsl:=p2.still (stills_ints _ _ _)
   rw [ints_length] at hsl
   exact hK _ _ _ (.inl rfl) p3.take ⟨_,rfl,by rw [hr];simp [he1,-AV.still,hsl]⟩
theorem ds_len {p:Pg} {d:Int} (h:thereF p d=true):0≤d∧d.toNat<p.ds.length:=by
 simp [thereF] at h;omega
def varsP (p:Pg) (d:Int):List Vr:=if h:thereF p d=true then varsF (p.ds[d.toNat]'(ds_len h).2) else []
theorem vars25_call {p:Pg} (hp:p.Ok) {d:Int} {st:St} (hst:StOk st):runL A (.call 25 [p.av,.int .i64 d]) st=some ⟨.ret,⟨[.lst 4 ((varsP p d).map Vr.av) (endAp (varsP p d).length)],[]⟩,st⟩:=by
 have h59:=there_call hp (d:=d) hst
 simp only [Pg.av] at h59
 refine (task_of_aw (N:=15) prim25 fn25 rfl rfl hst ?_).1
 intro e he ha K hK
 have a0:=ha 0
 have a1:=ha 1
 clear ha
 simp [Pg.av] at a0 a1
 by_cases ht:thereF p d=true
 ·obtain ⟨i,rfl⟩:∃i:Nat,d=i:=⟨d.toNat,by have:=ds_len ht;omega⟩
  have hi:i<p.ds.length:=by have:=ds_len ht;omega
  have hv:varsP p i=varsF p.ds[i]:=by simp [varsP,ht]
  have h60:=vars60_call (hp.dc _ (List.getElem_mem hi)) hst
  have hcs:=ds_get hi
  generalize p.ds[i]=D at *
  rw [ht] at h59
  simp only [Dc.cs,Dc.av] at hcs h60
  simp [a25,he,a0,a1,h59,hi,hcs,h60]
  exact hK _ _ _ (.inl rfl) (by simp) ⟨_,rfl,by rw [hv];simp [he,-AV.still,still_end (stills_vrs _ _ _)]⟩
 ·have hv:varsP p d=[]:=by simp [varsP,ht]
  simp at ht
  rw [ht] at h59
  simp [a25,he,a0,a1,h59]
  exact hK _ _ _ (.inl rfl) (by simp) ⟨_,rfl,by rw [hv];simp [he,AV.stills,endAp]⟩
def rootsP (p:Pg) (d:Int):List Int:=if h:thereF p d=true then rootsN (p.ds[d.toNat]'(ds_len h).2) else []
theorem roots27_call {p:Pg} (hp:p.Ok) {d:Int} {st:St} (hst:StOk st):runL A (.call 27 [p.av,.int .i64 d]) st=some ⟨.ret,⟨[.lst 1 (ints (rootsP p d)) (endAp (rootsP p d).length)],[]⟩,st⟩:=by
 have h59:=there_call hp (d:=d) hst
 simp only [Pg.av] at h59
 refine (task_of_aw (N:=15) prim27 fn27 rfl rfl hst ?_).1
 intro e he ha K hK
 have a0:=ha 0
 have a1:=ha 1
 clear ha
 simp [Pg.av] at a0 a1
 by_cases ht:thereF p d=true
 ·obtain ⟨i,rfl⟩:∃i:Nat,d=i:=⟨d.toNat,by have:=ds_len ht;omega⟩
  have hi:i<p.ds.length:=by have:=ds_len ht;omega
  have hv:rootsP p i=rootsN p.ds[i]:=by simp [rootsP,ht]
  have h60:=roots62_call (hp.dc _ (List.getElem_mem hi)) hst
  have hcs:=ds_get hi
  generalize p.ds[i]=D at *
  rw [ht] at h59
  simp only [Dc.cs,Dc.av] at hcs h60
  simp [a27,he,a0,a1,h59,hi,hcs,h60]
  exact hK _ _ _ (.inl rfl) (by simp) ⟨_,rfl,by rw [hv];simp [he,-AV.still,still_end (stills_ints _ _ _)]⟩
 ·have hv:rootsP p d=[]:=by simp [rootsP,ht]
  simp at ht
  rw [ht] at h59
  simp [a27,he,a0,a1,h59]
  exact hK _ _ _ (.inl rfl) (by simp) ⟨_,rfl,by rw [hv];simp [he,AV.stills,endAp,ints]⟩
end Go.Proofs.YtefildelnccljaaGreat
namespace Go.Proofs.YtefildelnccljaaGreat
open Go Ai
theorem fn98:A.fn 98=some a98:=by kernel_rfl
theorem prim98:A.prim 98=none:=by kernel_rfl
theorem fn133:A.fn 133=some a133:=by kernel_rfl
theorem prim133:A.prim 133=none:=by kernel_rfl
def w133_0:List Nat:=a133_0.writes
theorem fn61:A.fn 61=some a61:=by kernel_rfl
theorem prim61:A.prim 61=none:=by kernel_rfl
theorem back98_call {m:Nat} {l:List AV} {ap:Ap} (hl:∀n,AV.lowsB n l=true) (hap:Still ap) {st:St} (hst:StOk st):runL A (.call 98 [.lst m l ap]) st=some ⟨.ret,⟨[.func (.func 133) [] [.iptr (.lst m l ap)]],[]⟩,st⟩:=by
 refine (task_of_aw (N:=4) prim98 fn98 rfl rfl hst ?_).1
 intro e he ha K hK
 have a0:=ha 0
 clear ha
 simp at a0
 simp [a98,he,a0]
 have hlw:AV.lowB st.length (.lst m l ap)=true:=by rw [low_lst hap,hl]
 exact hK _ _ _ (.inl rfl) (by simp) ⟨_,rfl,by simp [he,AV.still,AV.lowsB,-AV.lowB];simp [AV.lowB,AV.lowsB] at hlw ⊢;exact hlw⟩
theorem back133 {vs:List Vr} {ap:Ap} (hl:vs.length≤1000000000):IterOk A 133 [.iptr (.lst 4 (vs.map Vr.av) ap)] vs.length fun k=>[.int .i64 ((vs.length-1-k:Nat)),(vs.getD (vs.length-1-k) vr0).av]:=by
 intro r st0 J S hround hend h0
 refine Exists.elim (task_of_aw_keep_ex (A:=A) (f:=133) (F:=a133) (args:=[.func (.yield r) [] [],.iptr (.lst 4 (vs.map Vr.av) ap)]) (v:=.tup []) (N:=19) (st:=st0) S prim133 fn133 rfl rfl ?_) fun st3 h=>⟨st3,h.2.2,h.1⟩
 intro e he ha K hK
 have a0:=ha 0
 have a1:=ha 1
 clear ha
 simp at a0 a1
 have w0:IntKind.i64.wrap ((vs.length:Int)-1)=(vs.length:Int)-1:=wrap_i64 (by omega) (by omega)
 simp [a133,he,a0,a1,w0]
 refine aw_loop (W:=w133_0) rfl (fun m e ds s=>ds=[]∧m≤vs.length∧J (vs.length-m) s∧AX.ev e (.t 3)=.int .i64 ((m:Int)-1)) vs.length
  ⟨rfl,by simp,by simpa using h0,by simp [he]⟩ ?_
 rintro m e1 ds s hs ⟨rfl,hm,hJ,g3⟩ K1 kn kx
 have he1:e1.length=19:=by simp [hs.1,he]
 have g0:=hs.ev 0 rfl (v:=.func (.yield r) [] []) (by simp [he,a0])
 have g1:=hs.ev 1 rfl (v:=.iptr (.lst 4 (vs.map Vr.av) ap)) (by simp [he,a1])
 cases m with
 | zero =>
  simp [a133_0,g3,he1]
  refine kx _ _ _ _ nofun fun hs'=>?_
  simp
  exact hK _ _ _ (.inr rfl) (hend _ (by simpa using hJ)) ⟨[],rfl,rfl⟩
 | succ k =>
  obtain ⟨b,s',hr,hb1,hb2⟩:=hround _ s (by omega) hJ
  have e1':vs.length-1-(vs.length-(k+1))=k:=by omega
  have hk:k<vs.length:=by omega
  have hgv:(vs.map Vr.av)[k]'(by simpa using hk)=(vs.getD k vr0).av:=by simp [List.getD_eq_getElem?_getD,hk]
  dsimp only at hr
  rw [e1'] at hr
  generalize vs.getD k vr0=V at hr hgv
  have g3':AX.ev e1 (.t 3)=.int .i64 k:=by rw [g3];simp
  have hk':(0:Int)≤(k:Int):=by omega
  have w1:IntKind.i64.wrap ((k:Int)-1)=(k:Int)-1:=wrap_i64 (by omega) (by omega)
  simp only [Vr.av,Vr.cs] at hr hgv
  cases b with
  | true =>
   simp [a133_0,g0,g1,g3',he1,hk,hk',hgv,hr,w1]
   exact kn k _ _ _ (by omega) ⟨rfl,by omega,by rw [show vs.length-k=vs.length-(k+1)+1 by omega];exact hb1 rfl,by simp [he1]⟩
  | false =>
   simp [a133_0,g0,g1,g3',he1,hk,hk',hgv,hr,w1]
   refine kx _ _ _ _ nofun fun hs'=>?_
   simp
   exact hK _ _ _ (.inl rfl) (hb2 rfl) ⟨[],rfl,rfl⟩
def C61 (st:St) (env:Env) (es:List (Sx×Vr)) (s:LoopState):St :=
 st++[.map (encM AV.str Vr.av es),.cells none [.map st.length],.defr (some []),.loop s none 61 0 [10,11] env (st.length+2)]
theorem enc_low (n:Nat) (es:List (Sx×Vr)):AObj.lowB n (.map (encM AV.str Vr.av es))=true:=low_enc (fun _=>rfl) (fun v=>v.low n)
theorem find_cons (v:Vr) (l:List Vr) (n:Sx):findL (v::l) n=if v.n=n then some v else findL l n:=by
 simp only [findL,List.find?_cons];by_cases h:v.n=n<;>simp [h]
theorem scope_call {d:Dc} (hd:d.Ok) {st:St} (hst:StOk st):∃es:List (Sx×Vr),∃st',runL A (.call 61 [d.av]) st=some ⟨.ret,⟨[.map st.length],[]⟩,st'⟩∧Fit st st'∧st'[st.length]?=some (.map (encM AV.str Vr.av es))∧∀n,getM n es=findF d n:=by
 have hvl:=varsF_len hd
 refine Exists.elim (task_of_aw_keep_d (A:=A) (f:=61) (F:=a61) (args:=[d.av]) (v:=.map st.length) (N:=17) (st:=st)
  (fun st'=>∃es:List (Sx×Vr),Fit st st'∧st'[st.length]?=some (.map (encM AV.str Vr.av es))∧∀n,getM n es=findF d n) prim61 fn61 rfl rfl ?_) fun st3 h=>by
   obtain ⟨⟨es,h1,h2,h3⟩,h4,_⟩:=h;exact ⟨es,st3,h4,h1,h2,h3⟩
 intro e he ha K hK
 have a0:=ha 0
 have hlow:AV.lowsB (st.length+4) e=true:=lows_args ha (by
  have:=Dc.low hd (st.length+4)
  simp [AV.lowsB,AV.lowB,Dc.av,this])
 clear ha
 simp [Dc.av,Dc.cs] at a0
 have hst1:StOk (st++[.map [],.cells none [.map st.length]]):=by
  have:=(hst.snoc (o:=.map []) rfl).snoc (o:=.cells none [.map st.length]) (by simp [AObj.lowB,AV.lowsB,AV.lowB];omega)
  simpa using this
 have h60:=vars60_call hd hst1
 have hVS:∀v∈(varsF d).map Vr.av,∀n,AV.lowB n v=true:=by
  intro v hv n;obtain ⟨u,_,rfl⟩:=List.mem_map.1 hv;exact u.low n
 have h98:=back98_call (m:=4) (l:=(varsF d).map Vr.av) (ap:=endAp (varsF d).length) (fun n=>lows_map fun u _=>u.low n) (by unfold endAp;split;exact .tight;exact .no) hst1
 have hit:=back133 (vs:=varsF d) (ap:=endAp (varsF d).length) (by omega)
 generalize hV:varsF d=VS at *
 simp only [Dc.av,Dc.cs] at h60
 simp [a61,he,a0,h60,h98]
 generalize hE:(List.set _ 9 _:Env)=E
 have g3:AX.ev E (.t 3)=.ptr (st.length+1) 0:=by subst hE;simp [he]
 have he1:E.length=17:=by subst hE;simp [he]
 have hf:AX.ev E (.t 9)=.func (.func 133) [] [.iptr (.lst 4 (VS.map Vr.av) (endAp VS.length))]:=by subst hE;simp [he]
 have hlE:AV.lowsB (st.length+4) E=true:=by
  have hap:Still (endAp VS.length):=by unfold endAp;split;exact .tight;exact .no
  have hl0:AV.lowsB (st.length+4) (VS.map Vr.av)=true:=lows_map fun u _=>u.low _
  have hdl:=Dc.low hd (st.length+4)
  simp only [Dc.cs] at hdl
  subst hE
  repeat' refine lows_set ?_ (by first | (simp [AV.lowB,AV.lowsB];done) | (rw [low_lst hap];exact hl0) | (simpa [AV.lowB,AV.lowsB] using hdl) | (have:=low_lst (n:=st.length+4) (m:=4) (es:=VS.map Vr.av) hap;simp only [AV.lowB,AV.lowsB,Bool.and_true,Bool.true_and] at this ⊢;rw [this];exact hl0))
  exact hlow
 clear hE
 have hok0:StOk (C61 st E [] .ready):=by
  have h:=(hst1.snoc (o:=.defr (some [])) rfl).snoc (o:=.loop .ready none 61 0 [10,11] E (st.length+2)) (by simp [AObj.lowB];exact hlE)
  simpa [C61,encM] using h
 obtain ⟨st3,hr,hS⟩:=hit (st.length+3) (C61 st E [] .ready)
  (fun k s=>∃es l,s=C61 st E es .ready++l∧StOk s∧∀n,getM n es=findL (VS.drop (VS.length-k)) n)
  (fun s=>∃es l,s=C61 st E es .ready++l∧StOk s∧∀n,getM n es=findL VS n)
  (fun k s hk hJ=>by
   obtain ⟨es,l,h0,hok,hfind⟩:=hJ
   have hlp:s[st.length+3]?=some (.loop .ready none 61 0 [10,11] E (st.length+2)):=by rw [h0];simp [C61]
   have hlt:=(List.getElem?_eq_some_iff.1 hlp).1
   obtain ⟨v,hv⟩:∃v,v=VS.getD (VS.length-1-k) vr0:=⟨_,rfl⟩
   have hnext:∀n,getM n (putM v.n v es)=findL (VS.drop (VS.length-(k+1))) n:=by
    intro n
    have hi:VS.length-(k+1)<VS.length:=by omega
    rw [getM_putM,drop_get hi,find_cons,show VS.length-(k+1)+1=VS.length-k by omega,hfind]
    have:VS[VS.length-(k+1)]=v:=by rw [hv,List.getD_eq_getElem?_getD,show VS.length-1-k=VS.length-(k+1) by omega];simp [hi]
    rw [this]
   refine Exists.elim (round_of_aw2 (A:=A) (fn:=61) (r:=st.length+3) (F:=a61) (site:=0) (ps:=[10,11]) (env:=E) (d:=st.length+2) (pend:=none) (args:=[.int .i64 ((VS.length-1-k:Nat)),v.av]) (st:=s)
    (asg:=(a61.sites.getD 0 (.skip,.skip)).1) (body:=(a61.sites.getD 0 (.skip,.skip)).2) (env1:=(((E.set 10 (.int .i64 ((VS.length-1-k:Nat)))).set 11 v.av).set 5 (.ptr s.length 0))) (st1:=s++[.cells none v.cs])
    (G:=fun b st'=>b=true∧∃es l,st'=C61 st E es .ready++l∧StOk st'∧∀n,getM n es=findL (VS.drop (VS.length-(k+1))) n)
    fn61 rfl rfl hlp (by simp [a61,he1,Vr.av,Vr.cs,putCells]) (by rw [List.getElem?_append_left hlt];exact hlp) ?_) (fun b ⟨st',h,hb1,hb2⟩=>⟨b,st',by dsimp only;rw [←hv];exact h,fun _=>hb2,fun h=>by rw [hb1] at h;cases h⟩)
   intro K hn hr' _
   simp only [a61,List.getD_cons_zero]
   have hok1:StOk (s++[.cells none v.cs]):=obj_ok hok (v.low _)
   have hS:(s++[AObj.cells none v.cs]).set (st.length+3) (.loop .busy none 61 0 [10,11] E (st.length+2))=C61 st E es .busy++(l++[.cells none v.cs]):=by
    rw [h0];simp [C61,set_base]
   have hx:(C61 st E es .busy++(l++[.cells none v.cs]))[s.length]?=some (.cells none v.cs):=by
    rw [←hS,List.getElem?_set_ne (by omega)];simp
   rw [hS]
   have hput:=put_enc (K:=AV.str) (V:=Vr.av) key_str v.n v es
   have hfin:StOk (C61 st E (putM v.n v es) .ready++(l++[.cells none v.cs])):=by
    have h1:=hok1.set' (i:=st.length) (o:=.map (encM AV.str Vr.av (putM v.n v es))) (enc_low _ _)
    rw [h0] at h1
    simpa [C61,set_base] using h1
   generalize hl2:l++[AObj.cells none v.cs]=l2 at hx hfin
   simp only [Vr.av,Vr.cs] at hput hx
   simp [C61] at hx
   simp [C61,he1,g3,hx,-opA_mapUpdate,opA_mapUpdate',keyKind,Vr.av,Vr.cs,hput]
   refine hn _ _ (by simp) ⟨rfl,putM v.n v es,l2,by simp [C61],?_,hnext⟩
   simpa [C61] using hfin)
  (fun s hJ=>by
   obtain ⟨es,l,h0,hok,hfind⟩:=hJ
   exact ⟨es,l,h0,hok,by simpa using hfind⟩)
  ⟨[],[],by simp,hok0,by intro n;simp [getM,findL]⟩
 obtain ⟨es,l,rfl,hok3,hfind⟩:=hS
 refine aw_range (s:=.ready) (pend:=none) (f':=61) (site':=0) (ps':=[10,11]) (env':=E) (d':=st.length+2) (st3:=C61 st E es .ready++l) hf (by simpa [C61,encM,Nat.add_assoc] using hr) (by simp [C61,Nat.add_assoc]) (by simp) ?_
 simp [pendEx,C61,g3,he1,Nat.add_assoc,set_base,get_base]
 have h1:=(hok3.set' (i:=st.length+3) (o:=.loop .exhausted none 61 0 [10,11] E (st.length+2)) (by have:=hok3.get (i:=st.length+3) (o:=.loop .ready none 61 0 [10,11] E (st.length+2)) (by simp [C61]);simpa [AObj.lowB] using this)).set' (i:=st.length+2) (o:=.defr none) rfl
 simp [C61,set_base] at h1
 refine hK _ _ _ _ _ (.inl rfl) (by simp [set_base,get_base]) ⟨es,⟨⟨by simp,by simp,fun _=>h1⟩,h1⟩,by simp,by intro n;rw [hfind,findF,hV]⟩ ⟨_,rfl,by simp [he1]⟩
end Go.Proofs.YtefildelnccljaaGreat
namespace Go.Proofs.YtefildelnccljaaGreat
open Go Ai
theorem flatMap_eq {α β:Type} {f g:α→List β}:∀{l:List α},(∀x∈l,f x=g x)→l.flatMap f=l.flatMap g
 | [],_=>rfl
 | x::l,h=>by rw [List.flatMap_cons,List.flatMap_cons,h x (by simp),flatMap_eq (l:=l) fun y hy=>h y (by simp [hy])]
theorem roots_may {p:Pg} (hm:may7 p=true) {d:Dc} (hd:d∈p.ds):rootsN d=rootsF d:=by
 simp only [may7,Bool.and_eq_true,List.all_eq_true] at hm
 have h:=hm.1 d hd
 simp only [declK,Bool.and_eq_true,Bool.not_eq_true',Bool.or_eq_false_iff,decide_eq_false_iff_not,List.all_eq_true] at h
 obtain ⟨⟨h1,h3⟩,hits⟩:=h
 have e1:d.its.flatMap rootsJ=d.its.flatMap rootsI:=by
  have:∀x∈d.its,rootsJ x=rootsI x:=by
   intro x hx
   have hk:=hits x hx
   simp only [itemK,Bool.not_eq_true',Bool.or_eq_false_iff,decide_eq_false_iff_not] at hk
   have hk1:1≤x.k:=by omega
   simp [rootsJ,rootsI,hasE,hk1]
  exact flatMap_eq this
 rw [rootsN,rootsF,e1]
 by_cases h:d.k=3
 ·simp [h]
 ·have:d.k<3:=by omega
  simp [h,this]
end Go.Proofs.YtefildelnccljaaGreat
namespace Go.Proofs.YtefildelnccljaaGreat
open Go Ai
end Go.Proofs.YtefildelnccljaaGreat
