/- Part Ke. No condition. -/
import Derived.Test.YtgkhmmlemgikjaaGreatDoorKd
import Derived.Test.YtgkhmmlemgikjaaGreatDoorEd
import Derived.Test.YtgkhmmlemgikjaaGreatDoorEh
set_option linter.unusedVariables false
set_option linter.unusedSimpArgs false
namespace Go.Proofs.YtgkhmmlemgikjaaGreatDoor
open Go Ai
abbrev Fa:=Int×Int
def Still (ap:Ap):Prop:=∀id,ap≠.tok id
theorem Still.tight:Still .tight:=nofun
theorem Still.no:Still .no:=nofun
theorem eq_fl (x y:Fa):eqCells [0,0] [.int .i64 x.1,.int .i64 x.2] [.int .i64 y.1,.int .i64 y.2]=some (decide (x=y)):=by
 obtain ⟨a,b⟩:=x
 obtain ⟨c,d⟩:=y
 have k1:(a == c)=decide (a=c):=rfl
 have k2:(b == d)=decide (b=d):=rfl
 by_cases h1:a=c<;>by_cases h2:b=d<;>simp [eqCells,keyKind,sameKey,k1,k2,h1,h2]
end Go.Proofs.YtgkhmmlemgikjaaGreatDoor
namespace Go.Proofs.YtgkhmmlemgikjaaGreatDoor
open Go Ai
abbrev Sx:=List UInt8
structure Ex where
 k:Int
 a:Int
 b:Int
 c:Int
 n:Sx
 s:Sx
 v:Int
 args:List Int
 ap:Ap
 p:Int
def ints (l:List Int):List AV:=l.map (.int .i64)
def strs (l:List Sx):List AV:=l.map .str
def Ex.cs (x:Ex):List AV:=[.int .i64 x.k,.int .i64 x.a,.int .i64 x.b,.int .i64 x.c,.str x.n,.str x.s,.int .i64 x.v,.lst 1 (ints x.args) x.ap,.int .i64 x.p]
def Ex.av (x:Ex):AV:=.agg x.cs
structure It where
 k:Int
 n:Sx
 t:Int
 e:Int
 f:Int
 ss:List Sx
 ap:Ap
 s:Sx
 x:Sx
 p:Int
def It.cs (x:It):List AV:=[.int .i64 x.k,.str x.n,.int .i64 x.t,.int .i64 x.e,.int .i64 x.f,.lst 1 (strs x.ss) x.ap,.str x.s,.str x.x,.int .i64 x.p]
def It.av (x:It):AV:=.agg x.cs
structure Pm where
 n:Sx
 t:Int
def Pm.av (x:Pm):AV:=.agg [.str x.n,.int .i64 x.t]
structure Dc where
 k:Int
 n:Sx
 ps:List Pm
 pap:Ap
 its:List It
 iap:Ap
 t:Int
 e:Int
 p:Int
def Dc.cs (x:Dc):List AV:=[.int .i64 x.k,.str x.n,.lst 2 (x.ps.map Pm.av) x.pap,.lst 9 (x.its.map It.av) x.iap,.int .i64 x.t,.int .i64 x.e,.int .i64 x.p]
def Dc.av (x:Dc):AV:=.agg x.cs
structure Pg where
 ds:List Dc
 dap:Ap
 xs:List Ex
 xap:Ap
def Pg.av (p:Pg):AV:=.agg [.lst 7 (p.ds.map Dc.av) p.dap,.lst 9 (p.xs.map Ex.av) p.xap]
structure Ex.Ok (x:Ex):Prop where
 n:x.n.length≤1048576
 s:x.s.length≤1048576
 args:x.args.length≤1048576
 ap:Still x.ap
structure It.Ok (x:It):Prop where
 n:x.n.length≤1048576
 ss:x.ss.length≤1048576
 ap:Still x.ap
structure Dc.Ok (x:Dc):Prop where
 n:x.n.length≤1048576
 ps:x.ps.length≤1048576
 its:x.its.length≤1048576
 pap:Still x.pap
 iap:Still x.iap
 item:∀i∈x.its,i.Ok
structure Pg.Ok (p:Pg):Prop where
 ds:p.ds.length≤1048576
 xs:p.xs.length≤1048576
 dap:Still p.dap
 xap:Still p.xap
 dc:∀d∈p.ds,d.Ok
 ex:∀x∈p.xs,x.Ok
theorem ints_length (l:List Int):(ints l).length=l.length:=by simp [ints]
theorem ints_get {l:List Int} {i:Nat} (h:i<l.length):(ints l)[i]'(by rw [ints_length];exact h)=.int .i64 l[i]:=by simp [ints]
theorem strs_length (l:List Sx):(strs l).length=l.length:=by simp [strs]
theorem strs_get {l:List Sx} {i:Nat} (h:i<l.length):(strs l)[i]'(by rw [strs_length];exact h)=.str l[i]:=by simp [strs]
end Go.Proofs.YtgkhmmlemgikjaaGreatDoor
namespace Go.Proofs.YtgkhmmlemgikjaaGreatDoor
open Go Ai
theorem fn33:A.fn 33=some a33:=by kernel_rfl
theorem prim33:A.prim 33=none:=by kernel_rfl
theorem fn32:A.fn 32=some a32:=by kernel_rfl
theorem prim32:A.prim 32=none:=by kernel_rfl
theorem fn55:A.fn 55=some a55:=by kernel_rfl
theorem prim55:A.prim 55=none:=by kernel_rfl
theorem fn51:A.fn 51=some a51:=by kernel_rfl
theorem prim51:A.prim 51=none:=by kernel_rfl
def hasE (k:Int):Bool:=decide (1≤k) && decide (k≤5)
def hasF (k:Int):Bool:=decide (k=2) || decide (k=3) || decide (k=5) || decide (k=7)
theorem has_call {k:Int} {st:St} (hst:StOk st):runL A (.call 33 [.int .i64 k]) st=some ⟨.ret,⟨[.tup [.bool (hasE k),.bool (hasF k)]],[]⟩,st⟩:=by
 refine (task_of_aw (N:=24) prim33 fn33 rfl rfl hst ?_).1
 intro e he ha K hK
 have a0:=ha 0
 clear ha
 simp at a0
 simp [a33,he,a0]
 repeat' ((first | refine conda_splitn (fun h=>?_) (fun h=>?_) | refine grda_splitn (fun h=>?_) (fun h=>?_) | refine conda_split (fun h=>?_) (fun h=>?_) | refine grda_split (fun h=>?_) (fun h=>?_))<;>simp [he,a0,h])
 all_goals exact hK _ _ _ (.inl rfl) (by simp) ⟨_,rfl,by clear hK;simp_all [AV.still,AV.stills,hasE,hasF]<;>omega⟩
def pointsF (n:Nat) (k:Int) (h:Bool):Bool:=h && (decide (0≤k) && decide (k<n)) || !h && decide (k=0)
theorem points_call {p:Pg} {k:Int} {h:Bool} {st:St} (hst:StOk st):runL A (.call 32 [p.av,.int .i64 k,.bool h]) st=some ⟨.ret,⟨[.bool (pointsF p.xs.length k h)],[]⟩,st⟩:=by
 refine (task_of_aw (N:=27) prim32 fn32 rfl rfl hst ?_).1
 intro e he ha K hK
 have a0:=ha 0
 have a1:=ha 1
 have a2:=ha 2
 clear ha
 simp [Pg.av] at a0 a1 a2
 cases h
 all_goals simp [a32,he,a0,a1,a2]
 all_goals repeat' ((first | refine conda_splitn (fun h=>?_) (fun h=>?_) | refine grda_splitn (fun h=>?_) (fun h=>?_) | refine conda_split (fun h=>?_) (fun h=>?_) | refine grda_split (fun h=>?_) (fun h=>?_))<;>simp [he,a0,a1,a2,h])
 all_goals exact hK _ _ _ (.inl rfl) (by simp) ⟨_,rfl,by clear hK;simp_all [AV.still,AV.stills,pointsF]<;>omega⟩
def manyF (k:Int):Int :=
 if k=4∨k=5∨k=16∨k=21 then 1 else if (6≤k∧k≤14)∨k=17∨k=18 then 2 else if k=15 then 3 else if k=19 then -1 else 0
theorem many_call {k:Int} {st:St} (hst:StOk st):runL A (.call 55 [.int .i64 k]) st=some ⟨.ret,⟨[.int .i64 (manyF k)],[]⟩,st⟩:=by
 refine (task_of_aw (N:=25) prim55 fn55 rfl rfl hst ?_).1
 intro e he ha K hK
 have a0:=ha 0
 clear ha
 simp at a0
 simp [a55,he,a0]
 repeat' ((first | refine conda_splitn (fun h=>?_) (fun h=>?_) | refine grda_splitn (fun h=>?_) (fun h=>?_) | refine conda_split (fun h=>?_) (fun h=>?_) | refine grda_split (fun h=>?_) (fun h=>?_))<;>simp [he,a0,h])
 all_goals (refine hK _ _ _ (.inl rfl) (by simp) ⟨_,rfl,?_⟩;clear hK;simp_all [AV.still,manyF])
 all_goals omega
def partsF (x:Ex):List Int:=if manyF x.k<0 then x.args else [x.a,x.b,x.c].take (manyF x.k).toNat
theorem many_le (k:Int):manyF k≤3:=by unfold manyF;repeat' split<;>omega
def partsAp (x:Ex):Ap:=if manyF x.k<0 then endAp x.args.length else if manyF x.k=3 then .tight else .no
theorem stills_ints (n:Nat) (st:St):∀l:List Int,AV.stills n st (ints l)=some (ints l)
 | []=>rfl
 | x::l=>by
  have:=stills_ints n st l
  simp only [ints,List.map_cons,AV.stills,AV.still] at this ⊢
  rw [this];simp [AV.lowB]
theorem many_ge (k:Int):-1≤manyF k:=by unfold manyF;repeat' split<;>omega
theorem parts_call {x:Ex} (hx:x.Ok) {st:St} (hst:StOk st):runL A (.call 51 [x.av]) st=some ⟨.ret,⟨[.lst 1 (ints (partsF x)) (partsAp x)],[]⟩,st⟩:=by
 have h105:=many_call (k:=x.k) hst
 have h1:=many_le x.k
 have h2:=many_ge x.k
 refine (task_of_aw (N:=24) prim51 fn51 rfl rfl hst ?_).1
 intro e he ha K hK
 have a0:=ha 0
 clear ha
 simp [Ex.av,Ex.cs] at a0
 by_cases hm:manyF x.k<0
 ·by_cases ha0:x.args=[]
  ·have hap:appendA 1 8 (some 3) st (.lst 1 [] .tight) (.lst 1 (ints x.args) x.ap)=some (.val (.lst 1 [] .tight) st):=by simp [appendA,elemsOf,AV.asLst,ints,ha0]
   simp [a51,he,a0,h105,hm,hap]
   exact hK _ _ _ (.inl rfl) (by simp) ⟨_,rfl,by clear hK;simp [he,AV.still,AV.stills,partsF,partsAp,hm,ha0,endAp,ints]⟩
  ·obtain ⟨ap',st1,hap,ho,hg,_⟩:=append_own (st:=st) (b:=st.length) (m:=1) (ty:=some 3) (ap:=.tight) (bytes:=8) (ap0:=x.ap) (ys:=ints x.args) (es:=[]) (Nat.le_refl _) (.inl rfl) (by simpa [ints] using ha0) (by have:=hx.args;simp [Ai.great,ints];omega) (by omega)
   simp only [List.nil_append] at hap ho
   have hs:=own_still (es:=ints x.args) ho (stills_ints _ _ _)
   simp [a51,he,a0,h105,hm,hap]
   exact hK _ _ _ (.inl rfl) (by have:=hg.take;simpa using this) ⟨_,rfl,by
    clear hK
    rw [show partsF x=x.args by simp [partsF,hm],show partsAp x=endAp (ints x.args).length by simp [partsAp,hm,ints],←hs]
    simp [he,-AV.still]⟩
 ·rcases (by omega:manyF x.k=0∨manyF x.k=1∨manyF x.k=2∨manyF x.k=3) with hk | hk | hk | hk
  all_goals
   rw [hk] at h105
   simp [a51,he,a0,h105,bound]
   exact hK _ _ _ (.inl rfl) (by simp) ⟨_,rfl,by clear hK;simp [he,AV.still,AV.stills,partsF,partsAp,hk,ints,AV.lowB]⟩
end Go.Proofs.YtgkhmmlemgikjaaGreatDoor
namespace Go.Proofs.YtgkhmmlemgikjaaGreatDoor
open Go Ai
theorem fn31:A.fn 31=some a31:=by kernel_rfl
theorem prim31:A.prim 31=none:=by kernel_rfl
def w31_0:List Nat:=a31_0.writes
def oneF (x:Ex) (t:Int):Bool :=
 (decide (1≤x.k) && decide (x.k≤21)) && (partsF x).all (fun l=>decide (0≤l) && decide (l<t)) &&
 !((decide (manyF x.k<1) && !decide (x.a=0)) || (decide (manyF x.k<2) && !decide (x.b=0)) || (decide (manyF x.k<3) && !decide (x.c=0)) || (decide (0≤manyF x.k) && decide (0<x.args.length))) &&
 ((decide (x.k=3) || decide (x.k=19) || decide (x.k=20)) == !decide (x.n=[])) && (decide (x.k=20) == !decide (x.s=[])) &&
 (if 2<x.k then decide (x.v=0) else decide (0≤x.v) && (decide (x.k=1) || decide (x.v≤1)))
theorem parts_len (x:Ex) (hx:x.Ok):(partsF x).length≤1048576:=by
 unfold partsF;split
 ·exact hx.args
 ·simp;omega
theorem one_call {x:Ex} {t:Int} (hx:x.Ok) {st:St} (hst:StOk st):runL A (.call 31 [x.av,.int .i64 t]) st=some ⟨.ret,⟨[.bool (oneF x t)],[]⟩,st⟩:=by
 have h105:=many_call (k:=x.k) hst
 have h68:=parts_call hx hst
 have hpl:=parts_len x hx
 refine (task_of_aw (N:=122) prim31 fn31 rfl rfl hst ?_).1
 intro e he ha K hK
 have a0:=ha 0
 have a1:=ha 1
 clear ha
 simp only [Ex.av,Ex.cs] at h68
 simp [Ex.av,Ex.cs] at a0 a1
 by_cases hk:1≤x.k∧x.k≤21
 ·have hk1:¬x.k<1:=by omega
  have hk2:¬21<x.k:=by omega
  simp [a31,he,a0,a1,hk1,hk2,h105,h68]
  refine aw_loop (W:=w31_0) rfl (fun m e ds st'=>ds=[]∧st'=st∧∃i:Nat,i+m=(partsF x).length∧(∀l∈(partsF x).take i,0≤l∧l<t)∧AX.ev e (.t 7)=.int .i64 i) (partsF x).length
   ⟨rfl,rfl,0,by simp,by simp,by simp [he]⟩ ?_
  rintro m e1 ds st' hs ⟨rfl,rfl,i,hm,hall,g7⟩ K1 kn kx
  have he1:e1.length=122:=by simp [hs.1,he]
  have g1:=hs.ev 1 rfl (v:=.int .i64 t) (by simp [he,a1])
  have g2:=hs.ev 2 rfl (v:=.iptr x.av) (by simp [he,a0,Ex.av,Ex.cs])
  have g5:=hs.ev 5 rfl (v:=.int .i64 (manyF x.k)) (by simp [he])
  have g6:=hs.ev 6 rfl (v:=.lst 1 (ints (partsF x)) (partsAp x)) (by simp [he])
  by_cases hi:i<(partsF x).length
  ·obtain ⟨y,hy⟩:∃y,y=(partsF x)[i]:=⟨_,rfl⟩
   have hgy:=ints_get hi
   rw [←hy] at hgy
   have w1:IntKind.i64.wrap ((i:Int)+1)=(i:Int)+1:=wrap_i64 (by omega) (by omega)
   have hbad:¬(0≤y∧y<t)→oneF x t=false:=by
    intro h
    have:(partsF x).all (fun l=>decide (0≤l) && decide (l<t))=false:=by
     rw [List.all_eq_false]
     exact ⟨y,by rw [hy];exact List.getElem_mem hi,by simpa using h⟩
    simp [oneF,this]
   by_cases hy0:y<0
   ·have:=hbad (by omega)
    simp [a31_0,g1,g6,g7,he1,hi,hgy,ints_length,hy0]
    refine kx _ _ _ _ nofun fun hs'=>?_
    simp [he1]
    exact hK _ _ _ (.inl rfl) (by simp) ⟨_,rfl,by simp [he1,AV.still,this]⟩
   ·by_cases hyt:t≤y
    ·have:=hbad (by omega)
     simp [a31_0,g1,g6,g7,he1,hi,hgy,ints_length,hy0,hyt]
     refine kx _ _ _ _ nofun fun hs'=>?_
     simp [he1]
     exact hK _ _ _ (.inl rfl) (by simp) ⟨_,rfl,by simp [he1,AV.still,this]⟩
    ·simp [a31_0,g1,g6,g7,he1,hi,hgy,ints_length,hy0,hyt,w1]
     exact kn (m-1) _ _ _ (by omega) ⟨rfl,rfl,i+1,by omega,by
      rw [List.take_succ_eq_append_getElem hi,←hy]
      intro l hl
      rcases List.mem_append.1 hl with hl | hl
      ·exact hall l hl
      ·rw [List.mem_singleton.1 hl];omega,by simp [he1]⟩
  ·have hil:i=(partsF x).length:=by omega
   rw [hil,List.take_length] at hall
   have hgood:(partsF x).all (fun l=>decide (0≤l) && decide (l<t))=true:=by
    rw [List.all_eq_true];intro l hl;have:=hall l hl;simp [this]
   have hone:oneF x t=(!((decide (manyF x.k<1) && !decide (x.a=0)) || (decide (manyF x.k<2) && !decide (x.b=0)) || (decide (manyF x.k<3) && !decide (x.c=0)) || (decide (0≤manyF x.k) && decide (0<x.args.length))) &&
     ((decide (x.k=3) || decide (x.k=19) || decide (x.k=20)) == !decide (x.n=[])) && (decide (x.k=20) == !decide (x.s=[])) &&
     (if 2<x.k then decide (x.v=0) else decide (0≤x.v) && (decide (x.k=1) || decide (x.v≤1)))):=by
    simp only [oneF,hgood,decide_eq_true hk.1,decide_eq_true hk.2,Bool.and_true,Bool.true_and]
   clear hgood hall
   simp [a31_0,g6,g7,he1,hi,ints_length]
   refine kx _ _ _ _ nofun fun hs'=>?_
   simp only [blk_exit,if_true,sq_nrm]
   clear hs' hs kn kx
   refine aw_assoc.2 (aw_join (fun e2=>AX.ev e2 (.t 75)=.bool ((decide (manyF x.k<1) && !decide (x.a=0)) || (decide (manyF x.k<2) && !decide (x.b=0)) || (decide (manyF x.k<3) && !decide (x.c=0)) || (decide (0≤manyF x.k) && decide (0<x.args.length)))) ?_ fun e2 hs2 h75=>?_)
   ·simp [he1,g2,g5,Ex.av,Ex.cs]
    repeat' ((first | refine conda_splitn (fun h=>?_) (fun h=>?_) | refine grda_splitn (fun h=>?_) (fun h=>?_) | refine conda_split (fun h=>?_) (fun h=>?_) | refine grda_split (fun h=>?_) (fun h=>?_))<;>simp [he1,g2,g5,Ex.av,Ex.cs,h])
    all_goals simp_all [ints_length]
    all_goals omega
   have he2:e2.length=122:=by simp [hs2.1,he1]
   have g2:=hs2.ev 2 rfl (v:=.iptr (.agg x.cs)) (by simp [he1,g2,Ex.av])
   clear hs2 g1 g5 g6 g7
   generalize ((decide (manyF x.k<1) && !decide (x.a=0)) || (decide (manyF x.k<2) && !decide (x.b=0)) || (decide (manyF x.k<3) && !decide (x.c=0)) || (decide (0≤manyF x.k) && decide (0<x.args.length)))=B1 at h75 hone
   cases B1 with
   | true =>
    simp at hone
    simp [h75,he2]
    exact hK _ _ _ (.inl rfl) (by simp) ⟨_,rfl,by simp [he2,AV.still,hone]⟩
   | false =>
    rw [aw_seq,aw_condA,h75]
    simp only [conda_false,aw_skip,sq_nrm]
    refine aw_join (fun e3=>AX.ev e3 (.t 8)=.bool (decide (x.k=3) || decide (x.k=19) || decide (x.k=20))) ?_ fun e3 hs3 h8=>?_
    ·simp [he2,g2,Ex.cs]
     repeat' ((first | refine conda_splitn (fun h=>?_) (fun h=>?_) | refine grda_splitn (fun h=>?_) (fun h=>?_) | refine conda_split (fun h=>?_) (fun h=>?_) | refine grda_split (fun h=>?_) (fun h=>?_))<;>simp [he2,g2,Ex.cs,h])
     all_goals simp_all
    have he3:e3.length=122:=by simp [hs3.1,he2]
    have g2:=hs3.ev 2 rfl (v:=.iptr (.agg x.cs)) g2
    clear hs3 h75
    generalize (decide (x.k=3) || decide (x.k=19) || decide (x.k=20))=N at h8 hone
    refine aw_assoc.2 (aw_join (fun e4=>AX.ev e4 (.t 102)=.bool (!((N == !decide (x.n=[])) && (decide (x.k=20) == !decide (x.s=[]))))) ?_ fun e4 hs4 h102=>?_)
    ·simp [he3,g2,h8,Ex.cs]
     repeat' ((first | refine conda_splitn (fun h=>?_) (fun h=>?_) | refine grda_splitn (fun h=>?_) (fun h=>?_) | refine conda_split (fun h=>?_) (fun h=>?_) | refine grda_split (fun h=>?_) (fun h=>?_))<;>simp [he3,g2,h8,Ex.cs,h])
    have he4:e4.length=122:=by simp [hs4.1,he3]
    have g2:=hs4.ev 2 rfl (v:=.iptr (.agg x.cs)) g2
    clear hs4 h8
    have hone:oneF x t=(((N == !decide (x.n=[])) && (decide (x.k=20) == !decide (x.s=[]))) && (if 2<x.k then decide (x.v=0) else decide (0≤x.v) && (decide (x.k=1) || decide (x.v≤1)))):=by
     rw [hone];simp
    generalize ((N == !decide (x.n=[])) && (decide (x.k=20) == !decide (x.s=[])))=B2 at h102 hone
    cases B2 with
    | false =>
     simp at hone
     simp [h102,he4]
     exact hK _ _ _ (.inl rfl) (by simp) ⟨_,rfl,by simp [he4,AV.still,hone]⟩
    | true =>
     simp only [Bool.true_and] at hone
     simp at h102
     by_cases hk2:2<x.k
     ·rw [if_pos hk2] at hone
      simp [h102,he4,g2,Ex.cs,hk2]
      exact hK _ _ _ (.inl rfl) (by simp) ⟨_,rfl,by simp [he4,AV.still,hone]⟩
     ·rw [if_neg hk2] at hone
      simp [h102,he4,g2,Ex.cs,hk2]
      repeat' ((first | refine conda_splitn (fun h=>?_) (fun h=>?_) | refine grda_splitn (fun h=>?_) (fun h=>?_) | refine conda_split (fun h=>?_) (fun h=>?_) | refine grda_split (fun h=>?_) (fun h=>?_))<;>simp [he4,g2,Ex.cs,hk2,h])
      all_goals exact hK _ _ _ (.inl rfl) (by simp) ⟨_,rfl,by clear hK;simp_all [AV.still]⟩
 ·have:oneF x t=false:=by
   have:(decide (1≤x.k) && decide (x.k≤21))=false:=by simpa using hk
   simp [oneF,this]
  by_cases hk1:x.k<1
  ·simp [a31,he,a0,a1,hk1]
   exact hK _ _ _ (.inl rfl) (by simp) ⟨_,rfl,by simp [he,AV.still,this]⟩
  ·have hk2:21<x.k:=by omega
   simp [a31,he,a0,a1,hk1,hk2]
   exact hK _ _ _ (.inl rfl) (by simp) ⟨_,rfl,by simp [he,AV.still,this]⟩
end Go.Proofs.YtgkhmmlemgikjaaGreatDoor
namespace Go.Proofs.YtgkhmmlemgikjaaGreatDoor
open Go Ai
theorem Still.or {ap:Ap} (h:Still ap):ap=.tight∨ap=.no:=by
 cases ap with
 | tok id=>exact absurd rfl (h id)
 | tight=>exact .inl rfl
 | no=>exact .inr rfl
theorem lows_map {α:Type} {n:Nat} {f:α→AV}:∀{l:List α},(∀x∈l,AV.lowB n (f x)=true)→AV.lowsB n (l.map f)=true
 | [],_=>rfl
 | x::l,h=>by simp only [List.map_cons,AV.lowsB,h x (by simp),lows_map (l:=l) fun y hy=>h y (by simp [hy]),Bool.and_self]
theorem lows_ints (n:Nat) (l:List Int):AV.lowsB n (ints l)=true:=lows_map fun _ _=>rfl
theorem lows_strs (n:Nat) (l:List Sx):AV.lowsB n (strs l)=true:=lows_map fun _ _=>rfl
theorem Ex.low {x:Ex} (h:x.Ok) (n:Nat):AV.lowsB n x.cs=true:=by
 rcases h.ap.or with e | e<;>simp [Ex.cs,AV.lowsB,AV.lowB,e,lows_ints]
theorem It.low {x:It} (h:x.Ok) (n:Nat):AV.lowsB n x.cs=true:=by
 rcases h.ap.or with e | e<;>simp [It.cs,AV.lowsB,AV.lowB,e,lows_strs]
theorem Pm.low (x:Pm) (n:Nat):AV.lowB n x.av=true:=by simp [Pm.av,AV.lowsB,AV.lowB]
theorem Dc.low {x:Dc} (h:x.Ok) (n:Nat):AV.lowsB n x.cs=true:=by
 rcases h.pap.or with e | e<;>rcases h.iap.or with e' | e'<;>simp [Dc.cs,AV.lowsB,AV.lowB,e,e',lows_map fun (y:Pm) _=>y.low n,lows_map fun (y:It) hy=>(show AV.lowB n y.av=true from It.low (h.item y hy) n)]
theorem obj_ok {st:St} (h:StOk st) {cs:List AV} (g:AV.lowsB (st.length+1) cs=true) {ty:Option TypeId}:StOk (st++[.cells ty cs]):=h.snoc (by simpa [AObj.lowB] using g)
@[simp] theorem Ex.cs_len (x:Ex):x.cs.length=9:=rfl
@[simp] theorem It.cs_len (x:It):x.cs.length=9:=rfl
@[simp] theorem Dc.cs_len (x:Dc):x.cs.length=7:=rfl
theorem ds_get {p:Pg} {i:Nat} (h:i<p.ds.length):(p.ds.map Dc.av)[i]'(by simpa using h)=.agg p.ds[i].cs:=by simp [Dc.av]
theorem xs_get {p:Pg} {i:Nat} (h:i<p.xs.length):(p.xs.map Ex.av)[i]'(by simpa using h)=.agg p.xs[i].cs:=by simp [Ex.av]
theorem drop_get {α:Type} {l:List α} {i:Nat} (h:i<l.length):l.drop i=l[i]::l.drop (i+1):=by simp
end Go.Proofs.YtgkhmmlemgikjaaGreatDoor
namespace Go.Proofs.YtgkhmmlemgikjaaGreatDoor
open Go Ai
theorem fn15:A.fn 15=some a15:=by kernel_rfl
theorem prim15:A.prim 15=none:=by kernel_rfl
def w15_0:List Nat:=a15_0.writes
def w15_1:List Nat:=a15_1.writes
def w15_2:List Nat:=a15_2.writes
def onesF:List Ex→Nat→Bool
 | [],_=>true
 | x::l,i=>oneF x i && onesF l (i+1)
def itemR (n:Nat) (x:It):Bool:=pointsF n x.e (hasE x.k) && pointsF n x.f (hasF x.k)
def declR (n:Nat) (d:Dc):Bool:=pointsF n d.e (decide (d.k=1) || decide (d.k=2)) && d.its.all (itemR n)
def may4 (p:Pg):Bool:=onesF p.xs 0 && p.ds.all (declR p.xs.length)
theorem may4_call {p:Pg} (hp:p.Ok) {st:St} (hst:StOk st):runL A (.call 15 [p.av]) st=some ⟨.ret,⟨[.bool (may4 p)],[]⟩,st⟩:=by
 refine (task_of_aw (N:=88) prim15 fn15 rfl rfl hst ?_).1
 intro e he ha K hK
 have a0:=ha 0
 clear ha
 simp [Pg.av] at a0
 simp [a15,he,a0]
 have hxs:=hp.xs
 refine aw_loop (W:=w15_2) rfl (fun m e ds st'=>ds=[]∧st'=st∧∃i:Nat,i+m=p.xs.length∧onesF p.xs 0=onesF (p.xs.drop i) i∧AX.ev e (.t 3)=.int .i64 i) p.xs.length
  ⟨rfl,rfl,0,by simp,by simp,by simp [he]⟩ ?_
 rintro m e1 ds st' hs ⟨rfl,rfl,i,hm,hspec,g3⟩ K1 kn kx
 have he1:e1.length=88:=by simp [hs.1,he]
 have g1:=hs.ev 1 rfl (v:=.iptr p.av) (by simp [he,a0,Pg.av])
 simp [Pg.av] at g1
 by_cases hi:i<p.xs.length
 ·have hgx:=xs_get hi
  have hone:=one_call (x:=p.xs[i]) (t:=(i:Int)) (hp.ex _ (List.getElem_mem hi)) hst
  simp only [Ex.av] at hone
  have w1:IntKind.i64.wrap ((i:Int)+1)=(i:Int)+1:=wrap_i64 (by omega) (by omega)
  rw [drop_get hi,onesF] at hspec
  cases hb:oneF p.xs[i] i with
  | false =>
   rw [hb] at hone hspec
   simp [a15_2,g1,g3,he1,hi,hgx,hone]
   refine kx _ _ _ _ nofun fun hs'=>?_
   simp [he1]
   exact hK _ _ _ (.inl rfl) (by simp) ⟨_,rfl,by simp [he1,AV.still,may4,hspec]⟩
  | true =>
   rw [hb] at hone hspec
   simp [a15_2,g1,g3,he1,hi,hgx,hone,w1]
   exact kn (m-1) _ _ _ (by omega) ⟨rfl,rfl,i+1,by omega,by simpa using hspec,by simp [he1]⟩
 ·have hil:i=p.xs.length:=by omega
  have hall:onesF p.xs 0=true:=by rw [hspec,hil];simp [onesF]
  simp [a15_2,g1,g3,he1,hil]
  refine kx _ _ _ _ nofun fun hs'=>?_
  have h4:may4 p=p.ds.all (declR p.xs.length):=by simp [may4,hall]
  clear hspec hs hs' kn kx g3
  simp [he1]
  have hds:=hp.ds
  refine aw_loop (W:=w15_1) rfl (fun m e ds s2=>ds=[]∧s2.take st'.length=st'∧st'.length≤s2.length∧StOk s2∧∃i:Nat,i+m=p.ds.length∧may4 p=(p.ds.drop i).all (declR p.xs.length)∧AX.ev e (.t 4)=.int .i64 i) p.ds.length
   ⟨rfl,by simp,by simp,hst,0,by simp,by simpa using h4,by simp [he1]⟩ ?_
  rintro m e2 ds s2 hs ⟨rfl,ht2,hl2,hst2,i,hm,hspec,g4⟩ K2 kn kx
  have he2:e2.length=88:=by simp [hs.1,he1]
  have g1:=hs.ev 1 rfl (v:=.iptr (.agg [.lst 7 (p.ds.map Dc.av) p.dap,.lst 9 (p.xs.map Ex.av) p.xap])) (by simp [he1,g1])
  by_cases hi:i<p.ds.length
  ·obtain ⟨d,hd⟩:∃d,d=p.ds[i]:=⟨_,rfl⟩
   have hdo:d.Ok:=by rw [hd];exact hp.dc _ (List.getElem_mem hi)
   have hgd:=ds_get hi
   rw [←hd] at hgd
   rw [drop_get hi,←hd,List.all_cons] at hspec
   have w1:IntKind.i64.wrap ((i:Int)+1)=(i:Int)+1:=wrap_i64 (by omega) (by omega)
   have hst3:StOk (s2++[.cells none d.cs]):=obj_ok hst2 (Dc.low hdo _)
   have hpt:=fun h=>points_call (p:=p) (k:=d.e) (h:=h) hst3
   simp only [Pg.av] at hpt
   have hcs:=hgd
   have hst3':=hst3
   simp only [Dc.cs] at hcs hpt hst3'
   have ht3:(s2++[AObj.cells none d.cs]).take st'.length=st':=by rw [List.take_append_of_le_length hl2,ht2]
   simp only [Dc.cs] at ht3
   simp [a15_1,g1,g4,he2,hi,hcs]
   refine grda_join (fun e3=>AX.ev e3 (.t 48)=.bool (!pointsF p.xs.length d.e (decide (d.k=1) || decide (d.k=2)))) ?_ fun e3 hs3 h48=>?_
   ·repeat' ((first | refine conda_splitn (fun h=>?_) (fun h=>?_) | refine grda_splitn (fun h=>?_) (fun h=>?_) | refine conda_split (fun h=>?_) (fun h=>?_) | refine grda_split (fun h=>?_) (fun h=>?_))<;>simp [he2,g1,h,hpt])
   have he3:e3.length=88:=by simp [hs3.1,he2]
   have g1:=hs3.ev 1 rfl (v:=.iptr (.agg [.lst 7 (p.ds.map Dc.av) p.dap,.lst 9 (p.xs.map Ex.av) p.xap])) (by simp [he2,g1])
   have g5:=hs3.ev 5 rfl (v:=.ptr s2.length 0) (by simp [he2])
   have g4:=hs3.ev 4 rfl (v:=.int .i64 i) (by simp [he2,g4])
   clear hs3 hpt
   cases hb:pointsF p.xs.length d.e (decide (d.k=1) || decide (d.k=2)) with
   | false =>
    simp [hb] at h48
    simp [declR,hb] at hspec
    simp [h48,he3]
    refine kx _ _ _ _ nofun fun hs'=>?_
    simp [he3]
    exact hK _ _ _ (.inl rfl) (by simpa using ht3) ⟨_,rfl,by simp [he3,AV.still,hspec]⟩
   | true =>
    simp [hb] at h48
    have hspec':may4 p=(d.its.all (itemR p.xs.length) && (p.ds.drop (i+1)).all (declR p.xs.length)):=by rw [hspec];simp [declR,hb]
    clear hspec
    simp [h48,he3]
    have hits:=hdo.its
    refine aw_loop (W:=w15_0) rfl (fun m e ds s4=>ds=[]∧s4=s2++[.cells none [.int .i64 d.k,.str d.n,.lst 2 (d.ps.map Pm.av) d.pap,.lst 9 (d.its.map It.av) d.iap,.int .i64 d.t,.int .i64 d.e,.int .i64 d.p]] ∧
      ∃j:Nat,j+m=d.its.length∧may4 p=((d.its.drop j).all (itemR p.xs.length) && (p.ds.drop (i+1)).all (declR p.xs.length))∧AX.ev e (.t 6)=.int .i64 j) d.its.length
     ⟨rfl,rfl,0,by simp,by simpa using hspec',by simp [he3]⟩ ?_
    clear hspec'
    rintro m5 e5 ds s4 hs5 ⟨rfl,rfl,j,hm5,hspec,g6⟩ K5 kn5 kx5
    have he5:e5.length=88:=by simp [hs5.1,he3]
    have g1:=hs5.ev 1 rfl (v:=.iptr (.agg [.lst 7 (p.ds.map Dc.av) p.dap,.lst 9 (p.xs.map Ex.av) p.xap])) (by simp [he3,g1])
    have g5:=hs5.ev 5 rfl (v:=.ptr s2.length 0) (by simp [he3,g5])
    have g4:=hs5.ev 4 rfl (v:=.int .i64 i) (by simp [he3,g4])
    by_cases hj:j<d.its.length
    ·obtain ⟨x,hx⟩:∃x,x=d.its[j]:=⟨_,rfl⟩
     have hgx:(d.its.map It.av)[j]'(by simpa using hj)=.agg x.cs:=by simp [It.av,hx]
     rw [drop_get hj,←hx,List.all_cons] at hspec
     have h64:=has_call (k:=x.k) hst3'
     have hpt:=fun k h=>points_call (p:=p) (k:=k) (h:=h) hst3'
     simp only [Pg.av] at hpt
     have w2:IntKind.i64.wrap ((j:Int)+1)=(j:Int)+1:=wrap_i64 (by omega) (by omega)
     simp only [It.cs] at hgx
     simp [a15_0,g1,g5,g6,he5,hj,hgx,h64,hpt]
     refine grdp_join (fun e6=>AX.ev e6 (.t 87)=.bool (!itemR p.xs.length x)) ?_ fun e6 hs6 h87=>?_
     ·repeat' ((first | refine conda_splitn (fun h=>?_) (fun h=>?_) | refine grda_splitn (fun h=>?_) (fun h=>?_) | refine conda_split (fun h=>?_) (fun h=>?_) | refine grda_split (fun h=>?_) (fun h=>?_))<;>simp [he5,g1,g5,g6,hgx,hj,hpt,h])
      all_goals simp_all [itemR]
     have he6:e6.length=88:=by simp [hs6.1,he5]
     have g6:=hs6.ev 6 rfl (v:=.int .i64 j) (by simp [he5,g6])
     clear hs6 hpt h64
     cases hb2:itemR p.xs.length x with
     | false =>
      simp [hb2] at h87 hspec
      simp [h87,he6]
      refine kx5 _ _ _ _ nofun fun hs'=>?_
      simp [he6]
      refine kx _ _ _ _ nofun fun hs'=>?_
      simp [he6]
      exact hK _ _ _ (.inl rfl) (by simpa using ht3) ⟨_,rfl,by simp [he6,AV.still,hspec]⟩
     | true =>
      simp [hb2] at h87
      simp only [hb2,Bool.true_and] at hspec
      simp [h87,he6,g6,w2]
      exact kn5 (m5-1) _ _ _ (by omega) ⟨rfl,rfl,j+1,by omega,hspec,by simp [he6]⟩
    ·have hjl:j=d.its.length:=by omega
     rw [hjl] at hspec g6
     simp at hspec
     simp [a15_0,g1,g5,g6,he5]
     refine kx5 _ _ _ _ nofun fun hs'=>?_
     simp [he5,g4,w1]
     exact kn (m-1) _ _ _ (by omega) ⟨rfl,ht3,by simp;omega,hst3',i+1,by omega,by simpa using hspec,by simp [he5]⟩
  ·have hil:i=p.ds.length:=by omega
   rw [hil] at hspec g4
   simp at hspec
   simp [a15_1,g1,g4,he2]
   refine kx _ _ _ _ nofun fun hs'=>?_
   simp [he2]
   exact hK _ _ _ (.inl rfl) ht2 ⟨_,rfl,by simp [he2,AV.still,hspec]⟩
end Go.Proofs.YtgkhmmlemgikjaaGreatDoor
namespace Go.Proofs.YtgkhmmlemgikjaaGreatDoor
open Go Ai
def itemK (k:Int) (x:It):Bool:=!(decide (x.k<1) || decide (8<x.k) || (decide (k<3) && !decide (x.k=1)) || (decide (x.k=6) && decide (x.ss.length=0)))
def declK (d:Dc):Bool:=!(decide (d.k<1) || decide (3<d.k)) && d.its.all (itemK d.k)
def may7 (p:Pg):Bool:=p.ds.all declK && may4 p
end Go.Proofs.YtgkhmmlemgikjaaGreatDoor
namespace Go.Proofs.YtgkhmmlemgikjaaGreatDoor
open Go Ai
end Go.Proofs.YtgkhmmlemgikjaaGreatDoor
namespace Go.Proofs.YtgkhmmlemgikjaaGreatDoor
open Go Ai
end Go.Proofs.YtgkhmmlemgikjaaGreatDoor
namespace Go.Proofs.YtgkhmmlemgikjaaGreatDoor
open Go Ai
end Go.Proofs.YtgkhmmlemgikjaaGreatDoor
namespace Go.Proofs.YtgkhmmlemgikjaaGreatDoor
open Go Ai
def idxF {α:Type} (P:α→Bool):List α→Nat→Int
 | [],_=>-1
 | x::l,i=>if P x then (i:Int) else idxF P l (i+1)
theorem idxF_any {α:Type} (P:α→Bool):∀(l:List α) (i:Nat),decide (0≤idxF P l i)=l.any P
 | [],_=>by simp [idxF]
 | x::l,i=>by
  have:=idxF_any P l (i+1)
  cases hb:P x<;>simp [idxF,hb]
  simpa using this
end Go.Proofs.YtgkhmmlemgikjaaGreatDoor
namespace Go.Proofs.YtgkhmmlemgikjaaGreatDoor
open Go Ai
end Go.Proofs.YtgkhmmlemgikjaaGreatDoor
namespace Go.Proofs.YtgkhmmlemgikjaaGreatDoor
open Go Ai
end Go.Proofs.YtgkhmmlemgikjaaGreatDoor
namespace Go.Proofs.YtgkhmmlemgikjaaGreatDoor
open Go Ai
structure Vr where
 n:Sx
 s:Int
 t:Int
 i:Int
 deriving DecidableEq
def Vr.cs (v:Vr):List AV:=[.str v.n,.int .i64 v.s,.int .i64 v.t,.int .i64 v.i]
def Vr.av (v:Vr):AV:=.agg v.cs
@[simp] theorem Vr.cs_len (x:Vr):x.cs.length=4:=rfl
theorem Vr.low (v:Vr) (n:Nat):AV.lowsB n v.cs=true:=by simp [Vr.cs,AV.lowsB,AV.lowB]
def makesF (x:It) (i:Int):Option Vr :=
 if x.k=1 then some ⟨x.n,2,x.t,i⟩ else if x.k=2 then some ⟨x.n,3,1,i⟩ else if x.k=4 then some ⟨x.n,4,x.t,i⟩ else if x.k=6 then some ⟨x.n,5,0,i⟩ else none
def itV:List It→Int→List Vr
 | [],_=>[]
 | x::l,i=>(makesF x i).toList++itV l (i+1)
def parV:List Pm→Int→List Vr
 | [],_=>[]
 | q::l,i=>⟨q.n,1,q.t,i⟩::parV l (i+1)
def varsF (d:Dc):List Vr:=parV d.ps 0++itV d.its 0
end Go.Proofs.YtgkhmmlemgikjaaGreatDoor
namespace Go.Proofs.YtgkhmmlemgikjaaGreatDoor
open Go Ai
def findL (l:List Vr) (n:Sx):Option Vr:=l.find? fun v=>decide (v.n=n)
def findF (d:Dc) (n:Sx):Option Vr:=findL (varsF d) n
end Go.Proofs.YtgkhmmlemgikjaaGreatDoor
namespace Go.Proofs.YtgkhmmlemgikjaaGreatDoor
open Go Ai
end Go.Proofs.YtgkhmmlemgikjaaGreatDoor
namespace Go.Proofs.YtgkhmmlemgikjaaGreatDoor
open Go Ai
end Go.Proofs.YtgkhmmlemgikjaaGreatDoor
namespace Go.Proofs.YtgkhmmlemgikjaaGreatDoor
open Go Ai
theorem fn142:A.fn 142=some a142:=by kernel_rfl
theorem prim142:A.prim 142=none:=by kernel_rfl
def w142_0:List Nat:=a142_0.writes
theorem fn121:A.fn 121=some a121:=by kernel_rfl
theorem prim121:A.prim 121=none:=by kernel_rfl
theorem index159_call {l:List Sx} {ap:Ap} {n:Sx} (hl:l.length≤1000000000) {st:St} (hst:StOk st):runL A (.call 142 [.lst 1 (strs l) ap,.str n]) st=some ⟨.ret,⟨[.int .i64 (idxF (fun s=>decide (n=s)) l 0)],[]⟩,st⟩:=by
 refine (task_of_aw (N:=19) prim142 fn142 rfl rfl hst ?_).1
 intro e he ha K hK
 have a0:=ha 0
 have a1:=ha 1
 clear ha
 simp at a0 a1
 simp [a142,he,a0,a1]
 refine aw_loop (W:=w142_0) rfl (fun m e ds s=>ds=[]∧s=st∧∃i:Nat,i+m=l.length∧idxF (fun s=>decide (n=s)) l 0=idxF (fun s=>decide (n=s)) (l.drop i) i∧AX.ev e (.t 8)=.int .i64 i) l.length
  ⟨rfl,rfl,0,by simp,by simp,by simp [he]⟩ ?_
 rintro m e1 ds s hs ⟨rfl,rfl,i,hm,hspec,g8⟩ K1 kn kx
 have he1:e1.length=19:=by simp [hs.1,he]
 have g0:=hs.ev 0 rfl (v:=.lst 1 (strs l) ap) (by simp [he,a0])
 have g1:=hs.ev 1 rfl (v:=.str n) (by simp [he,a1])
 have g7:=hs.ev 7 rfl (v:=.int .i64 l.length) (by simp [he,a0,strs_length])
 by_cases hi:i<l.length
 ·have hgv:=strs_get hi
  rw [drop_get hi,idxF] at hspec
  have w1:IntKind.i64.wrap ((i:Int)+1)=(i:Int)+1:=wrap_i64 (by omega) (by omega)
  generalize l[i]=x at *
  by_cases hb:n=x
  ·simp [hb] at hspec
   simp [a142_0,g0,g1,g7,g8,he1,hi,hgv,hb,strs_length]
   refine kx _ _ _ _ nofun fun hs'=>?_
   simp
   exact hK _ _ _ (.inl rfl) (by simp) ⟨_,rfl,by simp [he1,hb,hspec]⟩
  ·simp [hb] at hspec
   simp [a142_0,g0,g1,g7,g8,he1,hi,hgv,hb,w1,strs_length]
   exact kn (m-1) _ _ _ (by omega) ⟨rfl,rfl,i+1,by omega,by simpa using hspec,by simp [he1]⟩
 ·have hil:i=l.length:=by omega
  rw [hil,List.drop_length] at hspec
  simp [idxF] at hspec
  simp [a142_0,g7,g8,he1,hi]
  refine kx _ _ _ _ nofun fun hs'=>?_
  simp [he1]
  exact hK _ _ _ (.inl rfl) (by simp) ⟨_,rfl,by simp [he1,hspec]⟩
theorem any_mem (l:List Sx) (n:Sx):l.any (fun s=>decide (n=s))=decide (n∈l):=by
 induction l with
 | nil=>simp
 | cons x l ih=>simp only [List.any_cons,ih,List.mem_cons];by_cases h:n=x<;>simp [h]
theorem contains_call {l:List Sx} {ap:Ap} {n:Sx} (hl:l.length≤1000000000) {st:St} (hst:StOk st):runL A (.call 121 [.lst 1 (strs l) ap,.str n]) st=some ⟨.ret,⟨[.bool (decide (n∈l))],[]⟩,st⟩:=by
 have h:=index159_call (ap:=ap) (n:=n) hl hst
 have h2:=idxF_any (fun s=>decide (n=s)) l 0
 rw [any_mem] at h2
 generalize idxF (fun s=>decide (n=s)) l 0=I at *
 refine (task_of_aw (N:=9) prim121 fn121 rfl rfl hst ?_).1
 intro e he ha K hK
 have a0:=ha 0
 have a1:=ha 1
 clear ha
 simp at a0 a1
 simp [a121,he,a0,a1,h]
 exact hK _ _ _ (.inl rfl) (by simp) ⟨_,rfl,by simp [he,h2]⟩
def Scp (st:St) (m:AV) (d:Dc):Prop:=∃r es,m=.map r∧st[r]?=some (.map (encM AV.str Vr.av es))∧∀n,getM n es=findF d n
theorem Scp.get {st:St} {m:AV} {d:Dc} (h:Scp st m d):∃es,mapOf st m=some es∧∀n,mapGetA es (.str n)=some ((findF d n).map Vr.av):=by
 obtain ⟨r,es,rfl,h1,h2⟩:=h
 exact ⟨encM AV.str Vr.av es,by simp [mapOf,h1],fun n=>by rw [get_enc key_str,h2]⟩
end Go.Proofs.YtgkhmmlemgikjaaGreatDoor
namespace Go.Proofs.YtgkhmmlemgikjaaGreatDoor
open Go Ai
end Go.Proofs.YtgkhmmlemgikjaaGreatDoor
namespace Go.Proofs.YtgkhmmlemgikjaaGreatDoor
open Go Ai
end Go.Proofs.YtgkhmmlemgikjaaGreatDoor
namespace Go.Proofs.YtgkhmmlemgikjaaGreatDoor
open Go Ai
theorem Ai.task_of_aw_keep_ev {A:AProg} {st:St} {f:FuncId} {F:AFunc} {args:List AV} {N:Nat} (G:AV→St→Prop) (hp:A.prim f=none) (hf:A.fn f=some F) (hk:F.keep=true) (hN:args.length+(F.ntmps-args.length)=N)
  (h:∀e:Env,e.length=N→(∀i,AX.ev e (.t i)=args.getD i .undef)→∀K:PostQ,
   (∀x e st' v,(x=.ret∨x=.nrm)→G v st'→(∃vs,resultsA st' e F.results=some vs∧oneOf vs=v)→K x e [] st')→AW A f none F.body e [] st K) :
  ∃v st',G v st'∧runL A (.call f args) st=some ⟨.ret,⟨[v],[]⟩,st'⟩∧runL A (.seqc f args) st=some ⟨.ret,⟨[v],[]⟩,st'⟩:=by
 have hev:∀i,AX.ev (args++List.replicate (F.ntmps-args.length) .undef) (.t i)=args.getD i .undef:=by
  intro i
  simp only [AX.ev,List.getD_eq_getElem?_getD]
  by_cases hi:i<args.length
  ·rw [List.getElem?_append_left hi]
  ·rw [List.getElem?_append_right (by omega),List.getElem?_eq_none (by omega:args.length≤i),List.getElem?_replicate]
   split<;>rfl
 obtain ⟨x,e',ds',st1,hx,h1,h2,v,h3,vs,h4,h5⟩:=h (args++List.replicate (F.ntmps-args.length) .undef) (by simpa using hN) hev
  (fun x e ds st1=>(x=.ret∨x=.nrm)∧ds=[]∧∃v,G v st1∧∃vs,resultsA st1 e F.results=some vs∧oneOf vs=v)
  (fun x e st' v h1 h2 h3=>⟨h1,rfl,v,h2,h3⟩)
 subst h2
 refine ⟨v,st1,h3,?_⟩
 constructor<;>rw [runL_eq]<;>simp only [layer,hp,callFn,hf,hx,runDefs]<;>rcases h1 with rfl | rfl<;>simp only [h4,hk,h5,if_true]
end Go.Proofs.YtgkhmmlemgikjaaGreatDoor
