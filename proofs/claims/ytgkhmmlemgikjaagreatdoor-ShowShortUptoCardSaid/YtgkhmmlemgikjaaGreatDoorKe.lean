/- Part Ke. No condition. -/
import Derived.Test.YtgkhmmlemgikjaaGreatDoorKd
import Derived.Test.YtgkhmmlemgikjaaGreatDoorEd
import Derived.Test.YtgkhmmlemgikjaaGreatDoorEh
set_option linter.unusedVariables false
set_option linter.unusedSimpArgs false
namespace Go.Proofs.YtgkhmmlemgikjaaGreatDoor
open Go Ai
def Still (ap:Ap):Prop:=∀id,ap≠.tok id
theorem Still.tight:Still .tight:=nofun
theorem Still.no:Still .no:=nofun
end Go.Proofs.YtgkhmmlemgikjaaGreatDoor
namespace Go.Proofs.YtgkhmmlemgikjaaGreatDoor
open Go Ai
abbrev Sx:=List UInt8
structure Ex where
 k:Int
 a:Int
 b:Int
 c:Int
 n:Sx
 s:Sx
 v:Int
 args:List Int
 ap:Ap
 p:Int
def ints (l:List Int):List AV:=l.map (.int .i64)
def strs (l:List Sx):List AV:=l.map .str
def Ex.cs (x:Ex):List AV:=[.int .i64 x.k,.int .i64 x.a,.int .i64 x.b,.int .i64 x.c,.str x.n,.str x.s,.int .i64 x.v,.lst 1 (ints x.args) x.ap,.int .i64 x.p]
def Ex.av (x:Ex):AV:=.agg x.cs
structure It where
 k:Int
 n:Sx
 t:Int
 e:Int
 f:Int
 ss:List Sx
 ap:Ap
 s:Sx
 x:Sx
 p:Int
def It.cs (x:It):List AV:=[.int .i64 x.k,.str x.n,.int .i64 x.t,.int .i64 x.e,.int .i64 x.f,.lst 1 (strs x.ss) x.ap,.str x.s,.str x.x,.int .i64 x.p]
def It.av (x:It):AV:=.agg x.cs
structure Pm where
 n:Sx
 t:Int
def Pm.av (x:Pm):AV:=.agg [.str x.n,.int .i64 x.t]
structure Dc where
 k:Int
 n:Sx
 ps:List Pm
 pap:Ap
 its:List It
 iap:Ap
 t:Int
 e:Int
 p:Int
def Dc.cs (x:Dc):List AV:=[.int .i64 x.k,.str x.n,.lst 2 (x.ps.map Pm.av) x.pap,.lst 9 (x.its.map It.av) x.iap,.int .i64 x.t,.int .i64 x.e,.int .i64 x.p]
def Dc.av (x:Dc):AV:=.agg x.cs
structure Pg where
 ds:List Dc
 dap:Ap
 xs:List Ex
 xap:Ap
def Pg.av (p:Pg):AV:=.agg [.lst 7 (p.ds.map Dc.av) p.dap,.lst 9 (p.xs.map Ex.av) p.xap]
structure Ex.Ok (x:Ex):Prop where
 n:x.n.length≤1048576
 s:x.s.length≤1048576
 args:x.args.length≤1048576
 ap:Still x.ap
structure It.Ok (x:It):Prop where
 n:x.n.length≤1048576
 ss:x.ss.length≤1048576
 ap:Still x.ap
structure Dc.Ok (x:Dc):Prop where
 n:x.n.length≤1048576
 ps:x.ps.length≤1048576
 its:x.its.length≤1048576
 pap:Still x.pap
 iap:Still x.iap
 item:∀i∈x.its,i.Ok
structure Pg.Ok (p:Pg):Prop where
 ds:p.ds.length≤1048576
 xs:p.xs.length≤1048576
 dap:Still p.dap
 xap:Still p.xap
 dc:∀d∈p.ds,d.Ok
 ex:∀x∈p.xs,x.Ok
theorem ints_length (l:List Int):(ints l).length=l.length:=by simp [ints]
theorem ints_get {l:List Int} {i:Nat} (h:i<l.length):(ints l)[i]'(by rw [ints_length];exact h)=.int .i64 l[i]:=by simp [ints]
theorem strs_length (l:List Sx):(strs l).length=l.length:=by simp [strs]
theorem strs_get {l:List Sx} {i:Nat} (h:i<l.length):(strs l)[i]'(by rw [strs_length];exact h)=.str l[i]:=by simp [strs]
end Go.Proofs.YtgkhmmlemgikjaaGreatDoor
namespace Go.Proofs.YtgkhmmlemgikjaaGreatDoor
open Go Ai
def hasE (k:Int):Bool:=decide (1≤k) && decide (k≤5)
def hasF (k:Int):Bool:=decide (k=2) || decide (k=3) || decide (k=5) || decide (k=7)
def pointsF (n:Nat) (k:Int) (h:Bool):Bool:=h && (decide (0≤k) && decide (k<n)) || !h && decide (k=0)
def manyF (k:Int):Int :=
 if k=4∨k=5∨k=16∨k=21 then 1 else if (6≤k∧k≤14)∨k=17∨k=18 then 2 else if k=15 then 3 else if k=19 then -1 else 0
def partsF (x:Ex):List Int:=if manyF x.k<0 then x.args else [x.a,x.b,x.c].take (manyF x.k).toNat
theorem many_le (k:Int):manyF k≤3:=by unfold manyF;repeat' split<;>omega
theorem stills_ints (n:Nat) (st:St):∀l:List Int,AV.stills n st (ints l)=some (ints l)
 | []=>rfl
 | x::l=>by
  have:=stills_ints n st l
  simp only [ints,List.map_cons,AV.stills,AV.still] at this ⊢
  rw [this];simp [AV.lowB]
theorem many_ge (k:Int):-1≤manyF k:=by unfold manyF;repeat' split<;>omega
end Go.Proofs.YtgkhmmlemgikjaaGreatDoor
namespace Go.Proofs.YtgkhmmlemgikjaaGreatDoor
open Go Ai
def oneF (x:Ex) (t:Int):Bool :=
 (decide (1≤x.k) && decide (x.k≤21)) && (partsF x).all (fun l=>decide (0≤l) && decide (l<t)) &&
 !((decide (manyF x.k<1) && !decide (x.a=0)) || (decide (manyF x.k<2) && !decide (x.b=0)) || (decide (manyF x.k<3) && !decide (x.c=0)) || (decide (0≤manyF x.k) && decide (0<x.args.length))) &&
 ((decide (x.k=3) || decide (x.k=19) || decide (x.k=20)) == !decide (x.n=[])) && (decide (x.k=20) == !decide (x.s=[])) &&
 (if 2<x.k then decide (x.v=0) else decide (0≤x.v) && (decide (x.k=1) || decide (x.v≤1)))
theorem parts_len (x:Ex) (hx:x.Ok):(partsF x).length≤1048576:=by
 unfold partsF;split
 ·exact hx.args
 ·simp;omega
end Go.Proofs.YtgkhmmlemgikjaaGreatDoor
namespace Go.Proofs.YtgkhmmlemgikjaaGreatDoor
open Go Ai
theorem Still.or {ap:Ap} (h:Still ap):ap=.tight∨ap=.no:=by
 cases ap with
 | tok id=>exact absurd rfl (h id)
 | tight=>exact .inl rfl
 | no=>exact .inr rfl
theorem lows_map {α:Type} {n:Nat} {f:α→AV}:∀{l:List α},(∀x∈l,AV.lowB n (f x)=true)→AV.lowsB n (l.map f)=true
 | [],_=>rfl
 | x::l,h=>by simp only [List.map_cons,AV.lowsB,h x (by simp),lows_map (l:=l) fun y hy=>h y (by simp [hy]),Bool.and_self]
theorem lows_ints (n:Nat) (l:List Int):AV.lowsB n (ints l)=true:=lows_map fun _ _=>rfl
theorem Ex.low {x:Ex} (h:x.Ok) (n:Nat):AV.lowsB n x.cs=true:=by
 rcases h.ap.or with e | e<;>simp [Ex.cs,AV.lowsB,AV.lowB,e,lows_ints]
theorem obj_ok {st:St} (h:StOk st) {cs:List AV} (g:AV.lowsB (st.length+1) cs=true) {ty:Option TypeId}:StOk (st++[.cells ty cs]):=h.snoc (by simpa [AObj.lowB] using g)
@[simp] theorem Ex.cs_len (x:Ex):x.cs.length=9:=rfl
@[simp] theorem It.cs_len (x:It):x.cs.length=9:=rfl
@[simp] theorem Dc.cs_len (x:Dc):x.cs.length=7:=rfl
theorem ds_get {p:Pg} {i:Nat} (h:i<p.ds.length):(p.ds.map Dc.av)[i]'(by simpa using h)=.agg p.ds[i].cs:=by simp [Dc.av]
theorem xs_get {p:Pg} {i:Nat} (h:i<p.xs.length):(p.xs.map Ex.av)[i]'(by simpa using h)=.agg p.xs[i].cs:=by simp [Ex.av]
theorem drop_get {α:Type} {l:List α} {i:Nat} (h:i<l.length):l.drop i=l[i]::l.drop (i+1):=by simp
end Go.Proofs.YtgkhmmlemgikjaaGreatDoor
namespace Go.Proofs.YtgkhmmlemgikjaaGreatDoor
open Go Ai
def onesF:List Ex→Nat→Bool
 | [],_=>true
 | x::l,i=>oneF x i && onesF l (i+1)
def itemR (n:Nat) (x:It):Bool:=pointsF n x.e (hasE x.k) && pointsF n x.f (hasF x.k)
def declR (n:Nat) (d:Dc):Bool:=pointsF n d.e (decide (d.k=1) || decide (d.k=2)) && d.its.all (itemR n)
def may4 (p:Pg):Bool:=onesF p.xs 0 && p.ds.all (declR p.xs.length)
end Go.Proofs.YtgkhmmlemgikjaaGreatDoor
namespace Go.Proofs.YtgkhmmlemgikjaaGreatDoor
open Go Ai
def itemK (k:Int) (x:It):Bool:=!(decide (x.k<1) || decide (8<x.k) || (decide (k<3) && !decide (x.k=1)) || (decide (x.k=6) && decide (x.ss.length=0)))
def declK (d:Dc):Bool:=!(decide (d.k<1) || decide (3<d.k)) && d.its.all (itemK d.k)
def may7 (p:Pg):Bool:=p.ds.all declK && may4 p
end Go.Proofs.YtgkhmmlemgikjaaGreatDoor
namespace Go.Proofs.YtgkhmmlemgikjaaGreatDoor
open Go Ai
end Go.Proofs.YtgkhmmlemgikjaaGreatDoor
namespace Go.Proofs.YtgkhmmlemgikjaaGreatDoor
open Go Ai
theorem fn104:A.fn 104=some a104:=by kernel_rfl
theorem prim104:A.prim 104=none:=by kernel_rfl
theorem fn109:A.fn 109=some a109:=by kernel_rfl
theorem prim109:A.prim 109=none:=by kernel_rfl
theorem fn106:A.fn 106=some a106:=by kernel_rfl
theorem prim106:A.prim 106=none:=by kernel_rfl
theorem prim132:A.prim 132=some (cloneA 1 8):=rfl
theorem has2_call {k:Int} {st:St} (hst:StOk st):runL A (.call 109 [.int .i64 k]) st=some ⟨.ret,⟨[.tup [.bool (hasE k),.bool (hasF k)]],[]⟩,st⟩:=by
 refine (task_of_aw (N:=14) prim109 fn109 rfl rfl hst ?_).1
 intro e he ha K hK
 have a0:=ha 0
 clear ha
 simp at a0
 simp [a109,he,a0]
 repeat' ((first | refine conda_splitn (fun h=>?_) (fun h=>?_) | refine grda_splitn (fun h=>?_) (fun h=>?_) | refine conda_split (fun h=>?_) (fun h=>?_) | refine grda_split (fun h=>?_) (fun h=>?_))<;>simp [he,a0,h])
 all_goals (refine hK _ _ _ (.inl rfl) (by simp) ⟨_,rfl,?_⟩;clear hK;simp_all [AV.still,AV.stills,hasE,hasF])
 all_goals omega
theorem points2_call {p:Pg} {k:Int} {h:Bool} {st:St} (hst:StOk st):runL A (.call 106 [p.av,.int .i64 k,.bool h]) st=some ⟨.ret,⟨[.bool (pointsF p.xs.length k h)],[]⟩,st⟩:=by
 refine (task_of_aw (N:=19) prim106 fn106 rfl rfl hst ?_).1
 intro e he ha K hK
 have a0:=ha 0
 have a1:=ha 1
 have a2:=ha 2
 clear ha
 simp [Pg.av] at a0 a1 a2
 cases h
 all_goals simp [a106,he,a0,a1,a2]
 all_goals repeat' ((first | refine conda_splitn (fun h=>?_) (fun h=>?_) | refine grda_splitn (fun h=>?_) (fun h=>?_) | refine conda_split (fun h=>?_) (fun h=>?_) | refine grda_split (fun h=>?_) (fun h=>?_))<;>simp [he,a0,a1,a2,h])
 all_goals (refine hK _ _ _ (.inl rfl) (by simp) ⟨_,rfl,?_⟩;clear hK;simp_all [AV.still,AV.stills,pointsF])
 all_goals omega
def parts2Ap (x:Ex):Ap:=if x.k=19 then .no else .tight
theorem flat_ints:∀l:List Int,flat (ints l)=ints l
 | []=>rfl
 | x::l=>by
  have:=flat_ints l
  simp only [ints,List.map_cons,flat] at this ⊢
  rw [this];rfl
theorem group_ints:∀l:List Int,group 1 false l.length (ints l)=ints l
 | []=>rfl
 | x::l=>by
  have:=group_ints l
  simp only [ints,List.map_cons,List.length_cons,group] at this ⊢
  simp [this]
theorem clone_ints {l:List Int} {ap:Ap} (hl:l.length≤1048576) {st:St} :
  runL A (.call 132 [.lst 1 (ints l) ap]) st=if l=[] then some ⟨.ret,⟨[.lst 1 [] .no],[]⟩,st⟩ else some ⟨.ret,⟨[.sl st.length 1 0 l.length none],[]⟩,st++[.cells none (ints l)]⟩:=by
 rw [runL_eq];simp only [layer,prim132,cloneA,AV.asLst,ints_length,flat_ints]
 rw [if_pos ⟨trivial,by unfold great;omega,by decide⟩]
 by_cases h:l=[]
 ·rw [if_pos (by simp [ints,h]),if_pos h]
 ·rw [if_neg (by simpa [ints] using h),if_neg h]
theorem parts2_call {x:Ex} (hx:x.Ok) {st:St} (hst:StOk st):runL A (.call 104 [x.av]) st=some ⟨.ret,⟨[.lst 1 (ints (partsF x)) (parts2Ap x)],[]⟩,st⟩:=by
 have h155:=clone_ints (ap:=x.ap) hx.args (st:=st)
 refine (task_of_aw (N:=67) prim104 fn104 rfl rfl hst ?_).1
 intro e he ha K hK
 have a0:=ha 0
 clear ha
 simp [Ex.av,Ex.cs] at a0
 by_cases hk:x.k=19
 ·have hm:manyF x.k=-1:=by rw [hk];rfl
  have hp:partsF x=x.args:=by unfold partsF;rw [hm];rfl
  have hap:parts2Ap x=.no:=by unfold parts2Ap;rw [if_pos hk]
  by_cases hn:x.args=[]
  ·rw [if_pos hn] at h155
   simp [a104,he,a0,hk,h155]
   exact hK _ _ _ (.inl rfl) (by simp) ⟨_,rfl,by simp [he,AV.still,AV.stills,hp,hap,hn,ints]⟩
  ·rw [if_neg hn] at h155
   simp [a104,he,a0,hk,h155]
   exact hK _ _ _ (.inl rfl) (by simp) ⟨_,rfl,by simp [he,AV.still,hp,hap,ints_length,lows_ints,group_ints]⟩
 ·have hap:parts2Ap x=.tight:=by unfold parts2Ap;rw [if_neg hk]
  simp [a104,he,a0]
  repeat' ((first | refine conda_splitn (fun h=>?_) (fun h=>?_) | refine grda_splitn (fun h=>?_) (fun h=>?_) | refine conda_split (fun h=>?_) (fun h=>?_) | refine grda_split (fun h=>?_) (fun h=>?_))<;>simp [he,a0,hk,h])
  all_goals (refine hK _ _ _ (.inl rfl) (by simp) ⟨_,rfl,?_⟩;clear hK;rw [hap];simp_all [AV.still,AV.stills,AV.lowB,partsF,manyF,ints])
  all_goals first
   | (rw [if_neg (show ¬x.k≤14 by omega)];rfl)
   | (rw [if_neg (show ¬(6≤x.k∧x.k≤14) by omega)];rfl)
end Go.Proofs.YtgkhmmlemgikjaaGreatDoor
namespace Go.Proofs.YtgkhmmlemgikjaaGreatDoor
open Go Ai
theorem fn130:A.fn 130=some a130:=by kernel_rfl
theorem prim130:A.prim 130=none:=by kernel_rfl
theorem fn101:A.fn 101=some a101:=by kernel_rfl
theorem prim101:A.prim 101=none:=by kernel_rfl
theorem fn102:A.fn 102=some a102:=by kernel_rfl
theorem prim102:A.prim 102=none:=by kernel_rfl
def w130_0:List Nat:=a130_0.writes
theorem equalInts_call {a b:List Int} {p q:Ap} (ha':a.length≤1048576) (hb':b.length≤1048576) {st:St} (hst:StOk st) :
  runL A (.call 130 [.lst 1 (ints a) p,.lst 1 (ints b) q]) st=some ⟨.ret,⟨[.bool (decide (a=b))],[]⟩,st⟩:=by
 refine (task_of_aw (N:=26) prim130 fn130 rfl rfl hst ?_).1
 intro e he ha K hK
 have a0:=ha 0
 have a1:=ha 1
 clear ha
 simp at a0 a1
 by_cases hl:a.length=b.length
 ·simp [a130,he,a0,a1,ints_length,hl]
  refine aw_loop (W:=w130_0) rfl (fun m e ds st'=>ds=[]∧st'=st∧∃i:Nat,i+m=a.length∧a.take i=b.take i∧AX.ev e (.t 13)=.int .i64 i) a.length
   ⟨rfl,rfl,0,by simp,by simp,by simp [he]⟩ ?_
  rintro m e1 ds st' hs ⟨rfl,rfl,i,hm,htk,g13⟩ K1 kn kx
  have he1:e1.length=26:=by simp [hs.1,he]
  have g0:=hs.ev 0 rfl (v:=.lst 1 (ints a) p) (by simp [he,a0])
  have g1:=hs.ev 1 rfl (v:=.lst 1 (ints b) q) (by simp [he,a1])
  have g12:=hs.ev 12 rfl (v:=.int .i64 b.length) (by simp [he])
  by_cases hi:i<a.length
  ·have hib:i<b.length:=by omega
   obtain ⟨x,hx⟩:∃x,x=a[i]:=⟨_,rfl⟩
   obtain ⟨y,hy⟩:∃y,y=b[i]:=⟨_,rfl⟩
   have hgx:=ints_get hi
   have hgy:=ints_get hib
   rw [←hx] at hgx
   rw [←hy] at hgy
   have w1:IntKind.i64.wrap ((i:Int)+1)=(i:Int)+1:=wrap_i64 (by omega) (by omega)
   by_cases hxy:x=y
   ·rw [←hxy] at hgy
    simp [a130_0,g0,g1,g12,g13,he1,hi,hib,hgx,hgy,ints_length,w1]
    exact kn (m-1) _ _ _ (by omega) ⟨rfl,rfl,i+1,by omega,by rw [List.take_succ_eq_append_getElem hi,List.take_succ_eq_append_getElem hib,htk,←hx,←hy,hxy],by simp [he1]⟩
   ·have hne:a≠b:=by rintro rfl;exact hxy (hx.trans hy.symm)
    simp [a130_0,g0,g1,g12,g13,he1,hi,hib,hgx,hgy,ints_length,hxy]
    refine kx _ _ _ _ nofun fun hs'=>?_
    simp [he1]
    exact hK _ _ _ (.inl rfl) (by simp) ⟨_,rfl,by simp [he1,AV.still,hne]⟩
  ·have hil:i=a.length:=by omega
   subst hil
   have hab:a=b:=by rw [List.take_length,hl,List.take_length] at htk;exact htk
   have hib:¬a.length<b.length:=by omega
   simp [a130_0,g12,g13,he1,hib]
   refine kx _ _ _ _ nofun fun hs'=>?_
   simp [he1]
   exact hK _ _ _ (.inl rfl) (by simp) ⟨_,rfl,by simp [he1,AV.still,hab]⟩
 ·have hne:a≠b:=fun h=>hl (by rw [h])
  have hl':¬(a.length:Int)=(b.length:Int):=by omega
  simp [a130,he,a0,a1,ints_length,hl']
  exact hK _ _ _ (.inl rfl) (by simp) ⟨_,rfl,by simp [he,AV.still,hne]⟩
def equalF (x y:Ex):Bool:=decide (x.k=y.k) && decide (x.a=y.a) && decide (x.b=y.b) && decide (x.c=y.c) && decide (x.n=y.n) && decide (x.s=y.s) && decide (x.v=y.v) && decide (x.args=y.args)
theorem equal_call {x y:Ex} (hx:x.Ok) (hy:y.Ok) {st:St} (hst:StOk st):runL A (.call 101 [x.av,y.av]) st=some ⟨.ret,⟨[.bool (equalF x y)],[]⟩,st⟩:=by
 have h157:=equalInts_call (p:=x.ap) (q:=y.ap) hx.args hy.args hst
 refine (task_of_aw (N:=59) prim101 fn101 rfl rfl hst ?_).1
 intro e he ha K hK
 have a0:=ha 0
 have a1:=ha 1
 clear ha
 simp [Ex.av,Ex.cs] at a0 a1
 simp [a101,he,a0,a1]
 repeat' ((first | refine conda_splitn (fun h=>?_) (fun h=>?_) | refine grda_splitn (fun h=>?_) (fun h=>?_) | refine conda_split (fun h=>?_) (fun h=>?_) | refine grda_split (fun h=>?_) (fun h=>?_))<;>simp [he,a0,a1,h,h157])
 all_goals (refine hK _ _ _ (.inl rfl) (by simp) ⟨_,rfl,?_⟩;clear hK;simp_all [AV.still,equalF])
def padF (x:Ex):List Int:=partsF x++[0,0,0]
def bareF (x:Ex) (nm sd vl:Bool):Ex :=
 { k:=x.k,a:=if x.k=19 then 0 else (padF x).getD 0 0,b:=if x.k=19 then 0 else (padF x).getD 1 0,c:=if x.k=19 then 0 else (padF x).getD 2 0,n:=if nm then x.n else [],s:=if sd then x.s else [],
   v:=if vl then x.v else 0,args:=if x.k=19 then x.args else [],ap:=if x.k=19 then .no else .tight,p:=x.p }
theorem bareF_ok {x:Ex} (hx:x.Ok) (nm sd vl:Bool):(bareF x nm sd vl).Ok:=by
 refine ⟨?_,?_,?_,?_⟩
 ·simp only [bareF];split;exact hx.n;simp
 ·simp only [bareF];split;exact hx.s;simp
 ·simp only [bareF];split;exact hx.args;simp
 ·simp only [bareF];split;exact .no;exact .tight
set_option maxHeartbeats 1000000 in
theorem bare_call {x:Ex} (hx:x.Ok) {nm sd vl:Bool} {st:St} (hst:StOk st):runL A (.call 102 [x.av,.bool nm,.bool sd,.bool vl]) st=some ⟨.ret,⟨[(bareF x nm sd vl).av],[]⟩,st⟩:=by
 refine (task_of_aw (N:=51) prim102 fn102 rfl rfl hst ?_).1
 intro e he ha K hK
 have a0:=ha 0
 have a1:=ha 1
 have a2:=ha 2
 have a3:=ha 3
 clear ha
 simp [Ex.av,Ex.cs] at a0 a1 a2 a3
 have hz:AV.lowsB (st.length+1) [AV.int .i64 0,.int .i64 0,.int .i64 0,.int .i64 0,.str [],.str [],.int .i64 0,.lst 1 [] .tight,.int .i64 0]=true:=rfl
 have hz2:AV.lowsB (st.length+2) [AV.int .i64 x.k,.int .i64 0,.int .i64 0,.int .i64 0,.str [],.str [],.int .i64 0,.lst 1 [] .tight,.int .i64 x.p]=true:=rfl
 have hst2:StOk (st++[.cells none [AV.int .i64 0,.int .i64 0,.int .i64 0,.int .i64 0,.str [],.str [],.int .i64 0,.lst 1 [] .tight,.int .i64 0],.cells none [AV.int .i64 x.k,.int .i64 0,.int .i64 0,.int .i64 0,.str [],.str [],.int .i64 0,.lst 1 [] .tight,.int .i64 x.p]]):=by
  have:=obj_ok (obj_ok hst hz (ty:=none)) (cs:=[AV.int .i64 x.k,.int .i64 0,.int .i64 0,.int .i64 0,.str [],.str [],.int .i64 0,.lst 1 [] .tight,.int .i64 x.p]) (by simpa using hz2) (ty:=none)
  simpa using this
 have h134:=parts2_call hx hst2
 simp only [Ex.av,Ex.cs] at h134
 by_cases hk:x.k=19
 ·have hp:partsF x=x.args:=by unfold partsF;rw [show manyF x.k=-1 by rw [hk];rfl];rfl
  have hap:parts2Ap x=.no:=by unfold parts2Ap;rw [if_pos hk]
  have hb:bareF x nm sd vl={ k:=x.k,a:=0,b:=0,c:=0,n:=if nm then x.n else [],s:=if sd then x.s else [],v:=if vl then x.v else 0,args:=x.args,ap:=.no,p:=x.p }:=by
   simp only [bareF,if_pos hk]
  rw [hb] at hK
  rw [hk] at h134 a0 hK
  rw [hp,hap] at h134
  cases nm<;>cases sd<;>cases vl
  all_goals
   simp [a102,he,a0,a1,a2,a3,h134]
   refine hK _ _ _ (.inl rfl) (by simp) ?_
   apply Exists.intro
   apply And.intro
   ·change resultsA _ _ [.cell 8 9 true]=_
    simp [resA,he]
    rfl
   ·simp [AV.still,AV.stills,AV.lowB,Ex.av,Ex.cs,stills_ints]
 ·have hap:parts2Ap x=.tight:=by unfold parts2Ap;rw [if_neg hk]
  have hpl:=parts_len x hx
  obtain ⟨A0,B0,C0,T,hL⟩:∃a b c t,padF x=a::b::c::t:=by
   unfold padF
   match partsF x with
   | []=>exact ⟨_,_,_,_,rfl⟩
   | [_]=>exact ⟨_,_,_,_,rfl⟩
   | [_,_]=>exact ⟨_,_,_,_,rfl⟩
   | _::_::_::t=>exact ⟨_,_,_,_,rfl⟩
  have hb:bareF x nm sd vl={ k:=x.k,a:=A0,b:=B0,c:=C0,n:=if nm then x.n else [],s:=if sd then x.s else [],v:=if vl then x.v else 0,args:=[],ap:=.tight,p:=x.p }:=by
   simp only [bareF,if_neg hk,hL];rfl
  rw [hb] at hK
  rw [hap] at h134
  obtain ⟨ap',st1,hap1,_,hg,_⟩:=append_own (st:=(st++[.cells none [AV.int .i64 0,.int .i64 0,.int .i64 0,.int .i64 0,.str [],.str [],.int .i64 0,.lst 1 [] .tight,.int .i64 0],.cells none [AV.int .i64 x.k,.int .i64 0,.int .i64 0,.int .i64 0,.str [],.str [],.int .i64 0,.lst 1 [] .tight,.int .i64 x.p]])) (b:=st.length+2) (m:=1) (ty:=some 3) (ap:=.tight) (bytes:=8) (ap0:=.tight) (ys:=[.int .i64 0,.int .i64 0,.int .i64 0]) (es:=ints (partsF x)) (by simp) (.inl rfl) (by simp) (by simp [Ai.great,ints];omega) (by omega)
  have hl:ints (partsF x)++[.int .i64 0,.int .i64 0,.int .i64 0]=.int .i64 A0::.int .i64 B0::.int .i64 C0::ints T:=by
   have:ints (partsF x)++[.int .i64 0,.int .i64 0,.int .i64 0]=ints (padF x):=by simp [ints,padF]
   rw [this,hL];rfl
  rw [hl] at hap1
  obtain ⟨l',rfl⟩:=Grew.split (l:=[]) (by simpa using hg) (by simp)
  simp at hap1
  cases nm<;>cases sd<;>cases vl
  all_goals
   simp [a102,he,a0,a1,a2,a3,hk,h134,hap1]
   refine hK _ _ _ (.inl rfl) (by simp) ?_
   apply Exists.intro
   apply And.intro
   ·change resultsA _ _ [.cell 8 9 true]=_
    simp [resA,he]
    rfl
   ·simp [AV.still,AV.stills,AV.lowB,Ex.av,Ex.cs,ints]
end Go.Proofs.YtgkhmmlemgikjaaGreatDoor
namespace Go.Proofs.YtgkhmmlemgikjaaGreatDoor
open Go Ai
def idxF {α:Type} (P:α→Bool):List α→Nat→Int
 | [],_=>-1
 | x::l,i=>if P x then (i:Int) else idxF P l (i+1)
theorem idxF_any {α:Type} (P:α→Bool):∀(l:List α) (i:Nat),decide (0≤idxF P l i)=l.any P
 | [],_=>by simp [idxF]
 | x::l,i=>by
  have:=idxF_any P l (i+1)
  cases hb:P x<;>simp [idxF,hb]
  simpa using this
theorem fn131:A.fn 131=some a131:=by kernel_rfl
theorem prim131:A.prim 131=none:=by kernel_rfl
theorem fn103:A.fn 103=some a103:=by kernel_rfl
theorem prim103:A.prim 103=none:=by kernel_rfl
def w131_0:List Nat:=a131_0.writes
theorem index158_call {l:List Int} {ap:Ap} {g:FuncId} {cap:List AV} {P:Int→Bool} (hl:l.length≤1048576) {st:St} (hst:StOk st)
  (hP:∀v∈l,runL A (.call g ([AV.int .i64 v]++cap)) st=some ⟨.ret,⟨[.bool (P v)],[]⟩,st⟩) :
  runL A (.call 131 [.lst 1 (l.map fun v=>(AV.int .i64 v)) ap,.func (.func g) [] cap]) st=some ⟨.ret,⟨[.int .i64 (idxF P l 0)],[]⟩,st⟩:=by
 refine (task_of_aw (N:=19) prim131 fn131 rfl rfl hst ?_).1
 intro e he ha K hK
 have a0:=ha 0
 have a1:=ha 1
 clear ha
 simp at a0 a1
 simp [a131,he,a0,a1]
 refine aw_loop (W:=w131_0) rfl (fun m e ds st'=>ds=[]∧st'=st∧∃i:Nat,i+m=l.length∧idxF P l 0=idxF P (l.drop i) i∧AX.ev e (.t 8)=.int .i64 i) l.length
  ⟨rfl,rfl,0,by simp,by simp,by simp [he]⟩ ?_
 rintro m e1 ds st' hs ⟨rfl,rfl,i,hm,hspec,g8⟩ K1 kn kx
 have he1:e1.length=19:=by simp [hs.1,he]
 have g0:=hs.ev 0 rfl (v:=.lst 1 (l.map fun v=>(AV.int .i64 v)) ap) (by simp [he,a0])
 have g1:=hs.ev 1 rfl (v:=.func (.func g) [] cap) (by simp [he,a1])
 have g7:=hs.ev 7 rfl (v:=.int .i64 l.length) (by simp [he])
 by_cases hi:i<l.length
 ·obtain ⟨v,hv⟩:∃v,v=l[i]:=⟨_,rfl⟩
  have hc:=hP v (by rw [hv];exact List.getElem_mem hi)
  have hg:(l.map fun v=>(AV.int .i64 v))[i]'(by simpa using hi)=(AV.int .i64 v):=by simp [hv]
  rw [drop_get hi,←hv,idxF] at hspec
  have w1:IntKind.i64.wrap ((i:Int)+1)=(i:Int)+1:=wrap_i64 (by omega) (by omega)
  simp only [List.cons_append,List.nil_append] at hc
  cases hb:P v with
  | true =>
   rw [hb] at hc hspec
   simp [a131_0,g0,g1,g7,g8,he1,hi,←hv,hc]
   refine kx _ _ _ _ nofun fun hs'=>?_
   simp [he1]
   exact hK _ _ _ (.inl rfl) (by simp) ⟨_,rfl,by simp [he1,AV.still,AV.lowB,hspec]⟩
  | false =>
   rw [hb] at hc hspec
   simp [a131_0,g0,g1,g7,g8,he1,hi,←hv,hc,w1]
   exact kn (m-1) _ _ _ (by omega) ⟨rfl,rfl,i+1,by omega,by simpa using hspec,by simp [he1]⟩
 ·have hil:i=l.length:=by omega
  rw [hil] at hspec g8
  simp [idxF] at hspec
  simp [a131_0,g7,g8,he1]
  refine kx _ _ _ _ nofun fun hs'=>?_
  simp [he1]
  exact hK _ _ _ (.inl rfl) (by simp) ⟨_,rfl,by simp [he1,AV.still,AV.lowB,hspec]⟩
theorem has145_call {l:List Int} {ap:Ap} {g:FuncId} {cap:List AV} {P:Int→Bool} (hl:l.length≤1048576) {st:St} (hst:StOk st)
  (hP:∀v∈l,runL A (.call g ([AV.int .i64 v]++cap)) st=some ⟨.ret,⟨[.bool (P v)],[]⟩,st⟩) :
  runL A (.call 103 [.lst 1 (l.map fun v=>(AV.int .i64 v)) ap,.func (.func g) [] cap]) st=some ⟨.ret,⟨[.bool (l.any P)],[]⟩,st⟩:=by
 have h:=index158_call (ap:=ap) hl hst hP
 refine (task_of_aw (N:=9) prim103 fn103 rfl rfl hst ?_).1
 intro e he ha K hK
 have a0:=ha 0
 have a1:=ha 1
 clear ha
 simp at a0 a1
 simp [a103,he,a0,a1,h]
 refine hK _ _ _ (.inl rfl) (by simp) ⟨_,rfl,?_⟩
 clear hK
 have:=idxF_any P l 0
 simp [he,AV.still,AV.lowB]
 rw [←this]
theorem fn133:A.fn 133=some a133:=by kernel_rfl
theorem prim133:A.prim 133=none:=by kernel_rfl
theorem fn107:A.fn 107=some a107:=by kernel_rfl
theorem prim107:A.prim 107=none:=by kernel_rfl
def w133_0:List Nat:=a133_0.writes
theorem index118_call {l:List It} {ap:Ap} {g:FuncId} {cap:List AV} {P:It→Bool} (hl:l.length≤1048576) {st:St} (hst:StOk st)
  (hP:∀v∈l,runL A (.call g ([AV.agg v.cs]++cap)) st=some ⟨.ret,⟨[.bool (P v)],[]⟩,st⟩) :
  runL A (.call 133 [.lst 9 (l.map fun v=>(AV.agg v.cs)) ap,.func (.func g) [] cap]) st=some ⟨.ret,⟨[.int .i64 (idxF P l 0)],[]⟩,st⟩:=by
 refine (task_of_aw (N:=19) prim133 fn133 rfl rfl hst ?_).1
 intro e he ha K hK
 have a0:=ha 0
 have a1:=ha 1
 clear ha
 simp at a0 a1
 simp [a133,he,a0,a1]
 refine aw_loop (W:=w133_0) rfl (fun m e ds st'=>ds=[]∧st'=st∧∃i:Nat,i+m=l.length∧idxF P l 0=idxF P (l.drop i) i∧AX.ev e (.t 8)=.int .i64 i) l.length
  ⟨rfl,rfl,0,by simp,by simp,by simp [he]⟩ ?_
 rintro m e1 ds st' hs ⟨rfl,rfl,i,hm,hspec,g8⟩ K1 kn kx
 have he1:e1.length=19:=by simp [hs.1,he]
 have g0:=hs.ev 0 rfl (v:=.lst 9 (l.map fun v=>(AV.agg v.cs)) ap) (by simp [he,a0])
 have g1:=hs.ev 1 rfl (v:=.func (.func g) [] cap) (by simp [he,a1])
 have g7:=hs.ev 7 rfl (v:=.int .i64 l.length) (by simp [he])
 by_cases hi:i<l.length
 ·obtain ⟨v,hv⟩:∃v,v=l[i]:=⟨_,rfl⟩
  have hc:=hP v (by rw [hv];exact List.getElem_mem hi)
  have hg:(l.map fun v=>(AV.agg v.cs))[i]'(by simpa using hi)=(AV.agg v.cs):=by simp [hv]
  rw [drop_get hi,←hv,idxF] at hspec
  have w1:IntKind.i64.wrap ((i:Int)+1)=(i:Int)+1:=wrap_i64 (by omega) (by omega)
  simp only [List.cons_append,List.nil_append] at hc
  cases hb:P v with
  | true =>
   rw [hb] at hc hspec
   simp [a133_0,g0,g1,g7,g8,he1,hi,←hv,hc]
   refine kx _ _ _ _ nofun fun hs'=>?_
   simp [he1]
   exact hK _ _ _ (.inl rfl) (by simp) ⟨_,rfl,by simp [he1,AV.still,AV.lowB,hspec]⟩
  | false =>
   rw [hb] at hc hspec
   simp [a133_0,g0,g1,g7,g8,he1,hi,←hv,hc,w1]
   exact kn (m-1) _ _ _ (by omega) ⟨rfl,rfl,i+1,by omega,by simpa using hspec,by simp [he1]⟩
 ·have hil:i=l.length:=by omega
  rw [hil] at hspec g8
  simp [idxF] at hspec
  simp [a133_0,g7,g8,he1]
  refine kx _ _ _ _ nofun fun hs'=>?_
  simp [he1]
  exact hK _ _ _ (.inl rfl) (by simp) ⟨_,rfl,by simp [he1,AV.still,AV.lowB,hspec]⟩
theorem has79_call {l:List It} {ap:Ap} {g:FuncId} {cap:List AV} {P:It→Bool} (hl:l.length≤1048576) {st:St} (hst:StOk st)
  (hP:∀v∈l,runL A (.call g ([AV.agg v.cs]++cap)) st=some ⟨.ret,⟨[.bool (P v)],[]⟩,st⟩) :
  runL A (.call 107 [.lst 9 (l.map fun v=>(AV.agg v.cs)) ap,.func (.func g) [] cap]) st=some ⟨.ret,⟨[.bool (l.any P)],[]⟩,st⟩:=by
 have h:=index118_call (ap:=ap) hl hst hP
 refine (task_of_aw (N:=9) prim107 fn107 rfl rfl hst ?_).1
 intro e he ha K hK
 have a0:=ha 0
 have a1:=ha 1
 clear ha
 simp at a0 a1
 simp [a107,he,a0,a1,h]
 refine hK _ _ _ (.inl rfl) (by simp) ⟨_,rfl,?_⟩
 clear hK
 have:=idxF_any P l 0
 simp [he,AV.still,AV.lowB]
 rw [←this]
theorem fn105:A.fn 105=some a105:=by kernel_rfl
theorem prim105:A.prim 105=none:=by kernel_rfl
theorem fn57:A.fn 57=some a57:=by kernel_rfl
theorem prim57:A.prim 57=none:=by kernel_rfl
def w105_0:List Nat:=a105_0.writes
theorem index99_call {l:List Dc} {ap:Ap} {g:FuncId} {cap:List AV} {P:Dc→Bool} (hl:l.length≤1048576) {st:St} (hst:StOk st)
  (hP:∀v∈l,runL A (.call g ([AV.agg v.cs]++cap)) st=some ⟨.ret,⟨[.bool (P v)],[]⟩,st⟩) :
  runL A (.call 105 [.lst 7 (l.map fun v=>(AV.agg v.cs)) ap,.func (.func g) [] cap]) st=some ⟨.ret,⟨[.int .i64 (idxF P l 0)],[]⟩,st⟩:=by
 refine (task_of_aw (N:=19) prim105 fn105 rfl rfl hst ?_).1
 intro e he ha K hK
 have a0:=ha 0
 have a1:=ha 1
 clear ha
 simp at a0 a1
 simp [a105,he,a0,a1]
 refine aw_loop (W:=w105_0) rfl (fun m e ds st'=>ds=[]∧st'=st∧∃i:Nat,i+m=l.length∧idxF P l 0=idxF P (l.drop i) i∧AX.ev e (.t 8)=.int .i64 i) l.length
  ⟨rfl,rfl,0,by simp,by simp,by simp [he]⟩ ?_
 rintro m e1 ds st' hs ⟨rfl,rfl,i,hm,hspec,g8⟩ K1 kn kx
 have he1:e1.length=19:=by simp [hs.1,he]
 have g0:=hs.ev 0 rfl (v:=.lst 7 (l.map fun v=>(AV.agg v.cs)) ap) (by simp [he,a0])
 have g1:=hs.ev 1 rfl (v:=.func (.func g) [] cap) (by simp [he,a1])
 have g7:=hs.ev 7 rfl (v:=.int .i64 l.length) (by simp [he])
 by_cases hi:i<l.length
 ·obtain ⟨v,hv⟩:∃v,v=l[i]:=⟨_,rfl⟩
  have hc:=hP v (by rw [hv];exact List.getElem_mem hi)
  have hg:(l.map fun v=>(AV.agg v.cs))[i]'(by simpa using hi)=(AV.agg v.cs):=by simp [hv]
  rw [drop_get hi,←hv,idxF] at hspec
  have w1:IntKind.i64.wrap ((i:Int)+1)=(i:Int)+1:=wrap_i64 (by omega) (by omega)
  simp only [List.cons_append,List.nil_append] at hc
  cases hb:P v with
  | true =>
   rw [hb] at hc hspec
   simp [a105_0,g0,g1,g7,g8,he1,hi,←hv,hc]
   refine kx _ _ _ _ nofun fun hs'=>?_
   simp [he1]
   exact hK _ _ _ (.inl rfl) (by simp) ⟨_,rfl,by simp [he1,AV.still,AV.lowB,hspec]⟩
  | false =>
   rw [hb] at hc hspec
   simp [a105_0,g0,g1,g7,g8,he1,hi,←hv,hc,w1]
   exact kn (m-1) _ _ _ (by omega) ⟨rfl,rfl,i+1,by omega,by simpa using hspec,by simp [he1]⟩
 ·have hil:i=l.length:=by omega
  rw [hil] at hspec g8
  simp [idxF] at hspec
  simp [a105_0,g7,g8,he1]
  refine kx _ _ _ _ nofun fun hs'=>?_
  simp [he1]
  exact hK _ _ _ (.inl rfl) (by simp) ⟨_,rfl,by simp [he1,AV.still,AV.lowB,hspec]⟩
theorem has81_call {l:List Dc} {ap:Ap} {g:FuncId} {cap:List AV} {P:Dc→Bool} (hl:l.length≤1048576) {st:St} (hst:StOk st)
  (hP:∀v∈l,runL A (.call g ([AV.agg v.cs]++cap)) st=some ⟨.ret,⟨[.bool (P v)],[]⟩,st⟩) :
  runL A (.call 57 [.lst 7 (l.map fun v=>(AV.agg v.cs)) ap,.func (.func g) [] cap]) st=some ⟨.ret,⟨[.bool (l.any P)],[]⟩,st⟩:=by
 have h:=index99_call (ap:=ap) hl hst hP
 refine (task_of_aw (N:=9) prim57 fn57 rfl rfl hst ?_).1
 intro e he ha K hK
 have a0:=ha 0
 have a1:=ha 1
 clear ha
 simp at a0 a1
 simp [a57,he,a0,a1,h]
 refine hK _ _ _ (.inl rfl) (by simp) ⟨_,rfl,?_⟩
 clear hK
 have:=idxF_any P l 0
 simp [he,AV.still,AV.lowB]
 rw [←this]
end Go.Proofs.YtgkhmmlemgikjaaGreatDoor
namespace Go.Proofs.YtgkhmmlemgikjaaGreatDoor
open Go Ai
theorem fn100:A.fn 100=some a100:=by kernel_rfl
theorem prim100:A.prim 100=none:=by kernel_rfl
theorem fn56:A.fn 56=some a56:=by kernel_rfl
theorem prim56:A.prim 56=none:=by kernel_rfl
theorem beqs_ints:∀l:List Int,AV.beqs (ints l) (ints l)=true
 | []=>rfl
 | x::l=>by
  have:=beqs_ints l
  simp only [ints,List.map_cons,AV.beqs] at this ⊢
  rw [this];simp [AV.beq]
theorem ap_beq (p:Ap):(p == p)=true:=by simp
def outF (t v:Int):Bool:=decide (v<0) || decide (t≤v)
theorem out_call {t v:Int} {st:St}:runL A (.call 100 [.int .i64 v,.iptr (.int .i64 t)]) st=some ⟨.ret,⟨[.bool (outF t v)],[]⟩,st⟩:=by
 refine (task_of_aw_keep (N:=11) prim100 fn100 rfl rfl (st:=st) (st':=st) ?_).1
 intro e he ha K hK
 have a0:=ha 0
 have a1:=ha 1
 clear ha
 simp at a0 a1
 simp [a100,he,a0,a1]
 repeat' ((first | refine conda_splitn (fun h=>?_) (fun h=>?_) | refine grda_splitn (fun h=>?_) (fun h=>?_) | refine conda_split (fun h=>?_) (fun h=>?_) | refine grda_split (fun h=>?_) (fun h=>?_))<;>simp [he,a0,a1,h])
 all_goals (refine hK _ _ (.inl rfl) ⟨_,rfl,?_⟩;clear hK;simp_all [outF])
 all_goals omega
def nmF (x:Ex):Bool:=decide (x.k=3) || decide (x.k=19) || decide (x.k=20)
def vlF (x:Ex):Bool:=decide (x.k=1) || decide (x.k=2)
def may2X (x:Ex) (t:Int):Bool :=
 !(decide (x.k<1) || decide (21<x.k)) && (!(!equalF x (bareF x (nmF x) (decide (x.k=20)) (vlF x)) || (partsF x).any (outF t)) &&
 (!((nmF x && decide (x.n=[])) || (decide (x.k=20) && decide (x.s=[]))) && (decide (0≤x.v) && (!decide (x.k=2) || decide (x.v≤1)))))
set_option maxHeartbeats 1000000 in
theorem may2X_call {x:Ex} {t:Int} (hx:x.Ok) {st:St} (hst:StOk st):runL A (.call 56 [x.av,.int .i64 t]) st=some ⟨.ret,⟨[.bool (may2X x t)],[]⟩,st⟩:=by
 have h144:=fun nm sd vl=>bare_call hx (nm:=nm) (sd:=sd) (vl:=vl) hst
 have h143:=fun nm sd vl=>equal_call hx (bareF_ok hx nm sd vl) hst
 have h134:=parts2_call hx hst
 have h145:=has145_call (l:=partsF x) (ap:=parts2Ap x) (g:=100) (cap:=[.iptr (.int .i64 t)]) (P:=outF t) (parts_len x hx) hst (fun v _=>out_call)
 simp only [Ex.av,Ex.cs] at h144 h143 h134
 change runL A (.call 103 [.lst 1 (ints (partsF x)) (parts2Ap x),.func (.func 100) [] [.iptr (.int .i64 t)]]) st=_ at h145
 refine (task_of_aw (N:=85) prim56 fn56 rfl rfl hst ?_).1
 intro e he ha K hK
 have a0:=ha 0
 have a1:=ha 1
 clear ha
 simp [Ex.av,Ex.cs] at a0 a1
 simp [a56,he,a0,a1]
 refine grda_join (fun e2=>AX.ev e2 (.t 15)=.bool (decide (x.k<1) || decide (21<x.k))) ?_ fun e2 hs2 h15=>?_
 ·repeat' ((first | refine conda_splitn (fun h=>?_) (fun h=>?_) | refine grda_splitn (fun h=>?_) (fun h=>?_) | refine conda_split (fun h=>?_) (fun h=>?_) | refine grda_split (fun h=>?_) (fun h=>?_))<;>simp [he,a0,a1,h])
 have he2:e2.length=85:=by simp [hs2.1,he]
 have g2:=hs2.ev 2 rfl (v:=.iptr (.agg x.cs)) (by simp [he,a0,Ex.cs])
 have g3:=hs2.ev 3 rfl (v:=.iptr (.int .i64 t)) (by simp [he,a1])
 clear hs2 a0 a1
 cases hk:(decide (x.k<1) || decide (21<x.k)) with
 | true =>
  rw [hk] at h15
  have hm:may2X x t=false:=by unfold may2X;rw [hk];rfl
  simp [h15,he2]
  exact hK _ _ _ (.inl rfl) (by simp) ⟨_,rfl,by simp [he2,AV.still,hm]⟩
 | false =>
  rw [hk] at h15
  have hm:may2X x t=(!(!equalF x (bareF x (nmF x) (decide (x.k=20)) (vlF x)) || (partsF x).any (outF t)) &&
   (!((nmF x && decide (x.n=[])) || (decide (x.k=20) && decide (x.s=[]))) && (decide (0≤x.v) && (!decide (x.k=2) || decide (x.v≤1))))):=by unfold may2X;rw [hk];rfl
  simp only [Ex.cs] at g2
  simp [h15,he2,g2]
  refine grda_join (fun e3=>AX.ev e3 (.t 5)=.bool (nmF x)) ?_ fun e3 hs3 h5=>?_
  ·repeat' ((first | refine conda_splitn (fun h=>?_) (fun h=>?_) | refine grda_splitn (fun h=>?_) (fun h=>?_) | refine conda_split (fun h=>?_) (fun h=>?_) | refine grda_split (fun h=>?_) (fun h=>?_))<;>simp [he2,g2,h])
   all_goals simp_all [nmF]
  have he3:e3.length=85:=by simp [hs3.1,he2]
  have g2:=hs3.ev 2 rfl (v:=.iptr (.agg x.cs)) (by simp [he2,g2,Ex.cs])
  have g3:=hs3.ev 3 rfl (v:=.iptr (.int .i64 t)) (by simp [he2,g3])
  clear hs3 h15
  simp only [Ex.cs] at g2
  simp [he3,g2]
  refine grda_join (fun e4=>AX.ev e4 (.t 6)=.bool (vlF x)) ?_ fun e4 hs4 h6=>?_
  ·repeat' ((first | refine conda_splitn (fun h=>?_) (fun h=>?_) | refine grda_splitn (fun h=>?_) (fun h=>?_) | refine conda_split (fun h=>?_) (fun h=>?_) | refine grda_split (fun h=>?_) (fun h=>?_))<;>simp [he3,g2,h])
   all_goals simp_all [vlF]
  have he4:e4.length=85:=by simp [hs4.1,he3]
  have g2:=hs4.ev 2 rfl (v:=.iptr (.agg x.cs)) (by simp [he3,g2,Ex.cs])
  have g3:=hs4.ev 3 rfl (v:=.iptr (.int .i64 t)) (by simp [he3,g3])
  have h5:=hs4.ev 5 rfl (v:=.bool (nmF x)) (by simp [he3,h5])
  clear hs4
  simp only [Ex.cs] at g2
  have hb1:=beqs_ints x.args
  have hb2:=ap_beq x.ap
  simp [he4,g2,g3,h5,h6,h144,h143,AV.beq,AV.beqs,hb1,hb2]
  refine grdp_join (fun e5=>AX.ev e5 (.t 38)=.bool (!equalF x (bareF x (nmF x) (decide (x.k=20)) (vlF x)) || (partsF x).any (outF t))) ?_ fun e5 hs5 h38=>?_
  ·repeat' ((first | refine conda_splitn (fun h=>?_) (fun h=>?_) | refine grda_splitn (fun h=>?_) (fun h=>?_) | refine conda_split (fun h=>?_) (fun h=>?_) | refine grda_split (fun h=>?_) (fun h=>?_))<;>simp [he4,g2,g3,h5,h6,h134,h145,h])
  have he5:e5.length=85:=by simp [hs5.1,he4]
  have g2:=hs5.ev 2 rfl (v:=.iptr (.agg x.cs)) (by simp [he4,g2,Ex.cs])
  have h5:=hs5.ev 5 rfl (v:=.bool (nmF x)) (by simp [he4,h5])
  clear hs5
  generalize (!equalF x (bareF x (nmF x) (decide (x.k=20)) (vlF x)) || (partsF x).any (outF t))=B1 at h38 hm
  simp only [Ex.cs] at g2
  cases B1 with
  | true =>
   simp at hm
   simp [h38,he5]
   exact hK _ _ _ (.inl rfl) (by simp) ⟨_,rfl,by simp [he5,AV.still,hm]⟩
  | false =>
   simp only [Bool.not_false,Bool.true_and] at hm
   generalize nmF x=N at h5 hm
   simp [h38,he5,h5,g2]
   refine grda_join (fun e6=>AX.ev e6 (.t 55)=.bool ((N && decide (x.n=[])) || (decide (x.k=20) && decide (x.s=[])))) ?_ fun e6 hs6 h55=>?_
   ·repeat' ((first | refine conda_splitn (fun h=>?_) (fun h=>?_) | refine grda_splitn (fun h=>?_) (fun h=>?_) | refine conda_split (fun h=>?_) (fun h=>?_) | refine grda_split (fun h=>?_) (fun h=>?_))<;>simp [he5,g2,h5,h])
    all_goals simp_all
   have he6:e6.length=85:=by simp [hs6.1,he5]
   have g2:=hs6.ev 2 rfl (v:=.iptr (.agg x.cs)) (by simp [he5,g2,Ex.cs])
   clear hs6
   generalize ((N && decide (x.n=[])) || (decide (x.k=20) && decide (x.s=[])))=B2 at h55 hm
   simp only [Ex.cs] at g2
   cases B2 with
   | true =>
    simp at hm
    simp [h55,he6]
    exact hK _ _ _ (.inl rfl) (by simp) ⟨_,rfl,by simp [he6,AV.still,hm]⟩
   | false =>
    simp only [Bool.not_false,Bool.true_and] at hm
    simp [h55,he6,g2]
    repeat' ((first | refine conda_splitn (fun h=>?_) (fun h=>?_) | refine grda_splitn (fun h=>?_) (fun h=>?_) | refine conda_split (fun h=>?_) (fun h=>?_) | refine grda_split (fun h=>?_) (fun h=>?_))<;>simp [he6,g2,h])
    all_goals (refine hK _ _ _ (.inl rfl) (by simp) ⟨_,rfl,?_⟩;clear hK;simp_all [AV.still])
end Go.Proofs.YtgkhmmlemgikjaaGreatDoor
namespace Go.Proofs.YtgkhmmlemgikjaaGreatDoor
open Go Ai
theorem fn108:A.fn 108=some a108:=by kernel_rfl
theorem prim108:A.prim 108=none:=by kernel_rfl
theorem fn59:A.fn 59=some a59:=by kernel_rfl
theorem prim59:A.prim 59=none:=by kernel_rfl
theorem fn58:A.fn 58=some a58:=by kernel_rfl
theorem prim58:A.prim 58=none:=by kernel_rfl
theorem fn34:A.fn 34=some a34:=by kernel_rfl
theorem prim34:A.prim 34=none:=by kernel_rfl
def w34_0:List Nat:=a34_0.writes
theorem item_call {p:Pg} {x:It} {st:St} (hst:StOk st):runL A (.call 108 [.agg x.cs,.iptr p.av]) st=some ⟨.ret,⟨[.bool (!itemR p.xs.length x)],[]⟩,st⟩:=by
 have h148:=has2_call (k:=x.k) hst
 have h146:=fun k h=>points2_call (p:=p) (k:=k) (h:=h) hst
 simp only [Pg.av] at h146
 refine (task_of_aw_keep (N:=26) prim108 fn108 rfl rfl (st:=st) (st':=st) ?_).1
 intro e he ha K hK
 have a0:=ha 0
 have a1:=ha 1
 clear ha
 simp [It.cs,Pg.av] at a0 a1
 simp [a108,he,a0,a1,h148,h146]
 repeat' ((first | refine conda_splitn (fun h=>?_) (fun h=>?_) | refine grda_splitn (fun h=>?_) (fun h=>?_) | refine conda_split (fun h=>?_) (fun h=>?_) | refine grda_split (fun h=>?_) (fun h=>?_))<;>simp [he,a0,a1,h146,h])
 all_goals (refine hK _ _ (.inl rfl) ⟨_,rfl,?_⟩;clear hK;simp_all [itemR])
theorem any_not {α:Type} (P:α→Bool):∀l:List α,(!(l.any fun x=>!P x))=l.all P
 | []=>rfl
 | x::l=>by
  have:=any_not P l
  simp only [List.any_cons,List.all_cons,Bool.not_or,Bool.not_not,this]
theorem decl_call {p:Pg} {d:Dc} (hd:d.Ok) {st:St} (hst:StOk st):runL A (.call 59 [p.av,d.av]) st=some ⟨.ret,⟨[.bool (declR p.xs.length d)],[]⟩,st⟩:=by
 have h146:=fun k h=>points2_call (p:=p) (k:=k) (h:=h) hst
 have h79:=has79_call (l:=d.its) (ap:=d.iap) (g:=108) (cap:=[.iptr p.av]) (P:=fun x=>!itemR p.xs.length x) hd.its hst (fun v _=>item_call hst)
 change runL A (.call 107 [.lst 9 (d.its.map It.av) d.iap,.func (.func 108) [] [.iptr p.av]]) st=_ at h79
 simp only [Pg.av] at h146 h79
 refine (task_of_aw (N:=23) prim59 fn59 rfl rfl hst ?_).1
 intro e he ha K hK
 have a0:=ha 0
 have a1:=ha 1
 clear ha
 simp [Dc.av,Dc.cs,Pg.av] at a0 a1
 simp [a59,he,a0,a1]
 refine grda_join (fun e2=>AX.ev e2 (.t 17)=.bool (!pointsF p.xs.length d.e (decide (d.k=1) || decide (d.k=2)))) ?_ fun e2 hs2 h17=>?_
 ·repeat' ((first | refine conda_splitn (fun h=>?_) (fun h=>?_) | refine grda_splitn (fun h=>?_) (fun h=>?_) | refine conda_split (fun h=>?_) (fun h=>?_) | refine grda_split (fun h=>?_) (fun h=>?_))<;>simp [he,a0,a1,h146,h])
 have he2:e2.length=23:=by simp [hs2.1,he]
 have g2:=hs2.ev 2 rfl (v:=.iptr p.av) (by simp [he,a0,Pg.av])
 have g3:=hs2.ev 3 rfl (v:=.iptr (.agg d.cs)) (by simp [he,a1,Dc.cs])
 clear hs2
 simp only [Dc.cs,Pg.av] at g2 g3
 cases hb:pointsF p.xs.length d.e (decide (d.k=1) || decide (d.k=2)) with
 | false =>
  rw [hb] at h17
  simp [h17,he2]
  exact hK _ _ _ (.inl rfl) (by simp) ⟨_,rfl,by simp [he2,AV.still,declR,hb]⟩
 | true =>
  rw [hb] at h17
  have:=any_not (itemR p.xs.length) d.its
  simp [h17,he2,g2,g3,h79]
  exact hK _ _ _ (.inl rfl) (by simp) ⟨_,rfl,by simp only [declR,hb,Bool.true_and,←this];simp [he2,AV.still]⟩
theorem decl2_call {p:Pg} {d:Dc} (hd:d.Ok) {st:St} (hst:StOk st):runL A (.call 58 [.agg d.cs,.iptr p.av]) st=some ⟨.ret,⟨[.bool (!declR p.xs.length d)],[]⟩,st⟩:=by
 have h121:=decl_call (p:=p) hd hst
 simp only [Dc.av,Dc.cs,Pg.av] at h121
 refine (task_of_aw_keep (N:=8) prim58 fn58 rfl rfl (st:=st) (st':=st) ?_).1
 intro e he ha K hK
 have a0:=ha 0
 have a1:=ha 1
 clear ha
 simp [Dc.cs,Pg.av] at a0 a1
 simp [a58,he,a0,a1,h121]
 exact hK _ _ (.inl rfl) ⟨_,rfl,by simp [he]⟩
def ones2:List Ex→Nat→Bool
 | [],_=>true
 | x::l,i=>may2X x i && ones2 l (i+1)
def mayA (p:Pg):Bool:=ones2 p.xs 0 && p.ds.all (declR p.xs.length)
theorem mayA_call {p:Pg} (hp:p.Ok) {st:St} (hst:StOk st):runL A (.call 34 [p.av]) st=some ⟨.ret,⟨[.bool (mayA p)],[]⟩,st⟩:=by
 refine (task_of_aw (N:=23) prim34 fn34 rfl rfl hst ?_).1
 intro e he ha K hK
 have a0:=ha 0
 clear ha
 simp [Pg.av] at a0
 simp [a34,he,a0]
 have hxs:=hp.xs
 refine aw_loop (W:=w34_0) rfl (fun m e ds s2=>ds=[]∧s2.take st.length=st∧st.length≤s2.length∧StOk s2∧∃i:Nat,i+m=p.xs.length∧ones2 p.xs 0=ones2 (p.xs.drop i) i∧AX.ev e (.t 8)=.int .i64 i) p.xs.length
  ⟨rfl,by simp,by simp,hst,0,by simp,by simp,by simp [he]⟩ ?_
 rintro m e1 ds s2 hs ⟨rfl,ht2,hl2,hst2,i,hm,hspec,g8⟩ K1 kn kx
 have he1:e1.length=23:=by simp [hs.1,he]
 have g1:=hs.ev 1 rfl (v:=.iptr p.av) (by simp [he,a0,Pg.av])
 have g6:=hs.ev 6 rfl (v:=.lst 9 (p.xs.map Ex.av) p.xap) (by simp [he,a0])
 have g7:=hs.ev 7 rfl (v:=.int .i64 p.xs.length) (by simp [he,a0])
 simp only [Pg.av] at g1
 by_cases hi:i<p.xs.length
 ·have hgx:=xs_get hi
  have hxo:=hp.ex _ (List.getElem_mem hi)
  rw [drop_get hi,ones2] at hspec
  obtain ⟨x,hx⟩:∃x,x=p.xs[i]:=⟨_,rfl⟩
  rw [←hx] at hgx hxo hspec
  have hst3:StOk (s2++[.cells none x.cs]):=obj_ok hst2 (Ex.low hxo _)
  have ht3:(s2++[AObj.cells none x.cs]).take st.length=st:=by rw [List.take_append_of_le_length hl2,ht2]
  have hone:=may2X_call (t:=(i:Int)) hxo hst3
  have w1:IntKind.i64.wrap ((i:Int)+1)=(i:Int)+1:=wrap_i64 (by omega) (by omega)
  simp only [Ex.av,Ex.cs] at hone hgx hst3 ht3
  cases hb:may2X x i with
  | false =>
   rw [hb] at hone hspec
   simp [a34_0,g1,g6,g7,g8,he1,hi,hgx,hone]
   refine kx _ _ _ _ nofun fun hs'=>?_
   simp [he1]
   exact hK _ _ _ (.inl rfl) ht3 ⟨_,rfl,by simp [he1,AV.still,mayA,hspec]⟩
  | true =>
   rw [hb] at hone hspec
   simp [a34_0,g1,g6,g7,g8,he1,hi,hgx,hone,w1]
   exact kn (m-1) _ _ _ (by omega) ⟨rfl,ht3,by simp;omega,hst3,i+1,by omega,by simpa using hspec,by simp [he1]⟩
 ·have hil:i=p.xs.length:=by omega
  have hall:ones2 p.xs 0=true:=by rw [hspec,hil];simp [ones2]
  have h81:=has81_call (l:=p.ds) (ap:=p.dap) (g:=58) (cap:=[.iptr p.av]) (P:=fun d=>!declR p.xs.length d) hp.ds hst2 (fun v hv=>decl2_call (hp.dc v hv) hst2)
  change runL A (.call 57 [.lst 7 (p.ds.map Dc.av) p.dap,.func (.func 58) [] [.iptr p.av]]) s2=_ at h81
  simp only [Pg.av] at h81
  have:=any_not (declR p.xs.length) p.ds
  rw [hil] at g8
  simp [a34_0,g7,g8,he1]
  refine kx _ _ _ _ nofun fun hs'=>?_
  simp [he1,g1,h81]
  exact hK _ _ _ (.inl rfl) ht2 ⟨_,rfl,by simp only [mayA,hall,Bool.true_and,←this];simp [he1,AV.still]⟩
end Go.Proofs.YtgkhmmlemgikjaaGreatDoor
namespace Go.Proofs.YtgkhmmlemgikjaaGreatDoor
open Go Ai
theorem equal_bare (x:Ex) (nm sd vl:Bool):equalF x (bareF x nm sd vl) =
  (!((decide (manyF x.k<1) && !decide (x.a=0)) || (decide (manyF x.k<2) && !decide (x.b=0)) || (decide (manyF x.k<3) && !decide (x.c=0)) || (decide (0≤manyF x.k) && decide (0<x.args.length))) &&
   ((nm || decide (x.n=[])) && ((sd || decide (x.s=[])) && (vl || decide (x.v=0))))):=by
 have h1:=many_le x.k
 have h2:=many_ge x.k
 have hn:decide (x.n=(if nm then x.n else []))=(nm || decide (x.n=[])):=by cases nm<;>simp
 have hs:decide (x.s=(if sd then x.s else []))=(sd || decide (x.s=[])):=by cases sd<;>simp
 have hv:decide (x.v=(if vl then x.v else 0))=(vl || decide (x.v=0)):=by cases vl<;>simp
 have hlen:decide (0<x.args.length)=!decide (x.args=[]):=by cases x.args<;>simp
 by_cases hk:x.k=19
 ·have hm:manyF x.k=-1:=by rw [hk];rfl
  simp only [equalF,bareF,if_pos hk,hm,hn,hs,hv,decide_true,Bool.true_and,Bool.and_true]
  have e1:decide ((-1:Int)<1)=true:=rfl
  have e2:decide ((-1:Int)<2)=true:=rfl
  have e3:decide ((-1:Int)<3)=true:=rfl
  have e4:decide ((0:Int)≤-1)=false:=rfl
  simp only [e1,e2,e3,e4,Bool.true_and,Bool.false_and,Bool.or_false]
  simp [Bool.and_assoc]
 ·have hm0:0≤manyF x.k:=by
   unfold manyF;repeat' split<;>omega
  have hp:partsF x=[x.a,x.b,x.c].take (manyF x.k).toNat:=by unfold partsF;rw [if_neg (by omega)]
  rcases (by omega:manyF x.k=0∨manyF x.k=1∨manyF x.k=2∨manyF x.k=3) with hm | hm | hm | hm
  all_goals
   rw [hm] at hp
   simp only [equalF,bareF,padF,if_neg hk,hp,hm,hn,hs,hv,hlen,decide_true,Bool.true_and,Bool.and_true]
   simp [Bool.and_assoc]
   try (cases decide (x.a=0)<;>cases decide (x.b=0)<;>cases decide (x.c=0)<;>cases decide (x.args=[])<;>simp)
theorem parts_any (l:List Int) (t:Int):(!(l.any (outF t)))=l.all (fun l=>decide (0≤l) && decide (l<t)):=by
 induction l with
 | nil=>rfl
 | cons x l ih =>
  simp only [List.any_cons,List.all_cons,Bool.not_or,ih]
  congr 1
  simp only [outF]
  by_cases h1:x<0<;>by_cases h2:t≤x<;>simp [h1,h2]<;>omega
theorem may2X_one (x:Ex) (t:Int):may2X x t=oneF x t:=by
 by_cases hk:1≤x.k∧x.k≤21
 ·have e1:decide (x.k<1)=false:=by simp;omega
  have e2:decide (21<x.k)=false:=by simp;omega
  have e3:decide (1≤x.k)=true:=by simp;omega
  have e4:decide (x.k≤21)=true:=by simp;omega
  have hp:=parts_any (partsF x) t
  simp only [may2X,oneF,e1,e2,e3,e4,equal_bare,Bool.or_false,Bool.not_false,Bool.true_and,Bool.and_true,←hp,nmF,vlF]
  generalize ((decide (manyF x.k<1) && !decide (x.a=0)) || (decide (manyF x.k<2) && !decide (x.b=0)) || (decide (manyF x.k<3) && !decide (x.c=0)) || (decide (0≤manyF x.k) && decide (0<x.args.length)))=M
  generalize (partsF x).any (outF t)=P
  have hv:((decide (x.k=1) || decide (x.k=2) || decide (x.v=0)) && (decide (0≤x.v) && (!decide (x.k=2) || decide (x.v≤1))))=(if 2<x.k then decide (x.v=0) else decide (0≤x.v) && (decide (x.k=1) || decide (x.v≤1))):=by
   by_cases h2:2<x.k
   ·have f1:decide (x.k=1)=false:=by simp;omega
    have f2:decide (x.k=2)=false:=by simp;omega
    rw [if_pos h2,f1,f2]
    by_cases h0:x.v=0<;>simp [h0]
   ·rw [if_neg h2]
    rcases (by omega:x.k=1∨x.k=2) with h | h<;>simp [h]
  rw [←hv]
  cases M<;>cases P<;>cases decide (x.k=3)<;>cases decide (x.k=19)<;>cases decide (x.k=20)<;>cases decide (x.n=[])<;>cases decide (x.s=[])<;>simp
 ·have e1:(decide (x.k<1) || decide (21<x.k))=true:=by simp;omega
  have e2:(decide (1≤x.k) && decide (x.k≤21))=false:=by simp;omega
  simp only [may2X,oneF,e1,e2,Bool.not_true,Bool.false_and]
theorem ones2_ones:∀(l:List Ex) (i:Nat),ones2 l i=onesF l i
 | [],_=>rfl
 | x::l,i=>by simp only [ones2,onesF,may2X_one,ones2_ones l (i+1)]
theorem mayA_may4 (p:Pg):mayA p=may4 p:=by simp only [mayA,may4,ones2_ones]
end Go.Proofs.YtgkhmmlemgikjaaGreatDoor
namespace Go.Proofs.YtgkhmmlemgikjaaGreatDoor
open Go Ai
end Go.Proofs.YtgkhmmlemgikjaaGreatDoor
namespace Go.Proofs.YtgkhmmlemgikjaaGreatDoor
open Go Ai
end Go.Proofs.YtgkhmmlemgikjaaGreatDoor
namespace Go.Proofs.YtgkhmmlemgikjaaGreatDoor
open Go Ai
end Go.Proofs.YtgkhmmlemgikjaaGreatDoor
namespace Go.Proofs.YtgkhmmlemgikjaaGreatDoor
open Go Ai
end Go.Proofs.YtgkhmmlemgikjaaGreatDoor
namespace Go.Proofs.YtgkhmmlemgikjaaGreatDoor
open Go Ai
end Go.Proofs.YtgkhmmlemgikjaaGreatDoor
namespace Go.Proofs.YtgkhmmlemgikjaaGreatDoor
open Go Ai
end Go.Proofs.YtgkhmmlemgikjaaGreatDoor
namespace Go.Proofs.YtgkhmmlemgikjaaGreatDoor
open Go Ai
end Go.Proofs.YtgkhmmlemgikjaaGreatDoor
namespace Go.Proofs.YtgkhmmlemgikjaaGreatDoor
open Go Ai
theorem Ai.task_of_aw_keep_ev {A:AProg} {st:St} {f:FuncId} {F:AFunc} {args:List AV} {N:Nat} (G:AV→St→Prop) (hp:A.prim f=none) (hf:A.fn f=some F) (hk:F.keep=true) (hN:args.length+(F.ntmps-args.length)=N)
  (h:∀e:Env,e.length=N→(∀i,AX.ev e (.t i)=args.getD i .undef)→∀K:PostQ,
   (∀x e st' v,(x=.ret∨x=.nrm)→G v st'→(∃vs,resultsA st' e F.results=some vs∧oneOf vs=v)→K x e [] st')→AW A f none F.body e [] st K) :
  ∃v st',G v st'∧runL A (.call f args) st=some ⟨.ret,⟨[v],[]⟩,st'⟩∧runL A (.seqc f args) st=some ⟨.ret,⟨[v],[]⟩,st'⟩:=by
 have hev:∀i,AX.ev (args++List.replicate (F.ntmps-args.length) .undef) (.t i)=args.getD i .undef:=by
  intro i
  simp only [AX.ev,List.getD_eq_getElem?_getD]
  by_cases hi:i<args.length
  ·rw [List.getElem?_append_left hi]
  ·rw [List.getElem?_append_right (by omega),List.getElem?_eq_none (by omega:args.length≤i),List.getElem?_replicate]
   split<;>rfl
 obtain ⟨x,e',ds',st1,hx,h1,h2,v,h3,vs,h4,h5⟩:=h (args++List.replicate (F.ntmps-args.length) .undef) (by simpa using hN) hev
  (fun x e ds st1=>(x=.ret∨x=.nrm)∧ds=[]∧∃v,G v st1∧∃vs,resultsA st1 e F.results=some vs∧oneOf vs=v)
  (fun x e st' v h1 h2 h3=>⟨h1,rfl,v,h2,h3⟩)
 subst h2
 refine ⟨v,st1,h3,?_⟩
 constructor<;>rw [runL_eq]<;>simp only [layer,hp,callFn,hf,hx,runDefs]<;>rcases h1 with rfl | rfl<;>simp only [h4,hk,h5,if_true]
end Go.Proofs.YtgkhmmlemgikjaaGreatDoor
