/- Part Jo. No condition. -/
import Derived.Test.YtefildelnccljaaGreatJh
import Derived.Test.YtefildelnccljaaGreatJr
import Derived.Test.YtefildelnccljaaGreatJc
import Derived.Test.YtefildelnccljaaGreatJf
set_option linter.unusedVariables false
set_option linter.unusedSimpArgs false
namespace Go.Proofs.YtefildelnccljaaGreat
open Go Ai
theorem fn66:A.fn 66=some a66:=by kernel_rfl
theorem prim66:A.prim 66=none:=by kernel_rfl
theorem fn67:A.fn 67=some a67:=by kernel_rfl
theorem prim67:A.prim 67=none:=by kernel_rfl
def w67_0:List Nat:=a67_0.writes
theorem want66 {p:Pg} (hS:Sound p) {i:Nat} (hi:i<p.ds.length) {e':Nat} (he':e'<p.xs.length) {k:Int} {L:List Fa} {ap:Ap} (hL:L.length≤1000000000) (hap:Still ap) {st:St} (hst:StOk st) :
  ∃ap',Still ap'∧runL A (.call 66 [.lst 2 (fls L) ap,p.av,.int .i64 i,.int .i64 e',.int .i64 k]) st=some ⟨.ret,⟨[.lst 2 (fls ((ats5 (badW p (tysF p (varsF p.ds[i])) (e',k))).foldl addF L)) ap'],[]⟩,st⟩:=by
 have h42:=refOf_call hS hi e' he' st hst
 have hgx:=xs_get he'
 have hgd:p.xs.getD e' ex0=p.xs[e']:=by simp [he']
 have hx:p.xs[e']?=some p.xs[e']:=by simp [he']
 obtain ⟨V,hV⟩:∃V,V=(tysF p (varsF p.ds[i])).getD e' 0:=⟨_,rfl⟩
 rw [←hV] at h42
 have hbad:badW p (tysF p (varsF p.ds[i])) (e',k)=if V=k then [] else [p.xs[e'].p]:=by rw [badW,Int.toNat_natCast,←hV,hgd]
 rw [hbad]
 have hadd:=add_call (l:=L) (f:=(5,p.xs[e'].p)) (ap:=ap) hL hap hst
 generalize p.xs[e']=x at *
 simp only [Pg.av] at h42
 simp only [Ex.cs] at hgx
 simp only [fl] at hadd
 by_cases hk:V=k
 ·refine ⟨ap,hap,?_⟩
  rw [if_pos hk]
  simp only [ats5,List.map_nil,List.foldl_nil]
  refine (task_of_aw (N:=27) prim66 fn66 rfl rfl hst ?_).1
  intro e he ha K hK
  have a0:=ha 0
  have a1:=ha 1
  have a2:=ha 2
  have a3:=ha 3
  have a4:=ha 4
  clear ha
  simp [Pg.av] at a0 a1 a2 a3 a4
  simp [a66,he,a0,a1,a2,a3,a4,h42,eq_true hk]
  exact hK _ _ _ (.inl rfl) (by simp) ⟨_,rfl,by simp [he,AV.still,stills_fls];cases ap<;>simp_all [Still]⟩
 ·refine ⟨addAp L (5,x.p) ap,addAp_still hap,?_⟩
  rw [if_neg hk]
  simp only [ats5,List.map_cons,List.map_nil,List.foldl_cons,List.foldl_nil]
  generalize addF L (5,x.p)=L2 at *
  have hap2:=addAp_still (l:=L) (f:=(5,x.p)) hap
  generalize addAp L (5,x.p) ap=ap2 at *
  refine (task_of_aw (N:=27) prim66 fn66 rfl rfl hst ?_).1
  intro e he ha K hK
  have a0:=ha 0
  have a1:=ha 1
  have a2:=ha 2
  have a3:=ha 3
  have a4:=ha 4
  clear ha
  simp [Pg.av] at a0 a1 a2 a3 a4
  simp [a66,he,a0,a1,a2,a3,a4,h42,hk,hx,Ex.av,Ex.cs,AV.iptr,hadd]
  exact hK _ _ _ (.inl rfl) (by simp) ⟨_,rfl,by simp [he,AV.still,stills_fls];cases ap2<;>simp_all [Still]⟩
def pm0:Pm:=⟨[],0⟩
def refW (p:Pg) (T:List Int) (x:Ex) (i:Nat) (k:Int):List (Int×Int) :=
 if x.k=4∨x.k=6∨x.k=7∨x.k=8∨x.k=9∨x.k=10∨x.k=11∨x.k=21 then [(k,1)]
 else if x.k=5∨x.k=13∨x.k=14 then [(k,2)]
 else if x.k=12∨x.k=17∨x.k=18 then [(k,T.getD ((partsF x).getD 0 0).toNat 0)]
 else if x.k=15 then (if i=0 then [(k,2)] else [(k,T.getD ((partsF x).getD 1 0).toNat 0)])
 else if x.k=19 then [(k,((p.ds.getD (declF p x.n).toNat dc0).ps.getD i pm0).t)]
 else []
def refP (p:Pg) (T:List Int) (x:Ex):List Int→Nat→List (Int×Int)
 | [],_=>[]
 | k::ks,i=>refW p T x i k++refP p T x ks (i+1)
theorem ats5_append (a b:List Int):ats5 (a++b)=ats5 a++ats5 b:=by simp [ats5]
theorem parts67_len {x:Ex} (hx:x.Ok):(partsF x).length≤1048576:=by
 have:=hx.args
 unfold partsF
 split
 ·exact this
 ·simp;omega
set_option maxRecDepth 20000 in
set_option maxHeartbeats 4000000 in
theorem parts67 {p:Pg} (hS:Sound p) {d:Nat} (hd:d<p.ds.length) {j:Nat} (hj:j<p.xs.length) (hw:p.xs[j].k=19→∃(n:Nat) (h:n<p.ds.length),declF p p.xs[j].n=n∧(p.ds[n]).ps.length=p.xs[j].args.length) {L:List Fa} {ap0:Ap} (hL:L.length≤900000000) (hap0:Still ap0) {st:St} (hst:StOk st) :
  ∃ap',Still ap'∧runL A (.call 67 [.lst 2 (fls L) ap0,p.av,.int .i64 d,p.xs[j].av]) st=some ⟨.ret,⟨[.lst 2 (fls ((ats5 ((refP p (tysF p (varsF p.ds[d])) p.xs[j] (partsF p.xs[j]) 0).flatMap (badW p (tysF p (varsF p.ds[d]))))).foldl addF L)) ap'],[]⟩,st⟩:=by
 have hp:=hS.ok
 have hxo:=hp.ex _ (List.getElem_mem hj)
 have hA:=hS.ahead j hj
 have hkk:=kinds_may hS hj
 have h68:=parts_call hxo hst
 have hpl:=parts67_len hxo
 have hW66:=fun (c:Nat) (hc:c<p.xs.length) (k:Int) (L:List Fa) (ap:Ap) (hL:L.length≤1000000000) (hap:Still ap)=>want66 hS hd hc (k:=k) hL hap hst
 have h42:=fun (c:Nat) (hc:c<p.xs.length)=>refOf_call hS hd c hc st hst
 have h29:=refDecl_call hp (n:=p.xs[j].n) hst
 generalize hT:tysF p (varsF p.ds[d])=T at *
 generalize p.xs[j]=x at *
 obtain ⟨R,hR⟩:∃R,R=(ats5 ((refP p T x (partsF x) 0).flatMap (badW p T))).foldl addF L:=⟨_,rfl⟩
 rw [←hR]
 suffices h:∃v,(∃ap,Still ap∧v=.lst 2 (fls R) ap)∧runL A (.call 67 [.lst 2 (fls L) ap0,p.av,.int .i64 d,x.av]) st=some ⟨.ret,⟨[v],[]⟩,st⟩∧runL A (.seqc 67 [.lst 2 (fls L) ap0,p.av,.int .i64 d,x.av]) st=some ⟨.ret,⟨[v],[]⟩,st⟩ by
  obtain ⟨v,⟨ap,h1,rfl⟩,h2,_⟩:=h
  exact ⟨ap,h1,h2⟩
 refine task_of_aw_ex (N:=117) _ prim67 fn67 rfl rfl hst ?_
 intro e he ha K hK
 have a0:=ha 0
 have a1:=ha 1
 have a2:=ha 2
 have a3:=ha 3
 clear ha
 simp [Pg.av,Ex.av,Ex.cs] at a0 a1 a2 a3
 simp only [Ex.av,Ex.cs] at h68
 simp only [Pg.av] at hW66 h42 h29
 simp [a67,he,a0,a1,a2,a3,h68]
 refine aw_loop (W:=w67_0) rfl (fun m e ds s=>ds=[]∧s=st∧∃(i:Nat) (ap:Ap) (L2:List Fa),i+m=(partsF x).length∧L2.length≤L.length+i∧(ats5 ((refP p T x ((partsF x).drop i) i).flatMap (badW p T))).foldl addF L2=R∧Still ap ∧
   AX.ev e (.t 0)=.lst 2 (fls L2) ap∧AX.ev e (.t 10)=.int .i64 i) (partsF x).length
  ⟨rfl,rfl,0,ap0,L,by simp,by omega,by simp [hR],hap0,by simp [he,a0],by simp [he]⟩ ?_
 rintro m e1 ds s hs ⟨rfl,rfl,i,ap,L2,hm,hL2,hac,hap,g0,g10⟩ K1 kn kx
 have he1:e1.length=117:=by simp [hs.1,he]
 have g2:=hs.ev 2 rfl (v:=.int .i64 d) (by simp [he,a2])
 have g5:=hs.ev 5 rfl (v:=.iptr p.av) (by simp [he,a1,Pg.av])
 have g7:=hs.ev 7 rfl (v:=.iptr x.av) (by simp [he,a3,Ex.av,Ex.cs])
 have g9:=hs.ev 9 rfl (v:=.lst 1 (ints (partsF x)) (partsAp x)) (by simp [he])
 simp only [Pg.av] at g5
 simp only [Ex.av,Ex.cs] at g7
 by_cases hi:i<(partsF x).length
 ·have hgi:=ints_get hi
  have hkr:=hA _ (List.getElem_mem hi)
  obtain ⟨q,hq⟩:∃q,q=(partsF x)[i]:=⟨_,rfl⟩
  rw [drop_get hi,←hq,refP] at hac
  rw [←hq] at hgi hkr
  obtain ⟨c,rfl⟩:=Int.eq_ofNat_of_zero_le hkr.1
  have hc:c<p.xs.length:=by omega
  have hW:=fun k=>hW66 c hc k L2 ap (by omega) hap
  have w1:IntKind.i64.wrap ((i:Int)+1)=(i:Int)+1:=wrap_i64 (by omega) (by omega)
  have nxt:∀(k:Int) (ap2:Ap) (e2:Env),refW p T x i c=[((c:Int),k)]→Still ap2→AX.ev e2 (.t 0)=.lst 2 (fls ((ats5 (badW p T ((c:Int),k))).foldl addF L2)) ap2→AX.ev e2 (.t 10)=.int .i64 (i+1)→K1 .nrm e2 [] s:=by
   intro k ap2 e2 hrw hap2 h0 h10
   have hbl:=badW_len p T ((c:Int),k)
   have hfl:((ats5 (badW p T ((c:Int),k))).foldl addF L2).length≤L2.length+1:=by
    unfold badW;split
    ·simp [ats5]
    ·simp [ats5];exact addF_len _ _
   exact kn (m-1) _ _ _ (by omega) ⟨rfl,rfl,i+1,ap2,_,by omega,by omega,by rw [←hac,hrw];simp [ats5_append,List.foldl_append],hap2,h0,by simpa using h10⟩
  by_cases kA:x.k=4∨x.k=6∨x.k=7∨x.k=8∨x.k=9∨x.k=10∨x.k=11∨x.k=21
  ·have hrw:refW p T x i c=[((c:Int),1)]:=by rw [refW,if_pos kA]
   obtain ⟨ap2,hap2,h66⟩:=hW 1
   rcases kA with h | h | h | h | h | h | h | h <;>
   ·simp [a67_0,g0,g2,g5,g7,g9,g10,he1,hi,hgi,ints_length,h,h66,w1,Ai.beq_refl]
    exact nxt 1 ap2 _ hrw hap2 (by simp [he1]) (by simp [he1])
  by_cases kB:x.k=5∨x.k=13∨x.k=14
  ·have hrw:refW p T x i c=[((c:Int),2)]:=by rw [refW,if_neg kA,if_pos kB]
   obtain ⟨ap2,hap2,h66⟩:=hW 2
   rcases kB with h | h | h <;>
   ·simp [a67_0,g0,g2,g5,g7,g9,g10,he1,hi,hgi,ints_length,h,h66,w1,Ai.beq_refl]
    exact nxt 2 ap2 _ hrw hap2 (by simp [he1]) (by simp [he1])
  have h0:0<(partsF x).length:=by omega
  have g0i:=ints_get h0
  have hk0:=hA _ (List.getElem_mem h0)
  obtain ⟨q0,hq0⟩:∃q,q=(partsF x)[0]:=⟨_,rfl⟩
  have hd0:(partsF x).getD 0 0=q0:=by rw [hq0,List.getD_eq_getElem?_getD,List.getElem?_eq_getElem h0];rfl
  rw [←hq0] at g0i hk0
  obtain ⟨c0,rfl⟩:=Int.eq_ofNat_of_zero_le hk0.1
  have h420:=h42 c0 (by omega)
  by_cases kC:x.k=12∨x.k=17∨x.k=18
  ·have hrw:refW p T x i c=[((c:Int),T.getD c0 0)]:=by rw [refW,if_neg kA,if_neg kB,if_pos kC,hd0];rfl
   obtain ⟨ap2,hap2,h66⟩:=hW (T.getD c0 0)
   generalize T.getD c0 0=V at *
   rcases kC with h | h | h <;>
   ·simp [a67_0,g0,g2,g5,g7,g9,g10,he1,hi,h0,hgi,g0i,ints_length,h,h66,h420,w1,Ai.beq_refl]
    exact nxt _ ap2 _ hrw hap2 (by simp [he1]) (by simp [he1])
  by_cases k15:x.k=15
  ·by_cases hi0:i=0
   ·subst hi0
    have hcc:(c:Int)=c0:=by rw [hq,hq0]
    have hrw:refW p T x 0 c=[((c:Int),2)]:=by rw [refW,if_neg kA,if_neg kB,if_neg kC,if_pos k15,if_pos rfl]
    obtain ⟨ap2,hap2,h66⟩:=hW 2
    rw [hcc] at h66 hrw nxt
    have w0:IntKind.i64.wrap 1=1:=by decide
    simp [a67_0,g0,g2,g5,g7,g9,g10,he1,h0,g0i,ints_length,k15,h66,w0,Ai.beq_refl]
    exact nxt _ ap2 _ hrw hap2 (by simp [he1,hcc]) (by simp [he1])
   ·have h1:1<(partsF x).length:=by omega
    have g1i:=ints_get h1
    have hk1:=hA _ (List.getElem_mem h1)
    obtain ⟨q1,hq1⟩:∃q,q=(partsF x)[1]:=⟨_,rfl⟩
    have hd1:(partsF x).getD 1 0=q1:=by rw [hq1,List.getD_eq_getElem?_getD,List.getElem?_eq_getElem h1];rfl
    rw [←hq1] at g1i hk1
    obtain ⟨c1,rfl⟩:=Int.eq_ofNat_of_zero_le hk1.1
    have h421:=h42 c1 (by omega)
    have hrw:refW p T x i c=[((c:Int),T.getD c1 0)]:=by rw [refW,if_neg kA,if_neg kB,if_neg kC,if_pos k15,if_neg hi0,hd1];rfl
    obtain ⟨ap2,hap2,h66⟩:=hW (T.getD c1 0)
    generalize T.getD c1 0=V at *
    simp [a67_0,g0,g2,g5,g7,g9,g10,he1,hi,h1,hi0,hgi,g1i,ints_length,k15,h66,h421,w1,Ai.beq_refl]
    exact nxt _ ap2 _ hrw hap2 (by simp [he1]) (by simp [he1])
  by_cases k19:x.k=19
  ·obtain ⟨n,hn,hdn,hlen⟩:=hw k19
   have hpa:partsF x=x.args:=by simp [partsF,manyF,k19]
   have hia:i<p.ds[n].ps.length:=by rw [hlen,←hpa];exact hi
   have hcd:=ds_get hn
   have hgd:p.ds.getD n dc0=p.ds[n]:=by simp [hn]
   rw [hdn] at h29
   obtain ⟨D,hD⟩:∃D,D=p.ds[n]:=⟨_,rfl⟩
   rw [←hD] at hcd hgd
   have hia:i<D.ps.length:=by rw [hD];exact hia
   have hgq:(D.ps.map Pm.av)[i]'(by simpa using hia)=.agg [.str D.ps[i].n,.int .i64 D.ps[i].t]:=by simp [Pm.av]
   have hrw:refW p T x i c=[((c:Int),D.ps[i].t)]:=by
    rw [refW,if_neg kA,if_neg kB,if_neg kC,if_neg k15,if_pos k19,hdn,Int.toNat_natCast,hgd,List.getD_eq_getElem?_getD,List.getElem?_eq_getElem hia];rfl
   obtain ⟨ap2,hap2,h66⟩:=hW D.ps[i].t
   generalize D.ps[i]=Q at *
   simp only [Dc.cs] at hcd
   simp [a67_0,g0,g2,g5,g7,g9,g10,he1,hi,hia,hn,hgi,hcd,hgq,ints_length,k19,h66,h29,w1,Ai.beq_refl]
   exact nxt _ ap2 _ hrw hap2 (by simp [he1]) (by simp [he1])
  have hrw:refW p T x i c=[]:=by rw [refW,if_neg kA,if_neg kB,if_neg kC,if_neg k15,if_neg k19]
  simp only [not_or] at kA kB kC
  simp [a67_0,g0,g2,g5,g7,g9,g10,he1,hi,ints_length,kA,kB,kC,k15,k19,w1,Ai.beq_refl]
  exact kn (m-1) _ _ _ (by omega) ⟨rfl,rfl,i+1,ap,L2,by omega,by omega,by rw [←hac,hrw];simp,hap,by simp [he1,g0],by simp [he1]⟩
 ·have hil:i=(partsF x).length:=by omega
  rw [hil,List.drop_length] at hac
  simp [refP,ats5] at hac
  simp [a67_0,g9,g10,he1,hi,ints_length]
  refine kx _ _ _ _ nofun fun hs'=>?_
  simp [he1,g0]
  exact hK _ _ _ _ _ _ (.inl rfl) rfl (by simp) ⟨ap,hap,rfl⟩ ⟨_,rfl,by simp [he1,g0,hac,AV.still,stills_fls];cases ap<;>simp_all [Still]⟩
end Go.Proofs.YtefildelnccljaaGreat
namespace Go.Proofs.YtefildelnccljaaGreat
open Go Ai
theorem fn36:A.fn 36=some a36:=by kernel_rfl
theorem prim36:A.prim 36=none:=by kernel_rfl
def w36_0:List Nat:=a36_0.writes
def w36_1:List Nat:=a36_1.writes
def w36_2:List Nat:=a36_2.writes
def reachR (p:Pg) (T:List Int):List Bool→List Ex→List Int
 | b::bs,x::xs=>(if b then (refP p T x (partsF x) 0).flatMap (badW p T) else [])++reachR p T bs xs
 | _,_=>[]
theorem fold5_len (l:List Int) (L:List Fa):((ats5 l).foldl addF L).length≤L.length+l.length:=by
 induction l generalizing L with
 | nil=>simp [ats5]
 | cons a l ih =>
  have:=ih (addF L (5,a))
  have h2:=addF_len L (5,a)
  simp only [ats5,List.map_cons,List.foldl_cons,List.length_cons] at *
  omega
set_option maxRecDepth 20000 in
theorem exprs36 {p:Pg} (hS:Sound p) {d:Nat} (hd:d<p.ds.length) {s0:St} (hok:StOk s0) {bs:List Bool} (hbl:bs.length=p.xs.length) {T:List Int} (hT:tysF p (varsF p.ds[d])=T)
  (hw:∀(j:Nat) (hj:j<p.xs.length),bs.getD j false=true→p.xs[j].k=19→∃(n:Nat) (h:n<p.ds.length),declF p p.xs[j].n=n∧(p.ds[n]).ps.length=p.xs[j].args.length)
  {L:List Fa} (hL:L.length+(reachR p T bs p.xs).length≤900000000) {ap0 ap13:Ap} (hap0:Still ap0) {e:Env} (he:e.length=116)
  (g1:AX.ev e (.t 1)=.iptr p.av) (g4:AX.ev e (.t 4)=.int .i64 d) (g13:AX.ev e (.t 13)=.lst 1 (bools bs) ap13) (g14:AX.ev e (.t 14)=.int .i64 0) (g3:AX.ev e (.t 3)=.lst 2 (fls L) ap0) {Q:PostQ}
  (hq:∀e' ap',Same w36_0 e e'→Still ap'→AX.ev e' (.t 3)=.lst 2 (fls ((ats5 (reachR p T bs p.xs)).foldl addF L)) ap'→Q (.exit 4) e' [] s0):AW A 36 none (.loop a36_0) e [] s0 Q:=by
 have hp:=hS.ok
 have hxs:=hp.xs
 obtain ⟨R,hR⟩:∃R,R=(ats5 (reachR p T bs p.xs)).foldl addF L:=⟨_,rfl⟩
 rw [←hR] at hq
 refine aw_loop (W:=w36_0) rfl (fun m e ds s=>ds=[]∧s=s0∧∃(i:Nat) (ap:Ap) (L2:List Fa),i+m=bs.length∧L2.length+(reachR p T (bs.drop i) (p.xs.drop i)).length≤900000000∧(ats5 (reachR p T (bs.drop i) (p.xs.drop i))).foldl addF L2=R∧Still ap ∧
   AX.ev e (.t 3)=.lst 2 (fls L2) ap∧AX.ev e (.t 14)=.int .i64 i) bs.length
  ⟨rfl,rfl,0,ap0,L,by simp,by simpa using hL,by simp [hR],hap0,g3,by simpa using g14⟩ ?_
 rintro m e1 ds s hs ⟨rfl,rfl,i,ap,L2,hm,hL2,hac,hap,g3,g14⟩ K1 kn kx
 have he1:e1.length=116:=by simp [hs.1,he]
 have g1:=hs.ev 1 rfl g1
 have g4:=hs.ev 4 rfl g4
 have g13:=hs.ev 13 rfl g13
 simp only [Pg.av] at g1
 by_cases hi:i<bs.length
 ·have hix:i<p.xs.length:=by omega
  have hwi:=hw i hix
  have hgb:(bools bs)[i]'(by rw [bools_length];exact hi)=.bool bs[i]:=by simp [bools]
  have hbd:bs.getD i false=bs[i]:=by simp [hi]
  rw [hbd] at hwi
  have hgx:=xs_get hix
  rw [drop_get hi,drop_get hix,reachR] at hac hL2
  obtain ⟨b,hb⟩:∃b,b=bs[i]:=⟨_,rfl⟩
  rw [←hb] at hac hL2 hwi hgb
  have w1:IntKind.i64.wrap ((i:Int)+1)=(i:Int)+1:=wrap_i64 (by omega) (by omega)
  cases b with
  | false =>
   simp at hac hL2
   simp [a36_0,g13,g14,he1,hi,hgb,w1,bools_length]
   exact kn (m-1) _ _ _ (by omega) ⟨rfl,rfl,i+1,ap,L2,by omega,hL2,hac,hap,by simp [he1,g3],by simp [he1]⟩
  | true =>
   simp only [if_true,List.length_append,ats5_append,List.foldl_append] at hac hL2
   obtain ⟨ap2,hap2,h67⟩:=parts67 hS hd hix (hwi rfl) (L:=L2) (ap0:=ap) (by omega) hap hok
   rw [hT] at h67
   have hfl:=fold5_len ((refP p T p.xs[i] (partsF p.xs[i]) 0).flatMap (badW p T)) L2
   generalize (ats5 ((refP p T p.xs[i] (partsF p.xs[i]) 0).flatMap (badW p T))).foldl addF L2=L3 at *
   have hx2:p.xs[i]?=some p.xs[i]:=by simp [hix]
   simp only [Pg.av,Ex.av,Ex.cs] at h67
   simp [a36_0,g1,g3,g4,g13,g14,he1,hi,hix,hgb,hx2,Ex.av,Ex.cs,AV.iptr,w1,bools_length,h67,Ai.beq_refl]
   exact kn (m-1) _ _ _ (by omega) ⟨rfl,rfl,i+1,ap2,L3,by omega,by omega,hac,hap2,by simp [he1],by simp [he1]⟩
 ·have hil:i=bs.length:=by omega
  rw [hil,List.drop_length] at hac
  simp [reachR,ats5] at hac
  rw [←hac] at hq
  simp [a36_0,g13,g14,he1,hi,bools_length]
  exact kx _ _ _ _ nofun fun hs'=>hq _ ap hs' hap (by simp [he1,g3])
def kindI (D:Dc) (x:It):Int:=if x.k=1∨x.k=4 then x.t else if x.k=5 then ((findF D x.n).getD vr0).t else 1
def itemWR (D:Dc) (x:It):List (Int×Int):=(if hasE x.k then [(x.e,kindI D x)] else [])++(if hasF x.k then [(x.f,1)] else [])
set_option maxRecDepth 20000 in
set_option maxHeartbeats 4000000 in
theorem items36 {p:Pg} (hS:Sound p) {d:Nat} (hd:d<p.ds.length) {st:St} {T:List Int} (hT:tysF p (varsF p.ds[d])=T) {D:Dc} (hD:D=p.ds[d]) {r0:Nat} {s0:St} (hf0:Fit st s0) (hr0:s0[r0]?=some (.cells none D.cs))
  (hin:∀x∈D.its,(hasE x.k=true→0≤x.e∧x.e<(p.xs.length:Int))∧(hasF x.k=true→0≤x.f∧x.f<(p.xs.length:Int)))
  {L:List Fa} (hL:L.length≤100000000) {ap0:Ap} (hap0:Still ap0) {e:Env} (he:e.length=116)
  (g1:AX.ev e (.t 1)=.iptr p.av) (g4:AX.ev e (.t 4)=.int .i64 d) (g5:AX.ev e (.t 5)=.ptr r0 0) (g6:AX.ev e (.t 6)=.int .i64 0) (g3:AX.ev e (.t 3)=.lst 2 (fls L) ap0) {Q:PostQ}
  (hq:∀e' s' ap',Same w36_1 e e'→Fit st s'→s'[r0]?=some (.cells none D.cs)→Still ap'→AX.ev e' (.t 3)=.lst 2 (fls ((ats5 ((D.its.flatMap (itemWR D)).flatMap (badW p T))).foldl addF L)) ap'→Q (.exit 2) e' [] s'):AW A 36 none (.loop a36_1) e [] s0 Q:=by
 have hp:=hS.ok
 have hdo:D.Ok:=by rw [hD];exact hp.dc _ (List.getElem_mem hd)
 have hits:=hdo.its
 obtain ⟨R,hR⟩:∃R,R=(ats5 ((D.its.flatMap (itemWR D)).flatMap (badW p T))).foldl addF L:=⟨_,rfl⟩
 rw [←hR] at hq
 refine aw_loop (W:=w36_1) rfl (fun m e ds s=>ds=[]∧∃(i:Nat) (ap:Ap) (L2:List Fa),i+m=D.its.length∧L2.length≤L.length+2 * i∧(ats5 (((D.its.drop i).flatMap (itemWR D)).flatMap (badW p T))).foldl addF L2=R∧Fit st s∧s[r0]?=some (.cells none D.cs)∧Still ap ∧
   AX.ev e (.t 3)=.lst 2 (fls L2) ap∧AX.ev e (.t 6)=.int .i64 i) D.its.length
  ⟨rfl,0,ap0,L,by simp,by omega,by simp [hR],hf0,hr0,hap0,g3,by simpa using g6⟩ ?_
 rintro m e1 ds s hs ⟨rfl,i,ap,L2,hm,hL2,hac,hf,hr0,hap,g3,g6⟩ K1 kn kx
 have he1:e1.length=116:=by simp [hs.1,he]
 have g1:=hs.ev 1 rfl g1
 have g4:=hs.ev 4 rfl g4
 have g5:=hs.ev 5 rfl g5
 have hrlt:=(List.getElem?_eq_some_iff.1 hr0).1
 simp only [Pg.av] at g1
 by_cases hi:i<D.its.length
 ·obtain ⟨x,hx⟩:∃x,x=D.its[i]:=⟨_,rfl⟩
  have hxm:x∈D.its:=by rw [hx];exact List.getElem_mem hi
  have hxo:x.Ok:=hdo.item _ hxm
  have hgx:(D.its.map It.av)[i]'(by simpa using hi)=.agg x.cs:=by simp [It.av,hx]
  have hinx:=hin x hxm
  rw [drop_get hi,←hx,List.flatMap_cons,List.flatMap_append] at hac
  have hf1:Fit st (s++[.cells none x.cs]):=hf.cells (It.low hxo _)
  have hr1:(s++[.cells none x.cs])[r0]?=some (.cells none D.cs):=by rw [List.getElem?_append_left hrlt];exact hr0
  have h64:=has_call (k:=x.k) hf1.ok
  have one:∀(c:Nat) (k:Int) (L3:List Fa) (ap3:Ap) (s3:St),c<p.xs.length→L3.length≤1000000000→Still ap3→StOk s3→∃ap',Still ap'∧runL A (.call 66 [.lst 2 (fls L3) ap3,p.av,.int .i64 d,.int .i64 c,.int .i64 k]) s3=some ⟨.ret,⟨[.lst 2 (fls ((ats5 (badW p T ((c:Int),k))).foldl addF L3)) ap'],[]⟩,s3⟩:=by
   intro c k L3 ap3 s3 hc h1 h2 h3
   have:=want66 hS hd hc (k:=k) h1 h2 h3
   rw [hT] at this;exact this
  have hb1:∀(y:Int×Int) (L3:List Fa),((ats5 (badW p T y)).foldl addF L3).length≤L3.length+1:=fun y L3=>by
   have h1:=fold5_len (badW p T y) L3
   have h2:=badW_len p T y
   omega
  have w1:IntKind.i64.wrap ((i:Int)+1)=(i:Int)+1:=wrap_i64 (by omega) (by omega)
  simp only [It.cs] at hgx hf1 hr1 h64
  simp only [Dc.cs] at hr0 hr1
  simp only [Pg.av] at one
  by_cases k14:x.k=1∨x.k=4
  ·have hE:hasE x.k=true:=by rcases k14 with h | h<;>simp [hasE,h]
   have hF:hasF x.k=false:=by rcases k14 with h | h<;>simp [hasF,h]
   have hE2:=hinx.1 hE
   have hw:itemWR D x=[(x.e,x.t)]:=by simp [itemWR,hE,hF,kindI,k14]
   obtain ⟨c,hc⟩:=Int.eq_ofNat_of_zero_le hE2.1
   rw [hc] at hw
   obtain ⟨ap2,hap2,h66⟩:=one c x.t L2 ap _ (by omega) (by omega) hap hf1.ok
   have hl:=hb1 ((c:Int),x.t) L2
   rw [hw] at hac
   simp only [List.flatMap_cons,List.flatMap_nil,List.append_nil,ats5_append,List.foldl_append] at hac
   generalize (ats5 (badW p T ((c:Int),x.t))).foldl addF L2=L3 at *
   rw [hE,hF] at h64
   simp only [hc] at hgx h64 h66 hf1 hr1
   rcases k14 with h | h <;>
   ·simp only [h] at hgx h64 h66 hf1 hr1
    simp [a36_1,g1,g3,g4,g5,g6,he1,hi,hgx,hr0,hr1,h64,h66,w1]
    exact kn (m-1) _ _ _ (by omega) ⟨rfl,i+1,ap2,L3,by omega,by omega,hac,hf1,by simpa [Dc.cs] using hr1,hap2,by simp [he1],by simp [he1]⟩
  by_cases k23:x.k=2∨x.k=3
  ·have hE:hasE x.k=true:=by rcases k23 with h | h<;>simp [hasE,h]
   have hF:hasF x.k=true:=by rcases k23 with h | h<;>simp [hasF,h]
   have hE2:=hinx.1 hE
   have hF2:=hinx.2 hF
   have hw:itemWR D x=[(x.e,1),(x.f,1)]:=by rcases k23 with h | h<;>simp [itemWR,hE,hF,kindI,h,hasE,hasF]
   obtain ⟨c,hc⟩:=Int.eq_ofNat_of_zero_le hE2.1
   obtain ⟨c2,hc2⟩:=Int.eq_ofNat_of_zero_le hF2.1
   rw [hc,hc2] at hw
   obtain ⟨ap2,hap2,h66⟩:=one c 1 L2 ap _ (by omega) (by omega) hap hf1.ok
   have hl:=hb1 ((c:Int),1) L2
   rw [hw] at hac
   simp only [List.flatMap_cons,List.flatMap_nil,List.append_nil,ats5_append,List.foldl_append] at hac
   generalize (ats5 (badW p T ((c:Int),1))).foldl addF L2=L3 at *
   obtain ⟨ap3,hap3,h662⟩:=one c2 1 L3 ap2 _ (by omega) (by omega) hap2 hf1.ok
   have hl2:=hb1 ((c2:Int),1) L3
   generalize (ats5 (badW p T ((c2:Int),1))).foldl addF L3=L4 at *
   rw [hE,hF] at h64
   simp only [hc,hc2] at hgx h64 h66 h662 hf1 hr1
   rcases k23 with h | h <;>
   ·simp only [h] at hgx h64 h66 h662 hf1 hr1
    simp [a36_1,g1,g3,g4,g5,g6,he1,hi,hgx,hr0,hr1,h64,h66,h662,w1]
    exact kn (m-1) _ _ _ (by omega) ⟨rfl,i+1,ap3,L4,by omega,by omega,hac,hf1,by simpa [Dc.cs] using hr1,hap3,by simp [he1],by simp [he1]⟩
  by_cases k7:x.k=7
  ·have hE:hasE x.k=false:=by simp [hasE,k7]
   have hF:hasF x.k=true:=by simp [hasF,k7]
   have hF2:=hinx.2 hF
   have hw:itemWR D x=[(x.f,1)]:=by simp [itemWR,hE,hF]
   obtain ⟨c2,hc2⟩:=Int.eq_ofNat_of_zero_le hF2.1
   rw [hc2] at hw
   obtain ⟨ap2,hap2,h66⟩:=one c2 1 L2 ap _ (by omega) (by omega) hap hf1.ok
   have hl:=hb1 ((c2:Int),1) L2
   rw [hw] at hac
   simp only [List.flatMap_cons,List.flatMap_nil,List.append_nil,ats5_append,List.foldl_append] at hac
   generalize (ats5 (badW p T ((c2:Int),1))).foldl addF L2=L3 at *
   rw [hE,hF] at h64
   simp only [hc2,k7] at hgx h64 h66 hf1 hr1
   simp [a36_1,g1,g3,g4,g5,g6,he1,hi,hgx,hr0,hr1,h64,h66,w1]
   exact kn (m-1) _ _ _ (by omega) ⟨rfl,i+1,ap2,L3,by omega,by omega,hac,hf1,by simpa [Dc.cs] using hr1,hap2,by simp [he1],by simp [he1]⟩
  by_cases k5:x.k=5
  ·have hE:hasE x.k=true:=by simp [hasE,k5]
   have hF:hasF x.k=true:=by simp [hasF,k5]
   have hE2:=hinx.1 hE
   have hF2:=hinx.2 hF
   obtain ⟨V,hV⟩:∃V,V=(findF D x.n).getD vr0:=⟨_,rfl⟩
   have hw:itemWR D x=[(x.e,V.t),(x.f,1)]:=by simp [itemWR,hE,hF,kindI,k5,hV,hasE,hasF]
   have h32:=refFind_call hdo (n:=x.n) hf1.ok
   rw [←hV] at h32
   have hf2:Fit st (s++[.cells none [.int .i64 x.k,.str x.n,.int .i64 x.t,.int .i64 x.e,.int .i64 x.f,.lst 1 (strs x.ss) x.ap,.str x.s,.str x.x,.int .i64 x.p],.cells none V.cs]):=by have:=hf1.cells (cs:=V.cs) (ty:=none) (V.low _);simpa using this
   have hr2:(s++[.cells none [.int .i64 x.k,.str x.n,.int .i64 x.t,.int .i64 x.e,.int .i64 x.f,.lst 1 (strs x.ss) x.ap,.str x.s,.str x.x,.int .i64 x.p],.cells none V.cs])[r0]?=some (.cells none D.cs):=by rw [List.getElem?_append_left hrlt];simpa [Dc.cs] using hr0
   obtain ⟨c,hc⟩:=Int.eq_ofNat_of_zero_le hE2.1
   obtain ⟨c2,hc2⟩:=Int.eq_ofNat_of_zero_le hF2.1
   rw [hc,hc2] at hw
   obtain ⟨ap2,hap2,h66⟩:=one c V.t L2 ap _ (by omega) (by omega) hap hf2.ok
   have hl:=hb1 ((c:Int),V.t) L2
   rw [hw] at hac
   simp only [List.flatMap_cons,List.flatMap_nil,List.append_nil,ats5_append,List.foldl_append] at hac
   generalize (ats5 (badW p T ((c:Int),V.t))).foldl addF L2=L3 at *
   obtain ⟨ap3,hap3,h662⟩:=one c2 1 L3 ap2 _ (by omega) (by omega) hap2 hf2.ok
   have hl2:=hb1 ((c2:Int),1) L3
   generalize (ats5 (badW p T ((c2:Int),1))).foldl addF L3=L4 at *
   generalize (findF D x.n).isSome=ok at *
   rw [hE,hF] at h64
   simp only [Dc.av,Dc.cs,Vr.av,Vr.cs] at h32 hr2 hf2 h66 h662
   simp only [hc,hc2,k5] at hgx h64 h66 h662 hf1 hr1 hf2 hr2 h32
   simp [a36_1,g1,g3,g4,g5,g6,he1,hi,hgx,hr0,hr1,hr2,h64,h66,h662,h32,w1]
   exact kn (m-1) _ _ _ (by omega) ⟨rfl,i+1,ap3,L4,by omega,by omega,hac,hf2,by simpa [Dc.cs] using hr2,hap3,by simp [he1],by simp [he1]⟩
  have n1:¬x.k=1:=fun h=>k14 (.inl h)
  have n4:¬x.k=4:=fun h=>k14 (.inr h)
  have n2:¬x.k=2:=fun h=>k23 (.inl h)
  have n3:¬x.k=3:=fun h=>k23 (.inr h)
  have hE:hasE x.k=false:=by simp [hasE];omega
  have hF:hasF x.k=false:=by simp [hasF,n2,n3,k5,k7]
  have hw:itemWR D x=[]:=by simp [itemWR,hE,hF]
  rw [hw] at hac
  simp at hac
  rw [hE,hF] at h64
  simp [a36_1,g1,g3,g4,g5,g6,he1,hi,hgx,hr0,hr1,h64,n1,n4,k5,w1]
  exact kn (m-1) _ _ _ (by omega) ⟨rfl,i+1,ap,L2,by omega,by omega,by simpa using hac,hf1,by simpa [Dc.cs] using hr1,hap,by simp [he1,g3],by simp [he1]⟩
 ·have hil:i=D.its.length:=by omega
  rw [hil,List.drop_length] at hac
  simp [ats5] at hac
  rw [←hac] at hq
  simp only [Dc.cs] at hr0
  simp [a36_1,g5,g6,he1,hi,hr0]
  exact kx _ _ _ _ nofun fun hs'=>hq _ _ ap hs' hf (by simpa [Dc.cs] using hr0) hap (by simp [he1,g3])
end Go.Proofs.YtefildelnccljaaGreat
namespace Go.Proofs.YtefildelnccljaaGreat
open Go Ai
def declRT (p:Pg) (D:Dc) (T:List Int):List Int:=(D.its.flatMap (itemWR D)).flatMap (badW p T)++((if D.k<3 then badW p T (D.e,D.t) else [])++reachR p T (reachF p (rootsF D)) p.xs)
def allR (p:Pg):List Int:=p.ds.flatMap fun D=>declRT p D (tysF p (varsF D))
set_option maxRecDepth 20000 in
set_option maxHeartbeats 4000000 in
theorem refFaultsT_call {p:Pg} (hS:Sound p) (hr:rightN p=true) (hM:(allR p).length≤50000000) {st:St} (hst:StOk st):∃ap,Still ap∧runL A (.call 36 [p.av]) st=some ⟨.ret,⟨[.lst 2 (fls ((ats5 (allR p)).foldl addF [])) ap],[]⟩,st⟩:=by
 have hp:=hS.ok
 have hds:=hp.ds
 have hxs:=hp.xs
 obtain ⟨R,hR⟩:∃R,R=(ats5 (allR p)).foldl addF []:=⟨_,rfl⟩
 rw [←hR]
 suffices h:∃v,(∃ap,Still ap∧v=.lst 2 (fls R) ap)∧runL A (.call 36 [p.av]) st=some ⟨.ret,⟨[v],[]⟩,st⟩∧runL A (.seqc 36 [p.av]) st=some ⟨.ret,⟨[v],[]⟩,st⟩ by
  obtain ⟨v,⟨ap,h1,rfl⟩,h2,_⟩:=h
  exact ⟨ap,h1,h2⟩
 refine task_of_aw_ex (N:=116) _ prim36 fn36 rfl rfl hst ?_
 intro e he ha K hK
 have a0:=ha 0
 clear ha
 simp [Pg.av] at a0
 simp [a36,he,a0]
 refine aw_loop (W:=w36_2) rfl (fun m e ds s=>ds=[]∧∃(i:Nat) (ap:Ap) (L:List Fa),i+m=p.ds.length∧L.length+((p.ds.drop i).flatMap fun D=>declRT p D (tysF p (varsF D))).length≤50000000∧(ats5 ((p.ds.drop i).flatMap fun D=>declRT p D (tysF p (varsF D)))).foldl addF L=R ∧
   Fit st s∧Still ap∧AX.ev e (.t 3)=.lst 2 (fls L) ap∧AX.ev e (.t 4)=.int .i64 i) p.ds.length
  ⟨rfl,0,.tight,[],by simp,by simpa [allR] using hM,by simp [hR,allR],.refl hst,.tight,by simp [he,fls],by simp [he]⟩ ?_
 rintro m e1 ds s hs ⟨rfl,i,ap,L,hm,hL,hac,hf,hap,g3,g4⟩ K1 kn kx
 have he1:e1.length=116:=by simp [hs.1,he]
 have g1:=hs.ev 1 rfl (v:=.iptr p.av) (by simp [he,a0,Pg.av])
 by_cases hi:i<p.ds.length
 ·obtain ⟨D,hD⟩:∃D,D=p.ds[i]:=⟨_,rfl⟩
  have hDm:D∈p.ds:=by rw [hD];exact List.getElem_mem hi
  have hdo:D.Ok:=hp.dc _ hDm
  have hcs:=ds_get hi
  rw [←hD] at hcs
  obtain ⟨T,hT⟩:∃T,T=tysF p (varsF p.ds[i]):=⟨_,rfl⟩
  rw [drop_get hi,List.flatMap_cons,←hT,←hD,declRT] at hac hL
  have hf1:Fit st (s++[.cells none D.cs]):=hf.cells (Dc.low hdo _)
  have hrN:rootsN D=rootsF D:=roots_may hS.may hDm
  have hIF:Inside p (rootsF D):=hrN▸hS.inside D hDm
  have hin:∀x∈D.its,(hasE x.k=true→0≤x.e∧x.e<(p.xs.length:Int))∧(hasF x.k=true→0≤x.f∧x.f<(p.xs.length:Int)):=by
   intro x hx
   refine ⟨fun h=>hIF _ ?_,fun h=>hIF _ ?_⟩
   ·exact List.mem_append_left _ (List.mem_flatMap.2 ⟨x,hx,by simp [rootsI,h]⟩)
   ·exact List.mem_append_left _ (List.mem_flatMap.2 ⟨x,hx,by simp [rootsI,h]⟩)
  have hbs:=reachF_len p (rootsF D)
  have hwr:∀(j:Nat) (hj:j<p.xs.length),(reachF p (rootsF D)).getD j false=true→p.xs[j].k=19→∃(n:Nat) (h:n<p.ds.length),declF p p.xs[j].n=n∧(p.ds[n]).ps.length=p.xs[j].args.length:=fun j hj hb hk=>right_call hr hDm hj (by rw [hrN];exact hb) hk
  simp only [ats5_append,List.foldl_append,List.length_append] at hac hL
  have hl1:=fold5_len ((D.its.flatMap (itemWR D)).flatMap (badW p T)) L
  have w1:IntKind.i64.wrap ((i:Int)+1)=(i:Int)+1:=wrap_i64 (by omega) (by omega)
  simp only [Pg.av,Dc.cs] at g1 hcs
  simp [a36_2,g1,g3,g4,he1,hi,hcs,w1]
  refine items36 (L:=L) (ap0:=ap) (r0:=s.length) (st:=st) (D:=D) (T:=T) hS hi hT.symm hD (by simpa [Dc.cs] using hf1) (by simp [Dc.cs]) hin (by omega) hap (by simp [he1]) (by simp [he1,g1,Pg.av]) (by simp [he1,g4]) (by simp [he1]) (by simp [he1]) (by simp [he1,g3]) fun e2 s2 ap2 hs2 hf2 hr2 hap2 h3=>?_
  have he2:e2.length=116:=by simp [hs2.1,he1]
  have g1:=hs2.ev 1 rfl (v:=.iptr p.av) (by simp [he1,g1,Pg.av])
  have g4:=hs2.ev 4 rfl (v:=.int .i64 i) (by simp [he1,g4])
  have g5:=hs2.ev 5 rfl (v:=.ptr s.length 0) (by simp [he1])
  generalize (ats5 ((D.its.flatMap (itemWR D)).flatMap (badW p T))).foldl addF L=L2 at *
  have h39:=refReached_call hp hdo hS.ahead hIF hf2.ok
  simp only [Pg.av,Dc.av,Dc.cs] at g1 h39 hr2
  by_cases hk:D.k<3
  ·have hDe:D.e∈rootsF D:=List.mem_append_right _ (by simp [hk])
   obtain ⟨c0,c1⟩:=hIF _ hDe
   obtain ⟨c,hc⟩:=Int.eq_ofNat_of_zero_le c0
   rw [if_pos hk,hc] at hac hL
   obtain ⟨ap3,hap3,h66⟩:=want66 hS hi (e':=c) (k:=D.t) (L:=L2) (ap:=ap2) (by omega) (by omega) hap2 hf2.ok
   rw [←hT] at h66
   have hl2:=fold5_len (badW p T ((c:Int),D.t)) L2
   generalize (ats5 (badW p T ((c:Int),D.t))).foldl addF L2=L3 at *
   simp only [Pg.av] at h66
   simp only [hc] at hr2 h39
   simp [he2,g1,g4,g5,h3,hr2,hk,h66,h39]
   refine exprs36 (L:=L3) (ap0:=ap3) (ap13:=.no) (bs:=reachF p (rootsF D)) (T:=T) hS hi hf2.ok hbs hT.symm hwr (by omega) hap3 (by simp [he2]) (by simp [he2,g1,Pg.av]) (by simp [he2,g4]) (by simp [he2]) (by simp [he2]) (by simp [he2]) fun e3 ap4 hs3 hap4 h33=>?_
   have he3:e3.length=116:=by simp [hs3.1,he2]
   have g4:=hs3.ev 4 rfl (v:=.int .i64 i) (by simp [he2,g4])
   have hl3:=fold5_len (reachR p T (reachF p (rootsF D)) p.xs) L3
   simp [he3,g4,w1]
   exact kn (m-1) _ _ _ (by omega) ⟨rfl,i+1,ap4,_,by omega,by omega,hac,hf2,hap4,by simp [he3,h33],by simp [he3]⟩
  ·rw [if_neg hk] at hac hL
   simp only [show ats5 ([]:List Int)=[] from rfl,List.foldl_nil,List.length_nil] at hac hL
   simp [he2,g1,g4,g5,h3,hr2,hk,h39]
   refine exprs36 (L:=L2) (ap0:=ap2) (ap13:=.no) (bs:=reachF p (rootsF D)) (T:=T) hS hi hf2.ok hbs hT.symm hwr (by omega) hap2 (by simp [he2]) (by simp [he2,g1,Pg.av]) (by simp [he2,g4]) (by simp [he2]) (by simp [he2]) (by simp [he2,h3]) fun e3 ap4 hs3 hap4 h33=>?_
   have he3:e3.length=116:=by simp [hs3.1,he2]
   have g4:=hs3.ev 4 rfl (v:=.int .i64 i) (by simp [he2,g4])
   have hl3:=fold5_len (reachR p T (reachF p (rootsF D)) p.xs) L2
   simp [he3,g4,w1]
   exact kn (m-1) _ _ _ (by omega) ⟨rfl,i+1,ap4,_,by omega,by omega,hac,hf2,hap4,by simp [he3,h33],by simp [he3]⟩
 ·have hil:i=p.ds.length:=by omega
  rw [hil,List.drop_length] at hac
  simp [ats5] at hac
  simp only [Pg.av] at g1
  simp [a36_2,g1,g4,he1,hi]
  refine kx _ _ _ _ nofun fun hs'=>?_
  simp [he1,g3]
  exact hK _ _ _ _ _ _ (.inl rfl) rfl hf.take ⟨ap,hap,rfl⟩ ⟨_,rfl,by simp [he1,g3,hac,AV.still,stills_fls];cases ap<;>simp_all [Still]⟩
end Go.Proofs.YtefildelnccljaaGreat
namespace Go.Proofs.YtefildelnccljaaGreat
open Go Ai
theorem tyN_aux {n:Sx} {t:Int}:∀(l:List Vr) (es:List (Sx×Int)),(∀v∈l,v.n=n→v.t=t)→((getM n es).getD 0=t∨∃v∈l,v.n=n)→(getM n (l.foldl (fun es v=>putM v.n v.t es) es)).getD 0=t
 | [],es,_,h=>by
  rcases h with h | ⟨v,hv,_⟩
  ·exact h
  ·cases hv
 | v::l,es,h1,h=>by
  refine tyN_aux l _ (fun u hu=>h1 u (by simp [hu])) ?_
  rw [getM_putM]
  by_cases hn:v.n=n
  ·left;rw [if_pos hn];exact h1 v (by simp) hn
  ·rw [if_neg hn]
   rcases h with h | ⟨u,hu,hun⟩
   ·exact .inl h
   ·rcases List.mem_cons.1 hu with rfl | hu
    ·exact absurd hun hn
    ·exact .inr ⟨u,hu,hun⟩
theorem itV_mem8 {v:Vr}:∀{l:List It} {i:Int},v∈itV l i→∃(j:Nat) (h:j<l.length),makesF l[j] (i+j)=some v
 | x::l,i,h=>by
  rw [itV] at h
  rcases List.mem_append.1 h with h | h
  ·exact ⟨0,by simp,by cases hm:makesF x i<;>rw [hm] at h<;>simp_all⟩
  ·obtain ⟨j,hj,hm⟩:=itV_mem8 h
   refine ⟨j+1,by simpa using hj,?_⟩
   rw [←hm];simp;congr 1;omega
theorem items_nil {d:Dc}:∀{l:List It} {i:Int},itemsF d l i=[]→∀(j:Nat) (h:j<l.length),againF d l[j] (i+j)=false
 | x::l,i,h,0,_=>by
  simp only [itemsF,List.append_eq_nil_iff] at h
  have:=h.1
  cases ha:againF d x i with
  | false=>simpa using ha
  | true=>rw [ha] at this;simp at this
 | x::l,i,h,j+1,hj=>by
  simp only [itemsF,List.append_eq_nil_iff] at h
  have:=items_nil h.2 j (by simpa using hj)
  rw [←this];simp;congr 1;omega
theorem makes_name {x:It} {i:Int} {v:Vr} (h:makesF x i=some v):v.n=x.n∧v.s≠0:=by
 unfold makesF at h
 repeat' split at h
 all_goals first | cases h
 all_goals exact ⟨rfl,by simp⟩
theorem find_par {n:Sx}:∀{ps:List Pm} {i:Int} {l:List Vr} {v:Vr},(ps.map (·.n)).Nodup→v∈parV ps i→v.n=n→findL (parV ps i++l) n=some v
 | q::ps,i,l,v,hnd,hv,hn=>by
  rw [parV] at hv
  simp only [List.map_cons,List.nodup_cons] at hnd
  rcases List.mem_cons.1 hv with rfl | hv
  ·simp only at hn
   simp [parV,findL,hn]
  ·have hne:q.n≠n:=by
    intro he
    apply hnd.1
    rw [he,←hn]
    have:∀(ps:List Pm) (i:Int),v∈parV ps i→v.n∈ps.map (·.n):=by
     intro ps
     induction ps with
     | nil=>intro i h;cases h
     | cons q ps ih =>
      intro i h
      rw [parV] at h
      rcases List.mem_cons.1 h with rfl | h
      ·simp
      ·exact List.mem_cons_of_mem _ (ih _ h)
    exact this _ _ hv
   have ih:=find_par (l:=l) hnd.2 hv hn
   simp only [parV,List.cons_append,findL,List.find?_cons,hne,decide_false] at *
   exact ih
theorem find_self {p:Pg} {d:Dc} (h:declFs p d=[]) {v:Vr} (hv:v∈varsF d):findF d v.n=some v:=by
 simp only [declFs,List.append_eq_nil_iff] at h
 obtain ⟨⟨h1,h2⟩,_⟩:=h
 have hnd:(d.ps.map (·.n)).Nodup:=Classical.byContradiction fun hc=>by rw [if_neg hc] at h1;cases h1
 rcases List.mem_append.1 hv with hv | hv
 ·exact find_par hnd hv rfl
 ·obtain ⟨j,hj,hm⟩:=itV_mem8 hv
  have ha:=items_nil h2 j hj
  obtain ⟨hn,hs⟩:=makes_name hm
  rw [againF,hm] at ha
  simp at ha
  rw [hn]
  cases hf:findF d d.its[j].n with
  | none=>rw [hf] at ha;simp at ha;exact absurd (by rw [←ha];rfl) hs
  | some u=>rw [hf] at ha;simp at ha;rw [ha]
theorem tyN_find {p:Pg} {d:Dc} (h:declFs p d=[]) (n:Sx):tyN (varsF d) n=((findF d n).getD vr0).t:=by
 refine tyN_aux _ _ (fun v hv hn=>?_) ?_
 ·rw [←hn,find_self h hv];rfl
 ·cases hf:findF d n with
  | none=>exact .inl rfl
  | some u =>
   right
   have h1:=List.mem_of_find?_eq_some hf
   have h2:=List.find?_some hf
   exact ⟨u,h1,by simpa using h2⟩
theorem item_eq {p:Pg} {d:Dc} (h:declFs p d=[]) (x:It):itemW (varsF d) x=itemWR d x:=by
 unfold itemW itemWR kindI
 rw [tyN_find h]
 by_cases h1:x.k=1∨x.k=4
 ·rcases h1 with h | h<;>simp [h,hasE,hasF]
 by_cases h2:x.k=2∨x.k=3
 ·rcases h2 with h | h<;>simp [h,hasE,hasF]
 by_cases h5:x.k=5
 ·simp [h5,hasE,hasF]
 by_cases h7:x.k=7
 ·simp [h7,hasE,hasF]
 have n2:x.k≠2:=fun h=>h2 (.inl h)
 have n3:x.k≠3:=fun h=>h2 (.inr h)
 have hE:hasE x.k=false:=by simp only [not_or] at h1;simp [hasE];omega
 simp [h1,h2,h5,h7,hE,hasF,n2,n3]
theorem refP_each {p:Pg} {T:List Int} {x:Ex} {t:Int} (h:∀i k,refW p T x i k=[(k,t)]):∀(ks:List Int) (i:Nat),refP p T x ks i=ks.map fun k=>(k,t)
 | [],_=>rfl
 | k::ks,i=>by rw [refP,h,refP_each h ks];rfl
theorem refP_none {p:Pg} {T:List Int} {x:Ex} (h:∀i k,refW p T x i k=[]):∀(ks:List Int) (i:Nat),refP p T x ks i=[]
 | [],_=>rfl
 | k::ks,i=>by rw [refP,h,refP_none h ks];rfl
theorem refP_zip {p:Pg} {T:List Int} {x:Ex} {l:List Pm} (h:∀i k,refW p T x i k=[(k,(l.getD i pm0).t)]):∀(ks:List Int) (i:Nat),i+ks.length=l.length→refP p T x ks i=ks.zip ((l.drop i).map (·.t))
 | [],_,_=>rfl
 | k::ks,i,hl=>by
  have hi:i<l.length:=by simp at hl;omega
  rw [refP,h,refP_zip h ks (i+1) (by simp at hl;omega),drop_get hi,List.map_cons,List.zip_cons_cons]
  simp [hi]
theorem badW_same (p:Pg) (T:List Int) (a:Int):badW p T (a,T.getD a.toNat 0)=[]:=by simp [badW]
theorem part_eq {p:Pg} {T:List Int} {x:Ex} (hw:x.k=19→∃(n:Nat) (h:n<p.ds.length),declF p x.n=n∧(p.ds[n]).ps.length=x.args.length):(wantedF p T x).flatMap (badW p T)=(refP p T x (partsF x) 0).flatMap (badW p T):=by
 by_cases kB:x.k=5∨x.k=13∨x.k=14
 ·have kA:¬(x.k=4∨x.k=6∨x.k=7∨x.k=8∨x.k=9∨x.k=10∨x.k=11∨x.k=21):=by omega
  rw [wantedF,if_pos kB,refP_each (t:=2) fun i k=>by rw [refW,if_neg kA,if_pos kB]];rfl
 by_cases kA:x.k=4∨x.k=21∨x.k=6∨x.k=7∨x.k=8∨x.k=9∨x.k=10∨x.k=11
 ·have kA':x.k=4∨x.k=6∨x.k=7∨x.k=8∨x.k=9∨x.k=10∨x.k=11∨x.k=21:=by omega
  rw [wantedF,if_neg kB,if_pos kA,refP_each (t:=1) fun i k=>by rw [refW,if_pos kA']];rfl
 have kA':¬(x.k=4∨x.k=6∨x.k=7∨x.k=8∨x.k=9∨x.k=10∨x.k=11∨x.k=21):=by omega
 by_cases kC:x.k=12∨x.k=17∨x.k=18
 ·have hp:partsF x=[x.a,x.b]:=by rcases kC with h | h | h<;>simp [partsF,manyF,h]
  have hr:∀i k,refW p T x i k=[(k,T.getD x.a.toNat 0)]:=fun i k=>by rw [refW,if_neg kA',if_neg kB,if_pos kC,hp];rfl
  rw [wantedF,if_neg kB,if_neg kA,if_pos kC,refP_each hr,hp]
  simp only [List.map_cons,List.map_nil,List.flatMap_cons,List.flatMap_nil,badW_same,List.nil_append]
 by_cases k15:x.k=15
 ·have hp:partsF x=[x.a,x.b,x.c]:=by simp [partsF,manyF,k15]
  have hr:refP p T x [x.a,x.b,x.c] 0=[(x.a,2),(x.b,T.getD x.b.toNat 0),(x.c,T.getD x.b.toNat 0)]:=by
   simp [refP,refW,kA',kB,kC,k15,hp]
  rw [wantedF,if_neg kB,if_neg kA,if_neg kC,if_pos k15,hp,hr]
  simp only [List.flatMap_cons,List.flatMap_nil,badW_same,List.nil_append]
 by_cases k19:x.k=19
 ·obtain ⟨n,hn,hd,hl⟩:=hw k19
  have hp:partsF x=x.args:=by simp [partsF,manyF,k19]
  have hg:p.ds.getD (declF p x.n).toNat dc0=p.ds[n]:=by rw [hd];simp [hn]
  rw [wantedF,if_neg kB,if_neg kA,if_neg kC,if_neg k15,if_pos k19,hp,hg]
  rw [refP_zip (l:=p.ds[n].ps) (fun i k=>by rw [refW,if_neg kA',if_neg kB,if_neg kC,if_neg k15,if_pos k19,hg]) x.args 0 (by omega)]
  rfl
 rw [wantedF,if_neg kB,if_neg kA,if_neg kC,if_neg k15,if_neg k19,refP_none fun i k=>by rw [refW,if_neg kA',if_neg kB,if_neg kC,if_neg k15,if_neg k19]]
theorem reach_eq {p:Pg} {T:List Int}:∀{bs:List Bool} {xs:List Ex},(∀(j:Nat) (hj:j<xs.length),bs.getD j false=true→xs[j].k=19→∃(n:Nat) (h:n<p.ds.length),declF p xs[j].n=n∧(p.ds[n]).ps.length=xs[j].args.length)→reachW p T bs xs=reachR p T bs xs
 | [],[],_=>rfl
 | [],_::_,_=>rfl
 | _::_,[],_=>rfl
 | b::bs,x::xs,h=>by
  rw [reachW,reachR,reach_eq (bs:=bs) (xs:=xs) fun j hj hb hk=>h (j+1) (by simpa using hj) (by simpa using hb) hk]
  cases b with
  | false=>rfl
  | true=>simp only [if_true];rw [part_eq fun hk=>h 0 (by simp) rfl hk]
theorem decl_eq {p:Pg} (hS:Sound p) (hr:rightN p=true) {D:Dc} (hD:D∈p.ds):declT p D=declRT p D (tysF p (varsF D)):=by
 have hrN:rootsN D=rootsF D:=roots_may hS.may hD
 have hn:=declsF_nil (right_nil hr) D hD
 have hk:D.k=3↔¬D.k<3:=by
  have hm:=hS.may
  simp only [may7,Bool.and_eq_true,List.all_eq_true] at hm
  have h:=hm.1 D hD
  simp only [declK,Bool.and_eq_true,Bool.not_eq_true',Bool.or_eq_false_iff,decide_eq_false_iff_not] at h
  omega
 rw [declT,declRT,topsF,hrN,List.flatMap_append]
 rw [reach_eq fun j hj hb hk=>right_call hr hD hj (by rw [hrN];exact hb) hk]
 have h1:D.its.flatMap (itemW (varsF D))=D.its.flatMap (itemWR D):=by congr 1;funext x;exact item_eq hn x
 rw [h1,List.append_assoc]
 congr 2
 by_cases h3:D.k=3
 ·rw [if_pos h3,if_neg (hk.1 h3)];rfl
 ·rw [if_neg h3,if_pos (Classical.not_not.1 fun h=>h3 (hk.2 h))];simp
theorem all_eq {p:Pg} (hS:Sound p) (hr:rightN p=true):allR p=allT p:=by
 rw [allR,allT]
 have:∀l:List Dc,(∀D∈l,D∈p.ds)→(l.flatMap fun D=>declRT p D (tysF p (varsF D)))=l.flatMap (declT p):=by
  intro l
  induction l with
  | nil=>intro _;rfl
  | cons D l ih=>intro h;rw [List.flatMap_cons,List.flatMap_cons,ih fun x hx=>h x (by simp [hx]),decl_eq hS hr (h D (by simp))]
 exact this _ fun _ h=>h
end Go.Proofs.YtefildelnccljaaGreat
namespace Go.Proofs.YtefildelnccljaaGreat
open Go Ai
theorem flat_len {α β:Type} {f:α→List β} {g:α→Nat}:∀{l:List α},(∀x∈l,(f x).length≤g x)→(l.flatMap f).length≤(l.map g).sum
 | [],_=>by simp
 | x::l,h=>by
  have h1:=h x (by simp)
  have h2:=flat_len (l:=l) (f:=f) (g:=g) fun y hy=>h y (by simp [hy])
  simp only [List.flatMap_cons,List.length_append,List.map_cons,List.sum_cons];omega
theorem bad_len (p:Pg) (T:List Int) (l:List (Int×Int)):(l.flatMap (badW p T)).length≤l.length:=by
 induction l with
 | nil=>simp
 | cons x l ih=>have:=badW_len p T x;simp only [List.flatMap_cons,List.length_append,List.length_cons];omega
theorem wanted_len (p:Pg) (T:List Int) (x:Ex):(wantedF p T x).length≤gX x+3:=by
 have hp:(partsF x).length≤gX x+3:=by
  unfold partsF gX
  split
  ·omega
  ·simp;omega
 unfold wantedF
 repeat' split
 all_goals simp [eachF]
 all_goals first | omega | (unfold gX;omega) | skip
theorem reachW_len (p:Pg) (T:List Int):∀(bs:List Bool) (xs:List Ex),(reachW p T bs xs).length≤(xs.map gX).sum+3 * xs.length
 | [],_=>by simp [reachW]
 | _::_,[]=>by simp [reachW]
 | b::bs,x::xs=>by
  have h1:=reachW_len p T bs xs
  have h2:=bad_len p T (wantedF p T x)
  have h3:=wanted_len p T x
  rw [reachW]
  cases b
  ·simp;omega
  ·simp only [if_true,List.length_append,List.map_cons,List.sum_cons,List.length_cons];omega
theorem tops_len (D:Dc) (vs:List Vr):(topsF D vs).length≤2 * D.its.length+1:=by
 have h1:∀l:List It,(l.flatMap (itemW vs)).length≤2 * l.length:=by
  intro l
  induction l with
  | nil=>simp
  | cons x l ih =>
   have:(itemW vs x).length≤2:=by unfold itemW;(repeat' split)<;>simp
   simp only [List.flatMap_cons,List.length_append,List.length_cons];omega
 have:=h1 D.its
 rw [topsF,List.length_append]
 split
 ·simp only [List.length_nil];omega
 ·simp only [List.length_cons,List.length_nil];omega
theorem allT_small {p:Pg} (hg:greatF p=false):(allT p).length≤1000000:=by
 obtain ⟨h1,h2,h3⟩:=small_its hg
 have hs:(p.xs.map gX).sum≤600:=by
  simp only [greatF,Bool.or_eq_false_iff,decide_eq_false_iff_not] at hg
  omega
 have hd:∀D∈p.ds,(declT p D).length≤3000:=by
  intro D hD
  have a1:=bad_len p (tysF p (varsF D)) (topsF D (varsF D))
  have a2:=tops_len D (varsF D)
  have a3:=reachW_len p (tysF p (varsF D)) (reachF p (rootsN D)) p.xs
  have a4:=(h3 D hD).1
  rw [declT,List.length_append];omega
 have h4:=flat_len (g:=fun _=>3000) hd
 have h5:=sum_le (f:=fun _:Dc=>3000) (c:=3000) (l:=p.ds) fun _ _=>Nat.le_refl _
 rw [allT];omega
end Go.Proofs.YtefildelnccljaaGreat
