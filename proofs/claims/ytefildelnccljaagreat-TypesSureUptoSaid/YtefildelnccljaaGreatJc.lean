/- Part Jc. No condition. -/
import Derived.Test.YtefildelnccljaaGreatJd
import Derived.Test.YtefildelnccljaaGreatEd
import Derived.Test.YtefildelnccljaaGreatJb
import Derived.Test.YtefildelnccljaaGreatEc
set_option linter.unusedVariables false
set_option linter.unusedSimpArgs false
namespace Go.Proofs.YtefildelnccljaaGreat
open Go Ai
def Bw (w:World):Prop:=True
theorem primsOk:PrimsOk Tryz.prog gl A Bw:=by
 intro f h args st o st' hf hh
 have hf':(prims.find? fun e=>e.1 == f).map (·.2)=some h:=hf
 simp only [prims,List.find?_cons,List.find?_nil] at hf'
 split at hf'
 ·rename_i e
  have:f=44:=(beq_iff_eq.1 e).symm
  subst this
  cases hf'
  cases o<;>exact clone44 hh
 ·split at hf'
  ·rename_i e
   have:f=155:=(beq_iff_eq.1 e).symm
   subst this
   cases hf'
   cases o<;>exact clone155 hh
  ·split at hf'
   ·rename_i e
    have:f=45:=(beq_iff_eq.1 e).symm
    subst this
    cases hf'
    cases o<;>exact sort45 hh
   ·cases hf'
theorem prim14:A.prim 14=none:=by kernel_rfl
theorem beqs_true {l:List AV} (h:AV.beqs l [.bool true]=true):l=[.bool true]:=by
 match l,h with
 | [.bool true],_=>rfl
 | [.bool false],h=>simp [AV.beqs,AV.beq] at h
theorem alive_call:runL A (.call 14 []) []=some ⟨.ret,⟨[.bool true],[]⟩,[]⟩:=by
 have h:=alive_run
 have e:runL A (.call 14 []) []=runL A (.seqc 14 []) []:=by
  rw [runL_eq,runL_eq (.seqc 14 [])]
  simp only [layer,prim14]
 rw [e]
 split at h
 ·rename_i fr st hr
  simp only [Bool.and_eq_true,List.isEmpty_iff] at h
  obtain ⟨⟨h1,rfl⟩,h2⟩:=h
  refine runL_some.2 ⟨400,?_⟩
  rw [hr]
  obtain ⟨env,defs⟩:=fr
  simp only at h1 h2
  rw [beqs_true h1,h2]
 ·cases h
end Go.Proofs.YtefildelnccljaaGreat
namespace Go.Proofs.YtefildelnccljaaGreat
open Go Ai
theorem fn15:A.fn 15=some a15:=by kernel_rfl
theorem prim15:A.prim 15=none:=by kernel_rfl
theorem fn16:A.fn 16=some a16:=by kernel_rfl
theorem prim16:A.prim 16=none:=by kernel_rfl
def w15_0:List Nat:=a15_0.writes
def w16_0:List Nat:=a16_0.writes
abbrev Fa:=Int×Int
def fl (x:Fa):AV:=.agg [.int .i64 x.1,.int .i64 x.2]
def fls (l:List Fa):List AV:=l.map fl
theorem fls_length (l:List Fa):(fls l).length=l.length:=by simp [fls]
theorem fls_append (l k:List Fa):fls (l++k)=fls l++fls k:=by simp [fls]
theorem stills_fls (n:Nat) (st:St):∀l:List Fa,AV.stills n st (fls l)=some (fls l)
 | []=>rfl
 | x::l=>by
  have:=stills_fls n st l
  simp only [fls,List.map_cons,AV.stills,AV.still] at this ⊢
  rw [this];simp [fl,AV.still,AV.stills]
theorem lows_fls (n:Nat) (l:List Fa):AV.lowsB n (fls l)=true:=by
 induction l with
 | nil=>rfl
 | cons x l ih=>simp only [fls,List.map_cons,AV.lowsB] at ih ⊢;rw [ih];simp [fl,AV.lowB,AV.lowsB]
theorem fls_get {l:List Fa} {i:Nat} (h:i<l.length):(fls l)[i]?=some (fl l[i]):=by simp [fls,h]
def Still (ap:Ap):Prop:=∀id,ap≠.tok id
theorem Still.tight:Still .tight:=nofun
theorem Still.no:Still .no:=nofun
theorem eq_fl (x y:Fa):eqCells [0,0] [.int .i64 x.1,.int .i64 x.2] [.int .i64 y.1,.int .i64 y.2]=some (decide (x=y)):=by
 obtain ⟨a,b⟩:=x
 obtain ⟨c,d⟩:=y
 have k1:(a == c)=decide (a=c):=rfl
 have k2:(b == d)=decide (b=d):=rfl
 by_cases h1:a=c<;>by_cases h2:b=d<;>simp [eqCells,keyKind,sameKey,k1,k2,h1,h2]
def insG (f:Fa):List Fa→List Fa
 | []=>[f]
 | y::l=>if ltF f y then f::y::l else y::insG f l
def addF (l:List Fa) (f:Fa):List Fa:=if f∈l then l else insG f l
def addAp (l:List Fa) (f:Fa) (ap:Ap):Ap:=if f∈l then ap else .no
def part (f:Fa):List Fa→List Fa×Bool
 | []=>([],false)
 | y::l=>if ltF f y then (f::y::l,true) else (y::(part f l).1,(part f l).2)
theorem part_snoc (f y:Fa):∀l,part f (l++[y])=if (part f l).2 then ((part f l).1++[y],true) else if ltF f y then ((part f l).1++[f,y],true) else ((part f l).1++[y],false)
 | []=>by simp only [List.nil_append,part];split<;>simp
 | x::l=>by
  simp only [List.cons_append,part,part_snoc f y l]
  by_cases h:ltF f x<;>simp [h]
  cases (part f l).2<;>simp
  split<;>simp
theorem part_ins (f:Fa):∀l,insG f l=if (part f l).2 then (part f l).1 else (part f l).1++[f]
 | []=>rfl
 | x::l=>by
  simp only [insG,part,part_ins f l]
  by_cases h:ltF f x<;>simp [h]
  cases (part f l).2<;>simp
theorem part_len (f:Fa):∀l,(part f l).1.length≤l.length+1
 | []=>by simp [part]
 | x::l=>by
  have:=part_len f l
  simp only [part]
  split<;>simp<;>omega
theorem add_call {l:List Fa} {f:Fa} {ap:Ap} (hl:l.length≤1000000000) (hap:Still ap) {st:St} (hst:StOk st) :
  runL A (.call 15 [.lst 2 (fls l) ap,fl f]) st=some ⟨.ret,⟨[.lst 2 (fls (addF l f)) (addAp l f ap)],[]⟩,st⟩:=by
 refine (task_of_aw (N:=71) prim15 fn15 rfl rfl hst ?_).1
 intro e he ha K hK
 have a0:=ha 0
 have a1:=ha 1
 clear ha
 simp [fl] at a0 a1
 simp [a15,he,a0,a1]
 refine aw_loop (W:=w15_0) rfl (fun m e ds st'=>ds=[]∧∃(i:Nat) (o:Ap),i+m=l.length∧f ∉ l.take i∧Grew st.length st st'∧AX.ev e (.t 7)=.int .i64 i ∧
   AX.ev e (.t 6)=.bool (part f (l.take i)).2∧AX.ev e (.t 5)=.lst 2 (fls (part f (l.take i)).1) o∧Own st' st.length 2 (some 27) o (part f (l.take i)).1.length) l.length
  ⟨rfl,0,.tight,by simp,by simp,.refl,by simp [he],by simp [he,part],by simp [he,part,fls],.nil⟩ ?_
 rintro m e1 ds st' hs ⟨rfl,i,o,hm,hni,hgr,g7,g6,g5,ho⟩ K1 kn kx
 have he1:e1.length=71:=by simp [hs.1,he]
 have g0:=hs.ev 0 rfl (v:=.lst 2 (fls l) ap) (by simp [he,a0])
 have g3:=hs.ev 3 rfl (v:=.iptr (.agg [.int .i64 f.1,.int .i64 f.2])) (by simp [he,a1])
 by_cases hi:i<l.length
 ·obtain ⟨y,hy⟩:∃y,y=l[i]:=⟨_,rfl⟩
  have hgy:(fls l)[i]?=some (.agg [.int .i64 y.1,.int .i64 y.2]):=by rw [fls_get hi,hy];rfl
  have hgy':(fls l)[i]'(by rw [fls_length];exact hi)=.agg [.int .i64 y.1,.int .i64 y.2]:=by simp [fls,fl,hy]
  have htk:l.take (i+1)=l.take i++[y]:=by rw [hy];simp
  have w1:IntKind.i64.wrap ((i:Int)+1)=(i:Int)+1:=wrap_i64 (by omega) (by omega)
  have hE:=eq_fl y f
  by_cases hyf:y=f
  ·simp [hyf] at hE
   have hin:f∈l:=by rw [←hyf,hy];exact List.getElem_mem hi
   simp [a15_0,g0,g3,g5,g6,g7,he1,hi,hgy,hgy',fls_length,hE,hyf]
   refine kx _ _ _ _ nofun fun hs'=>?_
   simp [he1]
   exact hK _ _ _ (.inl rfl) (by have:=hgr.take;simpa using this) ⟨_,rfl,by simp [he1,AV.still,stills_fls,addF,addAp,hin];cases ap<;>simp;rename_i id;exact absurd rfl (hap id)⟩
  simp [hyf] at hE
  have hpl:=part_len f (l.take i)
  rw [List.length_take] at hpl
  have hni':f ∉ l.take (i+1):=by
   rw [htk];simp [hni];exact fun h=>hyf h.symm
  obtain ⟨o1,st1,hap1,ho1,hg1,_⟩:=append_own (bytes:=16) (ap0:=.tight) (ys:=[.agg [.int .i64 y.1,.int .i64 y.2]]) (es:=fls (part f (l.take i)).1) hgr.len (by simpa [fls_length] using ho.weak) (by simp) (by simp [Ai.great,fls_length];omega) (by omega)
  have e1':fls (part f (l.take i)).1++[.agg [.int .i64 y.1,.int .i64 y.2]]=fls ((part f (l.take i)).1++[y]):=by rw [fls_append];rfl
  cases hp:(part f (l.take i)).2 with
  | true =>
   rw [hp] at g6
   simp [a15_0,g0,g3,g5,g6,g7,he1,hi,hgy,hgy',fls_length,hE,hap1,w1]
   exact kn (m-1) _ _ _ (by omega) ⟨rfl,i+1,o1,by omega,hni',hgr.trans hg1,by simp [he1],by rw [htk,part_snoc,hp];simp [he1,g6],by rw [htk,part_snoc,hp];simp [he1,e1'],by rw [htk,part_snoc,hp];simpa [fls_length] using ho1⟩
  | false =>
   rw [hp] at g6
   have stay (hlt:ltF f y=false):part f (l.take (i+1))=((part f (l.take i)).1++[y],false):=by rw [htk,part_snoc,hp,hlt];rfl
   have puts (hlt:ltF f y=true):part f (l.take (i+1))=((part f (l.take i)).1++[f]++[y],true):=by rw [htk,part_snoc,hp,hlt];simp
   obtain ⟨o2,st2,hap2,ho2,hg2,_⟩:=append_own (bytes:=16) (ap0:=.tight) (ys:=[.agg [.int .i64 f.1,.int .i64 f.2]]) (es:=fls (part f (l.take i)).1) hgr.len (by simpa [fls_length] using ho.weak) (by simp) (by simp [Ai.great,fls_length];omega) (by omega)
   have e2':fls (part f (l.take i)).1++[.agg [.int .i64 f.1,.int .i64 f.2]]=fls ((part f (l.take i)).1++[f]):=by rw [fls_append];rfl
   rw [e2'] at hap2 ho2
   obtain ⟨o3,st3,hap3,ho3,hg3,_⟩:=append_own (bytes:=16) (ap0:=.tight) (ys:=[.agg [.int .i64 y.1,.int .i64 y.2]]) (es:=fls ((part f (l.take i)).1++[f])) (hgr.trans hg2).len (by simpa [fls_length] using ho2.weak) (by simp) (by simp [Ai.great,fls_length];omega) (by omega)
   have e3':fls ((part f (l.take i)).1++[f])++[.agg [.int .i64 y.1,.int .i64 y.2]]=fls ((part f (l.take i)).1++[f]++[y]):=by rw [fls_append _ [y]];rfl
   rw [e3'] at hap3 ho3
   by_cases h1:f.2<y.2
   ·have hlt:ltF f y=true:=by simp [ltF,h1]
    simp [a15_0,g0,g3,g5,g6,g7,he1,hi,hgy,hgy',fls_length,hE,hap2,hap3,w1,h1]
    exact kn (m-1) _ _ _ (by omega) ⟨rfl,i+1,o3,by omega,hni',(hgr.trans hg2).trans hg3,by simp [he1],by rw [puts hlt];simp [he1],by rw [puts hlt];simp [he1],by rw [puts hlt];simpa [fls_length] using ho3⟩
   ·by_cases h2:y.2=f.2
    ·have h2':f.2=y.2:=h2.symm
     have h2q:(y.2=f.2)=True:=eq_true h2
     by_cases h3:f.1<y.1
     ·have hlt:ltF f y=true:=by simp [ltF,h2',h3]
      simp [a15_0,g0,g3,g5,g6,g7,he1,hi,hgy,hgy',fls_length,hE,hap2,hap3,w1,h1,h2q,h3]
      exact kn (m-1) _ _ _ (by omega) ⟨rfl,i+1,o3,by omega,hni',(hgr.trans hg2).trans hg3,by simp [he1],by rw [puts hlt];simp [he1],by rw [puts hlt];simp [he1],by rw [puts hlt];simpa [fls_length] using ho3⟩
     ·have hlt:ltF f y=false:=by simp [ltF,h2',h3]
      simp [a15_0,g0,g3,g5,g6,g7,he1,hi,hgy,hgy',fls_length,hE,hap1,w1,h1,h2q,h3]
      exact kn (m-1) _ _ _ (by omega) ⟨rfl,i+1,o1,by omega,hni',hgr.trans hg1,by simp [he1],by rw [stay hlt];simp [he1,g6],by rw [stay hlt];simp [he1,e1'],by rw [stay hlt];simpa [fls_length] using ho1⟩
    ·have hlt:ltF f y=false:=by
      have:¬f.2=y.2:=fun h=>h2 h.symm
      simp [ltF,h1,this]
     simp [a15_0,g0,g3,g5,g6,g7,he1,hi,hgy,hgy',fls_length,hE,hap1,w1,h1,h2]
     exact kn (m-1) _ _ _ (by omega) ⟨rfl,i+1,o1,by omega,hni',hgr.trans hg1,by simp [he1],by rw [stay hlt];simp [he1,g6],by rw [stay hlt];simp [he1,e1'],by rw [stay hlt];simpa [fls_length] using ho1⟩
 ·have hil:i=l.length:=by omega
  subst hil
  rw [List.take_length] at g6 g5 ho hni
  have hpl:=part_len f l
  have hin:=part_ins f l
  simp [a15_0,g0,g7,he1,fls_length]
  refine kx _ _ _ _ nofun fun hs'=>?_
  cases hp:(part f l).2 with
  | true =>
   rw [hp] at g6 hin
   simp at hin
   simp [g6,g5,he1]
   have hpos:(part f l).1.length≠0:=by
    cases l with
    | nil=>simp [part] at hp
    | cons x l=>simp only [part];split<;>simp
   exact hK _ _ _ (.inl rfl) (by have:=hgr.take;simpa using this) ⟨_,rfl,by
    have:=own_still (es:=fls (part f l).1) ho (stills_fls _ _ _)
    rw [show addF l f=(part f l).1 by simp [addF,hni,hin],show addAp l f ap=endAp (part f l).1.length by simp [addAp,hni,endAp,hpos],←this]
    simp [he1,-AV.still]⟩
  | false =>
   rw [hp] at g6 hin
   simp at hin
   obtain ⟨o2,st2,hap2,ho2,hg2,_⟩:=append_own (bytes:=16) (ap0:=.tight) (ys:=[.agg [.int .i64 f.1,.int .i64 f.2]]) (es:=fls (part f l).1) hgr.len (by simpa [fls_length] using ho.weak) (by simp) (by simp [Ai.great,fls_length];omega) (by omega)
   have e2':fls (part f l).1++[.agg [.int .i64 f.1,.int .i64 f.2]]=fls ((part f l).1++[f]):=by rw [fls_append];rfl
   rw [e2'] at hap2 ho2
   have g3':=hs'.ev 3 rfl (v:=.iptr (.agg [.int .i64 f.1,.int .i64 f.2])) (by simp [he,a1])
   simp [g6,g5,g3,he1,hap2]
   exact hK _ _ _ (.inl rfl) (by have:=(hgr.trans hg2).take;simpa using this) ⟨_,rfl,by
    have:=own_still (es:=fls ((part f l).1++[f])) ho2 (stills_fls _ _ _)
    rw [show addF l f=(part f l).1++[f] by simp [addF,hni,hin],show addAp l f ap=endAp (fls ((part f l).1++[f])).length by simp [addAp,hni,endAp,fls],←this]
    simp [he1,-AV.still]⟩
end Go.Proofs.YtefildelnccljaaGreat
namespace Go.Proofs.YtefildelnccljaaGreat
open Go Ai
theorem same_call {a b:List Fa} {p q:Ap} (ha':a.length≤1000000000) (hb':b.length≤1000000000) {st:St} (hst:StOk st) :
  runL A (.call 16 [.lst 2 (fls a) p,.lst 2 (fls b) q]) st=some ⟨.ret,⟨[.bool (decide (a=b))],[]⟩,st⟩:=by
 refine (task_of_aw (N:=26) prim16 fn16 rfl rfl hst ?_).1
 intro e he ha K hK
 have a0:=ha 0
 have a1:=ha 1
 clear ha
 simp at a0 a1
 by_cases hl:a.length=b.length
 ·simp [a16,he,a0,a1,fls_length,hl]
  refine aw_loop (W:=w16_0) rfl (fun m e ds st'=>ds=[]∧st'=st∧∃i:Nat,i+m=a.length∧a.take i=b.take i∧AX.ev e (.t 5)=.int .i64 i) a.length
   ⟨rfl,rfl,0,by simp,by simp,by simp [he]⟩ ?_
  rintro m e1 ds st' hs ⟨rfl,rfl,i,hm,htk,g5⟩ K1 kn kx
  have he1:e1.length=26:=by simp [hs.1,he]
  have g0:=hs.ev 0 rfl (v:=.lst 2 (fls a) p) (by simp [he,a0])
  have g1:=hs.ev 1 rfl (v:=.lst 2 (fls b) q) (by simp [he,a1])
  by_cases hi:i<a.length
  ·have hib:i<b.length:=by omega
   obtain ⟨x,hx⟩:∃x,x=a[i]:=⟨_,rfl⟩
   obtain ⟨y,hy⟩:∃y,y=b[i]:=⟨_,rfl⟩
   have hgx:(fls a)[i]'(by rw [fls_length];exact hi)=.agg [.int .i64 x.1,.int .i64 x.2]:=by simp [fls,fl,hx]
   have hgy:(fls b)[i]'(by rw [fls_length];exact hib)=.agg [.int .i64 y.1,.int .i64 y.2]:=by simp [fls,fl,hy]
   have w1:IntKind.i64.wrap ((i:Int)+1)=(i:Int)+1:=wrap_i64 (by omega) (by omega)
   have hE:=eq_fl x y
   by_cases hxy:x=y
   ·have hE':eqCells [0,0] [.int .i64 x.1,.int .i64 x.2] [.int .i64 y.1,.int .i64 y.2]=some true:=by rw [hE,decide_eq_true hxy]
    simp [a16_0,g0,g1,g5,he1,hi,hib,hgx,hgy,fls_length,hE',w1]
    exact kn (m-1) _ _ _ (by omega) ⟨rfl,rfl,i+1,by omega,by rw [List.take_succ_eq_append_getElem hi,List.take_succ_eq_append_getElem hib,htk,←hx,←hy,hxy],by simp [he1]⟩
   ·have hE':eqCells [0,0] [.int .i64 x.1,.int .i64 x.2] [.int .i64 y.1,.int .i64 y.2]=some false:=by rw [hE,decide_eq_false hxy]
    have hne:a≠b:=by
     rintro rfl;exact hxy (hx.trans hy.symm)
    simp [a16_0,g0,g1,g5,he1,hi,hib,hgx,hgy,fls_length,hE']
    refine kx _ _ _ _ nofun fun hs'=>?_
    simp [he1]
    exact hK _ _ _ (.inl rfl) (by simp) ⟨_,rfl,by simp [he1,AV.still,hne]⟩
  ·have hil:i=a.length:=by omega
   subst hil
   have hab:a=b:=by rw [List.take_length,hl,List.take_length] at htk;exact htk
   simp [a16_0,g0,g5,he1,fls_length]
   refine kx _ _ _ _ nofun fun hs'=>?_
   simp [he1]
   exact hK _ _ _ (.inl rfl) (by simp) ⟨_,rfl,by simp [he1,AV.still,hab]⟩
 ·have hne:a≠b:=fun h=>hl (by rw [h])
  have hl':¬(a.length:Int)=(b.length:Int):=by omega
  simp [a16,he,a0,a1,fls_length,hl']
  exact hK _ _ _ (.inl rfl) (by simp) ⟨_,rfl,by simp [he,AV.still,hne]⟩
end Go.Proofs.YtefildelnccljaaGreat
namespace Go.Proofs.YtefildelnccljaaGreat
open Go Ai
theorem fn50:A.fn 50=some a50:=by kernel_rfl
theorem prim50:A.prim 50=none:=by kernel_rfl
theorem fn17:A.fn 17=some a17:=by kernel_rfl
theorem prim17:A.prim 17=none:=by kernel_rfl
theorem prim44:A.prim 44=some (cloneA 2 16):=rfl
theorem prim45:A.prim 45=some (sortA 46 ltF):=rfl
def w50_0:List Nat:=a50_0.writes
def w50_1:List Nat:=a50_1.writes
theorem snoc_ind {α:Type} {Q:List α→Prop} (h0:Q []) (h1:∀l y,Q l→Q (l++[y])) (l:List α):Q l:=by
 have:∀l:List α,Q l.reverse:=by
  intro l
  induction l with
  | nil=>exact h0
  | cons y l ih=>rw [List.reverse_cons];exact h1 _ _ ih
 simpa using this l.reverse
def ddl (l:List Fa):List Fa:=l.foldl (fun acc y=>if acc.getLast?=some y then acc else acc++[y]) []
theorem ddl_snoc' (l:List Fa) (y:Fa):ddl (l++[y])=if (ddl l).getLast?=some y then ddl l else ddl l++[y]:=by rw [ddl,List.foldl_append];rfl
theorem ddl_last (l:List Fa):(ddl l).getLast?=l.getLast?:=by
 induction l using snoc_ind with
 | h0=>rfl
 | h1 l y ih =>
  rw [ddl_snoc']
  split
  ·rename_i h;simp [h]
  ·simp
theorem ddl_snoc (l:List Fa) (y:Fa):ddl (l++[y])=if l.getLast?=some y then ddl l else ddl l++[y]:=by rw [ddl_snoc',ddl_last]
theorem ddl_len (l:List Fa):(ddl l).length≤l.length:=by
 induction l using snoc_ind with
 | h0=>simp [ddl]
 | h1 l y ih=>rw [ddl_snoc'];split<;>simp<;>omega
theorem take2 {l:List Fa} {i:Nat} (h:i<l.length):takeVar 2 true (pairCells l) (i * 2)=some (.agg [.int .i64 l[i].1,.int .i64 l[i].2]):=by
 have hd:∀(l:List Fa) (i:Nat) (h:i<l.length),((pairCells l).drop (i * 2)).take 2=[.int .i64 l[i].1,.int .i64 l[i].2]:=by
  intro l
  induction l with
  | nil=>intro i h;simp at h
  | cons x l ih =>
   intro i h
   cases i with
   | zero=>rfl
   | succ i =>
    rw [show (i+1) * 2=i * 2+1+1 by omega]
    simp only [pairCells,List.drop_succ_cons,List.getElem_cons_succ]
    exact ih i (by simpa using h)
 simp only [takeVar,if_true,pairCells_length]
 rw [if_pos (by omega),hd l i h]
theorem put2:∀{l:List Fa} {i:Nat} (_:i<l.length) (x:Fa),putCells (pairCells l) (i * 2) [.int .i64 x.1,.int .i64 x.2]=pairCells (l.set i x)
 | [],i,h,x=>by simp at h
 | y::l,0,_,x=>rfl
 | y::l,i+1,h,x=>by
  have ih:=put2 (l:=l) (i:=i) (by simpa using h) x
  rw [show (i+1) * 2=i * 2+1+1 by omega]
  simp only [putCells,pairCells,List.set_cons_succ] at ih ⊢
  rw [ih]
theorem putZ:∀(n i:Nat) {l:List Fa} (_:i+n=l.length),putCells (pairCells l) (i * 2) (List.replicate n [AV.int .i64 0,.int .i64 0]).flatten=pairCells (l.take i++List.replicate n (0,0))
 | 0,i,l,h=>by simp [putCells,List.take_of_length_le (show l.length≤i by omega)]
 | n+1,i,l,h=>by
  have h1:=put2 (l:=l) (i:=i) (by omega) (0,0)
  simp only [List.replicate_succ,List.flatten_cons]
  have h2:∀(cs:List AV) (k:Nat) (a b r:List AV),putCells cs k (a++r)=putCells (putCells cs k a) (k+a.length) r:=by
   intro cs k a b r
   induction a generalizing cs k with
   | nil=>rfl
   | cons v a ih=>simp only [List.cons_append,putCells,List.length_cons];rw [ih,show k+1+a.length=k+(a.length+1) by omega]
  rw [h2 _ _ _ [],h1,show i * 2+[AV.int .i64 0,.int .i64 0].length=(i+1) * 2 by simp;omega,putZ n (i+1) (by simp;omega)]
  congr 1
  rw [List.take_succ_eq_append_getElem (by simp;omega)]
  simp [List.take_set_of_le]
theorem last_take {l:List Fa} {k:Nat} (h1:1≤k) (h2:k≤l.length):(l.take k).getLast?=some (l[k-1]'(by omega)):=by
 rw [List.getLast?_eq_getElem?,List.length_take,Nat.min_eq_left h2,List.getElem?_take,if_pos (by omega),List.getElem?_eq_getElem (by omega)]
theorem compact_call {l:List Fa} {r:Nat} {st:St} (hr:st[r]?=some (.cells none (pairCells l))) (hl:l.length≤1000000000) (hst:StOk st) :
  runL A (.call 50 [.sl r 2 0 l.length none]) st=some ⟨.ret,⟨[.sl r 2 0 (ddl l).length none],[]⟩,st.set r (.cells none (pairCells (ddl l++List.replicate (l.length-(ddl l).length) (0,0))))⟩:=by
 have hrl:r<st.length:=(List.getElem?_eq_some_iff.1 hr).1
 have hlow:∀C:List Fa,AObj.lowB st.length (.cells none (pairCells C))=true:=by
  intro C
  induction C with
  | nil=>rfl
  | cons x C ih=>simp only [AObj.lowB,pairCells,AV.lowsB,AV.lowB,Bool.true_and] at ih ⊢;exact ih
 have hsame:∀{C:List Fa},C=l→st.set r (.cells none (pairCells C))=st:=by
  rintro _ rfl
  apply List.ext_getElem?
  intro i
  by_cases hi:r=i
  ·subst hi;rw [List.getElem?_set_self hrl,hr]
  ·rw [List.getElem?_set_ne hi]
 refine task_of_aw_mut (N:=61) prim50 fn50 rfl rfl (hst.put (hlow _)) ?_
 intro e he ha K hK
 have a0:=ha 0
 clear ha
 simp at a0
 by_cases h2:l.length<2
 ·have hd:ddl l=l:=by
   match l,h2 with
   | [],_=>rfl
   | [x],_=>rfl
  have h2':(l.length:Int)<2:=by omega
  rw [hd,hsame (by simp)] at hK
  simp [a50,he,a0,h2']
  exact hK _ _ _ (.inl rfl) (by simp) ⟨_,rfl,by simp [he,AV.still,hrl]⟩
 ·have h2':¬(l.length:Int)<2:=by omega
  simp [a50,he,a0,h2']
  refine aw_loop (W:=w50_1) rfl (fun m e ds st'=>ds=[]∧st'=st∧∃k:Nat,k+m=l.length∧1≤k∧ddl (l.take k)=l.take k∧AX.ev e (.t 3)=.int .i64 k) (l.length-1)
   ⟨rfl,rfl,1,by omega,by omega,by
    cases l with
    | nil=>simp at h2
    | cons x l=>simp [ddl],by simp [he]⟩ ?_
  rintro m e1 ds st' hs ⟨rfl,rfl,k,hm,hk1,hdk,g3⟩ K1 kn kx
  have he1:e1.length=61:=by simp [hs.1,he]
  have g0:=hs.ev 0 rfl (v:=.sl r 2 0 l.length none) (by simp [he,a0])
  by_cases hk:k<l.length
  ·obtain ⟨y,hy⟩:∃y,y=l[k]:=⟨_,rfl⟩
   obtain ⟨z,hz⟩:∃z,z=l[k-1]'(by omega):=⟨_,rfl⟩
   have t1:takeVar 2 true (pairCells l) (k * 2)=some (.agg [.int .i64 y.1,.int .i64 y.2]):=by rw [take2 hk,hy]
   have t2:takeVar 2 true (pairCells l) ((k-1) * 2)=some (.agg [.int .i64 z.1,.int .i64 z.2]):=by rw [take2 (by omega:k-1<l.length),hz]
   have w0:IntKind.i64.wrap ((k:Int)-1)=((k-1:Nat):Int):=by rw [wrap_i64 (by omega) (by omega)];omega
   have w1:IntKind.i64.wrap ((k:Int)+1)=(k:Int)+1:=wrap_i64 (by omega) (by omega)
   have hkm:k-1<l.length:=by omega
   have htk:l.take (k+1)=l.take k++[y]:=by rw [hy];simp
   have hE:=eq_fl y z
   by_cases hyz:y=z
   ·have hE':eqCells [0,0] [.int .i64 y.1,.int .i64 y.2] [.int .i64 z.1,.int .i64 z.2]=some true:=by rw [hE,decide_eq_true hyz]
    simp [a50_1,-takeVar,g0,g3,he1,hk,hkm,hr,t1,t2,w0,hE',bound,show k≤l.length by omega]
    refine aw_loop (W:=w50_0) rfl (fun m2 e ds st2=>ds=[]∧∃(j c:Nat) (C:List Fa),k+j+m2=l.length∧1≤j∧C.length=l.length∧C.take c=ddl (l.take (k+j))∧c=(ddl (l.take (k+j))).length∧c≤k+j-1 ∧
      (∀i,k+j-1≤i→C[i]?=l[i]?)∧st2=st'.set r (.cells none (pairCells C))∧AX.ev e (.t 5)=.int .i64 j∧AX.ev e (.t 3)=.int .i64 c) (l.length-k-1) ?_ ?_
    ·have hd1:ddl (l.take (k+1))=l.take k:=by rw [htk,ddl_snoc,last_take hk1 (by omega),←hz,if_pos (by rw [hyz]),hdk]
     exact ⟨rfl,1,k,l,by omega,by omega,rfl,by rw [hd1],by rw [hd1,List.length_take];omega,by omega,fun _ _=>rfl,(hsame rfl).symm,by simp [he1],by simp [he1,g3]⟩
    rintro m2 e2 ds st2 hs2 ⟨rfl,j,c,C,hm2,hj1,hC,hCt,hc,hck,hCi,rfl,g5,g3⟩ K2 kn2 kx2
    have he2:e2.length=61:=by simp [hs2.1,he1]
    have g0:=hs2.ev 0 rfl (v:=.sl r 2 0 l.length none) (by simp [he1,g0])
    have g4:=hs2.ev 4 rfl (v:=.sl r 2 (k * 2) (l.length-k) none) (by simp [he1])
    have hcn:c<l.length:=by omega
    have hpc:=pairCells_length C
    by_cases hj:k+j<l.length
    ·have hj':j<l.length-k:=by omega
     have hj'':j-1<l.length-k:=by omega
     obtain ⟨y',hy'⟩:∃y,y=l[k+j]:=⟨_,rfl⟩
     obtain ⟨z',hz'⟩:∃z,z=l[k+j-1]'(by omega):=⟨_,rfl⟩
     have t1:takeVar 2 true (pairCells C) (k * 2+j * 2)=some (.agg [.int .i64 y'.1,.int .i64 y'.2]):=by
      have:=hCi (k+j) (by omega)
      rw [List.getElem?_eq_getElem (by omega),List.getElem?_eq_getElem hj] at this
      rw [←Nat.add_mul,take2 (by omega),Option.some.inj this,hy']
     have t2:takeVar 2 true (pairCells C) (k * 2+(j-1) * 2)=some (.agg [.int .i64 z'.1,.int .i64 z'.2]):=by
      have:=hCi (k+j-1) (by omega)
      rw [List.getElem?_eq_getElem (by omega),List.getElem?_eq_getElem (by omega)] at this
      have hkj:k+(j-1)=k+j-1:=by omega
      rw [←Nat.add_mul,take2 (by omega)]
      simp only [hkj]
      rw [Option.some.inj this,hz']
     have w0:IntKind.i64.wrap ((j:Int)-1)=((j-1:Nat):Int):=by rw [wrap_i64 (by omega) (by omega)];omega
     have w1:IntKind.i64.wrap ((j:Int)+1)=(j:Int)+1:=wrap_i64 (by omega) (by omega)
     have w2:IntKind.i64.wrap ((c:Int)+1)=(c:Int)+1:=wrap_i64 (by omega) (by omega)
     have htk2:l.take (k+(j+1))=l.take (k+j)++[y']:=by rw [hy',←Nat.add_assoc];simp
     have hlast:(l.take (k+j)).getLast?=some z':=by rw [last_take (by omega) (by omega),hz']
     have hE:=eq_fl y' z'
     by_cases hyz':y'=z'
     ·have hE':eqCells [0,0] [.int .i64 y'.1,.int .i64 y'.2] [.int .i64 z'.1,.int .i64 z'.2]=some true:=by rw [hE,decide_eq_true hyz']
      have hdd:ddl (l.take (k+(j+1)))=ddl (l.take (k+j)):=by rw [htk2,ddl_snoc,hlast,if_pos (by rw [hyz'])]
      simp [a50_0,-takeVar,g0,g3,g4,g5,he2,hj',hj'',hrl,t1,t2,w0,hE',w1]
      exact kn2 (m2-1) _ _ _ (by omega) ⟨rfl,j+1,c,C,by omega,by omega,hC,by rw [hdd];exact hCt,by rw [hdd];exact hc,by omega,fun i hi=>hCi i (by omega),rfl,by simp [he2],by simp [he2,g3]⟩
     ·have hE':eqCells [0,0] [.int .i64 y'.1,.int .i64 y'.2] [.int .i64 z'.1,.int .i64 z'.2]=some false:=by rw [hE,decide_eq_false hyz']
      have hdd:ddl (l.take (k+(j+1)))=ddl (l.take (k+j))++[y']:=by rw [htk2,ddl_snoc,hlast,if_neg (fun h=>hyz' (Option.some.inj h).symm)]
      have p1:=put2 (l:=C) (i:=c) (by omega) y'
      have hpc2:c * 2+2≤(pairCells C).length:=by omega
      simp [a50_0,-takeVar,-putCells,g0,g3,g4,g5,he2,hj',hj'',hrl,t1,t2,w0,hE',w1,w2,hcn,p1,hpc2,AV.cells,AV.isCell]
      exact kn2 (m2-1) _ _ _ (by omega) ⟨rfl,j+1,c+1,C.set c y',by omega,by omega,by simpa using hC,by
       rw [hdd,List.take_succ_eq_append_getElem (by simp;omega)];simp [List.take_set_of_le,hCt],by rw [hdd];simp [←hc],by omega,fun i hi=>by rw [List.getElem?_set_ne (by omega)];exact hCi i (by omega),rfl,by simp [he2],by simp [he2]⟩
    ·have hkj:k+j=l.length:=by omega
     rw [hkj,List.take_length] at hc hCt
     have hjn:¬j<l.length-k:=by omega
     have p1:=putZ (l.length-c) c (l:=C) (by omega)
     have hpc2:c * 2+(l.length-c) * 2≤(pairCells C).length:=by omega
     have hcle:c≤l.length:=by omega
     simp [a50_0,g4,g5,he2,hjn]
     refine kx2 _ _ _ _ nofun fun hs2'=>?_
     simp [g0,g3,he2,bound,hcle,hcn,clearA,AV.asLst,hrl,p1,hpc2,-putCells,show 0<l.length by omega]
     refine kx _ _ _ _ nofun fun hs'=>?_
     simp [he2]
     rw [hCt,hc]
     exact hK _ _ _ (.inl rfl) (List.take_of_length_le (by rw [List.length_set];exact Nat.le_refl _)) ⟨_,rfl,by simp [he2,AV.still,hrl,hc]⟩
   ·have hE':eqCells [0,0] [.int .i64 y.1,.int .i64 y.2] [.int .i64 z.1,.int .i64 z.2]=some false:=by rw [hE,decide_eq_false hyz]
    simp [a50_1,-takeVar,g0,g3,he1,hk,hkm,hr,t1,t2,w0,hE',w1]
    exact kn (m-1) _ _ _ (by omega) ⟨rfl,rfl,k+1,by omega,by omega,by rw [htk,ddl_snoc,last_take hk1 (by omega),←hz,if_neg (fun h=>hyz (Option.some.inj h).symm),hdk],by simp [he1]⟩
  ·have hkl:k=l.length:=by omega
   subst hkl
   rw [List.take_length] at hdk
   rw [hdk,hsame (by simp)] at hK
   simp [a50_1,g0,g3,he1]
   refine kx _ _ _ _ nofun fun hs'=>?_
   simp [he1,g0]
   exact hK _ _ _ (.inl rfl) (by simp) ⟨_,rfl,by simp [he1,AV.still,hrl]⟩
def orderF (l:List Fa):List Fa:=ddl (sortP ltF l)
theorem flat_fls:∀l:List Fa,flat (fls l)=pairCells l
 | []=>rfl
 | x::l=>by
  have:=flat_fls l
  simp only [fls,List.map_cons,flat,pairCells] at this ⊢
  rw [this];simp [fl,AV.cells]
theorem group_pairs:∀(l:List Fa) (k:Nat),k≤l.length→group 2 true k (pairCells l)=fls (l.take k)
 | _,0,_=>rfl
 | [],k+1,h=>by simp at h
 | x::l,k+1,h=>by
  have:=group_pairs l k (by simpa using h)
  simp only [group,pairCells,if_true,List.take_succ_cons,fls,List.map_cons] at this ⊢
  rw [←this];simp [fl]
theorem lows_pairs (n:Nat):∀l:List Fa,AV.lowsB n (pairCells l)=true
 | []=>rfl
 | x::l=>by simp only [pairCells,AV.lowsB,AV.lowB,lows_pairs n l,Bool.and_self]
theorem compact_nil {st:St} (hst:StOk st):runL A (.call 50 [.lst 2 [] .no]) st=some ⟨.ret,⟨[.lst 2 [] .no],[]⟩,st⟩:=by
 refine (task_of_aw (N:=61) prim50 fn50 rfl rfl hst ?_).1
 intro e he ha K hK
 have a0:=ha 0
 clear ha
 simp at a0
 simp [a50,he,a0]
 exact hK _ _ _ (.inl rfl) (by simp) ⟨_,rfl,by simp [he,AV.still,AV.stills]⟩
theorem order_call {l:List Fa} {ap:Ap} (hl:l.length≤1000000000) {st:St} (hst:StOk st) :
  runL A (.call 17 [.lst 2 (fls l) ap]) st=some ⟨.ret,⟨[.lst 2 (fls (orderF l)) .no],[]⟩,st⟩:=by
 refine (task_of_aw (N:=10) prim17 fn17 rfl rfl hst ?_).1
 intro e he ha K hK
 have a0:=ha 0
 clear ha
 simp at a0
 cases l with
 | nil =>
  have h44:runL A (.call 44 [.lst 2 [] ap]) st=some ⟨.ret,⟨[.lst 2 [] .no],[]⟩,st⟩:=by
   rw [runL_eq];simp only [layer,prim44,cloneA,AV.asLst];simp
  have h45:runL A (.call 45 [.lst 2 [] .no,.func (.func 46) [] []]) st=some ⟨.ret,⟨[.tup []],[]⟩,st⟩:=by
   rw [runL_eq];simp only [layer,prim45,sortA,AV.asLst];simp
  have h50:=compact_nil hst
  simp [fls] at a0
  simp [a17,he,a0,h44,h45,h50]
  exact hK _ _ _ (.inl rfl) (by simp) ⟨_,rfl,by simp [he,AV.still,AV.stills,orderF,sortP,ddl,fls]⟩
 | cons x t =>
  generalize hL:x::t=L at *
  have hne:fls L≠[]:=by rw [←hL];simp [fls]
  have h44:runL A (.call 44 [.lst 2 (fls L) ap]) st=some ⟨.ret,⟨[.sl st.length 2 0 L.length none],[]⟩,st++[.cells none (pairCells L)]⟩:=by
   rw [runL_eq];simp only [layer,prim44,cloneA,AV.asLst,fls_length,flat_fls]
   rw [if_pos ⟨trivial,by unfold great;omega,by decide⟩,if_neg hne]
  have hsl:(sortP ltF L).length=L.length:=(sortP_perm _ _).length_eq
  have h45:runL A (.call 45 [.sl st.length 2 0 L.length none,.func (.func 46) [] []]) (st++[.cells none (pairCells L)])=some ⟨.ret,⟨[.tup []],[]⟩,st++[.cells none (pairCells (sortP ltF L))]⟩:=by
   rw [runL_eq];simp only [layer,prim45,sortA,AV.asLst,if_true,List.getElem?_append_right (Nat.le_refl _),Nat.sub_self,List.getElem?_cons_zero,pairsOf_cells]
   rw [if_pos ⟨trivial,by unfold great;omega⟩]
   simp
  have hok:StOk (st++[.cells none (pairCells (sortP ltF L))]):=hst.snoc (by simpa [AObj.lowB] using lows_pairs _ _)
  have h50:=compact_call (l:=sortP ltF L) (r:=st.length) (st:=st++[.cells none (pairCells (sortP ltF L))]) (by simp) (by omega) hok
  rw [hsl] at h50
  simp at h50
  simp [a17,he,a0,h44,h45,h50]
  have hdl:=ddl_len (sortP ltF L)
  refine hK _ _ _ (.inl rfl) (by simp) ⟨_,rfl,?_⟩
  have hg:=group_pairs (ddl (sortP ltF L)++List.replicate (L.length-(ddl (sortP ltF L)).length) (0,0)) (ddl (sortP ltF L)).length (by simp)
  rw [List.take_left] at hg
  simp [he,AV.still,lows_pairs,pairCells_length,hg,orderF]
end Go.Proofs.YtefildelnccljaaGreat
namespace Go.Proofs.YtefildelnccljaaGreat
open Go Ai
def Strict (l:List Fa):Prop:=l.Pairwise fun a b=>ltF a b=true
theorem ltF_irrefl (x:Fa):ltF x x=false:=ltF_swo.irrefl x
theorem ltF_trans {x y z:Fa} (h1:ltF x y=true) (h2:ltF y z=true):ltF x z=true:=ltF_swo.trans _ _ _ h1 h2
theorem ltF_asymm {x y:Fa} (h1:ltF x y=true):ltF y x=false:=by
 cases h:ltF y x with
 | false=>rfl
 | true=>have:=ltF_trans h1 h;rw [ltF_irrefl] at this;cases this
theorem ltF_or {x y:Fa} (h1:x≠y) (h2:ltF x y=false):ltF y x=true:=by
 cases h:ltF y x with
 | true=>rfl
 | false=>exact absurd (ltF_part x y h2 h) h1
theorem strict_eq:∀{l m:List Fa},Strict l→Strict m→(∀x,x∈l↔x∈m)→l=m
 | [],[],_,_,_=>rfl
 | [],b::m,_,_,h=>by have:=(h b).2 (by simp);simp at this
 | a::l,[],_,_,h=>by have:=(h a).1 (by simp);simp at this
 | a::l,b::m,hl,hm,h=>by
  unfold Strict at hl hm
  rw [List.pairwise_cons] at hl hm
  have hab:a=b:=by
   by_cases hab:a=b
   ·exact hab
   ·have h1:a∈m:=by have:=(h a).1 (by simp);simp [hab] at this;exact this
    have h2:b∈l:=by have:=(h b).2 (by simp);simp [show ¬b=a from fun h=>hab h.symm] at this;exact this
    have:=ltF_asymm (hl.1 b h2)
    rw [hm.1 a h1] at this;cases this
  subst hab
  congr 1
  refine strict_eq hl.2 hm.2 fun x=>?_
  have hx:=h x
  constructor
  ·intro h1
   have:x∈a::m:=hx.1 (by simp [h1])
   rcases List.mem_cons.1 this with rfl | h2
   ·have:=hl.1 x h1;rw [ltF_irrefl] at this;cases this
   ·exact h2
  ·intro h1
   have:x∈a::l:=hx.2 (by simp [h1])
   rcases List.mem_cons.1 this with rfl | h2
   ·have:=hm.1 x h1;rw [ltF_irrefl] at this;cases this
   ·exact h2
theorem insG_mem (f:Fa):∀(l:List Fa) (x:Fa),x∈insG f l↔x=f∨x∈l
 | [],x=>by simp [insG]
 | y::l,x=>by
  simp only [insG]
  split
  ·simp
  ·simp only [List.mem_cons,insG_mem f l x]
   constructor
   ·rintro (h | h | h)<;>simp [h]
   ·rintro (h | h | h)<;>simp [h]
theorem insG_strict {f:Fa}:∀{l:List Fa},Strict l→f ∉ l→Strict (insG f l)
 | [],_,_=>by simp [insG,Strict]
 | y::l,h,hf=>by
  have h0:=h
  unfold Strict at h
  rw [List.pairwise_cons] at h
  simp at hf
  simp only [insG]
  split
  ·rename_i hlt
   refine List.pairwise_cons.2 ⟨fun z hz=>?_,h0⟩
   rcases List.mem_cons.1 hz with rfl | hz
   ·exact hlt
   ·exact ltF_trans hlt (h.1 z hz)
  ·rename_i hlt
   have hyf:ltF y f=true:=ltF_or hf.1 (by simpa using hlt)
   refine List.pairwise_cons.2 ⟨fun z hz=>?_,insG_strict h.2 hf.2⟩
   rcases (insG_mem f l z).1 hz with rfl | hz
   ·exact hyf
   ·exact h.1 z hz
theorem addF_mem (l:List Fa) (f x:Fa):x∈addF l f↔x=f∨x∈l:=by
 unfold addF
 split
 ·rename_i h
  constructor
  ·exact .inr
  ·rintro (rfl | h')
   ·exact h
   ·exact h'
 ·exact insG_mem f l x
theorem addF_strict {l:List Fa} {f:Fa} (h:Strict l):Strict (addF l f):=by
 unfold addF
 split
 ·exact h
 ·rename_i hf;exact insG_strict h hf
theorem addF_len (l:List Fa) (f:Fa):(addF l f).length≤l.length+1:=by
 have:∀l:List Fa,(insG f l).length=l.length+1:=by
  intro l
  induction l with
  | nil=>rfl
  | cons y l ih=>simp only [insG];split<;>simp [ih]
 unfold addF;split<;>simp [this]
theorem foldl_add (l:List Fa):∀acc:List Fa,Strict acc→Strict (l.foldl addF acc)∧(∀x,x∈l.foldl addF acc↔x∈l∨x∈acc):=by
 induction l with
 | nil=>intro acc h;exact ⟨h,by simp⟩
 | cons y l ih =>
  intro acc h
  obtain ⟨h1,h2⟩:=ih _ (addF_strict (f:=y) h)
  refine ⟨h1,fun x=>?_⟩
  simp only [List.foldl_cons,h2,addF_mem,List.mem_cons]
  constructor
  ·rintro (h | h | h)<;>simp [h]
  ·rintro ((h | h) | h)<;>simp [h]
theorem ddl_mem (l:List Fa) (x:Fa):x∈ddl l↔x∈l:=by
 induction l using snoc_ind with
 | h0=>simp [ddl]
 | h1 l y ih =>
  rw [ddl_snoc]
  split
  ·rename_i h
   rw [ih]
   simp
   rintro rfl
   exact List.mem_of_getLast? h
  ·simp [ih]
theorem ddl_strict (l:List Fa):l.Pairwise (fun a b=>ltF b a=false)→Strict (ddl l):=by
 induction l using snoc_ind with
 | h0=>simp [ddl,Strict]
 | h1 l y ih =>
  intro h
  rw [List.pairwise_append] at h
  obtain ⟨h1,_,h3⟩:=h
  rw [ddl_snoc]
  split
  ·exact ih h1
  ·rename_i hl
   unfold Strict
   rw [List.pairwise_append]
   refine ⟨ih h1,by simp,fun a ha b hb=>?_⟩
   simp at hb
   subst hb
   have ha':=(ddl_mem l a).1 ha
   have hba:=h3 a ha' b (by simp)
   by_cases hab:a=b
   ·subst hab
    -- a stands in l,and is not its last: what is last is greater,and not
    exfalso
    cases hg:l.getLast? with
    | none=>rw [List.getLast?_eq_none_iff] at hg;subst hg;simp at ha'
    | some z =>
     have hz:=List.mem_of_getLast? hg
     have hza:=h3 z hz a (by simp)
     have hne:z≠a:=by rintro rfl;exact hl hg
     -- a is ahead of z
     have haz:ltF a z=true:=by
      obtain ⟨i,hi,rfl⟩:=List.getElem_of_mem ha'
      rw [List.getLast?_eq_getElem?] at hg
      have hlast:l.length-1<l.length:=by omega
      rw [List.getElem?_eq_getElem hlast] at hg
      have hg:=Option.some.inj hg
      by_cases hii:i=l.length-1
      ·subst hii;exact absurd hg.symm hne
      ·have:=List.pairwise_iff_getElem.1 h1 i (l.length-1) hi hlast (by omega)
       rw [hg] at this
       exact ltF_or hne this
     rw [haz] at hza
     cases hza
   ·exact ltF_or (fun h=>hab h.symm) hba
theorem orderF_strict (l:List Fa):Strict (orderF l):=ddl_strict _ (sortP_sorted ltF_swo l)
theorem orderF_mem (l:List Fa) (x:Fa):x∈orderF l↔x∈l:=by
 unfold orderF
 rw [ddl_mem,(sortP_perm ltF l).mem_iff]
theorem orderF_len (l:List Fa):(orderF l).length≤l.length:=by
 have:=ddl_len (sortP ltF l)
 rw [(sortP_perm ltF l).length_eq] at this
 exact this
theorem orderF_fold (l:List Fa):orderF l=l.foldl addF []:=by
 obtain ⟨h1,h2⟩:=foldl_add l [] .nil
 refine strict_eq (orderF_strict l) h1 fun x=>?_
 rw [orderF_mem,h2];simp
end Go.Proofs.YtefildelnccljaaGreat
namespace Go.Proofs.YtefildelnccljaaGreat
open Go Ai
theorem addAp_still {l:List Fa} {f:Fa} {ap:Ap} (h:Still ap):Still (addAp l f ap):=by unfold addAp;split;exact h;exact .no
end Go.Proofs.YtefildelnccljaaGreat
namespace Go.Proofs.YtefildelnccljaaGreat
open Go Ai
theorem glOk {W:World} {laid:List (String×DataW Unit)} (_:laidMetH Tryz.prog laid W):GlOk gl (J0 W):=by
 intro g v h;cases h
theorem bwOk {W:World} {laid:List (String×DataW Unit)} (_:laidMetH Tryz.prog laid W):Bw W:=trivial
end Go.Proofs.YtefildelnccljaaGreat
