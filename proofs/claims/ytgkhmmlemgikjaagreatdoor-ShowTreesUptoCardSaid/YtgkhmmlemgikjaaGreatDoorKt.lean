/- Part Kt. No condition. -/
import Derived.Test.YtgkhmmlemgikjaaGreatDoorKs
import Derived.Test.YtgkhmmlemgikjaaGreatDoorKe
import Derived.Test.YtgkhmmlemgikjaaGreatDoorEh
import Derived.Test.YtgkhmmlemgikjaaGreatDoorKh
import Derived.Test.YtgkhmmlemgikjaaGreatDoorKg
import Derived.Test.YtgkhmmlemgikjaaGreatDoorKn
set_option linter.unusedVariables false
set_option linter.unusedSimpArgs false
namespace Go.Proofs.YtgkhmmlemgikjaaGreatDoor
open Go Ai
theorem fn14:A.fn 14=some a14:=by kernel_rfl
theorem prim14:A.prim 14=none:=by kernel_rfl
def w14_0:List Nat:=a14_0.writes
theorem ahead_of {p:Pg} (h:may4 p=true):Ahead p:=by
 simp only [may4,Bool.and_eq_true] at h
 intro i hi k hk
 have:=ones_get p.xs 0 i hi h.1
 rw [Nat.zero_add] at this
 exact one_parts this k hk
theorem tree_call {p:Pg} (hp:p.Ok) (hA:Ahead p) {st:St} {M:Nat} (hM:M≤1000000):∀(f e':Nat),e'<f→e'<p.xs.length→∀(es:List Int) (v:AV) (s:St),es.length≤M→Fit st s→Lv st s 1 (some 3) v (ints es) →
  ∃v' s',runL A (.call 30 [p.av,.int .i64 e',v,.int .i64 M]) s=some ⟨.ret,⟨[v'],[]⟩,s'⟩∧Lv st s' 1 (some 3) v' (ints (treeN p f e' es M))∧Fit st s':=by
 intro f
 induction f with
 | zero=>intro e' h;omega
 | succ f ih =>
 intro e' hef heN es v s hes hf hv
 have hxo:=hp.ex _ (List.getElem_mem heN)
 have hcs:=xs_get heN
 have hAe:=hA e' heN
 have hg:p.xs.getD e' ex0=p.xs[e']:=by simp [heN]
 have hpl:=parts_len _ hxo
 suffices h:∃v' s',(Lv st s' 1 (some 3) v' (ints (treeN p (f+1) e' es M))∧Fit st s')∧runL A (.call 30 [p.av,.int .i64 e',v,.int .i64 M]) s=some ⟨.ret,⟨[v'],[]⟩,s'⟩∧runL A (.seqc 30 [p.av,.int .i64 e',v,.int .i64 M]) s=some ⟨.ret,⟨[v'],[]⟩,s'⟩ by
  obtain ⟨v',s',⟨h1,h2⟩,h3,_⟩:=h
  exact ⟨v',s',h3,h1,h2⟩
 refine Ai.task_of_aw_keep_ev (N:=41) _ prim30 fn30 rfl rfl ?_
 intro e he ha K hK
 have a0:=ha 0
 have a1:=ha 1
 have a2:=ha 2
 have a3:=ha 3
 clear ha
 simp [Pg.av] at a0 a1 a2 a3
 rw [treeN,hg] at hK
 obtain ⟨o,hvo⟩:=hv.eq
 rw [hvo] at a2
 by_cases hb:M≤es.length
 ·have hb':(M:Int)≤(es.length:Int):=by omega
  rw [if_pos hb] at hK
  simp [a30,he,a0,a1,a2,a3,ints_length,hb,hb']
  exact hK _ _ _ _ (.inl rfl) ⟨hv,hf⟩ ⟨_,rfl,by simp [he,a2,hvo]⟩
 ·have hb':¬(M:Int)≤(es.length:Int):=by omega
  rw [if_neg hb] at hK
  obtain ⟨v1,s1,p1,p2,p3,_⟩:=hv.push (bytes:=8) (x:=.int .i64 e') (ap:=.tight) hf (by rw [ints_length];omega) (by omega)
  have p2:Lv st s1 1 (some 3) v1 (ints (es++[(e':Int)])):=by simpa [ints] using p2
  have h68:=parts_call hxo p3.ok
  rw [hvo] at p1
  generalize p.xs[e']=x at *
  generalize partsF x=ks at *
  simp only [Ex.av,Ex.cs] at hcs h68
  simp [a30,he,a0,a1,a2,a3,ints_length,hb,hb',p1,heN,hcs,h68]
  refine aw_loop (W:=w30_0) rfl (fun m e ds s=>ds=[]∧∃(i:Nat) (v:AV) (l:List Int),i+m=ks.length∧l.length≤M∧(ks.drop i).foldl (fun l k=>treeN p f k.toNat l M) l=ks.foldl (fun l k=>treeN p f k.toNat l M) (es++[(e':Int)]) ∧
    Lv st s 1 (some 3) v (ints l)∧Fit st s∧AX.ev e (.t 2)=v∧AX.ev e (.t 10)=.int .i64 i) ks.length
   ⟨rfl,0,v1,es++[(e':Int)],by simp,by simp;omega,by simp,p2,p3,by simp [he],by simp [he]⟩ ?_
  rintro m e1 ds s2 hs ⟨rfl,i,v2,l,hm,hl,hfold,hv2,hf2,g2,g10⟩ K1 kn kx
  have he1:e1.length=41:=by simp [hs.1,he]
  have g3:=hs.ev 3 rfl (v:=.int .i64 M) (by simp [he,a3])
  have g4:=hs.ev 4 rfl (v:=.iptr p.av) (by simp [he,a0,Pg.av])
  have g9:=hs.ev 9 rfl (v:=.lst 1 (ints ks) (partsAp x)) (by simp [he])
  simp only [Pg.av] at g4 ih
  by_cases hi:i<ks.length
  ·have hgv:=ints_get hi
   have hk:=hAe _ (List.getElem_mem hi)
   rw [drop_get hi,List.foldl_cons] at hfold
   generalize ks[i]=k at *
   obtain ⟨j,rfl⟩:=Int.eq_ofNat_of_zero_le hk.1
   obtain ⟨v3,s3,q1,q2,q3⟩:=ih j (by omega) (by omega) l v2 s2 hl hf2 hv2
   have w1:IntKind.i64.wrap ((i:Int)+1)=(i:Int)+1:=wrap_i64 (by omega) (by omega)
   simp [a30_0,g2,g3,g4,g9,g10,he1,hi,hgv,ints_length,q1,w1]
   exact kn (m-1) _ _ _ (by omega) ⟨rfl,i+1,v3,_,by omega,treeN_len p f j l M hl,hfold,q2,q3,by simp [he1],by simp [he1]⟩
  ·have hil:i=ks.length:=by omega
   rw [hil,List.drop_length] at hfold
   have hfold:l=ks.foldl (fun l k=>treeN p f k.toNat l M) (es++[(e':Int)]):=hfold
   simp [a30_0,g9,g10,he1,hi,ints_length]
   refine kx _ _ _ _ nofun fun hs'=>?_
   simp [he1,g2]
   exact hK _ _ _ _ (.inl rfl) ⟨hfold▸hv2,hf2⟩ ⟨_,rfl,by simp [he1]⟩
theorem great8_call {p:Pg} (hp:p.Ok) {st:St} (hst:StOk st):runL A (.call 14 [p.av]) st=some ⟨.ret,⟨[.bool (great8 p)],[]⟩,st⟩:=by
 have h29:=great_call hp hst
 have h51:=may4_call hp hst
 have hxs:=hp.xs
 simp only [Pg.av] at h29 h51
 refine (task_of_aw (N:=21) prim14 fn14 rfl rfl hst ?_).1
 intro e he ha K hK
 have a0:=ha 0
 clear ha
 simp [Pg.av] at a0
 cases hg:greatF p with
 | true =>
  rw [hg] at h29
  simp [a14,he,a0,h29]
  exact hK _ _ _ (.inl rfl) (by simp) ⟨_,rfl,by simp [he,great8,hg]⟩
 | false =>
 rw [hg] at h29
 cases hm:may4 p with
 | false =>
  rw [hm] at h51
  simp [a14,he,a0,h29,h51]
  exact hK _ _ _ (.inl rfl) (by simp) ⟨_,rfl,by simp [he,great8,hg,hm]⟩
 | true =>
 rw [hm] at h51
 have hA:=ahead_of hm
 have hb8:great8 p=bigF p 0 p.xs.length:=by simp [great8,hg,hm]
 rw [hb8] at hK
 simp [a14,he,a0,h29,h51]
 refine aw_loop (W:=w14_0) rfl (fun m e ds s=>ds=[]∧∃i:Nat,i+m=p.xs.length∧bigF p i m=bigF p 0 p.xs.length∧Fit st s∧AX.ev e (.t 3)=.int .i64 i) p.xs.length
  ⟨rfl,0,by simp,rfl,.refl hst,by simp [he]⟩ ?_
 rintro m e1 ds s hs ⟨rfl,i,hm1,hbig,hf,g3⟩ K1 kn kx
 have he1:e1.length=21:=by simp [hs.1,he]
 have g1:=hs.ev 1 rfl (v:=.iptr p.av) (by simp [he,a0,Pg.av])
 simp only [Pg.av] at g1
 by_cases hi:i<p.xs.length
 ·obtain ⟨m,rfl⟩:∃k,m=k+1:=⟨m-1,by omega⟩
  obtain ⟨v',s',q1,q2,q3⟩:=tree_call hp hA (st:=st) (M:=400) (by omega) p.xs.length i hi hi [] (.lst 1 [] .tight) s (by simp) hf .nil
  obtain ⟨o,rfl⟩:=q2.eq
  simp only [Pg.av] at q1
  rw [bigF] at hbig
  generalize treeN p p.xs.length i [] 400=T at *
  have w1:IntKind.i64.wrap ((i:Int)+1)=(i:Int)+1:=wrap_i64 (by omega) (by omega)
  by_cases hb:400≤T.length
  ·have hb':(400:Int)≤(T.length:Int):=by omega
   simp at q1
   simp [a14_0,g1,g3,he1,hi,q1,ints_length,hb']
   refine kx _ _ _ _ nofun fun hs'=>?_
   simp
   exact hK _ _ _ (.inl rfl) q3.take ⟨_,rfl,by rw [←hbig];simp [he1,hb]⟩
  ·have hb':¬(400:Int)≤(T.length:Int):=by omega
   simp at q1
   simp [hb] at hbig
   simp [a14_0,g1,g3,he1,hi,q1,ints_length,hb',w1]
   exact kn m _ _ _ (by omega) ⟨rfl,i+1,by omega,hbig,q3,by simp [he1]⟩
 ·have hm0:m=0:=by omega
  subst hm0
  rw [bigF] at hbig
  simp [a14_0,g1,g3,he1,hi]
  refine kx _ _ _ _ nofun fun hs'=>?_
  simp [he1]
  exact hK _ _ _ (.inl rfl) hf.take ⟨_,rfl,by rw [←hbig];simp [he1]⟩
end Go.Proofs.YtgkhmmlemgikjaaGreatDoor
namespace Go.Proofs.YtgkhmmlemgikjaaGreatDoor
open Go Ai
def nodesN (p:Pg):Nat→Nat→Nat
 | 0,_=>0
 | f+1,e=>1+((partsF (p.xs.getD e ex0)).map fun k=>nodesN p f k.toNat).sum
theorem treeN_nodes (p:Pg):∀(f e:Nat) (l:List Int) (m:Nat),l.length≤m→(treeN p f e l m).length=min m (l.length+nodesN p f e)
 | 0,_,l,m,h=>by simp only [treeN,nodesN];omega
 | f+1,e,l,m,h=>by
  rw [treeN,nodesN]
  split
  ·omega
  ·have:∀(ks:List Int) (l:List Int),l.length≤m→(ks.foldl (fun l k=>treeN p f k.toNat l m) l).length=min m (l.length+(ks.map fun k=>nodesN p f k.toNat).sum):=by
    intro ks
    induction ks with
    | nil=>intro l h;simp;omega
    | cons k ks ih =>
     intro l h
     have h1:=treeN_nodes p f k.toNat l m h
     have h2:=ih (treeN p f k.toNat l m) (by omega)
     simp only [List.foldl_cons,List.map_cons,List.sum_cons]
     rw [h2,h1];omega
   rw [this _ _ (by simp;omega)]
   simp;omega
theorem trim0_le (l:Sx):(trim0 l).length≤l.length:=by
 unfold trim0 Lib.trimRightB
 rw [List.length_reverse]
 exact Nat.le_trans (List.dropWhile_sublist _).length_le (by simp)
theorem short_len {q:Int} (h0:-9223372036854775808≤q) (h1:q≤9223372036854775807):(shortF q 32).length≤54:=by
 have h2:=dec_len (q.natAbs / 4294967296) (by omega)
 have h3:=trim0_le (fr 32 (q.natAbs % 4294967296))
 rw [fr_length] at h3
 unfold shortF
 simp only []
 split<;>split<;>simp<;>omega
theorem args_len {E:Int→Int→Sx} {g:Int→Nat}:∀(l:List Int),(∀c∈l,(E c 0).length+2≤g c)→(argsT E l).length≤(l.map g).sum
 | [],_=>by simp [argsT]
 | a::l,h=>by
  have h1:=h a (by simp)
  have:∀l:List Int,(∀c∈l,(E c 0).length+2≤g c)→(l.flatMap fun b=>[44,32]++E b 0).length≤(l.map g).sum:=by
   intro l
   induction l with
   | nil=>intro _;simp
   | cons b l ih =>
    intro h
    have h2:=h b (by simp)
    have h3:=ih fun c hc=>h c (by simp [hc])
    simp only [List.flatMap_cons,List.map_cons,List.sum_cons,List.length_append,List.length_cons,List.length_nil] at h3 ⊢
    omega
  have h2:=this l fun c hc=>h c (by simp [hc])
  simp only [argsT,List.length_append,List.map_cons,List.sum_cons]
  omega
theorem sum_mul (C:Nat) (g:Int→Nat):∀l:List Int,(l.map fun k=>C * g k).sum=C * (l.map g).sum
 | []=>by simp
 | a::l=>by simp only [List.map_cons,List.sum_cons,sum_mul C g l,Nat.mul_add]
theorem sign_len (k:Int):(signF k).length≤3:=by
 unfold signF
 repeat' split
 all_goals decide
theorem pref_len (k:Int):(prefF k).length≤5:=by
 unfold prefF
 repeat' split
 all_goals decide
theorem sh_len {p:Pg} (h:Told p) {B C:Nat} (hC:C=2 * B+100) (hB:∀x∈p.xs,x.n.length≤B∧x.s.length≤B):∀(f a:Nat),a<f→a<p.xs.length→∀w:Int,(shE p.xs f a w).length+2≤C * nodesN p f a
 | 0,_,h,_,_=>by omega
 | f+1,a,hn,ha',w=>by
  obtain ⟨x,hx⟩:∃x,x=p.xs[a]:=⟨_,rfl⟩
  have hvx:=h.v x (by rw [hx];exact List.getElem_mem ha')
  have hbx:=hB x (by rw [hx];exact List.getElem_mem ha')
  have hone:=ones_get p.xs 0 a ha' h.ones
  rw [←hx,Nat.zero_add] at hone
  have hpt:=one_parts hone
  have hk:1≤x.k∧x.k≤21:=by unfold oneF at hone;simp only [Bool.and_eq_true,decide_eq_true_eq] at hone;exact hone.1.1.1.1.1
  have hg:p.xs.getD (a:Int).toNat zEx=x:=by simp [List.getD_eq_getElem?_getD,ha',hx]
  have hg2:p.xs.getD a ex0=x:=by simp [List.getD_eq_getElem?_getD,ha',hx]
  have IH:∀c∈partsF x,∀w,(shE p.xs f c w).length+2≤C * nodesN p f c.toNat:=fun c hc w=>by
   obtain ⟨h1,h2⟩:=hpt c hc
   obtain ⟨b,rfl⟩:∃b:Nat,c=b:=⟨c.toNat,by omega⟩
   exact sh_len h hC hB f b (by omega) (by omega) w
  rw [shE,hg,nodesN,hg2,Nat.mul_add,Nat.mul_one]
  have key:(ownF (shE p.xs f) x).length+4≤C+C * ((partsF x).map fun k=>nodesN p f k.toNat).sum:=by
   generalize shE p.xs f=E at *
   have hl:4≤C:=by omega
   rcases kinds21 hk.1 hk.2 with h | h | h | h | h | h | h | h | h | h | h | h | h | h | h | h | h | h | h | h | h
   case inl=>have:=short_len hvx.1 hvx.2;simp only [ownF,h,if_true];omega
   case inr.inl=>simp only [ownF,h];simp;split<;>simp<;>omega
   case inr.inr.inl=>simp only [ownF,h];simp;omega
   case inr.inr.inr.inr.inr.inr.inr.inr.inr.inr.inr.inr.inr.inr.inr.inr.inr.inr.inl =>
    have e2:partsF x=x.args:=by simp [partsF,manyF,h]
    rw [e2] at IH ⊢
    have:=args_len (E:=E) (g:=fun k=>C * nodesN p f k.toNat) x.args (fun c hc=>IH c hc 0)
    rw [sum_mul] at this
    have e1:ownF E x=(x.n++[40])++(argsT E x.args++[41]):=by simp [ownF,h]
    rw [e1]
    simp only [List.length_append,List.length_cons,List.length_nil]
    omega
   case inr.inr.inr.inr.inr.inr.inr.inr.inr.inr.inr.inr.inr.inr.inr.inr.inr.inr.inr.inl=>simp only [ownF,h];simp;omega
   case inr.inr.inr.inr.inr.inr.inr.inr.inr.inr.inr.inr.inr.inr.inl =>
    have e1:ownF E x=[105,102,32]++(E x.a 0++([32,116,104,101,110,32]++(E x.b 0++([32,101,108,115,101,32]++E x.c 0)))):=by simp [ownF,h]
    have e2:partsF x=[x.a,x.b,x.c]:=by simp [partsF,manyF,h]
    rw [e2] at IH ⊢
    have i1:=IH x.a (by simp) 0
    have i2:=IH x.b (by simp) 0
    have i3:=IH x.c (by simp) 0
    rw [e1]
    simp only [List.length_append,List.length_cons,List.length_nil,List.map_cons,List.map_nil,List.sum_cons,List.sum_nil,Nat.mul_add]
    omega
   all_goals first
    | (have hk2 : x.k = 4 ∨ x.k = 5 ∨ x.k = 16 ∨ x.k = 21 := by omega
       obtain ⟨_,_,n3⟩:=one_find hk2
       obtain ⟨e1,e2⟩:=n3 E x rfl
       rw [e2] at IH ⊢
       have i1:=IH x.a (by simp) 6
       have:=pref_len x.k
       rw [e1]
       simp only [List.length_append,List.map_cons,List.map_nil,List.sum_cons,List.sum_nil,Nat.mul_add]
       omega)
    | (obtain ⟨_, _, n3⟩ := two_find (k := x.k) (by omega)
       obtain ⟨e1,e2⟩:=n3 E x rfl
       rw [e2] at IH ⊢
       have i1:=IH x.a (by simp) (oneW x.k)
       have i2:=IH x.b (by simp) (nextW x.k)
       have:=sign_len x.k
       rw [e1]
       simp only [List.length_append,List.length_cons,List.length_nil,List.map_cons,List.map_nil,List.sum_cons,List.sum_nil,Nat.mul_add]
       omega)
  split
  ·simp only [List.length_append,List.length_cons,List.length_nil];omega
  ·omega
end Go.Proofs.YtgkhmmlemgikjaaGreatDoor
namespace Go.Proofs.YtgkhmmlemgikjaaGreatDoor
open Go Ai
theorem big_no {p:Pg}:∀(m i:Nat),bigF p i m=false→∀j<m,nodesN p p.xs.length (i+j)<400
 | 0,_,_,j,h=>by omega
 | m+1,i,hb,j,h=>by
  rw [bigF,Bool.or_eq_false_iff] at hb
  cases j with
  | zero =>
   have h1:¬400≤(treeN p p.xs.length i [] 400).length:=by simpa using hb.1
   have h2:=treeN_nodes p p.xs.length i [] 400 (by simp)
   simp at h2;simp;omega
  | succ j =>
   have:=big_no m (i+1) hb.2 j (by omega)
   rw [show i+(j+1)=i+1+j by omega];exact this
theorem sum_mem {α:Type} {f:α→Nat} {l:List α} {x:α} (h:x∈l):f x≤(l.map f).sum:=by
 induction l with
 | nil=>cases h
 | cons a l ih =>
  simp only [List.map_cons,List.sum_cons]
  rcases List.mem_cons.1 h with rfl | h
  ·omega
  ·have:=ih h;omega
structure Mild (p:Pg):Prop where
 n:∀x∈p.xs,x.n.length≤60100∧x.s.length≤60100
 e:∀a<p.xs.length,nodesN p p.xs.length a<400
 d:p.ds.length≤60
 g:(p.ds.map gD).sum≤600
theorem mild_of {p:Pg} (hm:may4 p=true) (h:great8 p=false):Mild p:=by
 unfold great8 at h
 rw [Bool.or_eq_false_iff] at h
 obtain ⟨h1,h2⟩:=h
 rw [hm,Bool.true_and] at h2
 unfold greatF at h1
 simp only [Bool.or_eq_false_iff,decide_eq_false_iff_not] at h1
 refine ⟨fun x hx=>?_,fun a ha=>?_,by omega,by omega⟩
 ·have h4:gX x≤(p.xs.map gX).sum:=sum_mem hx
  have h5:gX x=x.args.length+x.n.length / 100+x.s.length / 100:=rfl
  omega
 ·have:=big_no p.xs.length 0 h2 a ha
  rwa [Nat.zero_add] at this
theorem ex_len {p:Pg} (h:Told p) (m:Mild p) {a:Nat} (ha:a<p.xs.length) (w:Int):(exT p a w).length≤48120000:=by
 have h1:=sh_len h (B:=60100) (C:=120300) rfl m.n p.xs.length a ha ha w
 have h2:=m.e a ha
 have h3:120300 * nodesN p p.xs.length a≤120300 * 400:=Nat.mul_le_mul_left _ (by omega)
 unfold exT;omega
theorem flat_le {α:Type} {f:α→Sx} {g:α→Nat} {M:Nat}:∀{l:List α},(∀x∈l,(f x).length≤M * g x)→(l.flatMap f).length≤M * (l.map g).sum
 | [],_=>by simp
 | a::l,h=>by
  have h1:=h a (by simp)
  have h2:=flat_le (l:=l) fun x hx=>h x (by simp [hx])
  simp only [List.flatMap_cons,List.length_append,List.map_cons,List.sum_cons,Nat.mul_add]
  omega
structure Short (d:Dc):Prop where
 n:d.n.length≤1048576
 p:∀x∈d.ps,x.n.length≤1048576
 i:∀x∈d.its,x.n.length≤1048576∧x.s.length≤1048576∧x.x.length≤1048576∧∀s∈x.ss,s.length≤1048576
theorem ones_sum {α:Type}:∀l:List α,(l.map fun _=>1).sum=l.length
 | []=>rfl
 | a::l=>by rw [List.map_cons,List.sum_cons,ones_sum l,List.length_cons];omega
theorem type_len (t:Int):(typeT t).length≤4:=by
 unfold typeT
 repeat' split
 all_goals decide
theorem join_le {l:List Sx} (h:∀s∈l,s.length≤1048576):(Lib.join l [44,32]).length≤1048578 * l.length:=by
 cases l with
 | nil=>simp [Lib.join_nil]
 | cons a l =>
  have h1:=h a (by simp)
  have h2:=flat_le (f:=fun s:Sx=>[44,32]++s) (g:=fun _=>1) (M:=1048578) (l:=l) fun s hs=>by
   have:=h s (by simp [hs]);simp;omega
  have h3:(l.map fun _=>1).sum=l.length:=ones_sum l
  rw [h3] at h2
  rw [Lib.join_cons,List.length_append,List.length_cons,Lib.joinTail]
  have h4:(l.map ([44,32]++·)).flatten=l.flatMap fun s:Sx=>[44,32]++s:=by simp [List.flatMap]
  rw [h4];omega
theorem pms_len {l:List Pm} (h:∀x∈l,x.n.length≤1048576):(pmsT l).length≤1048584 * l.length:=by
 cases l with
 | nil=>simp [pmsT]
 | cons a l =>
  have h1:=h a (by simp)
  have t1:=type_len a.t
  have h2:=flat_le (f:=fun b:Pm=>[44,32]++pmT b) (g:=fun _=>1) (M:=1048584) (l:=l) fun s hs=>by
   have:=h s (by simp [hs])
   have:=type_len s.t
   simp [pmT];omega
  have h3:(l.map fun _=>1).sum=l.length:=ones_sum l
  rw [h3] at h2
  simp only [pmsT,List.length_append,List.length_cons,pmT] at h2 ⊢
  simp only [List.length_nil]
  omega
theorem item_len {E:Int→Sx} {x:It} (hE:hasE x.k=true→(E x.e).length≤48120000) (hF:hasF x.k=true→(E x.f).length≤48120000) (h1:1≤x.k) (h8:x.k≤8) (hs:x.n.length≤1048576∧x.s.length≤1048576∧x.x.length≤1048576∧∀s∈x.ss,s.length≤1048576):(itemT E x).length≤100000000 * gI x:=by
 have hj:=join_le hs.2.2.2
 have ht:=type_len x.t
 have hk:x.k=1∨x.k=2∨x.k=3∨x.k=4∨x.k=5∨x.k=6∨x.k=7∨x.k=8:=by omega
 unfold gI
 rcases hk with h | h | h | h | h | h | h | h<;>simp [hasE,h] at hE<;>simp [hasF,h] at hF<;>simp [itemT,itemB,h]<;>omega
theorem decl_len {E:Int→Sx} {d:Dc} (hd:Short d) (hg:gD d≤600) (hE:d.k=1∨d.k=2→(E d.e).length≤48120000) (hI:∀x∈d.its,(itemT E x).length≤100000000 * gI x):(declT E d).length≤200000000 * (1+gD d):=by
 have h1:=pms_len hd.p
 have h2:=flat_le hI
 have ht:=type_len d.t
 have hn:=hd.n
 have hlt:d.its.length<1000:=by
  refine Classical.byContradiction fun hn=>?_
  have:1000≤((d.its.take 1000).map gI).sum:=by
   have h3:∀l:List It,l.length≤(l.map gI).sum:=by
    intro l
    induction l with
    | nil=>simp
    | cons a l ih=>simp only [List.map_cons,List.sum_cons,List.length_cons,gI] at ih ⊢;omega
   have:=h3 (d.its.take 1000)
   rw [List.length_take] at this;omega
  unfold gD at hg;omega
 have htk:d.its.take 1000=d.its:=List.take_of_length_le (by omega)
 unfold gD at hg ⊢
 rw [htk] at hg ⊢
 generalize (d.its.map gI).sum=N at *
 by_cases k1:d.k=1
 ·have:=hE (.inl k1)
  simp [declT,k1];omega
 ·by_cases k2:d.k=2
  ·have:=hE (.inr k2)
   simp [declT,k2,-List.length_flatMap];omega
  ·simp [declT,k1,k2,-List.length_flatMap];omega
theorem prog_len {p:Pg} (h:Told p) (m:Mild p) (hk:Kinds p) (hs:∀d∈p.ds,Short d):(progT p).length≤Ai.great:=by
 have pe:∀(e:Int) (b:Bool),pointsF p.xs.length e b=true→b=true→(exT p e 0).length≤48120000:=fun e b h1 h2=>by
  obtain ⟨k,rfl,h3⟩:=points_of h1 h2
  exact ex_len h m h3 0
 have h1:=flat_le (f:=declT fun e=>exT p e 0) (g:=fun d=>1+gD d) (M:=200000000) (l:=p.ds) fun d hd=>by
  have hR:=h.dec hd
  unfold declR at hR
  obtain ⟨r1,r2⟩:=Bool.and_eq_true_iff.1 hR
  have hg:=sum_mem (f:=gD) hd
  have hgg:=m.g
  refine decl_len (hs d hd) (by omega) (fun h12=>pe _ _ r1 (by simpa using h12)) fun x hx=>?_
  have r3:=List.all_eq_true.1 r2 x hx
  unfold itemR at r3
  obtain ⟨r4,r5⟩:=Bool.and_eq_true_iff.1 r3
  exact item_len (fun hh=>pe _ _ r4 hh) (fun hh=>pe _ _ r5 hh) ((hk d hd).2 x hx).1 ((hk d hd).2 x hx).2 ((hs d hd).i x hx)
 have h2:(p.ds.map fun d=>1+gD d).sum=p.ds.length+(p.ds.map gD).sum:=by
  generalize p.ds=l
  induction l with
  | nil=>rfl
  | cons a l ih=>simp only [List.map_cons,List.sum_cons,List.length_cons,ih];omega
 rw [h2] at h1
 have:=m.d
 have:=m.g
 unfold progT Ai.great
 omega
end Go.Proofs.YtgkhmmlemgikjaaGreatDoor
namespace Go.Proofs.YtgkhmmlemgikjaaGreatDoor
open Go Ai
theorem fn3:A.fn 3=some a3:=by kernel_rfl
theorem prim3:A.prim 3=none:=by kernel_rfl
def w3_0:List Nat:=a3_0.writes
def w3_1:List Nat:=a3_1.writes
theorem fn13:A.fn 13=some a13:=by kernel_rfl
theorem prim13:A.prim 13=none:=by kernel_rfl
def shS:Sx:=[40,49,43,50,41,42,45,120]
def shT:Sx:=[40,49,32,43,32,50,41,32,42,32,45,120]
theorem shS_ok:(match parseF shS true with | (p,e,c,_)=>decide (c=0) && decide (e=5) && decide (p.xs.length=6) && decide (exT p 5 0=shT) && p.xs.all (fun x=>decide (-9223372036854775808≤x.v) && decide (x.v≤9223372036854775807)))=true:=by kernel_rfl
theorem alive13 {st:St} (hst:StOk st):runL A (.call 13 []) st=some ⟨.ret,⟨[.bool true],[]⟩,st⟩:=by
 have cc:=parse_call (s:=shS) (by decide) true hst
 have h:=shS_ok
 have hok:=(parse_ok shS true).1
 have hmay:=parse_may shS true
 obtain ⟨P,hP⟩:∃P,P=parseF shS true:=⟨_,rfl⟩
 rw [←hP] at cc h hok hmay
 obtain ⟨p,e0,c,b⟩:=P
 simp only [Bool.and_eq_true,decide_eq_true_eq,List.all_eq_true] at h
 obtain ⟨⟨⟨⟨hc,he0⟩,hl⟩,ht⟩,hv⟩:=h
 have T:Told p:=⟨hok,hmay,hv⟩
 have c2:=show16 T (a:=5) (by omega) (by rw [show ((5:Nat):Int)=5 from rfl,ht];decide) hst
 rw [show ((5:Nat):Int)=5 from rfl,ht] at c2
 subst hc;subst he0
 simp only [shS,shT,Pg.av] at cc c2
 refine (task_of_aw (N:=18) prim13 fn13 rfl rfl hst ?_).1
 intro e he ha K hK
 simp [a13,he,cc,c2]
 exact hK _ _ _ (.inl rfl) (by simp) ⟨_,rfl,by simp [he,AV.still]⟩
theorem its3 {d:Dc} (hd:d.Ok) {p:Pg} {j:Nat} (hj:j<p.ds.length) (hdj:(p.ds.map Dc.av)[j]'(by simpa using hj)=.agg d.cs) {st:St} {e:Env} (he:e.length=106) (a2:AX.ev e (.t 2)=.iptr p.av) (a5:AX.ev e (.t 5)=.int .i64 j) (a6:AX.ev e (.t 6)=.int .i64 0) {K:PostQ}
  (hR:∀e2,e2.length=106→AX.ev e2 (.t 4)=.bool true→K .ret e2 [] st) (hK:(∀x∈d.its,1≤x.k∧x.k≤8)→∀e2,Same w3_0 e e2→K (.exit 2) e2 [] st):AW A 3 none (.loop a3_0) e [] st K:=by
 have hits:=hd.its
 refine aw_loop (W:=w3_0) rfl (fun m e ds st'=>ds=[]∧st'=st∧∃i:Nat,i+m=d.its.length∧(∀k (h:k<d.its.length),k<i→1≤d.its[k].k∧d.its[k].k≤8)∧AX.ev e (.t 6)=.int .i64 i) d.its.length
  ⟨rfl,rfl,0,by simp,fun k h h2=>by omega,by simp [a6]⟩ ?_
 rintro m e1 ds st' hs ⟨rfl,rfl,i,hm,hall,g6⟩ K1 kn kx
 have he1:e1.length=106:=by simp [hs.1,he]
 have g2:=hs.ev 2 rfl a2
 have g5:=hs.ev 5 rfl a5
 simp only [Pg.av] at g2
 simp only [Dc.cs] at hdj
 by_cases hi:i<d.its.length
 ·obtain ⟨x,hx⟩:∃x,x=d.its[i]:=⟨_,rfl⟩
  have hg:=itW_get hi
  rw [←hx] at hg
  simp only [It.cs] at hg
  have w1:IntKind.i64.wrap ((i:Int)+1)=(i:Int)+1:=wrap_i64 (by omega) (by omega)
  by_cases h1:x.k<1
  ·simp [a3_0,g2,g5,g6,he1,hj,hdj,hi,hg,h1,Ai.beq_refl]
   refine kx _ _ _ _ nofun fun hs'=>?_
   exact hR _ (by simp [he1]) (by simp [he1])
  ·by_cases h8:8<x.k
   ·simp [a3_0,g2,g5,g6,he1,hj,hdj,hi,hg,h1,h8,Ai.beq_refl]
    refine kx _ _ _ _ nofun fun hs'=>?_
    exact hR _ (by simp [he1]) (by simp [he1])
   ·simp [a3_0,g2,g5,g6,he1,hj,hdj,hi,hg,h1,h8,w1,Ai.beq_refl]
    refine kn (m-1) _ _ _ (by omega) ⟨rfl,rfl,i+1,by omega,fun k h h2=>?_,by simp [he1]⟩
    rcases Nat.lt_or_ge k i with h3 | h3
    ·exact hall k h h3
    ·obtain rfl:k=i:=by omega
     rw [←hx];omega
 ·obtain rfl:i=d.its.length:=by omega
  simp [a3_0,g2,g5,g6,he1,hj,hdj,Ai.beq_refl]
  refine kx _ _ _ _ nofun fun hs'=>hK (fun x hx=>?_) _ hs'
  obtain ⟨k,hk,rfl⟩:=List.getElem_of_mem hx
  exact hall k hk hk
set_option maxHeartbeats 2000000 in
theorem law3_run {p:Pg} (hp:p.Ok) (hv:∀x∈p.xs,-9223372036854775808≤x.v∧x.v≤9223372036854775807) (hs:∀d∈p.ds,Short d) (t:Int):runL A (.seqc 3 [p.av,.int .i64 t]) []=some ⟨.ret,⟨[.bool true],[]⟩,[]⟩:=by
 have hst:StOk []:=StOk.nil
 have c1:=alive13 hst
 have c2:=great8_call hp hst
 have c3:=may4_call hp hst
 have hds:=hp.ds
 cases hg:great8 p with
 | true =>
  rw [hg] at c2
  refine (task_of_aw (N:=106) prim3 fn3 rfl rfl StOk.nil ?_).2
  intro e he ha K hK
  have a0:=ha 0
  have a1:=ha 1
  clear ha
  simp at a0 a1
  simp only [Pg.av] at a0 c2
  simp [a3,he,a0,c1,c2,Ai.beq_refl]
  exact hK _ _ _ (.inl rfl) (by simp) ⟨_,rfl,by simp [he,AV.still]⟩
 | false =>
 rw [hg] at c2
 cases hm:may4 p with
 | false =>
  rw [hm] at c3
  have c4:=show16_no (a:=t) hp (.inl hm) hst
  have c5:=show17_no hp hm hst
  refine (task_of_aw (N:=106) prim3 fn3 rfl rfl StOk.nil ?_).2
  intro e he ha K hK
  have a0:=ha 0
  have a1:=ha 1
  clear ha
  simp at a0 a1
  simp only [Pg.av] at a0 c2 c3 c4 c5
  simp [a3,he,a0,a1,c1,c2,c3,c4,c5,Ai.beq_refl]
  exact hK _ _ _ (.inl rfl) (by simp) ⟨_,rfl,by simp [he,AV.still]⟩
 | true =>
 rw [hm] at c3
 have T:Told p:=⟨hp,hm,hv⟩
 have M:=mild_of hm hg
 refine (task_of_aw (N:=106) prim3 fn3 rfl rfl StOk.nil ?_).2
 intro e he ha K hK
 have a0:=ha 0
 have a1:=ha 1
 clear ha
 simp at a0 a1
 simp only [Pg.av] at a0 c2 c3
 simp [a3,he,a0,c1,c2,c3,Ai.beq_refl]
 refine aw_loop (W:=w3_1) rfl (fun m e ds st'=>ds=[]∧st'=[]∧∃i:Nat,i+m=p.ds.length∧(∀k (h:k<p.ds.length),k<i→(p.ds[k].k=1∨p.ds[k].k=2∨p.ds[k].k=3)∧∀x∈p.ds[k].its,1≤x.k∧x.k≤8)∧AX.ev e (.t 5)=.int .i64 i) p.ds.length
  ⟨rfl,rfl,0,by simp,fun k h h2=>by omega,by simp [he]⟩ ?_
 rintro m e1 ds st' hsm ⟨rfl,rfl,i,hmi,hall,g5⟩ K1 kn kx
 have he1:e1.length=106:=by simp [hsm.1,he]
 have g2:=hsm.ev 2 rfl (v:=.iptr p.av) (by simp [he,Pg.av])
 have g1:=hsm.ev 1 rfl (v:=.int .i64 t) (by simp [he,a1])
 have g2':=g2
 simp only [Pg.av] at g2
 by_cases hi:i<p.ds.length
 ·obtain ⟨d,hd⟩:∃d,d=p.ds[i]:=⟨_,rfl⟩
  have hgd:(p.ds.map Dc.av)[i]'(by simpa using hi)=.agg d.cs:=by rw [ds_get hi,hd]
  have hgd':=hgd
  have hok:d.Ok:=by rw [hd];exact hp.dc _ (List.getElem_mem hi)
  simp only [Dc.cs] at hgd
  have w1:IntKind.i64.wrap ((i:Int)+1)=(i:Int)+1:=wrap_i64 (by omega) (by omega)
  by_cases h1:d.k<1
  ·simp [a3_1,g2,g5,he1,hi,hgd,h1,Ai.beq_refl]
   refine kx _ _ _ _ nofun fun hs'=>?_
   exact hK _ _ _ (.inl rfl) (by simp) ⟨_,rfl,by simp [he1,AV.still]⟩
  ·by_cases h3:3<d.k
   ·simp [a3_1,g2,g5,he1,hi,hgd,h1,h3,Ai.beq_refl]
    refine kx _ _ _ _ nofun fun hs'=>?_
    exact hK _ _ _ (.inl rfl) (by simp) ⟨_,rfl,by simp [he1,AV.still]⟩
   ·simp [a3_1,g2,g5,he1,hi,hgd,h1,h3,Ai.beq_refl]
    refine its3 hok hi hgd' (by simp [he1]) (by simp [he1,g2,Pg.av]) (by simp [he1,g5]) (by simp [he1]) (fun e2 he2 h4=>?_) fun hits e2 hs2=>?_
    ·refine kx _ _ _ _ nofun fun hs'=>?_
     exact hK _ _ _ (.inl rfl) (by simp) ⟨[.bool true],by simp [a3,resultsA,h4],by simp [oneOf,AV.still]⟩
    ·have he2:e2.length=106:=by simp [hs2.1,he1]
     have k5:=hs2.ev 5 rfl (v:=.int .i64 i) (by simp [he1,g5])
     simp [he2,k5,w1]
     refine kn (m-1) _ _ _ (by omega) ⟨rfl,rfl,i+1,by omega,fun k h h2=>?_,by simp [he2]⟩
     rcases Nat.lt_or_ge k i with h5 | h5
     ·exact hall k h h5
     ·obtain rfl:k=i:=by omega
      rw [←hd];exact ⟨by omega,hits⟩
 ·obtain rfl:i=p.ds.length:=by omega
  have KD:Kinds p:=fun d hd=>by
   obtain ⟨k,hk,rfl⟩:=List.getElem_of_mem hd
   exact hall k hk hk
  have hpl:=prog_len T M KD hs
  have c6:=show17 T KD hpl hst
  have c7:=rProg T KD hpl hst
  simp only [Pg.av] at c6 c7
  simp [a3_1,g2,g5,he1,Ai.beq_refl]
  refine kx _ _ _ _ nofun fun hs'=>?_
  by_cases h0:t<0
  ·have c8:=show16_no (a:=t) hp (.inr (.inl h0)) hst
   simp only [Pg.av] at c8
   simp [he1,g1,g2,c6,c7,h0,c8,Ai.beq_refl]
   exact hK _ _ _ (.inl rfl) (by simp) ⟨_,rfl,by simp [he1,AV.still]⟩
  ·by_cases hn:(p.xs.length:Int)≤t
   ·have c8:=show16_no (a:=t) hp (.inr (.inr hn)) hst
    simp only [Pg.av] at c8
    simp [he1,g1,g2,c6,c7,h0,hn,c8,Ai.beq_refl]
    exact hK _ _ _ (.inl rfl) (by simp) ⟨_,rfl,by simp [he1,AV.still]⟩
   ·obtain ⟨a,rfl⟩:∃a:Nat,t=a:=⟨t.toNat,by omega⟩
    have hel:=ex_len T M (a:=a) (by omega) 0
    have c8:=show16 T (a:=a) (by omega) (by unfold Ai.great;omega) hst
    have c9:=expr19 T hst p.xs.length a (by omega) (by omega) 0 (by unfold exT at hel;unfold Ai.great;omega)
    change runL A (.call 19 [p.av,.int .i64 a,.int .i64 0]) []=some ⟨.ret,⟨[.str (exT p a 0)],[]⟩,[]⟩ at c9
    simp only [Pg.av] at c8 c9
    have hn':¬p.xs.length≤a:=by omega
    simp [he1,g1,g2,c6,c7,hn',c8,c9,Ai.beq_refl]
    exact hK _ _ _ (.inl rfl) (by simp) ⟨_,rfl,by simp [he1,AV.still]⟩
end Go.Proofs.YtgkhmmlemgikjaaGreatDoor
