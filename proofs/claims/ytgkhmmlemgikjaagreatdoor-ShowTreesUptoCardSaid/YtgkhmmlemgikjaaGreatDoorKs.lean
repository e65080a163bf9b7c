/- Part Ks. No condition. -/
import Derived.Test.YtgkhmmlemgikjaaGreatDoorKr
set_option linter.unusedVariables false
set_option linter.unusedSimpArgs false
namespace Go.Proofs.YtgkhmmlemgikjaaGreatDoor
open Go Ai
theorem fn40:A.fn 40=some a40:=by kernel_rfl
theorem prim40:A.prim 40=none:=by kernel_rfl
theorem fn68:A.fn 68=some a68:=by kernel_rfl
theorem prim68:A.prim 68=none:=by kernel_rfl
theorem fn38:A.fn 38=some a38:=by kernel_rfl
theorem prim38:A.prim 38=none:=by kernel_rfl
theorem fn41:A.fn 41=some a41:=by kernel_rfl
theorem prim41:A.prim 41=none:=by kernel_rfl
def w41_0:List Nat:=a41_0.writes
theorem fn19:A.fn 19=some a19:=by kernel_rfl
theorem prim19:A.prim 19=none:=by kernel_rfl
set_option maxHeartbeats 1000000 in
theorem rTight {k:Int} (h0:1≤k) (h1:k≤21) {st:St} (hst:StOk st):runL A (.call 40 [.int .i64 k]) st=some ⟨.ret,⟨[.int .i64 (tightF k)],[]⟩,st⟩:=by
 refine (task_of_aw (N:=27) prim40 fn40 rfl rfl hst ?_).1
 intro e he ha K hK
 have a0:=ha 0
 clear ha
 simp at a0
 rcases kinds21 h0 h1 with h | h | h | h | h | h | h | h | h | h | h | h | h | h | h | h | h | h | h | h | h<;>subst h <;>
  simp [a40,he,a0] <;>
  exact hK _ _ _ (.inl rfl) (by simp) ⟨_,rfl,by simp [he,tightF,AV.still]⟩
theorem rSign {k:Int} (hk:k=6∨k=7∨k=8∨k=9∨k=10∨k=11∨k=12∨k=13∨k=14∨k=17∨k=18) {st:St} (hst:StOk st):runL A (.call 68 [.int .i64 k]) st=some ⟨.ret,⟨[.str (signF k)],[]⟩,st⟩:=by
 refine (task_of_aw (N:=24) prim68 fn68 rfl rfl hst ?_).1
 intro e he ha K hK
 have a0:=ha 0
 clear ha
 simp at a0
 rcases hk with h | h | h | h | h | h | h | h | h | h | h<;>subst h <;>
  simp [a68,he,a0] <;>
  exact hK _ _ _ (.inl rfl) (by simp) ⟨_,rfl,by simp [he,signF,AV.still]⟩
theorem rType {t:Int} {st:St} (hst:StOk st):runL A (.call 38 [.int .i64 t]) st=some ⟨.ret,⟨[.str (typeT t)],[]⟩,st⟩:=by
 refine (task_of_aw (N:=7) prim38 fn38 rfl rfl hst ?_).1
 intro e he ha K hK
 have a0:=ha 0
 clear ha
 simp at a0
 by_cases h1:t=1
 ·simp [a38,he,a0,h1]
  exact hK _ _ _ (.inl rfl) (by simp) ⟨_,rfl,by simp [he,typeT,h1,AV.still]⟩
 ·by_cases h2:t=2
  ·simp [a38,he,a0,h2]
   exact hK _ _ _ (.inl rfl) (by simp) ⟨_,rfl,by simp [he,typeT,h2,AV.still]⟩
  ·simp [a38,he,a0,h1,h2]
   exact hK _ _ _ (.inl rfl) (by simp) ⟨_,rfl,by simp [he,typeT,h1,h2,AV.still]⟩
section
variable {p:Pg} {E:Int→Int→Sx} {st:St}
theorem own_loop {x:Ex} (hal:x.args.length≤1048576) (h0:x.args.length > 0→True) (hst:StOk st) (IH:∀c∈x.args,(E c 0).length≤Ai.great→runL A (.call 19 [p.av,.int .i64 c,.int .i64 0]) st=some ⟨.ret,⟨[.str (E c 0)],[]⟩,st⟩) {T:Sx} (hl:T.length+(argsT E x.args).length≤Ai.great)
  {e:Env} (he:e.length=133) (a3:AX.ev e (.t 3)=.iptr p.av) (a4:AX.ev e (.t 4)=.iptr x.av) (a7:AX.ev e (.t 7)=.str T) (a8:AX.ev e (.t 8)=.int .i64 0) {K:PostQ}
  (hK:∀e2,Same w41_0 e e2→AX.ev e2 (.t 7)=.str (T++argsT E x.args)→K (.exit 1) e2 [] st):AW A 41 none (.loop a41_0) e [] st K:=by
 refine aw_loop (W:=w41_0) rfl (fun m e ds st'=>ds=[]∧st'=st∧∃i:Nat,i+m=x.args.length∧AX.ev e (.t 8)=.int .i64 i∧AX.ev e (.t 7)=.str (T++argsT E (x.args.take i))) x.args.length
  ⟨rfl,rfl,0,by simp,by simp [a8],by simpa [argsT] using a7⟩ ?_
 rintro m e1 ds st' hs ⟨rfl,rfl,i,hm,g8,g7⟩ K1 kn kx
 have he1:e1.length=133:=by simp [hs.1,he]
 have g3:=hs.ev 3 rfl a3
 have g4:=hs.ev 4 rfl a4
 simp only [Ex.av,Ex.cs] at g4
 by_cases hi:i<x.args.length
 ·obtain ⟨c,hc⟩:∃c,c=x.args[i]:=⟨_,rfl⟩
  have hg:=ints_get hi
  rw [←hc] at hg
  have htk:x.args.take (i+1)=x.args.take i++[c]:=by rw [hc];simp
  have hsn:=argsT_snoc E (x.args.take i) c
  rw [←htk] at hsn
  have hle:=argsT_take E x.args (i+1)
  have hce:=IH c (by rw [hc];exact List.getElem_mem hi)
  simp only [Pg.av] at hce g3
  have w1:IntKind.i64.wrap ((i:Int)+1)=(i:Int)+1:=wrap_i64 (by omega) (by omega)
  have w0:IntKind.i64.wrap (1:Int)=1:=wrap_i64 (by omega) (by omega)
  by_cases h0:i=0
  ·subst h0
   have h1:argsT E (x.args.take (0+1))=E c 0:=by rw [htk];simp [argsT]
   rw [h1] at hle
   simp only [List.take_zero,argsT,List.append_nil] at g7
   have hce:=hce (by omega)
   have y1:T.length+(E c 0).length≤281474976710656:=by simp only [Ai.great] at hl;omega
   simp [a41_0,g3,g4,g7,g8,he1,hi,hg,ints_length,hce,w0,y1,Ai.beq_refl]
   exact kn (m-1) _ _ _ (by omega) ⟨rfl,rfl,1,by omega,by simp [he1],by rw [h1];simp [he1]⟩
  ·have hne:¬(x.args.take i=[]):=by
    intro e;have:=congrArg List.length e;rw [List.length_take,List.length_nil] at this;omega
   rw [if_neg hne] at hsn
   rw [hsn] at hle
   simp only [List.length_append,List.length_cons,List.length_nil] at hle
   have hi0:0<i:=by omega
   have hce:=hce (by omega)
   simp only [Ai.great] at hl
   have y1:T.length+((argsT E (x.args.take i)).length+2)≤281474976710656:=by omega
   have y2:T.length+((argsT E (x.args.take i)).length+((E c 0).length+1+1))≤281474976710656:=by omega
   have y3:T.length+(argsT E (x.args.take i)).length+2≤281474976710656:=by omega
   have y4:T.length+((argsT E (x.args.take i)).length+2)+(E c 0).length≤281474976710656:=by omega
   simp [a41_0,g3,g4,g7,g8,he1,hi,hg,hi0,ints_length,hce,w1,y1,y2,y3,y4,Ai.beq_refl]
   exact kn (m-1) _ _ _ (by omega) ⟨rfl,rfl,i+1,by omega,by simp [he1],by rw [hsn];simp [he1]⟩
 ·obtain rfl:i=x.args.length:=by omega
  rw [List.take_length] at g7
  simp [a41_0,g4,g8,he1,ints_length]
  exact kx _ _ _ _ nofun fun hs'=>hK _ hs' (by simp [he1,g7])
set_option maxHeartbeats 1000000 in
theorem own41 {x:Ex} (hx:x.Ok) (h0:1≤x.k) (h1:x.k≤21) (hv:-9223372036854775808≤x.v∧x.v≤9223372036854775807) (hb:x.k=2→x.v=0∨x.v=1) (hst:StOk st)
  (IH:∀c∈partsF x,∀w,(E c w).length≤Ai.great→runL A (.call 19 [p.av,.int .i64 c,.int .i64 w]) st=some ⟨.ret,⟨[.str (E c w)],[]⟩,st⟩) (hl:(ownF E x).length≤Ai.great) :
  runL A (.call 41 [p.av,x.av,.int .i64 (tightF x.k)]) st=some ⟨.ret,⟨[.str (ownF E x)],[]⟩,st⟩:=by
 have s1:IntKind.i64.wrap (tightF x.k+1)=tightF x.k+1:=wrap_i64 (by unfold tightF;repeat' split<;>omega) (by unfold tightF;repeat' split<;>omega)
 have twoC:(x.k=6∨x.k=7∨x.k=8∨x.k=9∨x.k=10∨x.k=11∨x.k=12∨x.k=13∨x.k=14∨x.k=17∨x.k=18)→runL A (.call 41 [p.av,x.av,.int .i64 (tightF x.k)]) st=some ⟨.ret,⟨[.str (ownF E x)],[]⟩,st⟩:=by
  intro hk
  obtain ⟨_,_,n3⟩:=two_find hk
  obtain ⟨e1,e2⟩:=n3 E x rfl
  have cs:=rSign hk hst
  rw [e1] at hl ⊢
  simp only [Ai.great] at IH hl
  simp only [List.length_append,List.length_cons,List.length_nil] at hl
  rw [e2] at IH
  have ca:=IH x.a (by simp) (oneW x.k) (by omega)
  have cb:=IH x.b (by simp) (nextW x.k) (by omega)
  have y1:(E x.a (oneW x.k)).length+1≤281474976710656:=by omega
  have y2:(E x.a (oneW x.k)).length+1+(signF x.k).length≤281474976710656:=by omega
  have y3:(E x.a (oneW x.k)).length+((signF x.k).length+1)+1≤281474976710656:=by omega
  have y4:(E x.a (oneW x.k)).length+((signF x.k).length+1+1)+(E x.b (nextW x.k)).length≤281474976710656:=by omega
  refine (task_of_aw (N:=133) prim41 fn41 rfl rfl hst ?_).1
  intro e he ha K hK
  have a0:=ha 0
  have a1:=ha 1
  have a2:=ha 2
  clear ha
  simp at a0 a1 a2
  simp only [Pg.av] at a0 ca cb
  simp only [Ex.av,Ex.cs] at a1
  rcases hk with h | h | h | h | h | h | h | h | h | h | h
  all_goals
   rw [h] at a1 a2 s1 cs
   simp only [h,oneW,nextW,tightF,signF] at ca cb s1 a2 cs y1 y2 y3 y4
   simp at ca cb s1 a2 cs y1 y2 y3 y4
   simp [a41,he,a0,a1,a2,s1,ca,cb,cs,y1,y2,y3,y4,Ai.beq_refl]
   exact hK _ _ _ (.inl rfl) (by simp) ⟨_,rfl,by simp [he,AV.still,h,oneW,nextW,tightF,signF]⟩
 have oneC:x.k=4∨x.k=5∨x.k=16∨x.k=21→runL A (.call 41 [p.av,x.av,.int .i64 (tightF x.k)]) st=some ⟨.ret,⟨[.str (ownF E x)],[]⟩,st⟩:=by
  intro hk
  obtain ⟨_,_,n3⟩:=one_find hk
  obtain ⟨e1,e2⟩:=n3 E x rfl
  rw [e1] at hl ⊢
  simp only [Ai.great] at IH hl
  simp only [List.length_append] at hl
  rw [e2] at IH
  have ca:=IH x.a (by simp) 6 (by omega)
  have y1:(prefF x.k).length+(E x.a 6).length≤281474976710656:=by omega
  refine (task_of_aw (N:=133) prim41 fn41 rfl rfl hst ?_).1
  intro e he ha K hK
  have a0:=ha 0
  have a1:=ha 1
  have a2:=ha 2
  clear ha
  simp at a0 a1 a2
  simp only [Pg.av] at a0 ca
  simp only [Ex.av,Ex.cs] at a1
  rcases hk with h | h | h | h
  all_goals
   rw [h] at a1 a2
   simp only [h,prefF,tightF] at y1 a2
   simp at y1 a2
   simp [a41,he,a0,a1,a2,ca,y1,Ai.beq_refl]
   exact hK _ _ _ (.inl rfl) (by simp) ⟨_,rfl,by simp [he,AV.still,h,prefF]⟩
 have ifC:x.k=15→runL A (.call 41 [p.av,x.av,.int .i64 (tightF x.k)]) st=some ⟨.ret,⟨[.str (ownF E x)],[]⟩,st⟩:=by
  intro hk
  have e1:ownF E x=[105,102,32]++(E x.a 0++([32,116,104,101,110,32]++(E x.b 0++([32,101,108,115,101,32]++E x.c 0)))):=by simp [ownF,hk]
  have e2:partsF x=[x.a,x.b,x.c]:=by simp [partsF,manyF,hk]
  rw [e1] at hl ⊢
  simp only [Ai.great] at IH hl
  simp only [List.length_append,List.length_cons,List.length_nil] at hl
  rw [e2] at IH
  have ca:=IH x.a (by simp) 0 (by omega)
  have cb:=IH x.b (by simp) 0 (by omega)
  have cc:=IH x.c (by simp) 0 (by omega)
  have y1:3+(E x.a 0).length≤281474976710656:=by omega
  have y2:(E x.a 0).length+1+1+1+6≤281474976710656:=by omega
  have y3:(E x.a 0).length+6+1+1+1+(E x.b 0).length≤281474976710656:=by omega
  have y4:(E x.a 0).length+((E x.b 0).length+1+1+1+1+1+1)+1+1+1+6≤281474976710656:=by omega
  have y5:(E x.a 0).length+((E x.b 0).length+6+1+1+1+1+1+1)+1+1+1+(E x.c 0).length≤281474976710656:=by omega
  refine (task_of_aw (N:=133) prim41 fn41 rfl rfl hst ?_).1
  intro e he ha K hK
  have a0:=ha 0
  have a1:=ha 1
  have a2:=ha 2
  clear ha
  simp at a0 a1 a2
  simp only [Pg.av] at a0 ca cb cc
  simp only [Ex.av,Ex.cs] at a1
  rw [hk] at a1 a2
  simp [a41,he,a0,a1,a2,ca,cb,cc,y1,y2,y3,y4,y5,Ai.beq_refl]
  exact hK _ _ _ (.inl rfl) (by simp) ⟨_,rfl,by simp [he,AV.still]⟩
 have atC:x.k=1∨x.k=2∨x.k=3∨x.k=20→runL A (.call 41 [p.av,x.av,.int .i64 (tightF x.k)]) st=some ⟨.ret,⟨[.str (ownF E x)],[]⟩,st⟩:=by
  intro hk
  rcases hk with h | h | h | h
  ·have cs:=ref_short_call (q:=x.v) (n:=32) hv.1 hv.2 hst
   refine (task_of_aw (N:=133) prim41 fn41 rfl rfl hst ?_).1
   intro e he ha K hK
   have a0:=ha 0
   have a1:=ha 1
   have a2:=ha 2
   clear ha
   simp at a0 a1 a2
   simp only [Ex.av,Ex.cs] at a1
   rw [h] at a1 a2
   simp [a41,he,a0,a1,a2,cs,Ai.beq_refl,Pg.av]
   exact hK _ _ _ (.inl rfl) (by simp) ⟨_,rfl,by simp [he,AV.still,ownF,h,clamp]⟩
  ·refine (task_of_aw (N:=133) prim41 fn41 rfl rfl hst ?_).1
   intro e he ha K hK
   have a0:=ha 0
   have a1:=ha 1
   have a2:=ha 2
   clear ha
   simp at a0 a1 a2
   simp only [Ex.av,Ex.cs] at a1
   rw [h] at a1 a2
   rcases hb h with h2 | h2<;>rw [h2] at a1<;>simp [a41,he,a0,a1,a2,Ai.beq_refl,Pg.av] <;>
    exact hK _ _ _ (.inl rfl) (by simp) ⟨_,rfl,by simp [he,AV.still,ownF,h,h2]⟩
  ·refine (task_of_aw (N:=133) prim41 fn41 rfl rfl hst ?_).1
   intro e he ha K hK
   have a0:=ha 0
   have a1:=ha 1
   have a2:=ha 2
   clear ha
   simp at a0 a1 a2
   simp only [Ex.av,Ex.cs] at a1
   rw [h] at a1 a2
   simp [a41,he,a0,a1,a2,Ai.beq_refl,Pg.av]
   exact hK _ _ _ (.inl rfl) (by simp) ⟨_,rfl,by simp [he,AV.still,ownF,h]⟩
  ·have e1:ownF E x=x.n++([32,105,115,32]++x.s):=by simp [ownF,h]
   rw [e1] at hl
   simp only [Ai.great] at hl
   simp only [List.length_append,List.length_cons,List.length_nil] at hl
   have y1:x.n.length+4≤281474976710656:=by omega
   have y2:x.n.length+4+x.s.length≤281474976710656:=by omega
   refine (task_of_aw (N:=133) prim41 fn41 rfl rfl hst ?_).1
   intro e he ha K hK
   have a0:=ha 0
   have a1:=ha 1
   have a2:=ha 2
   clear ha
   simp at a0 a1 a2
   simp only [Ex.av,Ex.cs] at a1
   rw [h] at a1 a2
   simp [a41,he,a0,a1,a2,y1,y2,Ai.beq_refl,Pg.av]
   exact hK _ _ _ (.inl rfl) (by simp) ⟨_,rfl,by simp [he,AV.still,ownF,h]⟩
 have callC:x.k=19→runL A (.call 41 [p.av,x.av,.int .i64 (tightF x.k)]) st=some ⟨.ret,⟨[.str (ownF E x)],[]⟩,st⟩:=by
  intro h
  have e1:ownF E x=(x.n++[40])++(argsT E x.args++[41]):=by simp [ownF,h]
  rw [e1] at hl ⊢
  have hl':=hl
  simp only [Ai.great] at hl
  simp only [List.length_append,List.length_cons,List.length_nil] at hl
  have y1:x.n.length+1≤281474976710656:=by omega
  have y2:x.n.length+((argsT E x.args).length+1)+1≤281474976710656:=by omega
  refine (task_of_aw (N:=133) prim41 fn41 rfl rfl hst ?_).1
  intro e he ha K hK
  have a0:=ha 0
  have a1:=ha 1
  have a2:=ha 2
  clear ha
  simp at a0 a1 a2
  have b0:=a0
  simp only [Pg.av] at a0
  simp only [Ex.av,Ex.cs] at a1
  rw [h] at a1 a2
  simp [a41,he,a0,a1,a2,y1,Ai.beq_refl]
  refine own_loop (p:=p) (E:=E) (x:=x) (T:=x.n++[40]) hx.args (fun _=>trivial) hst (fun c hc hcl=>IH c (by simp [partsF,manyF,h,hc]) 0 hcl) (by simp only [Ai.great,List.length_append,List.length_cons,List.length_nil];omega) (by simp [he]) (by simp [he,Pg.av]) (by simp [he,Ex.av,Ex.cs,h]) (by simp [he]) (by simp [he]) fun e2 hs2 g7=>?_
  have he2:e2.length=133:=by simp [hs2.1,he]
  simp at g7
  simp [he2,g7,y2]
  exact hK _ _ _ (.inl rfl) (by simp) ⟨_,rfl,by simp [he2,AV.still]⟩
 rcases kinds21 h0 h1 with h | h | h | h | h | h | h | h | h | h | h | h | h | h | h | h | h | h | h | h | h
 all_goals first
  | exact ifC h
  | exact callC h
  | exact atC (by omega)
  | exact oneC (by omega)
  | exact twoC (by omega)
set_option maxHeartbeats 1000000 in
theorem expr19 {p:Pg} (h:Told p) {st:St} (hst:StOk st):∀(f a:Nat),a<f→a<p.xs.length→∀w:Int,(shE p.xs f a w).length≤Ai.great→runL A (.call 19 [p.av,.int .i64 a,.int .i64 w]) st=some ⟨.ret,⟨[.str (shE p.xs f a w)],[]⟩,st⟩
 | 0,_,h,_,_,_=>by omega
 | f+1,a,hn,ha',w,hl=>by
  obtain ⟨x,hx⟩:∃x,x=p.xs[a]:=⟨_,rfl⟩
  have hok:x.Ok:=by rw [hx];exact h.ok.ex _ (List.getElem_mem ha')
  have hvx:=h.v x (by rw [hx];exact List.getElem_mem ha')
  have hone:=ones_get p.xs 0 a ha' h.ones
  rw [←hx,Nat.zero_add] at hone
  have hpt:=one_parts hone
  have hk:1≤x.k∧x.k≤21:=by unfold oneF at hone;simp only [Bool.and_eq_true,decide_eq_true_eq] at hone;exact hone.1.1.1.1.1
  have hb:x.k=2→x.v=0∨x.v=1:=fun h2=>by
   unfold oneF at hone
   simp only [Bool.and_eq_true] at hone
   have:=hone.2
   simp [h2] at this
   omega
  have hg:p.xs.getD (a:Int).toNat zEx=x:=by simp [List.getD_eq_getElem?_getD,ha',hx]
  have g1:(p.xs.map Ex.av)[a]'(by simpa using ha')=.agg x.cs:=by rw [xs_get ha',hx]
  have IH:∀c∈partsF x,∀w,(shE p.xs f c w).length≤Ai.great→runL A (.call 19 [p.av,.int .i64 c,.int .i64 w]) st=some ⟨.ret,⟨[.str (shE p.xs f c w)],[]⟩,st⟩:=fun c hc w hcl=>by
   obtain ⟨h1,h2⟩:=hpt c hc
   obtain ⟨b,rfl⟩:∃b:Nat,c=b:=⟨c.toNat,by omega⟩
   exact expr19 h hst f b (by omega) (by omega) w hcl
  have ct:=rTight hk.1 hk.2 hst
  rw [shE,hg] at hl ⊢
  have hlo:(ownF (shE p.xs f) x).length≤Ai.great:=by
   split at hl
   ·simp only [List.length_append] at hl;omega
   ·exact hl
  have co:=own41 (p:=p) hok hk.1 hk.2 hvx hb hst IH hlo
  generalize ownF (shE p.xs f) x=T at *
  have y1:1+T.length≤281474976710656:=by simp only [Ai.great] at hlo;omega
  have y2:T.length+1+1≤281474976710656:=by simp only [Ai.great] at hlo;omega
  have y3:T.length+1≤281474976710656:=by omega
  refine (task_of_aw (N:=29) prim19 fn19 rfl rfl hst ?_).1
  intro e he ha K hK
  have a0:=ha 0
  have a1:=ha 1
  have a2:=ha 2
  clear ha
  simp at a0 a1 a2
  simp only [Pg.av] at a0 co
  simp only [Ex.av,Ex.cs] at g1 co
  by_cases ht:tightF x.k<w
  ·rw [if_pos ht] at hK
   simp [a19,he,a0,a1,a2,ha',g1,ct,co,ht,y1,y2,y3,Ai.beq_refl]
   exact hK _ _ _ (.inl rfl) (by simp) ⟨_,rfl,by simp [he,AV.still]⟩
  ·rw [if_neg ht] at hK
   simp [a19,he,a0,a1,a2,ha',g1,ct,co,ht,Ai.beq_refl]
   exact hK _ _ _ (.inl rfl) (by simp) ⟨_,rfl,by simp [he,AV.still]⟩
end
end Go.Proofs.YtgkhmmlemgikjaaGreatDoor
namespace Go.Proofs.YtgkhmmlemgikjaaGreatDoor
open Go Ai
theorem fn39:A.fn 39=some a39:=by kernel_rfl
theorem prim39:A.prim 39=none:=by kernel_rfl
def w39_0:List Nat:=a39_0.writes
theorem fn18:A.fn 18=some a18:=by kernel_rfl
theorem prim18:A.prim 18=none:=by kernel_rfl
def w18_0:List Nat:=a18_0.writes
def w18_1:List Nat:=a18_1.writes
def w18_2:List Nat:=a18_2.writes
theorem join_snoc (l:List Sx) (a sep:Sx):Lib.join (l++[a]) sep=Lib.join l sep++((if l=[] then [] else sep)++a):=by
 cases l with
 | nil=>simp [Lib.join_one,Lib.join_nil]
 | cons x r=>rw [List.cons_append,Lib.join_cons,Lib.join_cons];simp [Lib.joinTail]
theorem join_take (l:List Sx) (sep:Sx) (i:Nat):(Lib.join (l.take i) sep).length≤(Lib.join l sep).length:=by
 cases l with
 | nil=>simp
 | cons x r =>
  cases i with
  | zero=>simp [Lib.join_nil]
  | succ i =>
   rw [List.take_succ_cons,Lib.join_cons,Lib.join_cons,List.length_append,List.length_append]
   unfold Lib.joinTail
   have:((r.take i).map (sep++·)).flatten.length≤(r.map (sep++·)).flatten.length:=by
    have e:(r.map (sep++·)).flatten=((r.take i).map (sep++·)).flatten++((r.drop i).map (sep++·)).flatten:=by rw [←List.flatten_append,←List.map_append,List.take_append_drop]
    rw [e,List.length_append];omega
   exact Nat.add_le_add_left this _
section
variable {p:Pg} {E:Int→Sx} {st:St}
theorem sts_loop {x:It} (hx:x.Ok) {T:Sx} (hl:T.length+(Lib.join x.ss [44,32]).length≤Ai.great)
  {e:Env} (he:e.length=156) (a3:AX.ev e (.t 3)=.iptr x.av) (a7:AX.ev e (.t 7)=.str T) (a8:AX.ev e (.t 8)=.int .i64 0) {K:PostQ}
  (hK:∀e2,Same w39_0 e e2→AX.ev e2 (.t 7)=.str (T++Lib.join x.ss [44,32])→K (.exit 1) e2 [] st):AW A 39 none (.loop a39_0) e [] st K:=by
 have hss:=hx.ss
 refine aw_loop (W:=w39_0) rfl (fun m e ds st'=>ds=[]∧st'=st∧∃i:Nat,i+m=x.ss.length∧AX.ev e (.t 8)=.int .i64 i∧AX.ev e (.t 7)=.str (T++Lib.join (x.ss.take i) [44,32])) x.ss.length
  ⟨rfl,rfl,0,by simp,by simp [a8],by simpa [Lib.join_nil] using a7⟩ ?_
 rintro m e1 ds st' hs ⟨rfl,rfl,i,hm,g8,g7⟩ K1 kn kx
 have he1:e1.length=156:=by simp [hs.1,he]
 have g3:=hs.ev 3 rfl a3
 simp only [It.av,It.cs] at g3
 by_cases hi:i<x.ss.length
 ·obtain ⟨c,hc⟩:∃c,c=x.ss[i]:=⟨_,rfl⟩
  have hg:=strs_get hi
  rw [←hc] at hg
  have htk:x.ss.take (i+1)=x.ss.take i++[c]:=by rw [hc];simp
  have hsn:=join_snoc (x.ss.take i) c [44,32]
  rw [←htk] at hsn
  have hle:=join_take x.ss [44,32] (i+1)
  have w1:IntKind.i64.wrap ((i:Int)+1)=(i:Int)+1:=wrap_i64 (by omega) (by omega)
  have w0:IntKind.i64.wrap (1:Int)=1:=wrap_i64 (by omega) (by omega)
  by_cases h0:i=0
  ·subst h0
   have h1:Lib.join (x.ss.take (0+1)) [44,32]=c:=by rw [htk];simp [Lib.join_one]
   rw [h1] at hle
   simp only [List.take_zero,Lib.join_nil,List.append_nil] at g7
   have y1:T.length+c.length≤281474976710656:=by simp only [Ai.great] at hl;omega
   simp [a39_0,g3,g7,g8,he1,hi,hg,strs_length,w0,y1,Ai.beq_refl]
   exact kn (m-1) _ _ _ (by omega) ⟨rfl,rfl,1,by omega,by simp [he1],by rw [h1];simp [he1]⟩
  ·have hne:¬(x.ss.take i=[]):=by
    intro e;have:=congrArg List.length e;rw [List.length_take,List.length_nil] at this;omega
   rw [if_neg hne] at hsn
   rw [hsn] at hle
   simp only [List.length_append,List.length_cons,List.length_nil] at hle
   have hi0:0<i:=by omega
   simp only [Ai.great] at hl
   have y1:T.length+((Lib.join (x.ss.take i) [44,32]).length+2)≤281474976710656:=by omega
   have y3:T.length+(Lib.join (x.ss.take i) [44,32]).length+2≤281474976710656:=by omega
   have y4:T.length+((Lib.join (x.ss.take i) [44,32]).length+2)+c.length≤281474976710656:=by omega
   simp [a39_0,g3,g7,g8,he1,hi,hg,hi0,strs_length,w1,y1,y3,y4,Ai.beq_refl]
   exact kn (m-1) _ _ _ (by omega) ⟨rfl,rfl,i+1,by omega,by simp [he1],by rw [hsn];simp [he1]⟩
 ·obtain rfl:i=x.ss.length:=by omega
  rw [List.take_length] at g7
  simp [a39_0,g3,g8,he1,strs_length]
  exact kx _ _ _ _ nofun fun hs'=>hK _ hs' (by simp [he1,g7])
set_option maxHeartbeats 1000000 in
theorem rItem_1 {x:It} (hk:x.k=1) (hst:StOk st) (hE:(E x.e).length≤Ai.great→runL A (.call 19 [p.av,.int .i64 x.e,.int .i64 0]) st=some ⟨.ret,⟨[.str (E x.e)],[]⟩,st⟩) (hl:(itemT E x).length≤Ai.great):runL A (.call 39 [p.av,x.av]) st=some ⟨.ret,⟨[.str (itemT E x)],[]⟩,st⟩:=by
 have e1:itemT E x=[32,32,108,101,116,32]++(x.n++([58,32]++((typeT x.t)++([32,61,32]++((E x.e)++([59,10])))))):=by simp [itemT,itemB,hk]
 rw [e1] at hl ⊢
 simp only [Ai.great] at *
 simp only [List.length_append,List.length_cons,List.length_nil] at hl
 have hE:=hE (by omega)
 have ct:=rType (t:=x.t) hst
 have y0:6+x.n.length≤281474976710656:=by omega
 have y1:x.n.length+1+1+1+1+1+1+2≤281474976710656:=by omega
 have y2:x.n.length+2+1+1+1+1+1+1+(typeT x.t).length≤281474976710656:=by omega
 have y3:x.n.length+((typeT x.t).length+1+1)+1+1+1+1+1+1+3≤281474976710656:=by omega
 have y4:x.n.length+((typeT x.t).length+3+1+1)+1+1+1+1+1+1+(E x.e).length≤281474976710656:=by omega
 have y5:x.n.length+((typeT x.t).length+((E x.e).length+1+1+1)+1+1)+1+1+1+1+1+1+2≤281474976710656:=by omega
 refine (task_of_aw (N:=156) prim39 fn39 rfl rfl hst ?_).1
 intro e he ha K hK
 have a0:=ha 0
 have a1:=ha 1
 clear ha
 simp at a0 a1
 simp only [Pg.av] at a0 hE
 simp only [It.av,It.cs] at a1
 rw [hk] at a1
 simp [a39,he,a0,a1,hE,ct,y0,y1,y2,y3,y4,y5,Ai.beq_refl]
 exact hK _ _ _ (.inl rfl) (by simp) ⟨_,rfl,by simp [he,AV.still]⟩
set_option maxHeartbeats 1000000 in
theorem rItem_2 {x:It} (hk:x.k=2) (hst:StOk st) (hE:(E x.e).length≤Ai.great→runL A (.call 19 [p.av,.int .i64 x.e,.int .i64 0]) st=some ⟨.ret,⟨[.str (E x.e)],[]⟩,st⟩) (hF:(E x.f).length≤Ai.great→runL A (.call 19 [p.av,.int .i64 x.f,.int .i64 0]) st=some ⟨.ret,⟨[.str (E x.f)],[]⟩,st⟩) (hl:(itemT E x).length≤Ai.great):runL A (.call 39 [p.av,x.av]) st=some ⟨.ret,⟨[.str (itemT E x)],[]⟩,st⟩:=by
 have e1:itemT E x=[32,32,100,101,114,32]++(x.n++([32,61,32]++((E x.e)++([32,105,110,105,116,32]++((E x.f)++([59,10])))))):=by simp [itemT,itemB,hk]
 rw [e1] at hl ⊢
 simp only [Ai.great] at *
 simp only [List.length_append,List.length_cons,List.length_nil] at hl
 have hE:=hE (by omega)
 have hF:=hF (by omega)
 have y0:6+x.n.length≤281474976710656:=by omega
 have y1:x.n.length+1+1+1+1+1+1+3≤281474976710656:=by omega
 have y2:x.n.length+3+1+1+1+1+1+1+(E x.e).length≤281474976710656:=by omega
 have y3:x.n.length+((E x.e).length+1+1+1)+1+1+1+1+1+1+6≤281474976710656:=by omega
 have y4:x.n.length+((E x.e).length+6+1+1+1)+1+1+1+1+1+1+(E x.f).length≤281474976710656:=by omega
 have y5:x.n.length+((E x.e).length+((E x.f).length+1+1+1+1+1+1)+1+1+1)+1+1+1+1+1+1+2≤281474976710656:=by omega
 refine (task_of_aw (N:=156) prim39 fn39 rfl rfl hst ?_).1
 intro e he ha K hK
 have a0:=ha 0
 have a1:=ha 1
 clear ha
 simp at a0 a1
 simp only [Pg.av] at a0 hE hF
 simp only [It.av,It.cs] at a1
 rw [hk] at a1
 simp [a39,he,a0,a1,hE,hF,y0,y1,y2,y3,y4,y5,Ai.beq_refl]
 exact hK _ _ _ (.inl rfl) (by simp) ⟨_,rfl,by simp [he,AV.still]⟩
set_option maxHeartbeats 1000000 in
theorem rItem_3 {x:It} (hk:x.k=3) (hst:StOk st) (hE:(E x.e).length≤Ai.great→runL A (.call 19 [p.av,.int .i64 x.e,.int .i64 0]) st=some ⟨.ret,⟨[.str (E x.e)],[]⟩,st⟩) (hF:(E x.f).length≤Ai.great→runL A (.call 19 [p.av,.int .i64 x.f,.int .i64 0]) st=some ⟨.ret,⟨[.str (E x.f)],[]⟩,st⟩) (hl:(itemT E x).length≤Ai.great):runL A (.call 39 [p.av,x.av]) st=some ⟨.ret,⟨[.str (itemT E x)],[]⟩,st⟩:=by
 have e1:itemT E x=[32,32,114,101,115,101,116,32]++(x.n++([32,111,110,32]++((E x.f)++([32,61,32]++((E x.e)++([59,10])))))):=by simp [itemT,itemB,hk]
 rw [e1] at hl ⊢
 simp only [Ai.great] at *
 simp only [List.length_append,List.length_cons,List.length_nil] at hl
 have hE:=hE (by omega)
 have hF:=hF (by omega)
 have y0:8+x.n.length≤281474976710656:=by omega
 have y1:x.n.length+1+1+1+1+1+1+1+1+4≤281474976710656:=by omega
 have y2:x.n.length+4+1+1+1+1+1+1+1+1+(E x.f).length≤281474976710656:=by omega
 have y3:x.n.length+((E x.f).length+1+1+1+1)+1+1+1+1+1+1+1+1+3≤281474976710656:=by omega
 have y4:x.n.length+((E x.f).length+3+1+1+1+1)+1+1+1+1+1+1+1+1+(E x.e).length≤281474976710656:=by omega
 have y5:x.n.length+((E x.f).length+((E x.e).length+1+1+1)+1+1+1+1)+1+1+1+1+1+1+1+1+2≤281474976710656:=by omega
 refine (task_of_aw (N:=156) prim39 fn39 rfl rfl hst ?_).1
 intro e he ha K hK
 have a0:=ha 0
 have a1:=ha 1
 clear ha
 simp at a0 a1
 simp only [Pg.av] at a0 hE hF
 simp only [It.av,It.cs] at a1
 rw [hk] at a1
 simp [a39,he,a0,a1,hE,hF,y0,y1,y2,y3,y4,y5,Ai.beq_refl]
 exact hK _ _ _ (.inl rfl) (by simp) ⟨_,rfl,by simp [he,AV.still]⟩
set_option maxHeartbeats 1000000 in
theorem rItem_4 {x:It} (hk:x.k=4) (hst:StOk st) (hE:(E x.e).length≤Ai.great→runL A (.call 19 [p.av,.int .i64 x.e,.int .i64 0]) st=some ⟨.ret,⟨[.str (E x.e)],[]⟩,st⟩) (hl:(itemT E x).length≤Ai.great):runL A (.call 39 [p.av,x.av]) st=some ⟨.ret,⟨[.str (itemT E x)],[]⟩,st⟩:=by
 have e1:itemT E x=[32,32,109,101,109,32]++(x.n++([58,32]++((typeT x.t)++([32,105,110,105,116,32]++((E x.e)++([59,10])))))):=by simp [itemT,itemB,hk]
 rw [e1] at hl ⊢
 simp only [Ai.great] at *
 simp only [List.length_append,List.length_cons,List.length_nil] at hl
 have hE:=hE (by omega)
 have ct:=rType (t:=x.t) hst
 have y0:6+x.n.length≤281474976710656:=by omega
 have y1:x.n.length+1+1+1+1+1+1+2≤281474976710656:=by omega
 have y2:x.n.length+2+1+1+1+1+1+1+(typeT x.t).length≤281474976710656:=by omega
 have y3:x.n.length+((typeT x.t).length+1+1)+1+1+1+1+1+1+6≤281474976710656:=by omega
 have y4:x.n.length+((typeT x.t).length+6+1+1)+1+1+1+1+1+1+(E x.e).length≤281474976710656:=by omega
 have y5:x.n.length+((typeT x.t).length+((E x.e).length+1+1+1+1+1+1)+1+1)+1+1+1+1+1+1+2≤281474976710656:=by omega
 refine (task_of_aw (N:=156) prim39 fn39 rfl rfl hst ?_).1
 intro e he ha K hK
 have a0:=ha 0
 have a1:=ha 1
 clear ha
 simp at a0 a1
 simp only [Pg.av] at a0 hE
 simp only [It.av,It.cs] at a1
 rw [hk] at a1
 simp [a39,he,a0,a1,hE,ct,y0,y1,y2,y3,y4,y5,Ai.beq_refl]
 exact hK _ _ _ (.inl rfl) (by simp) ⟨_,rfl,by simp [he,AV.still]⟩
set_option maxHeartbeats 1000000 in
theorem rItem_5 {x:It} (hk:x.k=5) (hst:StOk st) (hE:(E x.e).length≤Ai.great→runL A (.call 19 [p.av,.int .i64 x.e,.int .i64 0]) st=some ⟨.ret,⟨[.str (E x.e)],[]⟩,st⟩) (hF:(E x.f).length≤Ai.great→runL A (.call 19 [p.av,.int .i64 x.f,.int .i64 0]) st=some ⟨.ret,⟨[.str (E x.f)],[]⟩,st⟩) (hl:(itemT E x).length≤Ai.great):runL A (.call 39 [p.av,x.av]) st=some ⟨.ret,⟨[.str (itemT E x)],[]⟩,st⟩:=by
 have e1:itemT E x=[32,32,111,110,32]++((E x.f)++([32,115,101,116,32]++(x.n++([32,61,32]++((E x.e)++([59,10])))))):=by simp [itemT,itemB,hk]
 rw [e1] at hl ⊢
 simp only [Ai.great] at *
 simp only [List.length_append,List.length_cons,List.length_nil] at hl
 have hE:=hE (by omega)
 have hF:=hF (by omega)
 have y0:5+(E x.f).length≤281474976710656:=by omega
 have y1:(E x.f).length+1+1+1+1+1+5≤281474976710656:=by omega
 have y2:(E x.f).length+5+1+1+1+1+1+x.n.length≤281474976710656:=by omega
 have y3:(E x.f).length+(x.n.length+1+1+1+1+1)+1+1+1+1+1+3≤281474976710656:=by omega
 have y4:(E x.f).length+(x.n.length+3+1+1+1+1+1)+1+1+1+1+1+(E x.e).length≤281474976710656:=by omega
 have y5:(E x.f).length+(x.n.length+((E x.e).length+1+1+1)+1+1+1+1+1)+1+1+1+1+1+2≤281474976710656:=by omega
 refine (task_of_aw (N:=156) prim39 fn39 rfl rfl hst ?_).1
 intro e he ha K hK
 have a0:=ha 0
 have a1:=ha 1
 clear ha
 simp at a0 a1
 simp only [Pg.av] at a0 hE hF
 simp only [It.av,It.cs] at a1
 rw [hk] at a1
 simp [a39,he,a0,a1,hE,hF,y0,y1,y2,y3,y4,y5,Ai.beq_refl]
 exact hK _ _ _ (.inl rfl) (by simp) ⟨_,rfl,by simp [he,AV.still]⟩
set_option maxHeartbeats 1000000 in
theorem rItem_7 {x:It} (hk:x.k=7) (hst:StOk st) (hF:(E x.f).length≤Ai.great→runL A (.call 19 [p.av,.int .i64 x.f,.int .i64 0]) st=some ⟨.ret,⟨[.str (E x.f)],[]⟩,st⟩) (hl:(itemT E x).length≤Ai.great):runL A (.call 39 [p.av,x.av]) st=some ⟨.ret,⟨[.str (itemT E x)],[]⟩,st⟩:=by
 have e1:itemT E x=[32,32,102,114,111,109,32]++(x.n++([46]++(x.s++([32,111,110,32]++((E x.f)++([32,103,111,116,111,32]++(x.x++([59,10])))))))):=by simp [itemT,itemB,hk]
 rw [e1] at hl ⊢
 simp only [Ai.great] at *
 simp only [List.length_append,List.length_cons,List.length_nil] at hl
 have hF:=hF (by omega)
 have y0:7+x.n.length≤281474976710656:=by omega
 have y1:x.n.length+1+1+1+1+1+1+1+1≤281474976710656:=by omega
 have y2:x.n.length+1+1+1+1+1+1+1+1+x.s.length≤281474976710656:=by omega
 have y3:x.n.length+(x.s.length+1)+1+1+1+1+1+1+1+4≤281474976710656:=by omega
 have y4:x.n.length+(x.s.length+4+1)+1+1+1+1+1+1+1+(E x.f).length≤281474976710656:=by omega
 have y5:x.n.length+(x.s.length+((E x.f).length+1+1+1+1)+1)+1+1+1+1+1+1+1+6≤281474976710656:=by omega
 have y6:x.n.length+(x.s.length+((E x.f).length+6+1+1+1+1)+1)+1+1+1+1+1+1+1+x.x.length≤281474976710656:=by omega
 have y7:x.n.length+(x.s.length+((E x.f).length+(x.x.length+1+1+1+1+1+1)+1+1+1+1)+1)+1+1+1+1+1+1+1+2≤281474976710656:=by omega
 refine (task_of_aw (N:=156) prim39 fn39 rfl rfl hst ?_).1
 intro e he ha K hK
 have a0:=ha 0
 have a1:=ha 1
 clear ha
 simp at a0 a1
 simp only [Pg.av] at a0 hF
 simp only [It.av,It.cs] at a1
 rw [hk] at a1
 simp [a39,he,a0,a1,hF,y0,y1,y2,y3,y4,y5,y6,y7,Ai.beq_refl]
 exact hK _ _ _ (.inl rfl) (by simp) ⟨_,rfl,by simp [he,AV.still]⟩
set_option maxHeartbeats 1000000 in
theorem rItem_8 {x:It} (hk:x.k=8) (hst:StOk st) (hl:(itemT E x).length≤Ai.great):runL A (.call 39 [p.av,x.av]) st=some ⟨.ret,⟨[.str (itemT E x)],[]⟩,st⟩:=by
 have e1:itemT E x=[32,32,111,117,116,32]++(x.n++([59,10])):=by simp [itemT,itemB,hk]
 rw [e1] at hl ⊢
 simp only [Ai.great] at *
 simp only [List.length_append,List.length_cons,List.length_nil] at hl
 have y0:6+x.n.length≤281474976710656:=by omega
 have y1:x.n.length+1+1+1+1+1+1+2≤281474976710656:=by omega
 refine (task_of_aw (N:=156) prim39 fn39 rfl rfl hst ?_).1
 intro e he ha K hK
 have a0:=ha 0
 have a1:=ha 1
 clear ha
 simp at a0 a1
 simp only [Pg.av] at a0
 simp only [It.av,It.cs] at a1
 rw [hk] at a1
 simp [a39,he,a0,a1,y0,y1,Ai.beq_refl]
 exact hK _ _ _ (.inl rfl) (by simp) ⟨_,rfl,by simp [he,AV.still]⟩
set_option maxHeartbeats 1000000 in
theorem rItem_6 {x:It} (hx:x.Ok) (hk:x.k=6) (hst:StOk st) (hl:(itemT E x).length≤Ai.great):runL A (.call 39 [p.av,x.av]) st=some ⟨.ret,⟨[.str (itemT E x)],[]⟩,st⟩:=by
 have e1:itemT E x=[32,32,109,111,100,101,32]++(x.n++([32,123]++(Lib.join x.ss [44,32]++[125,59,10]))):=by simp [itemT,itemB,hk]
 rw [e1] at hl ⊢
 have hl':=hl
 simp only [Ai.great] at hl
 simp only [List.length_append,List.length_cons,List.length_nil] at hl
 have y0:7+x.n.length≤281474976710656:=by omega
 have y1:x.n.length+1+1+1+1+1+1+1+2≤281474976710656:=by omega
 have y2:x.n.length+((Lib.join x.ss [44,32]).length+1+1)+1+1+1+1+1+1+1+3≤281474976710656:=by omega
 refine (task_of_aw (N:=156) prim39 fn39 rfl rfl hst ?_).1
 intro e he ha K hK
 have a0:=ha 0
 have a1:=ha 1
 clear ha
 simp at a0 a1
 simp only [Pg.av] at a0
 simp only [It.av,It.cs] at a1
 rw [hk] at a1
 simp [a39,he,a0,a1,y0,y1,Ai.beq_refl]
 refine sts_loop hx (T:=[32,32,109,111,100,101,32]++(x.n++[32,123])) (by simp only [Ai.great,List.length_append,List.length_cons,List.length_nil];omega) (by simp [he]) (by simp [he,It.av,It.cs,hk]) (by simp [he]) (by simp [he]) fun e2 hs2 g7=>?_
 have he2:e2.length=156:=by simp [hs2.1,he]
 simp at g7
 simp [he2,g7,y2]
 exact hK _ _ _ (.inl rfl) (by simp) ⟨_,rfl,by simp [he2,AV.still]⟩
theorem rItem {x:It} (hx:x.Ok) (h1:1≤x.k) (h8:x.k≤8) (hst:StOk st) (hE:hasE x.k=true→(E x.e).length≤Ai.great→runL A (.call 19 [p.av,.int .i64 x.e,.int .i64 0]) st=some ⟨.ret,⟨[.str (E x.e)],[]⟩,st⟩)
  (hF:hasF x.k=true→(E x.f).length≤Ai.great→runL A (.call 19 [p.av,.int .i64 x.f,.int .i64 0]) st=some ⟨.ret,⟨[.str (E x.f)],[]⟩,st⟩) (hl:(itemT E x).length≤Ai.great):runL A (.call 39 [p.av,x.av]) st=some ⟨.ret,⟨[.str (itemT E x)],[]⟩,st⟩:=by
 have hk:x.k=1∨x.k=2∨x.k=3∨x.k=4∨x.k=5∨x.k=6∨x.k=7∨x.k=8:=by omega
 rcases hk with h | h | h | h | h | h | h | h
 ·exact rItem_1 h hst (hE (by simp [hasE,h])) hl
 ·exact rItem_2 h hst (hE (by simp [hasE,h])) (hF (by simp [hasF,h])) hl
 ·exact rItem_3 h hst (hE (by simp [hasE,h])) (hF (by simp [hasF,h])) hl
 ·exact rItem_4 h hst (hE (by simp [hasE,h])) hl
 ·exact rItem_5 h hst (hE (by simp [hasE,h])) (hF (by simp [hasF,h])) hl
 ·exact rItem_6 hx h hst hl
 ·exact rItem_7 h hst (hF (by simp [hasF,h])) hl
 ·exact rItem_8 h hst hl
theorem rPm_loop {d:Dc} (hd:d.Ok) (hst:StOk st) {T:Sx} (hl:T.length+(pmsT d.ps).length≤Ai.great)
  {e:Env} (he:e.length=127) (a5:AX.ev e (.t 5)=.iptr d.av) (a6:AX.ev e (.t 6)=.str T) (a7:AX.ev e (.t 7)=.int .i64 0) {K:PostQ}
  (hK:∀e2,Same w18_1 e e2→AX.ev e2 (.t 6)=.str (T++pmsT d.ps)→K (.exit 2) e2 [] st):AW A 18 none (.loop a18_1) e [] st K:=by
 have hps:=hd.ps
 refine aw_loop (W:=w18_1) rfl (fun m e ds st'=>ds=[]∧st'=st∧∃i:Nat,i+m=d.ps.length∧AX.ev e (.t 7)=.int .i64 i∧AX.ev e (.t 6)=.str (T++pmsT (d.ps.take i))) d.ps.length
  ⟨rfl,rfl,0,by simp,by simp [a7],by simpa [pmsT] using a6⟩ ?_
 rintro m e1 ds st' hs ⟨rfl,rfl,i,hm,g7,g6⟩ K1 kn kx
 have he1:e1.length=127:=by simp [hs.1,he]
 have g5:=hs.ev 5 rfl a5
 simp only [Dc.av,Dc.cs] at g5
 by_cases hi:i<d.ps.length
 ·obtain ⟨c,hc⟩:∃c,c=d.ps[i]:=⟨_,rfl⟩
  have hg:=pmW_get hi
  rw [←hc] at hg
  have htk:d.ps.take (i+1)=d.ps.take i++[c]:=by rw [hc];simp
  have hsn:=pmsT_snoc (d.ps.take i) c
  rw [←htk] at hsn
  have hle:=pmsT_take d.ps (i+1)
  have ct:=rType (t:=c.t) hst
  have w1:IntKind.i64.wrap ((i:Int)+1)=(i:Int)+1:=wrap_i64 (by omega) (by omega)
  have w0:IntKind.i64.wrap (1:Int)=1:=wrap_i64 (by omega) (by omega)
  by_cases h0:i=0
  ·subst h0
   have h1:pmsT (d.ps.take (0+1))=pmT c:=by rw [htk];simp [pmsT]
   rw [h1] at hle
   simp only [List.take_zero,pmsT,List.append_nil] at g6
   simp only [pmT,List.length_append,List.length_cons,List.length_nil] at hle
   simp only [Ai.great] at hl
   have y0:T.length+c.n.length≤281474976710656:=by omega
   have y1:T.length+c.n.length+2≤281474976710656:=by omega
   have y2:T.length+(c.n.length+2)+(typeT c.t).length≤281474976710656:=by omega
   simp [a18_1,g5,g6,g7,he1,hi,hg,ct,w0,y0,y1,y2,Ai.beq_refl]
   exact kn (m-1) _ _ _ (by omega) ⟨rfl,rfl,1,by omega,by simp [he1],by rw [h1];simp [he1,pmT]⟩
  ·have hne:¬(d.ps.take i=[]):=by
    intro e;have:=congrArg List.length e;rw [List.length_take,List.length_nil] at this;omega
   rw [if_neg hne] at hsn
   rw [hsn] at hle
   simp only [pmT,List.length_append,List.length_cons,List.length_nil] at hle
   have hi0:0<i:=by omega
   simp only [Ai.great] at hl
   generalize pmsT (d.ps.take i)=P at *
   have y9:T.length+P.length+2≤281474976710656:=by omega
   have y0:T.length+P.length+2≤281474976710656:=by omega
   have y1:T.length+(P.length+2)+c.n.length≤281474976710656:=by omega
   have y2:T.length+(P.length+(c.n.length+1+1))+2≤281474976710656:=by omega
   have y3:T.length+(P.length+(c.n.length+2+1+1))+(typeT c.t).length≤281474976710656:=by omega
   simp [a18_1,g5,g6,g7,he1,hi,hg,hi0,ct,w1,y9,y0,y1,y2,y3,Ai.beq_refl]
   exact kn (m-1) _ _ _ (by omega) ⟨rfl,rfl,i+1,by omega,by simp [he1],by rw [hsn];simp [he1,pmT]⟩
 ·obtain rfl:i=d.ps.length:=by omega
  rw [List.take_length] at g6
  simp [a18_1,g5,g7,he1]
  exact kx _ _ _ _ nofun fun hs'=>hK _ hs' (by simp [he1,g6])
theorem rIt_loop {d:Dc} (hd:d.Ok) (IH:∀x∈d.its,(itemT E x).length≤Ai.great→runL A (.call 39 [p.av,x.av]) st=some ⟨.ret,⟨[.str (itemT E x)],[]⟩,st⟩) {T:Sx} (hl:T.length+(d.its.flatMap (itemT E)).length≤Ai.great)
  {e:Env} (he:e.length=127) (a1:AX.ev e (.t 1)=.iptr p.av) (a5:AX.ev e (.t 5)=.iptr d.av) (a3:AX.ev e (.t 3)=.str T) (a8:AX.ev e (.t 8)=.int .i64 0) {K:PostQ}
  (hK:∀e2,Same w18_0 e e2→AX.ev e2 (.t 3)=.str (T++d.its.flatMap (itemT E))→K (.exit 4) e2 [] st):AW A 18 none (.loop a18_0) e [] st K:=by
 have hits:=hd.its
 refine aw_loop (W:=w18_0) rfl (fun m e ds st'=>ds=[]∧st'=st∧∃i:Nat,i+m=d.its.length∧AX.ev e (.t 8)=.int .i64 i∧AX.ev e (.t 3)=.str (T++(d.its.take i).flatMap (itemT E))) d.its.length
  ⟨rfl,rfl,0,by simp,by simp [a8],by simpa using a3⟩ ?_
 rintro m e1 ds st' hs ⟨rfl,rfl,i,hm,g8,g3⟩ K1 kn kx
 have he1:e1.length=127:=by simp [hs.1,he]
 have g1:=hs.ev 1 rfl a1
 have g5:=hs.ev 5 rfl a5
 simp only [Dc.av,Dc.cs] at g5
 simp only [Pg.av] at g1
 by_cases hi:i<d.its.length
 ·obtain ⟨x,hx⟩:∃x,x=d.its[i]:=⟨_,rfl⟩
  have hg:=itW_get hi
  rw [←hx] at hg
  have htk:d.its.take (i+1)=d.its.take i++[x]:=by rw [hx];simp
  have hsn:(d.its.take (i+1)).flatMap (itemT E)=(d.its.take i).flatMap (itemT E)++itemT E x:=by rw [htk,List.flatMap_append,List.flatMap_cons,List.flatMap_nil,List.append_nil]
  have hle:((d.its.take (i+1)).flatMap (itemT E)).length≤(d.its.flatMap (itemT E)).length:=by
   conv=>rhs;rw [←List.take_append_drop (i+1) d.its,List.flatMap_append,List.length_append]
   omega
  rw [hsn,List.length_append] at hle
  have ci:=IH x (by rw [hx];exact List.getElem_mem hi) (by omega)
  simp only [Pg.av,It.av,It.cs] at ci hg
  generalize itemT E x=J at *
  have y1:T.length+((d.its.take i).flatMap (itemT E)).length+J.length≤281474976710656:=by simp only [Ai.great] at hl;omega
  have y2:((T++(d.its.take i).flatMap (itemT E)).length)+J.length≤281474976710656:=by rw [List.length_append];exact y1
  obtain ⟨S,hS⟩:∃S,S=T++(d.its.take i).flatMap (itemT E):=⟨_,rfl⟩
  rw [←hS] at g3 y2
  have w1:IntKind.i64.wrap ((i:Int)+1)=(i:Int)+1:=wrap_i64 (by omega) (by omega)
  simp [a18_0,g1,g5,g3,g8,he1,hi,hg,ci,w1,y2,Ai.beq_refl]
  exact kn (m-1) _ _ _ (by omega) ⟨rfl,rfl,i+1,by omega,by simp [he1],by rw [hsn,←List.append_assoc,←hS];simp [he1]⟩
 ·obtain rfl:i=d.its.length:=by omega
  rw [List.take_length] at g3
  simp [a18_0,g5,g8,he1]
  exact kx _ _ _ _ nofun fun hs'=>hK _ hs' (by simp [he1,g3])
end
end Go.Proofs.YtgkhmmlemgikjaaGreatDoor
namespace Go.Proofs.YtgkhmmlemgikjaaGreatDoor
open Go Ai
set_option maxHeartbeats 4000000 in
theorem rProg {p:Pg} (h:Told p) (hk:Kinds p) (hl:(progT p).length≤Ai.great) {st:St} (hst:StOk st):runL A (.call 18 [p.av]) st=some ⟨.ret,⟨[.str (progT p)],[]⟩,st⟩:=by
 have hds:=h.ok.ds
 obtain ⟨E,hE⟩:∃E:Int→Sx,E=fun e=>exT p e 0:=⟨_,rfl⟩
 have pe:∀(e:Int) (b:Bool),pointsF p.xs.length e b=true→b=true→(E e).length≤Ai.great→runL A (.call 19 [p.av,.int .i64 e,.int .i64 0]) st=some ⟨.ret,⟨[.str (E e)],[]⟩,st⟩:=fun e b h1 h2 h4=>by
  obtain ⟨k,rfl,h3⟩:=points_of h1 h2
  rw [hE] at h4 ⊢
  exact expr19 h hst p.xs.length k h3 h3 0 h4
 have hpt:progT p=p.ds.flatMap (declT E):=by rw [hE];rfl
 rw [hpt] at hl ⊢
 refine (task_of_aw (N:=127) prim18 fn18 rfl rfl hst ?_).1
 intro e he ha K hK
 have a0:=ha 0
 clear ha
 simp at a0
 have b0:=a0
 simp only [Pg.av] at a0
 simp [a18,he,a0,Ai.beq_refl]
 refine aw_loop (W:=w18_2) rfl (fun m e ds st'=>ds=[]∧st'=st∧∃i:Nat,i+m=p.ds.length∧AX.ev e (.t 4)=.int .i64 i∧AX.ev e (.t 3)=.str ((p.ds.take i).flatMap (declT E))) p.ds.length
  ⟨rfl,rfl,0,by simp,by simp [he],by simp [he]⟩ ?_
 rintro m e1 ds st' hs ⟨rfl,rfl,i,hm,g4,g3⟩ K1 kn kx
 have he1:e1.length=127:=by simp [hs.1,he]
 have g1:=hs.ev 1 rfl (v:=.iptr p.av) (by simp [he,Pg.av])
 have g1':=g1
 simp only [Pg.av] at g1
 by_cases hi:i<p.ds.length
 ·obtain ⟨d,hd⟩:∃d,d=p.ds[i]:=⟨_,rfl⟩
  have hg:(p.ds.map Dc.av)[i]'(by simpa using hi)=.agg d.cs:=by rw [ds_get hi,hd]
  have hmem:d∈p.ds:=by rw [hd];exact List.getElem_mem hi
  have hok:=h.ok.dc d hmem
  have hR:=h.dec hmem
  unfold declR at hR
  obtain ⟨r1,r2⟩:=Bool.and_eq_true_iff.1 hR
  have e2:p.ds.take (i+1)=p.ds.take i++[d]:=by rw [hd];simp
  have hsn:(p.ds.take (i+1)).flatMap (declT E)=(p.ds.take i).flatMap (declT E)++declT E d:=by rw [e2,List.flatMap_append,List.flatMap_cons,List.flatMap_nil,List.append_nil]
  have hle:((p.ds.take (i+1)).flatMap (declT E)).length≤(p.ds.flatMap (declT E)).length:=by
   conv=>rhs;rw [←List.take_append_drop (i+1) p.ds,List.flatMap_append,List.length_append]
   omega
  rw [hsn,List.length_append] at hle
  have IH:∀x∈d.its,(itemT E x).length≤Ai.great→runL A (.call 39 [p.av,x.av]) st'=some ⟨.ret,⟨[.str (itemT E x)],[]⟩,st'⟩:=fun x hx hxl=>by
   have r3:=List.all_eq_true.1 r2 x hx
   unfold itemR at r3
   obtain ⟨r4,r5⟩:=Bool.and_eq_true_iff.1 r3
   exact rItem (hok.item x hx) ((hk d hmem).2 x hx).1 ((hk d hmem).2 x hx).2 hst (fun hh=>pe _ _ r4 hh) (fun hh=>pe _ _ r5 hh) hxl
  have ct:=rType (t:=d.t) hst
  obtain ⟨S,hS⟩:∃S,S=(p.ds.take i).flatMap (declT E):=⟨_,rfl⟩
  rw [←hS] at g3 hsn hle
  have w1:IntKind.i64.wrap ((i:Int)+1)=(i:Int)+1:=wrap_i64 (by omega) (by omega)
  obtain ⟨PS,hPS⟩:∃PS,PS=pmsT d.ps:=⟨_,rfl⟩
  obtain ⟨IT,hIT⟩:∃IT,IT=d.its.flatMap (itemT E):=⟨_,rfl⟩
  have hg':=hg
  simp only [Dc.cs] at hg
  rcases (hk d hmem).1 with hk1 | hk1 | hk1
  ·have e3:declT E d=[102,117,110]++([32]++(d.n++([40]++(PS++([41]++([58,32]++(typeT d.t++([32,61,32]++(E d.e++[59,10]))))))))):=by simp [declT,hk1,hPS,hIT]
   have hle2:=hle
   rw [e3] at hle2
   simp only [List.length_append,List.length_cons,List.length_nil] at hle2
   have hl2:=hl
   simp only [Ai.great] at hl2
   have ce:=pe d.e _ r1 (by simp [hk1]) (by simp only [Ai.great];omega)
   simp only [Pg.av] at ce
   have z0:PS.length+1+1≤281474976710656:=by omega
   have y0:S.length+4≤281474976710656:=by omega
   have y1:S.length+4+d.n.length≤281474976710656:=by omega
   have y2:S.length+(d.n.length+1+1+1+1)+(PS.length+1+1)≤281474976710656:=by omega
   have y3:S.length+(d.n.length+(PS.length+1+1)+1+1+1+1)+2≤281474976710656:=by omega
   have y4:S.length+(d.n.length+(PS.length+3+1)+1+1+1+1)+(typeT d.t).length≤281474976710656:=by omega
   have y5:S.length+(d.n.length+(PS.length+((typeT d.t).length+1+1+1)+1)+1+1+1+1)+3≤281474976710656:=by omega
   have y6:S.length+(d.n.length+(PS.length+((typeT d.t).length+3+1+1+1)+1)+1+1+1+1)+(E d.e).length≤281474976710656:=by omega
   have y7:S.length+(d.n.length+(PS.length+((typeT d.t).length+((E d.e).length+1+1+1)+1+1+1)+1)+1+1+1+1)+2≤281474976710656:=by omega
   rw [hk1] at hg
   simp [a18_2,g1,g3,g4,he1,hi,hg,Ai.beq_refl]
   refine rPm_loop hok hst (T:=[40]) (by simp only [Ai.great,←hPS,List.length_cons,List.length_nil];omega) (by simp [he1]) (by simp [he1,Dc.av,Dc.cs,hk1]) (by simp [he1]) (by simp [he1]) fun e4 hs4 g6=>?_
   have he4:e4.length=127:=by simp [hs4.1,he1]
   have k1:=hs4.ev 1 rfl (v:=.iptr p.av) (by simp [he1,g1,Pg.av])
   have k3:=hs4.ev 3 rfl (v:=.str S) (by simp [he1,g3])
   have k4:=hs4.ev 4 rfl (v:=.int .i64 i) (by simp [he1,g4])
   have k5:=hs4.ev 5 rfl (v:=.iptr d.av) (by simp [he1,Dc.av,Dc.cs,hk1])
   have k1':=k1
   have k5':=k5
   simp only [Pg.av] at k1
   simp only [Dc.av,Dc.cs,hk1] at k5
   rw [←hPS] at g6
   simp at g6
   clear hs4
   simp [he4,k1,k3,k4,k5,g6,z0,ct,ce,w1,y0,y1,y2,y3,y4,y5,y6,y7,Ai.beq_refl]
   exact kn (m-1) _ _ _ (by omega) ⟨rfl,rfl,i+1,by omega,by simp [he4],by rw [hsn,e3];simp [he4]⟩
  ·have e3:declT E d=[110,111,100,101]++([32]++(d.n++([40]++(PS++([41]++([58,32]++(typeT d.t++([32,123,10]++(IT++([32,32,114,101,116,117,114,110,32]++(E d.e++([59,10]++[125,10])))))))))))):=by simp [declT,hk1,hPS,hIT]
   have hle2:=hle
   rw [e3] at hle2
   simp only [List.length_append,List.length_cons,List.length_nil] at hle2
   have hl2:=hl
   simp only [Ai.great] at hl2
   have ce:=pe d.e _ r1 (by simp [hk1]) (by simp only [Ai.great];omega)
   simp only [Pg.av] at ce
   have z0:PS.length+1+1≤281474976710656:=by omega
   have y0:S.length+5≤281474976710656:=by omega
   have y1:S.length+5+d.n.length≤281474976710656:=by omega
   have y2:S.length+(d.n.length+1+1+1+1+1)+(PS.length+1+1)≤281474976710656:=by omega
   have y3:S.length+(d.n.length+(PS.length+1+1)+1+1+1+1+1)+2≤281474976710656:=by omega
   have y4:S.length+(d.n.length+(PS.length+3+1)+1+1+1+1+1)+(typeT d.t).length≤281474976710656:=by omega
   have y5:S.length+(d.n.length+(PS.length+((typeT d.t).length+1+1+1)+1)+1+1+1+1+1)+3≤281474976710656:=by omega
   rw [hk1] at hg
   simp [a18_2,g1,g3,g4,he1,hi,hg,Ai.beq_refl]
   refine rPm_loop hok hst (T:=[40]) (by simp only [Ai.great,←hPS,List.length_cons,List.length_nil];omega) (by simp [he1]) (by simp [he1,Dc.av,Dc.cs,hk1]) (by simp [he1]) (by simp [he1]) fun e4 hs4 g6=>?_
   have he4:e4.length=127:=by simp [hs4.1,he1]
   have k1:=hs4.ev 1 rfl (v:=.iptr p.av) (by simp [he1,g1,Pg.av])
   have k3:=hs4.ev 3 rfl (v:=.str S) (by simp [he1,g3])
   have k4:=hs4.ev 4 rfl (v:=.int .i64 i) (by simp [he1,g4])
   have k5:=hs4.ev 5 rfl (v:=.iptr d.av) (by simp [he1,Dc.av,Dc.cs,hk1])
   have k1':=k1
   have k5':=k5
   simp only [Pg.av] at k1
   simp only [Dc.av,Dc.cs,hk1] at k5
   rw [←hPS] at g6
   simp at g6
   clear hs4
   simp [he4,k1,k3,k4,k5,g6,z0,ct,y0,y1,y2,y3,y4,y5,Ai.beq_refl]
   refine rIt_loop (E:=E) (p:=p) hok IH (T:=S++([110,111,100,101,32]++(d.n++([40]++(PS++([41,58,32]++(typeT d.t++[32,123,10]))))))) (by simp only [Ai.great,←hIT,List.length_append,List.length_cons,List.length_nil];omega) (by simp [he4]) (by simp [he4,k1,Pg.av]) (by simp [he4,k5,Dc.av,Dc.cs,hk1]) (by simp [he4]) (by simp [he4]) fun e5 hs5 j3=>?_
   have he5:e5.length=127:=by simp [hs5.1,he4]
   have j1:=hs5.ev 1 rfl (v:=.iptr p.av) (by simp [he4,k1,Pg.av])
   have j4:=hs5.ev 4 rfl (v:=.int .i64 i) (by simp [he4,k4])
   have j5:=hs5.ev 5 rfl (v:=.iptr d.av) (by simp [he4,k5,Dc.av,Dc.cs,hk1])
   simp only [Pg.av] at j1
   simp only [Dc.av,Dc.cs,hk1] at j5
   rw [←hIT] at j3
   simp at j3
   have v0:S.length+(d.n.length+(PS.length+((typeT d.t).length+(IT.length+1+1+1)+1+1+1)+1)+1+1+1+1+1)+9≤281474976710656:=by omega
   have v1:S.length+(d.n.length+(PS.length+((typeT d.t).length+(IT.length+9+1+1+1)+1+1+1)+1)+1+1+1+1+1)+(E d.e).length≤281474976710656:=by omega
   have v2:S.length+(d.n.length+(PS.length+((typeT d.t).length+(IT.length+((E d.e).length+1+1+1+1+1+1+1+1+1)+1+1+1)+1+1+1)+1)+1+1+1+1+1)+2≤281474976710656:=by omega
   have v3:S.length+(d.n.length+(PS.length+((typeT d.t).length+(IT.length+((E d.e).length+2+1+1+1+1+1+1+1+1+1)+1+1+1)+1+1+1)+1)+1+1+1+1+1)+2≤281474976710656:=by omega
   simp [he5,j1,j3,j4,j5,w1,ce,v0,v1,v2,v3,Ai.beq_refl]
   exact kn (m-1) _ _ _ (by omega) ⟨rfl,rfl,i+1,by omega,by simp [he5],by rw [hsn,e3];simp [he5]⟩
  ·have e3:declT E d=[104,121,98,114,105,100]++([32]++(d.n++([40]++(PS++([41]++([32,123,10]++(IT++[125,10]))))))):=by simp [declT,hk1,hPS,hIT]
   have hle2:=hle
   rw [e3] at hle2
   simp only [List.length_append,List.length_cons,List.length_nil] at hle2
   have hl2:=hl
   simp only [Ai.great] at hl2
   have z0:PS.length+1+1≤281474976710656:=by omega
   have y0:S.length+7≤281474976710656:=by omega
   have y1:S.length+7+d.n.length≤281474976710656:=by omega
   have y2:S.length+(d.n.length+1+1+1+1+1+1+1)+(PS.length+1+1)≤281474976710656:=by omega
   have y3:S.length+(d.n.length+(PS.length+1+1)+1+1+1+1+1+1+1)+3≤281474976710656:=by omega
   rw [hk1] at hg
   simp [a18_2,g1,g3,g4,he1,hi,hg,Ai.beq_refl]
   refine rPm_loop hok hst (T:=[40]) (by simp only [Ai.great,←hPS,List.length_cons,List.length_nil];omega) (by simp [he1]) (by simp [he1,Dc.av,Dc.cs,hk1]) (by simp [he1]) (by simp [he1]) fun e4 hs4 g6=>?_
   have he4:e4.length=127:=by simp [hs4.1,he1]
   have k1:=hs4.ev 1 rfl (v:=.iptr p.av) (by simp [he1,g1,Pg.av])
   have k3:=hs4.ev 3 rfl (v:=.str S) (by simp [he1,g3])
   have k4:=hs4.ev 4 rfl (v:=.int .i64 i) (by simp [he1,g4])
   have k5:=hs4.ev 5 rfl (v:=.iptr d.av) (by simp [he1,Dc.av,Dc.cs,hk1])
   have k1':=k1
   have k5':=k5
   simp only [Pg.av] at k1
   simp only [Dc.av,Dc.cs,hk1] at k5
   rw [←hPS] at g6
   simp at g6
   clear hs4
   simp [he4,k1,k3,k4,k5,g6,z0,ct,y0,y1,y2,y3,Ai.beq_refl]
   refine rIt_loop (E:=E) (p:=p) hok IH (T:=S++([104,121,98,114,105,100,32]++(d.n++([40]++(PS++[41,32,123,10]))))) (by simp only [Ai.great,←hIT,List.length_append,List.length_cons,List.length_nil];omega) (by simp [he4]) (by simp [he4,k1,Pg.av]) (by simp [he4,k5,Dc.av,Dc.cs,hk1]) (by simp [he4]) (by simp [he4]) fun e5 hs5 j3=>?_
   have he5:e5.length=127:=by simp [hs5.1,he4]
   have j1:=hs5.ev 1 rfl (v:=.iptr p.av) (by simp [he4,k1,Pg.av])
   have j4:=hs5.ev 4 rfl (v:=.int .i64 i) (by simp [he4,k4])
   have j5:=hs5.ev 5 rfl (v:=.iptr d.av) (by simp [he4,k5,Dc.av,Dc.cs,hk1])
   simp only [Pg.av] at j1
   simp only [Dc.av,Dc.cs,hk1] at j5
   rw [←hIT] at j3
   simp at j3
   have v0:S.length+(d.n.length+(PS.length+(IT.length+1+1+1+1)+1)+1+1+1+1+1+1+1)+2≤281474976710656:=by omega
   simp [he5,j1,j3,j4,j5,w1,v0,Ai.beq_refl]
   exact kn (m-1) _ _ _ (by omega) ⟨rfl,rfl,i+1,by omega,by simp [he5],by rw [hsn,e3];simp [he5]⟩
 ·obtain rfl:i=p.ds.length:=by omega
  rw [List.take_length] at g3
  simp [a18_2,g1,g4,he1]
  refine kx _ _ _ _ nofun fun hs'=>?_
  simp [he1,g3]
  exact hK _ _ _ (.inl rfl) (by simp) ⟨_,rfl,by simp [he1,AV.still]⟩
end Go.Proofs.YtgkhmmlemgikjaaGreatDoor
