/- Part Jg. No condition. -/
import Derived.Test.YtefildelnccljaaGreatJf
import Derived.Test.YtefildelnccljaaGreatJc
import Derived.Test.YtefildelnccljaaGreatJe
set_option linter.unusedVariables false
set_option linter.unusedSimpArgs false
namespace Go.Proofs.YtefildelnccljaaGreat
open Go Ai
theorem fn159:A.fn 159=some a159:=by kernel_rfl
theorem prim159:A.prim 159=none:=by kernel_rfl
def w159_0:List Nat:=a159_0.writes
theorem fn149:A.fn 149=some a149:=by kernel_rfl
theorem prim149:A.prim 149=none:=by kernel_rfl
theorem fn122:A.fn 122=some a122:=by kernel_rfl
theorem prim122:A.prim 122=none:=by kernel_rfl
def w122_0:List Nat:=a122_0.writes
theorem fn150:A.fn 150=some a150:=by kernel_rfl
theorem prim150:A.prim 150=none:=by kernel_rfl
theorem fn54:A.fn 54=some a54:=by kernel_rfl
theorem prim54:A.prim 54=none:=by kernel_rfl
def w54_0:List Nat:=a54_0.writes
theorem index159_call {l:List Sx} {ap:Ap} {n:Sx} (hl:l.length≤1000000000) {st:St} (hst:StOk st):runL A (.call 159 [.lst 1 (strs l) ap,.str n]) st=some ⟨.ret,⟨[.int .i64 (idxF (fun s=>decide (n=s)) l 0)],[]⟩,st⟩:=by
 refine (task_of_aw (N:=19) prim159 fn159 rfl rfl hst ?_).1
 intro e he ha K hK
 have a0:=ha 0
 have a1:=ha 1
 clear ha
 simp at a0 a1
 simp [a159,he,a0,a1]
 refine aw_loop (W:=w159_0) rfl (fun m e ds s=>ds=[]∧s=st∧∃i:Nat,i+m=l.length∧idxF (fun s=>decide (n=s)) l 0=idxF (fun s=>decide (n=s)) (l.drop i) i∧AX.ev e (.t 8)=.int .i64 i) l.length
  ⟨rfl,rfl,0,by simp,by simp,by simp [he]⟩ ?_
 rintro m e1 ds s hs ⟨rfl,rfl,i,hm,hspec,g8⟩ K1 kn kx
 have he1:e1.length=19:=by simp [hs.1,he]
 have g0:=hs.ev 0 rfl (v:=.lst 1 (strs l) ap) (by simp [he,a0])
 have g1:=hs.ev 1 rfl (v:=.str n) (by simp [he,a1])
 have g7:=hs.ev 7 rfl (v:=.int .i64 l.length) (by simp [he,a0,strs_length])
 by_cases hi:i<l.length
 ·have hgv:=strs_get hi
  rw [drop_get hi,idxF] at hspec
  have w1:IntKind.i64.wrap ((i:Int)+1)=(i:Int)+1:=wrap_i64 (by omega) (by omega)
  generalize l[i]=x at *
  by_cases hb:n=x
  ·simp [hb] at hspec
   simp [a159_0,g0,g1,g7,g8,he1,hi,hgv,hb,strs_length]
   refine kx _ _ _ _ nofun fun hs'=>?_
   simp
   exact hK _ _ _ (.inl rfl) (by simp) ⟨_,rfl,by simp [he1,hb,hspec]⟩
  ·simp [hb] at hspec
   simp [a159_0,g0,g1,g7,g8,he1,hi,hgv,hb,w1,strs_length]
   exact kn (m-1) _ _ _ (by omega) ⟨rfl,rfl,i+1,by omega,by simpa using hspec,by simp [he1]⟩
 ·have hil:i=l.length:=by omega
  rw [hil,List.drop_length] at hspec
  simp [idxF] at hspec
  simp [a159_0,g7,g8,he1,hi]
  refine kx _ _ _ _ nofun fun hs'=>?_
  simp [he1]
  exact hK _ _ _ (.inl rfl) (by simp) ⟨_,rfl,by simp [he1,hspec]⟩
theorem any_mem (l:List Sx) (n:Sx):l.any (fun s=>decide (n=s))=decide (n∈l):=by
 induction l with
 | nil=>simp
 | cons x l ih=>simp only [List.any_cons,ih,List.mem_cons];by_cases h:n=x<;>simp [h]
theorem contains_call {l:List Sx} {ap:Ap} {n:Sx} (hl:l.length≤1000000000) {st:St} (hst:StOk st):runL A (.call 149 [.lst 1 (strs l) ap,.str n]) st=some ⟨.ret,⟨[.bool (decide (n∈l))],[]⟩,st⟩:=by
 have h:=index159_call (ap:=ap) (n:=n) hl hst
 have h2:=idxF_any (fun s=>decide (n=s)) l 0
 rw [any_mem] at h2
 generalize idxF (fun s=>decide (n=s)) l 0=I at *
 refine (task_of_aw (N:=9) prim149 fn149 rfl rfl hst ?_).1
 intro e he ha K hK
 have a0:=ha 0
 have a1:=ha 1
 clear ha
 simp at a0 a1
 simp [a149,he,a0,a1,h]
 exact hK _ _ _ (.inl rfl) (by simp) ⟨_,rfl,by simp [he,h2]⟩
theorem take_strs (l:List Sx) (i:Nat):(strs l).take i=strs (l.take i):=by simp [strs,List.map_take]
theorem twice_call {l:List Sx} {ap:Ap} (hl:l.length≤1000000000) {st:St} (hst:StOk st):runL A (.call 122 [.lst 1 (strs l) ap]) st=some ⟨.ret,⟨[.bool (decide (¬l.Nodup))],[]⟩,st⟩:=by
 refine (task_of_aw (N:=18) prim122 fn122 rfl rfl hst ?_).1
 intro e he ha K hK
 have a0:=ha 0
 clear ha
 simp at a0
 simp [a122,he,a0]
 refine aw_loop (W:=w122_0) rfl (fun m e ds s=>ds=[]∧s=st∧∃i:Nat,i+m=l.length∧(l.take i).Nodup∧AX.ev e (.t 7)=.int .i64 i) l.length
  ⟨rfl,rfl,0,by simp,by simp,by simp [he]⟩ ?_
 rintro m e1 ds s hs ⟨rfl,rfl,i,hm,hspec,g7⟩ K1 kn kx
 have he1:e1.length=18:=by simp [hs.1,he]
 have g0:=hs.ev 0 rfl (v:=.lst 1 (strs l) ap) (by simp [he,a0])
 have g5:=hs.ev 5 rfl (v:=.lst 1 (strs l) ap) (by simp [he,a0])
 have g6:=hs.ev 6 rfl (v:=.int .i64 l.length) (by simp [he,a0,strs_length])
 by_cases hi:i<l.length
 ·have hgv:=strs_get hi
  have hnd:(l.take (i+1)).Nodup↔(l.take i).Nodup∧l[i] ∉ l.take i:=by
   rw [List.take_succ_eq_append_getElem hi,List.nodup_append]
   simp only [List.nodup_cons,List.not_mem_nil,not_false_eq_true,List.nodup_nil,and_true,true_and,List.mem_singleton,ne_eq,forall_eq]
   constructor
   ·rintro ⟨h1,h2⟩;exact ⟨h1,fun h=>h2 _ h rfl⟩
   ·rintro ⟨h1,h2⟩;exact ⟨h1,fun a ha e=>h2 (e▸ha)⟩
  have hc:=fun ap=>contains_call (l:=l.take i) (ap:=ap) (n:=l[i]) (by rw [List.length_take];omega) hst
  rw [←take_strs] at hc
  have w1:IntKind.i64.wrap ((i:Int)+1)=(i:Int)+1:=wrap_i64 (by omega) (by omega)
  have hle:(i:Int)≤(l.length:Int):=by omega
  by_cases hb:l[i]∈l.take i
  ·have hN:¬l.Nodup:=fun h=>by
    have:=(List.take_sublist (i+1) l).nodup h
    exact (hnd.1 this).2 hb
   simp only [hb,decide_true] at hc
   generalize l[i]=x at *
   simp [a122_0,g0,g5,g6,g7,he1,hi,hgv,hc,bound,hle,strs_length]
   refine kx _ _ _ _ nofun fun hs'=>?_
   simp
   exact hK _ _ _ (.inl rfl) (by simp) ⟨_,rfl,by simp [he1,hN]⟩
  ·simp only [hb,decide_false] at hc
   have hnx:=hnd.2 ⟨hspec,hb⟩
   generalize l[i]=x at *
   simp [a122_0,g0,g5,g6,g7,he1,hi,hgv,hc,bound,hle,w1,strs_length]
   exact kn (m-1) _ _ _ (by omega) ⟨rfl,rfl,i+1,by omega,hnx,by simp [he1]⟩
 ·have hil:i=l.length:=by omega
  rw [hil,List.take_length] at hspec
  simp [a122_0,g6,g7,he1,hi]
  refine kx _ _ _ _ nofun fun hs'=>?_
  simp [he1]
  exact hK _ _ _ (.inl rfl) (by simp) ⟨_,rfl,by simp [he1,hspec]⟩
def Scp (st:St) (m:AV) (d:Dc):Prop:=∃r es,m=.map r∧st[r]?=some (.map (encM AV.str Vr.av es))∧∀n,getM n es=findF d n
theorem Scp.get {st:St} {m:AV} {d:Dc} (h:Scp st m d):∃es,mapOf st m=some es∧∀n,mapGetA es (.str n)=some ((findF d n).map Vr.av):=by
 obtain ⟨r,es,rfl,h1,h2⟩:=h
 exact ⟨encM AV.str Vr.av es,by simp [mapOf,h1],fun n=>by rw [get_enc key_str,h2]⟩
theorem Scp.fit {st st':St} {m:AV} {d:Dc} (h:Scp st m d) (hf:Fit st st'):Scp st' m d:=by
 obtain ⟨r,es,h0,h1,h2⟩:=h
 refine ⟨r,es,h0,?_,h2⟩
 have hlt:=(List.getElem?_eq_some_iff.1 h1).1
 have:=congrArg (·[r]?) hf.take
 simp only [List.getElem?_take,hlt,if_true] at this
 rw [this,h1]
theorem itV_mem {v:Vr}:∀{l:List It} {i:Int},v∈itV l i→∃(k:Nat) (h:k<l.length),makesF l[k] (i+k)=some v
 | [],_,h=>by simp [itV] at h
 | x::l,i,h=>by
  simp only [itV,List.mem_append] at h
  rcases h with h | h
  ·exact ⟨0,by simp,by simpa using h⟩
  ·obtain ⟨k,hk,h1⟩:=itV_mem h
   exact ⟨k+1,by simpa using hk,by simpa [Int.add_assoc,Int.add_comm 1] using h1⟩
theorem parV_mem {v:Vr}:∀{l:List Pm} {i:Int},v∈parV l i→v.s=1
 | [],_,h=>by simp [parV] at h
 | x::l,i,h=>by
  simp only [parV,List.mem_cons] at h
  rcases h with rfl | h
  ·rfl
  ·exact parV_mem h
theorem findF_mem {d:Dc} {n:Sx} {v:Vr} (h:findF d n=some v):v∈varsF d∧v.n=n:=by
 have h1:=List.mem_of_find?_eq_some h
 have h2:=List.find?_some h
 exact ⟨h1,by simpa using h2⟩
theorem find_mode {d:Dc} {n:Sx} {v:Vr} (h:findF d n=some v) (hs:v.s=5):∃(k:Nat) (h:k<d.its.length),v.i=k∧d.its[k].k=6:=by
 obtain ⟨h1,h2⟩:=findF_mem h
 rw [varsF,List.mem_append] at h1
 rcases h1 with h1 | h1
 ·have:=parV_mem h1;omega
 ·obtain ⟨k,hk,h3⟩:=itV_mem h1
  refine ⟨k,hk,?_⟩
  unfold makesF at h3
  by_cases e1:d.its[k].k=1
  ·simp [e1] at h3;rw [←h3] at hs;simp at hs
  by_cases e2:d.its[k].k=2
  ·simp [e2] at h3;rw [←h3] at hs;simp at hs
  by_cases e4:d.its[k].k=4
  ·simp [e4] at h3;rw [←h3] at hs;simp at hs
  by_cases e6:d.its[k].k=6
  ·simp [e6] at h3;rw [←h3];simp [e6]
  simp [e1,e2,e4,e6] at h3
def it0:It:=⟨0,[],0,0,0,[],.tight,[],[],0⟩
def statesF (d:Dc) (n:Sx):List Sx:=match findF d n with
 | some v=>if v.s=5 then (d.its.getD v.i.toNat it0).ss else []
 | none=>[]
theorem statesF_len {d:Dc} (hd:d.Ok) (n:Sx):(statesF d n).length≤1048576:=by
 unfold statesF
 split
 ·rename_i v hv
  split
  ·rename_i hs
   obtain ⟨k,hk,h1,_⟩:=find_mode hv hs
   simp [h1,hk]
   exact (hd.item _ (List.getElem_mem hk)).ss
  ·simp
 ·simp
theorem stills_strs (n:Nat) (st:St) (l:List Sx):AV.stills n st (strs l)=some (strs l):=stills_map fun x _=>by simp
theorem still_lst {n m:Nat} {st:St} {es:List AV} {ap:Ap} (h:AV.stills n st es=some es) (hap:Still ap):AV.still n st (.lst m es ap)=some (.lst m es ap):=by
 rcases hap.or with rfl | rfl<;>simp [AV.still,h]
theorem states_call {d:Dc} (hd:d.Ok) {m:AV} {n:Sx} {st:St} (hst:StOk st) (hm:Scp st m d):∃ap,Still ap∧runL A (.call 150 [d.av,m,.str n]) st=some ⟨.ret,⟨[.lst 1 (strs (statesF d n)) ap],[]⟩,st⟩:=by
 obtain ⟨es,hmo,hget⟩:=hm.get
 have hget:=hget n
 cases hf:findF d n with
 | none =>
  have hs:statesF d n=[]:=by simp [statesF,hf]
  refine ⟨.tight,.tight,?_⟩
  rw [hf] at hget
  simp at hget
  refine (task_of_aw (N:=21) prim150 fn150 rfl rfl hst ?_).1
  intro e he ha K hK
  have a0:=ha 0
  have a1:=ha 1
  have a2:=ha 2
  clear ha
  simp [Dc.av,Dc.cs] at a0 a1 a2
  simp [a150,he,a0,a1,a2,-opA_lookup,opA_lookup',keyKind,hmo,hget]
  exact hK _ _ _ (.inl rfl) (by simp) ⟨_,rfl,by simp [he,hs,strs,AV.stills]⟩
 | some v =>
  rw [hf] at hget
  simp [Vr.av,Vr.cs] at hget
  by_cases hv:v.s=5
  ·obtain ⟨k,hk,hvi,_⟩:=find_mode hf hv
   obtain ⟨x,hx⟩:∃x,x=d.its[k]:=⟨_,rfl⟩
   have hgx:(d.its.map It.av)[k]'(by simpa using hk)=.agg x.cs:=by simp [It.av,hx]
   have hs:statesF d n=x.ss:=by simp [statesF,hf,hv,hvi,hk,hx]
   have hxo:x.Ok:=by rw [hx];exact hd.item _ (List.getElem_mem hk)
   refine ⟨x.ap,hxo.ap,?_⟩
   rw [hs]
   simp only [It.cs] at hgx
   refine (task_of_aw (N:=21) prim150 fn150 rfl rfl hst ?_).1
   intro e he ha K hK
   have a0:=ha 0
   have a1:=ha 1
   have a2:=ha 2
   clear ha
   simp [Dc.av,Dc.cs] at a0 a1 a2
   simp [a150,he,a0,a1,a2,-opA_lookup,opA_lookup',keyKind,hmo,hget,hv,hvi,hk,hgx]
   exact hK _ _ _ (.inl rfl) (by simp) ⟨_,rfl,by simp [he,-AV.still,still_lst (stills_strs _ _ _) hxo.ap]⟩
  ·have hs:statesF d n=[]:=by simp [statesF,hf,hv]
   refine ⟨.tight,.tight,?_⟩
   refine (task_of_aw (N:=21) prim150 fn150 rfl rfl hst ?_).1
   intro e he ha K hK
   have a0:=ha 0
   have a1:=ha 1
   have a2:=ha 2
   clear ha
   simp [Dc.av,Dc.cs] at a0 a1 a2
   simp [a150,he,a0,a1,a2,-opA_lookup,opA_lookup',keyKind,hmo,hget,hv]
   exact hK _ _ _ (.inl rfl) (by simp) ⟨_,rfl,by simp [he,hs,strs,AV.stills]⟩
theorem refState_call {d:Dc} (hd:d.Ok) {n s:Sx} {st:St} (hst:StOk st):runL A (.call 54 [d.av,.str n,.str s]) st=some ⟨.ret,⟨[.bool (decide (s∈statesF d n))],[]⟩,st⟩:=by
 have h32:=refFind_call hd (n:=n) hst
 cases hf:findF d n with
 | none =>
  have hs:statesF d n=[]:=by simp [statesF,hf]
  rw [hf] at h32
  simp [Vr.av,Vr.cs,vr0,Dc.av,Dc.cs] at h32
  refine (task_of_aw (N:=43) prim54 fn54 rfl rfl hst ?_).1
  intro e he ha K hK
  have a0:=ha 0
  have a1:=ha 1
  have a2:=ha 2
  clear ha
  simp [Dc.av,Dc.cs] at a0 a1 a2
  simp [a54,he,a0,a1,a2,h32]
  exact hK _ _ _ (.inl rfl) (by simp) ⟨_,rfl,by simp [he,hs]⟩
 | some v =>
  rw [hf] at h32
  simp [Vr.av,Vr.cs,Dc.av,Dc.cs] at h32
  by_cases hv:v.s=5
  ·obtain ⟨k,hk,hvi,_⟩:=find_mode hf hv
   obtain ⟨x,hx⟩:∃x,x=d.its[k]:=⟨_,rfl⟩
   have hgx:(d.its.map It.av)[k]'(by simpa using hk)=.agg x.cs:=by simp [It.av,hx]
   have hs:statesF d n=x.ss:=by simp [statesF,hf,hv,hvi,hk,hx]
   have hxo:x.Ok:=by rw [hx];exact hd.item _ (List.getElem_mem hk)
   have hss:=hxo.ss
   rw [hs]
   simp only [It.cs] at hgx
   refine (task_of_aw (N:=43) prim54 fn54 rfl rfl hst ?_).1
   intro e he ha K hK
   have a0:=ha 0
   have a1:=ha 1
   have a2:=ha 2
   clear ha
   simp [Dc.av,Dc.cs] at a0 a1 a2
   simp [a54,he,a0,a1,a2,h32,hv,hvi,hk,hgx]
   generalize hS:st++_=S0
   have htk:S0.take st.length=st:=by rw [←hS];simp
   refine aw_loop (W:=w54_0) rfl (fun m e ds s'=>ds=[]∧s'=S0∧∃i:Nat,i+m=x.ss.length∧decide (s∈x.ss)=decide (s∈x.ss.drop i)∧AX.ev e (.t 10)=.int .i64 i) x.ss.length
    ⟨rfl,rfl,0,by simp,by simp,by simp [he]⟩ ?_
   rintro m e1 ds s' hs' ⟨rfl,rfl,i,hm,hspec,g10⟩ K1 kn kx
   have he1:e1.length=43:=by simp [hs'.1,he]
   have g2:=hs'.ev 2 rfl (v:=.str s) (by simp [he,a2])
   have g9:=hs'.ev 9 rfl (v:=.lst 1 (strs x.ss) x.ap) (by simp [he])
   by_cases hi:i<x.ss.length
   ·have hgv:=strs_get hi
    rw [drop_get hi] at hspec
    have w1:IntKind.i64.wrap ((i:Int)+1)=(i:Int)+1:=wrap_i64 (by omega) (by omega)
    generalize x.ss[i]=y at *
    by_cases hb:y=s
    ·simp [hb] at hspec
     simp [a54_0,g2,g9,g10,he1,hi,hgv,hb,strs_length]
     refine kx _ _ _ _ nofun fun hs'=>?_
     simp
     exact hK _ _ _ (.inl rfl) htk ⟨_,rfl,by simp [he1,hspec]⟩
    ·have hb':¬s=y:=fun h=>hb h.symm
     simp [hb'] at hspec
     simp [a54_0,g2,g9,g10,he1,hi,hgv,hb,w1,strs_length]
     exact kn (m-1) _ _ _ (by omega) ⟨rfl,rfl,i+1,by omega,by simpa using hspec,by simp [he1]⟩
   ·have hil:i=x.ss.length:=by omega
    rw [hil,List.drop_length] at hspec
    simp at hspec
    simp [a54_0,g9,g10,he1,hi,strs_length]
    refine kx _ _ _ _ nofun fun hs'=>?_
    simp [he1]
    exact hK _ _ _ (.inl rfl) htk ⟨_,rfl,by simp [he1,hspec]⟩
  ·have hs:statesF d n=[]:=by simp [statesF,hf,hv]
   refine (task_of_aw (N:=43) prim54 fn54 rfl rfl hst ?_).1
   intro e he ha K hK
   have a0:=ha 0
   have a1:=ha 1
   have a2:=ha 2
   clear ha
   simp [Dc.av,Dc.cs] at a0 a1 a2
   simp [a54,he,a0,a1,a2,h32,hv]
   exact hK _ _ _ (.inl rfl) (by simp) ⟨_,rfl,by simp [he,hs]⟩
end Go.Proofs.YtefildelnccljaaGreat
namespace Go.Proofs.YtefildelnccljaaGreat
open Go Ai
theorem fn123:A.fn 123=some a123:=by kernel_rfl
theorem prim123:A.prim 123=none:=by kernel_rfl
theorem fn125:A.fn 125=some a125:=by kernel_rfl
theorem prim125:A.prim 125=none:=by kernel_rfl
def sortF (d:Dc) (n:Sx):Int:=((findF d n).getD vr0).s
def wrongItemF (d:Dc) (x:It):Bool :=
 if x.k=3 then decide (sortF d x.n≠3) else if x.k=5 then decide (sortF d x.n≠4)
 else if x.k=7 then !decide (x.s∈statesF d x.n) || !decide (x.x∈statesF d x.n)
 else if x.k=8 then decide (sortF d x.n≠2) && decide (sortF d x.n≠3) && decide (sortF d x.n≠4)
 else if x.k=6 then decide (¬x.ss.Nodup) else false
theorem wrongItem_call {d:Dc} (hd:d.Ok) {x:It} (hx:x.Ok) {m:AV} {st:St} (hst:StOk st) (hm:Scp st m d):runL A (.call 123 [d.av,m,x.av]) st=some ⟨.ret,⟨[.bool (wrongItemF d x)],[]⟩,st⟩:=by
 obtain ⟨es,hmo,hget⟩:=hm.get
 have hget:=hget x.n
 obtain ⟨ap,hap,h150⟩:=states_call hd (n:=x.n) hst hm
 have hsl:=statesF_len hd x.n
 have hc1:=contains_call (l:=statesF d x.n) (ap:=ap) (n:=x.s) (by omega) hst
 have hc2:=contains_call (l:=statesF d x.n) (ap:=ap) (n:=x.x) (by omega) hst
 have hss:=hx.ss
 have htw:=twice_call (l:=x.ss) (ap:=x.ap) (by omega) hst
 obtain ⟨V,hV⟩:∃V,V=(findF d x.n).getD vr0:=⟨_,rfl⟩
 have hS:sortF d x.n=V.s:=by rw [sortF,hV]
 have hgV:((findF d x.n).map Vr.av).getD (.agg [.str [],.int .i64 0,.int .i64 0,.int .i64 0])=.agg V.cs:=by rw [hV];cases findF d x.n<;>rfl
 simp only [Vr.cs] at hgV
 simp only [Dc.av,Dc.cs] at h150
 obtain ⟨SS,hSS⟩:∃SS,SS=statesF d x.n:=⟨_,rfl⟩
 rw [←hSS] at h150 hc1 hc2
 refine (task_of_aw (N:=60) prim123 fn123 rfl rfl hst ?_).1
 intro e he ha K hK
 have a0:=ha 0
 have a1:=ha 1
 have a2:=ha 2
 clear ha
 simp [Dc.av,Dc.cs,It.av,It.cs] at a0 a1 a2
 by_cases k3:x.k=3
 ·simp [a123,he,a0,a1,a2,-opA_lookup,opA_lookup',keyKind,hmo,hget,-Option.getD_map,hgV,k3]
  exact hK _ _ _ (.inl rfl) (by simp) ⟨_,rfl,by simp [he,wrongItemF,k3,hS]⟩
 by_cases k5:x.k=5
 ·simp [a123,he,a0,a1,a2,-opA_lookup,opA_lookup',keyKind,hmo,hget,-Option.getD_map,hgV,k3,k5]
  exact hK _ _ _ (.inl rfl) (by simp) ⟨_,rfl,by simp [he,wrongItemF,k3,k5,hS]⟩
 by_cases k7:x.k=7
 ·by_cases b1:x.s∈SS<;>simp only [b1,decide_true,decide_false] at hc1
  ·simp [a123,he,a0,a1,a2,-opA_lookup,opA_lookup',keyKind,hmo,hget,-Option.getD_map,hgV,k3,k5,k7,h150,hc1,hc2]
   exact hK _ _ _ (.inl rfl) (by simp) ⟨_,rfl,by simp [he,wrongItemF,k3,k5,k7,←hSS,b1]⟩
  ·simp [a123,he,a0,a1,a2,-opA_lookup,opA_lookup',keyKind,hmo,hget,-Option.getD_map,hgV,k3,k5,k7,h150,hc1,hc2]
   exact hK _ _ _ (.inl rfl) (by simp) ⟨_,rfl,by simp [he,wrongItemF,k3,k5,k7,←hSS,b1]⟩
 by_cases k8:x.k=8
 ·by_cases b1:V.s=2<;>by_cases b2:V.s=3<;>by_cases b3:V.s=4
  all_goals
   simp [a123,he,a0,a1,a2,-opA_lookup,opA_lookup',keyKind,hmo,hget,-Option.getD_map,hgV,k3,k5,k7,k8,b1,b2,b3]
   exact hK _ _ _ (.inl rfl) (by simp) ⟨_,rfl,by simp [he,wrongItemF,k3,k5,k7,k8,hS,b1,b2,b3]⟩
 by_cases k6:x.k=6
 ·simp [a123,he,a0,a1,a2,-opA_lookup,opA_lookup',keyKind,hmo,hget,-Option.getD_map,hgV,k3,k5,k7,k8,k6,htw]
  exact hK _ _ _ (.inl rfl) (by simp) ⟨_,rfl,by simp [he,wrongItemF,k3,k5,k7,k8,k6]⟩
 simp [a123,he,a0,a1,a2,-opA_lookup,opA_lookup',keyKind,hmo,hget,-Option.getD_map,hgV,k3,k5,k7,k8,k6]
 exact hK _ _ _ (.inl rfl) (by simp) ⟨_,rfl,by simp [he,wrongItemF,k3,k5,k7,k8,k6]⟩
theorem idxF_cases {α:Type} (P:α→Bool):∀(l:List α) (i:Nat),idxF P l i=-1∧(∀x∈l,P x=false)∨∃(k:Nat) (h:k<l.length),idxF P l i=((i+k:Nat):Int)∧P l[k]=true∧∀(j:Nat) (hj:j<k),P (l[j]'(by omega))=false
 | [],_=>.inl ⟨rfl,by simp⟩
 | x::l,i=>by
  cases hb:P x with
  | true=>exact .inr ⟨0,by simp,by simp [idxF,hb],by simpa using hb,by simp⟩
  | false =>
   rcases idxF_cases P l (i+1) with ⟨h1,h2⟩ | ⟨k,hk,h1,h2,h3⟩
   ·exact .inl ⟨by simp [idxF,hb,h1],by simpa [hb] using h2⟩
   ·refine .inr ⟨k+1,by simpa using hk,?_,by simpa using h2,?_⟩
    ·simp only [idxF,hb];simp;rw [h1];omega
    ·intro j hj
     cases j with
     | zero=>simpa using hb
     | succ j=>simpa using h3 j (by omega)
theorem declF_cases (p:Pg) (n:Sx):declF p n=-1∨∃(k:Nat) (h:k<p.ds.length),declF p n=(k:Int)∧(p.ds[k]).n=n:=by
 rcases idxF_cases (fun d:Dc=>decide (d.n=n)) p.ds 0 with ⟨h,_⟩ | ⟨k,hk,h1,h2,_⟩
 ·exact .inl h
 ·exact .inr ⟨k,hk,by rw [declF,h1];simp,by simpa using h2⟩
def dc0:Dc:=⟨0,[],[],.tight,[],.tight,0,0,0⟩
def wrongExprF (p:Pg) (d:Dc) (x:Ex):Bool :=
 if x.k=3 then (findF d x.n).isNone || decide (sortF d x.n=5)
 else if x.k=20 then !decide (x.s∈statesF d x.n)
 else if x.k=19 then decide (declF p x.n<0) || (decide ((p.ds.getD (declF p x.n).toNat dc0).k=3) || decide ((p.ds.getD (declF p x.n).toNat dc0).ps.length≠x.args.length))
 else false
theorem wrongExpr_call {p:Pg} (hp:p.Ok) {d:Dc} (hd:d.Ok) {x:Ex} (hx:x.Ok) {m:AV} {st:St} (hst:StOk st) (hm:Scp st m d):runL A (.call 125 [p.av,d.av,m,x.av]) st=some ⟨.ret,⟨[.bool (wrongExprF p d x)],[]⟩,st⟩:=by
 obtain ⟨es,hmo,hget⟩:=hm.get
 have hget:=hget x.n
 obtain ⟨ap,hap,h150⟩:=states_call hd (n:=x.n) hst hm
 have hsl:=statesF_len hd x.n
 have hc1:=contains_call (l:=statesF d x.n) (ap:=ap) (n:=x.s) (by omega) hst
 have hargs:=hx.args
 have h63:=decl63_call hp (n:=x.n) hst
 have hdc:=declF_cases p x.n
 simp only [Pg.av] at h63
 simp only [Dc.av,Dc.cs] at h150
 obtain ⟨SS,hSS⟩:∃SS,SS=statesF d x.n:=⟨_,rfl⟩
 rw [←hSS] at h150 hc1
 refine (task_of_aw (N:=71) prim125 fn125 rfl rfl hst ?_).1
 intro e he ha K hK
 have a0:=ha 0
 have a1:=ha 1
 have a2:=ha 2
 have a3:=ha 3
 clear ha
 simp [Pg.av,Dc.av,Dc.cs,Ex.av,Ex.cs] at a0 a1 a2 a3
 by_cases k3:x.k=3
 ·cases hf:findF d x.n with
  | none =>
   rw [hf] at hget
   simp at hget
   simp [a125,he,a0,a1,a2,a3,-opA_lookup,opA_lookup',keyKind,hmo,hget,k3]
   exact hK _ _ _ (.inl rfl) (by simp) ⟨_,rfl,by simp [he,wrongExprF,k3,hf]⟩
  | some v =>
   rw [hf] at hget
   simp [Vr.av,Vr.cs] at hget
   simp [a125,he,a0,a1,a2,a3,-opA_lookup,opA_lookup',keyKind,hmo,hget,k3]
   exact hK _ _ _ (.inl rfl) (by simp) ⟨_,rfl,by simp [he,wrongExprF,k3,hf,sortF]⟩
 by_cases k20:x.k=20
 ·simp [a125,he,a0,a1,a2,a3,k3,k20,h150,hc1,Ai.beq_refl]
  exact hK _ _ _ (.inl rfl) (by simp) ⟨_,rfl,by simp [he,wrongExprF,k3,k20,hSS]⟩
 by_cases k19:x.k=19
 ·rcases hdc with h | ⟨k,hk,h,_⟩
  ·rw [h] at h63
   simp [a125,he,a0,a1,a2,a3,k3,k20,k19,h63]
   exact hK _ _ _ (.inl rfl) (by simp) ⟨_,rfl,by simp [he,wrongExprF,k3,k20,k19,h]⟩
  ·rw [h] at h63
   have hcs:=ds_get hk
   have hg:p.ds.getD k dc0=p.ds[k]:=by simp [hk]
   generalize p.ds[k]=D at *
   simp only [Dc.cs] at hcs
   by_cases b:D.k=3
   ·simp [a125,he,a0,a1,a2,a3,k3,k20,k19,h63,hk,hcs,b]
    exact hK _ _ _ (.inl rfl) (by simp) ⟨_,rfl,by simp only [wrongExprF,k3,k20,k19,h,Int.toNat_natCast,hg,b];simp [he]⟩
   ·simp [a125,he,a0,a1,a2,a3,k3,k20,k19,h63,hk,hcs,b,ints_length]
    exact hK _ _ _ (.inl rfl) (by simp) ⟨_,rfl,by simp only [wrongExprF,k3,k20,k19,h,Int.toNat_natCast,hg,b];simp [he];omega⟩
 ·simp [a125,he,a0,a1,a2,a3,k3,k20,k19]
  exact hK _ _ _ (.inl rfl) (by simp) ⟨_,rfl,by simp [he,wrongExprF,k3,k20,k19]⟩
end Go.Proofs.YtefildelnccljaaGreat
namespace Go.Proofs.YtefildelnccljaaGreat
open Go Ai
theorem fn151:A.fn 151=some a151:=by kernel_rfl
theorem prim151:A.prim 151=none:=by kernel_rfl
theorem fn160:A.fn 160=some a160:=by kernel_rfl
theorem prim160:A.prim 160=none:=by kernel_rfl
def w160_0:List Nat:=a160_0.writes
theorem fn124:A.fn 124=some a124:=by kernel_rfl
theorem prim124:A.prim 124=none:=by kernel_rfl
def w124_0:List Nat:=a124_0.writes
def w124_1:List Nat:=a124_1.writes
theorem fn39:A.fn 39=some a39:=by kernel_rfl
theorem prim39:A.prim 39=none:=by kernel_rfl
def w39_0:List Nat:=a39_0.writes
def w39_1:List Nat:=a39_1.writes
def w39_2:List Nat:=a39_2.writes
def ex0:Ex:=⟨0,0,0,0,[],[],0,[],.tight,0⟩
theorem back151_call {m:Nat} {l:List AV} {ap:Ap} (hl:∀n,AV.lowsB n l=true) (hap:Still ap) {st:St} (hst:StOk st):runL A (.call 151 [.lst m l ap]) st=some ⟨.ret,⟨[.func (.func 160) [] [.iptr (.lst m l ap)]],[]⟩,st⟩:=by
 refine (task_of_aw (N:=4) prim151 fn151 rfl rfl hst ?_).1
 intro e he ha K hK
 have a0:=ha 0
 clear ha
 simp at a0
 simp [a151,he,a0]
 have hlw:AV.lowB st.length (.lst m l ap)=true:=by rw [low_lst hap,hl]
 exact hK _ _ _ (.inl rfl) (by simp) ⟨_,rfl,by simp [he,AV.still,AV.lowsB,-AV.lowB];simp [AV.lowB,AV.lowsB] at hlw ⊢;exact hlw⟩
theorem back160 {vs:List Ex} {ap:Ap} (hl:vs.length≤1000000000):IterOk A 160 [.iptr (.lst 9 (vs.map Ex.av) ap)] vs.length fun k=>[.int .i64 ((vs.length-1-k:Nat)),(vs.getD (vs.length-1-k) ex0).av]:=by
 intro r st0 J S hround hend h0
 refine Exists.elim (task_of_aw_keep_ex (A:=A) (f:=160) (F:=a160) (args:=[.func (.yield r) [] [],.iptr (.lst 9 (vs.map Ex.av) ap)]) (v:=.tup []) (N:=19) (st:=st0) S prim160 fn160 rfl rfl ?_) fun st3 h=>⟨st3,h.2.2,h.1⟩
 intro e he ha K hK
 have a0:=ha 0
 have a1:=ha 1
 clear ha
 simp at a0 a1
 have w0:IntKind.i64.wrap ((vs.length:Int)-1)=(vs.length:Int)-1:=wrap_i64 (by omega) (by omega)
 simp [a160,he,a0,a1,w0]
 refine aw_loop (W:=w160_0) rfl (fun m e ds s=>ds=[]∧m≤vs.length∧J (vs.length-m) s∧AX.ev e (.t 3)=.int .i64 ((m:Int)-1)) vs.length
  ⟨rfl,by simp,by simpa using h0,by simp [he]⟩ ?_
 rintro m e1 ds s hs ⟨rfl,hm,hJ,g3⟩ K1 kn kx
 have he1:e1.length=19:=by simp [hs.1,he]
 have g0:=hs.ev 0 rfl (v:=.func (.yield r) [] []) (by simp [he,a0])
 have g1:=hs.ev 1 rfl (v:=.iptr (.lst 9 (vs.map Ex.av) ap)) (by simp [he,a1])
 cases m with
 | zero =>
  simp [a160_0,g3,he1]
  refine kx _ _ _ _ nofun fun hs'=>?_
  simp
  exact hK _ _ _ (.inr rfl) (hend _ (by simpa using hJ)) ⟨[],rfl,rfl⟩
 | succ k =>
  obtain ⟨b,s',hr,hb1,hb2⟩:=hround _ s (by omega) hJ
  have e1':vs.length-1-(vs.length-(k+1))=k:=by omega
  have hk:k<vs.length:=by omega
  have hgv:(vs.map Ex.av)[k]'(by simpa using hk)=(vs.getD k ex0).av:=by simp [List.getD_eq_getElem?_getD,hk]
  dsimp only at hr
  rw [e1'] at hr
  generalize vs.getD k ex0=V at hr hgv
  have g3':AX.ev e1 (.t 3)=.int .i64 k:=by rw [g3];simp
  have hk':(0:Int)≤(k:Int):=by omega
  have w1:IntKind.i64.wrap ((k:Int)-1)=(k:Int)-1:=wrap_i64 (by omega) (by omega)
  simp only [Ex.av,Ex.cs] at hr hgv
  cases b with
  | true =>
   simp [a160_0,g0,g1,g3',he1,hk,hk',hgv,hr,w1]
   exact kn k _ _ _ (by omega) ⟨rfl,by omega,by rw [show vs.length-k=vs.length-(k+1)+1 by omega];exact hb1 rfl,by simp [he1]⟩
  | false =>
   simp [a160_0,g0,g1,g3',he1,hk,hk',hgv,hr,w1]
   refine kx _ _ _ _ nofun fun hs'=>?_
   simp
   exact hK _ _ _ (.inl rfl) (hb2 rfl) ⟨[],rfl,rfl⟩
def bools (l:List Bool):List AV:=l.map .bool
theorem bools_length (l:List Bool):(bools l).length=l.length:=by simp [bools]
theorem low_bools (n:Nat) (l:List Bool):AV.lowsB n (bools l)=true:=lows_map fun _ _=>rfl
theorem bools_set (l:List Bool) (i:Nat) (b:Bool):(bools l).set i (.bool b)=bools (l.set i b):=by simp [bools,List.map_set]
theorem group_cell:∀(l:List AV),group 1 false l.length l=l
 | []=>rfl
 | x::l=>by simp [group,group_cell l]
def markF (bs:List Bool) (ks:List Int):List Bool:=ks.foldl (fun b k=>b.set k.toNat true) bs
theorem markF_len (ks:List Int):∀bs:List Bool,(markF bs ks).length=bs.length:=by
 induction ks with
 | nil=>intro bs;rfl
 | cons k ks ih=>intro bs;have:=ih (bs.set k.toNat true);simpa [markF] using this
def downF (xs:List Ex):Nat→List Bool→List Bool
 | 0,bs=>bs
 | i+1,bs=>downF xs i (if bs.getD i false then markF bs (partsF (xs.getD i ex0)) else bs)
theorem downF_len (xs:List Ex):∀(i:Nat) (bs:List Bool),(downF xs i bs).length=bs.length
 | 0,bs=>rfl
 | i+1,bs=>by rw [downF,downF_len xs i];split;rw [markF_len];rfl
def reachF (p:Pg) (rs:List Int):List Bool:=downF p.xs p.xs.length (markF (List.replicate p.xs.length false) rs)
theorem reachF_len (p:Pg) (rs:List Int):(reachF p rs).length=p.xs.length:=by rw [reachF,downF_len,markF_len,List.length_replicate]
def Ahead (p:Pg):Prop:=∀(i:Nat) (h:i<p.xs.length),∀k∈partsF p.xs[i],0≤k∧k<(i:Int)
def Inside (p:Pg) (rs:List Int):Prop:=∀k∈rs,0≤k∧k<(p.xs.length:Int)
theorem bools_get {l:List Bool} {i:Nat} (h:i<l.length):(bools l)[i]?=some (.bool (l.getD i false)):=by simp [bools,h]
theorem bools_replicate (n:Nat):List.replicate n (AV.bool false)=bools (List.replicate n false):=by simp [bools]
theorem flatten_single (n:Nat) (v:AV):(List.replicate n [v]).flatten=List.replicate n v:=by
 induction n with
 | zero=>rfl
 | succ n ih=>simp [List.replicate_succ,ih]
theorem partsF_len (x:Ex) (h:x.Ok):(partsF x).length≤1048576:=by
 unfold partsF
 split
 ·exact h.args
 ·rw [List.length_take];simp;omega
theorem refReached_call {p:Pg} (hp:p.Ok) {d:Dc} (hd:d.Ok) (hA:Ahead p) (hI:Inside p (rootsF d)) {st:St} (hst:StOk st) :
  runL A (.call 39 [p.av,d.av]) st=some ⟨.ret,⟨[.lst 1 (bools (reachF p (rootsF d))) .no],[]⟩,st⟩:=by
 have hxs:=hp.xs
 obtain ⟨N,hN⟩:∃N,N=p.xs.length:=⟨_,rfl⟩
 have hst1:∀bs:List Bool,StOk (st++[.cells none (bools bs)]):=fun bs=>obj_ok hst (low_bools _ _)
 have h31:=refRoots_call hd (hst1 (List.replicate N false))
 have hrl:(rootsF d).length≤3145728:=by
  have:=roots_len d.its;have:=hd.its
  have:(if d.k<3 then [d.e] else []).length≤1:=by split<;>simp
  simp only [rootsF,List.length_append];omega
 have hG:(N:Int)≤(Ai.great:Int):=by simp [Ai.great];omega
 rw [reachF,←hN]
 generalize rootsF d=RS at *
 simp only [Dc.av,Dc.cs] at h31
 refine (task_of_aw (N:=62) prim39 fn39 rfl rfl hst ?_).1
 intro e he ha K hK
 have a0:=ha 0
 have a1:=ha 1
 clear ha
 simp [Pg.av,Dc.av,Dc.cs] at a0 a1
 simp [a39,he,a0,a1,←hN,hG,flatten_single,bools_replicate,h31]
 refine aw_loop (W:=w39_2) rfl (fun m e ds s=>ds=[]∧∃(i:Nat) (cur:List Bool),i+m=RS.length∧cur.length=N∧markF cur (RS.drop i)=markF (List.replicate N false) RS∧s=st++[.cells none (bools cur)]∧AX.ev e (.t 7)=.int .i64 i) RS.length
  ⟨rfl,0,List.replicate N false,by simp,by simp,by simp,rfl,by simp [he]⟩ ?_
 rintro m e1 ds s hs ⟨rfl,i,cur,hm,hcl,hspec,rfl,g7⟩ K1 kn kx
 have he1:e1.length=62:=by simp [hs.1,he]
 have g5:=hs.ev 5 rfl (v:=.sl st.length 1 0 N (some N)) (by simp [he])
 have g6:=hs.ev 6 rfl (v:=.lst 1 (ints RS) (endAp RS.length)) (by simp [he])
 have g2:=hs.ev 2 rfl (v:=.iptr p.av) (by simp [he,a0,Pg.av])
 simp only [Pg.av] at g2
 by_cases hi:i<RS.length
 ·have hgv:=ints_get hi
  obtain ⟨k0,hk0⟩:=Int.eq_ofNat_of_zero_le (hI _ (List.getElem_mem hi)).1
  have hkN:=(hI _ (List.getElem_mem hi)).2
  rw [drop_get hi,markF,List.foldl_cons] at hspec
  rw [hk0] at hgv hkN hspec
  have hkN':k0<N:=by omega
  have hbl:(bools cur).length=N:=by rw [bools_length,hcl]
  have w1:IntKind.i64.wrap ((i:Int)+1)=(i:Int)+1:=wrap_i64 (by omega) (by omega)
  have hle:k0+1≤N:=by omega
  simp [a39_2,g5,g6,g7,he1,hi,hgv,hkN',w1,ints_length,hbl,hle,bools_set]
  exact kn (m-1) _ _ _ (by omega) ⟨rfl,i+1,cur.set k0 true,by omega,by simpa using hcl,by simpa [markF] using hspec,rfl,by simp [he1]⟩
 ·have hil:i=RS.length:=by omega
  rw [hil,List.drop_length] at hspec
  have hspec:cur=markF (List.replicate N false) RS:=hspec
  have w0:IntKind.i64.wrap ((N:Int)-1)=(N:Int)-1:=wrap_i64 (by omega) (by omega)
  simp [a39_2,g6,g7,he1,hi,ints_length]
  refine kx _ _ _ _ nofun fun hs'=>?_
  clear kn kx hs hs'
  simp [he1,g2,←hN,w0]
  refine aw_loop (W:=w39_1) rfl (fun m e ds s=>ds=[]∧∃(bs:List Bool),m≤N∧bs.length=N∧downF p.xs m bs=downF p.xs N cur∧s=st++[.cells none (bools bs)]∧AX.ev e (.t 8)=.int .i64 ((m:Int)-1)) N
   ⟨rfl,cur,by omega,hcl,rfl,rfl,by simp [he1]⟩ ?_
  rintro m e2 ds s hs ⟨rfl,bs,hmN,hbl,hdn,rfl,g8⟩ K2 kn kx
  have he2:e2.length=62:=by simp [hs.1,he1]
  have g5:=hs.ev 5 rfl (v:=.sl st.length 1 0 N (some N)) (by simp [g5])
  have g2:=hs.ev 2 rfl (v:=.iptr p.av) (by simp [g2,Pg.av])
  simp only [Pg.av] at g2
  cases m with
  | zero =>
   simp [a39_1,g8,he2]
   refine kx _ _ _ _ nofun fun hs'=>?_
   have hfin:bs=downF p.xs N cur:=hdn
   simp [he2,g5]
   have hsl:AV.still st.length (st++[.cells none (bools bs)]) (.sl st.length 1 0 N (some N))=some (.lst 1 (bools bs) .no):=by
    have h1:group 1 false N (bools bs)=bools bs:=by have:=group_cell (bools bs);rwa [bools_length,hbl] at this
    simp [AV.still,bools_length,hbl,low_bools,h1]
   exact hK _ _ _ (.inl rfl) (by simp) ⟨_,rfl,by rw [←hspec,←hfin,←hsl];simp [he2,-AV.still]⟩
  | succ k =>
   have hk:k<p.xs.length:=by omega
   have hxo:=hp.ex _ (List.getElem_mem hk)
   have hAk:=hA k hk
   have hgx:p.xs.getD k ex0=p.xs[k]:=by simp [hk]
   have hcs:=xs_get hk
   rw [downF,hgx] at hdn
   generalize p.xs[k]=x at *
   have g8':AX.ev e2 (.t 8)=.int .i64 k:=by rw [g8];simp
   have h68:=parts_call hxo (hst1 bs)
   have hpl:=partsF_len x hxo
   have hb:=bools_get (l:=bs) (i:=k) (by omega)
   have hk':(0:Int)≤(k:Int):=by omega
   have hkN:(k:Int)<(N:Int):=by omega
   have w1:IntKind.i64.wrap ((k:Int)-1)=(k:Int)-1:=wrap_i64 (by omega) (by omega)
   have hbk:bs[k]?=some (bs.getD k false):=by simp [show k<bs.length by omega]
   generalize bs.getD k false=b at *
   simp only [Ex.av,Ex.cs] at hcs h68
   generalize partsF x=ks at *
   simp [a39_1,g2,g8',he2,hk,hk',hcs,h68]
   cases b with
   | false =>
    refine aw_loop (W:=w39_0) rfl (fun m e ds s=>ds=[]∧s=st++[.cells none (bools bs)]∧AX.ev e (.t 10)=.int .i64 0) 0 ⟨rfl,rfl,by simp [he2]⟩ ?_
    rintro m3 e3 ds s hs3 ⟨rfl,rfl,g10⟩ K3 kn3 kx3
    have he3:e3.length=62:=by simp [hs3.1,he2]
    have g5:=hs3.ev 5 rfl (v:=.sl st.length 1 0 N (some N)) (by simp [g5])
    have g8:=hs3.ev 8 rfl (v:=.int .i64 k) (by simp [g8'])
    have g9:=hs3.ev 9 rfl (v:=.lst 1 (ints ks) (partsAp x)) (by simp [he2])
    by_cases hks:0<ks.length
    ·simp [a39_0,g5,g8,g9,g10,he3,hks,hkN,hb,ints_length]
     refine kx3 _ _ _ _ nofun fun hs'=>?_
     simp [he3,g8,w1]
     exact kn k _ _ _ (by omega) ⟨rfl,bs,by omega,hbl,by simpa using hdn,rfl,by simp [he3]⟩
    ·simp [a39_0,g5,g8,g9,g10,he3,hks,hkN,hb,ints_length]
     refine kx3 _ _ _ _ nofun fun hs'=>?_
     simp [he3,g8,w1]
     exact kn k _ _ _ (by omega) ⟨rfl,bs,by omega,hbl,by simpa using hdn,rfl,by simp [he3]⟩
   | true =>
    simp at hdn
    refine aw_loop (W:=w39_0) rfl (fun m e ds s=>ds=[]∧∃(j:Nat) (cs:List Bool),j+m=ks.length∧cs.length=N∧cs[k]?=some true∧markF cs (ks.drop j)=markF bs ks∧s=st++[.cells none (bools cs)]∧AX.ev e (.t 10)=.int .i64 j) ks.length
     ⟨rfl,0,bs,by simp,hbl,hbk,by simp,rfl,by simp [he2]⟩ ?_
    rintro m3 e3 ds s hs3 ⟨rfl,j,cs,hm3,hcl3,hcsk,hmk,rfl,g10⟩ K3 kn3 kx3
    have he3:e3.length=62:=by simp [hs3.1,he2]
    have g5:=hs3.ev 5 rfl (v:=.sl st.length 1 0 N (some N)) (by simp [g5])
    have g8:=hs3.ev 8 rfl (v:=.int .i64 k) (by simp [g8'])
    have g9:=hs3.ev 9 rfl (v:=.lst 1 (ints ks) (partsAp x)) (by simp [he2])
    have hb3:(bools cs)[k]?=some (.bool true):=by simp [bools,hcsk]
    have hcl3':(bools cs).length=N:=by rw [bools_length,hcl3]
    by_cases hj:j<ks.length
    ·have hgv:=ints_get hj
     obtain ⟨k1,hk1⟩:=Int.eq_ofNat_of_zero_le (hAk _ (List.getElem_mem hj)).1
     have hkk:=(hAk _ (List.getElem_mem hj)).2
     rw [drop_get hj,markF,List.foldl_cons] at hmk
     rw [hk1] at hgv hkk hmk
     have hk1N:k1<N:=by omega
     have hle:k1+1≤N:=by omega
     have hne:k1≠k:=by omega
     have w2:IntKind.i64.wrap ((j:Int)+1)=(j:Int)+1:=wrap_i64 (by omega) (by omega)
     simp [a39_0,g5,g8,g9,g10,he3,hj,hkN,hb3,ints_length,hgv,hk1N,hle,hcl3',bools_set,w2]
     exact kn3 (m3-1) _ _ _ (by omega) ⟨rfl,j+1,cs.set k1 true,by omega,by simpa using hcl3,by rw [List.getElem?_set_ne hne];exact hcsk,by simpa [markF] using hmk,rfl,by simp [he3]⟩
    ·have hjl:j=ks.length:=by omega
     rw [hjl,List.drop_length] at hmk
     simp [markF] at hmk
     simp [a39_0,g5,g8,g9,g10,he3,hj,ints_length]
     refine kx3 _ _ _ _ nofun fun hs'=>?_
     simp [he3,g8,w1]
     exact kn k _ _ _ (by omega) ⟨rfl,cs,by omega,hcl3,by rw [hmk];simpa [markF] using hdn,rfl,by simp [he3]⟩
end Go.Proofs.YtefildelnccljaaGreat
namespace Go.Proofs.YtefildelnccljaaGreat
open Go Ai
theorem Pg.low {p:Pg} (hp:p.Ok) (n:Nat):AV.lowB n p.av=true:=by
 have h2:=low_lst (n:=n) (m:=7) (es:=p.ds.map Dc.av) hp.dap
 have h3:=low_lst (n:=n) (m:=9) (es:=p.xs.map Ex.av) hp.xap
 rw [lows_map fun x hx=>(show AV.lowB _ (Dc.av x)=true from Dc.low (hp.dc x hx) _)] at h2
 rw [lows_map fun x hx=>(show AV.lowB _ (Ex.av x)=true from Ex.low (hp.ex x hx) _)] at h3
 unfold Pg.av
 rw [AV.lowB,AV.lowsB,AV.lowsB,h2,h3];rfl
theorem endAp_still (n:Nat):Still (endAp n):=by unfold endAp;split;exact .tight;exact .no
def C124 (st:St) (N:Nat) (env:Env) (bs:List Bool) (s:LoopState):St :=
 st++[.cells none (bools bs),.cells none [.sl st.length 1 0 N (some N)],.defr (some []),.loop s none 124 0 [30,31] env (st.length+2)]
theorem nodes_len {d:Dc} (hd:d.Ok):(rootsN d).length≤3145728:=by
 have h:∀l:List It,(l.flatMap rootsJ).length≤l.length * 2:=by
  intro l
  induction l with
  | nil=>simp
  | cons x l ih=>have:=rootsJ_len x;simp only [List.flatMap_cons,List.length_append,List.length_cons];omega
 have:=h d.its;have:=hd.its
 have:(if d.k=3 then [] else [d.e]).length≤1:=by split<;>simp
 simp only [rootsN,List.length_append];omega
theorem reached124_call {p:Pg} (hp:p.Ok) {d:Dc} (hd:d.Ok) (hA:Ahead p) (hI:Inside p (rootsN d)) {st:St} (hst:StOk st) :
  runL A (.call 124 [p.av,d.av]) st=some ⟨.ret,⟨[.lst 1 (bools (reachF p (rootsN d))) .no],[]⟩,st⟩:=by
 have hxs:=hp.xs
 obtain ⟨N,hN⟩:∃N,N=p.xs.length:=⟨_,rfl⟩
 have hst1:∀bs:List Bool,StOk (st++[.cells none (bools bs),.cells none [.sl st.length 1 0 N (some N)]]):=fun bs=>by
  have:=(hst.snoc (o:=.cells none (bools bs)) (by simp [AObj.lowB,low_bools])).snoc (o:=.cells none [.sl st.length 1 0 N (some N)]) (by simp [AObj.lowB,AV.lowsB,AV.lowB];omega)
  simpa using this
 have h62:=roots62_call hd (hst1 (List.replicate N false))
 have hrl:=nodes_len hd
 have hG:(N:Int)≤(Ai.great:Int):=by simp [Ai.great];omega
 have h151:=fun s hs=>back151_call (m:=9) (l:=p.xs.map Ex.av) (ap:=p.xap) (fun n=>lows_map fun x hx=>Ex.low (hp.ex x hx) n) hp.xap (st:=s) hs
 have hit:=back160 (vs:=p.xs) (ap:=p.xap) (by omega)
 rw [reachF,←hN]
 rw [←hN] at hit
 generalize rootsN d=RS at *
 simp only [Dc.av,Dc.cs] at h62
 refine (task_of_aw_d (N:=48) prim124 fn124 rfl rfl hst ?_).1
 intro e he ha K hK
 have a0:=ha 0
 have a1:=ha 1
 have hpl:=Pg.low hp (st.length+4)
 have hdl:=Dc.low hd (st.length+4)
 have hlow:AV.lowsB (st.length+4) e=true:=lows_args ha (by simp only [AV.lowsB,hpl,Bool.and_true,Bool.true_and];exact hdl)
 have hrsl:AV.lowB (st.length+4) (.lst 1 (ints RS) (endAp RS.length))=true:=by rw [low_lst (endAp_still _),lows_ints]
 have hxl:AV.lowB (st.length+4) (.lst 9 (p.xs.map Ex.av) p.xap)=true:=by rw [low_lst hp.xap];exact lows_map fun x hx=>Ex.low (hp.ex x hx) _
 clear ha
 simp [Pg.av,Dc.av,Dc.cs] at a0 a1
 simp only [Pg.av] at hpl
 simp only [Dc.cs] at hdl
 simp [a124,he,a0,a1,←hN,hG,flatten_single,bools_replicate,h62]
 have hle5:∀k,k<N→k+1≤N:=fun k h=>h
 refine aw_loop (W:=w124_1) rfl (fun m e ds s=>ds=[]∧AV.lowsB (st.length+4) e=true∧∃(i:Nat) (cur:List Bool),i+m=RS.length∧cur.length=N∧markF cur (RS.drop i)=markF (List.replicate N false) RS ∧
   s=st++[.cells none (bools cur),.cells none [.sl st.length 1 0 N (some N)]]∧AX.ev e (.t 19)=.int .i64 i) RS.length
  ⟨rfl,?_,0,List.replicate N false,by simp,by simp,by simp,rfl,by simp [he]⟩ ?_
 ·repeat' refine lows_set ?_ (by first | (simp [AV.lowB,AV.lowsB];done) | exact hrsl | (simpa [AV.lowB,AV.lowsB] using hpl) | (simpa [AV.lowB,AV.lowsB] using hdl) | (simpa [AV.lowB,AV.lowsB] using hxl))
  exact hlow
 rintro m e1 ds s hs ⟨rfl,hlow1,i,cur,hm,hcl,hspec,rfl,g19⟩ K1 kn kx
 have he1:e1.length=48:=by simp [hs.1,he]
 have g5:=hs.ev 5 rfl (v:=.ptr (st.length+1) 0) (by simp [he])
 have g17:=hs.ev 17 rfl (v:=.lst 1 (ints RS) (endAp RS.length)) (by simp [he])
 have g18:=hs.ev 18 rfl (v:=.int .i64 RS.length) (by simp [he,ints_length])
 have g2:=hs.ev 2 rfl (v:=.iptr p.av) (by simp [he,a0,Pg.av])
 simp only [Pg.av] at g2
 by_cases hi:i<RS.length
 ·have hgv:=ints_get hi
  obtain ⟨k0,hk0⟩:=Int.eq_ofNat_of_zero_le (hI _ (List.getElem_mem hi)).1
  have hkN:=(hI _ (List.getElem_mem hi)).2
  rw [drop_get hi,markF,List.foldl_cons] at hspec
  rw [hk0] at hgv hkN hspec
  have hkN':k0<N:=by omega
  have hbl:(bools cur).length=N:=by rw [bools_length,hcl]
  have w1:IntKind.i64.wrap ((i:Int)+1)=(i:Int)+1:=wrap_i64 (by omega) (by omega)
  have hle:k0+1≤N:=by omega
  simp [a124_1,g5,g17,g18,g19,he1,hi,hgv,hkN',w1,ints_length,hbl,hle,bools_set]
  exact kn (m-1) _ _ _ (by omega) ⟨rfl,by (repeat' refine lows_set ?_ (by simp [AV.lowB,AV.lowsB]));exact hlow1,i+1,cur.set k0 true,by omega,by simpa using hcl,by simpa [markF] using hspec,rfl,by simp [he1]⟩
 ·have hil:i=RS.length:=by omega
  rw [hil,List.drop_length] at hspec
  have hspec:cur=markF (List.replicate N false) RS:=hspec
  have h151:=h151 _ (hst1 cur)
  simp [a124_1,g18,g19,he1,hi]
  refine kx _ _ _ _ nofun fun hs'=>?_
  clear kn kx hs hs'
  simp [he1,g2,h151]
  generalize hE:(List.set _ 29 _:Env)=E
  have g5:AX.ev E (.t 5)=.ptr (st.length+1) 0:=by subst hE;simp [g5]
  have hEl:E.length=48:=by subst hE;simp [he1]
  have hf:AX.ev E (.t 29)=.func (.func 160) [] [.iptr (.lst 9 (p.xs.map Ex.av) p.xap)]:=by subst hE;simp [he1]
  have hlE:AV.lowsB (st.length+4) E=true:=by
   subst hE
   repeat' refine lows_set ?_ (by first | (simp [AV.lowB,AV.lowsB];done) | exact hxl | (simpa [AV.lowB,AV.lowsB] using hpl) | (simpa [AV.lowB,AV.lowsB] using hxl))
   exact hlow1
  clear hE
  have hok0:StOk (C124 st N E cur .ready):=by
   have h:=((hst1 cur).snoc (o:=.defr (some [])) rfl).snoc (o:=.loop .ready none 124 0 [30,31] E (st.length+2)) (by simp [AObj.lowB];exact hlE)
   simpa [C124] using h
  obtain ⟨st3,hr,bs,l,rfl,hok3,hbl,hfin⟩:=hit (st.length+3) (C124 st N E cur .ready)
   (fun k s=>∃bs l,s=C124 st N E bs .ready++l∧StOk s∧bs.length=N∧downF p.xs (N-k) bs=downF p.xs N cur)
   (fun s=>∃bs l,s=C124 st N E bs .ready++l∧StOk s∧bs.length=N∧bs=downF p.xs N cur)
   (fun k s hk hJ=>by
    obtain ⟨bs,l,h0,hok,hbl,hdn⟩:=hJ
    have hlp:s[st.length+3]?=some (.loop .ready none 124 0 [30,31] E (st.length+2)):=by rw [h0];simp [C124]
    have hlt:=(List.getElem?_eq_some_iff.1 hlp).1
    obtain ⟨j,hj⟩:∃j,j=N-1-k:=⟨_,rfl⟩
    have hjN:j<p.xs.length:=by omega
    obtain ⟨x,hx⟩:∃x,x=p.xs.getD j ex0:=⟨_,rfl⟩
    have hxm:x∈p.xs:=by rw [hx];simp [hjN]
    have hxo:=hp.ex _ hxm
    rw [show N-k=j+1 by omega,downF,←hx] at hdn
    have hAk:∀k∈partsF x,0≤k∧k<(j:Int):=by have:=hA j hjN;rw [hx];simpa [hjN] using this
    refine Exists.elim (round_of_aw2 (A:=A) (fn:=124) (r:=st.length+3) (F:=a124) (site:=0) (ps:=[30,31]) (env:=E) (d:=st.length+2) (pend:=none) (args:=[.int .i64 (j:Nat),x.av]) (st:=s)
     (asg:=(a124.sites.getD 0 (.skip,.skip)).1) (body:=(a124.sites.getD 0 (.skip,.skip)).2) (env1:=((((E.set 30 (.int .i64 (j:Nat))).set 31 x.av).set 8 (.int .i64 (j:Nat))).set 9 (.ptr s.length 0))) (st1:=s++[.cells none x.cs])
     (G:=fun b st'=>b=true∧∃bs l,st'=C124 st N E bs .ready++l∧StOk st'∧bs.length=N∧downF p.xs (N-(k+1)) bs=downF p.xs N cur)
     fn124 rfl rfl hlp (by simp [a124,hEl,Ex.av,Ex.cs,putCells]) (by rw [List.getElem?_append_left hlt];exact hlp) ?_) (fun b ⟨st',h,hb1,hb2⟩=>⟨b,st',by dsimp only;rw [←hj,←hx];exact h,fun _=>hb2,fun h=>by rw [hb1] at h;cases h⟩)
    intro K hn hr' _
    simp only [a124,List.getD_cons_zero]
    have hok1:StOk (s++[.cells none x.cs]):=obj_ok hok (Ex.low hxo _)
    have hS:(s++[AObj.cells none x.cs]).set (st.length+3) (.loop .busy none 124 0 [30,31] E (st.length+2))=C124 st N E bs .busy++(l++[.cells none x.cs]):=by
     rw [h0];simp [C124,set_base]
    have hxc:(C124 st N E bs .busy++(l++[.cells none x.cs]))[s.length]?=some (.cells none x.cs):=by
     rw [←hS,List.getElem?_set_ne (by omega)];simp
    have hokb:StOk (C124 st N E bs .busy++(l++[.cells none x.cs])):=by
     rw [←hS]
     have h1:=hok1.get (i:=st.length+3) (by rw [List.getElem?_append_left hlt];exact hlp)
     exact hok1.set' (by simpa [AObj.lowB] using h1)
    have hfin:∀cs:List Bool,StOk (C124 st N E cs .ready++(l++[.cells none x.cs])):=by
     intro cs
     have h1:=hok1.set' (i:=st.length) (o:=.cells none (bools cs)) (by simp [AObj.lowB,low_bools])
     rw [h0] at h1
     simpa [C124,set_base] using h1
    rw [hS]
    generalize hl2:l++[AObj.cells none x.cs]=l2 at hxc hfin hokb
    have hb:=bools_get (l:=bs) (i:=j) (by omega)
    have hbk:bs[j]?=some (bs.getD j false):=by simp [show j<bs.length by omega]
    have h134:=parts2_call hxo hokb
    have hpl:=partsF_len x hxo
    have hjI:(j:Int)<(N:Int):=by omega
    generalize bs.getD j false=b at *
    simp only [Ex.av,Ex.cs] at hxc h134
    simp [C124] at hxc h134
    generalize partsF x=ks at *
    cases b with
    | false =>
     simp at hdn
     simp [C124,hEl,g5,hjI,hb]
     refine hn _ _ (by simp) ⟨rfl,bs,l2,by simp [C124],by have:=hfin bs;simpa [C124] using this,hbl,by rw [show N-(k+1)=j by omega];exact hdn⟩
    | true =>
     simp at hdn
     simp [C124,hEl,g5,hjI,hb,Ex.av,Ex.cs,hxc,h134]
     refine aw_loop (W:=w124_0) rfl (fun m e ds s=>ds=[]∧∃(i:Nat) (cs:List Bool),i+m=ks.length∧cs.length=N∧markF cs (ks.drop i)=markF bs ks∧s=C124 st N E cs .busy++l2∧AX.ev e (.t 39)=.int .i64 i) ks.length
      ⟨rfl,0,bs,by simp,hbl,by simp,by simp [C124],by simp [hEl]⟩ ?_
     rintro m3 e3 ds s hs3 ⟨rfl,i,cs,hm3,hcl3,hmk,rfl,g39⟩ K3 kn3 kx3
     have he3:e3.length=48:=by simp [hs3.1,hEl]
     have g5:=hs3.ev 5 rfl (v:=.ptr (st.length+1) 0) (by simp [g5])
     have g37:=hs3.ev 37 rfl (v:=.lst 1 (ints ks) (parts2Ap x)) (by simp [hEl])
     have g38:=hs3.ev 38 rfl (v:=.int .i64 ks.length) (by simp [hEl,ints_length])
     have hcl3':(bools cs).length=N:=by rw [bools_length,hcl3]
     by_cases hi:i<ks.length
     ·have hgv:=ints_get hi
      obtain ⟨k1,hk1⟩:=Int.eq_ofNat_of_zero_le (hAk _ (List.getElem_mem hi)).1
      have hkk:=(hAk _ (List.getElem_mem hi)).2
      rw [drop_get hi,markF,List.foldl_cons] at hmk
      rw [hk1] at hgv hkk hmk
      have hk1N:k1<N:=by omega
      have hle:k1+1≤N:=by omega
      have w2:IntKind.i64.wrap ((i:Int)+1)=(i:Int)+1:=wrap_i64 (by omega) (by omega)
      simp [a124_0,C124,g5,g37,g38,g39,he3,hi,ints_length,hgv,hk1N,hle,hcl3',bools_set,w2]
      exact kn3 (m3-1) _ _ _ (by omega) ⟨rfl,i+1,cs.set k1 true,by omega,by simpa using hcl3,by simpa [markF] using hmk,by simp [C124],by simp [he3]⟩
     ·have hil:i=ks.length:=by omega
      rw [hil,List.drop_length] at hmk
      have hmk:cs=markF bs ks:=hmk
      simp [a124_0,g38,g39,he3,hi]
      refine kx3 _ _ _ _ nofun fun hs'=>?_
      simp
      refine hn _ _ (by simp [C124]) ⟨rfl,cs,l2,by simp [C124],by have:=hfin cs;simpa [C124] using this,hcl3,by rw [show N-(k+1)=j by omega,hmk];exact hdn⟩)
   (fun s hJ=>by
    obtain ⟨bs,l,h0,hok,hbl,hdn⟩:=hJ
    exact ⟨bs,l,h0,hok,hbl,by simpa [downF] using hdn⟩)
   ⟨cur,[],by simp,hok0,hcl,by simp⟩
  refine aw_range (s:=.ready) (pend:=none) (f':=124) (site':=0) (ps':=[30,31]) (env':=E) (d':=st.length+2) (st3:=C124 st N E bs .ready++l) hf (by simpa [C124,Nat.add_assoc] using hr) (by simp [C124,Nat.add_assoc]) (by simp) ?_
  simp [pendEx,C124,g5,hEl,Nat.add_assoc,set_base,get_base]
  have hg1:group 1 false N (bools bs)=bools bs:=by have:=group_cell (bools bs);rwa [bools_length,hbl] at this
  refine hK _ _ _ _ _ (.inl rfl) (by simp [set_base,get_base];rfl) (by simp) ⟨_,rfl,?_⟩
  rw [←hspec,←hfin]
  simp [hEl,bools_length,hbl,low_bools,hg1]
end Go.Proofs.YtefildelnccljaaGreat
namespace Go.Proofs.YtefildelnccljaaGreat
open Go Ai
theorem fn84:A.fn 84=some a84:=by kernel_rfl
theorem prim84:A.prim 84=none:=by kernel_rfl
theorem fn83:A.fn 83=some a83:=by kernel_rfl
theorem prim83:A.prim 83=none:=by kernel_rfl
def w83_0:List Nat:=a83_0.writes
def w83_1:List Nat:=a83_1.writes
def w83_2:List Nat:=a83_2.writes
theorem Ai.Fit.get {s s':St} (h:Fit s s') {j:Nat} {o:AObj} (g:s[j]?=some o):s'[j]?=some o:=by
 have hlt:=(List.getElem?_eq_some_iff.1 g).1
 have:=congrArg (·[j]?) h.take
 simp only [List.getElem?_take,hlt,if_true] at this
 rw [this,g]
theorem Ai.Fit.steady {s s':St} (h:Fit s s') (B:Nat):Steady B s s':=fun _ _ _ _ g=>h.get g
structure Yld (r B M:Nat) (J:List Int→St→Prop):Prop where
 ok:∀{acc s},J acc s→StOk s
 fit:∀{acc s s'},J acc s→Fit s s'→J acc s'
 round:∀{acc s} (at':Int),J acc s→acc.length<M→∃s',runL A (.round r [.int .i64 at']) s=some ⟨.ret,⟨[.bool true],[]⟩,s'⟩∧J (acc++[at']) s'∧Steady B s s'∧s.length≤s'.length
theorem tell84 {r B M:Nat} {J:List Int→St→Prop} (Y:Yld r B M J) {acc:List Int} {s:St} (at':Int) (h:J acc s) (hm:acc.length<M) :
  ∃s',runL A (.call 84 [.int .i64 at',.iptr (.func (.yield r) [] [])]) s=some ⟨.ret,⟨[.tup []],[]⟩,s'⟩∧J (acc++[at']) s'∧Steady B s s'∧s.length≤s'.length:=by
 obtain ⟨s',h1,h2⟩:=Y.round at' h hm
 refine ⟨s',?_,h2⟩
 refine (task_of_aw_keep (N:=6) prim84 fn84 rfl rfl (st:=s) (st':=s') ?_).1
 intro e he ha K hK
 have a0:=ha 0
 have a1:=ha 1
 clear ha
 simp at a0 a1
 simp [a84,he,a0,a1,h1]
 exact hK _ _ (.inr rfl) ⟨[],rfl,rfl⟩
def againF (d:Dc) (x:It) (i:Int):Bool:=match makesF x i with
 | some v=>!decide ((findF d x.n).getD vr0=v)
 | none=>false
def itemsF (d:Dc):List It→Int→List Int
 | [],_=>[]
 | x::l,i=>(if againF d x i || wrongItemF d x then [x.p] else [])++itemsF d l (i+1)
def exprsF (p:Pg) (d:Dc):List Bool→List Ex→List Int
 | b::bs,x::xs=>(if b && wrongExprF p d x then [x.p] else [])++exprsF p d bs xs
 | _,_=>[]
def declFs (p:Pg) (d:Dc):List Int:=(if (d.ps.map (·.n)).Nodup then [] else [d.p])++itemsF d d.its 0++exprsF p d (reachF p (rootsN d)) p.xs
theorem eq_vr2 (v u:Vr):eqCells [1,0,0,0] [.str v.n,.int .i64 v.s,.int .i64 v.t,.int .i64 v.i] [.str u.n,.int .i64 u.s,.int .i64 u.t,.int .i64 u.i]=some (decide (v=u)):=by
 obtain ⟨a,b,c,d⟩:=v
 obtain ⟨a',b',c',d'⟩:=u
 have k0:(a == a')=decide (a=a'):=Bool.eq_iff_iff.2 (by simp)
 have k1:∀x y:Int,(x == y)=decide (x=y):=fun _ _=>rfl
 by_cases h0:a=a'<;>by_cases h1:b=b'<;>by_cases h2:c=c'<;>by_cases h3:d=d'<;>simp [eqCells,keyKind,sameKey,k0,k1,h0,h1,h2,h3]
structure At83 (J:List Int→St→Prop) (B:Nat) (st:St) (es:List (Sx×Vr)) (acc:List Int) (s:St):Prop where
 j:J acc s
 map:s[st.length]?=some (.map (encM AV.str Vr.av es))
 sd:Steady B st s
 len:st.length≤s.length
theorem At83.fit {r B M:Nat} {J:List Int→St→Prop} (Y:Yld r B M J) {st:St} {es:List (Sx×Vr)} {acc:List Int} {s s':St} (h:At83 J B st es acc s) (hf:Fit s s'):At83 J B st es acc s' :=
 ⟨Y.fit h.j hf,hf.get h.map,h.sd.trans (hf.steady B),Nat.le_trans h.len hf.len⟩
theorem At83.tell {r B M:Nat} {J:List Int→St→Prop} (Y:Yld r B M J) {st:St} (hB:B≤st.length) {es:List (Sx×Vr)} {acc:List Int} {s:St} (h:At83 J B st es acc s) (at':Int) (hm:acc.length<M) :
  ∃s',runL A (.call 84 [.int .i64 at',.iptr (.func (.yield r) [] [])]) s=some ⟨.ret,⟨[.tup []],[]⟩,s'⟩∧At83 J B st es (acc++[at']) s':=by
 obtain ⟨s',h1,h2,h3,h4⟩:=tell84 Y at' h.j hm
 exact ⟨s',h1,h2,h3 _ _ hB nofun h.map,h.sd.trans h3,Nat.le_trans h.len h4⟩
theorem items83 {r B M:Nat} {J:List Int→St→Prop} (Y:Yld r B M J) {d:Dc} (hd:d.Ok) {acc:List Int} {st:St} (hB:B≤st.length) {es:List (Sx×Vr)} (hfind:∀n,getM n es=findF d n)
  {e:Env} {s0:St} (he:e.length=109) (g2:AX.ev e (.t 2)=.func (.func 84) [] [.iptr (.func (.yield r) [] [])]) (g4:AX.ev e (.t 4)=.iptr (.agg d.cs)) (g6:AX.ev e (.t 6)=.map st.length)
  (g39:AX.ev e (.t 39)=.lst 9 (d.its.map It.av) d.iap) (g40:AX.ev e (.t 40)=.int .i64 d.its.length) (g41:AX.ev e (.t 41)=.int .i64 0) (hs0:At83 J B st es acc s0) (hM:(acc++itemsF d d.its 0).length≤M) {Q:PostQ}
  (hq:∀e' s',Same w83_1 e e'→At83 J B st es (acc++itemsF d d.its 0) s'→Q (.exit 2) e' [] s'):AW A 83 none (.loop a83_1) e [] s0 Q:=by
 have hits:=hd.its
 refine aw_loop (W:=w83_1) rfl (fun m e ds s=>ds=[]∧∃(i:Nat) (ac:List Int),i+m=d.its.length∧ac++itemsF d (d.its.drop i) i=acc++itemsF d d.its 0∧At83 J B st es ac s∧AX.ev e (.t 41)=.int .i64 i) d.its.length
  ⟨rfl,0,acc,by simp,by simp,hs0,by simpa using g41⟩ ?_
 rintro m e1 ds s hs ⟨rfl,i,ac,hm,hac,hat,g41⟩ K1 kn kx
 have he1:e1.length=109:=by simp [hs.1,he]
 have g2:=hs.ev 2 rfl g2
 have g4:=hs.ev 4 rfl g4
 have g6:=hs.ev 6 rfl g6
 have g39:=hs.ev 39 rfl g39
 have g40:=hs.ev 40 rfl g40
 simp only [Dc.cs] at g4
 by_cases hi:i<d.its.length
 ·obtain ⟨x,hx⟩:∃x,x=d.its[i]:=⟨_,rfl⟩
  have hxo:x.Ok:=by rw [hx];exact hd.item _ (List.getElem_mem hi)
  have hgx:(d.its.map It.av)[i]'(by simpa using hi)=.agg x.cs:=by simp [It.av,hx]
  rw [drop_get hi,←hx,itemsF] at hac
  have hok:=Y.ok hat.j
  have hf1:Fit s (s++[.cells none x.cs]):=(Fit.refl hok).cells (It.low hxo _)
  have hmk:=makes_call hxo hf1.ok
  have hf2:∀u:Vr,Fit s (s++[.cells none x.cs,.cells none u.cs]):=fun u=>by have:=hf1.cells (cs:=u.cs) (ty:=none) (u.low _);simpa using this
  have scp:∀u:Vr,Scp (s++[.cells none x.cs,.cells none u.cs]) (.map st.length) d:=fun u=>⟨_,es,rfl,(hat.fit Y (hf2 u)).map,hfind⟩
  have hwr:=fun u:Vr=>wrongItem_call hd hxo (hf2 u).ok (scp u)
  have hmap:=fun u:Vr=>(hat.fit Y (hf2 u)).map
  have hget:mapGetA (encM AV.str Vr.av es) (.str x.n)=some ((findF d x.n).map Vr.av):=by rw [get_enc key_str,hfind]
  obtain ⟨V,hV⟩:∃V,V=(findF d x.n).getD vr0:=⟨_,rfl⟩
  have hgV:((findF d x.n).map Vr.av).getD (.agg [.str [],.int .i64 0,.int .i64 0,.int .i64 0])=.agg V.cs:=by rw [hV];cases findF d x.n<;>rfl
  have w1:IntKind.i64.wrap ((i:Int)+1)=(i:Int)+1:=wrap_i64 (by omega) (by omega)
  have nx:∀e2 s2,AX.ev e2 (.t 41)=.int .i64 (i+1)→At83 J B st es (ac++(if againF d x i || wrongItemF d x then [x.p] else [])) s2→K1 .nrm e2 [] s2:=fun e2 s2 h1 h2 =>
   kn (m-1) _ _ _ (by omega) ⟨rfl,i+1,_,by omega,by rw [←hac];simp,h2,by simpa using h1⟩
  simp only [Dc.av,Dc.cs,It.av,It.cs] at hgx hmk hwr hmap
  cases hmx:makesF x 0 with
  | none =>
   have hag:againF d x i=false:=by simp [againF,makes_i x i,hmx]
   rw [hmx] at hmk
   simp [Vr.av,Vr.cs,vr0] at hmk
   have hwr:=hwr vr0
   have hat2:=hat.fit Y (hf2 vr0)
   simp only [Vr.cs,vr0,It.cs] at hwr hat2
   simp [a83_1,g2,g4,g6,g39,g40,g41,he1,hi,hgx,hmk]
   cases hw:wrongItemF d x with
   | false =>
    rw [hw] at hwr
    simp [he1,hwr,w1,g41]
    exact nx _ _ (by simp [he1]) (by simpa [hag,hw] using hat2)
   | true =>
    obtain ⟨s',ht,hat3⟩:=hat2.tell Y hB x.p (by rw [←hac] at hM;simp [hag,hw] at hM;omega)
    rw [hw] at hwr
    simp [he1,hwr,w1,g41,g2,ht]
    exact nx _ _ (by simp [he1]) (by simpa [hag,hw] using hat3)
  | some u =>
   have hag:againF d x i=!decide (V={ u with i:=i }):=by simp [againF,makes_i x i,hmx,hV]
   have hun:u.n=x.n:=by
    unfold makesF at hmx
    by_cases h1:x.k=1<;>by_cases h2:x.k=2<;>by_cases h4:x.k=4<;>by_cases h6:x.k=6<;>simp [h1,h2,h4,h6] at hmx<;>subst hmx<;>rfl
   rw [hmx] at hmk
   simp [Vr.av,Vr.cs] at hmk
   rw [hun] at hmk
   have hwr:=hwr u
   have hmap:=hmap u
   have hat2:=hat.fit Y (hf2 u)
   have heq:=eq_vr2 V { u with i:=i }
   obtain ⟨bq,hbq⟩:∃bq,bq=decide (V={ u with i:=(i:Int) }):=⟨_,rfl⟩
   rw [←hbq] at heq hag
   simp only [Vr.cs,It.cs,hun] at hwr hat2 hmap heq hgV
   cases bq with
   | true =>
    simp at hag
    cases hw:wrongItemF d x with
    | false =>
     rw [hw] at hwr
     simp [a83_1,g2,g4,g6,g39,g40,g41,he1,hi,hgx,hmk,-opA_lookup,opA_lookup',keyKind,mapOf,hmap,hget,-Option.getD_map,hgV,heq,hwr,w1]
     exact nx _ _ (by simp [he1]) (by simpa [hag,hw] using hat2)
    | true =>
     obtain ⟨s',ht,hat3⟩:=hat2.tell Y hB x.p (by rw [←hac] at hM;simp [hag,hw] at hM;omega)
     rw [hw] at hwr
     simp [a83_1,g2,g4,g6,g39,g40,g41,he1,hi,hgx,hmk,-opA_lookup,opA_lookup',keyKind,mapOf,hmap,hget,-Option.getD_map,hgV,heq,hwr,w1,ht]
     exact nx _ _ (by simp [he1]) (by simpa [hag,hw] using hat3)
   | false =>
    simp at hag
    obtain ⟨s',ht,hat3⟩:=hat2.tell Y hB x.p (by rw [←hac] at hM;simp [hag] at hM;omega)
    simp [a83_1,g2,g4,g6,g39,g40,g41,he1,hi,hgx,hmk,-opA_lookup,opA_lookup',keyKind,mapOf,hmap,hget,-Option.getD_map,hgV,heq,w1,ht]
    exact nx _ _ (by simp [he1]) (by simpa [hag] using hat3)
 ·have hil:i=d.its.length:=by omega
  rw [hil,List.drop_length,itemsF,List.append_nil] at hac
  simp [a83_1,g40,g41,he1,hi]
  exact kx _ _ _ _ nofun fun hs'=>hq _ _ hs' (hac▸hat)
theorem exprs83 {r B M:Nat} {J:List Int→St→Prop} (Y:Yld r B M J) {p:Pg} (hp:p.Ok) {d:Dc} (hd:d.Ok) {acc:List Int} {st:St} (hB:B≤st.length) {es:List (Sx×Vr)} (hfind:∀n,getM n es=findF d n) {bs:List Bool} (hbl:bs.length=p.xs.length) {ap:Ap}
  {e:Env} {s0:St} (he:e.length=109) (g2:AX.ev e (.t 2)=.func (.func 84) [] [.iptr (.func (.yield r) [] [])]) (g3:AX.ev e (.t 3)=.iptr p.av) (g4:AX.ev e (.t 4)=.iptr (.agg d.cs)) (g6:AX.ev e (.t 6)=.map st.length)
  (g81:AX.ev e (.t 81)=.lst 1 (bools bs) ap) (g82:AX.ev e (.t 82)=.int .i64 bs.length) (g83:AX.ev e (.t 83)=.int .i64 0) (hs0:At83 J B st es acc s0) (hM:(acc++exprsF p d bs p.xs).length≤M) {Q:PostQ}
  (hq:∀e' s',At83 J B st es (acc++exprsF p d bs p.xs) s'→Q (.exit 4) e' [] s'):AW A 83 none (.loop a83_0) e [] s0 Q:=by
 have hxs:=hp.xs
 refine aw_loop (W:=w83_0) rfl (fun m e ds s=>ds=[]∧∃(i:Nat) (ac:List Int),i+m=bs.length∧ac++exprsF p d (bs.drop i) (p.xs.drop i)=acc++exprsF p d bs p.xs∧At83 J B st es ac s∧AX.ev e (.t 83)=.int .i64 i) bs.length
  ⟨rfl,0,acc,by simp,by simp,hs0,by simpa using g83⟩ ?_
 rintro m e1 ds s hs ⟨rfl,i,ac,hm,hac,hat,g83⟩ K1 kn kx
 have he1:e1.length=109:=by simp [hs.1,he]
 have g2:=hs.ev 2 rfl g2
 have g3:=hs.ev 3 rfl g3
 have g4:=hs.ev 4 rfl g4
 have g6:=hs.ev 6 rfl g6
 have g81:=hs.ev 81 rfl g81
 have g82:=hs.ev 82 rfl g82
 simp only [Dc.cs] at g4
 simp only [Pg.av] at g3
 by_cases hi:i<bs.length
 ·have hix:i<p.xs.length:=by omega
  obtain ⟨x,hx⟩:∃x,x=p.xs[i]:=⟨_,rfl⟩
  obtain ⟨b,hb⟩:∃b,b=bs[i]:=⟨_,rfl⟩
  have hxo:x.Ok:=by rw [hx];exact hp.ex _ (List.getElem_mem hix)
  have hcs:=xs_get hix
  have hgb:(bools bs)[i]?=some (.bool b):=by simp [bools,hb,hi]
  rw [←hx] at hcs
  rw [drop_get hi,drop_get hix,←hx,←hb,exprsF] at hac
  have hok:=Y.ok hat.j
  have hwr:=wrongExpr_call hp hd hxo hok (m:=.map st.length) ⟨_,es,rfl,hat.map,hfind⟩
  have w1:IntKind.i64.wrap ((i:Int)+1)=(i:Int)+1:=wrap_i64 (by omega) (by omega)
  have nx:∀e2 s2,AX.ev e2 (.t 83)=.int .i64 (i+1)→At83 J B st es (ac++(if b && wrongExprF p d x then [x.p] else [])) s2→K1 .nrm e2 [] s2:=fun e2 s2 h1 h2 =>
   kn (m-1) _ _ _ (by omega) ⟨rfl,i+1,_,by omega,by rw [←hac];simp,h2,by simpa using h1⟩
  simp only [Pg.av,Dc.av,Dc.cs,Ex.av,Ex.cs] at hcs hwr
  cases b with
  | false =>
   simp [a83_0,g2,g3,g4,g6,g81,g82,g83,he1,hi,hgb,w1]
   exact nx _ _ (by simp [he1]) (by simpa using hat)
  | true =>
   cases hw:wrongExprF p d x with
   | false =>
    rw [hw] at hwr
    simp [a83_0,g2,g3,g4,g6,g81,g82,g83,he1,hi,hgb,hix,hcs,hwr,w1]
    exact nx _ _ (by simp [he1]) (by simpa [hw] using hat)
   | true =>
    obtain ⟨s',ht,hat3⟩:=hat.tell Y hB x.p (by rw [←hac] at hM;simp [hw] at hM;omega)
    rw [hw] at hwr
    simp [a83_0,g2,g3,g4,g6,g81,g82,g83,he1,hi,hgb,hix,hcs,hwr,w1,ht]
    exact nx _ _ (by simp [he1]) (by simpa [hw] using hat3)
 ·have hil:i=bs.length:=by omega
  have e0:exprsF p d (bs.drop i) (p.xs.drop i)=[]:=by rw [hil,List.drop_length];rfl
  rw [e0,List.append_nil] at hac
  simp [a83_0,g82,g83,he1,hi]
  exact kx _ _ _ _ nofun fun hs'=>hq _ _ (hac▸hat)
def a83t:ACode:=.seq (.reg [⟨some 79,.load 2 true (.t 3),none⟩,⟨some 80,.load 7 true (.t 4),none⟩,⟨some 81,.call (.k (.func (.func 124) [] [])) [.t 79,.t 80],none⟩,⟨some 82,.lenSl (.t 81),none⟩,⟨some 83,.mov (.k (.int .i64 0)),none⟩]) (.block 4 (.loop a83_0))
theorem inDecl_run {r B M:Nat} {J:List Int→St→Prop} (Y:Yld r B M J) {p:Pg} (hp:p.Ok) {d:Dc} (hd:d.Ok) (hA:Ahead p) (hI:Inside p (rootsN d)) {acc:List Int} {st:St} (hB:B≤st.length) (hJ:J acc st) (hM:(acc++declFs p d).length≤M) :
  ∃st',runL A (.call 83 [p.av,d.av,.func (.func 84) [] [.iptr (.func (.yield r) [] [])]]) st=some ⟨.ret,⟨[.tup []],[]⟩,st'⟩∧J (acc++declFs p d) st'∧Steady B st st'∧st.length≤st'.length:=by
 have hst:=Y.ok hJ
 refine Exists.elim (task_of_aw_keep_ex (A:=A) (f:=83) (F:=a83) (args:=[p.av,d.av,.func (.func 84) [] [.iptr (.func (.yield r) [] [])]]) (v:=.tup []) (N:=109) (st:=st)
  (fun s=>J (acc++declFs p d) s∧Steady B st s∧st.length≤s.length) prim83 fn83 rfl rfl ?_) fun st3 h=>⟨st3,h.2.1,h.1⟩
 intro e he ha K hK
 have a0:=ha 0
 have a1:=ha 1
 have a2:=ha 2
 clear ha
 simp [Pg.av,Dc.av,Dc.cs] at a0 a1 a2
 obtain ⟨es,s1,h61,hf1,hmap1,hfind⟩:=scope_call hd hst
 simp only [Dc.av,Dc.cs] at h61
 have hJ1:=Y.fit hJ hf1
 have hst1:=hf1.steady B
 have hps:=hd.ps
 have hits:=hd.its
 simp [a83,he,a0,a1,a2,h61]
 have hlen1:st.length<s1.length:=(List.getElem?_eq_some_iff.1 hmap1).1
 refine aw_loop (W:=w83_2) rfl (fun m e ds s=>ds=[]∧∃(i:Nat) (v:AV) (ac:List Sx),i+m=d.ps.length∧ac=(d.ps.take i).map (·.n)∧Fit s1 s∧Lv s1 s 1 (some 9) v (strs ac) ∧
   AX.ev e (.t 22)=.int .i64 i∧AX.ev e (.t 7)=v) d.ps.length
  ⟨rfl,0,_,[],by simp,by simp,.refl hf1.ok,.nil,by simp [he],by simp [he]⟩ ?_
 rintro m e1 ds s hs ⟨rfl,i,v,ac,hm,hac,hf,hv,g22,g7⟩ K1 kn kx
 have he1:e1.length=109:=by simp [hs.1,he]
 have g2:=hs.ev 2 rfl (v:=.func (.func 84) [] [.iptr (.func (.yield r) [] [])]) (by simp [he,a2])
 have g3:=hs.ev 3 rfl (v:=.iptr p.av) (by simp [he,a0,Pg.av])
 have g4:=hs.ev 4 rfl (v:=.iptr (.agg d.cs)) (by simp [he,a1,Dc.cs])
 have g6:=hs.ev 6 rfl (v:=.map st.length) (by simp [he])
 have g20:=hs.ev 20 rfl (v:=.lst 2 (d.ps.map Pm.av) d.pap) (by simp [he,a1])
 have g21:=hs.ev 21 rfl (v:=.int .i64 d.ps.length) (by simp [he,a1])
 have hacl:ac.length≤i:=by rw [hac];simp;omega
 by_cases hi:i<d.ps.length
 ·obtain ⟨q,hq⟩:∃q,q=d.ps[i]:=⟨_,rfl⟩
  have hgq:(d.ps.map Pm.av)[i]'(by simpa using hi)=.agg [.str q.n,.int .i64 q.t]:=by simp [Pm.av,hq]
  have hf2:Fit s1 (s++[.cells none [.str q.n,.int .i64 q.t]]):=hf.cells (by simp [AV.lowsB,AV.lowB])
  obtain ⟨v',s',p1,p2,p3,p4⟩:=(hv.obj (o:=.cells none [.str q.n,.int .i64 q.t])).push (bytes:=16) (x:=.str q.n) (ap:=.tight) hf2 (by simp [strs_length];omega) (by omega)
  have w1:IntKind.i64.wrap ((i:Int)+1)=(i:Int)+1:=wrap_i64 (by omega) (by omega)
  simp [a83_2,g20,g21,g22,g7,he1,hi,hgq,p1,w1]
  exact kn (m-1) _ _ _ (by omega) ⟨rfl,i+1,v',ac++[q.n],by omega,by rw [take_map hi,hac,hq],p3,by simpa [strs] using p2,by simp [he1],by simp [he1]⟩
 ·have hil:i=d.ps.length:=by omega
  rw [hil,List.take_length] at hac
  obtain ⟨o,hvo⟩:=hv.eq
  have htw:=twice_call (l:=ac) (ap:=o) (by omega) hf.ok
  rw [←hvo] at htw
  simp [a83_2,g21,g22,he1,hi]
  refine kx _ _ _ _ nofun fun hs'=>?_
  simp only [Pg.av] at g3
  simp only [Dc.cs] at g4
  clear kn kx hs hs'
  have hat:At83 J B st es acc s:=⟨Y.fit hJ1 hf,hf.get hmap1,hst1.trans (hf.steady B),Nat.le_trans (by omega) hf.len⟩
  have fin:∀(e2:Env) (s2:St) (acc2:List Int),acc2++itemsF d d.its 0++exprsF p d (reachF p (rootsN d)) p.xs=acc++declFs p d→At83 J B st es acc2 s2→e2.length=109→AX.ev e2 (.t 2)=.func (.func 84) [] [.iptr (.func (.yield r) [] [])] →
    AX.ev e2 (.t 3)=.iptr p.av→AX.ev e2 (.t 4)=.iptr (.agg d.cs)→AX.ev e2 (.t 6)=.map st.length→AX.ev e2 (.t 39)=.lst 9 (d.its.map It.av) d.iap→AX.ev e2 (.t 40)=.int .i64 d.its.length→AX.ev e2 (.t 41)=.int .i64 0 →
    AW A 83 none (.loop a83_1) e2 [] s2 (Blk 2 (SeqQ A 83 none a83t K)):=by
   intro e2 s2 acc2 hacc hat2 hl2 g2 g3 g4 g6 g39 g40 g41
   refine items83 Y hd hB hfind hl2 g2 g4 g6 g39 g40 g41 hat2 (by rw [←hacc] at hM;simp at hM ⊢;omega) fun e3 s3 hs3 hat3=>?_
   have he3:e3.length=109:=by simp [hs3.1,hl2]
   have g2:=hs3.ev 2 rfl g2
   have g3:=hs3.ev 3 rfl g3
   have g4:=hs3.ev 4 rfl g4
   have g6:=hs3.ev 6 rfl g6
   have h124:=reached124_call hp hd hA hI (Y.ok hat3.j)
   have hrl:=reachF_len p (rootsN d)
   simp only [Pg.av,Dc.av,Dc.cs] at h124 g3 g4
   simp [a83t,he3,g3,g4,h124]
   refine exprs83 Y hp hd hB hfind (bs:=reachF p (rootsN d)) (ap:=.no) hrl (by simp [he3]) (by simp [g2]) (by simp [g3,Pg.av]) (by simp [g4,Dc.cs]) (by simp [g6]) (by simp [he3]) (by simp [he3,bools_length]) (by simp [he3]) hat3 (by rw [hacc];exact hM) fun e4 s4 hat4=>?_
   simp
   exact hK _ _ _ (.inr rfl) ⟨by rw [←hacc];exact hat4.j,hat4.sd,hat4.len⟩ ⟨[],rfl,rfl⟩
  by_cases hnd:ac.Nodup
  ·have hnd2:(d.ps.map (·.n)).Nodup:=hac▸hnd
   simp [hnd] at htw
   simp [he1,g7,htw,g4]
   exact fin _ _ acc (by simp [declFs,hnd2]) hat (by simp [he1]) (by simp [g2]) (by simp [g3,Pg.av]) (by simp [g4,Dc.cs]) (by simp [g6]) (by simp [he1]) (by simp [he1]) (by simp [he1])
  ·have hnd2:¬(d.ps.map (·.n)).Nodup:=hac▸hnd
   simp [hnd] at htw
   obtain ⟨s',ht,hat3⟩:=hat.tell Y hB d.p (by simp [declFs,hnd2] at hM;omega)
   simp [he1,g7,htw,g4,g2,ht]
   exact fin _ _ (acc++[d.p]) (by simp [declFs,hnd2]) hat3 (by simp [he1]) (by simp [g2]) (by simp [g3,Pg.av]) (by simp [g4,Dc.cs]) (by simp [g6]) (by simp [he1]) (by simp [he1]) (by simp [he1])
end Go.Proofs.YtefildelnccljaaGreat
namespace Go.Proofs.YtefildelnccljaaGreat
open Go Ai
theorem fn53:A.fn 53=some a53:=by kernel_rfl
theorem prim53:A.prim 53=none:=by kernel_rfl
theorem fn82:A.fn 82=some a82:=by kernel_rfl
theorem prim82:A.prim 82=none:=by kernel_rfl
def w82_0:List Nat:=a82_0.writes
theorem fn20:A.fn 20=some a20:=by kernel_rfl
theorem prim20:A.prim 20=none:=by kernel_rfl
theorem fn21:A.fn 21=some a21:=by kernel_rfl
theorem prim21:A.prim 21=none:=by kernel_rfl
def stepH (d:Dc) (h:Nat):Nat:=if d.k=3 then h+1 else h
def headF (p:Pg) (d:Dc) (n h:Nat):List Int:=if (d.k=3∧1<stepH d h)∨declF p d.n<(n:Int) then [d.p] else []
def declsF (p:Pg):List Dc→Nat→Nat→List Int
 | [],_,h=>if h=0 then [0] else []
 | d::l,n,h=>headF p d n (h)++declFs p d++declsF p l (n+1) (stepH d h)
structure At82 (J:List Int→St→Prop) (B:Nat) (st:St) (acc:List Int) (s:St):Prop where
 j:J acc s
 sd:Steady B st s
 len:st.length≤s.length
theorem At82.fit {r B M:Nat} {J:List Int→St→Prop} (Y:Yld r B M J) {st:St} {acc:List Int} {s s':St} (h:At82 J B st acc s) (hf:Fit s s'):At82 J B st acc s' :=
 ⟨Y.fit h.j hf,h.sd.trans (hf.steady B),Nat.le_trans h.len hf.len⟩
theorem faulty_run {r B M:Nat} {J:List Int→St→Prop} (Y:Yld r B M J) {p:Pg} (hp:p.Ok) (hA:Ahead p) (hI:∀d∈p.ds,Inside p (rootsN d)) {st:St} (hB:B≤st.length) (hJ:J [] st) (hM:(declsF p p.ds 0 0).length≤M) :
  ∃st',runL A (.seqc 82 [.func (.yield r) [] [],.iptr p.av]) st=some ⟨.ret,⟨[.tup []],[]⟩,st'⟩∧J (declsF p p.ds 0 0) st':=by
 refine Exists.elim (task_of_aw_keep_ex (A:=A) (f:=82) (F:=a82) (args:=[.func (.yield r) [] [],.iptr p.av]) (v:=.tup []) (N:=47) (st:=st)
  (fun s=>J (declsF p p.ds 0 0) s) prim82 fn82 rfl rfl ?_) fun st3 h=>⟨st3,h.2.2,h.1⟩
 intro e he ha K hK
 have a0:=ha 0
 have a1:=ha 1
 clear ha
 simp [Pg.av] at a0 a1
 have hds:=hp.ds
 simp [a82,he,a0,a1]
 refine aw_loop (W:=w82_0) rfl (fun m e ds s=>ds=[]∧∃(i h:Nat) (ac:List Int),i+m=p.ds.length∧h≤i∧ac++declsF p (p.ds.drop i) i h=declsF p p.ds 0 0∧At82 J B st ac s∧AX.ev e (.t 9)=.int .i64 i∧AX.ev e (.t 3)=.int .i64 h) p.ds.length
  ⟨rfl,0,0,[],by simp,by simp,by simp,⟨hJ,Steady.refl _ _,Nat.le_refl _⟩,by simp [he],by simp [he]⟩ ?_
 rintro m e1 ds s hs ⟨rfl,i,h,ac,hm,hhi,hac,hat,g9,g3⟩ K1 kn kx
 have he1:e1.length=47:=by simp [hs.1,he]
 have g1:=hs.ev 1 rfl (v:=.iptr p.av) (by simp [he,a1,Pg.av])
 have g2:=hs.ev 2 rfl (v:=.iptr (.func (.yield r) [] [])) (by simp [he,a0])
 have g7:=hs.ev 7 rfl (v:=.lst 7 (p.ds.map Dc.av) p.dap) (by simp [he,a1])
 have g8:=hs.ev 8 rfl (v:=.int .i64 p.ds.length) (by simp [he,a1])
 simp only [Pg.av] at g1
 by_cases hi:i<p.ds.length
 ·obtain ⟨d,hd⟩:∃d,d=p.ds[i]:=⟨_,rfl⟩
  have hdm:d∈p.ds:=by rw [hd];exact List.getElem_mem hi
  have hdo:d.Ok:=hp.dc _ hdm
  have hcs:=ds_get hi
  rw [←hd] at hcs
  rw [drop_get hi,←hd,declsF] at hac
  have hok:=Y.ok hat.j
  have hf1:Fit s (s++[.cells none d.cs]):=(Fit.refl hok).cells (Dc.low hdo _)
  have hat1:=hat.fit Y hf1
  have h63:=decl63_call hp (n:=d.n) hf1.ok
  have hBs:B≤s.length:=Nat.le_trans hB hat.len
  have hg1:(s++[.cells none d.cs])[s.length]?=some (.cells none d.cs):=by simp
  have hMl:(ac++(headF p d i h++declFs p d)).length≤M:=by rw [←hac] at hM;simp at hM ⊢;omega
  have w1:IntKind.i64.wrap ((i:Int)+1)=(i:Int)+1:=wrap_i64 (by omega) (by omega)
  have w2:IntKind.i64.wrap ((h:Int)+1)=(h:Int)+1:=wrap_i64 (by omega) (by omega)
  -- behind the head
  have tail:∀(s2:St),At82 J B st (ac++headF p d i h) s2→s2[s.length]?=some (.cells none d.cs) →
    ∃s3,runL A (.call 83 [p.av,.agg d.cs,.func (.func 84) [] [.iptr (.func (.yield r) [] [])]]) s2=some ⟨.ret,⟨[.tup []],[]⟩,s3⟩∧At82 J B st (ac++(headF p d i h++declFs p d)) s3:=by
   intro s2 hat2 hg2
   obtain ⟨s3,h1,h2,h3,h4⟩:=inDecl_run Y hp hdo hA (hI d hdm) (Nat.le_trans hB hat2.len) hat2.j (by simpa using hMl)
   exact ⟨s3,h1,by simpa using h2,hat2.sd.trans h3,Nat.le_trans hat2.len h4⟩
  have nx:∀e2 s2,AX.ev e2 (.t 9)=.int .i64 (i+1)→AX.ev e2 (.t 3)=.int .i64 (stepH d h:Nat)→At82 J B st (ac++(headF p d i h++declFs p d)) s2→K1 .nrm e2 [] s2:=fun e2 s2 h1 h2 h3 =>
   kn (m-1) _ _ _ (by omega) ⟨rfl,i+1,stepH d h,_,by omega,by unfold stepH;split<;>omega,by rw [←hac];simp,h3,by simpa using h1,h2⟩
  have tell:headF p d i h=[d.p]→∃s2,runL A (.round r [.int .i64 d.p]) (s++[.cells none d.cs])=some ⟨.ret,⟨[.bool true],[]⟩,s2⟩∧At82 J B st (ac++headF p d i h) s2∧s2[s.length]?=some (.cells none d.cs):=by
   intro hh
   obtain ⟨s2,h1,h2,h3,h4⟩:=Y.round d.p hat1.j (by rw [hh] at hMl;simp at hMl;omega)
   exact ⟨s2,h1,⟨by rw [hh];exact h2,hat1.sd.trans h3,Nat.le_trans hat1.len h4⟩,h3 _ _ hBs nofun hg1⟩
  simp only [Pg.av] at h63 tail
  have key:∀(D:Int),D=declF p d.n→((d.k=3∧1<stepH d h)∨D<(i:Int))=((d.k=3∧1<stepH d h)∨declF p d.n<(i:Int)):=by intro D e;rw [e]
  generalize hD:declF p d.n=D at *
  have hH:headF p d i h=if (d.k=3∧1<stepH d h)∨D<(i:Int) then [d.p] else []:=by rw [headF,hD]
  have hat1n:headF p d i h=[]→At82 J B st (ac++headF p d i h) (s++[.cells none d.cs]):=by intro e;rw [e];simpa using hat1
  simp only [Dc.cs] at hcs tail tell hat1n hg1 h63
  by_cases k3:d.k=3
  ·have hst:stepH d h=h+1:=by simp [stepH,k3]
   by_cases h0:0<h
   ·have hh:headF p d i h=[d.p]:=by rw [hH,if_pos (.inl ⟨k3,by omega⟩)]
    obtain ⟨s2,t1,t2,t3⟩:=tell hh
    obtain ⟨s3,u1,u2⟩:=tail s2 t2 t3
    have hh':(1:Int)<(h:Int)+1:=by omega
    simp only [k3] at u1 t1 t3
    simp [a82_0,g1,g2,g3,g7,g8,g9,he1,hi,hcs,k3,w1,w2,hh',t1,t3,u1]
    exact nx _ _ (by simp [he1]) (by simp [he1,hst]) u2
   ·have h00:h=0:=by omega
    subst h00
    by_cases hDi:D<(i:Int)
    ·have hh:headF p d i 0=[d.p]:=by rw [hH,if_pos (.inr hDi)]
     obtain ⟨s2,t1,t2,t3⟩:=tell hh
     obtain ⟨s3,u1,u2⟩:=tail s2 t2 t3
     simp only [k3] at u1 t1 t3 h63
     simp at w2 g3
     simp [a82_0,g1,g2,g3,g7,g8,g9,he1,hi,hcs,k3,w1,w2,h63,hDi,t1,t3,u1]
     exact nx _ _ (by simp [he1]) (by simp [he1,hst]) u2
    ·have hh:headF p d i 0=[]:=by rw [hH,if_neg];rw [hst];omega
     obtain ⟨s3,u1,u2⟩:=tail _ (hat1n hh) hg1
     simp only [k3] at u1 h63
     simp at w2 g3
     simp [a82_0,g1,g2,g3,g7,g8,g9,he1,hi,hcs,k3,w1,w2,h63,hDi,u1]
     exact nx _ _ (by simp [he1]) (by simp [he1,hst]) u2
  ·have hst:stepH d h=h:=by simp [stepH,k3]
   by_cases hDi:D<(i:Int)
   ·have hh:headF p d i h=[d.p]:=by rw [hH,if_pos (.inr hDi)]
    obtain ⟨s2,t1,t2,t3⟩:=tell hh
    obtain ⟨s3,u1,u2⟩:=tail s2 t2 t3
    simp [a82_0,g1,g2,g3,g7,g8,g9,he1,hi,hcs,k3,w1,w2,h63,hDi,t1,t3,u1]
    exact nx _ _ (by simp [he1]) (by simp [he1,hst,g3]) u2
   ·have hh:headF p d i h=[]:=by rw [hH,if_neg];omega
    obtain ⟨s3,u1,u2⟩:=tail _ (hat1n hh) hg1
    simp [a82_0,g1,g2,g3,g7,g8,g9,he1,hi,hcs,k3,w1,w2,h63,hDi,u1]
    exact nx _ _ (by simp [he1]) (by simp [he1,hst,g3]) u2
 ·have hil:i=p.ds.length:=by omega
  rw [hil,List.drop_length,declsF] at hac
  simp [a82_0,g8,g9,he1,hi]
  refine kx _ _ _ _ nofun fun hs'=>?_
  by_cases h0:h=0
  ·subst h0
   simp at hac g3
   obtain ⟨s2,t1,t2,t3,t4⟩:=Y.round 0 hat.j (by rw [←hac] at hM;simp at hM;omega)
   simp [he1,g3,g2,t1]
   exact hK _ _ _ (.inr rfl) (by rw [←hac];exact t2) ⟨[],rfl,rfl⟩
  ·simp [h0] at hac
   have h0':¬(h:Int)=0:=by omega
   simp [he1,g3,h0,h0']
   exact hK _ _ _ (.inr rfl) (by rw [←hac];exact hat.j) ⟨[],rfl,rfl⟩
theorem faulty53_call {p:Pg} (hp:p.Ok) {st:St} (hst:StOk st):runL A (.call 53 [p.av]) st=some ⟨.ret,⟨[.func (.func 82) [] [.iptr p.av]],[]⟩,st⟩:=by
 have hpl:=Pg.low hp st.length
 refine (task_of_aw (N:=4) prim53 fn53 rfl rfl hst ?_).1
 intro e he ha K hK
 have a0:=ha 0
 clear ha
 simp [Pg.av] at a0
 simp only [Pg.av] at hpl
 simp [a53,he,a0]
 exact hK _ _ _ (.inl rfl) (by simp) ⟨_,rfl,by simp [he,Pg.av,AV.lowsB,-AV.lowB];simpa [AV.lowB,AV.lowsB] using hpl⟩
def C20 (st:St) (env:Env) (v:AV) (s:LoopState):St:=st++[.cells none [v],.defr (some []),.loop s none 20 0 [10] env (st.length+1)]
theorem C20_len {st env v s}:(C20 st env v s).length=st.length+3:=by simp [C20]
def ats (l:List Int):List Fa:=l.map fun a=>(4,a)
def J20 (st:St) (E:Env) (acc:List Int) (s:St):Prop:=∃ap l',s=C20 st E (.lst 2 (fls (ats acc)) ap) .ready++l'∧StOk s∧Own s (st.length+3) 2 (some 27) ap acc.length
def faultsN (p:Pg):List Fa:=if may7 p then orderF (ats (declsF p p.ds 0 0)) else []
theorem ats_len (l:List Int):(ats l).length=l.length:=by simp [ats]
theorem yld20 {st:St} {E:Env} (hE:E.length=18) (h3:AX.ev E (.t 3)=.ptr st.length 0) (hlE:AV.lowsB (st.length+3) E=true):Yld (st.length+2) (st.length+3) 4000000 (J20 st E) where
 ok h:=by obtain ⟨_,_,_,h,_⟩:=h;exact h
 fit:=by
  rintro acc s s' ⟨ap,l',rfl,h1,h2⟩ hf
  refine ⟨ap,l'++s'.drop ((C20 st E (.lst 2 (fls (ats acc)) ap) .ready++l').length),?_,hf.ok,?_⟩
  ·have:=List.take_append_drop ((C20 st E (.lst 2 (fls (ats acc)) ap) .ready++l').length) s'
   rw [hf.take,List.append_assoc] at this
   exact this.symm
  ·rcases h2 with h | ⟨a,id,b,c,d⟩
   ·exact .inl h
   ·exact .inr ⟨a,id,b,c,hf.get d⟩
 round:=by
  rintro acc s at' ⟨ap,l,h0,hok,how⟩ hm
  have hlp:s[st.length+2]?=some (.loop .ready none 20 0 [10] E (st.length+1)):=by rw [h0];simp [C20]
  have hlt:=(List.getElem?_eq_some_iff.1 hlp).1
  obtain ⟨b,s',hr,hb,hJ,hsd,hln⟩:=round_of_aw (A:=A) (fn:=20) (r:=st.length+2) (F:=a20) (site:=0) (ps:=[10]) (env:=E) (d:=st.length+1) (pend:=none) (args:=[.int .i64 at']) (st:=s)
   (asg:=(a20.sites.getD 0 (.skip,.skip)).1) (body:=(a20.sites.getD 0 (.skip,.skip)).2) (env1:=((E.set 10 (.int .i64 at')).set 4 (.int .i64 at')))
   (G:=fun b st'=>b=true∧J20 st E (acc++[at']) st'∧Steady (st.length+3) s st'∧s.length≤st'.length)
   fn20 rfl rfl hlp (by simp [a20,hE]) (by
    intro K hn hr' _
    simp only [a20,List.getD_cons_zero]
    have hS:s.set (st.length+2) (.loop .busy none 20 0 [10] E (st.length+1))=C20 st E (.lst 2 (fls (ats acc)) ap) .busy++l:=by rw [h0];simp [C20,set_base]
    have hokb:StOk (C20 st E (.lst 2 (fls (ats acc)) ap) .busy++l):=by
     rw [←hS];exact hok.set' (by have:=hok.get hlp;simpa [AObj.lowB] using this)
    have howb:Own (C20 st E (.lst 2 (fls (ats acc)) ap) .busy++l) (st.length+3) 2 (some 27) ap acc.length:=by
     rw [←hS];exact how.set (by omega)
    have hww:=howb.weak
    rw [←ats_len acc,←fls_length] at hww
    obtain ⟨ap',st2,hap,ho',hg,_⟩:=append_own (bytes:=16) (ap0:=.tight) (ys:=[fl (4,at')]) (es:=fls (ats acc)) (b:=st.length+3) (by simp [C20_len]) hww (by simp) (by simp [Ai.great,fls_length,ats_len];omega) (by omega)
    have hsd2:=append_steady (b:=st.length+3) hap
    obtain ⟨l2,rfl⟩:=hg.split C20_len
    have hok2:=hg.ok hokb
    have e1:fls (ats acc)++[fl (4,at')]=fls (ats (acc++[at'])):=by simp [fls,ats]
    rw [e1] at hap ho'
    have hlow:AV.lowB (C20 st E (.lst 2 (fls (ats acc)) ap) .busy++l2).length (.lst 2 (fls (ats (acc++[at']))) ap')=true:=own_low ho'.weak (lows_fls _ _)
    have hlow1:AObj.lowB (C20 st E (.lst 2 (fls (ats acc)) ap) .busy++l2).length (.cells none [.lst 2 (fls (ats (acc++[at']))) ap'])=true:=by rw [AObj.lowB,AV.lowsB,AV.lowsB,hlow];rfl
    have hfin:StOk (C20 st E (.lst 2 (fls (ats (acc++[at']))) ap') .ready++l2):=by
     have h1:=(hok2.set' (i:=st.length) (o:=.cells none [.lst 2 (fls (ats (acc++[at']))) ap']) hlow1).set' (i:=st.length+2) (o:=.loop .ready none 20 0 [10] E (st.length+1)) (by
      have:=hok.get hlp
      simp only [AObj.lowB,Bool.and_eq_true,decide_eq_true_eq] at this ⊢
      refine ⟨AV.lows_le (by simp [C20_len]<;>omega) _ hlE,by simp [C20_len]<;>omega⟩)
     simpa [C20,set_base,set_base0] using h1
    have hfl:fl (4,at')=.agg [.int .i64 4,.int .i64 at']:=rfl
    have hsdA:Steady (st.length+3) s (C20 st E (.lst 2 (fls (ats (acc++[at']))) ap') .ready++l2):=by
     have h1:Steady (st.length+3) s (C20 st E (.lst 2 (fls (ats acc)) ap) .busy++l):=by rw [←hS];exact Steady.set (by omega)
     exact (h1.trans hsd2).trans (Steady.suffix C20_len C20_len)
    have hlen2:s.length≤(C20 st E (.lst 2 (fls (ats (acc++[at']))) ap') .ready++l2).length:=by
     have:=hg.len;rw [h0];simp [C20_len] at this ⊢<;>omega
    have hown:Own (C20 st E (.lst 2 (fls (ats (acc++[at']))) ap') .ready++l2) (st.length+3) 2 (some 27) ap' (acc++[at']).length:=by
     have h1:=(ho'.set (i:=st.length) (o:=.cells none [.lst 2 (fls (ats (acc++[at']))) ap']) (by omega)).set (i:=st.length+2) (o:=.loop .ready none 20 0 [10] E (st.length+1)) (by omega)
     simpa [C20,set_base,set_base0,fls_length,ats_len] using h1
    rw [hS]
    rw [hfl] at hap
    simp [C20] at hap
    simp [C20,hE,h3,hap]
    refine hn _ _ (by simp) ⟨rfl,⟨ap',l2,by simp [C20],?_,?_⟩,?_,?_⟩
    ·simpa [C20] using hfin
    ·simpa [C20] using hown
    ·simpa [C20] using hsdA
    ·simpa [C20] using hlen2)
  exact ⟨s',by rw [hr,hb],hJ,hsd,hln⟩
structure Sound (p:Pg):Prop where
 ok:p.Ok
 may:may7 p=true
 ahead:Ahead p
 inside:∀d∈p.ds,Inside p (rootsN d)
def faultsAp (p:Pg):Ap:=if may7 p then .no else .tight
theorem faults20_call {p:Pg} (hp:p.Ok) (hs:may7 p=true→Sound p∧(declsF p p.ds 0 0).length≤4000000) {st:St} (hst:StOk st):runL A (.call 20 [p.av]) st=some ⟨.ret,⟨[.lst 2 (fls (faultsN p)) (faultsAp p)],[]⟩,st⟩:=by
 have h52:=mayN_call hp hst
 rw [mayN_may7] at h52
 simp only [Pg.av] at h52
 refine (task_of_aw_d (N:=18) prim20 fn20 rfl rfl hst ?_).1
 intro e he ha K hK
 have a0:=ha 0
 have hpl:=Pg.low hp (st.length+3)
 have hlow:AV.lowsB (st.length+3) e=true:=lows_args ha (by simp only [AV.lowsB,hpl,Bool.and_true])
 clear ha
 simp [Pg.av] at a0
 cases hm:may7 p with
 | false =>
  rw [hm] at h52
  simp [a20,he,a0,h52]
  exact hK _ _ _ _ _ (.inl rfl) rfl (by simp) ⟨_,rfl,by simp [he,faultsN,faultsAp,hm,fls,AV.stills]⟩
 | true =>
  obtain ⟨hS,hlen⟩:=hs hm
  rw [hm] at h52
  have hst1:StOk (st++[.cells none [.lst 2 [] .tight]]):=obj_ok hst rfl
  have h53:=faulty53_call hp hst1
  simp only [Pg.av] at h53 hpl
  simp [a20,he,a0,h52,h53]
  generalize hE:(List.set _ 9 _:Env)=E
  have g3:AX.ev E (.t 3)=.ptr st.length 0:=by subst hE;simp [he]
  have hEl:E.length=18:=by subst hE;simp [he]
  have hf:AX.ev E (.t 9)=.func (.func 82) [] [.iptr p.av]:=by subst hE;simp [he,Pg.av]
  have hlE:AV.lowsB (st.length+3) E=true:=by
   subst hE
   repeat' refine lows_set ?_ (by first | (simp [AV.lowB,AV.lowsB];done) | (simpa [AV.lowB,AV.lowsB] using hpl))
   exact hlow
  clear hE
  have Y:=yld20 hEl g3 hlE
  have hJ0:J20 st E [] (C20 st E (.lst 2 [] .tight) .ready):=by
   refine ⟨.tight,[],by simp [ats,fls],?_,.nil⟩
   have h:=(hst1.snoc (o:=.defr (some [])) rfl).snoc (o:=.loop .ready none 20 0 [10] E (st.length+1)) (by simp [AObj.lowB];exact hlE)
   simpa [C20] using h
  obtain ⟨st3,hr,ap,l,rfl,hok3,how⟩:=faulty_run Y hp hS.ahead hS.inside (by simp [C20_len]) hJ0 hlen
  have hor:=order_call (l:=ats (declsF p p.ds 0 0)) (ap:=ap) (by rw [ats_len];omega) (st:=C20 st E (.lst 2 (fls (ats (declsF p p.ds 0 0))) ap) .exhausted++l) (by
   have h1:=hok3.set' (i:=st.length+2) (o:=.loop .exhausted none 20 0 [10] E (st.length+1)) (by
    have:=hok3.get (i:=st.length+2) (o:=.loop .ready none 20 0 [10] E (st.length+1)) (by simp [C20])
    simpa [AObj.lowB] using this)
   simpa [C20,set_base] using h1)
  have hfn:faultsN p=orderF (ats (declsF p p.ds 0 0)):=by simp [faultsN,hm]
  refine aw_range (s:=.ready) (pend:=none) (f':=20) (site':=0) (ps':=[10]) (env':=E) (d':=st.length+1) (st3:=C20 st E (.lst 2 (fls (ats (declsF p p.ds 0 0))) ap) .ready++l) hf (by simpa [C20,Nat.add_assoc] using hr) (by simp [C20,Nat.add_assoc]) (by simp) ?_
  simp [C20] at hor
  simp [pendEx,C20,g3,hEl,Nat.add_assoc,set_base,get_base,hor]
  exact hK _ _ _ _ _ (.inl rfl) (by simp [set_base,get_base];rfl) (by simp) ⟨_,rfl,by rw [hfn];simp [hEl,faultsAp,hm,stills_fls]⟩
def rightN (p:Pg):Bool:=may7 p && decide ((faultsN p).length=0)
theorem right21_call {p:Pg} (hp:p.Ok) (hs:may7 p=true→Sound p∧(declsF p p.ds 0 0).length≤4000000) {st:St} (hst:StOk st):runL A (.call 21 [p.av]) st=some ⟨.ret,⟨[.bool (rightN p)],[]⟩,st⟩:=by
 have h52:=mayN_call hp hst
 rw [mayN_may7] at h52
 have h20:=faults20_call hp hs hst
 simp only [Pg.av] at h52 h20
 refine (task_of_aw (N:=11) prim21 fn21 rfl rfl hst ?_).1
 intro e he ha K hK
 have a0:=ha 0
 clear ha
 simp [Pg.av] at a0
 cases hm:may7 p with
 | false =>
  rw [hm] at h52
  simp [a21,he,a0,h52]
  exact hK _ _ _ (.inl rfl) (by simp) ⟨_,rfl,by simp [he,rightN,hm]⟩
 | true =>
  rw [hm] at h52
  simp [a21,he,a0,h52,h20,fls_length]
  exact hK _ _ _ (.inl rfl) (by simp) ⟨_,rfl,by simp [he,rightN,hm]⟩
end Go.Proofs.YtefildelnccljaaGreat
namespace Go.Proofs.YtefildelnccljaaGreat
open Go Ai
theorem fn22:A.fn 22=some a22:=by kernel_rfl
theorem prim22:A.prim 22=none:=by kernel_rfl
def w22_0:List Nat:=a22_0.writes
def w22_1:List Nat:=a22_1.writes
def w22_2:List Nat:=a22_2.writes
def w22_3:List Nat:=a22_3.writes
def w22_4:List Nat:=a22_4.writes
def w22_5:List Nat:=a22_5.writes
def w22_6:List Nat:=a22_6.writes
theorem addF_idem (l:List Fa) (f:Fa):addF (addF l f) f=addF l f:=by
 rw [addF,if_pos ((addF_mem l f f).2 (.inl rfl))]
def addB (l:List Fa) (f:Fa) (b:Bool):List Fa:=if b then addF l f else l
theorem addB_len (l:List Fa) (f:Fa) (b:Bool):(addB l f b).length≤l.length+1:=by
 unfold addB;split
 ·have:=addF_len l f;omega
 ·omega
theorem params22 {st:St} {d:Dc} (hd:d.Ok) {r0:Nat} {s:St} (hok:StOk s) (hr0:s[r0]?=some (.cells none d.cs)) {L:List Fa} (hL:L.length≤10000000) {e:Env} (he:e.length=301)
  (g6:AX.ev e (.t 6)=.ptr r0 0) (g7:AX.ev e (.t 7)=.int .i64 0) {ap0:Ap} (hap0:Still ap0) (g3:AX.ev e (.t 3)=.lst 2 (fls L) ap0) {Q:PostQ}
  (hq:∀e' ap',Same w22_5 e e'→Still ap'→AX.ev e' (.t 3)=.lst 2 (fls (addB L (4,d.p) (decide (¬(d.ps.map (·.n)).Nodup)))) ap'→Q (.exit 2) e' [] s):AW A 22 none (.loop a22_5) e [] s Q:=by
 have hps:=hd.ps
 simp only [Dc.cs] at hr0
 refine aw_loop (W:=w22_5) rfl (fun m e ds s'=>ds=[]∧s'=s∧∃(i:Nat) (ap:Ap),i+m=d.ps.length∧Still ap∧AX.ev e (.t 3)=.lst 2 (fls (addB L (4,d.p) (decide (¬((d.ps.take i).map (·.n)).Nodup)))) ap∧AX.ev e (.t 7)=.int .i64 i) d.ps.length
  ⟨rfl,rfl,0,ap0,by simp,hap0,by simpa [addB] using g3,by simpa using g7⟩ ?_
 rintro m e1 ds s' hs ⟨rfl,rfl,i,ap,hm,hap,g3,g7⟩ K1 kn kx
 have he1:e1.length=301:=by simp [hs.1,he]
 have g6:=hs.ev 6 rfl g6
 by_cases hi:i<d.ps.length
 ·obtain ⟨q,hq1⟩:∃q,q=d.ps[i]:=⟨_,rfl⟩
  have hgq:(d.ps.map Pm.av)[i]'(by simpa using hi)=.agg [.str q.n,.int .i64 q.t]:=by simp [Pm.av,hq1]
  have hnd:((d.ps.take (i+1)).map (·.n)).Nodup↔((d.ps.take i).map (·.n)).Nodup∧q.n ∉ (d.ps.take i).map (·.n):=by
   rw [take_map hi,←hq1,List.nodup_append]
   simp only [List.nodup_cons,List.not_mem_nil,not_false_eq_true,List.nodup_nil,and_true,true_and,List.mem_singleton,ne_eq,forall_eq]
   constructor
   ·rintro ⟨h1,h2⟩;exact ⟨h1,fun h=>h2 _ h rfl⟩
   ·rintro ⟨h1,h2⟩;exact ⟨h1,fun a ha e=>h2 (e▸ha)⟩
  have w1:IntKind.i64.wrap ((i:Int)+1)=(i:Int)+1:=wrap_i64 (by omega) (by omega)
  simp [a22_5,g6,g7,he1,hr0,hi]
  obtain ⟨b0,hb0⟩:∃b0,b0=decide (¬((d.ps.take i).map (·.n)).Nodup):=⟨_,rfl⟩
  rw [←hb0] at g3
  refine aw_loop (W:=w22_4) rfl (fun m e ds s2=>ds=[]∧s2=s'∧∃(k:Nat) (ap:Ap),k+m=i∧Still ap∧AX.ev e (.t 3)=.lst 2 (fls (addB L (4,d.p) (b0 || decide (q.n∈(d.ps.take k).map (·.n))))) ap∧AX.ev e (.t 8)=.int .i64 k) i
   ⟨rfl,rfl,0,ap,by simp,hap,by simp [g3],by simp [he1]⟩ ?_
  rintro m2 e2 ds s2 hs2 ⟨rfl,rfl,k,ap2,hm2,hap2,g3,g8⟩ K2 kn2 kx2
  have he2:e2.length=301:=by simp [hs2.1,he1]
  have g6:=hs2.ev 6 rfl (v:=.ptr r0 0) (by simp [g6])
  have g7:=hs2.ev 7 rfl (v:=.int .i64 i) (by simp [g7])
  by_cases hk:k<i
  ·have hkl:k<d.ps.length:=by omega
   obtain ⟨u,hu⟩:∃u,u=d.ps[k]:=⟨_,rfl⟩
   have hgu:(d.ps.map Pm.av)[k]'(by simpa using hkl)=.agg [.str u.n,.int .i64 u.t]:=by simp [Pm.av,hu]
   have hmem:q.n∈(d.ps.take (k+1)).map (·.n)↔q.n∈(d.ps.take k).map (·.n)∨q.n=u.n:=by rw [take_map hkl,←hu];simp
   have hk':(k:Int)<(i:Int):=by omega
   obtain ⟨B2,hB2⟩:∃B2,B2=(b0 || decide (q.n∈(d.ps.take k).map (·.n))):=⟨_,rfl⟩
   rw [←hB2] at g3
   have hstep:(b0 || decide (q.n∈(d.ps.take (k+1)).map (·.n)))=(B2 || decide (q.n=u.n)):=by rw [hB2,Bool.or_assoc];congr 1;simp only [hmem,Bool.decide_or]
   have hadd:=add_call (l:=addB L (4,d.p) B2) (f:=(4,d.p)) (ap:=ap2) (by have:=addB_len L (4,d.p) B2;omega) hap2 hok
   obtain ⟨L2,hL2⟩:∃L2,L2=addB L (4,d.p) B2:=⟨_,rfl⟩
   rw [←hL2] at g3 hadd
   simp only [fl] at hadd
   have w2:IntKind.i64.wrap ((k:Int)+1)=(k:Int)+1:=wrap_i64 (by omega) (by omega)
   by_cases hb:q.n=u.n
   ·have hnew:addF L2 (4,d.p)=addB L (4,d.p) (b0 || decide (q.n∈(d.ps.take (k+1)).map (·.n))):=by
     rw [hstep,hL2]
     cases B2<;>simp [addB,addF_idem,hb]
    simp [a22_4,g3,g6,g7,g8,he2,hr0,hk',hi,hkl,hgq,hgu,hb,hadd,w2]
    exact kn2 (m2-1) _ _ _ (by omega) ⟨rfl,rfl,k+1,_,by omega,addAp_still hap2,by rw [←hnew];simp [he2];rfl,by simp [he2]⟩
   ·simp [a22_4,g3,g6,g7,g8,he2,hr0,hk',hi,hkl,hgq,hgu,hb,w2]
    exact kn2 (m2-1) _ _ _ (by omega) ⟨rfl,rfl,k+1,ap2,by omega,hap2,by rw [hstep];simp [he2,g3,hb,hL2],by simp [he2]⟩
  ·have hki:k=i:=by omega
   subst hki
   have hfin:(b0 || decide (q.n∈(d.ps.take k).map (·.n)))=decide (¬((d.ps.take (k+1)).map (·.n)).Nodup):=by
    rw [hb0];simp only [hnd,Classical.not_and_iff_not_or_not,Classical.not_not,Bool.decide_or]
   rw [hfin] at g3
   simp [a22_4,g7,g8,he2]
   refine kx2 _ _ _ _ nofun fun hs'=>?_
   simp [he2,g7,w1]
   exact kn (m-1) _ _ _ (by omega) ⟨rfl,rfl,k+1,ap2,by omega,hap2,by simpa using g3,by simp [he2]⟩
 ·have hil:i=d.ps.length:=by omega
  rw [hil,List.take_length] at g3
  simp [a22_5,g6,g7,he1,hr0,hi]
  exact kx _ _ _ _ nofun fun hs'=>hq _ ap hs' hap (by simpa using g3)
theorem states22 {s:St} {x:It} (hx:x.Ok) {r1:Nat} (hr1:s[r1]?=some (.cells none x.cs)) {b0:Bool} {e:Env} (he:e.length=301)
  (g10:AX.ev e (.t 10)=.ptr r1 0) (g14:AX.ev e (.t 14)=.int .i64 0) (g13:AX.ev e (.t 13)=.bool b0) {Q:PostQ}
  (hq:∀e',Same w22_2 e e'→AX.ev e' (.t 13)=.bool (b0 || (decide (x.k=6) && decide (¬x.ss.Nodup)))→Q (.exit 9) e' [] s):AW A 22 none (.loop a22_2) e [] s Q:=by
 have hss:=hx.ss
 simp only [It.cs] at hr1
 refine aw_loop (W:=w22_2) rfl (fun m e ds s'=>ds=[]∧s'=s∧∃i:Nat,i+m=x.ss.length∧AX.ev e (.t 13)=.bool (b0 || (decide (x.k=6) && decide (¬(x.ss.take i).Nodup)))∧AX.ev e (.t 14)=.int .i64 i) x.ss.length
  ⟨rfl,rfl,0,by simp,by simpa using g13,by simpa using g14⟩ ?_
 rintro m e1 ds s' hs ⟨rfl,rfl,i,hm,g13,g14⟩ K1 kn kx
 have he1:e1.length=301:=by simp [hs.1,he]
 have g10:=hs.ev 10 rfl g10
 by_cases hi:i<x.ss.length
 ·by_cases k6:x.k=6
  ·obtain ⟨q,hq1⟩:∃q,q=x.ss[i]:=⟨_,rfl⟩
   have hgq:(strs x.ss)[i]'(by rw [strs_length];exact hi)=.str q:=by rw [strs_get hi,hq1]
   have hnd:(x.ss.take (i+1)).Nodup↔(x.ss.take i).Nodup∧q ∉ x.ss.take i:=by
    rw [List.take_succ_eq_append_getElem hi,←hq1,List.nodup_append]
    simp only [List.nodup_cons,List.not_mem_nil,not_false_eq_true,List.nodup_nil,and_true,true_and,List.mem_singleton,ne_eq,forall_eq]
    constructor
    ·rintro ⟨h1,h2⟩;exact ⟨h1,fun h=>h2 _ h rfl⟩
    ·rintro ⟨h1,h2⟩;exact ⟨h1,fun a ha e=>h2 (e▸ha)⟩
   have w1:IntKind.i64.wrap ((i:Int)+1)=(i:Int)+1:=wrap_i64 (by omega) (by omega)
   obtain ⟨b1,hb1⟩:∃b1,b1=(b0 || (decide (x.k=6) && decide (¬(x.ss.take i).Nodup))):=⟨_,rfl⟩
   rw [←hb1] at g13
   simp [k6] at hr1
   simp [a22_2,g10,g13,g14,he1,hr1,hi,strs_length]
   refine aw_loop (W:=w22_1) rfl (fun m e ds s2=>ds=[]∧s2=s'∧∃k:Nat,k+m=i∧AX.ev e (.t 13)=.bool (b1 || decide (q∈x.ss.take k))∧AX.ev e (.t 15)=.int .i64 k) i
    ⟨rfl,rfl,0,by simp,by simp [he1,g13],by simp [he1]⟩ ?_
   rintro m2 e2 ds s2 hs2 ⟨rfl,rfl,k,hm2,g13,g15⟩ K2 kn2 kx2
   have he2:e2.length=301:=by simp [hs2.1,he1]
   have g10:=hs2.ev 10 rfl (v:=.ptr r1 0) (by simp [g10])
   have g14:=hs2.ev 14 rfl (v:=.int .i64 i) (by simp [g14])
   by_cases hk:k<i
   ·have hkl:k<x.ss.length:=by omega
    obtain ⟨u,hu⟩:∃u,u=x.ss[k]:=⟨_,rfl⟩
    have hgu:(strs x.ss)[k]'(by rw [strs_length];exact hkl)=.str u:=by rw [strs_get hkl,hu]
    have hmem:q∈x.ss.take (k+1)↔q∈x.ss.take k∨q=u:=by rw [List.take_succ_eq_append_getElem hkl,←hu];simp
    have hk':(k:Int)<(i:Int):=by omega
    have w2:IntKind.i64.wrap ((k:Int)+1)=(k:Int)+1:=wrap_i64 (by omega) (by omega)
    obtain ⟨b2,hb2⟩:∃b2,b2=(b1 || decide (q∈x.ss.take k)):=⟨_,rfl⟩
    rw [←hb2] at g13
    have hstep:(b1 || decide (q∈x.ss.take (k+1)))=(b2 || decide (q=u)):=by rw [hb2,Bool.or_assoc];congr 1;simp only [hmem,Bool.decide_or]
    have hqu:(q == u)=decide (q=u):=Bool.eq_iff_iff.2 (by simp)
    cases b2 with
    | true =>
     simp [a22_1,g10,g13,g14,g15,he2,hr1,hk',hi,hkl,hgq,hgu,strs_length,w2]
     exact kn2 (m2-1) _ _ _ (by omega) ⟨rfl,rfl,k+1,by omega,by rw [hstep];simp [he2],by simp [he2]⟩
    | false =>
     simp [a22_1,g10,g13,g14,g15,he2,hr1,hk',hi,hkl,hgq,hgu,strs_length,w2]
     exact kn2 (m2-1) _ _ _ (by omega) ⟨rfl,rfl,k+1,by omega,by rw [hstep];simp [he2],by simp [he2]⟩
   ·have hki:k=i:=by omega
    subst hki
    have hfin:(b1 || decide (q∈x.ss.take k))=(b0 || (decide (x.k=6) && decide (¬(x.ss.take (k+1)).Nodup))):=by
     rw [hb1];simp only [hnd,Classical.not_and_iff_not_or_not,Classical.not_not,Bool.decide_or,k6,decide_true,Bool.true_and,Bool.or_assoc]
    rw [hfin] at g13
    simp [a22_1,g14,g15,he2]
    refine kx2 _ _ _ _ nofun fun hs'=>?_
    simp [he2,g14,w1]
    exact kn (m-1) _ _ _ (by omega) ⟨rfl,rfl,k+1,by omega,by simpa using g13,by simp [he2]⟩
  ·have hb:(b0 || (decide (x.k=6) && decide (¬(x.ss.take i).Nodup)))=(b0 || (decide (x.k=6) && decide (¬x.ss.Nodup))):=by simp [k6]
   rw [hb] at g13
   simp [a22_2,g10,g14,he1,hr1,hi,strs_length,k6]
   exact kx _ _ _ _ nofun fun hs'=>hq _ hs' (by simpa using g13)
 ·have hil:i=x.ss.length:=by omega
  rw [hil,List.take_length] at g13
  simp [a22_2,g10,g14,he1,hr1,hi,strs_length]
  exact kx _ _ _ _ nofun fun hs'=>hq _ hs' (by simpa using g13)
end Go.Proofs.YtefildelnccljaaGreat
namespace Go.Proofs.YtefildelnccljaaGreat
open Go Ai
def badIF (d:Dc) (x:It) (i:Int):Bool :=
 if x.k=1∨x.k=2∨x.k=4∨x.k=6 then (decide (((findF d x.n).getD vr0).s=1) || !decide (((findF d x.n).getD vr0).i=i)) || (decide (x.k=6) && decide (¬x.ss.Nodup))
 else if x.k=3 then !(findF d x.n).isSome || !decide (((findF d x.n).getD vr0).s=3)
 else if x.k=5 then !(findF d x.n).isSome || !decide (((findF d x.n).getD vr0).s=4)
 else if x.k=7 then !decide (x.s∈statesF d x.n) || !decide (x.x∈statesF d x.n)
 else if x.k=8 then (!(findF d x.n).isSome || decide (((findF d x.n).getD vr0).s=1)) || decide (((findF d x.n).getD vr0).s=5)
 else false
def itemsR (d:Dc):List It→Int→List Int
 | [],_=>[]
 | x::l,i=>(if badIF d x i then [x.p] else [])++itemsR d l (i+1)
theorem foldAdd_len (l:List Int) (L:List Fa):((ats l).foldl addF L).length≤L.length+l.length:=by
 induction l generalizing L with
 | nil=>simp [ats]
 | cons a l ih=>have:=ih (addF L (4,a));have:=addF_len L (4,a);simp only [ats,List.map_cons,List.foldl_cons,List.length_cons] at this ih ⊢;have:=ih (addF L (4,a));omega
theorem itemsR_len (d:Dc):∀(l:List It) (i:Int),(itemsR d l i).length≤l.length
 | [],_=>by simp [itemsR]
 | x::l,i=>by have:=itemsR_len d l (i+1);simp only [itemsR,List.length_append,List.length_cons];split<;>simp<;>omega
def a22w:ACode:=.seq (.reg [⟨some 206,.mov (.t 13),none⟩]) (.cond (.t 206) (.reg [⟨some 207,.mov (.t 3),none⟩,⟨some 208,.fieldAddr 8 1 false (.t 10),none⟩,⟨some 209,.load 1 false (.t 208),none⟩,⟨some 210,.build [.int .i64 0,.int .i64 0] [(0,1,.k (.int .i64 4)),(1,1,.t 209)],none⟩,⟨some 211,.call (.k (.func (.func 15) [] [])) [.t 207,.t 210],none⟩,⟨some 3,.mov (.t 211),none⟩]) .skip)
def a22i:ACode:=.reg [⟨some 95,.mov (.t 9),none⟩,⟨some 96,.bin .add (.t 95) (.k (.int .i64 1)),none⟩,⟨some 9,.mov (.t 96),none⟩]
def a22v:ACode:=.seq (.block 7 a22w) a22i
set_option maxHeartbeats 4000000 in
theorem items22 {st:St} {d:Dc} (hd:d.Ok) {r0:Nat} {s0:St} (hf0:Fit st s0) (hr0:s0[r0]?=some (.cells none d.cs)) {L:List Fa} (hL:L.length≤10000000) {e:Env} (he:e.length=301)
  (g6:AX.ev e (.t 6)=.ptr r0 0) (g9:AX.ev e (.t 9)=.int .i64 0) {ap0:Ap} (hap0:Still ap0) (g3:AX.ev e (.t 3)=.lst 2 (fls L) ap0) {Q:PostQ}
  (hq:∀e' s' ap',Same w22_3 e e'→Fit st s'→s'[r0]?=some (.cells none d.cs)→Still ap'→AX.ev e' (.t 3)=.lst 2 (fls ((ats (itemsR d d.its 0)).foldl addF L)) ap'→Q (.exit 6) e' [] s'):AW A 22 none (.loop a22_3) e [] s0 Q:=by
 have hits:=hd.its
 refine aw_loop (W:=w22_3) rfl (fun m e ds s=>ds=[]∧∃(i:Nat) (ap:Ap) (L2:List Fa),i+m=d.its.length∧L2.length≤10000000+i∧(ats (itemsR d (d.its.drop i) i)).foldl addF L2=(ats (itemsR d d.its 0)).foldl addF L∧Fit st s∧s[r0]?=some (.cells none d.cs)∧Still ap ∧
   AX.ev e (.t 3)=.lst 2 (fls L2) ap∧AX.ev e (.t 9)=.int .i64 i) d.its.length
  ⟨rfl,0,ap0,L,by simp,by omega,by simp,hf0,hr0,hap0,by simpa using g3,by simpa using g9⟩ ?_
 rintro m e1 ds s hs ⟨rfl,i,ap,L2,hm,hL2,hac,hf,hr0,hap,g3,g9⟩ K1 kn kx
 have he1:e1.length=301:=by simp [hs.1,he]
 have g6:=hs.ev 6 rfl g6
 have hrlt:=(List.getElem?_eq_some_iff.1 hr0).1
 by_cases hi:i<d.its.length
 ·obtain ⟨x,hx⟩:∃x,x=d.its[i]:=⟨_,rfl⟩
  have hxo:x.Ok:=by rw [hx];exact hd.item _ (List.getElem_mem hi)
  have hgx:(d.its.map It.av)[i]'(by simpa using hi)=.agg x.cs:=by simp [It.av,hx]
  rw [drop_get hi,←hx,itemsR] at hac
  have hf1:Fit st (s++[.cells none x.cs]):=hf.cells (It.low hxo _)
  obtain ⟨V,hV⟩:∃V,V=(findF d x.n).getD vr0:=⟨_,rfl⟩
  obtain ⟨ok,hok⟩:∃ok,ok=(findF d x.n).isSome:=⟨_,rfl⟩
  have h32:=refFind_call hd (n:=x.n) hf1.ok
  rw [←hV,←hok] at h32
  have hf2:Fit st (s++[.cells none x.cs,.cells none V.cs]):=by have:=hf1.cells (cs:=V.cs) (ty:=none) (V.low _);simpa using this
  have hr1:(s++[.cells none x.cs])[r0]?=some (.cells none d.cs):=by rw [List.getElem?_append_left hrlt];exact hr0
  have hr2:(s++[.cells none x.cs,.cells none V.cs])[r0]?=some (.cells none d.cs):=by rw [List.getElem?_append_left hrlt];exact hr0
  have hrx:(s++[.cells none x.cs,.cells none V.cs])[s.length]?=some (.cells none x.cs):=by simp
  have hadd:=add_call (l:=L2) (f:=(4,x.p)) (ap:=ap) (by omega) hap hf2.ok
  have hst1:=refState_call hd (n:=x.n) (s:=x.s) hf2.ok
  have hst2:=refState_call hd (n:=x.n) (s:=x.x) hf2.ok
  obtain ⟨c1,hc1⟩:∃c,c=decide (x.s∈statesF d x.n):=⟨_,rfl⟩
  obtain ⟨c2,hc2⟩:∃c,c=decide (x.x∈statesF d x.n):=⟨_,rfl⟩
  rw [←hc1] at hst1
  rw [←hc2] at hst2
  have hB:badIF d x i=(if x.k=1∨x.k=2∨x.k=4∨x.k=6 then (decide (V.s=1) || !decide (V.i=i)) || (decide (x.k=6) && decide (¬x.ss.Nodup))
    else if x.k=3 then !ok || !decide (V.s=3) else if x.k=5 then !ok || !decide (V.s=4) else if x.k=7 then !c1 || !c2 else if x.k=8 then (!ok || decide (V.s=1)) || decide (V.s=5) else false):=by
   rw [badIF,hV,hok,hc1,hc2]
  have w1:IntKind.i64.wrap ((i:Int)+1)=(i:Int)+1:=wrap_i64 (by omega) (by omega)
  have nxT:badIF d x i=true→∀e2,AX.ev e2 (.t 9)=.int .i64 (i+1)→AX.ev e2 (.t 3)=.lst 2 (fls (addF L2 (4,x.p))) (addAp L2 (4,x.p) ap)→K1 .nrm e2 [] (s++[.cells none x.cs,.cells none V.cs]):=fun hb e2 h1 h2 =>
   kn (m-1) _ _ _ (by omega) ⟨rfl,i+1,_,_,by omega,by have:=addF_len L2 (4,x.p);omega,by rw [←hac,hb];simp [ats],hf2,hr2,addAp_still hap,h2,by simpa using h1⟩
  have nxF:badIF d x i=false→∀e2,AX.ev e2 (.t 9)=.int .i64 (i+1)→AX.ev e2 (.t 3)=.lst 2 (fls L2) ap→K1 .nrm e2 [] (s++[.cells none x.cs,.cells none V.cs]):=fun hb e2 h1 h2 =>
   kn (m-1) _ _ _ (by omega) ⟨rfl,i+1,_,_,by omega,by omega,by rw [←hac,hb];simp,hf2,hr2,hap,h2,by simpa using h1⟩
  clear hV hok hc1 hc2 hac kn kx
  have hstates:=fun (b0:Bool) (e:Env) (he:e.length=301)=>states22 (s:=s++[.cells none x.cs,.cells none V.cs]) hxo hrx (b0:=b0) (e:=e) he
  simp only [Vr.av,Vr.cs,Dc.av,Dc.cs,It.cs,fl] at h32 hr0 hr1 hr2 hgx hadd hst1 hst2 nxT nxF hstates
  have endT:badIF d x i=true→∀e2,e2.length=301→AX.ev e2 (.t 9)=.int .i64 i→AX.ev e2 (.t 3)=.lst 2 (fls L2) ap→AX.ev e2 (.t 10)=.ptr s.length 0→AX.ev e2 (.t 13)=.bool true →
    AW A 22 none a22v e2 [] (s++[.cells none x.cs,.cells none V.cs]) K1:=by
   intro hb e2 he2 k9 k3 k10 k13
   simp only [Vr.cs,It.cs]
   simp [a22v,a22w,a22i,he2,k9,k3,k10,k13,hadd,w1]
   exact nxT hb _ (by simp [he2]) (by simp [he2])
  have endF:badIF d x i=false→∀e2,e2.length=301→AX.ev e2 (.t 9)=.int .i64 i→AX.ev e2 (.t 3)=.lst 2 (fls L2) ap→AX.ev e2 (.t 10)=.ptr s.length 0→AX.ev e2 (.t 13)=.bool false →
    AW A 22 none a22v e2 [] (s++[.cells none x.cs,.cells none V.cs]) K1:=by
   intro hb e2 he2 k9 k3 k10 k13
   simp only [Vr.cs,It.cs]
   simp [a22v,a22w,a22i,he2,k9,k3,k10,k13,w1]
   exact nxF hb _ (by simp [he2]) (by simp [he2,k3])
  by_cases kk:x.k=1∨x.k=2∨x.k=4∨x.k=6
  ·rw [if_pos kk] at hB
   have hk:(x.k=1)∨(x.k≠1∧x.k=2)∨(x.k≠1∧x.k≠2∧x.k=4)∨(x.k≠1∧x.k≠2∧x.k≠4∧x.k=6):=by omega
   have loopd:∀(b0:Bool) (e3:Env),b0=(decide (V.s=1) || !decide (V.i=i))→e3.length=301→AX.ev e3 (.t 9)=.int .i64 i→AX.ev e3 (.t 3)=.lst 2 (fls L2) ap→AX.ev e3 (.t 10)=.ptr s.length 0→AX.ev e3 (.t 14)=.int .i64 0→AX.ev e3 (.t 13)=.bool b0 →
     AW A 22 none (.loop a22_2) e3 [] (s++[.cells none x.cs,.cells none V.cs]) (Blk 9 (Blk 8 (SeqQ A 22 none a22w (Blk 7 (SeqQ A 22 none a22i K1))))):=by
    intro b0 e3 hb0 he3 k9 k3 k10 k14 k13
    refine hstates b0 e3 he3 k10 k14 k13 fun e4 hs4 k13=>?_
    have he4:e4.length=301:=by simp [hs4.1,he3]
    have k9:=hs4.ev 9 rfl k9
    have k3:=hs4.ev 3 rfl k3
    have k10:=hs4.ev 10 rfl k10
    rw [hb0,←hB] at k13
    simp
    cases hbb:badIF d x i with
    | true =>
     rw [hbb] at k13
     have:=endT hbb e4 he4 k9 k3 k10 k13
     simpa [a22v,a22w,a22i,It.cs,Vr.cs] using this
    | false =>
     rw [hbb] at k13
     have:=endF hbb e4 he4 k9 k3 k10 k13
     simpa [a22v,a22w,a22i,It.cs,Vr.cs] using this
   simp only [Vr.cs,It.cs] at loopd
   by_cases h1:V.s=1
   ·rcases hk with k | ⟨j1,k⟩ | ⟨j1,j2,k⟩ | ⟨j1,j2,j4,k⟩
    ·simp [a22_3,g6,g9,g3,he1,hr0,hr1,hr2,hi,hgx,h32,eq_true k,eq_true h1]
     exact loopd true _ (by simp [h1]) (by simp [he1]) (by simp [g9]) (by simp [g3]) (by simp [he1]) (by simp [he1]) (by simp [he1])
    ·simp [a22_3,g6,g9,g3,he1,hr0,hr1,hr2,hi,hgx,h32,j1,eq_true k,eq_true h1]
     exact loopd true _ (by simp [h1]) (by simp [he1]) (by simp [g9]) (by simp [g3]) (by simp [he1]) (by simp [he1]) (by simp [he1])
    ·simp [a22_3,g6,g9,g3,he1,hr0,hr1,hr2,hi,hgx,h32,j1,j2,eq_true k,eq_true h1]
     exact loopd true _ (by simp [h1]) (by simp [he1]) (by simp [g9]) (by simp [g3]) (by simp [he1]) (by simp [he1]) (by simp [he1])
    ·simp [a22_3,g6,g9,g3,he1,hr0,hr1,hr2,hi,hgx,h32,j1,j2,j4,eq_true k,eq_true h1]
     exact loopd true _ (by simp [h1]) (by simp [he1]) (by simp [g9]) (by simp [g3]) (by simp [he1]) (by simp [he1]) (by simp [he1])
   ·by_cases h2:V.i=i
    ·rcases hk with k | ⟨j1,k⟩ | ⟨j1,j2,k⟩ | ⟨j1,j2,j4,k⟩
     ·simp [a22_3,g6,g9,g3,he1,hr0,hr1,hr2,hi,hgx,h32,eq_true k,h1,eq_true h2]
      exact loopd false _ (by simp [h1,h2]) (by simp [he1]) (by simp [g9]) (by simp [g3]) (by simp [he1]) (by simp [he1]) (by simp [he1])
     ·simp [a22_3,g6,g9,g3,he1,hr0,hr1,hr2,hi,hgx,h32,j1,eq_true k,h1,eq_true h2]
      exact loopd false _ (by simp [h1,h2]) (by simp [he1]) (by simp [g9]) (by simp [g3]) (by simp [he1]) (by simp [he1]) (by simp [he1])
     ·simp [a22_3,g6,g9,g3,he1,hr0,hr1,hr2,hi,hgx,h32,j1,j2,eq_true k,h1,eq_true h2]
      exact loopd false _ (by simp [h1,h2]) (by simp [he1]) (by simp [g9]) (by simp [g3]) (by simp [he1]) (by simp [he1]) (by simp [he1])
     ·simp [a22_3,g6,g9,g3,he1,hr0,hr1,hr2,hi,hgx,h32,j1,j2,j4,eq_true k,h1,eq_true h2]
      exact loopd false _ (by simp [h1,h2]) (by simp [he1]) (by simp [g9]) (by simp [g3]) (by simp [he1]) (by simp [he1]) (by simp [he1])
    ·rcases hk with k | ⟨j1,k⟩ | ⟨j1,j2,k⟩ | ⟨j1,j2,j4,k⟩
     ·simp [a22_3,g6,g9,g3,he1,hr0,hr1,hr2,hi,hgx,h32,eq_true k,h1,h2]
      exact loopd true _ (by simp [h1,h2]) (by simp [he1]) (by simp [g9]) (by simp [g3]) (by simp [he1]) (by simp [he1]) (by simp [he1])
     ·simp [a22_3,g6,g9,g3,he1,hr0,hr1,hr2,hi,hgx,h32,j1,eq_true k,h1,h2]
      exact loopd true _ (by simp [h1,h2]) (by simp [he1]) (by simp [g9]) (by simp [g3]) (by simp [he1]) (by simp [he1]) (by simp [he1])
     ·simp [a22_3,g6,g9,g3,he1,hr0,hr1,hr2,hi,hgx,h32,j1,j2,eq_true k,h1,h2]
      exact loopd true _ (by simp [h1,h2]) (by simp [he1]) (by simp [g9]) (by simp [g3]) (by simp [he1]) (by simp [he1]) (by simp [he1])
     ·simp [a22_3,g6,g9,g3,he1,hr0,hr1,hr2,hi,hgx,h32,j1,j2,j4,eq_true k,h1,h2]
      exact loopd true _ (by simp [h1,h2]) (by simp [he1]) (by simp [g9]) (by simp [g3]) (by simp [he1]) (by simp [he1]) (by simp [he1])
  ·simp only [not_or] at kk
   obtain ⟨j1,j2,j4,j6⟩:=kk
   rw [if_neg (by simp [j1,j2,j4,j6])] at hB
   by_cases k3:x.k=3
   ·rw [if_pos k3] at hB
    cases ok<;>rcases Classical.propComplete (V.s=3) with h3 | h3
    all_goals
     simp [a22_3,g6,g9,g3,he1,hr0,hr1,hr2,hi,hgx,h32,hadd,w1,j1,j2,j4,j6,eq_true k3,h3]
     simp [h3] at hB
     first | exact nxT hB _ (by simp [he1]) (by simp [he1]) | exact nxF hB _ (by simp [he1]) (by simp [he1,g3])
   by_cases k5:x.k=5
   ·rw [if_neg k3,if_pos k5] at hB
    cases ok<;>rcases Classical.propComplete (V.s=4) with h3 | h3
    all_goals
     simp [a22_3,g6,g9,g3,he1,hr0,hr1,hr2,hi,hgx,h32,hadd,w1,j1,j2,j4,j6,k3,eq_true k5,h3]
     simp [h3] at hB
     first | exact nxT hB _ (by simp [he1]) (by simp [he1]) | exact nxF hB _ (by simp [he1]) (by simp [he1,g3])
   by_cases k7:x.k=7
   ·rw [if_neg k3,if_neg k5,if_pos k7] at hB
    cases c1<;>cases c2
    all_goals
     simp [a22_3,g6,g9,g3,he1,hr0,hr1,hr2,hi,hgx,h32,hadd,w1,j1,j2,j4,j6,k3,k5,eq_true k7,hst1,hst2]
     simp at hB
     first | exact nxT hB _ (by simp [he1]) (by simp [he1]) | exact nxF hB _ (by simp [he1]) (by simp [he1,g3])
   by_cases k8:x.k=8
   ·rw [if_neg k3,if_neg k5,if_neg k7,if_pos k8] at hB
    cases ok<;>rcases Classical.propComplete (V.s=1) with h3 | h3<;>rcases Classical.propComplete (V.s=5) with h5 | h5
    all_goals
     simp [a22_3,g6,g9,g3,he1,hr0,hr1,hr2,hi,hgx,h32,hadd,w1,j1,j2,j4,j6,k3,k5,k7,eq_true k8,h3,h5]
     simp [h3,h5] at hB
     first | exact nxT hB _ (by simp [he1]) (by simp [he1]) | exact nxF hB _ (by simp [he1]) (by simp [he1,g3])
   rw [if_neg k3,if_neg k5,if_neg k7,if_neg k8] at hB
   simp [a22_3,g6,g9,g3,he1,hr0,hr1,hr2,hi,hgx,h32,w1,j1,j2,j4,j6,k3,k5,k7,k8]
   exact nxF hB _ (by simp [he1]) (by simp [he1,g3])
 ·have hil:i=d.its.length:=by omega
  rw [hil,List.drop_length] at hac
  simp [itemsR,ats] at hac
  simp only [Dc.cs] at hr0
  simp [a22_3,g6,g9,he1,hr0,hi]
  exact kx _ _ _ _ nofun fun hs'=>hq _ _ ap hs' hf (by simpa [Dc.cs] using hr0) hap (by simpa [ats,hac] using g3)
end Go.Proofs.YtefildelnccljaaGreat
namespace Go.Proofs.YtefildelnccljaaGreat
open Go Ai
theorem fn23:A.fn 23=some a23:=by kernel_rfl
theorem prim23:A.prim 23=none:=by kernel_rfl
set_option maxRecDepth 20000 in
set_option maxHeartbeats 4000000 in
theorem exprs22 {st:St} {p:Pg} (hp:p.Ok) {d:Dc} (hd:d.Ok) {r0:Nat} {s0:St} (hf0:Fit st s0) (hr0:s0[r0]?=some (.cells none d.cs)) {bs:List Bool} (hbl:bs.length=p.xs.length) {ap16:Ap} {L:List Fa} (hL:L.length≤20000000) {e:Env} (he:e.length=301)
  (g1:AX.ev e (.t 1)=.iptr p.av) (g6:AX.ev e (.t 6)=.ptr r0 0) (g16:AX.ev e (.t 16)=.lst 1 (bools bs) ap16) (g17:AX.ev e (.t 17)=.int .i64 0) {ap0:Ap} (hap0:Still ap0) (g3:AX.ev e (.t 3)=.lst 2 (fls L) ap0) {Q:PostQ}
  (hq:∀e' s' ap',Same w22_0 e e'→Fit st s'→Still ap'→AX.ev e' (.t 3)=.lst 2 (fls ((ats (exprsF p d bs p.xs)).foldl addF L)) ap'→Q (.exit 13) e' [] s'):AW A 22 none (.loop a22_0) e [] s0 Q:=by
 have hxs:=hp.xs
 refine aw_loop (W:=w22_0) rfl (fun m e ds s=>ds=[]∧∃(i:Nat) (ap:Ap) (L2:List Fa),i+m=bs.length∧L2.length≤20000000+i∧(ats (exprsF p d (bs.drop i) (p.xs.drop i))).foldl addF L2=(ats (exprsF p d bs p.xs)).foldl addF L∧Fit st s∧s[r0]?=some (.cells none d.cs)∧Still ap ∧
   AX.ev e (.t 3)=.lst 2 (fls L2) ap∧AX.ev e (.t 17)=.int .i64 i) bs.length
  ⟨rfl,0,ap0,L,by simp,by omega,by simp,hf0,hr0,hap0,by simpa using g3,by simpa using g17⟩ ?_
 rintro m e1 ds s hs ⟨rfl,i,ap,L2,hm,hL2,hac,hf,hr0,hap,g3,g17⟩ K1 kn kx
 have he1:e1.length=301:=by simp [hs.1,he]
 have g1:=hs.ev 1 rfl g1
 have g6:=hs.ev 6 rfl g6
 have g16:=hs.ev 16 rfl g16
 have hrlt:=(List.getElem?_eq_some_iff.1 hr0).1
 simp only [Pg.av] at g1
 by_cases hi:i<bs.length
 ·have hix:i<p.xs.length:=by omega
  obtain ⟨x,hx⟩:∃x,x=p.xs[i]:=⟨_,rfl⟩
  obtain ⟨b,hb⟩:∃b,b=bs[i]:=⟨_,rfl⟩
  have hxo:x.Ok:=by rw [hx];exact hp.ex _ (List.getElem_mem hix)
  have hgx:=xs_get hix
  have hgb:(bools bs)[i]'(by rw [bools_length];exact hi)=.bool b:=by simp [bools,hb]
  rw [←hx] at hgx
  rw [drop_get hi,drop_get hix,←hx,←hb,exprsF] at hac
  have w1:IntKind.i64.wrap ((i:Int)+1)=(i:Int)+1:=wrap_i64 (by omega) (by omega)
  cases b with
  | false =>
   simp only [Ex.cs,Dc.cs] at hgx hr0
   simp [a22_0,g16,g17,he1,hi,hgb,w1,bools_length]
   exact kn (m-1) _ _ _ (by omega) ⟨rfl,i+1,ap,L2,by omega,by omega,by simpa using hac,hf,by simpa [Dc.cs] using hr0,hap,by simp [he1,g3],by simp [he1]⟩
  | true =>
  have hf1:Fit st (s++[.cells none x.cs]):=hf.cells (Ex.low hxo _)
  obtain ⟨V,hV⟩:∃V,V=(findF d x.n).getD vr0:=⟨_,rfl⟩
  obtain ⟨ok,hok⟩:∃ok,ok=(findF d x.n).isSome:=⟨_,rfl⟩
  have h32:=refFind_call hd (n:=x.n) hf1.ok
  rw [←hV,←hok] at h32
  have hf2:Fit st (s++[.cells none x.cs,.cells none V.cs]):=by have:=hf1.cells (cs:=V.cs) (ty:=none) (V.low _);simpa using this
  have hr1:(s++[.cells none x.cs])[r0]?=some (.cells none d.cs):=by rw [List.getElem?_append_left hrlt];exact hr0
  have hr2:(s++[.cells none x.cs,.cells none V.cs])[r0]?=some (.cells none d.cs):=by rw [List.getElem?_append_left hrlt];exact hr0
  have hadd:=add_call (l:=L2) (f:=(4,x.p)) (ap:=ap) (by omega) hap hf2.ok
  have hst1:=refState_call hd (n:=x.n) (s:=x.s) hf2.ok
  have h29:=refDecl_call hp (n:=x.n) hf2.ok
  obtain ⟨c1,hc1⟩:∃c,c=decide (x.s∈statesF d x.n):=⟨_,rfl⟩
  rw [←hc1] at hst1
  have hdc:=declF_cases p x.n
  obtain ⟨I,hI⟩:∃I,I=declF p x.n:=⟨_,rfl⟩
  rw [←hI] at h29 hdc
  have hB:wrongExprF p d x=(if x.k=3 then !ok || decide (V.s=5) else if x.k=20 then !c1 else if x.k=19 then decide (I<0) || (decide ((p.ds.getD I.toNat dc0).k=3) || decide ((p.ds.getD I.toNat dc0).ps.length≠x.args.length)) else false):=by
   rw [wrongExprF,sortF,←hV,←hc1,←hI,hok];cases findF d x.n<;>simp
  have nxT:wrongExprF p d x=true→∀e2,AX.ev e2 (.t 17)=.int .i64 (i+1)→AX.ev e2 (.t 3)=.lst 2 (fls (addF L2 (4,x.p))) (addAp L2 (4,x.p) ap)→K1 .nrm e2 [] (s++[.cells none x.cs,.cells none V.cs]):=fun hb e2 h1 h2 =>
   kn (m-1) _ _ _ (by omega) ⟨rfl,i+1,_,_,by omega,by have:=addF_len L2 (4,x.p);omega,by rw [←hac,hb];simp [ats],hf2,hr2,addAp_still hap,h2,by simpa using h1⟩
  have nxF:wrongExprF p d x=false→∀e2,AX.ev e2 (.t 17)=.int .i64 (i+1)→AX.ev e2 (.t 3)=.lst 2 (fls L2) ap→K1 .nrm e2 [] (s++[.cells none x.cs,.cells none V.cs]):=fun hb e2 h1 h2 =>
   kn (m-1) _ _ _ (by omega) ⟨rfl,i+1,_,_,by omega,by omega,by rw [←hac,hb];simp,hf2,hr2,hap,h2,by simpa using h1⟩
  clear hV hok hc1 hI hac kn kx
  simp only [Vr.av,Vr.cs,Dc.av,Dc.cs,Ex.cs,Pg.av,fl] at h32 hr0 hr1 hr2 hgx hadd hst1 h29 nxT nxF
  by_cases k3:x.k=3
  ·rw [if_pos k3] at hB
   cases ok<;>rcases Classical.propComplete (V.s=5) with h5 | h5
   all_goals
    simp [a22_0,g1,g6,g16,g17,g3,he1,hr0,hr1,hr2,hi,hix,hgb,hgx,h32,w1,bools_length,hadd,eq_true k3,show ¬x.k=20 by omega,show ¬x.k=19 by omega,h5]
    simp [h5] at hB
    first | exact nxT hB _ (by simp [he1]) (by simp [he1]) | exact nxF hB _ (by simp [he1]) (by simp [he1,g3])
  by_cases k20:x.k=20
  ·rw [if_neg k3,if_pos k20] at hB
   cases c1
   all_goals
    simp [a22_0,g1,g6,g16,g17,g3,he1,hr0,hr1,hr2,hi,hix,hgb,hgx,h32,w1,bools_length,hadd,k3,eq_true k20,show ¬x.k=19 by omega,hst1]
    simp at hB
    first | exact nxT hB _ (by simp [he1]) (by simp [he1]) | exact nxF hB _ (by simp [he1]) (by simp [he1,g3])
  by_cases k19:x.k=19
  ·rw [if_neg k3,if_neg k20,if_pos k19] at hB
   rcases hdc with h | ⟨k,hk,h,_⟩
   ·rw [h] at h29
    simp [h] at hB
    simp [a22_0,g1,g6,g16,g17,g3,he1,hr0,hr1,hr2,hi,hix,hgb,hgx,h32,w1,bools_length,hadd,k3,k20,eq_true k19,h29]
    exact nxT hB _ (by simp [he1]) (by simp [he1])
   ·rw [h] at h29
    have hcs:=ds_get hk
    have hg:p.ds.getD k dc0=p.ds[k]:=by simp [hk]
    rw [h,Int.toNat_natCast,hg] at hB
    generalize p.ds[k]=D at *
    simp only [Dc.cs] at hcs
    have hneg:¬(k:Int)<0:=by omega
    rcases Classical.propComplete (D.k=3) with b | b
    ·simp [hneg,b] at hB
     simp [a22_0,g1,g6,g16,g17,g3,he1,hr0,hr1,hr2,hi,hix,hgb,hgx,h32,w1,bools_length,hadd,k3,k20,eq_true k19,h29,hk,hcs,b]
     exact nxT hB _ (by simp [he1]) (by simp [he1])
    ·by_cases hlen:D.ps.length=x.args.length
     ·simp [hneg,b,hlen] at hB
      simp [a22_0,g1,g6,g16,g17,g3,he1,hr0,hr1,hr2,hi,hix,hgb,hgx,h32,w1,bools_length,hadd,k3,k20,eq_true k19,h29,hk,hcs,b,ints_length,hlen]
      exact nxF hB _ (by simp [he1]) (by simp [he1,g3])
     ·have hlen':¬(D.ps.length:Int)=(x.args.length:Int):=by omega
      simp [hneg,b,hlen] at hB
      simp [a22_0,g1,g6,g16,g17,g3,he1,hr0,hr1,hr2,hi,hix,hgb,hgx,h32,w1,bools_length,hadd,k3,k20,eq_true k19,h29,hk,hcs,b,ints_length,hlen,hlen']
      exact nxT hB _ (by simp [he1]) (by simp [he1])
  rw [if_neg k3,if_neg k20,if_neg k19] at hB
  simp [a22_0,g1,g6,g16,g17,g3,he1,hr0,hr1,hr2,hi,hix,hgb,hgx,h32,w1,bools_length,hadd,k3,k20,k19]
  exact nxF hB _ (by simp [he1]) (by simp [he1,g3])
 ·have hil:i=bs.length:=by omega
  have e0:exprsF p d (bs.drop i) (p.xs.drop i)=[]:=by rw [hil,List.drop_length];rfl
  rw [e0] at hac
  simp [a22_0,g16,g17,he1,hi,bools_length]
  exact kx _ _ _ _ nofun fun hs'=>hq _ _ ap hs' hf hap (by rw [←hac];simpa [ats] using g3)
theorem againF_eq {d:Dc} {i:Nat} (hi:i<d.its.length):(againF d d.its[i] i || wrongItemF d d.its[i])=badIF d d.its[i] i:=by
 obtain ⟨x,hx⟩:∃x,x=d.its[i]:=⟨_,rfl⟩
 have hfound:∀u,makesF x i=some u→∃V,findF d x.n=some V∧(V=u∨(V.s=1∨V.i≠i)):=by
  intro u hu
  have hun:u.n=x.n∧u.i=i∧u.s≠1:=by
   unfold makesF at hu
   by_cases h1:x.k=1<;>by_cases h2:x.k=2<;>by_cases h4:x.k=4<;>by_cases h6:x.k=6<;>simp [h1,h2,h4,h6] at hu<;>subst hu<;>simp
  have hmem:u∈varsF d:=by
   rw [varsF,List.mem_append]
   right
   have:∀(l:List It) (j:Int) (k:Nat) (h:k<l.length),makesF l[k] (j+k)=some u→u∈itV l j:=by
    intro l
    induction l with
    | nil=>intro j k h;simp at h
    | cons y l ih =>
     intro j k h hm
     cases k with
     | zero=>simp only [itV,List.mem_append];left;simp at hm;simp [hm]
     | succ k=>simp only [itV,List.mem_append];right;exact ih (j+1) k (by simpa using h) (by simpa [Int.add_assoc,Int.add_comm 1] using hm)
   exact this d.its 0 i hi (by rw [←hx];simpa using hu)
  cases hf:findF d x.n with
  | none =>
   have:=List.find?_eq_none.1 hf u hmem
   simp [hun.1] at this
  | some V =>
   refine ⟨V,rfl,?_⟩
   obtain ⟨h1,h2⟩:=findF_mem hf
   rw [varsF,List.mem_append] at h1
   rcases h1 with h1 | h1
   ·exact .inr (.inl (parV_mem h1))
   ·obtain ⟨k,hk,h3⟩:=itV_mem h1
    simp at h3
    have hVi:V.i=k:=by
     unfold makesF at h3
     by_cases h1:d.its[k].k=1<;>by_cases h2:d.its[k].k=2<;>by_cases h4:d.its[k].k=4<;>by_cases h6:d.its[k].k=6<;>simp [h1,h2,h4,h6] at h3<;>rw [←h3]
    by_cases hki:k=i
    ·subst hki
     rw [←hx,hu] at h3
     exact .inl (Option.some.inj h3).symm
    ·exact .inr (.inr (by rw [hVi];omega))
 rw [←hx]
 by_cases kk:x.k=1∨x.k=2∨x.k=4∨x.k=6
 ·obtain ⟨u,hu⟩:∃u,makesF x i=some u:=by
   unfold makesF
   rcases kk with k | k | k | k<;>simp [k]
  obtain ⟨V,hV,hor⟩:=hfound u hu
  have hun:u.i=i∧u.s≠1:=by
   unfold makesF at hu
   by_cases h1:x.k=1<;>by_cases h2:x.k=2<;>by_cases h4:x.k=4<;>by_cases h6:x.k=6<;>simp [h1,h2,h4,h6] at hu<;>subst hu<;>simp
  have hag:againF d x i=(decide (V.s=1) || !decide (V.i=i)):=by
   simp only [againF,hu,hV,Option.getD_some]
   rcases hor with rfl | h | h
   ·simp [hun.1,hun.2]
   ·have:V≠u:=fun e=>hun.2 (e▸h)
    simp [this,h]
   ·have:V≠u:=fun e=>h (by rw [e];exact hun.1)
    simp [this,h]
  have hw:wrongItemF d x=(decide (x.k=6) && decide (¬x.ss.Nodup)):=by
   unfold wrongItemF
   rcases kk with k | k | k | k<;>simp [k]
  rw [badIF,if_pos kk,hag,hw,hV,Option.getD_some]
 ·have hag:againF d x i=false:=by
   have:makesF x i=none:=makes_none (fun h=>kk (.inl h)) (fun h=>kk (.inr (.inl h))) (fun h=>kk (.inr (.inr (.inl h)))) (fun h=>kk (.inr (.inr (.inr h))))
   simp [againF,this]
  have hs:sortF d x.n=((findF d x.n).getD vr0).s:=rfl
  rw [badIF,if_neg kk,hag,Bool.false_or]
  simp only [not_or] at kk
  obtain ⟨j1,j2,j4,j6⟩:=kk
  have hn:findF d x.n=none→((findF d x.n).getD vr0).s=0:=fun h=>by rw [h];rfl
  have hr:∀V,findF d x.n=some V→V.s=1∨V.s=2∨V.s=3∨V.s=4∨V.s=5:=by
   intro V hV
   obtain ⟨h1,h2⟩:=findF_mem hV
   rw [varsF,List.mem_append] at h1
   rcases h1 with h1 | h1
   ·exact .inl (parV_mem h1)
   ·obtain ⟨k,hk,h3⟩:=itV_mem h1
    unfold makesF at h3
    by_cases h1:d.its[k].k=1<;>by_cases h2:d.its[k].k=2<;>by_cases h4:d.its[k].k=4<;>by_cases h6:d.its[k].k=6<;>simp [h1,h2,h4,h6] at h3<;>rw [←h3]<;>simp
  unfold wrongItemF sortF
  by_cases k3:x.k=3
  ·simp only [k3,if_true];cases hf:findF d x.n<;>simp [vr0]
  by_cases k5:x.k=5
  ·simp [k5];cases hf:findF d x.n<;>simp [vr0]
  by_cases k7:x.k=7
  ·simp [k7]
  by_cases k8:x.k=8
  ·simp only [k8]
   cases hf:findF d x.n with
   | none=>simp [vr0]
   | some V =>
    have:=hr V hf
    simp
    rcases this with h | h | h | h | h<;>simp [h]
  simp [k3,k5,k7,k8,j6]
theorem itemsR_eq (d:Dc):itemsF d d.its 0=itemsR d d.its 0:=by
 have:∀(n i:Nat),i+n=d.its.length→itemsF d (d.its.drop i) i=itemsR d (d.its.drop i) i:=by
  intro n
  induction n with
  | zero=>intro i h;rw [List.drop_of_length_le (by omega)];rfl
  | succ n ih =>
   intro i h
   have hi:i<d.its.length:=by omega
   rw [drop_get hi,itemsF,itemsR,againF_eq hi]
   have:=ih (i+1) (by omega)
   simp at this
   rw [this]
 simpa using this d.its.length 0 (by simp)
theorem ats_append (a b:List Int):ats (a++b)=ats a++ats b:=by simp [ats]
theorem declF_le {p:Pg} {i:Nat} (hi:i<p.ds.length):0≤declF p p.ds[i].n∧declF p p.ds[i].n≤i:=by
 rcases idxF_cases (fun d:Dc=>decide (d.n=p.ds[i].n)) p.ds 0 with ⟨_,h⟩ | ⟨k,hk,h1,h2,h3⟩
 ·have:=h _ (List.getElem_mem hi);simp at this
 ·rw [declF,h1]
  have:¬i<k:=fun hik=>by have:=h3 i hik;simp at this
  omega
def a22z:ACode:=.reg [⟨some 28,.mov (.t 5),none⟩,⟨some 29,.bin .add (.t 28) (.k (.int .i64 1)),none⟩,⟨some 5,.mov (.t 29),none⟩]
def a22y:ACode:=.seq (.seq (.reg [⟨some 9,.mov (.k (.int .i64 0)),none⟩]) (.block 6 (.loop a22_3))) (.seq (.reg [⟨some 212,.load 2 true (.t 1),none⟩,⟨some 213,.load 7 true (.t 6),none⟩,⟨some 214,.call (.k (.func (.func 39) [] [])) [.t 212,.t 213],none⟩,⟨some 16,.mov (.t 214),none⟩]) (.seq (.reg [⟨some 17,.mov (.k (.int .i64 0)),none⟩]) (.block 13 (.loop a22_0))))
set_option maxRecDepth 20000 in
set_option maxHeartbeats 4000000 in
theorem refFaults_call {p:Pg} (hS:Sound p) (hM:(declsF p p.ds 0 0).length≤4000000) {st:St} (hst:StOk st):∃ap,Still ap∧runL A (.call 22 [p.av]) st=some ⟨.ret,⟨[.lst 2 (fls (faultsN p)) ap],[]⟩,st⟩:=by
 have hp:=hS.ok
 have hds:=hp.ds
 have hxs:=hp.xs
 have hfn:faultsN p=(ats (declsF p p.ds 0 0)).foldl addF []:=by simp [faultsN,hS.may,orderF_fold]
 rw [hfn]
 suffices h:∃v,(∃ap,Still ap∧v=.lst 2 (fls ((ats (declsF p p.ds 0 0)).foldl addF [])) ap)∧runL A (.call 22 [p.av]) st=some ⟨.ret,⟨[v],[]⟩,st⟩∧runL A (.seqc 22 [p.av]) st=some ⟨.ret,⟨[v],[]⟩,st⟩ by
  obtain ⟨v,⟨ap,h1,rfl⟩,h2,_⟩:=h
  exact ⟨ap,h1,h2⟩
 refine task_of_aw_ex (N:=301) _ prim22 fn22 rfl rfl hst ?_
 intro e he ha K hK
 have a0:=ha 0
 clear ha
 simp [Pg.av] at a0
 simp [a22,he,a0]
 refine aw_loop (W:=w22_6) rfl (fun m e ds s=>ds=[]∧∃(i h:Nat) (ap:Ap) (L:List Fa),i+m=p.ds.length∧h≤i∧L.length+(declsF p (p.ds.drop i) i h).length≤4000000∧(ats (declsF p (p.ds.drop i) i h)).foldl addF L=(ats (declsF p p.ds 0 0)).foldl addF [] ∧
   Fit st s∧Still ap∧AX.ev e (.t 3)=.lst 2 (fls L) ap∧AX.ev e (.t 5)=.int .i64 i∧AX.ev e (.t 4)=.int .i64 h) p.ds.length
  ⟨rfl,0,0,.tight,[],by simp,by simp,by simpa using hM,by simp,.refl hst,.tight,by simp [he,fls],by simp [he],by simp [he]⟩ ?_
 rintro m e1 ds s hs ⟨rfl,i,h,ap,L,hm,hhi,hL,hac,hf,hap,g3,g5,g4⟩ K1 kn kx
 have he1:e1.length=301:=by simp [hs.1,he]
 have g1:=hs.ev 1 rfl (v:=.iptr p.av) (by simp [he,a0,Pg.av])
 simp only [Pg.av] at g1
 by_cases hi:i<p.ds.length
 ·have hdl:=declF_le hi
  obtain ⟨d,hd⟩:∃d,d=p.ds[i]:=⟨_,rfl⟩
  have hdm:d∈p.ds:=by rw [hd];exact List.getElem_mem hi
  have hdo:d.Ok:=hp.dc _ hdm
  have hcs:=ds_get hi
  rw [←hd] at hcs hdl
  rw [drop_get hi,←hd,declsF] at hac hL
  have hf1:Fit st (s++[.cells none d.cs]):=hf.cells (Dc.low hdo _)
  have h29:=refDecl_call hp (n:=d.n) hf1.ok
  have hadd:=add_call (l:=L) (f:=(4,d.p)) (ap:=ap) (by omega) hap hf1.ok
  have hrN:rootsN d=rootsF d:=roots_may hS.may hdm
  have hrl:=reachF_len p (rootsF d)
  have hIF:Inside p (rootsF d):=hrN▸hS.inside d hdm
  have w1:IntKind.i64.wrap ((i:Int)+1)=(i:Int)+1:=wrap_i64 (by omega) (by omega)
  have w2:IntKind.i64.wrap ((h:Int)+1)=(h:Int)+1:=wrap_i64 (by omega) (by omega)
  -- behind the head
  have tail:∀(e2:Env) (L2:List Fa) (ap2:Ap),L2.length≤L.length+(headF p d i h).length→(ats (headF p d i h)).foldl addF L=L2→Still ap2→e2.length=301→AX.ev e2 (.t 1)=.iptr p.av→AX.ev e2 (.t 6)=.ptr s.length 0 →
    AX.ev e2 (.t 3)=.lst 2 (fls L2) ap2→AX.ev e2 (.t 5)=.int .i64 i→AX.ev e2 (.t 4)=.int .i64 (stepH d h:Nat)→AX.ev e2 (.t 7)=.int .i64 0 →
    AW A 22 none (.loop a22_5) e2 [] (s++[.cells none d.cs]) (Blk 2 (SeqQ A 22 none a22y (Blk 1 (SeqQ A 22 none a22z K1)))):=by
   intro e2 L2 ap2 hL2 hfold hap2 he2 g1 g6 g3 g5 g4 g7
   have hlen1:(headF p d i h++declFs p d++declsF p (p.ds.drop (i+1)) (i+1) (stepH d h)).length=(headF p d i h).length+(declFs p d).length+(declsF p (p.ds.drop (i+1)) (i+1) (stepH d h)).length:=by simp;omega
   refine params22 (st:=st) hdo hf1.ok (by simp) (by omega) he2 g6 g7 hap2 g3 fun e3 ap3 hs3 hap3 g3=>?_
   have he3:e3.length=301:=by simp [hs3.1,he2]
   have g1:=hs3.ev 1 rfl g1
   have g6:=hs3.ev 6 rfl g6
   have g5:=hs3.ev 5 rfl g5
   have g4:=hs3.ev 4 rfl g4
   obtain ⟨L3,hL3⟩:∃L3,L3=addB L2 (4,d.p) (decide (¬(d.ps.map (·.n)).Nodup)):=⟨_,rfl⟩
   have hL3l:=addB_len L2 (4,d.p) (decide (¬(d.ps.map (·.n)).Nodup))
   rw [←hL3] at g3 hL3l
   simp [a22y,he3]
   refine items22 (L:=L3) (ap0:=ap3) (r0:=s.length) hdo hf1 (by simp) (by omega) (by simp [he3]) (by simp [g6]) (by simp [he3]) hap3 (by simp [g3]) fun e4 s4 ap4 hs4 hf4 hr4 hap4 g3=>?_
   have he4:e4.length=301:=by simp [hs4.1,he3]
   have g1:=hs4.ev 1 rfl (v:=.iptr p.av) (by simp [g1])
   have g6:=hs4.ev 6 rfl (v:=.ptr s.length 0) (by simp [g6])
   have g5:=hs4.ev 5 rfl (v:=.int .i64 i) (by simp [g5])
   have g4:=hs4.ev 4 rfl (v:=.int .i64 (stepH d h:Nat)) (by simp [g4])
   have h39:=refReached_call hp hdo hS.ahead hIF hf4.ok
   have hl4:=foldAdd_len (itemsR d d.its 0) L3
   have hit:=itemsR_len d d.its 0
   have hitl:=hdo.its
   obtain ⟨L4,hL4⟩:∃L4,L4=(ats (itemsR d d.its 0)).foldl addF L3:=⟨_,rfl⟩
   rw [←hL4] at g3 hl4
   simp only [Pg.av,Dc.av,Dc.cs] at h39 g1 hr4
   simp [he4,g1,g6,hr4,h39]
   refine exprs22 (L:=L4) (ap0:=ap4) (bs:=reachF p (rootsF d)) (ap16:=.no) (r0:=s.length) hp hdo hf4 (by simpa [Dc.cs] using hr4) hrl (by omega) (by simp [he4]) (by simp [g1,Pg.av]) (by simp [g6]) (by simp [he4]) (by simp [he4]) hap4 (by simp [g3]) fun e5 s5 ap5 hs5 hf5 hap5 g3=>?_
   have he5:e5.length=301:=by simp [hs5.1,he4]
   have g5:=hs5.ev 5 rfl (v:=.int .i64 i) (by simp [g5])
   have g4:=hs5.ev 4 rfl (v:=.int .i64 (stepH d h:Nat)) (by simp [g4])
   have hL5:(ats (headF p d i h++declFs p d)).foldl addF L=(ats (exprsF p d (reachF p (rootsF d)) p.xs)).foldl addF L4:=by
    rw [ats_append,List.foldl_append,hfold,declFs,ats_append,ats_append,List.foldl_append,List.foldl_append,itemsR_eq,hrN,hL4,hL3]
    congr 2
    by_cases hnd:(d.ps.map (·.n)).Nodup<;>simp [addB,hnd,ats]
   have hL5l:=foldAdd_len (headF p d i h++declFs p d) L
   rw [hL5] at hL5l
   rw [ats_append,List.foldl_append,hL5] at hac
   simp [a22z,he5,g5,w1]
   exact kn (m-1) _ _ _ (by omega) ⟨rfl,i+1,stepH d h,ap5,_,by omega,by unfold stepH;split<;>omega,by simp at hL5l;omega,hac,hf5,hap5,by simpa using g3,by simp [he5],by simpa using g4⟩
  generalize hD:declF p d.n=D at *
  have hH:headF p d i h=if (d.k=3∧1<stepH d h)∨D<(i:Int) then [d.p] else []:=by rw [headF,hD]
  have tT:headF p d i h=[d.p]→∀e2,e2.length=301→AX.ev e2 (.t 1)=.iptr p.av→AX.ev e2 (.t 6)=.ptr s.length 0→AX.ev e2 (.t 3)=.lst 2 (fls (addF L (4,d.p))) (addAp L (4,d.p) ap)→AX.ev e2 (.t 5)=.int .i64 i→AX.ev e2 (.t 4)=.int .i64 (stepH d h:Nat)→AX.ev e2 (.t 7)=.int .i64 0 →
    AW A 22 none (.loop a22_5) e2 [] (s++[.cells none d.cs]) (Blk 2 (SeqQ A 22 none a22y (Blk 1 (SeqQ A 22 none a22z K1)))):=fun hh e2 q1 q2 q3 q4 q5 q6 q7 =>
   tail e2 _ _ (by have:=addF_len L (4,d.p);rw [hh];simpa using this) (by rw [hh];simp [ats]) (addAp_still hap) q1 q2 q3 q4 q5 q6 q7
  have tF:headF p d i h=[]→∀e2,e2.length=301→AX.ev e2 (.t 1)=.iptr p.av→AX.ev e2 (.t 6)=.ptr s.length 0→AX.ev e2 (.t 3)=.lst 2 (fls L) ap→AX.ev e2 (.t 5)=.int .i64 i→AX.ev e2 (.t 4)=.int .i64 (stepH d h:Nat)→AX.ev e2 (.t 7)=.int .i64 0 →
    AW A 22 none (.loop a22_5) e2 [] (s++[.cells none d.cs]) (Blk 2 (SeqQ A 22 none a22y (Blk 1 (SeqQ A 22 none a22z K1)))):=fun hh e2 q1 q2 q3 q4 q5 q6 q7 =>
   tail e2 _ _ (by rw [hh];simp) (by rw [hh];simp [ats]) hap q1 q2 q3 q4 q5 q6 q7
  simp only [Pg.av,Dc.cs,fl] at hcs h29 hadd tT tF
  clear tail kn kx hac
  rcases Classical.propComplete (d.k=3) with k3 | k3
  ·have k3':d.k=3:=of_eq_true k3
   have hst:stepH d h=h+1:=by simp [stepH,k3']
   by_cases h0:0<h
   ·have hh:headF p d i h=[d.p]:=by rw [hH,if_pos (.inl ⟨k3',by omega⟩)]
    have hh':(1:Int)<(h:Int)+1:=by omega
    simp [a22_6,g1,g3,g4,g5,he1,hi,hcs,k3,w2,hh',hadd]
    exact tT hh _ (by simp [he1]) (by simp [g1]) (by simp [he1]) (by simp [he1]) (by simp [g5]) (by simp [he1,hst]) (by simp [he1])
   ·have h00:h=0:=by omega
    subst h00
    simp at w2 g4
    by_cases hDi:D=(i:Int)
    ·have hh:headF p d i 0=[]:=by rw [hH,if_neg];rw [hst];omega
     simp [a22_6,g1,g3,g4,g5,he1,hi,hcs,k3,w2,h29,hDi]
     exact tF hh _ (by simp [he1]) (by simp [g1]) (by simp [he1]) (by simp [g3]) (by simp [g5]) (by simp [he1,hst]) (by simp [he1])
    ·have hh:headF p d i 0=[d.p]:=by rw [hH,if_pos (.inr (by omega))]
     simp [a22_6,g1,g3,g4,g5,he1,hi,hcs,k3,w2,h29,hDi,hadd]
     exact tT hh _ (by simp [he1]) (by simp [g1]) (by simp [he1]) (by simp [he1]) (by simp [g5]) (by simp [he1,hst]) (by simp [he1])
  ·have k3':¬d.k=3:=of_eq_false k3
   have hst:stepH d h=h:=by simp [stepH,k3']
   by_cases hDi:D=(i:Int)
   ·have hh:headF p d i h=[]:=by rw [hH,if_neg];omega
    simp [a22_6,g1,g3,g4,g5,he1,hi,hcs,k3,h29,hDi]
    exact tF hh _ (by simp [he1]) (by simp [g1]) (by simp [he1]) (by simp [g3]) (by simp [g5]) (by simp [g4,hst]) (by simp [he1])
   ·have hh:headF p d i h=[d.p]:=by rw [hH,if_pos (.inr (by omega))]
    simp [a22_6,g1,g3,g4,g5,he1,hi,hcs,k3,h29,hDi,hadd]
    exact tT hh _ (by simp [he1]) (by simp [g1]) (by simp [he1]) (by simp [he1]) (by simp [g5]) (by simp [g4,hst]) (by simp [he1])
 ·have hil:i=p.ds.length:=by omega
  rw [hil,List.drop_length,declsF] at hac hL
  simp [a22_6,g1,g5,he1,hi]
  refine kx _ _ _ _ nofun fun hs'=>?_
  by_cases h0:h=0
  ·subst h0
   simp at hac g4 hL
   have hadd:=add_call (l:=L) (f:=(4,0)) (ap:=ap) (by omega) hap hf.ok
   simp only [fl] at hadd
   simp [he1,g4,g3,hadd]
   have hsl:=still_lst (m:=2) (stills_fls st.length s (addF L (4,0))) (addAp_still (l:=L) (f:=(4,0)) hap)
   exact hK _ _ _ _ _ _ (.inl rfl) rfl hf.take ⟨_,addAp_still (l:=L) (f:=(4,0)) hap,rfl⟩ ⟨_,rfl,by rw [←hac];simp [he1,-AV.still,ats,hsl]⟩
  ·simp [h0] at hac
   have h0':¬(h:Int)=0:=by omega
   simp [he1,g4,g3,h0,h0']
   have hsl:=still_lst (m:=2) (stills_fls st.length s L) hap
   exact hK _ _ _ _ _ _ (.inl rfl) rfl hf.take ⟨_,hap,rfl⟩ ⟨_,rfl,by rw [←hac];simp [he1,-AV.still,ats,hsl]⟩
end Go.Proofs.YtefildelnccljaaGreat
namespace Go.Proofs.YtefildelnccljaaGreat
open Go Ai
theorem ones_get:∀{l:List Ex} {j i:Nat} (h:i<l.length),onesF l j=true→oneF l[i] ((j+i:Nat):Int)=true
 | x::l,j,0,_,h=>by simp only [onesF,Bool.and_eq_true] at h;simpa using h.1
 | x::l,j,i+1,hl,h=>by
  simp only [onesF,Bool.and_eq_true] at h
  have:=ones_get (l:=l) (j:=j+1) (i:=i) (by simpa using hl) h.2
  simpa [Nat.add_assoc,Nat.add_comm 1] using this
theorem may_sound {p:Pg} (hp:p.Ok) (hm:may7 p=true):Sound p:=by
 have hm':=hm
 simp only [may7,may4,Bool.and_eq_true,List.all_eq_true] at hm'
 obtain ⟨hd,ho,hr⟩:=hm'
 refine ⟨hp,hm,fun i hi k hk=>?_,fun d hdm=>?_⟩
 ·have:=ones_get hi ho
  simp only [oneF,Bool.and_eq_true,List.all_eq_true] at this
  have h:=this.1.1.1.1.2 k hk
  simpa using h
 ·rw [roots_may hm hdm]
  intro k hk
  have h1:=hr d hdm
  simp only [declR,Bool.and_eq_true,List.all_eq_true] at h1
  have pt:∀(b:Bool) (e:Int),pointsF p.xs.length e b=true→b=true→0≤e∧e<(p.xs.length:Int):=by
   intro b e h hb;subst hb;simpa [pointsF] using h
  rw [rootsF,List.mem_append,List.mem_flatMap] at hk
  rcases hk with ⟨x,hx,hk⟩ | hk
  ·have h2:=h1.2 x hx
   simp only [itemR,Bool.and_eq_true] at h2
   rw [rootsI,List.mem_append] at hk
   rcases hk with hk | hk
   ·by_cases he:hasE x.k=true
    ·simp [he] at hk;subst hk;exact pt _ _ h2.1 he
    ·simp [he] at hk
   ·by_cases he:hasF x.k=true
    ·simp [he] at hk;subst hk;exact pt _ _ h2.2 he
    ·simp [he] at hk
  ·have hdk:=hd d hdm
   simp only [declK,Bool.and_eq_true,Bool.not_eq_true',Bool.or_eq_false_iff,decide_eq_false_iff_not] at hdk
   by_cases h3:d.k<3
   ·simp [h3] at hk;subst hk
    exact pt _ _ h1.1 (by simp;omega)
   ·simp [h3] at hk
theorem mem_sum {α:Type} {f:α→Nat} {x:α}:∀{l:List α},x∈l→f x≤(l.map f).sum
 | y::l,h=>by
  rcases List.mem_cons.1 h with rfl | h
  ·simp
  ·have:=mem_sum (f:=f) h;simp;omega
theorem small_its {p:Pg} (hg:greatF p=false):p.xs.length≤300∧p.ds.length≤60∧∀d∈p.ds,d.its.length≤600∧d.ps.length≤600:=by
 simp only [greatF,Bool.or_eq_false_iff,decide_eq_false_iff_not] at hg
 obtain ⟨⟨h1,h2⟩,h3⟩:=hg
 refine ⟨by omega,by omega,fun d hd=>?_⟩
 have h4:=mem_sum (f:=gD) hd
 have h5:∀l:List It,l.length≤(l.map gI).sum:=by
  intro l
  induction l with
  | nil=>simp
  | cons x l ih=>simp [gI];omega
 have h6:=h5 (d.its.take 1000)
 rw [List.length_take] at h6
 have h7:d.ps.length+((d.its.take 1000).map gI).sum≤gD d:=by unfold gD;omega
 constructor<;>omega
theorem exprsF_len (p:Pg) (d:Dc):∀(bs:List Bool) (xs:List Ex),(exprsF p d bs xs).length≤xs.length
 | [],_=>by simp [exprsF]
 | _::_,[]=>by simp [exprsF]
 | b::bs,x::xs=>by have:=exprsF_len p d bs xs;simp only [exprsF,List.length_append,List.length_cons];split<;>simp<;>omega
theorem declsF_len (p:Pg) (h:∀d∈p.ds,d.its.length≤600) (hx:p.xs.length≤300):∀(l:List Dc) (n k:Nat),(∀d∈l,d∈p.ds)→(declsF p l n k).length≤l.length * 1000+1
 | [],n,k,_=>by simp only [declsF];split<;>simp
 | d::l,n,k,hl=>by
  have h1:=declsF_len p h hx l (n+1) (stepH d k) fun d hd=>hl d (by simp [hd])
  have h2:=exprsF_len p d (reachF p (rootsN d)) p.xs
  have h3:=itemsR_len d d.its 0
  have h4:=h d (hl d (by simp))
  have h5:(headF p d n k).length≤1:=by unfold headF;split<;>simp
  have h6:(if (d.ps.map (·.n)).Nodup then ([]:List Int) else [d.p]).length≤1:=by split<;>simp
  simp only [declsF,declFs,List.length_append,itemsR_eq,List.length_cons]
  omega
theorem faults_small {p:Pg} (hg:greatF p=false):(declsF p p.ds 0 0).length≤4000000:=by
 obtain ⟨h1,h2,h3⟩:=small_its hg
 have:=declsF_len p (fun d hd=>(h3 d hd).1) h1 p.ds 0 0 fun d hd=>hd
 omega
theorem faultsN_len {p:Pg} (h:(declsF p p.ds 0 0).length≤4000000):(faultsN p).length≤4000000:=by
 unfold faultsN
 split
 ·have:=orderF_len (ats (declsF p p.ds 0 0));rw [ats_len] at this;omega
 ·simp
theorem refRight_call {p:Pg} (hp:p.Ok) (hM:(declsF p p.ds 0 0).length≤4000000) {st:St} (hst:StOk st):runL A (.call 23 [p.av]) st=some ⟨.ret,⟨[.bool (rightN p)],[]⟩,st⟩:=by
 have h19:=may7_call hp hst
 simp only [Pg.av] at h19
 cases hm:may7 p with
 | false =>
  rw [hm] at h19
  refine (task_of_aw (N:=11) prim23 fn23 rfl rfl hst ?_).1
  intro e he ha K hK
  have a0:=ha 0
  clear ha
  simp [Pg.av] at a0
  simp [a23,he,a0,h19]
  exact hK _ _ _ (.inl rfl) (by simp) ⟨_,rfl,by simp [he,rightN,hm]⟩
 | true =>
  obtain ⟨ap,hap,h22⟩:=refFaults_call (may_sound hp hm) hM hst
  simp only [Pg.av] at h22
  rw [hm] at h19
  refine (task_of_aw (N:=11) prim23 fn23 rfl rfl hst ?_).1
  intro e he ha K hK
  have a0:=ha 0
  clear ha
  simp [Pg.av] at a0
  simp [a23,he,a0,h19,h22,fls_length]
  exact hK _ _ _ (.inl rfl) (by simp) ⟨_,rfl,by simp [he,rightN,hm]⟩
end Go.Proofs.YtefildelnccljaaGreat
