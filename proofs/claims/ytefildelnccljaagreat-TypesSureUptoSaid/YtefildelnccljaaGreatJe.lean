/- Part Je. No condition. -/
import Derived.Test.YtefildelnccljaaGreatJb
import Derived.Test.YtefildelnccljaaGreatJc
set_option linter.unusedVariables false
set_option linter.unusedSimpArgs false
namespace Go.Proofs.YtefildelnccljaaGreat.Ai
open Go
section
variable {A:AProg} {fn:FuncId} {rnd:Option Nat} {e:Env} {ds:List ADef} {st:St} {Q:PostQ}
theorem awo_same {os:List AOper} (h:AWo A os e ds st Q):AWo A os e ds st (fun x e' ds st=>Same (opWrites os) e e'∧Q x e' ds st):=by
 obtain ⟨x,e',ds',st',hx,hq⟩:=h
 exact ⟨x,e',ds',st',hx,doOps_same (opWrites os) os _ _ _ _ _ hx (fun d hd=>by simpa using hd),hq⟩
theorem awo_mono {os:List AOper} {Q':PostQ} (h:AWo A os e ds st Q) (hq:∀x e ds st,Q x e ds st→Q' x e ds st):AWo A os e ds st Q':=by
 obtain ⟨x,e',ds',st',h1,h2⟩:=h
 exact ⟨x,e',ds',st',h1,hq _ _ _ _ h2⟩
theorem aws_same {all ss:List AStep} (h:AWs A all ss e ds st Q):AWs A all ss e ds st (fun x e' ds st=>Same (stepWrites ss) e e'∧Q x e' ds st):=by
 obtain ⟨x,e',ds',st',hx,hq⟩:=h
 exact ⟨x,e',ds',st',hx,doSteps_same (stepWrites ss) all ss _ _ _ _ _ hx (fun d hd=>by simpa using hd),hq⟩
theorem aws_mono {all ss:List AStep} {Q':PostQ} (h:AWs A all ss e ds st Q) (hq:∀x e ds st,Q x e ds st→Q' x e ds st):AWs A all ss e ds st Q':=by
 obtain ⟨x,e',ds',st',h1,h2⟩:=h
 exact ⟨x,e',ds',st',h1,hq _ _ _ _ h2⟩
theorem grda_join {d:Option Nat} {op:AOp} {os:List AOper} {b:Bool} (R:Env→Prop)
  (h:GrdA A d op os e ds st (fun x e2 ds2 st2=>x=.nrm∧ds2=ds∧st2=st∧R e2) (some b))
  (g:∀e2,Same (opWrites (⟨d,op,none⟩::os)) e e2→R e2→Q .nrm e2 ds st):GrdA A d op os e ds st Q (some b):=by
 have key:∀(Q:PostQ),GrdA A d op os e ds st Q (some b)↔AWo A (⟨d,if b then op else .mov (.k .undef),none⟩::os) e ds st Q:=by
  intro Q
  rw [ao_consA]
  cases b with
  | true=>rfl
  | false=>simp only [wantedA,grda_true,opA_mov,nxa_val,grda_false];rfl
 rw [key] at h ⊢
 have hw:opWrites (⟨d,if b then op else .mov (.k .undef),none⟩::os)=opWrites (⟨d,op,none⟩::os):=by simp [opWrites]
 refine awo_mono (awo_same h) ?_
 rintro x e2 ds2 st2 ⟨hs,rfl,rfl,rfl,hr⟩
 exact g e2 (hw▸hs) hr
theorem grdp_join {d:Option Nat} {op:AOp} {b:Bool} {all:List AStep} {re:List Nat} {ss:List AStep} (R:Env→Prop)
  (h:GrdA A d op [] e ds st (StepQ A all re ss (fun x e2 ds2 st2=>x=.nrm∧ds2=ds∧st2=st∧R e2)) (some b))
  (g:∀e2,Same (opWrites [⟨d,op,none⟩]++stepWrites ss) e e2→R e2→Q .nrm e2 ds st):GrdA A d op [] e ds st (StepQ A all re ss Q) (some b):=by
 have key:∀(Q:PostQ),GrdA A d op [] e ds st Q (some b)↔AWo A [⟨d,if b then op else .mov (.k .undef),none⟩] e ds st Q:=by
  intro Q
  rw [ao_consA]
  cases b with
  | true=>rfl
  | false=>simp only [wantedA,grda_true,opA_mov,nxa_val,grda_false];rfl
 rw [key] at h ⊢
 have hw:opWrites [⟨d,if b then op else .mov (.k .undef),none⟩]=opWrites [⟨d,op,none⟩]:=by simp [opWrites]
 refine awo_mono (awo_same h) ?_
 rintro x e1 ds1 st1 ⟨hs,hq⟩
 rw [hw] at hs
 have sub1:∀s,(opWrites [⟨d,op,none⟩]++stepWrites ss).contains s=false→(opWrites [⟨d,op,none⟩]).contains s=false:=by
  intro s;simp only [List.contains_eq_mem,decide_eq_false_iff_not,List.mem_append,not_or];exact fun h=>h.1
 have sub2:∀s,(opWrites [⟨d,op,none⟩]++stepWrites ss).contains s=false→(stepWrites ss).contains s=false:=by
  intro s;simp only [List.contains_eq_mem,decide_eq_false_iff_not,List.mem_append,not_or];exact fun h=>h.2
 cases x with
 | nrm =>
  simp only [stq_nrm] at hq ⊢
  cases hre:reAll all re ⟨e1,ds1⟩ st1 with
  | false=>rw [hre] at hq;exact hq.elim
  | true =>
   rw [hre] at hq
   rw [rea_true] at hq ⊢
   refine aws_mono (aws_same hq) ?_
   rintro x e2 ds2 st2 ⟨hs2,rfl,rfl,rfl,hr⟩
   exact g e2 ((hs.sub sub1).trans (hs2.sub sub2)) hr
 | _=>obtain ⟨h,_⟩:=hq;cases h
end
end Go.Proofs.YtefildelnccljaaGreat.Ai
namespace Go.Proofs.YtefildelnccljaaGreat.Ai
open Go
structure Fit (s0 s:St):Prop where
 g:Grew s0.length s0 s
 ok:StOk s
theorem Fit.refl {s:St} (h:StOk s):Fit s s:=⟨.refl,h⟩
theorem Fit.take {s0 s:St} (h:Fit s0 s):s.take s0.length=s0:=by have:=h.g.take;simpa using this
theorem Fit.len {s0 s:St} (h:Fit s0 s):s0.length≤s.length:=h.g.len
theorem Fit.obj {s0 s:St} (h:Fit s0 s) {o:AObj} (ho:AObj.lowB (s.length+1) o=true):Fit s0 (s++[o]) :=
 ⟨⟨by rw [List.take_append_of_le_length h.len];exact h.g.take,by have:=h.len;simp;omega,fun _=>h.ok.snoc ho⟩,h.ok.snoc ho⟩
theorem Fit.cells {s0 s:St} (h:Fit s0 s) {cs:List AV} {ty:Option TypeId} (ho:AV.lowsB (s.length+1) cs=true):Fit s0 (s++[.cells ty cs]):=h.obj (by simpa [AObj.lowB] using ho)
theorem Fit.set {s0 s:St} (h:Fit s0 s) {i:Nat} {o:AObj} (hi:s0.length≤i) (ho:AObj.lowB s.length o=true):Fit s0 (s.set i o) :=
 ⟨⟨by rw [List.take_set,List.set_eq_of_length_le (by simp;omega)];exact h.g.take,by have:=h.len;simp;omega,fun _=>h.ok.set' ho⟩,h.ok.set' ho⟩
theorem Fit.trans {a b c:St} (h:Fit a b) (g:Fit b c):Fit a c:=by
 have h1:=h.take;have h2:=g.take;have l1:=h.len;have l2:=g.len
 refine ⟨⟨?_,by omega,fun _=>g.ok⟩,g.ok⟩
 have:c.take a.length=(c.take b.length).take a.length:=by rw [List.take_take,Nat.min_eq_left l1]
 rw [this,h2,h1];simp
def Lv (s0 s:St) (m:Nat) (ty:Option TypeId) (v:AV) (es:List AV):Prop:=∃o,v=.lst m es o∧Own s s0.length m ty o es.length
theorem Lv.nil {s0 s:St} {m:Nat} {ty:Option TypeId}:Lv s0 s m ty (.lst m [] .tight) []:=⟨.tight,rfl,.nil⟩
theorem Lv.obj {s0 s:St} {m:Nat} {ty:Option TypeId} {v:AV} {es:List AV} (h:Lv s0 s m ty v es) {o:AObj}:Lv s0 (s++[o]) m ty v es:=by
 obtain ⟨p,h1,h2⟩:=h;exact ⟨p,h1,h2.snoc⟩
theorem Lv.push {s0 s:St} {m bytes:Nat} {ty:Option TypeId} {v:AV} {es:List AV} (h:Lv s0 s m ty v es) (hf:Fit s0 s) {x:AV} {ap:Ap} (hl:es.length≤4000000000) (hby:bytes≤256) :
  ∃v' s',appendA m bytes ty s v (.lst m [x] ap)=some (.val v' s')∧Lv s0 s' m ty v' (es++[x])∧Fit s0 s'∧Steady 0 s s':=by
 obtain ⟨o,rfl,ho⟩:=h
 obtain ⟨o',s',h1,h2,h3,_⟩:=append_own (bytes:=bytes) (ap0:=ap) (ys:=[x]) (es:=es) hf.len ho.weak (by simp) (by simp [Ai.great];omega) hby
 exact ⟨_,s',h1,⟨o',rfl,h2⟩,⟨hf.g.trans h3,h3.ok hf.ok⟩,append_steady h1⟩
theorem Lv.still {s0 s:St} {m:Nat} {ty:Option TypeId} {v:AV} {es:List AV} (h:Lv s0 s m ty v es) (hes:AV.stills s0.length s es=some es):AV.still s0.length s v=some (.lst m es (endAp es.length)):=by
 obtain ⟨o,rfl,ho⟩:=h;exact own_still ho hes
theorem still_end {n m k:Nat} {st:St} {es:List AV} (h:AV.stills n st es=some es):AV.still n st (.lst m es (endAp k))=some (.lst m es (endAp k)):=by unfold endAp;split<;>simp [AV.still,h]
theorem Lv.eq {s0 s:St} {m:Nat} {ty:Option TypeId} {v:AV} {es:List AV} (h:Lv s0 s m ty v es):∃o,v=.lst m es o:=by obtain ⟨o,h1,_⟩:=h;exact ⟨o,h1⟩
theorem Lv.congr {s0 s:St} {m:Nat} {ty:Option TypeId} {v:AV} {es es':List AV} (h:Lv s0 s m ty v es) (e:es=es'):Lv s0 s m ty v es':=e▸h
theorem Lv.low {s0 s:St} {m:Nat} {ty:Option TypeId} {v:AV} {es:List AV} (h:Lv s0 s m ty v es) (hes:AV.lowsB s.length es=true):AV.lowB s.length v=true:=by
 obtain ⟨o,rfl,ho⟩:=h;exact own_low ho.weak hes
theorem Steady.obj {s s':St} (h:Steady 0 s s') {j:Nat} {ty:Option TypeId} {cs:List AV} (g:s[j]?=some (.cells ty cs)):s'[j]?=some (.cells ty cs):=h j _ (Nat.zero_le _) nofun g
theorem last_obj {s:St} {o:AObj}:(s++[o])[s.length]?=some o:=by simp
theorem stills_map {α:Type} {n:Nat} {st:St} {f:α→AV} {l:List α} (h:∀x∈l,AV.still n st (f x)=some (f x)):AV.stills n st (l.map f)=some (l.map f):=stills_of fun y hy=>by obtain ⟨x,hx,rfl⟩:=List.mem_map.1 hy;exact h x hx
theorem take_flatMap {α β:Type} {l:List α} {f:α→List β} {i:Nat} (h:i<l.length):(l.take (i+1)).flatMap f=(l.take i).flatMap f++f l[i]:=by rw [List.take_succ_eq_append_getElem h,List.flatMap_append];simp
theorem take_map {α β:Type} {l:List α} {f:α→β} {i:Nat} (h:i<l.length):(l.take (i+1)).map f=(l.take i).map f++[f l[i]]:=by rw [List.take_succ_eq_append_getElem h,List.map_append];simp
theorem take_foldl {α β:Type} {l:List α} {f:β→α→β} {b:β} {i:Nat} (h:i<l.length):(l.take (i+1)).foldl f b=f ((l.take i).foldl f b) l[i]:=by rw [List.take_succ_eq_append_getElem h,List.foldl_append];simp
end Go.Proofs.YtefildelnccljaaGreat.Ai
namespace Go.Proofs.YtefildelnccljaaGreat.Ai
open Go
def mapGetA (es:List (AV×AV)) (k:AV):Option (Option AV):=(findKey k es 0).map fun f=>f.map (·.2)
def mapPutA (es:List (AV×AV)) (k v:AV):Option (List (AV×AV)):=(findKey k es 0).map fun f=>match f with
 | some (j,_)=>es.set j (k,v)
 | none=>es++[(k,v)]
theorem opA_lookup' {kd:Nat} {zero:AV} {ok:Bool} {x:AX} {i:AX} {e:Env} {st:St}:opA (.lookup kd zero ok x i) e st=(
  if keyKind (i.ev e)=kd then
   (mapOf st (x.ev e)).bind fun es=>(mapGetA es (i.ev e)).map fun f=>.val (if ok then .tup [f.getD zero,.bool f.isSome] else f.getD zero) st
  else none):=by
 rw [opA_lookup]
 split
 ·cases mapOf st (x.ev e) with
  | none=>rfl
  | some es =>
   simp only [Option.bind_some,mapGetA]
   cases findKey (i.ev e) es 0 with
   | none=>rfl
   | some f=>cases f<;>rfl
 ·rfl
theorem opA_mapUpdate' {kd:Nat} {x:AX} {i:AX} {v:AX} {e:Env} {st:St}:opA (.mapUpdate kd x i v) e st=(match x.ev e with
  | .map r=>match st[r]? with
   | some (.map es)=>if keyKind (i.ev e)=kd then (mapPutA es (i.ev e) (v.ev e)).map fun es'=>.val .undef (st.set r (.map es')) else none
   | _=>none
  | _=>none):=by
 rw [opA_mapUpdate]
 cases AX.ev e x<;>try rfl
 rename_i r
 cases hs:st[r]? with
 | none=>simp only [hs]
 | some o =>
  cases o<;>simp only [hs]
  split
  ·simp only [mapPutA]
   cases findKey (i.ev e) _ 0 with
   | none=>rfl
   | some f=>cases f<;>rfl
  ·rfl
section
variable {κ α:Type} [DecidableEq κ]
def encM (K:κ→AV) (V:α→AV) (l:List (κ×α)):List (AV×AV):=l.map fun x=>(K x.1,V x.2)
def putM (k:κ) (v:α):List (κ×α)→List (κ×α)
 | []=>[(k,v)]
 | x::l=>if x.1=k then (k,v)::l else x::putM k v l
def getM (k:κ):List (κ×α)→Option α
 | []=>none
 | x::l=>if x.1=k then some x.2 else getM k l
theorem getM_putM (n k:κ) (v:α):∀l:List (κ×α),getM n (putM k v l)=if k=n then some v else getM n l
 | []=>by simp [putM,getM]
 | x::l=>by
  have ih:=getM_putM n k v l
  by_cases h:x.1=k
  ·by_cases h2:k=n
   ·simp [putM,getM,h,h2]
   ·simp [putM,getM,h,h2]
  ·by_cases h2:k=n
   ·subst h2;simp [putM,getM,h,ih]
   ·simp [putM,getM,h,h2,ih]
def idxM (k:κ):List (κ×α)→Nat→Option (Nat×α)
 | [],_=>none
 | x::l,i=>if x.1=k then some (i,x.2) else idxM k l (i+1)
theorem idxM_get (k:κ):∀(l:List (κ×α)) (i:Nat),(idxM k l i).map (·.2)=getM k l
 | [],_=>rfl
 | x::l,i=>by simp only [idxM,getM];split;rfl;exact idxM_get k l (i+1)
theorem find_enc {K:κ→AV} {V:α→AV} (hK:∀a b,sameKey (K a) (K b)=some (decide (a=b))) (k:κ):∀(l:List (κ×α)) (i:Nat),findKey (K k) (encM K V l) i=some ((idxM k l i).map fun x=>(x.1,V x.2))
 | [],_=>rfl
 | x::l,i=>by
  have ih:=find_enc hK k l (i+1) (V:=V)
  simp only [encM,List.map_cons] at ih ⊢
  by_cases h:x.1=k
  ·subst h;simp [findKey,hK,idxM]
  ·have h':k≠x.1:=fun e=>h e.symm
   simp [findKey,hK,idxM,h,h',ih]
theorem get_enc {K:κ→AV} {V:α→AV} (hK:∀a b,sameKey (K a) (K b)=some (decide (a=b))) (k:κ) (l:List (κ×α)):mapGetA (encM K V l) (K k)=some ((getM k l).map V):=by
 rw [mapGetA,find_enc hK,←idxM_get k l 0]
 cases idxM k l 0<;>rfl
theorem idxM_put (k:κ) (v:α):∀(l:List (κ×α)) (i:Nat),(match idxM k l i with
  | some (j,_)=>i≤j∧l.set (j-i) (k,v)=putM k v l
  | none=>l++[(k,v)]=putM k v l)
 | [],_=>rfl
 | x::l,i=>by
  have ih:=idxM_put k v l (i+1)
  by_cases h:x.1=k
  ·simp [idxM,putM,h]
  ·simp only [idxM,putM,h,if_false]
   cases hx:idxM k l (i+1) with
   | none=>rw [hx] at ih;simp only at ih ⊢;rw [List.cons_append,ih]
   | some y =>
    rw [hx] at ih
    simp only at ih ⊢
    refine ⟨by omega,?_⟩
    rw [show y.1-i=(y.1-(i+1))+1 by omega,List.set_cons_succ,ih.2]
theorem put_enc {K:κ→AV} {V:α→AV} (hK:∀a b,sameKey (K a) (K b)=some (decide (a=b))) (k:κ) (v:α) (l:List (κ×α)):mapPutA (encM K V l) (K k) (V v)=some (encM K V (putM k v l)):=by
 rw [mapPutA,find_enc hK]
 have h:=idxM_put k v l 0
 cases hx:idxM k l 0 with
 | none=>rw [hx] at h;simp only at h;rw [←h];simp [encM]
 | some y=>rw [hx] at h;simp only [Nat.sub_zero] at h;rw [←h.2];simp [encM,List.map_set]
end
theorem key_str (a b:List UInt8):sameKey (.str a) (.str b)=some (decide (a=b)):=by
 simp only [sameKey];congr 1;exact Bool.eq_iff_iff.2 (by simp)
theorem key_int (k:IntKind) (a b:Int):sameKey (.int k a) (.int k b)=some (decide (a=b)):=by
 simp only [sameKey,if_true];congr 1
theorem low_enc {κ α:Type} {n:Nat} {K:κ→AV} {V:α→AV} {l:List (κ×α)} (hK:∀k,AV.lowB n (K k)=true) (hV:∀v,AV.lowB n (V v)=true):AObj.lowB n (.map (encM K V l))=true:=by
 simp only [AObj.lowB,encM,List.all_map,List.all_eq_true]
 intro x _
 simp [hK,hV]
theorem task_of_aw_keep_d {A:AProg} {st:St} {f:FuncId} {F:AFunc} {args:List AV} {v:AV} {N:Nat} (G:St→Prop) (hp:A.prim f=none) (hf:A.fn f=some F) (hk:F.keep=true) (hN:args.length+(F.ntmps-args.length)=N)
  (h:∀e:Env,e.length=N→(∀i,AX.ev e (.t i)=args.getD i .undef)→∀K:PostQ,
   (∀x e ds st' st'',(x=.ret∨x=.nrm)→runDefs ds st'=some st''→G st''→(∃vs,resultsA st'' e F.results=some vs∧oneOf vs=v)→K x e ds st')→AW A f none F.body e [] st K) :
  ∃st',G st'∧runL A (.call f args) st=some ⟨.ret,⟨[v],[]⟩,st'⟩∧runL A (.seqc f args) st=some ⟨.ret,⟨[v],[]⟩,st'⟩:=by
 have hev:∀i,AX.ev (args++List.replicate (F.ntmps-args.length) .undef) (.t i)=args.getD i .undef:=by
  intro i
  simp only [AX.ev,List.getD_eq_getElem?_getD]
  by_cases hi:i<args.length
  ·rw [List.getElem?_append_left hi]
  ·rw [List.getElem?_append_right (by omega),List.getElem?_eq_none (by omega:args.length≤i),List.getElem?_replicate]
   split<;>rfl
 obtain ⟨x,e',ds',st1,hx,h1,st2,h2,h3,vs,h4,h5⟩:=h (args++List.replicate (F.ntmps-args.length) .undef) (by simpa using hN) hev
  (fun x e ds st1=>(x=.ret∨x=.nrm)∧∃st2,runDefs ds st1=some st2∧G st2∧∃vs,resultsA st2 e F.results=some vs∧oneOf vs=v)
  (fun x e ds st' st'' h1 h2 h3 h4=>⟨h1,st'',h2,h3,h4⟩)
 refine ⟨st2,h3,?_⟩
 constructor<;>rw [runL_eq]<;>simp only [layer,hp,callFn,hf,hx,h2]<;>rcases h1 with rfl | rfl<;>simp only [h4,hk,h5,if_true]
def IterOk (A:AProg) (g:FuncId) (cap:List AV) (n:Nat) (f:Nat→List AV):Prop :=
 ∀(r:Nat) (st0:St) (J:Nat→St→Prop) (S:St→Prop),
  (∀(i:Nat) (st:St),i<n→J i st→∃b st',runL A (.round r (f i)) st=some ⟨.ret,⟨[.bool b],[]⟩,st'⟩∧(b=true→J (i+1) st')∧(b=false→S st')) →
  (∀st,J n st→S st)→J 0 st0 →
  ∃st3,runL A (.seqc g (.func (.yield r) [] []::cap)) st0=some ⟨.ret,⟨[.tup []],[]⟩,st3⟩∧S st3
end Go.Proofs.YtefildelnccljaaGreat.Ai
namespace Go.Proofs.YtefildelnccljaaGreat.Ai
open Go
theorem task_of_aw_ex {A:AProg} {st:St} {f:FuncId} {F:AFunc} {args:List AV} {N:Nat} (G:AV→Prop) (hp:A.prim f=none) (hf:A.fn f=some F) (hk:F.keep=false) (hN:args.length+(F.ntmps-args.length)=N)
  (hst:StOk st)
  (h:∀e:Env,e.length=N→(∀i,AX.ev e (.t i)=args.getD i .undef)→∀K:PostQ,
   (∀x e ds st' st'' v,(x=.ret∨x=.nrm)→runDefs ds st'=some st''→st''.take st.length=st→G v→(∃vs,resultsA st'' e F.results=some vs∧AV.still st.length st'' (oneOf vs)=some v)→K x e ds st')→AW A f none F.body e [] st K) :
  ∃v,G v∧runL A (.call f args) st=some ⟨.ret,⟨[v],[]⟩,st⟩∧runL A (.seqc f args) st=some ⟨.ret,⟨[v],[]⟩,st⟩:=by
 have hev:∀i,AX.ev (args++List.replicate (F.ntmps-args.length) .undef) (.t i)=args.getD i .undef:=by
  intro i
  simp only [AX.ev,List.getD_eq_getElem?_getD]
  by_cases hi:i<args.length
  ·rw [List.getElem?_append_left hi]
  ·rw [List.getElem?_append_right (by omega),List.getElem?_eq_none (by omega:args.length≤i),List.getElem?_replicate]
   split<;>rfl
 obtain ⟨x,e',ds',st',hx,h1,st'',v,h2,h3,hG,vs,h4,h5⟩:=h (args++List.replicate (F.ntmps-args.length) .undef) (by simpa using hN) hev
  (fun x e ds st'=>(x=.ret∨x=.nrm)∧∃st'' v,runDefs ds st'=some st''∧st''.take st.length=st∧G v∧∃vs,resultsA st'' e F.results=some vs∧AV.still st.length st'' (oneOf vs)=some v)
  (fun x e ds st' st'' v h1 h2 h3 hG h4=>⟨h1,st'',v,h2,h3,hG,h4⟩)
 have hs:Ai.settle st.length (oneOf vs) st''=some (v,st):=by
  simp only [Ai.settle,h5,h3,show st.all (AObj.lowB st.length)=true from hst,if_true]
 refine ⟨v,hG,?_⟩
 constructor<;>rw [runL_eq]<;>simp only [layer,hp,callFn,hf,hx,h2]<;>rcases h1 with rfl | rfl<;>simp only [h4,hk,hs,Bool.false_eq_true,if_false]
end Go.Proofs.YtefildelnccljaaGreat.Ai
namespace Go.Proofs.YtefildelnccljaaGreat
open Go Ai
abbrev Sx:=List UInt8
structure Ex where
 k:Int
 a:Int
 b:Int
 c:Int
 n:Sx
 s:Sx
 v:Int
 args:List Int
 ap:Ap
 p:Int
def ints (l:List Int):List AV:=l.map (.int .i64)
def strs (l:List Sx):List AV:=l.map .str
def Ex.cs (x:Ex):List AV:=[.int .i64 x.k,.int .i64 x.a,.int .i64 x.b,.int .i64 x.c,.str x.n,.str x.s,.int .i64 x.v,.lst 1 (ints x.args) x.ap,.int .i64 x.p]
def Ex.av (x:Ex):AV:=.agg x.cs
structure It where
 k:Int
 n:Sx
 t:Int
 e:Int
 f:Int
 ss:List Sx
 ap:Ap
 s:Sx
 x:Sx
 p:Int
def It.cs (x:It):List AV:=[.int .i64 x.k,.str x.n,.int .i64 x.t,.int .i64 x.e,.int .i64 x.f,.lst 1 (strs x.ss) x.ap,.str x.s,.str x.x,.int .i64 x.p]
def It.av (x:It):AV:=.agg x.cs
structure Pm where
 n:Sx
 t:Int
def Pm.av (x:Pm):AV:=.agg [.str x.n,.int .i64 x.t]
structure Dc where
 k:Int
 n:Sx
 ps:List Pm
 pap:Ap
 its:List It
 iap:Ap
 t:Int
 e:Int
 p:Int
def Dc.cs (x:Dc):List AV:=[.int .i64 x.k,.str x.n,.lst 2 (x.ps.map Pm.av) x.pap,.lst 9 (x.its.map It.av) x.iap,.int .i64 x.t,.int .i64 x.e,.int .i64 x.p]
def Dc.av (x:Dc):AV:=.agg x.cs
structure Pg where
 ds:List Dc
 dap:Ap
 xs:List Ex
 xap:Ap
def Pg.av (p:Pg):AV:=.agg [.lst 7 (p.ds.map Dc.av) p.dap,.lst 9 (p.xs.map Ex.av) p.xap]
structure Ex.Ok (x:Ex):Prop where
 n:x.n.length≤1048576
 s:x.s.length≤1048576
 args:x.args.length≤1048576
 ap:Still x.ap
structure It.Ok (x:It):Prop where
 n:x.n.length≤1048576
 ss:x.ss.length≤1048576
 ap:Still x.ap
structure Dc.Ok (x:Dc):Prop where
 n:x.n.length≤1048576
 ps:x.ps.length≤1048576
 its:x.its.length≤1048576
 pap:Still x.pap
 iap:Still x.iap
 item:∀i∈x.its,i.Ok
structure Pg.Ok (p:Pg):Prop where
 ds:p.ds.length≤1048576
 xs:p.xs.length≤1048576
 dap:Still p.dap
 xap:Still p.xap
 dc:∀d∈p.ds,d.Ok
 ex:∀x∈p.xs,x.Ok
theorem ints_length (l:List Int):(ints l).length=l.length:=by simp [ints]
theorem ints_get {l:List Int} {i:Nat} (h:i<l.length):(ints l)[i]'(by rw [ints_length];exact h)=.int .i64 l[i]:=by simp [ints]
theorem strs_length (l:List Sx):(strs l).length=l.length:=by simp [strs]
theorem strs_get {l:List Sx} {i:Nat} (h:i<l.length):(strs l)[i]'(by rw [strs_length];exact h)=.str l[i]:=by simp [strs]
end Go.Proofs.YtefildelnccljaaGreat
namespace Go.Proofs.YtefildelnccljaaGreat
open Go Ai
theorem fn64:A.fn 64=some a64:=by kernel_rfl
theorem prim64:A.prim 64=none:=by kernel_rfl
theorem fn75:A.fn 75=some a75:=by kernel_rfl
theorem prim75:A.prim 75=none:=by kernel_rfl
theorem fn105:A.fn 105=some a105:=by kernel_rfl
theorem prim105:A.prim 105=none:=by kernel_rfl
theorem fn68:A.fn 68=some a68:=by kernel_rfl
theorem prim68:A.prim 68=none:=by kernel_rfl
def hasE (k:Int):Bool:=decide (1≤k) && decide (k≤5)
def hasF (k:Int):Bool:=decide (k=2) || decide (k=3) || decide (k=5) || decide (k=7)
theorem has_call {k:Int} {st:St} (hst:StOk st):runL A (.call 64 [.int .i64 k]) st=some ⟨.ret,⟨[.tup [.bool (hasE k),.bool (hasF k)]],[]⟩,st⟩:=by
 refine (task_of_aw (N:=24) prim64 fn64 rfl rfl hst ?_).1
 intro e he ha K hK
 have a0:=ha 0
 clear ha
 simp at a0
 simp [a64,he,a0]
 repeat' ((first | refine conda_splitn (fun h=>?_) (fun h=>?_) | refine grda_splitn (fun h=>?_) (fun h=>?_) | refine conda_split (fun h=>?_) (fun h=>?_) | refine grda_split (fun h=>?_) (fun h=>?_))<;>simp [he,a0,h])
 all_goals exact hK _ _ _ (.inl rfl) (by simp) ⟨_,rfl,by clear hK;simp_all [AV.still,AV.stills,hasE,hasF]<;>omega⟩
def pointsF (n:Nat) (k:Int) (h:Bool):Bool:=h && (decide (0≤k) && decide (k<n)) || !h && decide (k=0)
theorem points_call {p:Pg} {k:Int} {h:Bool} {st:St} (hst:StOk st):runL A (.call 75 [p.av,.int .i64 k,.bool h]) st=some ⟨.ret,⟨[.bool (pointsF p.xs.length k h)],[]⟩,st⟩:=by
 refine (task_of_aw (N:=27) prim75 fn75 rfl rfl hst ?_).1
 intro e he ha K hK
 have a0:=ha 0
 have a1:=ha 1
 have a2:=ha 2
 clear ha
 simp [Pg.av] at a0 a1 a2
 cases h
 all_goals simp [a75,he,a0,a1,a2]
 all_goals repeat' ((first | refine conda_splitn (fun h=>?_) (fun h=>?_) | refine grda_splitn (fun h=>?_) (fun h=>?_) | refine conda_split (fun h=>?_) (fun h=>?_) | refine grda_split (fun h=>?_) (fun h=>?_))<;>simp [he,a0,a1,a2,h])
 all_goals exact hK _ _ _ (.inl rfl) (by simp) ⟨_,rfl,by clear hK;simp_all [AV.still,AV.stills,pointsF]<;>omega⟩
def manyF (k:Int):Int :=
 if k=4∨k=5∨k=16∨k=21 then 1 else if (6≤k∧k≤14)∨k=17∨k=18 then 2 else if k=15 then 3 else if k=19 then -1 else 0
theorem many_call {k:Int} {st:St} (hst:StOk st):runL A (.call 105 [.int .i64 k]) st=some ⟨.ret,⟨[.int .i64 (manyF k)],[]⟩,st⟩:=by
 refine (task_of_aw (N:=25) prim105 fn105 rfl rfl hst ?_).1
 intro e he ha K hK
 have a0:=ha 0
 clear ha
 simp at a0
 simp [a105,he,a0]
 repeat' ((first | refine conda_splitn (fun h=>?_) (fun h=>?_) | refine grda_splitn (fun h=>?_) (fun h=>?_) | refine conda_split (fun h=>?_) (fun h=>?_) | refine grda_split (fun h=>?_) (fun h=>?_))<;>simp [he,a0,h])
 all_goals (refine hK _ _ _ (.inl rfl) (by simp) ⟨_,rfl,?_⟩;clear hK;simp_all [AV.still,manyF])
 all_goals omega
def partsF (x:Ex):List Int:=if manyF x.k<0 then x.args else [x.a,x.b,x.c].take (manyF x.k).toNat
theorem many_le (k:Int):manyF k≤3:=by unfold manyF;repeat' split<;>omega
def partsAp (x:Ex):Ap:=if manyF x.k<0 then endAp x.args.length else if manyF x.k=3 then .tight else .no
theorem stills_ints (n:Nat) (st:St):∀l:List Int,AV.stills n st (ints l)=some (ints l)
 | []=>rfl
 | x::l=>by
  have:=stills_ints n st l
  simp only [ints,List.map_cons,AV.stills,AV.still] at this ⊢
  rw [this];simp [AV.lowB]
theorem many_ge (k:Int):-1≤manyF k:=by unfold manyF;repeat' split<;>omega
theorem parts_call {x:Ex} (hx:x.Ok) {st:St} (hst:StOk st):runL A (.call 68 [x.av]) st=some ⟨.ret,⟨[.lst 1 (ints (partsF x)) (partsAp x)],[]⟩,st⟩:=by
 have h105:=many_call (k:=x.k) hst
 have h1:=many_le x.k
 have h2:=many_ge x.k
 refine (task_of_aw (N:=24) prim68 fn68 rfl rfl hst ?_).1
 intro e he ha K hK
 have a0:=ha 0
 clear ha
 simp [Ex.av,Ex.cs] at a0
 by_cases hm:manyF x.k<0
 ·by_cases ha0:x.args=[]
  ·have hap:appendA 1 8 (some 3) st (.lst 1 [] .tight) (.lst 1 (ints x.args) x.ap)=some (.val (.lst 1 [] .tight) st):=by simp [appendA,elemsOf,AV.asLst,ints,ha0]
   simp [a68,he,a0,h105,hm,hap]
   exact hK _ _ _ (.inl rfl) (by simp) ⟨_,rfl,by clear hK;simp [he,AV.still,AV.stills,partsF,partsAp,hm,ha0,endAp,ints]⟩
  ·obtain ⟨ap',st1,hap,ho,hg,_⟩:=append_own (st:=st) (b:=st.length) (m:=1) (ty:=some 3) (ap:=.tight) (bytes:=8) (ap0:=x.ap) (ys:=ints x.args) (es:=[]) (Nat.le_refl _) (.inl rfl) (by simpa [ints] using ha0) (by have:=hx.args;simp [Ai.great,ints];omega) (by omega)
   simp only [List.nil_append] at hap ho
   have hs:=own_still (es:=ints x.args) ho (stills_ints _ _ _)
   simp [a68,he,a0,h105,hm,hap]
   exact hK _ _ _ (.inl rfl) (by have:=hg.take;simpa using this) ⟨_,rfl,by
    clear hK
    rw [show partsF x=x.args by simp [partsF,hm],show partsAp x=endAp (ints x.args).length by simp [partsAp,hm,ints],←hs]
    simp [he,-AV.still]⟩
 ·rcases (by omega:manyF x.k=0∨manyF x.k=1∨manyF x.k=2∨manyF x.k=3) with hk | hk | hk | hk
  all_goals
   rw [hk] at h105
   simp [a68,he,a0,h105,bound]
   exact hK _ _ _ (.inl rfl) (by simp) ⟨_,rfl,by clear hK;simp [he,AV.still,AV.stills,partsF,partsAp,hk,ints,AV.lowB]⟩
end Go.Proofs.YtefildelnccljaaGreat
namespace Go.Proofs.YtefildelnccljaaGreat
open Go Ai
theorem fn74:A.fn 74=some a74:=by kernel_rfl
theorem prim74:A.prim 74=none:=by kernel_rfl
def w74_0:List Nat:=a74_0.writes
def oneF (x:Ex) (t:Int):Bool :=
 (decide (1≤x.k) && decide (x.k≤21)) && (partsF x).all (fun l=>decide (0≤l) && decide (l<t)) &&
 !((decide (manyF x.k<1) && !decide (x.a=0)) || (decide (manyF x.k<2) && !decide (x.b=0)) || (decide (manyF x.k<3) && !decide (x.c=0)) || (decide (0≤manyF x.k) && decide (0<x.args.length))) &&
 ((decide (x.k=3) || decide (x.k=19) || decide (x.k=20)) == !decide (x.n=[])) && (decide (x.k=20) == !decide (x.s=[])) &&
 (if 2<x.k then decide (x.v=0) else decide (0≤x.v) && (decide (x.k=1) || decide (x.v≤1)))
theorem parts_len (x:Ex) (hx:x.Ok):(partsF x).length≤1048576:=by
 unfold partsF;split
 ·exact hx.args
 ·simp;omega
theorem one_call {x:Ex} {t:Int} (hx:x.Ok) {st:St} (hst:StOk st):runL A (.call 74 [x.av,.int .i64 t]) st=some ⟨.ret,⟨[.bool (oneF x t)],[]⟩,st⟩:=by
 have h105:=many_call (k:=x.k) hst
 have h68:=parts_call hx hst
 have hpl:=parts_len x hx
 refine (task_of_aw (N:=122) prim74 fn74 rfl rfl hst ?_).1
 intro e he ha K hK
 have a0:=ha 0
 have a1:=ha 1
 clear ha
 simp only [Ex.av,Ex.cs] at h68
 simp [Ex.av,Ex.cs] at a0 a1
 by_cases hk:1≤x.k∧x.k≤21
 ·have hk1:¬x.k<1:=by omega
  have hk2:¬21<x.k:=by omega
  simp [a74,he,a0,a1,hk1,hk2,h105,h68]
  refine aw_loop (W:=w74_0) rfl (fun m e ds st'=>ds=[]∧st'=st∧∃i:Nat,i+m=(partsF x).length∧(∀l∈(partsF x).take i,0≤l∧l<t)∧AX.ev e (.t 7)=.int .i64 i) (partsF x).length
   ⟨rfl,rfl,0,by simp,by simp,by simp [he]⟩ ?_
  rintro m e1 ds st' hs ⟨rfl,rfl,i,hm,hall,g7⟩ K1 kn kx
  have he1:e1.length=122:=by simp [hs.1,he]
  have g1:=hs.ev 1 rfl (v:=.int .i64 t) (by simp [he,a1])
  have g2:=hs.ev 2 rfl (v:=.iptr x.av) (by simp [he,a0,Ex.av,Ex.cs])
  have g5:=hs.ev 5 rfl (v:=.int .i64 (manyF x.k)) (by simp [he])
  have g6:=hs.ev 6 rfl (v:=.lst 1 (ints (partsF x)) (partsAp x)) (by simp [he])
  by_cases hi:i<(partsF x).length
  ·obtain ⟨y,hy⟩:∃y,y=(partsF x)[i]:=⟨_,rfl⟩
   have hgy:=ints_get hi
   rw [←hy] at hgy
   have w1:IntKind.i64.wrap ((i:Int)+1)=(i:Int)+1:=wrap_i64 (by omega) (by omega)
   have hbad:¬(0≤y∧y<t)→oneF x t=false:=by
    intro h
    have:(partsF x).all (fun l=>decide (0≤l) && decide (l<t))=false:=by
     rw [List.all_eq_false]
     exact ⟨y,by rw [hy];exact List.getElem_mem hi,by simpa using h⟩
    simp [oneF,this]
   by_cases hy0:y<0
   ·have:=hbad (by omega)
    simp [a74_0,g1,g6,g7,he1,hi,hgy,ints_length,hy0]
    refine kx _ _ _ _ nofun fun hs'=>?_
    simp [he1]
    exact hK _ _ _ (.inl rfl) (by simp) ⟨_,rfl,by simp [he1,AV.still,this]⟩
   ·by_cases hyt:t≤y
    ·have:=hbad (by omega)
     simp [a74_0,g1,g6,g7,he1,hi,hgy,ints_length,hy0,hyt]
     refine kx _ _ _ _ nofun fun hs'=>?_
     simp [he1]
     exact hK _ _ _ (.inl rfl) (by simp) ⟨_,rfl,by simp [he1,AV.still,this]⟩
    ·simp [a74_0,g1,g6,g7,he1,hi,hgy,ints_length,hy0,hyt,w1]
     exact kn (m-1) _ _ _ (by omega) ⟨rfl,rfl,i+1,by omega,by
      rw [List.take_succ_eq_append_getElem hi,←hy]
      intro l hl
      rcases List.mem_append.1 hl with hl | hl
      ·exact hall l hl
      ·rw [List.mem_singleton.1 hl];omega,by simp [he1]⟩
  ·have hil:i=(partsF x).length:=by omega
   rw [hil,List.take_length] at hall
   have hgood:(partsF x).all (fun l=>decide (0≤l) && decide (l<t))=true:=by
    rw [List.all_eq_true];intro l hl;have:=hall l hl;simp [this]
   have hone:oneF x t=(!((decide (manyF x.k<1) && !decide (x.a=0)) || (decide (manyF x.k<2) && !decide (x.b=0)) || (decide (manyF x.k<3) && !decide (x.c=0)) || (decide (0≤manyF x.k) && decide (0<x.args.length))) &&
     ((decide (x.k=3) || decide (x.k=19) || decide (x.k=20)) == !decide (x.n=[])) && (decide (x.k=20) == !decide (x.s=[])) &&
     (if 2<x.k then decide (x.v=0) else decide (0≤x.v) && (decide (x.k=1) || decide (x.v≤1)))):=by
    simp only [oneF,hgood,decide_eq_true hk.1,decide_eq_true hk.2,Bool.and_true,Bool.true_and]
   clear hgood hall
   simp [a74_0,g6,g7,he1,hi,ints_length]
   refine kx _ _ _ _ nofun fun hs'=>?_
   simp only [blk_exit,if_true,sq_nrm]
   clear hs' hs kn kx
   refine aw_assoc.2 (aw_join (fun e2=>AX.ev e2 (.t 75)=.bool ((decide (manyF x.k<1) && !decide (x.a=0)) || (decide (manyF x.k<2) && !decide (x.b=0)) || (decide (manyF x.k<3) && !decide (x.c=0)) || (decide (0≤manyF x.k) && decide (0<x.args.length)))) ?_ fun e2 hs2 h75=>?_)
   ·simp [he1,g2,g5,Ex.av,Ex.cs]
    repeat' ((first | refine conda_splitn (fun h=>?_) (fun h=>?_) | refine grda_splitn (fun h=>?_) (fun h=>?_) | refine conda_split (fun h=>?_) (fun h=>?_) | refine grda_split (fun h=>?_) (fun h=>?_))<;>simp [he1,g2,g5,Ex.av,Ex.cs,h])
    all_goals simp_all [ints_length]
    all_goals omega
   have he2:e2.length=122:=by simp [hs2.1,he1]
   have g2:=hs2.ev 2 rfl (v:=.iptr (.agg x.cs)) (by simp [he1,g2,Ex.av])
   clear hs2 g1 g5 g6 g7
   generalize ((decide (manyF x.k<1) && !decide (x.a=0)) || (decide (manyF x.k<2) && !decide (x.b=0)) || (decide (manyF x.k<3) && !decide (x.c=0)) || (decide (0≤manyF x.k) && decide (0<x.args.length)))=B1 at h75 hone
   cases B1 with
   | true =>
    simp at hone
    simp [h75,he2]
    exact hK _ _ _ (.inl rfl) (by simp) ⟨_,rfl,by simp [he2,AV.still,hone]⟩
   | false =>
    rw [aw_seq,aw_condA,h75]
    simp only [conda_false,aw_skip,sq_nrm]
    refine aw_join (fun e3=>AX.ev e3 (.t 8)=.bool (decide (x.k=3) || decide (x.k=19) || decide (x.k=20))) ?_ fun e3 hs3 h8=>?_
    ·simp [he2,g2,Ex.cs]
     repeat' ((first | refine conda_splitn (fun h=>?_) (fun h=>?_) | refine grda_splitn (fun h=>?_) (fun h=>?_) | refine conda_split (fun h=>?_) (fun h=>?_) | refine grda_split (fun h=>?_) (fun h=>?_))<;>simp [he2,g2,Ex.cs,h])
     all_goals simp_all
    have he3:e3.length=122:=by simp [hs3.1,he2]
    have g2:=hs3.ev 2 rfl (v:=.iptr (.agg x.cs)) g2
    clear hs3 h75
    generalize (decide (x.k=3) || decide (x.k=19) || decide (x.k=20))=N at h8 hone
    refine aw_assoc.2 (aw_join (fun e4=>AX.ev e4 (.t 102)=.bool (!((N == !decide (x.n=[])) && (decide (x.k=20) == !decide (x.s=[]))))) ?_ fun e4 hs4 h102=>?_)
    ·simp [he3,g2,h8,Ex.cs]
     repeat' ((first | refine conda_splitn (fun h=>?_) (fun h=>?_) | refine grda_splitn (fun h=>?_) (fun h=>?_) | refine conda_split (fun h=>?_) (fun h=>?_) | refine grda_split (fun h=>?_) (fun h=>?_))<;>simp [he3,g2,h8,Ex.cs,h])
    have he4:e4.length=122:=by simp [hs4.1,he3]
    have g2:=hs4.ev 2 rfl (v:=.iptr (.agg x.cs)) g2
    clear hs4 h8
    have hone:oneF x t=(((N == !decide (x.n=[])) && (decide (x.k=20) == !decide (x.s=[]))) && (if 2<x.k then decide (x.v=0) else decide (0≤x.v) && (decide (x.k=1) || decide (x.v≤1)))):=by
     rw [hone];simp
    generalize ((N == !decide (x.n=[])) && (decide (x.k=20) == !decide (x.s=[])))=B2 at h102 hone
    cases B2 with
    | false =>
     simp at hone
     simp [h102,he4]
     exact hK _ _ _ (.inl rfl) (by simp) ⟨_,rfl,by simp [he4,AV.still,hone]⟩
    | true =>
     simp only [Bool.true_and] at hone
     simp at h102
     by_cases hk2:2<x.k
     ·rw [if_pos hk2] at hone
      simp [h102,he4,g2,Ex.cs,hk2]
      exact hK _ _ _ (.inl rfl) (by simp) ⟨_,rfl,by simp [he4,AV.still,hone]⟩
     ·rw [if_neg hk2] at hone
      simp [h102,he4,g2,Ex.cs,hk2]
      repeat' ((first | refine conda_splitn (fun h=>?_) (fun h=>?_) | refine grda_splitn (fun h=>?_) (fun h=>?_) | refine conda_split (fun h=>?_) (fun h=>?_) | refine grda_split (fun h=>?_) (fun h=>?_))<;>simp [he4,g2,Ex.cs,hk2,h])
      all_goals exact hK _ _ _ (.inl rfl) (by simp) ⟨_,rfl,by clear hK;simp_all [AV.still]⟩
 ·have:oneF x t=false:=by
   have:(decide (1≤x.k) && decide (x.k≤21))=false:=by simpa using hk
   simp [oneF,this]
  by_cases hk1:x.k<1
  ·simp [a74,he,a0,a1,hk1]
   exact hK _ _ _ (.inl rfl) (by simp) ⟨_,rfl,by simp [he,AV.still,this]⟩
  ·have hk2:21<x.k:=by omega
   simp [a74,he,a0,a1,hk1,hk2]
   exact hK _ _ _ (.inl rfl) (by simp) ⟨_,rfl,by simp [he,AV.still,this]⟩
end Go.Proofs.YtefildelnccljaaGreat
namespace Go.Proofs.YtefildelnccljaaGreat
open Go Ai
theorem low_lst {n m:Nat} {es:List AV} {ap:Ap} (h:Still ap):AV.lowB n (.lst m es ap)=AV.lowsB n es:=by
 cases ap with
 | tok id=>exact absurd rfl (h id)
 | _=>simp [AV.lowB]
theorem Still.or {ap:Ap} (h:Still ap):ap=.tight∨ap=.no:=by
 cases ap with
 | tok id=>exact absurd rfl (h id)
 | tight=>exact .inl rfl
 | no=>exact .inr rfl
theorem lows_map {α:Type} {n:Nat} {f:α→AV}:∀{l:List α},(∀x∈l,AV.lowB n (f x)=true)→AV.lowsB n (l.map f)=true
 | [],_=>rfl
 | x::l,h=>by simp only [List.map_cons,AV.lowsB,h x (by simp),lows_map (l:=l) fun y hy=>h y (by simp [hy]),Bool.and_self]
theorem lows_ints (n:Nat) (l:List Int):AV.lowsB n (ints l)=true:=lows_map fun _ _=>rfl
theorem lows_strs (n:Nat) (l:List Sx):AV.lowsB n (strs l)=true:=lows_map fun _ _=>rfl
theorem Ex.low {x:Ex} (h:x.Ok) (n:Nat):AV.lowsB n x.cs=true:=by
 rcases h.ap.or with e | e<;>simp [Ex.cs,AV.lowsB,AV.lowB,e,lows_ints]
theorem It.low {x:It} (h:x.Ok) (n:Nat):AV.lowsB n x.cs=true:=by
 rcases h.ap.or with e | e<;>simp [It.cs,AV.lowsB,AV.lowB,e,lows_strs]
theorem Pm.low (x:Pm) (n:Nat):AV.lowB n x.av=true:=by simp [Pm.av,AV.lowsB,AV.lowB]
theorem Dc.low {x:Dc} (h:x.Ok) (n:Nat):AV.lowsB n x.cs=true:=by
 rcases h.pap.or with e | e<;>rcases h.iap.or with e' | e'<;>simp [Dc.cs,AV.lowsB,AV.lowB,e,e',lows_map fun (y:Pm) _=>y.low n,lows_map fun (y:It) hy=>(show AV.lowB n y.av=true from It.low (h.item y hy) n)]
theorem obj_ok {st:St} (h:StOk st) {cs:List AV} (g:AV.lowsB (st.length+1) cs=true) {ty:Option TypeId}:StOk (st++[.cells ty cs]):=h.snoc (by simpa [AObj.lowB] using g)
@[simp] theorem Ex.cs_len (x:Ex):x.cs.length=9:=rfl
@[simp] theorem It.cs_len (x:It):x.cs.length=9:=rfl
@[simp] theorem Dc.cs_len (x:Dc):x.cs.length=7:=rfl
theorem ds_get {p:Pg} {i:Nat} (h:i<p.ds.length):(p.ds.map Dc.av)[i]'(by simpa using h)=.agg p.ds[i].cs:=by simp [Dc.av]
theorem xs_get {p:Pg} {i:Nat} (h:i<p.xs.length):(p.xs.map Ex.av)[i]'(by simpa using h)=.agg p.xs[i].cs:=by simp [Ex.av]
theorem drop_get {α:Type} {l:List α} {i:Nat} (h:i<l.length):l.drop i=l[i]::l.drop (i+1):=by simp
end Go.Proofs.YtefildelnccljaaGreat
namespace Go.Proofs.YtefildelnccljaaGreat
open Go Ai
theorem fn51:A.fn 51=some a51:=by kernel_rfl
theorem prim51:A.prim 51=none:=by kernel_rfl
theorem fn19:A.fn 19=some a19:=by kernel_rfl
theorem prim19:A.prim 19=none:=by kernel_rfl
def w51_0:List Nat:=a51_0.writes
def w51_1:List Nat:=a51_1.writes
def w51_2:List Nat:=a51_2.writes
def w19_0:List Nat:=a19_0.writes
def w19_1:List Nat:=a19_1.writes
def onesF:List Ex→Nat→Bool
 | [],_=>true
 | x::l,i=>oneF x i && onesF l (i+1)
def itemR (n:Nat) (x:It):Bool:=pointsF n x.e (hasE x.k) && pointsF n x.f (hasF x.k)
def declR (n:Nat) (d:Dc):Bool:=pointsF n d.e (decide (d.k=1) || decide (d.k=2)) && d.its.all (itemR n)
def may4 (p:Pg):Bool:=onesF p.xs 0 && p.ds.all (declR p.xs.length)
theorem may4_call {p:Pg} (hp:p.Ok) {st:St} (hst:StOk st):runL A (.call 51 [p.av]) st=some ⟨.ret,⟨[.bool (may4 p)],[]⟩,st⟩:=by
 refine (task_of_aw (N:=88) prim51 fn51 rfl rfl hst ?_).1
 intro e he ha K hK
 have a0:=ha 0
 clear ha
 simp [Pg.av] at a0
 simp [a51,he,a0]
 have hxs:=hp.xs
 refine aw_loop (W:=w51_2) rfl (fun m e ds st'=>ds=[]∧st'=st∧∃i:Nat,i+m=p.xs.length∧onesF p.xs 0=onesF (p.xs.drop i) i∧AX.ev e (.t 3)=.int .i64 i) p.xs.length
  ⟨rfl,rfl,0,by simp,by simp,by simp [he]⟩ ?_
 rintro m e1 ds st' hs ⟨rfl,rfl,i,hm,hspec,g3⟩ K1 kn kx
 have he1:e1.length=88:=by simp [hs.1,he]
 have g1:=hs.ev 1 rfl (v:=.iptr p.av) (by simp [he,a0,Pg.av])
 simp [Pg.av] at g1
 by_cases hi:i<p.xs.length
 ·have hgx:=xs_get hi
  have hone:=one_call (x:=p.xs[i]) (t:=(i:Int)) (hp.ex _ (List.getElem_mem hi)) hst
  simp only [Ex.av] at hone
  have w1:IntKind.i64.wrap ((i:Int)+1)=(i:Int)+1:=wrap_i64 (by omega) (by omega)
  rw [drop_get hi,onesF] at hspec
  cases hb:oneF p.xs[i] i with
  | false =>
   rw [hb] at hone hspec
   simp [a51_2,g1,g3,he1,hi,hgx,hone]
   refine kx _ _ _ _ nofun fun hs'=>?_
   simp [he1]
   exact hK _ _ _ (.inl rfl) (by simp) ⟨_,rfl,by simp [he1,AV.still,may4,hspec]⟩
  | true =>
   rw [hb] at hone hspec
   simp [a51_2,g1,g3,he1,hi,hgx,hone,w1]
   exact kn (m-1) _ _ _ (by omega) ⟨rfl,rfl,i+1,by omega,by simpa using hspec,by simp [he1]⟩
 ·have hil:i=p.xs.length:=by omega
  have hall:onesF p.xs 0=true:=by rw [hspec,hil];simp [onesF]
  simp [a51_2,g1,g3,he1,hil]
  refine kx _ _ _ _ nofun fun hs'=>?_
  have h4:may4 p=p.ds.all (declR p.xs.length):=by simp [may4,hall]
  clear hspec hs hs' kn kx g3
  simp [he1]
  have hds:=hp.ds
  refine aw_loop (W:=w51_1) rfl (fun m e ds s2=>ds=[]∧s2.take st'.length=st'∧st'.length≤s2.length∧StOk s2∧∃i:Nat,i+m=p.ds.length∧may4 p=(p.ds.drop i).all (declR p.xs.length)∧AX.ev e (.t 4)=.int .i64 i) p.ds.length
   ⟨rfl,by simp,by simp,hst,0,by simp,by simpa using h4,by simp [he1]⟩ ?_
  rintro m e2 ds s2 hs ⟨rfl,ht2,hl2,hst2,i,hm,hspec,g4⟩ K2 kn kx
  have he2:e2.length=88:=by simp [hs.1,he1]
  have g1:=hs.ev 1 rfl (v:=.iptr (.agg [.lst 7 (p.ds.map Dc.av) p.dap,.lst 9 (p.xs.map Ex.av) p.xap])) (by simp [he1,g1])
  by_cases hi:i<p.ds.length
  ·obtain ⟨d,hd⟩:∃d,d=p.ds[i]:=⟨_,rfl⟩
   have hdo:d.Ok:=by rw [hd];exact hp.dc _ (List.getElem_mem hi)
   have hgd:=ds_get hi
   rw [←hd] at hgd
   rw [drop_get hi,←hd,List.all_cons] at hspec
   have w1:IntKind.i64.wrap ((i:Int)+1)=(i:Int)+1:=wrap_i64 (by omega) (by omega)
   have hst3:StOk (s2++[.cells none d.cs]):=obj_ok hst2 (Dc.low hdo _)
   have hpt:=fun h=>points_call (p:=p) (k:=d.e) (h:=h) hst3
   simp only [Pg.av] at hpt
   have hcs:=hgd
   have hst3':=hst3
   simp only [Dc.cs] at hcs hpt hst3'
   have ht3:(s2++[AObj.cells none d.cs]).take st'.length=st':=by rw [List.take_append_of_le_length hl2,ht2]
   simp only [Dc.cs] at ht3
   simp [a51_1,g1,g4,he2,hi,hcs]
   refine grda_join (fun e3=>AX.ev e3 (.t 48)=.bool (!pointsF p.xs.length d.e (decide (d.k=1) || decide (d.k=2)))) ?_ fun e3 hs3 h48=>?_
   ·repeat' ((first | refine conda_splitn (fun h=>?_) (fun h=>?_) | refine grda_splitn (fun h=>?_) (fun h=>?_) | refine conda_split (fun h=>?_) (fun h=>?_) | refine grda_split (fun h=>?_) (fun h=>?_))<;>simp [he2,g1,h,hpt])
   have he3:e3.length=88:=by simp [hs3.1,he2]
   have g1:=hs3.ev 1 rfl (v:=.iptr (.agg [.lst 7 (p.ds.map Dc.av) p.dap,.lst 9 (p.xs.map Ex.av) p.xap])) (by simp [he2,g1])
   have g5:=hs3.ev 5 rfl (v:=.ptr s2.length 0) (by simp [he2])
   have g4:=hs3.ev 4 rfl (v:=.int .i64 i) (by simp [he2,g4])
   clear hs3 hpt
   cases hb:pointsF p.xs.length d.e (decide (d.k=1) || decide (d.k=2)) with
   | false =>
    simp [hb] at h48
    simp [declR,hb] at hspec
    simp [h48,he3]
    refine kx _ _ _ _ nofun fun hs'=>?_
    simp [he3]
    exact hK _ _ _ (.inl rfl) (by simpa using ht3) ⟨_,rfl,by simp [he3,AV.still,hspec]⟩
   | true =>
    simp [hb] at h48
    have hspec':may4 p=(d.its.all (itemR p.xs.length) && (p.ds.drop (i+1)).all (declR p.xs.length)):=by rw [hspec];simp [declR,hb]
    clear hspec
    simp [h48,he3]
    have hits:=hdo.its
    refine aw_loop (W:=w51_0) rfl (fun m e ds s4=>ds=[]∧s4=s2++[.cells none [.int .i64 d.k,.str d.n,.lst 2 (d.ps.map Pm.av) d.pap,.lst 9 (d.its.map It.av) d.iap,.int .i64 d.t,.int .i64 d.e,.int .i64 d.p]] ∧
      ∃j:Nat,j+m=d.its.length∧may4 p=((d.its.drop j).all (itemR p.xs.length) && (p.ds.drop (i+1)).all (declR p.xs.length))∧AX.ev e (.t 6)=.int .i64 j) d.its.length
     ⟨rfl,rfl,0,by simp,by simpa using hspec',by simp [he3]⟩ ?_
    clear hspec'
    rintro m5 e5 ds s4 hs5 ⟨rfl,rfl,j,hm5,hspec,g6⟩ K5 kn5 kx5
    have he5:e5.length=88:=by simp [hs5.1,he3]
    have g1:=hs5.ev 1 rfl (v:=.iptr (.agg [.lst 7 (p.ds.map Dc.av) p.dap,.lst 9 (p.xs.map Ex.av) p.xap])) (by simp [he3,g1])
    have g5:=hs5.ev 5 rfl (v:=.ptr s2.length 0) (by simp [he3,g5])
    have g4:=hs5.ev 4 rfl (v:=.int .i64 i) (by simp [he3,g4])
    by_cases hj:j<d.its.length
    ·obtain ⟨x,hx⟩:∃x,x=d.its[j]:=⟨_,rfl⟩
     have hgx:(d.its.map It.av)[j]'(by simpa using hj)=.agg x.cs:=by simp [It.av,hx]
     rw [drop_get hj,←hx,List.all_cons] at hspec
     have h64:=has_call (k:=x.k) hst3'
     have hpt:=fun k h=>points_call (p:=p) (k:=k) (h:=h) hst3'
     simp only [Pg.av] at hpt
     have w2:IntKind.i64.wrap ((j:Int)+1)=(j:Int)+1:=wrap_i64 (by omega) (by omega)
     simp only [It.cs] at hgx
     simp [a51_0,g1,g5,g6,he5,hj,hgx,h64,hpt]
     refine grdp_join (fun e6=>AX.ev e6 (.t 87)=.bool (!itemR p.xs.length x)) ?_ fun e6 hs6 h87=>?_
     ·repeat' ((first | refine conda_splitn (fun h=>?_) (fun h=>?_) | refine grda_splitn (fun h=>?_) (fun h=>?_) | refine conda_split (fun h=>?_) (fun h=>?_) | refine grda_split (fun h=>?_) (fun h=>?_))<;>simp [he5,g1,g5,g6,hgx,hj,hpt,h])
      all_goals simp_all [itemR]
     have he6:e6.length=88:=by simp [hs6.1,he5]
     have g6:=hs6.ev 6 rfl (v:=.int .i64 j) (by simp [he5,g6])
     clear hs6 hpt h64
     cases hb2:itemR p.xs.length x with
     | false =>
      simp [hb2] at h87 hspec
      simp [h87,he6]
      refine kx5 _ _ _ _ nofun fun hs'=>?_
      simp [he6]
      refine kx _ _ _ _ nofun fun hs'=>?_
      simp [he6]
      exact hK _ _ _ (.inl rfl) (by simpa using ht3) ⟨_,rfl,by simp [he6,AV.still,hspec]⟩
     | true =>
      simp [hb2] at h87
      simp only [hb2,Bool.true_and] at hspec
      simp [h87,he6,g6,w2]
      exact kn5 (m5-1) _ _ _ (by omega) ⟨rfl,rfl,j+1,by omega,hspec,by simp [he6]⟩
    ·have hjl:j=d.its.length:=by omega
     rw [hjl] at hspec g6
     simp at hspec
     simp [a51_0,g1,g5,g6,he5]
     refine kx5 _ _ _ _ nofun fun hs'=>?_
     simp [he5,g4,w1]
     exact kn (m-1) _ _ _ (by omega) ⟨rfl,ht3,by simp;omega,hst3',i+1,by omega,by simpa using hspec,by simp [he5]⟩
  ·have hil:i=p.ds.length:=by omega
   rw [hil] at hspec g4
   simp at hspec
   simp [a51_1,g1,g4,he2]
   refine kx _ _ _ _ nofun fun hs'=>?_
   simp [he2]
   exact hK _ _ _ (.inl rfl) ht2 ⟨_,rfl,by simp [he2,AV.still,hspec]⟩
end Go.Proofs.YtefildelnccljaaGreat
namespace Go.Proofs.YtefildelnccljaaGreat
open Go Ai
def itemK (k:Int) (x:It):Bool:=!(decide (x.k<1) || decide (8<x.k) || (decide (k<3) && !decide (x.k=1)) || (decide (x.k=6) && decide (x.ss.length=0)))
def declK (d:Dc):Bool:=!(decide (d.k<1) || decide (3<d.k)) && d.its.all (itemK d.k)
def may7 (p:Pg):Bool:=p.ds.all declK && may4 p
theorem may7_call {p:Pg} (hp:p.Ok) {st:St} (hst:StOk st):runL A (.call 19 [p.av]) st=some ⟨.ret,⟨[.bool (may7 p)],[]⟩,st⟩:=by
 refine (task_of_aw (N:=84) prim19 fn19 rfl rfl hst ?_).1
 intro e he ha K hK
 have a0:=ha 0
 clear ha
 simp [Pg.av] at a0
 simp [a19,he,a0]
 have hds:=hp.ds
 refine aw_loop (W:=w19_1) rfl (fun m e ds s2=>ds=[]∧s2.take st.length=st∧st.length≤s2.length∧StOk s2∧∃i:Nat,i+m=p.ds.length∧may7 p=((p.ds.drop i).all declK && may4 p)∧AX.ev e (.t 3)=.int .i64 i) p.ds.length
  ⟨rfl,by simp,by simp,hst,0,by simp,by simp [may7],by simp [he]⟩ ?_
 rintro m e2 ds s2 hs ⟨rfl,ht2,hl2,hst2,i,hm,hspec,g3⟩ K2 kn kx
 have he2:e2.length=84:=by simp [hs.1,he]
 have g1:=hs.ev 1 rfl (v:=.iptr (.agg [.lst 7 (p.ds.map Dc.av) p.dap,.lst 9 (p.xs.map Ex.av) p.xap])) (by simp [he,a0])
 by_cases hi:i<p.ds.length
 ·obtain ⟨d,hd⟩:∃d,d=p.ds[i]:=⟨_,rfl⟩
  have hdo:d.Ok:=by rw [hd];exact hp.dc _ (List.getElem_mem hi)
  have hcs:=ds_get hi
  rw [←hd] at hcs
  simp only [Dc.cs] at hcs
  rw [drop_get hi,←hd,List.all_cons] at hspec
  have w1:IntKind.i64.wrap ((i:Int)+1)=(i:Int)+1:=wrap_i64 (by omega) (by omega)
  simp [a19_1,g1,g3,he2,hi,hcs]
  refine grda_join (fun e3=>AX.ev e3 (.t 28)=.bool (decide (d.k<1) || decide (3<d.k))) ?_ fun e3 hs3 h28=>?_
  ·repeat' ((first | refine conda_splitn (fun h=>?_) (fun h=>?_) | refine grda_splitn (fun h=>?_) (fun h=>?_) | refine conda_split (fun h=>?_) (fun h=>?_) | refine grda_split (fun h=>?_) (fun h=>?_))<;>simp [he2,g1,g3,hi,hcs,h])
  have he3:e3.length=84:=by simp [hs3.1,he2]
  have g1:=hs3.ev 1 rfl (v:=.iptr (.agg [.lst 7 (p.ds.map Dc.av) p.dap,.lst 9 (p.xs.map Ex.av) p.xap])) (by simp [he2,g1])
  have g3:=hs3.ev 3 rfl (v:=.int .i64 i) (by simp [he2,g3])
  clear hs3
  cases hb:(decide (d.k<1) || decide (3<d.k)) with
  | true =>
   rw [hb] at h28
   simp only [declK,hb,Bool.not_true,Bool.false_and] at hspec
   simp [h28,he3]
   refine kx _ _ _ _ nofun fun hs'=>?_
   simp [he3]
   exact hK _ _ _ (.inl rfl) ht2 ⟨_,rfl,by simp [he3,AV.still,hspec]⟩
  | false =>
   rw [hb] at h28
   have hspec':may7 p=(d.its.all (itemK d.k) && ((p.ds.drop (i+1)).all declK && may4 p)):=by rw [hspec];simp only [declK,hb,Bool.not_false,Bool.true_and,Bool.and_assoc]
   clear hspec hb
   simp [h28,he3]
   have hits:=hdo.its
   refine aw_loop (W:=w19_0) rfl (fun m e ds s4=>ds=[]∧s4.take st.length=st∧st.length≤s4.length∧StOk s4 ∧
     ∃j:Nat,j+m=d.its.length∧may7 p=((d.its.drop j).all (itemK d.k) && ((p.ds.drop (i+1)).all declK && may4 p))∧AX.ev e (.t 4)=.int .i64 j) d.its.length
    ⟨rfl,ht2,hl2,hst2,0,by simp,by simpa using hspec',by simp [he3]⟩ ?_
   clear hspec'
   rintro m5 e5 ds s4 hs5 ⟨rfl,ht4,hl4,hst4,j,hm5,hspec,g4⟩ K5 kn5 kx5
   have he5:e5.length=84:=by simp [hs5.1,he3]
   have g1:=hs5.ev 1 rfl (v:=.iptr (.agg [.lst 7 (p.ds.map Dc.av) p.dap,.lst 9 (p.xs.map Ex.av) p.xap])) (by simp [he3,g1])
   have g3:=hs5.ev 3 rfl (v:=.int .i64 i) (by simp [he3,g3])
   by_cases hj:j<d.its.length
   ·obtain ⟨x,hx⟩:∃x,x=d.its[j]:=⟨_,rfl⟩
    have hxo:x.Ok:=by rw [hx];exact hdo.item _ (List.getElem_mem hj)
    have hgx:(d.its.map It.av)[j]'(by simpa using hj)=.agg x.cs:=by simp [It.av,hx]
    rw [drop_get hj,←hx,List.all_cons] at hspec
    have w2:IntKind.i64.wrap ((j:Int)+1)=(j:Int)+1:=wrap_i64 (by omega) (by omega)
    have hst5:StOk (s4++[.cells none x.cs]):=obj_ok hst4 (It.low hxo _)
    have ht5:(s4++[AObj.cells none x.cs]).take st.length=st:=by rw [List.take_append_of_le_length hl4,ht4]
    simp only [It.cs] at hgx hst5 ht5
    simp [a19_0,g1,g3,g4,he5,hi,hcs,hj,hgx]
    refine grda_join (fun e6=>AX.ev e6 (.t 81)=.bool (!itemK d.k x)) ?_ fun e6 hs6 h81=>?_
    ·repeat' ((first | refine conda_splitn (fun h=>?_) (fun h=>?_) | refine grda_splitn (fun h=>?_) (fun h=>?_) | refine conda_split (fun h=>?_) (fun h=>?_) | refine grda_split (fun h=>?_) (fun h=>?_))<;>simp [he5,g1,g3,hi,hcs,h])
     all_goals (clear hd hx hspec hK kn kx kn5 kx5 hcs hgx;simp_all [itemK,strs])
     all_goals (intro _;omega)
    have he6:e6.length=84:=by simp [hs6.1,he5]
    have g4:=hs6.ev 4 rfl (v:=.int .i64 j) (by simp [he5,g4])
    clear hs6
    cases hb2:itemK d.k x with
    | false =>
     simp [hb2] at h81 hspec
     simp [h81,he6]
     refine kx5 _ _ _ _ nofun fun hs'=>?_
     simp [he6]
     refine kx _ _ _ _ nofun fun hs'=>?_
     simp [he6]
     exact hK _ _ _ (.inl rfl) ht5 ⟨_,rfl,by simp [he6,AV.still,hspec]⟩
    | true =>
     simp [hb2] at h81
     simp only [hb2,Bool.true_and] at hspec
     simp [h81,he6,g4,w2]
     exact kn5 (m5-1) _ _ _ (by omega) ⟨rfl,ht5,by simp;omega,hst5,j+1,by omega,hspec,by simp [he6]⟩
   ·have hjl:j=d.its.length:=by omega
    rw [hjl] at hspec g4
    simp at hspec
    simp [a19_0,g1,g3,g4,he5,hi,hcs]
    refine kx5 _ _ _ _ nofun fun hs'=>?_
    simp [he5,g3,w1]
    exact kn (m-1) _ _ _ (by omega) ⟨rfl,ht4,hl4,hst4,i+1,by omega,by simpa using hspec,by simp [he5]⟩
 ·have hil:i=p.ds.length:=by omega
  rw [hil] at hspec g3
  simp at hspec
  have h51:=may4_call hp hst2
  simp only [Pg.av] at h51
  simp [a19_1,g1,g3,he2]
  refine kx _ _ _ _ nofun fun hs'=>?_
  simp [he2,g1,h51]
  exact hK _ _ _ (.inl rfl) ht2 ⟨_,rfl,by simp [he2,AV.still,hspec]⟩
end Go.Proofs.YtefildelnccljaaGreat
namespace Go.Proofs.YtefildelnccljaaGreat
open Go Ai
theorem fn18:A.fn 18=some a18:=by kernel_rfl
theorem prim18:A.prim 18=none:=by kernel_rfl
def w18_0:List Nat:=a18_0.writes
def w18_1:List Nat:=a18_1.writes
def w18_2:List Nat:=a18_2.writes
def gX (x:Ex):Nat:=x.args.length+x.n.length / 100+x.s.length / 100
def gI (x:It):Nat:=1+x.ss.length
def gD (d:Dc):Nat:=d.ps.length+d.n.length / 100+((d.its.take 1000).map gI).sum
def greatF (p:Pg):Bool:=decide (300<p.xs.length) || decide (60<p.ds.length) || decide (600<(p.xs.map gX).sum+(p.ds.map gD).sum)
theorem sum_le {α:Type} {f:α→Nat} {c:Nat}:∀{l:List α},(∀x∈l,f x≤c)→(l.map f).sum≤l.length * c
 | [],_=>by simp
 | x::l,h=>by
  have h1:=h x (by simp)
  have h2:=sum_le (l:=l) (f:=f) (c:=c) fun y hy=>h y (by simp [hy])
  simp only [List.map_cons,List.sum_cons,List.length_cons,Nat.add_mul,Nat.one_mul]
  omega
theorem sum_take {α:Type} {f:α→Nat} {l:List α} {i:Nat} (h:i<l.length):((l.take (i+1)).map f).sum=((l.take i).map f).sum+f l[i]:=by
 rw [List.take_succ_eq_append_getElem h,List.map_append,List.sum_append];simp only [List.map_cons,List.map_nil,List.sum_cons,List.sum_nil,Nat.add_zero]
theorem quo100 {n:Nat} (h:n≤1048576):IntKind.i64.wrap ((n:Int) / 100)=(n:Int) / 100:=wrap_i64 (by omega) (by omega)
theorem great_call {p:Pg} (hp:p.Ok) {st:St} (hst:StOk st):runL A (.call 18 [p.av]) st=some ⟨.ret,⟨[.bool (greatF p)],[]⟩,st⟩:=by
 refine (task_of_aw (N:=107) prim18 fn18 rfl rfl hst ?_).1
 intro e he ha K hK
 have a0:=ha 0
 clear ha
 simp [Pg.av] at a0
 by_cases hx:300<p.xs.length
 ·have hx':(300:Int)<(p.xs.length:Int):=by omega
  simp [a18,he,a0,hx']
  exact hK _ _ _ (.inl rfl) (by simp) ⟨_,rfl,by simp [he,AV.still,greatF,hx]⟩
 by_cases hd:60<p.ds.length
 ·have hx':¬(300:Int)<(p.xs.length:Int):=by omega
  have hd':(60:Int)<(p.ds.length:Int):=by omega
  simp [a18,he,a0,hx',hd']
  exact hK _ _ _ (.inl rfl) (by simp) ⟨_,rfl,by simp [he,AV.still,greatF,hd]⟩
 have hx':¬(300:Int)<(p.xs.length:Int):=by omega
 have hd':¬(60:Int)<(p.ds.length:Int):=by omega
 have hgr:greatF p=decide (600<(p.xs.map gX).sum+(p.ds.map gD).sum):=by simp [greatF,hx,hd]
 have bX:∀i,((p.xs.take i).map gX).sum≤300 * 3145728:=by
  intro i
  have:=sum_le (f:=gX) (c:=3145728) (l:=p.xs.take i) (fun x hx=>by unfold gX;have:=(hp.ex x (List.mem_of_mem_take hx)).n;have:=(hp.ex x (List.mem_of_mem_take hx)).s;have:=(hp.ex x (List.mem_of_mem_take hx)).args;omega)
  have hl:(p.xs.take i).length≤300:=by rw [List.length_take];omega
  exact Nat.le_trans this (Nat.mul_le_mul_right _ hl)
 have bI:∀d∈p.ds,∀i,((d.its.take i).map gI).sum≤i * 1048577:=by
  intro d hdm i
  have:=sum_le (f:=gI) (c:=1048577) (l:=d.its.take i) (fun x hx=>by have:=((hp.dc d hdm).item x (List.mem_of_mem_take hx)).ss;unfold gI;omega)
  have hl:(d.its.take i).length≤i:=by rw [List.length_take];omega
  exact Nat.le_trans this (Nat.mul_le_mul_right _ hl)
 have bD:∀i,((p.ds.take i).map gD).sum≤60 * 1060000000:=by
  intro i
  have:=sum_le (f:=gD) (c:=1060000000) (l:=p.ds.take i) (fun d hdm=>by
   have h1:=hp.dc d (List.mem_of_mem_take hdm)
   have:=h1.ps;have:=h1.n;have:=bI d (List.mem_of_mem_take hdm) 1000
   unfold gD;omega)
  have hl:(p.ds.take i).length≤60:=by rw [List.length_take];omega
  exact Nat.le_trans this (Nat.mul_le_mul_right _ hl)
 simp [a18,he,a0,hx',hd']
 refine aw_loop (W:=w18_2) rfl (fun m e ds st'=>ds=[]∧st'=st∧∃i:Nat,i+m=p.xs.length∧AX.ev e (.t 4)=.int .i64 i∧AX.ev e (.t 3)=.int .i64 (((p.xs.take i).map gX).sum:Nat)) p.xs.length
  ⟨rfl,rfl,0,by simp,by simp [he],by simp [he]⟩ ?_
 rintro m e1 ds st' hs ⟨rfl,rfl,i,hm,g4,g3⟩ K1 kn kx
 have he1:e1.length=107:=by simp [hs.1,he]
 have g1:=hs.ev 1 rfl (v:=.iptr (.agg [.lst 7 (p.ds.map Dc.av) p.dap,.lst 9 (p.xs.map Ex.av) p.xap])) (by simp [he,a0])
 by_cases hi:i<p.xs.length
 ·have hcs:=xs_get hi
  have hxo:=hp.ex _ (List.getElem_mem hi)
  have hsum:=sum_take (f:=gX) hi
  have hb1:=bX i
  obtain ⟨S,hS⟩:∃S,S=((p.xs.take i).map gX).sum:=⟨_,rfl⟩
  rw [←hS] at g3 hsum hb1
  obtain ⟨x,hx⟩:∃x,x=p.xs[i]:=⟨_,rfl⟩
  rw [←hx] at hcs hxo hsum
  have n1:=hxo.args;have n2:=hxo.n;have n3:=hxo.s
  simp only [Ex.cs] at hcs
  have w1:IntKind.i64.wrap ((i:Int)+1)=(i:Int)+1:=wrap_i64 (by omega) (by omega)
  have q1:=quo100 n2
  have q2:=quo100 n3
  have w2:IntKind.i64.wrap ((S:Int)+(x.args.length:Int))=(S:Int)+(x.args.length:Int):=wrap_i64 (by omega) (by omega)
  have w3:IntKind.i64.wrap ((S:Int)+(x.args.length:Int)+(x.n.length:Int) / 100)=(S:Int)+(x.args.length:Int)+(x.n.length:Int) / 100:=wrap_i64 (by omega) (by omega)
  have w4:IntKind.i64.wrap ((S:Int)+(x.args.length:Int)+(x.n.length:Int) / 100+(x.s.length:Int) / 100)=(S:Int)+(x.args.length:Int)+(x.n.length:Int) / 100+(x.s.length:Int) / 100:=wrap_i64 (by omega) (by omega)
  simp [a18_2,g1,g3,g4,he1,hi,hcs,ints_length,w1,w2,w3,w4,q1,q2]
  exact kn (m-1) _ _ _ (by omega) ⟨rfl,rfl,i+1,by omega,by simp [he1],by rw [hsum];simp [he1,gX];omega⟩
 ·have hil:i=p.xs.length:=by omega
  rw [hil,List.take_length] at g3
  have bX0:=bX p.xs.length
  rw [List.take_length] at bX0
  obtain ⟨SX,hSX⟩:∃S,S=(p.xs.map gX).sum:=⟨_,rfl⟩
  rw [←hSX] at g3 bX0 hgr
  simp [a18_2,g1,g4,he1,hi]
  refine kx _ _ _ _ nofun fun hs'=>?_
  clear kn kx hs hs' bX
  simp [he1]
  refine aw_loop (W:=w18_1) rfl (fun m e ds s2=>ds=[]∧s2=st'∧∃i:Nat,i+m=p.ds.length∧AX.ev e (.t 5)=.int .i64 i∧AX.ev e (.t 3)=.int .i64 ((SX+((p.ds.take i).map gD).sum:Nat))) p.ds.length
   ⟨rfl,rfl,0,by simp,by simp [he1],by simp [he1,g3]⟩ ?_
  rintro m e2 ds s2 hs ⟨rfl,rfl,i,hm,g5,g3⟩ K2 kn kx
  have he2:e2.length=107:=by simp [hs.1,he1]
  have g1:=hs.ev 1 rfl (v:=.iptr (.agg [.lst 7 (p.ds.map Dc.av) p.dap,.lst 9 (p.xs.map Ex.av) p.xap])) (by simp [he1,g1])
  by_cases hi:i<p.ds.length
  ·have hcs:=ds_get hi
   have hdm:=List.getElem_mem hi
   have hdo:=hp.dc _ hdm
   have hbI:=bI _ hdm
   have hsum:=sum_take (f:=gD) hi
   have hb1:=bD i
   obtain ⟨S,hS⟩:∃S,S=SX+((p.ds.take i).map gD).sum:=⟨_,rfl⟩
   have hS1:S≤64543718400:=by omega
   have hsum:SX+((p.ds.take (i+1)).map gD).sum=S+gD p.ds[i]:=by rw [hsum];omega
   rw [←hS] at g3
   clear hb1
   obtain ⟨d,hd⟩:∃d,d=p.ds[i]:=⟨_,rfl⟩
   rw [←hd] at hcs hdo hsum hbI
   have n1:=hdo.ps;have n2:=hdo.n;have n3:=hdo.its
   simp only [Dc.cs] at hcs
   have w1:IntKind.i64.wrap ((i:Int)+1)=(i:Int)+1:=wrap_i64 (by omega) (by omega)
   have q1:=quo100 n2
   have w2:IntKind.i64.wrap ((S:Int)+(d.ps.length:Int))=(S:Int)+(d.ps.length:Int):=wrap_i64 (by omega) (by omega)
   have w3:IntKind.i64.wrap ((S:Int)+(d.ps.length:Int)+(d.n.length:Int) / 100)=(S:Int)+(d.ps.length:Int)+(d.n.length:Int) / 100:=wrap_i64 (by omega) (by omega)
   simp [a18_1,g1,g3,g5,he2,hi,hcs,w2,w3,q1]
   refine aw_loop (W:=w18_0) rfl (fun m e ds s4=>ds=[]∧s4=s2∧∃j:Nat,j+m=min d.its.length 1000∧AX.ev e (.t 6)=.int .i64 j∧AX.ev e (.t 3)=.int .i64 ((S+d.ps.length+d.n.length / 100+((d.its.take j).map gI).sum:Nat))) (min d.its.length 1000)
    ⟨rfl,rfl,0,by simp,by simp [he2],by simp [he2]⟩ ?_
   rintro m5 e5 ds s4 hs5 ⟨rfl,rfl,j,hm5,g6,g3⟩ K5 kn5 kx5
   have he5:e5.length=107:=by simp [hs5.1,he2]
   have g1:=hs5.ev 1 rfl (v:=.iptr (.agg [.lst 7 (p.ds.map Dc.av) p.dap,.lst 9 (p.xs.map Ex.av) p.xap])) (by simp [he2,g1])
   have g5:=hs5.ev 5 rfl (v:=.int .i64 i) (by simp [he2,g5])
   by_cases hj:j<d.its.length
   ·by_cases hj2:j<1000
    ·have hj2':(j:Int)<1000:=by omega
     obtain ⟨x,hx⟩:∃x,x=d.its[j]:=⟨_,rfl⟩
     have hxo:x.Ok:=by rw [hx];exact hdo.item _ (List.getElem_mem hj)
     have hgx:(d.its.map It.av)[j]'(by simpa using hj)=.agg x.cs:=by simp [It.av,hx]
     have hsj:=sum_take (f:=gI) hj
     rw [←hx] at hsj
     have hbj:=hbI j
     have n4:=hxo.ss
     obtain ⟨T,hT⟩:∃T,T=S+d.ps.length+d.n.length / 100+((d.its.take j).map gI).sum:=⟨_,rfl⟩
     have hTb:T≤66000000000:=by omega
     have hsj:S+d.ps.length+d.n.length / 100+((d.its.take (j+1)).map gI).sum=T+gI x:=by rw [hsj];omega
     rw [←hT] at g3
     simp only [It.cs] at hgx
     have w4:IntKind.i64.wrap ((j:Int)+1)=(j:Int)+1:=wrap_i64 (by omega) (by omega)
     have w5:IntKind.i64.wrap ((T:Int)+1)=(T:Int)+1:=wrap_i64 (by omega) (by omega)
     have w6:IntKind.i64.wrap ((T:Int)+1+(x.ss.length:Int))=(T:Int)+1+(x.ss.length:Int):=wrap_i64 (by omega) (by omega)
     simp [a18_0,g1,g3,g5,g6,he5,hi,hcs,hj,hj2',hgx,strs_length,w4,w5,w6]
     exact kn5 (m5-1) _ _ _ (by omega) ⟨rfl,rfl,j+1,by omega,by simp [he5],by rw [hsj];simp [he5,gI];omega⟩
    ·have hj2':¬(j:Int)<1000:=by omega
     have hj1:j=1000:=by omega
     simp [a18_0,g1,g3,g5,g6,he5,hi,hcs,hj,hj2']
     refine kx5 _ _ _ _ nofun fun hs'=>?_
     simp [he5,g5,w1]
     exact kn (m-1) _ _ _ (by omega) ⟨rfl,rfl,i+1,by omega,by simp [he5],by rw [hsum];simp [he5,g3,gD,hj1];omega⟩
   ·have hjl:j=d.its.length:=by omega
    have hmin:(d.its.take 1000)=d.its.take j:=by rw [hjl,List.take_length,List.take_of_length_le (by omega)]
    simp [a18_0,g1,g3,g5,g6,he5,hi,hcs,hj]
    refine kx5 _ _ _ _ nofun fun hs'=>?_
    simp [he5,g5,w1]
    exact kn (m-1) _ _ _ (by omega) ⟨rfl,rfl,i+1,by omega,by simp [he5],by rw [hsum,gD,hmin];simp [he5,g3];omega⟩
  ·have hil:i=p.ds.length:=by omega
   rw [hil,List.take_length] at g3
   have hc:((600:Int)<((SX+(p.ds.map gD).sum:Nat):Int))↔600<SX+(p.ds.map gD).sum:=by omega
   simp [a18_1,g1,g5,he2,hi]
   refine kx _ _ _ _ nofun fun hs'=>?_
   simp [he2,g3]
   exact hK _ _ _ (.inl rfl) (by simp) ⟨_,rfl,by rw [hgr];simp [he2,AV.still];omega⟩
end Go.Proofs.YtefildelnccljaaGreat
namespace Go.Proofs.YtefildelnccljaaGreat
open Go Ai
theorem fn134:A.fn 134=some a134:=by kernel_rfl
theorem prim134:A.prim 134=none:=by kernel_rfl
theorem fn148:A.fn 148=some a148:=by kernel_rfl
theorem prim148:A.prim 148=none:=by kernel_rfl
theorem fn146:A.fn 146=some a146:=by kernel_rfl
theorem prim146:A.prim 146=none:=by kernel_rfl
theorem prim155:A.prim 155=some (cloneA 1 8):=rfl
theorem has2_call {k:Int} {st:St} (hst:StOk st):runL A (.call 148 [.int .i64 k]) st=some ⟨.ret,⟨[.tup [.bool (hasE k),.bool (hasF k)]],[]⟩,st⟩:=by
 refine (task_of_aw (N:=14) prim148 fn148 rfl rfl hst ?_).1
 intro e he ha K hK
 have a0:=ha 0
 clear ha
 simp at a0
 simp [a148,he,a0]
 repeat' ((first | refine conda_splitn (fun h=>?_) (fun h=>?_) | refine grda_splitn (fun h=>?_) (fun h=>?_) | refine conda_split (fun h=>?_) (fun h=>?_) | refine grda_split (fun h=>?_) (fun h=>?_))<;>simp [he,a0,h])
 all_goals (refine hK _ _ _ (.inl rfl) (by simp) ⟨_,rfl,?_⟩;clear hK;simp_all [AV.still,AV.stills,hasE,hasF])
 all_goals omega
theorem points2_call {p:Pg} {k:Int} {h:Bool} {st:St} (hst:StOk st):runL A (.call 146 [p.av,.int .i64 k,.bool h]) st=some ⟨.ret,⟨[.bool (pointsF p.xs.length k h)],[]⟩,st⟩:=by
 refine (task_of_aw (N:=19) prim146 fn146 rfl rfl hst ?_).1
 intro e he ha K hK
 have a0:=ha 0
 have a1:=ha 1
 have a2:=ha 2
 clear ha
 simp [Pg.av] at a0 a1 a2
 cases h
 all_goals simp [a146,he,a0,a1,a2]
 all_goals repeat' ((first | refine conda_splitn (fun h=>?_) (fun h=>?_) | refine grda_splitn (fun h=>?_) (fun h=>?_) | refine conda_split (fun h=>?_) (fun h=>?_) | refine grda_split (fun h=>?_) (fun h=>?_))<;>simp [he,a0,a1,a2,h])
 all_goals (refine hK _ _ _ (.inl rfl) (by simp) ⟨_,rfl,?_⟩;clear hK;simp_all [AV.still,AV.stills,pointsF])
 all_goals omega
def parts2Ap (x:Ex):Ap:=if x.k=19 then .no else .tight
theorem flat_ints:∀l:List Int,flat (ints l)=ints l
 | []=>rfl
 | x::l=>by
  have:=flat_ints l
  simp only [ints,List.map_cons,flat] at this ⊢
  rw [this];rfl
theorem group_ints:∀l:List Int,group 1 false l.length (ints l)=ints l
 | []=>rfl
 | x::l=>by
  have:=group_ints l
  simp only [ints,List.map_cons,List.length_cons,group] at this ⊢
  simp [this]
theorem clone_ints {l:List Int} {ap:Ap} (hl:l.length≤1048576) {st:St} :
  runL A (.call 155 [.lst 1 (ints l) ap]) st=if l=[] then some ⟨.ret,⟨[.lst 1 [] .no],[]⟩,st⟩ else some ⟨.ret,⟨[.sl st.length 1 0 l.length none],[]⟩,st++[.cells none (ints l)]⟩:=by
 rw [runL_eq];simp only [layer,prim155,cloneA,AV.asLst,ints_length,flat_ints]
 rw [if_pos ⟨trivial,by unfold great;omega,by decide⟩]
 by_cases h:l=[]
 ·rw [if_pos (by simp [ints,h]),if_pos h]
 ·rw [if_neg (by simpa [ints] using h),if_neg h]
theorem parts2_call {x:Ex} (hx:x.Ok) {st:St} (hst:StOk st):runL A (.call 134 [x.av]) st=some ⟨.ret,⟨[.lst 1 (ints (partsF x)) (parts2Ap x)],[]⟩,st⟩:=by
 have h155:=clone_ints (ap:=x.ap) hx.args (st:=st)
 refine (task_of_aw (N:=67) prim134 fn134 rfl rfl hst ?_).1
 intro e he ha K hK
 have a0:=ha 0
 clear ha
 simp [Ex.av,Ex.cs] at a0
 by_cases hk:x.k=19
 ·have hm:manyF x.k=-1:=by rw [hk];rfl
  have hp:partsF x=x.args:=by unfold partsF;rw [hm];rfl
  have hap:parts2Ap x=.no:=by unfold parts2Ap;rw [if_pos hk]
  by_cases hn:x.args=[]
  ·rw [if_pos hn] at h155
   simp [a134,he,a0,hk,h155]
   exact hK _ _ _ (.inl rfl) (by simp) ⟨_,rfl,by simp [he,AV.still,AV.stills,hp,hap,hn,ints]⟩
  ·rw [if_neg hn] at h155
   simp [a134,he,a0,hk,h155]
   exact hK _ _ _ (.inl rfl) (by simp) ⟨_,rfl,by simp [he,AV.still,hp,hap,ints_length,lows_ints,group_ints]⟩
 ·have hap:parts2Ap x=.tight:=by unfold parts2Ap;rw [if_neg hk]
  simp [a134,he,a0]
  repeat' ((first | refine conda_splitn (fun h=>?_) (fun h=>?_) | refine grda_splitn (fun h=>?_) (fun h=>?_) | refine conda_split (fun h=>?_) (fun h=>?_) | refine grda_split (fun h=>?_) (fun h=>?_))<;>simp [he,a0,hk,h])
  all_goals (refine hK _ _ _ (.inl rfl) (by simp) ⟨_,rfl,?_⟩;clear hK;rw [hap];simp_all [AV.still,AV.stills,AV.lowB,partsF,manyF,ints])
  all_goals first
   | (rw [if_neg (show ¬x.k≤14 by omega)];rfl)
   | (rw [if_neg (show ¬(6≤x.k∧x.k≤14) by omega)];rfl)
end Go.Proofs.YtefildelnccljaaGreat
namespace Go.Proofs.YtefildelnccljaaGreat
open Go Ai
theorem fn157:A.fn 157=some a157:=by kernel_rfl
theorem prim157:A.prim 157=none:=by kernel_rfl
theorem fn143:A.fn 143=some a143:=by kernel_rfl
theorem prim143:A.prim 143=none:=by kernel_rfl
theorem fn144:A.fn 144=some a144:=by kernel_rfl
theorem prim144:A.prim 144=none:=by kernel_rfl
def w157_0:List Nat:=a157_0.writes
theorem equalInts_call {a b:List Int} {p q:Ap} (ha':a.length≤1048576) (hb':b.length≤1048576) {st:St} (hst:StOk st) :
  runL A (.call 157 [.lst 1 (ints a) p,.lst 1 (ints b) q]) st=some ⟨.ret,⟨[.bool (decide (a=b))],[]⟩,st⟩:=by
 refine (task_of_aw (N:=26) prim157 fn157 rfl rfl hst ?_).1
 intro e he ha K hK
 have a0:=ha 0
 have a1:=ha 1
 clear ha
 simp at a0 a1
 by_cases hl:a.length=b.length
 ·simp [a157,he,a0,a1,ints_length,hl]
  refine aw_loop (W:=w157_0) rfl (fun m e ds st'=>ds=[]∧st'=st∧∃i:Nat,i+m=a.length∧a.take i=b.take i∧AX.ev e (.t 13)=.int .i64 i) a.length
   ⟨rfl,rfl,0,by simp,by simp,by simp [he]⟩ ?_
  rintro m e1 ds st' hs ⟨rfl,rfl,i,hm,htk,g13⟩ K1 kn kx
  have he1:e1.length=26:=by simp [hs.1,he]
  have g0:=hs.ev 0 rfl (v:=.lst 1 (ints a) p) (by simp [he,a0])
  have g1:=hs.ev 1 rfl (v:=.lst 1 (ints b) q) (by simp [he,a1])
  have g12:=hs.ev 12 rfl (v:=.int .i64 b.length) (by simp [he])
  by_cases hi:i<a.length
  ·have hib:i<b.length:=by omega
   obtain ⟨x,hx⟩:∃x,x=a[i]:=⟨_,rfl⟩
   obtain ⟨y,hy⟩:∃y,y=b[i]:=⟨_,rfl⟩
   have hgx:=ints_get hi
   have hgy:=ints_get hib
   rw [←hx] at hgx
   rw [←hy] at hgy
   have w1:IntKind.i64.wrap ((i:Int)+1)=(i:Int)+1:=wrap_i64 (by omega) (by omega)
   by_cases hxy:x=y
   ·rw [←hxy] at hgy
    simp [a157_0,g0,g1,g12,g13,he1,hi,hib,hgx,hgy,ints_length,w1]
    exact kn (m-1) _ _ _ (by omega) ⟨rfl,rfl,i+1,by omega,by rw [List.take_succ_eq_append_getElem hi,List.take_succ_eq_append_getElem hib,htk,←hx,←hy,hxy],by simp [he1]⟩
   ·have hne:a≠b:=by rintro rfl;exact hxy (hx.trans hy.symm)
    simp [a157_0,g0,g1,g12,g13,he1,hi,hib,hgx,hgy,ints_length,hxy]
    refine kx _ _ _ _ nofun fun hs'=>?_
    simp [he1]
    exact hK _ _ _ (.inl rfl) (by simp) ⟨_,rfl,by simp [he1,AV.still,hne]⟩
  ·have hil:i=a.length:=by omega
   subst hil
   have hab:a=b:=by rw [List.take_length,hl,List.take_length] at htk;exact htk
   have hib:¬a.length<b.length:=by omega
   simp [a157_0,g12,g13,he1,hib]
   refine kx _ _ _ _ nofun fun hs'=>?_
   simp [he1]
   exact hK _ _ _ (.inl rfl) (by simp) ⟨_,rfl,by simp [he1,AV.still,hab]⟩
 ·have hne:a≠b:=fun h=>hl (by rw [h])
  have hl':¬(a.length:Int)=(b.length:Int):=by omega
  simp [a157,he,a0,a1,ints_length,hl']
  exact hK _ _ _ (.inl rfl) (by simp) ⟨_,rfl,by simp [he,AV.still,hne]⟩
def equalF (x y:Ex):Bool:=decide (x.k=y.k) && decide (x.a=y.a) && decide (x.b=y.b) && decide (x.c=y.c) && decide (x.n=y.n) && decide (x.s=y.s) && decide (x.v=y.v) && decide (x.args=y.args)
theorem equal_call {x y:Ex} (hx:x.Ok) (hy:y.Ok) {st:St} (hst:StOk st):runL A (.call 143 [x.av,y.av]) st=some ⟨.ret,⟨[.bool (equalF x y)],[]⟩,st⟩:=by
 have h157:=equalInts_call (p:=x.ap) (q:=y.ap) hx.args hy.args hst
 refine (task_of_aw (N:=59) prim143 fn143 rfl rfl hst ?_).1
 intro e he ha K hK
 have a0:=ha 0
 have a1:=ha 1
 clear ha
 simp [Ex.av,Ex.cs] at a0 a1
 simp [a143,he,a0,a1]
 repeat' ((first | refine conda_splitn (fun h=>?_) (fun h=>?_) | refine grda_splitn (fun h=>?_) (fun h=>?_) | refine conda_split (fun h=>?_) (fun h=>?_) | refine grda_split (fun h=>?_) (fun h=>?_))<;>simp [he,a0,a1,h,h157])
 all_goals (refine hK _ _ _ (.inl rfl) (by simp) ⟨_,rfl,?_⟩;clear hK;simp_all [AV.still,equalF])
def padF (x:Ex):List Int:=partsF x++[0,0,0]
def bareF (x:Ex) (nm sd vl:Bool):Ex :=
 { k:=x.k,a:=if x.k=19 then 0 else (padF x).getD 0 0,b:=if x.k=19 then 0 else (padF x).getD 1 0,c:=if x.k=19 then 0 else (padF x).getD 2 0,n:=if nm then x.n else [],s:=if sd then x.s else [],
   v:=if vl then x.v else 0,args:=if x.k=19 then x.args else [],ap:=if x.k=19 then .no else .tight,p:=x.p }
theorem bareF_ok {x:Ex} (hx:x.Ok) (nm sd vl:Bool):(bareF x nm sd vl).Ok:=by
 refine ⟨?_,?_,?_,?_⟩
 ·simp only [bareF];split;exact hx.n;simp
 ·simp only [bareF];split;exact hx.s;simp
 ·simp only [bareF];split;exact hx.args;simp
 ·simp only [bareF];split;exact .no;exact .tight
set_option maxHeartbeats 1000000 in
theorem bare_call {x:Ex} (hx:x.Ok) {nm sd vl:Bool} {st:St} (hst:StOk st):runL A (.call 144 [x.av,.bool nm,.bool sd,.bool vl]) st=some ⟨.ret,⟨[(bareF x nm sd vl).av],[]⟩,st⟩:=by
 refine (task_of_aw (N:=51) prim144 fn144 rfl rfl hst ?_).1
 intro e he ha K hK
 have a0:=ha 0
 have a1:=ha 1
 have a2:=ha 2
 have a3:=ha 3
 clear ha
 simp [Ex.av,Ex.cs] at a0 a1 a2 a3
 have hz:AV.lowsB (st.length+1) [AV.int .i64 0,.int .i64 0,.int .i64 0,.int .i64 0,.str [],.str [],.int .i64 0,.lst 1 [] .tight,.int .i64 0]=true:=rfl
 have hz2:AV.lowsB (st.length+2) [AV.int .i64 x.k,.int .i64 0,.int .i64 0,.int .i64 0,.str [],.str [],.int .i64 0,.lst 1 [] .tight,.int .i64 x.p]=true:=rfl
 have hst2:StOk (st++[.cells none [AV.int .i64 0,.int .i64 0,.int .i64 0,.int .i64 0,.str [],.str [],.int .i64 0,.lst 1 [] .tight,.int .i64 0],.cells none [AV.int .i64 x.k,.int .i64 0,.int .i64 0,.int .i64 0,.str [],.str [],.int .i64 0,.lst 1 [] .tight,.int .i64 x.p]]):=by
  have:=obj_ok (obj_ok hst hz (ty:=none)) (cs:=[AV.int .i64 x.k,.int .i64 0,.int .i64 0,.int .i64 0,.str [],.str [],.int .i64 0,.lst 1 [] .tight,.int .i64 x.p]) (by simpa using hz2) (ty:=none)
  simpa using this
 have h134:=parts2_call hx hst2
 simp only [Ex.av,Ex.cs] at h134
 by_cases hk:x.k=19
 ·have hp:partsF x=x.args:=by unfold partsF;rw [show manyF x.k=-1 by rw [hk];rfl];rfl
  have hap:parts2Ap x=.no:=by unfold parts2Ap;rw [if_pos hk]
  have hb:bareF x nm sd vl={ k:=x.k,a:=0,b:=0,c:=0,n:=if nm then x.n else [],s:=if sd then x.s else [],v:=if vl then x.v else 0,args:=x.args,ap:=.no,p:=x.p }:=by
   simp only [bareF,if_pos hk]
  rw [hb] at hK
  rw [hk] at h134 a0 hK
  rw [hp,hap] at h134
  cases nm<;>cases sd<;>cases vl
  all_goals
   simp [a144,he,a0,a1,a2,a3,h134]
   refine hK _ _ _ (.inl rfl) (by simp) ?_
   apply Exists.intro
   apply And.intro
   ·change resultsA _ _ [.cell 8 9 true]=_
    simp [resA,he]
    rfl
   ·simp [AV.still,AV.stills,AV.lowB,Ex.av,Ex.cs,stills_ints]
 ·have hap:parts2Ap x=.tight:=by unfold parts2Ap;rw [if_neg hk]
  have hpl:=parts_len x hx
  obtain ⟨A0,B0,C0,T,hL⟩:∃a b c t,padF x=a::b::c::t:=by
   unfold padF
   match partsF x with
   | []=>exact ⟨_,_,_,_,rfl⟩
   | [_]=>exact ⟨_,_,_,_,rfl⟩
   | [_,_]=>exact ⟨_,_,_,_,rfl⟩
   | _::_::_::t=>exact ⟨_,_,_,_,rfl⟩
  have hb:bareF x nm sd vl={ k:=x.k,a:=A0,b:=B0,c:=C0,n:=if nm then x.n else [],s:=if sd then x.s else [],v:=if vl then x.v else 0,args:=[],ap:=.tight,p:=x.p }:=by
   simp only [bareF,if_neg hk,hL];rfl
  rw [hb] at hK
  rw [hap] at h134
  obtain ⟨ap',st1,hap1,_,hg,_⟩:=append_own (st:=(st++[.cells none [AV.int .i64 0,.int .i64 0,.int .i64 0,.int .i64 0,.str [],.str [],.int .i64 0,.lst 1 [] .tight,.int .i64 0],.cells none [AV.int .i64 x.k,.int .i64 0,.int .i64 0,.int .i64 0,.str [],.str [],.int .i64 0,.lst 1 [] .tight,.int .i64 x.p]])) (b:=st.length+2) (m:=1) (ty:=some 3) (ap:=.tight) (bytes:=8) (ap0:=.tight) (ys:=[.int .i64 0,.int .i64 0,.int .i64 0]) (es:=ints (partsF x)) (by simp) (.inl rfl) (by simp) (by simp [Ai.great,ints];omega) (by omega)
  have hl:ints (partsF x)++[.int .i64 0,.int .i64 0,.int .i64 0]=.int .i64 A0::.int .i64 B0::.int .i64 C0::ints T:=by
   have:ints (partsF x)++[.int .i64 0,.int .i64 0,.int .i64 0]=ints (padF x):=by simp [ints,padF]
   rw [this,hL];rfl
  rw [hl] at hap1
  obtain ⟨l',rfl⟩:=Grew.split (l:=[]) (by simpa using hg) (by simp)
  simp at hap1
  cases nm<;>cases sd<;>cases vl
  all_goals
   simp [a144,he,a0,a1,a2,a3,hk,h134,hap1]
   refine hK _ _ _ (.inl rfl) (by simp) ?_
   apply Exists.intro
   apply And.intro
   ·change resultsA _ _ [.cell 8 9 true]=_
    simp [resA,he]
    rfl
   ·simp [AV.still,AV.stills,AV.lowB,Ex.av,Ex.cs,ints]
end Go.Proofs.YtefildelnccljaaGreat
namespace Go.Proofs.YtefildelnccljaaGreat
open Go Ai
def idxF {α:Type} (P:α→Bool):List α→Nat→Int
 | [],_=>-1
 | x::l,i=>if P x then (i:Int) else idxF P l (i+1)
theorem idxF_any {α:Type} (P:α→Bool):∀(l:List α) (i:Nat),decide (0≤idxF P l i)=l.any P
 | [],_=>by simp [idxF]
 | x::l,i=>by
  have:=idxF_any P l (i+1)
  cases hb:P x<;>simp [idxF,hb]
  simpa using this
theorem fn158:A.fn 158=some a158:=by kernel_rfl
theorem prim158:A.prim 158=none:=by kernel_rfl
theorem fn145:A.fn 145=some a145:=by kernel_rfl
theorem prim145:A.prim 145=none:=by kernel_rfl
def w158_0:List Nat:=a158_0.writes
theorem index158_call {l:List Int} {ap:Ap} {g:FuncId} {cap:List AV} {P:Int→Bool} (hl:l.length≤1048576) {st:St} (hst:StOk st)
  (hP:∀v∈l,runL A (.call g ([AV.int .i64 v]++cap)) st=some ⟨.ret,⟨[.bool (P v)],[]⟩,st⟩) :
  runL A (.call 158 [.lst 1 (l.map fun v=>(AV.int .i64 v)) ap,.func (.func g) [] cap]) st=some ⟨.ret,⟨[.int .i64 (idxF P l 0)],[]⟩,st⟩:=by
 refine (task_of_aw (N:=19) prim158 fn158 rfl rfl hst ?_).1
 intro e he ha K hK
 have a0:=ha 0
 have a1:=ha 1
 clear ha
 simp at a0 a1
 simp [a158,he,a0,a1]
 refine aw_loop (W:=w158_0) rfl (fun m e ds st'=>ds=[]∧st'=st∧∃i:Nat,i+m=l.length∧idxF P l 0=idxF P (l.drop i) i∧AX.ev e (.t 8)=.int .i64 i) l.length
  ⟨rfl,rfl,0,by simp,by simp,by simp [he]⟩ ?_
 rintro m e1 ds st' hs ⟨rfl,rfl,i,hm,hspec,g8⟩ K1 kn kx
 have he1:e1.length=19:=by simp [hs.1,he]
 have g0:=hs.ev 0 rfl (v:=.lst 1 (l.map fun v=>(AV.int .i64 v)) ap) (by simp [he,a0])
 have g1:=hs.ev 1 rfl (v:=.func (.func g) [] cap) (by simp [he,a1])
 have g7:=hs.ev 7 rfl (v:=.int .i64 l.length) (by simp [he])
 by_cases hi:i<l.length
 ·obtain ⟨v,hv⟩:∃v,v=l[i]:=⟨_,rfl⟩
  have hc:=hP v (by rw [hv];exact List.getElem_mem hi)
  have hg:(l.map fun v=>(AV.int .i64 v))[i]'(by simpa using hi)=(AV.int .i64 v):=by simp [hv]
  rw [drop_get hi,←hv,idxF] at hspec
  have w1:IntKind.i64.wrap ((i:Int)+1)=(i:Int)+1:=wrap_i64 (by omega) (by omega)
  simp only [List.cons_append,List.nil_append] at hc
  cases hb:P v with
  | true =>
   rw [hb] at hc hspec
   simp [a158_0,g0,g1,g7,g8,he1,hi,←hv,hc]
   refine kx _ _ _ _ nofun fun hs'=>?_
   simp [he1]
   exact hK _ _ _ (.inl rfl) (by simp) ⟨_,rfl,by simp [he1,AV.still,AV.lowB,hspec]⟩
  | false =>
   rw [hb] at hc hspec
   simp [a158_0,g0,g1,g7,g8,he1,hi,←hv,hc,w1]
   exact kn (m-1) _ _ _ (by omega) ⟨rfl,rfl,i+1,by omega,by simpa using hspec,by simp [he1]⟩
 ·have hil:i=l.length:=by omega
  rw [hil] at hspec g8
  simp [idxF] at hspec
  simp [a158_0,g7,g8,he1]
  refine kx _ _ _ _ nofun fun hs'=>?_
  simp [he1]
  exact hK _ _ _ (.inl rfl) (by simp) ⟨_,rfl,by simp [he1,AV.still,AV.lowB,hspec]⟩
theorem has145_call {l:List Int} {ap:Ap} {g:FuncId} {cap:List AV} {P:Int→Bool} (hl:l.length≤1048576) {st:St} (hst:StOk st)
  (hP:∀v∈l,runL A (.call g ([AV.int .i64 v]++cap)) st=some ⟨.ret,⟨[.bool (P v)],[]⟩,st⟩) :
  runL A (.call 145 [.lst 1 (l.map fun v=>(AV.int .i64 v)) ap,.func (.func g) [] cap]) st=some ⟨.ret,⟨[.bool (l.any P)],[]⟩,st⟩:=by
 have h:=index158_call (ap:=ap) hl hst hP
 refine (task_of_aw (N:=9) prim145 fn145 rfl rfl hst ?_).1
 intro e he ha K hK
 have a0:=ha 0
 have a1:=ha 1
 clear ha
 simp at a0 a1
 simp [a145,he,a0,a1,h]
 refine hK _ _ _ (.inl rfl) (by simp) ⟨_,rfl,?_⟩
 clear hK
 have:=idxF_any P l 0
 simp [he,AV.still,AV.lowB]
 rw [←this]
theorem fn118:A.fn 118=some a118:=by kernel_rfl
theorem prim118:A.prim 118=none:=by kernel_rfl
theorem fn79:A.fn 79=some a79:=by kernel_rfl
theorem prim79:A.prim 79=none:=by kernel_rfl
def w118_0:List Nat:=a118_0.writes
theorem index118_call {l:List It} {ap:Ap} {g:FuncId} {cap:List AV} {P:It→Bool} (hl:l.length≤1048576) {st:St} (hst:StOk st)
  (hP:∀v∈l,runL A (.call g ([AV.agg v.cs]++cap)) st=some ⟨.ret,⟨[.bool (P v)],[]⟩,st⟩) :
  runL A (.call 118 [.lst 9 (l.map fun v=>(AV.agg v.cs)) ap,.func (.func g) [] cap]) st=some ⟨.ret,⟨[.int .i64 (idxF P l 0)],[]⟩,st⟩:=by
 refine (task_of_aw (N:=19) prim118 fn118 rfl rfl hst ?_).1
 intro e he ha K hK
 have a0:=ha 0
 have a1:=ha 1
 clear ha
 simp at a0 a1
 simp [a118,he,a0,a1]
 refine aw_loop (W:=w118_0) rfl (fun m e ds st'=>ds=[]∧st'=st∧∃i:Nat,i+m=l.length∧idxF P l 0=idxF P (l.drop i) i∧AX.ev e (.t 8)=.int .i64 i) l.length
  ⟨rfl,rfl,0,by simp,by simp,by simp [he]⟩ ?_
 rintro m e1 ds st' hs ⟨rfl,rfl,i,hm,hspec,g8⟩ K1 kn kx
 have he1:e1.length=19:=by simp [hs.1,he]
 have g0:=hs.ev 0 rfl (v:=.lst 9 (l.map fun v=>(AV.agg v.cs)) ap) (by simp [he,a0])
 have g1:=hs.ev 1 rfl (v:=.func (.func g) [] cap) (by simp [he,a1])
 have g7:=hs.ev 7 rfl (v:=.int .i64 l.length) (by simp [he])
 by_cases hi:i<l.length
 ·obtain ⟨v,hv⟩:∃v,v=l[i]:=⟨_,rfl⟩
  have hc:=hP v (by rw [hv];exact List.getElem_mem hi)
  have hg:(l.map fun v=>(AV.agg v.cs))[i]'(by simpa using hi)=(AV.agg v.cs):=by simp [hv]
  rw [drop_get hi,←hv,idxF] at hspec
  have w1:IntKind.i64.wrap ((i:Int)+1)=(i:Int)+1:=wrap_i64 (by omega) (by omega)
  simp only [List.cons_append,List.nil_append] at hc
  cases hb:P v with
  | true =>
   rw [hb] at hc hspec
   simp [a118_0,g0,g1,g7,g8,he1,hi,←hv,hc]
   refine kx _ _ _ _ nofun fun hs'=>?_
   simp [he1]
   exact hK _ _ _ (.inl rfl) (by simp) ⟨_,rfl,by simp [he1,AV.still,AV.lowB,hspec]⟩
  | false =>
   rw [hb] at hc hspec
   simp [a118_0,g0,g1,g7,g8,he1,hi,←hv,hc,w1]
   exact kn (m-1) _ _ _ (by omega) ⟨rfl,rfl,i+1,by omega,by simpa using hspec,by simp [he1]⟩
 ·have hil:i=l.length:=by omega
  rw [hil] at hspec g8
  simp [idxF] at hspec
  simp [a118_0,g7,g8,he1]
  refine kx _ _ _ _ nofun fun hs'=>?_
  simp [he1]
  exact hK _ _ _ (.inl rfl) (by simp) ⟨_,rfl,by simp [he1,AV.still,AV.lowB,hspec]⟩
theorem has79_call {l:List It} {ap:Ap} {g:FuncId} {cap:List AV} {P:It→Bool} (hl:l.length≤1048576) {st:St} (hst:StOk st)
  (hP:∀v∈l,runL A (.call g ([AV.agg v.cs]++cap)) st=some ⟨.ret,⟨[.bool (P v)],[]⟩,st⟩) :
  runL A (.call 79 [.lst 9 (l.map fun v=>(AV.agg v.cs)) ap,.func (.func g) [] cap]) st=some ⟨.ret,⟨[.bool (l.any P)],[]⟩,st⟩:=by
 have h:=index118_call (ap:=ap) hl hst hP
 refine (task_of_aw (N:=9) prim79 fn79 rfl rfl hst ?_).1
 intro e he ha K hK
 have a0:=ha 0
 have a1:=ha 1
 clear ha
 simp at a0 a1
 simp [a79,he,a0,a1,h]
 refine hK _ _ _ (.inl rfl) (by simp) ⟨_,rfl,?_⟩
 clear hK
 have:=idxF_any P l 0
 simp [he,AV.still,AV.lowB]
 rw [←this]
theorem fn99:A.fn 99=some a99:=by kernel_rfl
theorem prim99:A.prim 99=none:=by kernel_rfl
theorem fn81:A.fn 81=some a81:=by kernel_rfl
theorem prim81:A.prim 81=none:=by kernel_rfl
def w99_0:List Nat:=a99_0.writes
theorem index99_call {l:List Dc} {ap:Ap} {g:FuncId} {cap:List AV} {P:Dc→Bool} (hl:l.length≤1048576) {st:St} (hst:StOk st)
  (hP:∀v∈l,runL A (.call g ([AV.agg v.cs]++cap)) st=some ⟨.ret,⟨[.bool (P v)],[]⟩,st⟩) :
  runL A (.call 99 [.lst 7 (l.map fun v=>(AV.agg v.cs)) ap,.func (.func g) [] cap]) st=some ⟨.ret,⟨[.int .i64 (idxF P l 0)],[]⟩,st⟩:=by
 refine (task_of_aw (N:=19) prim99 fn99 rfl rfl hst ?_).1
 intro e he ha K hK
 have a0:=ha 0
 have a1:=ha 1
 clear ha
 simp at a0 a1
 simp [a99,he,a0,a1]
 refine aw_loop (W:=w99_0) rfl (fun m e ds st'=>ds=[]∧st'=st∧∃i:Nat,i+m=l.length∧idxF P l 0=idxF P (l.drop i) i∧AX.ev e (.t 8)=.int .i64 i) l.length
  ⟨rfl,rfl,0,by simp,by simp,by simp [he]⟩ ?_
 rintro m e1 ds st' hs ⟨rfl,rfl,i,hm,hspec,g8⟩ K1 kn kx
 have he1:e1.length=19:=by simp [hs.1,he]
 have g0:=hs.ev 0 rfl (v:=.lst 7 (l.map fun v=>(AV.agg v.cs)) ap) (by simp [he,a0])
 have g1:=hs.ev 1 rfl (v:=.func (.func g) [] cap) (by simp [he,a1])
 have g7:=hs.ev 7 rfl (v:=.int .i64 l.length) (by simp [he])
 by_cases hi:i<l.length
 ·obtain ⟨v,hv⟩:∃v,v=l[i]:=⟨_,rfl⟩
  have hc:=hP v (by rw [hv];exact List.getElem_mem hi)
  have hg:(l.map fun v=>(AV.agg v.cs))[i]'(by simpa using hi)=(AV.agg v.cs):=by simp [hv]
  rw [drop_get hi,←hv,idxF] at hspec
  have w1:IntKind.i64.wrap ((i:Int)+1)=(i:Int)+1:=wrap_i64 (by omega) (by omega)
  simp only [List.cons_append,List.nil_append] at hc
  cases hb:P v with
  | true =>
   rw [hb] at hc hspec
   simp [a99_0,g0,g1,g7,g8,he1,hi,←hv,hc]
   refine kx _ _ _ _ nofun fun hs'=>?_
   simp [he1]
   exact hK _ _ _ (.inl rfl) (by simp) ⟨_,rfl,by simp [he1,AV.still,AV.lowB,hspec]⟩
  | false =>
   rw [hb] at hc hspec
   simp [a99_0,g0,g1,g7,g8,he1,hi,←hv,hc,w1]
   exact kn (m-1) _ _ _ (by omega) ⟨rfl,rfl,i+1,by omega,by simpa using hspec,by simp [he1]⟩
 ·have hil:i=l.length:=by omega
  rw [hil] at hspec g8
  simp [idxF] at hspec
  simp [a99_0,g7,g8,he1]
  refine kx _ _ _ _ nofun fun hs'=>?_
  simp [he1]
  exact hK _ _ _ (.inl rfl) (by simp) ⟨_,rfl,by simp [he1,AV.still,AV.lowB,hspec]⟩
theorem has81_call {l:List Dc} {ap:Ap} {g:FuncId} {cap:List AV} {P:Dc→Bool} (hl:l.length≤1048576) {st:St} (hst:StOk st)
  (hP:∀v∈l,runL A (.call g ([AV.agg v.cs]++cap)) st=some ⟨.ret,⟨[.bool (P v)],[]⟩,st⟩) :
  runL A (.call 81 [.lst 7 (l.map fun v=>(AV.agg v.cs)) ap,.func (.func g) [] cap]) st=some ⟨.ret,⟨[.bool (l.any P)],[]⟩,st⟩:=by
 have h:=index99_call (ap:=ap) hl hst hP
 refine (task_of_aw (N:=9) prim81 fn81 rfl rfl hst ?_).1
 intro e he ha K hK
 have a0:=ha 0
 have a1:=ha 1
 clear ha
 simp at a0 a1
 simp [a81,he,a0,a1,h]
 refine hK _ _ _ (.inl rfl) (by simp) ⟨_,rfl,?_⟩
 clear hK
 have:=idxF_any P l 0
 simp [he,AV.still,AV.lowB]
 rw [←this]
end Go.Proofs.YtefildelnccljaaGreat
namespace Go.Proofs.YtefildelnccljaaGreat
open Go Ai
theorem fn142:A.fn 142=some a142:=by kernel_rfl
theorem prim142:A.prim 142=none:=by kernel_rfl
theorem fn119:A.fn 119=some a119:=by kernel_rfl
theorem prim119:A.prim 119=none:=by kernel_rfl
theorem beqs_ints:∀l:List Int,AV.beqs (ints l) (ints l)=true
 | []=>rfl
 | x::l=>by
  have:=beqs_ints l
  simp only [ints,List.map_cons,AV.beqs] at this ⊢
  rw [this];simp [AV.beq]
theorem ap_beq (p:Ap):(p == p)=true:=by simp
def outF (t v:Int):Bool:=decide (v<0) || decide (t≤v)
theorem out_call {t v:Int} {st:St}:runL A (.call 142 [.int .i64 v,.iptr (.int .i64 t)]) st=some ⟨.ret,⟨[.bool (outF t v)],[]⟩,st⟩:=by
 refine (task_of_aw_keep (N:=11) prim142 fn142 rfl rfl (st:=st) (st':=st) ?_).1
 intro e he ha K hK
 have a0:=ha 0
 have a1:=ha 1
 clear ha
 simp at a0 a1
 simp [a142,he,a0,a1]
 repeat' ((first | refine conda_splitn (fun h=>?_) (fun h=>?_) | refine grda_splitn (fun h=>?_) (fun h=>?_) | refine conda_split (fun h=>?_) (fun h=>?_) | refine grda_split (fun h=>?_) (fun h=>?_))<;>simp [he,a0,a1,h])
 all_goals (refine hK _ _ (.inl rfl) ⟨_,rfl,?_⟩;clear hK;simp_all [outF])
 all_goals omega
def nmF (x:Ex):Bool:=decide (x.k=3) || decide (x.k=19) || decide (x.k=20)
def vlF (x:Ex):Bool:=decide (x.k=1) || decide (x.k=2)
def may2X (x:Ex) (t:Int):Bool :=
 !(decide (x.k<1) || decide (21<x.k)) && (!(!equalF x (bareF x (nmF x) (decide (x.k=20)) (vlF x)) || (partsF x).any (outF t)) &&
 (!((nmF x && decide (x.n=[])) || (decide (x.k=20) && decide (x.s=[]))) && (decide (0≤x.v) && (!decide (x.k=2) || decide (x.v≤1)))))
set_option maxHeartbeats 1000000 in
theorem may2X_call {x:Ex} {t:Int} (hx:x.Ok) {st:St} (hst:StOk st):runL A (.call 119 [x.av,.int .i64 t]) st=some ⟨.ret,⟨[.bool (may2X x t)],[]⟩,st⟩:=by
 have h144:=fun nm sd vl=>bare_call hx (nm:=nm) (sd:=sd) (vl:=vl) hst
 have h143:=fun nm sd vl=>equal_call hx (bareF_ok hx nm sd vl) hst
 have h134:=parts2_call hx hst
 have h145:=has145_call (l:=partsF x) (ap:=parts2Ap x) (g:=142) (cap:=[.iptr (.int .i64 t)]) (P:=outF t) (parts_len x hx) hst (fun v _=>out_call)
 simp only [Ex.av,Ex.cs] at h144 h143 h134
 change runL A (.call 145 [.lst 1 (ints (partsF x)) (parts2Ap x),.func (.func 142) [] [.iptr (.int .i64 t)]]) st=_ at h145
 refine (task_of_aw (N:=85) prim119 fn119 rfl rfl hst ?_).1
 intro e he ha K hK
 have a0:=ha 0
 have a1:=ha 1
 clear ha
 simp [Ex.av,Ex.cs] at a0 a1
 simp [a119,he,a0,a1]
 refine grda_join (fun e2=>AX.ev e2 (.t 15)=.bool (decide (x.k<1) || decide (21<x.k))) ?_ fun e2 hs2 h15=>?_
 ·repeat' ((first | refine conda_splitn (fun h=>?_) (fun h=>?_) | refine grda_splitn (fun h=>?_) (fun h=>?_) | refine conda_split (fun h=>?_) (fun h=>?_) | refine grda_split (fun h=>?_) (fun h=>?_))<;>simp [he,a0,a1,h])
 have he2:e2.length=85:=by simp [hs2.1,he]
 have g2:=hs2.ev 2 rfl (v:=.iptr (.agg x.cs)) (by simp [he,a0,Ex.cs])
 have g3:=hs2.ev 3 rfl (v:=.iptr (.int .i64 t)) (by simp [he,a1])
 clear hs2 a0 a1
 cases hk:(decide (x.k<1) || decide (21<x.k)) with
 | true =>
  rw [hk] at h15
  have hm:may2X x t=false:=by unfold may2X;rw [hk];rfl
  simp [h15,he2]
  exact hK _ _ _ (.inl rfl) (by simp) ⟨_,rfl,by simp [he2,AV.still,hm]⟩
 | false =>
  rw [hk] at h15
  have hm:may2X x t=(!(!equalF x (bareF x (nmF x) (decide (x.k=20)) (vlF x)) || (partsF x).any (outF t)) &&
   (!((nmF x && decide (x.n=[])) || (decide (x.k=20) && decide (x.s=[]))) && (decide (0≤x.v) && (!decide (x.k=2) || decide (x.v≤1))))):=by unfold may2X;rw [hk];rfl
  simp only [Ex.cs] at g2
  simp [h15,he2,g2]
  refine grda_join (fun e3=>AX.ev e3 (.t 5)=.bool (nmF x)) ?_ fun e3 hs3 h5=>?_
  ·repeat' ((first | refine conda_splitn (fun h=>?_) (fun h=>?_) | refine grda_splitn (fun h=>?_) (fun h=>?_) | refine conda_split (fun h=>?_) (fun h=>?_) | refine grda_split (fun h=>?_) (fun h=>?_))<;>simp [he2,g2,h])
   all_goals simp_all [nmF]
  have he3:e3.length=85:=by simp [hs3.1,he2]
  have g2:=hs3.ev 2 rfl (v:=.iptr (.agg x.cs)) (by simp [he2,g2,Ex.cs])
  have g3:=hs3.ev 3 rfl (v:=.iptr (.int .i64 t)) (by simp [he2,g3])
  clear hs3 h15
  simp only [Ex.cs] at g2
  simp [he3,g2]
  refine grda_join (fun e4=>AX.ev e4 (.t 6)=.bool (vlF x)) ?_ fun e4 hs4 h6=>?_
  ·repeat' ((first | refine conda_splitn (fun h=>?_) (fun h=>?_) | refine grda_splitn (fun h=>?_) (fun h=>?_) | refine conda_split (fun h=>?_) (fun h=>?_) | refine grda_split (fun h=>?_) (fun h=>?_))<;>simp [he3,g2,h])
   all_goals simp_all [vlF]
  have he4:e4.length=85:=by simp [hs4.1,he3]
  have g2:=hs4.ev 2 rfl (v:=.iptr (.agg x.cs)) (by simp [he3,g2,Ex.cs])
  have g3:=hs4.ev 3 rfl (v:=.iptr (.int .i64 t)) (by simp [he3,g3])
  have h5:=hs4.ev 5 rfl (v:=.bool (nmF x)) (by simp [he3,h5])
  clear hs4
  simp only [Ex.cs] at g2
  have hb1:=beqs_ints x.args
  have hb2:=ap_beq x.ap
  simp [he4,g2,g3,h5,h6,h144,h143,AV.beq,AV.beqs,hb1,hb2]
  refine grdp_join (fun e5=>AX.ev e5 (.t 38)=.bool (!equalF x (bareF x (nmF x) (decide (x.k=20)) (vlF x)) || (partsF x).any (outF t))) ?_ fun e5 hs5 h38=>?_
  ·repeat' ((first | refine conda_splitn (fun h=>?_) (fun h=>?_) | refine grda_splitn (fun h=>?_) (fun h=>?_) | refine conda_split (fun h=>?_) (fun h=>?_) | refine grda_split (fun h=>?_) (fun h=>?_))<;>simp [he4,g2,g3,h5,h6,h134,h145,h])
  have he5:e5.length=85:=by simp [hs5.1,he4]
  have g2:=hs5.ev 2 rfl (v:=.iptr (.agg x.cs)) (by simp [he4,g2,Ex.cs])
  have h5:=hs5.ev 5 rfl (v:=.bool (nmF x)) (by simp [he4,h5])
  clear hs5
  generalize (!equalF x (bareF x (nmF x) (decide (x.k=20)) (vlF x)) || (partsF x).any (outF t))=B1 at h38 hm
  simp only [Ex.cs] at g2
  cases B1 with
  | true =>
   simp at hm
   simp [h38,he5]
   exact hK _ _ _ (.inl rfl) (by simp) ⟨_,rfl,by simp [he5,AV.still,hm]⟩
  | false =>
   simp only [Bool.not_false,Bool.true_and] at hm
   generalize nmF x=N at h5 hm
   simp [h38,he5,h5,g2]
   refine grda_join (fun e6=>AX.ev e6 (.t 55)=.bool ((N && decide (x.n=[])) || (decide (x.k=20) && decide (x.s=[])))) ?_ fun e6 hs6 h55=>?_
   ·repeat' ((first | refine conda_splitn (fun h=>?_) (fun h=>?_) | refine grda_splitn (fun h=>?_) (fun h=>?_) | refine conda_split (fun h=>?_) (fun h=>?_) | refine grda_split (fun h=>?_) (fun h=>?_))<;>simp [he5,g2,h5,h])
    all_goals simp_all
   have he6:e6.length=85:=by simp [hs6.1,he5]
   have g2:=hs6.ev 2 rfl (v:=.iptr (.agg x.cs)) (by simp [he5,g2,Ex.cs])
   clear hs6
   generalize ((N && decide (x.n=[])) || (decide (x.k=20) && decide (x.s=[])))=B2 at h55 hm
   simp only [Ex.cs] at g2
   cases B2 with
   | true =>
    simp at hm
    simp [h55,he6]
    exact hK _ _ _ (.inl rfl) (by simp) ⟨_,rfl,by simp [he6,AV.still,hm]⟩
   | false =>
    simp only [Bool.not_false,Bool.true_and] at hm
    simp [h55,he6,g2]
    repeat' ((first | refine conda_splitn (fun h=>?_) (fun h=>?_) | refine grda_splitn (fun h=>?_) (fun h=>?_) | refine conda_split (fun h=>?_) (fun h=>?_) | refine grda_split (fun h=>?_) (fun h=>?_))<;>simp [he6,g2,h])
    all_goals (refine hK _ _ _ (.inl rfl) (by simp) ⟨_,rfl,?_⟩;clear hK;simp_all [AV.still])
end Go.Proofs.YtefildelnccljaaGreat
namespace Go.Proofs.YtefildelnccljaaGreat
open Go Ai
theorem fn147:A.fn 147=some a147:=by kernel_rfl
theorem prim147:A.prim 147=none:=by kernel_rfl
theorem fn121:A.fn 121=some a121:=by kernel_rfl
theorem prim121:A.prim 121=none:=by kernel_rfl
theorem fn120:A.fn 120=some a120:=by kernel_rfl
theorem prim120:A.prim 120=none:=by kernel_rfl
theorem fn80:A.fn 80=some a80:=by kernel_rfl
theorem prim80:A.prim 80=none:=by kernel_rfl
def w80_0:List Nat:=a80_0.writes
theorem item_call {p:Pg} {x:It} {st:St} (hst:StOk st):runL A (.call 147 [.agg x.cs,.iptr p.av]) st=some ⟨.ret,⟨[.bool (!itemR p.xs.length x)],[]⟩,st⟩:=by
 have h148:=has2_call (k:=x.k) hst
 have h146:=fun k h=>points2_call (p:=p) (k:=k) (h:=h) hst
 simp only [Pg.av] at h146
 refine (task_of_aw_keep (N:=26) prim147 fn147 rfl rfl (st:=st) (st':=st) ?_).1
 intro e he ha K hK
 have a0:=ha 0
 have a1:=ha 1
 clear ha
 simp [It.cs,Pg.av] at a0 a1
 simp [a147,he,a0,a1,h148,h146]
 repeat' ((first | refine conda_splitn (fun h=>?_) (fun h=>?_) | refine grda_splitn (fun h=>?_) (fun h=>?_) | refine conda_split (fun h=>?_) (fun h=>?_) | refine grda_split (fun h=>?_) (fun h=>?_))<;>simp [he,a0,a1,h146,h])
 all_goals (refine hK _ _ (.inl rfl) ⟨_,rfl,?_⟩;clear hK;simp_all [itemR])
theorem any_not {α:Type} (P:α→Bool):∀l:List α,(!(l.any fun x=>!P x))=l.all P
 | []=>rfl
 | x::l=>by
  have:=any_not P l
  simp only [List.any_cons,List.all_cons,Bool.not_or,Bool.not_not,this]
theorem decl_call {p:Pg} {d:Dc} (hd:d.Ok) {st:St} (hst:StOk st):runL A (.call 121 [p.av,d.av]) st=some ⟨.ret,⟨[.bool (declR p.xs.length d)],[]⟩,st⟩:=by
 have h146:=fun k h=>points2_call (p:=p) (k:=k) (h:=h) hst
 have h79:=has79_call (l:=d.its) (ap:=d.iap) (g:=147) (cap:=[.iptr p.av]) (P:=fun x=>!itemR p.xs.length x) hd.its hst (fun v _=>item_call hst)
 change runL A (.call 79 [.lst 9 (d.its.map It.av) d.iap,.func (.func 147) [] [.iptr p.av]]) st=_ at h79
 simp only [Pg.av] at h146 h79
 refine (task_of_aw (N:=23) prim121 fn121 rfl rfl hst ?_).1
 intro e he ha K hK
 have a0:=ha 0
 have a1:=ha 1
 clear ha
 simp [Dc.av,Dc.cs,Pg.av] at a0 a1
 simp [a121,he,a0,a1]
 refine grda_join (fun e2=>AX.ev e2 (.t 17)=.bool (!pointsF p.xs.length d.e (decide (d.k=1) || decide (d.k=2)))) ?_ fun e2 hs2 h17=>?_
 ·repeat' ((first | refine conda_splitn (fun h=>?_) (fun h=>?_) | refine grda_splitn (fun h=>?_) (fun h=>?_) | refine conda_split (fun h=>?_) (fun h=>?_) | refine grda_split (fun h=>?_) (fun h=>?_))<;>simp [he,a0,a1,h146,h])
 have he2:e2.length=23:=by simp [hs2.1,he]
 have g2:=hs2.ev 2 rfl (v:=.iptr p.av) (by simp [he,a0,Pg.av])
 have g3:=hs2.ev 3 rfl (v:=.iptr (.agg d.cs)) (by simp [he,a1,Dc.cs])
 clear hs2
 simp only [Dc.cs,Pg.av] at g2 g3
 cases hb:pointsF p.xs.length d.e (decide (d.k=1) || decide (d.k=2)) with
 | false =>
  rw [hb] at h17
  simp [h17,he2]
  exact hK _ _ _ (.inl rfl) (by simp) ⟨_,rfl,by simp [he2,AV.still,declR,hb]⟩
 | true =>
  rw [hb] at h17
  have:=any_not (itemR p.xs.length) d.its
  simp [h17,he2,g2,g3,h79]
  exact hK _ _ _ (.inl rfl) (by simp) ⟨_,rfl,by simp only [declR,hb,Bool.true_and,←this];simp [he2,AV.still]⟩
theorem decl2_call {p:Pg} {d:Dc} (hd:d.Ok) {st:St} (hst:StOk st):runL A (.call 120 [.agg d.cs,.iptr p.av]) st=some ⟨.ret,⟨[.bool (!declR p.xs.length d)],[]⟩,st⟩:=by
 have h121:=decl_call (p:=p) hd hst
 simp only [Dc.av,Dc.cs,Pg.av] at h121
 refine (task_of_aw_keep (N:=8) prim120 fn120 rfl rfl (st:=st) (st':=st) ?_).1
 intro e he ha K hK
 have a0:=ha 0
 have a1:=ha 1
 clear ha
 simp [Dc.cs,Pg.av] at a0 a1
 simp [a120,he,a0,a1,h121]
 exact hK _ _ (.inl rfl) ⟨_,rfl,by simp [he]⟩
def ones2:List Ex→Nat→Bool
 | [],_=>true
 | x::l,i=>may2X x i && ones2 l (i+1)
def mayA (p:Pg):Bool:=ones2 p.xs 0 && p.ds.all (declR p.xs.length)
theorem mayA_call {p:Pg} (hp:p.Ok) {st:St} (hst:StOk st):runL A (.call 80 [p.av]) st=some ⟨.ret,⟨[.bool (mayA p)],[]⟩,st⟩:=by
 refine (task_of_aw (N:=23) prim80 fn80 rfl rfl hst ?_).1
 intro e he ha K hK
 have a0:=ha 0
 clear ha
 simp [Pg.av] at a0
 simp [a80,he,a0]
 have hxs:=hp.xs
 refine aw_loop (W:=w80_0) rfl (fun m e ds s2=>ds=[]∧s2.take st.length=st∧st.length≤s2.length∧StOk s2∧∃i:Nat,i+m=p.xs.length∧ones2 p.xs 0=ones2 (p.xs.drop i) i∧AX.ev e (.t 8)=.int .i64 i) p.xs.length
  ⟨rfl,by simp,by simp,hst,0,by simp,by simp,by simp [he]⟩ ?_
 rintro m e1 ds s2 hs ⟨rfl,ht2,hl2,hst2,i,hm,hspec,g8⟩ K1 kn kx
 have he1:e1.length=23:=by simp [hs.1,he]
 have g1:=hs.ev 1 rfl (v:=.iptr p.av) (by simp [he,a0,Pg.av])
 have g6:=hs.ev 6 rfl (v:=.lst 9 (p.xs.map Ex.av) p.xap) (by simp [he,a0])
 have g7:=hs.ev 7 rfl (v:=.int .i64 p.xs.length) (by simp [he,a0])
 simp only [Pg.av] at g1
 by_cases hi:i<p.xs.length
 ·have hgx:=xs_get hi
  have hxo:=hp.ex _ (List.getElem_mem hi)
  rw [drop_get hi,ones2] at hspec
  obtain ⟨x,hx⟩:∃x,x=p.xs[i]:=⟨_,rfl⟩
  rw [←hx] at hgx hxo hspec
  have hst3:StOk (s2++[.cells none x.cs]):=obj_ok hst2 (Ex.low hxo _)
  have ht3:(s2++[AObj.cells none x.cs]).take st.length=st:=by rw [List.take_append_of_le_length hl2,ht2]
  have hone:=may2X_call (t:=(i:Int)) hxo hst3
  have w1:IntKind.i64.wrap ((i:Int)+1)=(i:Int)+1:=wrap_i64 (by omega) (by omega)
  simp only [Ex.av,Ex.cs] at hone hgx hst3 ht3
  cases hb:may2X x i with
  | false =>
   rw [hb] at hone hspec
   simp [a80_0,g1,g6,g7,g8,he1,hi,hgx,hone]
   refine kx _ _ _ _ nofun fun hs'=>?_
   simp [he1]
   exact hK _ _ _ (.inl rfl) ht3 ⟨_,rfl,by simp [he1,AV.still,mayA,hspec]⟩
  | true =>
   rw [hb] at hone hspec
   simp [a80_0,g1,g6,g7,g8,he1,hi,hgx,hone,w1]
   exact kn (m-1) _ _ _ (by omega) ⟨rfl,ht3,by simp;omega,hst3,i+1,by omega,by simpa using hspec,by simp [he1]⟩
 ·have hil:i=p.xs.length:=by omega
  have hall:ones2 p.xs 0=true:=by rw [hspec,hil];simp [ones2]
  have h81:=has81_call (l:=p.ds) (ap:=p.dap) (g:=120) (cap:=[.iptr p.av]) (P:=fun d=>!declR p.xs.length d) hp.ds hst2 (fun v hv=>decl2_call (hp.dc v hv) hst2)
  change runL A (.call 81 [.lst 7 (p.ds.map Dc.av) p.dap,.func (.func 120) [] [.iptr p.av]]) s2=_ at h81
  simp only [Pg.av] at h81
  have:=any_not (declR p.xs.length) p.ds
  rw [hil] at g8
  simp [a80_0,g7,g8,he1]
  refine kx _ _ _ _ nofun fun hs'=>?_
  simp [he1,g1,h81]
  exact hK _ _ _ (.inl rfl) ht2 ⟨_,rfl,by simp only [mayA,hall,Bool.true_and,←this];simp [he1,AV.still]⟩
end Go.Proofs.YtefildelnccljaaGreat
namespace Go.Proofs.YtefildelnccljaaGreat
open Go Ai
theorem fn76:A.fn 76=some a76:=by kernel_rfl
theorem prim76:A.prim 76=none:=by kernel_rfl
theorem fn77:A.fn 77=some a77:=by kernel_rfl
theorem prim77:A.prim 77=none:=by kernel_rfl
theorem fn78:A.fn 78=some a78:=by kernel_rfl
theorem prim78:A.prim 78=none:=by kernel_rfl
theorem fn52:A.fn 52=some a52:=by kernel_rfl
theorem prim52:A.prim 52=none:=by kernel_rfl
def itemB (x:It):Bool:=decide (x.k<1) || decide (8<x.k) || (decide (x.k=6) && decide (x.ss.length=0))
def moreB (x:It):Bool:=!decide (x.k=1)
def badD (d:Dc):Bool:=(decide (d.k<1) || decide (3<d.k)) || d.its.any itemB || (!decide (d.k=3) && d.its.any moreB)
def mayN (p:Pg):Bool:=mayA p && !p.ds.any badD
theorem item76_call {x:It} {st:St} (hst:StOk st):runL A (.call 76 [.agg x.cs]) st=some ⟨.ret,⟨[.bool (itemB x)],[]⟩,st⟩:=by
 refine (task_of_aw (N:=22) prim76 fn76 rfl rfl hst ?_).1
 intro e he ha K hK
 have a0:=ha 0
 clear ha
 simp [It.cs] at a0
 simp [a76,he,a0]
 repeat' ((first | refine conda_splitn (fun h=>?_) (fun h=>?_) | refine grda_splitn (fun h=>?_) (fun h=>?_) | refine conda_split (fun h=>?_) (fun h=>?_) | refine grda_split (fun h=>?_) (fun h=>?_))<;>simp [he,a0,h])
 all_goals (refine hK _ _ _ (.inl rfl) (by simp) ⟨_,rfl,?_⟩;clear hK;simp_all [AV.still,itemB,strs])
theorem more77_call {x:It} {st:St} (hst:StOk st):runL A (.call 77 [.agg x.cs]) st=some ⟨.ret,⟨[.bool (moreB x)],[]⟩,st⟩:=by
 refine (task_of_aw (N:=6) prim77 fn77 rfl rfl hst ?_).1
 intro e he ha K hK
 have a0:=ha 0
 clear ha
 simp [It.cs] at a0
 simp [a77,he,a0]
 exact hK _ _ _ (.inl rfl) (by simp) ⟨_,rfl,by simp [he,AV.still,moreB]⟩
theorem bad78_call {d:Dc} (hd:d.Ok) {st:St} (hst:StOk st) {r1 r2:Nat} (h1:st[r1]?=some (.cells none [.func (.func 76) [] []])) (h2:st[r2]?=some (.cells none [.func (.func 77) [] []])) :
  runL A (.call 78 [.agg d.cs,.ptr r1 0,.ptr r2 0]) st=some ⟨.ret,⟨[.bool (badD d)],[]⟩,st⟩:=by
 have h79:=has79_call (l:=d.its) (ap:=d.iap) (g:=76) (cap:=[]) (P:=itemB) hd.its hst (fun v _=>item76_call hst)
 have h79':=has79_call (l:=d.its) (ap:=d.iap) (g:=77) (cap:=[]) (P:=moreB) hd.its hst (fun v _=>more77_call hst)
 change runL A (.call 79 [.lst 9 (d.its.map It.av) d.iap,.func (.func 76) [] []]) st=_ at h79
 change runL A (.call 79 [.lst 9 (d.its.map It.av) d.iap,.func (.func 77) [] []]) st=_ at h79'
 refine (task_of_aw_keep (N:=30) prim78 fn78 rfl rfl (st:=st) (st':=st) ?_).1
 intro e he ha K hK
 have a0:=ha 0
 have a1:=ha 1
 have a2:=ha 2
 clear ha
 simp [Dc.cs] at a0 a1 a2
 simp [a78,he,a0,a1,a2]
 repeat' ((first | refine conda_splitn (fun h=>?_) (fun h=>?_) | refine grda_splitn (fun h=>?_) (fun h=>?_) | refine conda_split (fun h=>?_) (fun h=>?_) | refine grda_split (fun h=>?_) (fun h=>?_))<;>simp [he,a0,a1,a2,h1,h2,h79,h79',h])
 all_goals (refine hK _ _ (.inl rfl) ⟨_,rfl,?_⟩;clear hK;simp_all [badD])
 all_goals (rintro ((hq | hq) | ⟨x,hx,hb⟩)<;>first | (exfalso;omega) | simp_all)
theorem mayN_call {p:Pg} (hp:p.Ok) {st:St} (hst:StOk st):runL A (.call 52 [p.av]) st=some ⟨.ret,⟨[.bool (mayN p)],[]⟩,st⟩:=by
 have hst2:StOk (st++[.cells none [.func (.func 76) [] []],.cells none [.func (.func 77) [] []]]):=by
  have:=obj_ok (obj_ok hst (cs:=[.func (.func 76) [] []]) rfl (ty:=none)) (cs:=[.func (.func 77) [] []]) rfl (ty:=none)
  simpa using this
 have h80:=mayA_call hp hst2
 have h81:=has81_call (l:=p.ds) (ap:=p.dap) (g:=78) (cap:=[.ptr st.length 0,.ptr (st.length+1) 0]) (P:=badD) hp.ds hst2 (fun v hv=>bad78_call (hp.dc v hv) hst2 (by simp) (by simp))
 change runL A (.call 81 [.lst 7 (p.ds.map Dc.av) p.dap,.func (.func 78) [] [.ptr st.length 0,.ptr (st.length+1) 0]]) _=_ at h81
 simp only [Pg.av] at h80
 refine (task_of_aw (N:=16) prim52 fn52 rfl rfl hst ?_).1
 intro e he ha K hK
 have a0:=ha 0
 clear ha
 simp [Pg.av] at a0
 simp [a52,he,a0,h80]
 repeat' ((first | refine conda_splitn (fun h=>?_) (fun h=>?_) | refine grda_splitn (fun h=>?_) (fun h=>?_) | refine conda_split (fun h=>?_) (fun h=>?_) | refine grda_split (fun h=>?_) (fun h=>?_))<;>simp [he,a0,h81,h])
 all_goals (refine hK _ _ _ (.inl rfl) (by simp) ⟨_,rfl,?_⟩;clear hK;simp_all [AV.still,mayN])
end Go.Proofs.YtefildelnccljaaGreat
namespace Go.Proofs.YtefildelnccljaaGreat
open Go Ai
theorem equal_bare (x:Ex) (nm sd vl:Bool):equalF x (bareF x nm sd vl) =
  (!((decide (manyF x.k<1) && !decide (x.a=0)) || (decide (manyF x.k<2) && !decide (x.b=0)) || (decide (manyF x.k<3) && !decide (x.c=0)) || (decide (0≤manyF x.k) && decide (0<x.args.length))) &&
   ((nm || decide (x.n=[])) && ((sd || decide (x.s=[])) && (vl || decide (x.v=0))))):=by
 have h1:=many_le x.k
 have h2:=many_ge x.k
 have hn:decide (x.n=(if nm then x.n else []))=(nm || decide (x.n=[])):=by cases nm<;>simp
 have hs:decide (x.s=(if sd then x.s else []))=(sd || decide (x.s=[])):=by cases sd<;>simp
 have hv:decide (x.v=(if vl then x.v else 0))=(vl || decide (x.v=0)):=by cases vl<;>simp
 have hlen:decide (0<x.args.length)=!decide (x.args=[]):=by cases x.args<;>simp
 by_cases hk:x.k=19
 ·have hm:manyF x.k=-1:=by rw [hk];rfl
  simp only [equalF,bareF,if_pos hk,hm,hn,hs,hv,decide_true,Bool.true_and,Bool.and_true]
  have e1:decide ((-1:Int)<1)=true:=rfl
  have e2:decide ((-1:Int)<2)=true:=rfl
  have e3:decide ((-1:Int)<3)=true:=rfl
  have e4:decide ((0:Int)≤-1)=false:=rfl
  simp only [e1,e2,e3,e4,Bool.true_and,Bool.false_and,Bool.or_false]
  simp [Bool.and_assoc]
 ·have hm0:0≤manyF x.k:=by
   unfold manyF;repeat' split<;>omega
  have hp:partsF x=[x.a,x.b,x.c].take (manyF x.k).toNat:=by unfold partsF;rw [if_neg (by omega)]
  rcases (by omega:manyF x.k=0∨manyF x.k=1∨manyF x.k=2∨manyF x.k=3) with hm | hm | hm | hm
  all_goals
   rw [hm] at hp
   simp only [equalF,bareF,padF,if_neg hk,hp,hm,hn,hs,hv,hlen,decide_true,Bool.true_and,Bool.and_true]
   simp [Bool.and_assoc]
   try (cases decide (x.a=0)<;>cases decide (x.b=0)<;>cases decide (x.c=0)<;>cases decide (x.args=[])<;>simp)
theorem parts_any (l:List Int) (t:Int):(!(l.any (outF t)))=l.all (fun l=>decide (0≤l) && decide (l<t)):=by
 induction l with
 | nil=>rfl
 | cons x l ih =>
  simp only [List.any_cons,List.all_cons,Bool.not_or,ih]
  congr 1
  simp only [outF]
  by_cases h1:x<0<;>by_cases h2:t≤x<;>simp [h1,h2]<;>omega
theorem may2X_one (x:Ex) (t:Int):may2X x t=oneF x t:=by
 by_cases hk:1≤x.k∧x.k≤21
 ·have e1:decide (x.k<1)=false:=by simp;omega
  have e2:decide (21<x.k)=false:=by simp;omega
  have e3:decide (1≤x.k)=true:=by simp;omega
  have e4:decide (x.k≤21)=true:=by simp;omega
  have hp:=parts_any (partsF x) t
  simp only [may2X,oneF,e1,e2,e3,e4,equal_bare,Bool.or_false,Bool.not_false,Bool.true_and,Bool.and_true,←hp,nmF,vlF]
  generalize ((decide (manyF x.k<1) && !decide (x.a=0)) || (decide (manyF x.k<2) && !decide (x.b=0)) || (decide (manyF x.k<3) && !decide (x.c=0)) || (decide (0≤manyF x.k) && decide (0<x.args.length)))=M
  generalize (partsF x).any (outF t)=P
  have hv:((decide (x.k=1) || decide (x.k=2) || decide (x.v=0)) && (decide (0≤x.v) && (!decide (x.k=2) || decide (x.v≤1))))=(if 2<x.k then decide (x.v=0) else decide (0≤x.v) && (decide (x.k=1) || decide (x.v≤1))):=by
   by_cases h2:2<x.k
   ·have f1:decide (x.k=1)=false:=by simp;omega
    have f2:decide (x.k=2)=false:=by simp;omega
    rw [if_pos h2,f1,f2]
    by_cases h0:x.v=0<;>simp [h0]
   ·rw [if_neg h2]
    rcases (by omega:x.k=1∨x.k=2) with h | h<;>simp [h]
  rw [←hv]
  cases M<;>cases P<;>cases decide (x.k=3)<;>cases decide (x.k=19)<;>cases decide (x.k=20)<;>cases decide (x.n=[])<;>cases decide (x.s=[])<;>simp
 ·have e1:(decide (x.k<1) || decide (21<x.k))=true:=by simp;omega
  have e2:(decide (1≤x.k) && decide (x.k≤21))=false:=by simp;omega
  simp only [may2X,oneF,e1,e2,Bool.not_true,Bool.false_and]
theorem ones2_ones:∀(l:List Ex) (i:Nat),ones2 l i=onesF l i
 | [],_=>rfl
 | x::l,i=>by simp only [ones2,onesF,may2X_one,ones2_ones l (i+1)]
theorem mayA_may4 (p:Pg):mayA p=may4 p:=by simp only [mayA,may4,ones2_ones]
theorem bad_declK (d:Dc):badD d=!declK d:=by
 by_cases hr:1≤d.k∧d.k≤3
 ·have e1:(decide (d.k<1) || decide (3<d.k))=false:=by simp;omega
  have e2:decide (d.k<3)=!decide (d.k=3):=by
   by_cases h:d.k=3
   ·simp [h]
   ·have:d.k<3:=by omega
    simp [h,this]
  simp only [badD,declK,e1,Bool.false_or,Bool.not_false,Bool.true_and]
  induction d.its with
  | nil=>simp
  | cons x l ih =>
   simp only [List.any_cons,List.all_cons,Bool.not_and,←ih,itemK,itemB,moreB,e2,Bool.not_not]
   cases decide (d.k=3)<;>cases decide (x.k<1)<;>cases decide (8<x.k)<;>cases decide (x.k=6)<;>cases decide (x.ss.length=0)<;>cases decide (x.k=1)<;>cases l.any itemB<;>cases l.any moreB<;>rfl
 ·have e1:(decide (d.k<1) || decide (3<d.k))=true:=by simp;omega
  simp only [badD,declK,e1,Bool.true_or,Bool.not_true,Bool.false_and,Bool.not_false]
theorem mayN_may7 (p:Pg):mayN p=may7 p:=by
 have h:(!p.ds.any badD)=p.ds.all declK:=by
  have:=any_not declK p.ds
  rw [←this]
  congr 2
  funext d
  exact bad_declK d
 simp only [mayN,may7,mayA_may4,h]
 exact Bool.and_comm _ _
end Go.Proofs.YtefildelnccljaaGreat
namespace Go.Proofs.YtefildelnccljaaGreat
open Go Ai
theorem fn29:A.fn 29=some a29:=by kernel_rfl
theorem prim29:A.prim 29=none:=by kernel_rfl
theorem fn63:A.fn 63=some a63:=by kernel_rfl
theorem prim63:A.prim 63=none:=by kernel_rfl
theorem fn100:A.fn 100=some a100:=by kernel_rfl
theorem prim100:A.prim 100=none:=by kernel_rfl
theorem fn28:A.fn 28=some a28:=by kernel_rfl
theorem prim28:A.prim 28=none:=by kernel_rfl
theorem fn59:A.fn 59=some a59:=by kernel_rfl
theorem prim59:A.prim 59=none:=by kernel_rfl
def w29_0:List Nat:=a29_0.writes
def declF (p:Pg) (n:Sx):Int:=idxF (fun d:Dc=>decide (d.n=n)) p.ds 0
theorem refDecl_call {p:Pg} (hp:p.Ok) {n:Sx} {st:St} (hst:StOk st):runL A (.call 29 [p.av,.str n]) st=some ⟨.ret,⟨[.int .i64 (declF p n)],[]⟩,st⟩:=by
 refine (task_of_aw (N:=22) prim29 fn29 rfl rfl hst ?_).1
 intro e he ha K hK
 have a0:=ha 0
 have a1:=ha 1
 clear ha
 simp [Pg.av] at a0 a1
 simp [a29,he,a0,a1]
 have hds:=hp.ds
 refine aw_loop (W:=w29_0) rfl (fun m e ds st'=>ds=[]∧st'=st∧∃i:Nat,i+m=p.ds.length∧declF p n=idxF (fun d:Dc=>decide (d.n=n)) (p.ds.drop i) i∧AX.ev e (.t 5)=.int .i64 i) p.ds.length
  ⟨rfl,rfl,0,by simp,rfl,by simp [he]⟩ ?_
 rintro m e1 ds st' hs ⟨rfl,rfl,i,hm,hspec,g5⟩ K1 kn kx
 have he1:e1.length=22:=by simp [hs.1,he]
 have g1:=hs.ev 1 rfl (v:=.str n) (by simp [he,a1])
 have g2:=hs.ev 2 rfl (v:=.iptr p.av) (by simp [he,a0,Pg.av])
 simp only [Pg.av] at g2
 by_cases hi:i<p.ds.length
 ·have hcs:=ds_get hi
  obtain ⟨d,hd⟩:∃d,d=p.ds[i]:=⟨_,rfl⟩
  rw [drop_get hi,←hd,idxF] at hspec
  rw [←hd] at hcs
  simp only [Dc.cs] at hcs
  have w1:IntKind.i64.wrap ((i:Int)+1)=(i:Int)+1:=wrap_i64 (by omega) (by omega)
  by_cases hb:d.n=n
  ·simp [hb] at hspec
   simp [a29_0,g1,g2,g5,he1,hi,hcs,hb]
   refine kx _ _ _ _ nofun fun hs'=>?_
   simp [he1]
   exact hK _ _ _ (.inl rfl) (by simp) ⟨_,rfl,by simp [he1,AV.still,AV.lowB,hspec]⟩
  ·simp [hb] at hspec
   simp [a29_0,g1,g2,g5,he1,hi,hcs,hb,w1]
   exact kn (m-1) _ _ _ (by omega) ⟨rfl,rfl,i+1,by omega,by simpa using hspec,by simp [he1]⟩
 ·have hil:i=p.ds.length:=by omega
  rw [hil] at hspec g5
  simp [idxF] at hspec
  simp [a29_0,g2,g5,he1]
  refine kx _ _ _ _ nofun fun hs'=>?_
  simp [he1]
  exact hK _ _ _ (.inl rfl) (by simp) ⟨_,rfl,by simp [he1,AV.still,AV.lowB,hspec]⟩
theorem name_call {d:Dc} {n:Sx} {st:St}:runL A (.call 100 [.agg d.cs,.iptr (.str n)]) st=some ⟨.ret,⟨[.bool (decide (d.n=n))],[]⟩,st⟩:=by
 refine (task_of_aw_keep (N:=8) prim100 fn100 rfl rfl (st:=st) (st':=st) ?_).1
 intro e he ha K hK
 have a0:=ha 0
 have a1:=ha 1
 clear ha
 simp [Dc.cs] at a0 a1
 simp [a100,he,a0,a1]
 exact hK _ _ (.inl rfl) ⟨_,rfl,by simp [he]⟩
theorem decl63_call {p:Pg} (hp:p.Ok) {n:Sx} {st:St} (hst:StOk st):runL A (.call 63 [p.av,.str n]) st=some ⟨.ret,⟨[.int .i64 (declF p n)],[]⟩,st⟩:=by
 have h99:=index99_call (l:=p.ds) (ap:=p.dap) (g:=100) (cap:=[.iptr (.str n)]) (P:=fun d=>decide (d.n=n)) hp.ds hst (fun v _=>name_call)
 change runL A (.call 99 [.lst 7 (p.ds.map Dc.av) p.dap,.func (.func 100) [] [.iptr (.str n)]]) st=_ at h99
 refine (task_of_aw (N:=9) prim63 fn63 rfl rfl hst ?_).1
 intro e he ha K hK
 have a0:=ha 0
 have a1:=ha 1
 clear ha
 simp [Pg.av] at a0 a1
 simp [a63,he,a0,a1,h99]
 exact hK _ _ _ (.inl rfl) (by simp) ⟨_,rfl,by simp [he,AV.still,AV.lowB,declF]⟩
theorem decl28_call {p:Pg} (hp:p.Ok) {n:Sx} {st:St} (hst:StOk st):runL A (.call 28 [p.av,.str n]) st=some ⟨.ret,⟨[.int .i64 (if may7 p then declF p n else -1)],[]⟩,st⟩:=by
 have h52:=mayN_call hp hst
 have h63:=decl63_call hp (n:=n) hst
 rw [mayN_may7] at h52
 simp only [Pg.av] at h52 h63
 refine (task_of_aw (N:=11) prim28 fn28 rfl rfl hst ?_).1
 intro e he ha K hK
 have a0:=ha 0
 have a1:=ha 1
 clear ha
 simp [Pg.av] at a0 a1
 cases hm:may7 p with
 | true =>
  rw [hm] at h52 hK
  simp [a28,he,a0,a1,h52,h63]
  exact hK _ _ _ (.inl rfl) (by simp) ⟨_,rfl,by simp [he,AV.still,AV.lowB]⟩
 | false =>
  rw [hm] at h52 hK
  simp [a28,he,a0,a1,h52,h63]
  exact hK _ _ _ (.inl rfl) (by simp) ⟨_,rfl,by simp [he,AV.still,AV.lowB]⟩
def thereF (p:Pg) (d:Int):Bool:=(decide (0≤d) && decide (d<p.ds.length)) && may7 p
theorem there_call {p:Pg} (hp:p.Ok) {d:Int} {st:St} (hst:StOk st):runL A (.call 59 [p.av,.int .i64 d]) st=some ⟨.ret,⟨[.bool (thereF p d)],[]⟩,st⟩:=by
 have h52:=mayN_call hp hst
 rw [mayN_may7] at h52
 simp only [Pg.av] at h52
 refine (task_of_aw (N:=18) prim59 fn59 rfl rfl hst ?_).1
 intro e he ha K hK
 have a0:=ha 0
 have a1:=ha 1
 clear ha
 simp [Pg.av] at a0 a1
 simp [a59,he,a0,a1]
 repeat' ((first | refine conda_splitn (fun h=>?_) (fun h=>?_) | refine grda_splitn (fun h=>?_) (fun h=>?_) | refine conda_split (fun h=>?_) (fun h=>?_) | refine grda_split (fun h=>?_) (fun h=>?_))<;>simp [he,a0,a1,h52,h])
 all_goals (refine hK _ _ _ (.inl rfl) (by simp) ⟨_,rfl,?_⟩;clear hK;simp_all [AV.still,thereF])
 all_goals omega
end Go.Proofs.YtefildelnccljaaGreat
namespace Go.Proofs.YtefildelnccljaaGreat
open Go Ai
theorem fn31:A.fn 31=some a31:=by kernel_rfl
theorem prim31:A.prim 31=none:=by kernel_rfl
def w31_0:List Nat:=a31_0.writes
def rootsI (x:It):List Int:=(if hasE x.k then [x.e] else [])++(if hasF x.k then [x.f] else [])
def rootsF (d:Dc):List Int:=d.its.flatMap rootsI++(if d.k<3 then [d.e] else [])
theorem rootsI_len (x:It):(rootsI x).length≤2:=by unfold rootsI;split<;>split<;>simp
theorem roots_len (l:List It):(l.flatMap rootsI).length≤l.length * 2:=by
 induction l with
 | nil=>simp
 | cons x l ih=>have:=rootsI_len x;simp only [List.flatMap_cons,List.length_append,List.length_cons];omega
theorem ints_append (l k:List Int):ints (l++k)=ints l++ints k:=by simp [ints]
theorem refRoots_call {d:Dc} (hd:d.Ok) {st:St} (hst:StOk st):runL A (.call 31 [d.av]) st=some ⟨.ret,⟨[.lst 1 (ints (rootsF d)) (endAp (rootsF d).length)],[]⟩,st⟩:=by
 refine (task_of_aw (N:=53) prim31 fn31 rfl rfl hst ?_).1
 intro e he ha K hK
 have a0:=ha 0
 clear ha
 simp [Dc.av,Dc.cs] at a0
 simp [a31,he,a0]
 have hits:=hd.its
 refine aw_loop (W:=w31_0) rfl (fun m e ds st'=>ds=[]∧∃(i:Nat) (o:Ap),i+m=d.its.length∧Grew st.length st st'∧StOk st'∧AX.ev e (.t 4)=.int .i64 i ∧
   AX.ev e (.t 3)=.lst 1 (ints ((d.its.take i).flatMap rootsI)) o∧Own st' st.length 1 (some 3) o ((d.its.take i).flatMap rootsI).length) d.its.length
  ⟨rfl,0,.tight,by simp,.refl,hst,by simp [he],by simp [he,ints],.nil⟩ ?_
 rintro m e1 ds st' hs ⟨rfl,i,o,hm,hgr,hst',g4,g3,ho⟩ K1 kn kx
 have he1:e1.length=53:=by simp [hs.1,he]
 have g1:=hs.ev 1 rfl (v:=.iptr (.agg d.cs)) (by simp [he,a0,Dc.cs])
 simp only [Dc.cs] at g1
 have hrl:=roots_len (d.its.take i)
 rw [List.length_take] at hrl
 generalize hR:(d.its.take i).flatMap rootsI=R at g3 ho hrl
 have one:∀(v:Int) (R:List Int) (o:Ap) (s:St),R.length≤4000000→Grew st.length st s→Own s st.length 1 (some 3) o R.length →
   ∃o' s',appendA 1 8 (some 3) s (.lst 1 (ints R) o) (.lst 1 [.int .i64 v] .tight)=some (.val (.lst 1 (ints (R++[v])) o') s')∧Own s' st.length 1 (some 3) o' (R++[v]).length∧Grew st.length s s':=by
  intro v R o s hl hg ho
  obtain ⟨o',s',h1,h2,h3,_⟩:=append_own (bytes:=8) (ap0:=.tight) (ys:=[.int .i64 v]) (es:=ints R) hg.len (by simpa [ints_length] using ho.weak) (by simp) (by simp [Ai.great,ints_length];omega) (by omega)
  exact ⟨o',s',by rw [ints_append];exact h1,by simpa [ints_length] using h2,h3⟩
 by_cases hi:i<d.its.length
 ·obtain ⟨x,hx⟩:∃x,x=d.its[i]:=⟨_,rfl⟩
  have hgx:(d.its.map It.av)[i]'(by simpa using hi)=.agg x.cs:=by simp [It.av,hx]
  simp only [It.cs] at hgx
  have h64:=has_call (k:=x.k) hst'
  have w1:IntKind.i64.wrap ((i:Int)+1)=(i:Int)+1:=wrap_i64 (by omega) (by omega)
  have htk:(d.its.take (i+1)).flatMap rootsI=R++rootsI x:=by rw [List.take_succ_eq_append_getElem hi,List.flatMap_append,hR,hx];simp
  obtain ⟨o1,s1,p1,q1,r1⟩:=one x.e R o st' (by omega) hgr ho
  obtain ⟨o2,s2,p2,q2,r2⟩:=one x.f R o st' (by omega) hgr ho
  obtain ⟨o3,s3,p3,q3,r3⟩:=one x.f (R++[x.e]) o1 s1 (by simp;omega) (hgr.trans r1) q1
  cases hE:hasE x.k<;>cases hF:hasF x.k
  all_goals
   rw [hE,hF] at h64
   simp [rootsI,hE,hF] at htk
  ·simp [a31_0,g1,g3,g4,he1,hi,hgx,h64,w1]
   exact kn (m-1) _ _ _ (by omega) ⟨rfl,i+1,o,by omega,hgr,hst',by simp [he1],by rw [htk];simp [he1,g3],by rw [htk];exact ho⟩
  ·simp [a31_0,g1,g3,g4,he1,hi,hgx,h64,w1,p2]
   exact kn (m-1) _ _ _ (by omega) ⟨rfl,i+1,o2,by omega,hgr.trans r2,r2.ok hst',by simp [he1],by rw [htk];simp [he1],by rw [htk];exact q2⟩
  ·simp [a31_0,g1,g3,g4,he1,hi,hgx,h64,w1,p1]
   exact kn (m-1) _ _ _ (by omega) ⟨rfl,i+1,o1,by omega,hgr.trans r1,r1.ok hst',by simp [he1],by rw [htk];simp [he1],by rw [htk];exact q1⟩
  ·rw [List.append_assoc] at p3 q3
   simp only [List.cons_append,List.nil_append] at p3 q3
   simp [a31_0,g1,g3,g4,he1,hi,hgx,h64,w1,p1,p3]
   exact kn (m-1) _ _ _ (by omega) ⟨rfl,i+1,o3,by omega,(hgr.trans r1).trans r3,r3.ok (r1.ok hst'),by simp [he1],by rw [htk];simp [he1],by rw [htk];exact q3⟩
 ·have hil:i=d.its.length:=by omega
  rw [hil,List.take_length] at hR
  simp [a31_0,g1,g4,he1,hi]
  refine kx _ _ _ _ nofun fun hs'=>?_
  by_cases hk:d.k<3
  ·have hr:rootsF d=R++[d.e]:=by simp [rootsF,hR,hk]
   obtain ⟨o1,s1,p1,q1,r1⟩:=one d.e R o st' (by omega) hgr ho
   have hs2:=own_still (es:=ints (R++[d.e])) q1 (stills_ints _ _ _)
   simp [he1,g1,g3,hk,p1]
   exact hK _ _ _ (.inl rfl) (by have:=(hgr.trans r1).take;simpa using this) ⟨_,rfl,by rw [hr,←hs2];simp [he1,-AV.still]⟩
  ·have hr:rootsF d=R:=by simp [rootsF,hR,hk]
   have hs2:=own_still (es:=ints R) ho (stills_ints _ _ _)
   simp [he1,g1,g3,hk]
   exact hK _ _ _ (.inl rfl) (by have:=hgr.take;simpa using this) ⟨_,rfl,by rw [hr,←hs2];simp [he1,-AV.still]⟩
end Go.Proofs.YtefildelnccljaaGreat
