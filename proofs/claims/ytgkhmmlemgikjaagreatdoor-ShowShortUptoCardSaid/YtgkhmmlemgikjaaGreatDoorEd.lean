/- Part Ed. No condition. -/
import Derived.Test.YtgkhmmlemgikjaaGreatDoorEc
set_option linter.unusedVariables false
set_option linter.unusedSimpArgs false
namespace Go.Proofs.YtgkhmmlemgikjaaGreatDoor.Ai
open Go
section
variable {A:AProg} {fn:FuncId} {rnd:Option Nat} {e:Env} {ds:List ADef} {st:St} {Q:PostQ}
/-! For simp: one step at a time;what isn't reached is not looked at. -/
def CondA (A:AProg) (fn:FuncId) (rnd:Option Nat) (a b:ACode) (e:Env) (ds:List ADef) (st:St) (Q:PostQ):AV→Prop
 | .bool t=>if t=true then AW A fn rnd a e ds st Q else AW A fn rnd b e ds st Q
 | _=>False
theorem conda_true {a b}:CondA A fn rnd a b e ds st Q (.bool true)↔AW A fn rnd a e ds st Q:=by simp [CondA]
theorem conda_false {a b}:CondA A fn rnd a b e ds st Q (.bool false)↔AW A fn rnd b e ds st Q:=by simp [CondA]
theorem aw_condA {c a b}:AW A fn rnd (.cond c a b) e ds st Q↔CondA A fn rnd a b e ds st Q (c.ev e):=by
 unfold AW CondA
 simp only [exec]
 cases hc:c.ev e<;>simp
 rename_i t
 cases t<;>simp [AW]
def CallA (A:AProg) (d:Option Nat) (os:List AOper) (e:Env) (ds:List ADef) (Q:PostQ):Option Res→Prop
 | some ⟨.ret,⟨[v],_⟩,st'⟩=>AWo A os (setDst d e v) ds st' Q
 | some ⟨.pan v,_,st'⟩=>Q (.pan v) e ds st'
 | _=>False
theorem calla_ret {d os v ds' st'}:CallA A d os e ds Q (some ⟨.ret,⟨[v],ds'⟩,st'⟩)↔AWo A os (setDst d e v) ds st' Q:=Iff.rfl
theorem calla_pan {d os v fr' st'}:CallA A d os e ds Q (some ⟨.pan v,fr',st'⟩)↔Q (.pan v) e ds st':=Iff.rfl
def NxA (A:AProg) (d:Option Nat) (os:List AOper) (e:Env) (ds:List ADef) (st:St) (Q:PostQ):Option Nx→Prop
 | some (.val v st')=>AWo A os (setDst d e v) ds st' Q
 | some (.pan v)=>Q (.pan v) e ds st
 | some (.call f args)=>CallA A d os e ds Q (runL A (.call f args) st)
 | some (.round r args)=>CallA A d os e ds Q (runL A (.round r args) st)
 | some (.defer x)=>AWo A os (setDst d e .undef) (x::ds) st Q
 | none=>False
theorem nxa_val {d os v st'}:NxA A d os e ds st Q (some (.val v st'))↔AWo A os (setDst d e v) ds st' Q:=Iff.rfl
theorem nxa_pan {d os v}:NxA A d os e ds st Q (some (.pan v))↔Q (.pan v) e ds st:=Iff.rfl
theorem nxa_call {d os f args}:NxA A d os e ds st Q (some (.call f args))↔CallA A d os e ds Q (runL A (.call f args) st):=Iff.rfl
theorem nxa_defer {d os x}:NxA A d os e ds st Q (some (.defer x))↔AWo A os (setDst d e .undef) (x::ds) st Q:=Iff.rfl
theorem nxa_round {d os r args}:NxA A d os e ds st Q (some (.round r args))↔CallA A d os e ds Q (runL A (.round r args) st):=Iff.rfl
def GrdA (A:AProg) (d:Option Nat) (op:AOp) (os:List AOper) (e:Env) (ds:List ADef) (st:St) (Q:PostQ):Option Bool→Prop
 | some true=>NxA A d os e ds st Q (opA op e st)
 | some false=>AWo A os (setDst d e .undef) ds st Q
 | none=>False
theorem grda_true {d op os}:GrdA A d op os e ds st Q (some true)↔NxA A d os e ds st Q (opA op e st):=Iff.rfl
theorem grda_false {d op os}:GrdA A d op os e ds st Q (some false)↔AWo A os (setDst d e .undef) ds st Q:=Iff.rfl
theorem ao_doOp {o:AOper} {os:List AOper}:AWo A (o::os) e ds st Q↔(match doOp (runL A) o ⟨e,ds⟩ st with
  | some ⟨.nrm,⟨e1,d1⟩,st1⟩=>AWo A os e1 d1 st1 Q
  | some ⟨x,⟨e1,d1⟩,st1⟩=>Q x e1 d1 st1
  | none=>False):=by
 unfold AWo
 simp only [doOps]
 cases hd:doOp (runL A) o ⟨e,ds⟩ st with
 | none=>simp
 | some r =>
  obtain ⟨x,⟨e1,d1⟩,st1⟩:=r
  cases x with
  | nrm=>simp
  | _ =>
   simp only
   constructor
   ·rintro ⟨x,e',ds',st',h,hq⟩;cases h;exact hq
   ·intro h;exact ⟨_,_,_,_,rfl,h⟩
theorem ao_consA {d op g} {os:List AOper}:AWo A (⟨d,op,g⟩::os) e ds st Q↔GrdA A d op os e ds st Q (wantedA g e):=by
 rw [ao_doOp]
 unfold GrdA
 simp only [doOp]
 cases hw:wantedA g e with
 | none=>simp
 | some b =>
  cases b with
  | false=>simp
  | true =>
   simp only
   unfold NxA
   cases ho:opA op e st with
   | none=>simp
   | some nx =>
    cases nx with
    | val v st'=>simp
    | pan v=>simp
    | defer _=>simp
    | call f args =>
     simp only
     unfold CallA
     cases runL A (.call f args) st with
     | none=>simp
     | some r =>
      obtain ⟨x,⟨env,dd⟩,st'⟩:=r
      cases x with
      | ret =>
       cases env with
       | nil=>simp
       | cons v env=>cases env<;>simp
      | _=>simp
    | round f args =>
     simp only
     unfold CallA
     cases runL A (.round f args) st with
     | none=>simp
     | some r =>
      obtain ⟨x,⟨env,dd⟩,st'⟩:=r
      cases x with
      | ret =>
       cases env with
       | nil=>simp
       | cons v env=>cases env<;>simp
      | _=>simp
def AWs (A:AProg) (all ss:List AStep) (e:Env) (ds:List ADef) (st:St) (Q:PostQ):Prop :=
 ∃x e' ds' st',doSteps (runL A) all ss ⟨e,ds⟩ st=some ⟨x,⟨e',ds'⟩,st'⟩∧Q x e' ds' st'
def ReA (A:AProg) (all ss:List AStep) (e:Env) (ds:List ADef) (st:St) (Q:PostQ):Bool→Prop
 | true=>AWs A all ss e ds st Q
 | false=>False
theorem rea_true {all ss}:ReA A all ss e ds st Q true↔AWs A all ss e ds st Q:=Iff.rfl
def StepQ (A:AProg) (all:List AStep) (re:List Nat) (ss:List AStep) (Q:PostQ):PostQ:=fun x e ds st=>match x with
 | .nrm=>ReA A all ss e ds st Q (reAll all re ⟨e,ds⟩ st)
 | x=>Q x e ds st
theorem stq_nrm {all re ss}:StepQ A all re ss Q .nrm e ds st↔ReA A all ss e ds st Q (reAll all re ⟨e,ds⟩ st):=Iff.rfl
theorem stq_pan {all re ss v}:StepQ A all re ss Q (.pan v) e ds st↔Q (.pan v) e ds st:=Iff.rfl
theorem aw_planA {ss}:AW A fn rnd (.plan ss) e ds st Q↔AWs A ss ss e ds st Q:=Iff.rfl
theorem as_nil {all}:AWs A all [] e ds st Q↔Q .nrm e ds st:=by
 constructor
 ·rintro ⟨x,e',ds',st',h,hq⟩;cases h;exact hq
 ·intro h;exact ⟨_,_,_,_,rfl,h⟩
theorem as_cons {all ss i o re}:AWs A all (⟨i,o,re⟩::ss) e ds st Q↔AWo A [o] e ds st (StepQ A all re ss Q):=by
 rw [ao_doOp]
 unfold AWs
 simp only [doSteps]
 cases hd:doOp (runL A) o ⟨e,ds⟩ st with
 | none=>simp
 | some r =>
  obtain ⟨x,⟨e1,d1⟩,st1⟩:=r
  cases x with
  | nrm =>
   simp only [ao_nil,stq_nrm]
   cases reAll all re ⟨e1,d1⟩ st1<;>simp [ReA,AWs]
  | _ =>
   simp only [StepQ]
   constructor
   ·rintro ⟨x,e',ds',st',h,hq⟩;cases h;exact hq
   ·intro h;exact ⟨_,_,_,_,rfl,h⟩
end
attribute [simp] conda_true conda_false aw_condA calla_ret calla_pan nxa_val nxa_pan nxa_call nxa_defer nxa_round grda_true grda_false ao_consA ao_nil aw_reg aw_planA as_nil as_cons stq_nrm stq_pan rea_true aw_seq aw_block aw_skip aw_exit aw_ret
end Go.Proofs.YtgkhmmlemgikjaaGreatDoor.Ai
namespace Go.Proofs.YtgkhmmlemgikjaaGreatDoor.Ai
open Go
def Own (st:St) (b m:Nat) (ty:Option TypeId) (ap:Ap) (n:Nat):Prop :=
 (n=0∧ap=.tight)∨(0<n∧∃id,ap=.tok id∧b≤id∧st[id]?=some (.tok m n ty))
def Apart (a c:Ap):Prop:=∀id,a=.tok id→c≠.tok id
theorem Own.nil {st b m ty}:Own st b m ty .tight 0:=.inl ⟨rfl,rfl⟩
theorem Own.snoc {st b m ty ap n} {o:AObj} (h:Own st b m ty ap n):Own (st++[o]) b m ty ap n:=by
 rcases h with h | ⟨h0,id,h1,h2,h3⟩
 ·exact .inl h
 ·refine .inr ⟨h0,id,h1,h2,?_⟩
  rw [List.getElem?_append_left (List.getElem?_eq_some_iff.1 h3).1];exact h3
def endAp (n:Nat):Ap:=if n=0 then .tight else .no
structure Grew (b:Nat) (st st':St):Prop where
 take:st'.take b=st.take b
 len:st.length≤st'.length
 ok:StOk st→StOk st'
theorem Grew.refl {b st}:Grew b st st:=⟨rfl,Nat.le_refl _,id⟩
theorem Grew.trans {b st st1 st2} (h:Grew b st st1) (g:Grew b st1 st2):Grew b st st2:=⟨g.take.trans h.take,Nat.le_trans h.len g.len,fun x=>g.ok (h.ok x)⟩
def OwnW (st:St) (b m:Nat) (ty:Option TypeId) (ap:Ap) (n:Nat):Prop:=ap=.tight∨∃id,ap=.tok id∧b≤id∧st[id]?=some (.tok m n ty)
theorem Own.weak {st b m ty ap n} (h:Own st b m ty ap n):OwnW st b m ty ap n:=by
 rcases h with ⟨_,h⟩ | ⟨_,id,h⟩
 ·exact .inl h
 ·exact .inr ⟨id,h⟩
theorem append_own {st:St} {b m bytes:Nat} {ty:Option TypeId} {es ys:List AV} {ap ap0:Ap} (hb:b≤st.length) (ho:OwnW st b m ty ap es.length) (hys:ys≠[]) (hlen:es.length+ys.length≤great) (hby:bytes≤256) :
  ∃ap' st',appendA m bytes ty st (.lst m es ap) (.lst m ys ap0)=some (.val (.lst m (es++ys) ap') st')∧Own st' b m ty ap' (es++ys).length∧Grew b st st' ∧
   (∀m2 ty2 ap2 n2,Own st b m2 ty2 ap2 n2→Apart ap ap2→Own st' b m2 ty2 ap2 n2∧Apart ap' ap2):=by
 have hpos:0<es.length+ys.length:=by have:=List.length_pos_iff.2 hys;omega
 rcases ho with rfl | ⟨id,rfl,hid,htok⟩
 ·refine ⟨.tok st.length,st++[.tok m (es.length+ys.length) ty],?_,.inr ⟨by simpa using hpos,st.length,rfl,hb,by simp⟩,⟨by rw [List.take_append_of_le_length hb],by simp,fun h=>h.snoc rfl⟩,fun m2 ty2 ap2 n2 h _=>⟨h.snoc,?_⟩⟩
  ·simp [appendA,elemsOf,hlen,hby,hys,AV.asLst]
  ·intro id h1 h2
   cases h1
   rcases h with ⟨_,h⟩ | ⟨_,id,h,_,h3⟩
   ·rw [h] at h2;cases h2
   ·rw [h] at h2;cases h2
    have:=(List.getElem?_eq_some_iff.1 h3).1
    omega
 ·have hlt:=(List.getElem?_eq_some_iff.1 htok).1
  have ht:tokIs st id m es.length=true:=by simp [tokIs,htok]
  have hy:tokTy st id=ty:=by simp [tokTy,htok]
  refine ⟨.tok id,st.set id (.tok m (es.length+ys.length) ty),?_,.inr ⟨by simpa using hpos,id,rfl,hid,by simp [hlt]⟩,⟨?_,by simp,?_⟩,fun m2 ty2 ap2 n2 h hap=>⟨?_,hap⟩⟩
  ·simp [appendA,elemsOf,hlen,hby,hys,AV.asLst,ht,hy]
  ·rw [List.take_set]
   exact List.set_eq_of_length_le (by simp;omega)
  ·intro h
   unfold StOk at *
   rw [List.all_eq_true] at h ⊢
   intro x hx
   rw [List.length_set]
   rcases List.mem_or_eq_of_mem_set hx with hx | rfl
   ·exact h x hx
   ·rfl
  ·rcases h with h | ⟨h0',id2,rfl,hid2,htok2⟩
   ·exact .inl h
   ·refine .inr ⟨h0',id2,rfl,hid2,?_⟩
    have:id≠id2:=fun h=>hap id rfl (by rw [h])
    rw [List.getElem?_set_ne this];exact htok2
theorem stills_of {n:Nat} {st:St}:∀{es:List AV},(∀x∈es,AV.still n st x=some x)→AV.stills n st es=some es
 | [],_=>rfl
 | x::es,h=>by
  have h1:=h x (List.mem_cons_self ..)
  have h2:AV.stills n st es=some es:=stills_of fun y hy=>h y (List.mem_cons_of_mem _ hy)
  simp only [AV.stills,h1,h2]
theorem still_tup2 {n:Nat} {st:St} {a b a' b':AV} (h1:AV.still n st a=some a') (h2:AV.still n st b=some b'):AV.still n st (.tup [a,b])=some (.tup [a',b']):=by
 simp only [AV.still,AV.stills,h1,h2,Option.map_some]
end Go.Proofs.YtgkhmmlemgikjaaGreatDoor.Ai
namespace Go.Proofs.YtgkhmmlemgikjaaGreatDoor.Ai
open Go
theorem lows_set {n:Nat} {e:Env} {i:Nat} {v:AV} (h:AV.lowsB n e=true) (hv:AV.lowB n v=true):AV.lowsB n (e.set i v)=true:=by
 rw [lows_iff] at h ⊢
 intro x hx
 rcases List.mem_or_eq_of_mem_set hx with hx | rfl
 ·exact h x hx
 ·exact hv
theorem StOk.set' {st:St} {i:Nat} {o:AObj} (h:StOk st) (g:AObj.lowB st.length o=true):StOk (st.set i o):=by
 unfold StOk at *
 rw [List.all_eq_true] at h ⊢
 rw [List.length_set]
 intro x hx
 rcases List.mem_or_eq_of_mem_set hx with hx | rfl
 ·exact h x hx
 ·exact g
theorem StOk.get {st:St} {i:Nat} {o:AObj} (h:StOk st) (g:st[i]?=some o):AObj.lowB st.length o=true :=
 List.all_eq_true.1 h o (List.mem_of_getElem? g)
def Steady (b:Nat) (st st':St):Prop:=∀(j:Nat) (o:AObj),b≤j→(∀m n ty,o≠.tok m n ty)→st[j]?=some o→st'[j]?=some o
theorem Steady.refl (b:Nat) (st:St):Steady b st st:=fun _ _ _ _ h=>h
theorem Steady.app (b:Nat) (st xs:St):Steady b st (st++xs):=fun j o _ _ h=>by
 rw [List.getElem?_append_left (List.getElem?_eq_some_iff.1 h).1];exact h
theorem Steady.setTok {b:Nat} {st:St} {i m n:Nat} {ty:Option TypeId} {o:AObj} (hq:st[i]?=some (.tok m n ty)):Steady b st (st.set i o):=fun j q hj hn h=>by
 have:i≠j:=by rintro rfl;rw [hq] at h;cases h;exact hn _ _ _ rfl
 rw [List.getElem?_set_ne this];exact h
theorem Grew.split {b:Nat} {x l st':St} (h:Grew b (x++l) st') (hx:x.length=b):∃l',st'=x++l':=by
 have:=h.take
 rw [←hx,List.take_left'  rfl] at this
 refine ⟨st'.drop b,?_⟩
 conv=>lhs;rw [←List.take_append_drop b st']
 rw [←hx,this,hx]
theorem append_steady {b:Nat} {st st':St} {m bytes:Nat} {ty:Option TypeId} {x y v:AV} (h:appendA m bytes ty st x y=some (.val v st')):Steady b st st':=by
 unfold appendA at h
 simp only [Option.bind_eq_some_iff] at h
 obtain ⟨ys,_,h⟩:=h
 split at h
 ·split at h
  ·split at h
   ·split at h
    ·cases h;exact Steady.refl _ _
    ·cases h;exact Steady.app _ _ _
   ·split at h
    ·rename_i id ht
     split at h
     ·cases h;exact Steady.refl _ _
     ·cases h
      unfold tokIs at ht
      split at ht
      ·rename_i hq;exact Steady.setTok hq
      ·cases ht
    ·cases h
   ·cases h
  ·cases h
 ·cases h
theorem own_low {st:St} {b m n:Nat} {ty:Option TypeId} {ap:Ap} {es:List AV} (h:OwnW st b m ty ap n) (hes:AV.lowsB st.length es=true):AV.lowB st.length (.lst m es ap)=true:=by
 rcases h with rfl | ⟨id,rfl,_,h⟩
 ·simp [AV.lowB,hes]
 ·have:=(List.getElem?_eq_some_iff.1 h).1
  simp [AV.lowB,hes,this]
theorem OwnW.app {st:St} {b m n:Nat} {ty:Option TypeId} {ap:Ap} (h:OwnW st b m ty ap n) (xs:St):OwnW (st++xs) b m ty ap n:=by
 rcases h with h | ⟨id,h1,h2,h3⟩
 ·exact .inl h
 ·refine .inr ⟨id,h1,h2,?_⟩
  rw [List.getElem?_append_left (List.getElem?_eq_some_iff.1 h3).1];exact h3
def Mine (st:St) (b m:Nat) (es:List AV) (x:AV):Prop :=
 (es=[]∧∃m',x=.lst m' [] .tight)∨(es≠[]∧∃r,x=.sl r m 0 es.length none∧b≤r∧st[r]?=some (.cells none (flat es)))
theorem flat_append:∀(es ys:List AV),flat (es++ys)=flat es++flat ys
 | [],ys=>rfl
 | e::es,ys=>by simp [flat,flat_append es ys]
theorem flat_length {m:Nat}:∀{es:List AV},(∀e∈es,e.cells.length=m)→(flat es).length=es.length * m
 | [],_=>by simp [flat]
 | e::es,h=>by
  rw [flat,List.length_append,h e (by simp),flat_length fun x hx=>h x (by simp [hx]),List.length_cons,Nat.add_mul];omega
theorem low_cells {n:Nat} {v:AV} (h:AV.lowB n v=true):AV.lowsB n v.cells=true:=by
 cases v<;>first | exact h | (simp only [AV.cells,AV.lowsB,Bool.and_true];exact h)
theorem lows_append {n:Nat}:∀{a b:List AV},AV.lowsB n a=true→AV.lowsB n b=true→AV.lowsB n (a++b)=true:=by
 intro a b h g
 rw [lows_iff] at h g ⊢
 intro x hx
 rcases List.mem_append.1 hx with hx | hx
 ·exact h x hx
 ·exact g x hx
theorem flat_low {n:Nat}:∀{es:List AV},AV.lowsB n es=true→AV.lowsB n (flat es)=true
 | [],_=>rfl
 | e::es,h=>by
  simp only [AV.lowsB,Bool.and_eq_true] at h
  exact lows_append (low_cells h.1) (flat_low h.2)
theorem appendM_mine {st:St} {b m bytes:Nat} {es ys:List AV} {x y:AV} (hb:b≤st.length) (h:Mine st b m es x) (hy:elemsOf st m y=some ys) (hne:ys≠[]) (hlen:es.length+ys.length≤great) (hby:bytes≤256)
  (hm:∀e∈es,e.cells.length=m) (hlow:AV.lowsB st.length ys=true) :
  ∃x' st',appendMA m bytes st x y=some (.val x' st')∧Mine st' b m (es++ys) x'∧Grew b st st':=by
 rcases h with ⟨rfl,m',rfl⟩ | ⟨hes,r,rfl,hr,hst⟩
 ·refine ⟨.sl st.length m 0 ys.length none,st++[.cells none (flat ys)],by simp [appendMA,hy,AV.asLst,hne,hby,show ys.length≤great by simpa using hlen],.inr ⟨by simpa using hne,st.length,by simp,hb,by simp⟩,⟨by rw [List.take_append_of_le_length hb],by simp,fun h=>h.snoc ?_⟩⟩
  simp only [AObj.lowB]
  exact AV.lows_le (by omega) _ (flat_low hlow)
 ·have hrl:=(List.getElem?_eq_some_iff.1 hst).1
  refine ⟨.sl st.length m 0 (es.length+ys.length) none,st.set r .dead++[.cells none (flat es++flat ys)],by simp [appendMA,hy,AV.asLst,hst,hne,hby,hlen,flat_length hm],.inr ⟨by simp [hes],st.length,by simp,hb,?_⟩,⟨?_,by simp,fun h=>?_⟩⟩
  ·rw [List.getElem?_append_right (by simp)];simp [flat_append]
  ·rw [List.take_append_of_le_length (by simpa using hb),List.take_set,List.set_eq_of_length_le (by simp;omega)]
  ·have h1:=h.set' (i:=r) (o:=.dead) rfl
   refine h1.snoc ?_
   have h2:=h.get hst
   simp only [AObj.lowB] at h2 ⊢
   rw [List.length_set]
   exact AV.lows_le (by omega) _ (lows_append h2 (flat_low hlow))
section
variable {A:AProg} {fn:FuncId}
end
end Go.Proofs.YtgkhmmlemgikjaaGreatDoor.Ai
