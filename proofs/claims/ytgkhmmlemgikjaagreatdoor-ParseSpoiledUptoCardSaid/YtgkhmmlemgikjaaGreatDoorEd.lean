/- Part Ed. No condition. -/
import Derived.Test.YtgkhmmlemgikjaaGreatDoorEc
import Derived.Test.YtgkhmmlemgikjaaGreatDoorEg
import Derived.Lib.Space
import Derived.Shelf.Strings.Fields
set_option linter.unusedVariables false
set_option linter.unusedSimpArgs false
namespace Go.Proofs.YtgkhmmlemgikjaaGreatDoor.Ai
open Go
section
variable {A:AProg} {fn:FuncId} {rnd:Option Nat} {e:Env} {ds:List ADef} {st:St} {Q:PostQ}
/-! For simp: one step at a time;what isn't reached is not looked at. -/
def CondA (A:AProg) (fn:FuncId) (rnd:Option Nat) (a b:ACode) (e:Env) (ds:List ADef) (st:St) (Q:PostQ):AV→Prop
 | .bool t=>if t=true then AW A fn rnd a e ds st Q else AW A fn rnd b e ds st Q
 | _=>False
theorem conda_true {a b}:CondA A fn rnd a b e ds st Q (.bool true)↔AW A fn rnd a e ds st Q:=by simp [CondA]
theorem conda_false {a b}:CondA A fn rnd a b e ds st Q (.bool false)↔AW A fn rnd b e ds st Q:=by simp [CondA]
theorem aw_condA {c a b}:AW A fn rnd (.cond c a b) e ds st Q↔CondA A fn rnd a b e ds st Q (c.ev e):=by
 unfold AW CondA
 simp only [exec]
 cases hc:c.ev e<;>simp
 rename_i t
 cases t<;>simp [AW]
def CallA (A:AProg) (d:Option Nat) (os:List AOper) (e:Env) (ds:List ADef) (Q:PostQ):Option Res→Prop
 | some ⟨.ret,⟨[v],_⟩,st'⟩=>AWo A os (setDst d e v) ds st' Q
 | some ⟨.pan v,_,st'⟩=>Q (.pan v) e ds st'
 | _=>False
theorem calla_ret {d os v ds' st'}:CallA A d os e ds Q (some ⟨.ret,⟨[v],ds'⟩,st'⟩)↔AWo A os (setDst d e v) ds st' Q:=Iff.rfl
theorem calla_pan {d os v fr' st'}:CallA A d os e ds Q (some ⟨.pan v,fr',st'⟩)↔Q (.pan v) e ds st':=Iff.rfl
def NxA (A:AProg) (d:Option Nat) (os:List AOper) (e:Env) (ds:List ADef) (st:St) (Q:PostQ):Option Nx→Prop
 | some (.val v st')=>AWo A os (setDst d e v) ds st' Q
 | some (.pan v)=>Q (.pan v) e ds st
 | some (.call f args)=>CallA A d os e ds Q (runL A (.call f args) st)
 | some (.round r args)=>CallA A d os e ds Q (runL A (.round r args) st)
 | some (.defer x)=>AWo A os (setDst d e .undef) (x::ds) st Q
 | none=>False
theorem nxa_val {d os v st'}:NxA A d os e ds st Q (some (.val v st'))↔AWo A os (setDst d e v) ds st' Q:=Iff.rfl
theorem nxa_pan {d os v}:NxA A d os e ds st Q (some (.pan v))↔Q (.pan v) e ds st:=Iff.rfl
theorem nxa_call {d os f args}:NxA A d os e ds st Q (some (.call f args))↔CallA A d os e ds Q (runL A (.call f args) st):=Iff.rfl
theorem nxa_defer {d os x}:NxA A d os e ds st Q (some (.defer x))↔AWo A os (setDst d e .undef) (x::ds) st Q:=Iff.rfl
theorem nxa_round {d os r args}:NxA A d os e ds st Q (some (.round r args))↔CallA A d os e ds Q (runL A (.round r args) st):=Iff.rfl
def GrdA (A:AProg) (d:Option Nat) (op:AOp) (os:List AOper) (e:Env) (ds:List ADef) (st:St) (Q:PostQ):Option Bool→Prop
 | some true=>NxA A d os e ds st Q (opA op e st)
 | some false=>AWo A os (setDst d e .undef) ds st Q
 | none=>False
theorem grda_true {d op os}:GrdA A d op os e ds st Q (some true)↔NxA A d os e ds st Q (opA op e st):=Iff.rfl
theorem grda_false {d op os}:GrdA A d op os e ds st Q (some false)↔AWo A os (setDst d e .undef) ds st Q:=Iff.rfl
theorem ao_doOp {o:AOper} {os:List AOper}:AWo A (o::os) e ds st Q↔(match doOp (runL A) o ⟨e,ds⟩ st with
  | some ⟨.nrm,⟨e1,d1⟩,st1⟩=>AWo A os e1 d1 st1 Q
  | some ⟨x,⟨e1,d1⟩,st1⟩=>Q x e1 d1 st1
  | none=>False):=by
 unfold AWo
 simp only [doOps]
 cases hd:doOp (runL A) o ⟨e,ds⟩ st with
 | none=>simp
 | some r =>
  obtain ⟨x,⟨e1,d1⟩,st1⟩:=r
  cases x with
  | nrm=>simp
  | _ =>
   simp only
   constructor
   ·rintro ⟨x,e',ds',st',h,hq⟩;cases h;exact hq
   ·intro h;exact ⟨_,_,_,_,rfl,h⟩
theorem ao_consA {d op g} {os:List AOper}:AWo A (⟨d,op,g⟩::os) e ds st Q↔GrdA A d op os e ds st Q (wantedA g e):=by
 rw [ao_doOp]
 unfold GrdA
 simp only [doOp]
 cases hw:wantedA g e with
 | none=>simp
 | some b =>
  cases b with
  | false=>simp
  | true =>
   simp only
   unfold NxA
   cases ho:opA op e st with
   | none=>simp
   | some nx =>
    cases nx with
    | val v st'=>simp
    | pan v=>simp
    | defer _=>simp
    | call f args =>
     simp only
     unfold CallA
     cases runL A (.call f args) st with
     | none=>simp
     | some r =>
      obtain ⟨x,⟨env,dd⟩,st'⟩:=r
      cases x with
      | ret =>
       cases env with
       | nil=>simp
       | cons v env=>cases env<;>simp
      | _=>simp
    | round f args =>
     simp only
     unfold CallA
     cases runL A (.round f args) st with
     | none=>simp
     | some r =>
      obtain ⟨x,⟨env,dd⟩,st'⟩:=r
      cases x with
      | ret =>
       cases env with
       | nil=>simp
       | cons v env=>cases env<;>simp
      | _=>simp
def AWs (A:AProg) (all ss:List AStep) (e:Env) (ds:List ADef) (st:St) (Q:PostQ):Prop :=
 ∃x e' ds' st',doSteps (runL A) all ss ⟨e,ds⟩ st=some ⟨x,⟨e',ds'⟩,st'⟩∧Q x e' ds' st'
def ReA (A:AProg) (all ss:List AStep) (e:Env) (ds:List ADef) (st:St) (Q:PostQ):Bool→Prop
 | true=>AWs A all ss e ds st Q
 | false=>False
theorem rea_true {all ss}:ReA A all ss e ds st Q true↔AWs A all ss e ds st Q:=Iff.rfl
def StepQ (A:AProg) (all:List AStep) (re:List Nat) (ss:List AStep) (Q:PostQ):PostQ:=fun x e ds st=>match x with
 | .nrm=>ReA A all ss e ds st Q (reAll all re ⟨e,ds⟩ st)
 | x=>Q x e ds st
theorem stq_nrm {all re ss}:StepQ A all re ss Q .nrm e ds st↔ReA A all ss e ds st Q (reAll all re ⟨e,ds⟩ st):=Iff.rfl
theorem stq_pan {all re ss v}:StepQ A all re ss Q (.pan v) e ds st↔Q (.pan v) e ds st:=Iff.rfl
theorem aw_planA {ss}:AW A fn rnd (.plan ss) e ds st Q↔AWs A ss ss e ds st Q:=Iff.rfl
theorem as_nil {all}:AWs A all [] e ds st Q↔Q .nrm e ds st:=by
 constructor
 ·rintro ⟨x,e',ds',st',h,hq⟩;cases h;exact hq
 ·intro h;exact ⟨_,_,_,_,rfl,h⟩
theorem as_cons {all ss i o re}:AWs A all (⟨i,o,re⟩::ss) e ds st Q↔AWo A [o] e ds st (StepQ A all re ss Q):=by
 rw [ao_doOp]
 unfold AWs
 simp only [doSteps]
 cases hd:doOp (runL A) o ⟨e,ds⟩ st with
 | none=>simp
 | some r =>
  obtain ⟨x,⟨e1,d1⟩,st1⟩:=r
  cases x with
  | nrm =>
   simp only [ao_nil,stq_nrm]
   cases reAll all re ⟨e1,d1⟩ st1<;>simp [ReA,AWs]
  | _ =>
   simp only [StepQ]
   constructor
   ·rintro ⟨x,e',ds',st',h,hq⟩;cases h;exact hq
   ·intro h;exact ⟨_,_,_,_,rfl,h⟩
end
attribute [simp] conda_true conda_false aw_condA calla_ret calla_pan nxa_val nxa_pan nxa_call nxa_defer nxa_round grda_true grda_false ao_consA ao_nil aw_reg aw_planA as_nil as_cons stq_nrm stq_pan rea_true aw_seq aw_block aw_skip aw_exit aw_ret
end Go.Proofs.YtgkhmmlemgikjaaGreatDoor.Ai
namespace Go.Proofs.YtgkhmmlemgikjaaGreatDoor.Ai
open Go
def Own (st:St) (b m:Nat) (ty:Option TypeId) (ap:Ap) (n:Nat):Prop :=
 (n=0∧ap=.tight)∨(0<n∧∃id,ap=.tok id∧b≤id∧st[id]?=some (.tok m n ty))
def Apart (a c:Ap):Prop:=∀id,a=.tok id→c≠.tok id
theorem Apart.symm {a c:Ap} (h:Apart a c):Apart c a:=fun id h1 h2=>h id h2 h1
theorem Apart.tight {a:Ap}:Apart a .tight:=fun _ _=>nofun
theorem Own.nil {st b m ty}:Own st b m ty .tight 0:=.inl ⟨rfl,rfl⟩
theorem Own.snoc {st b m ty ap n} {o:AObj} (h:Own st b m ty ap n):Own (st++[o]) b m ty ap n:=by
 rcases h with h | ⟨h0,id,h1,h2,h3⟩
 ·exact .inl h
 ·refine .inr ⟨h0,id,h1,h2,?_⟩
  rw [List.getElem?_append_left (List.getElem?_eq_some_iff.1 h3).1];exact h3
def endAp (n:Nat):Ap:=if n=0 then .tight else .no
structure Grew (b:Nat) (st st':St):Prop where
 take:st'.take b=st.take b
 len:st.length≤st'.length
 ok:StOk st→StOk st'
theorem Grew.refl {b st}:Grew b st st:=⟨rfl,Nat.le_refl _,id⟩
theorem Grew.trans {b st st1 st2} (h:Grew b st st1) (g:Grew b st1 st2):Grew b st st2:=⟨g.take.trans h.take,Nat.le_trans h.len g.len,fun x=>g.ok (h.ok x)⟩
def OwnW (st:St) (b m:Nat) (ty:Option TypeId) (ap:Ap) (n:Nat):Prop:=ap=.tight∨∃id,ap=.tok id∧b≤id∧st[id]?=some (.tok m n ty)
theorem Own.weak {st b m ty ap n} (h:Own st b m ty ap n):OwnW st b m ty ap n:=by
 rcases h with ⟨_,h⟩ | ⟨_,id,h⟩
 ·exact .inl h
 ·exact .inr ⟨id,h⟩
theorem append_own {st:St} {b m bytes:Nat} {ty:Option TypeId} {es ys:List AV} {ap ap0:Ap} (hb:b≤st.length) (ho:OwnW st b m ty ap es.length) (hys:ys≠[]) (hlen:es.length+ys.length≤great) (hby:bytes≤256) :
  ∃ap' st',appendA m bytes ty st (.lst m es ap) (.lst m ys ap0)=some (.val (.lst m (es++ys) ap') st')∧Own st' b m ty ap' (es++ys).length∧Grew b st st' ∧
   (∀m2 ty2 ap2 n2,Own st b m2 ty2 ap2 n2→Apart ap ap2→Own st' b m2 ty2 ap2 n2∧Apart ap' ap2):=by
 have hpos:0<es.length+ys.length:=by have:=List.length_pos_iff.2 hys;omega
 rcases ho with rfl | ⟨id,rfl,hid,htok⟩
 ·refine ⟨.tok st.length,st++[.tok m (es.length+ys.length) ty],?_,.inr ⟨by simpa using hpos,st.length,rfl,hb,by simp⟩,⟨by rw [List.take_append_of_le_length hb],by simp,fun h=>h.snoc rfl⟩,fun m2 ty2 ap2 n2 h _=>⟨h.snoc,?_⟩⟩
  ·simp [appendA,elemsOf,hlen,hby,hys,AV.asLst]
  ·intro id h1 h2
   cases h1
   rcases h with ⟨_,h⟩ | ⟨_,id,h,_,h3⟩
   ·rw [h] at h2;cases h2
   ·rw [h] at h2;cases h2
    have:=(List.getElem?_eq_some_iff.1 h3).1
    omega
 ·have hlt:=(List.getElem?_eq_some_iff.1 htok).1
  have ht:tokIs st id m es.length=true:=by simp [tokIs,htok]
  have hy:tokTy st id=ty:=by simp [tokTy,htok]
  refine ⟨.tok id,st.set id (.tok m (es.length+ys.length) ty),?_,.inr ⟨by simpa using hpos,id,rfl,hid,by simp [hlt]⟩,⟨?_,by simp,?_⟩,fun m2 ty2 ap2 n2 h hap=>⟨?_,hap⟩⟩
  ·simp [appendA,elemsOf,hlen,hby,hys,AV.asLst,ht,hy]
  ·rw [List.take_set]
   exact List.set_eq_of_length_le (by simp;omega)
  ·intro h
   unfold StOk at *
   rw [List.all_eq_true] at h ⊢
   intro x hx
   rw [List.length_set]
   rcases List.mem_or_eq_of_mem_set hx with hx | rfl
   ·exact h x hx
   ·rfl
  ·rcases h with h | ⟨h0',id2,rfl,hid2,htok2⟩
   ·exact .inl h
   ·refine .inr ⟨h0',id2,rfl,hid2,?_⟩
    have:id≠id2:=fun h=>hap id rfl (by rw [h])
    rw [List.getElem?_set_ne this];exact htok2
theorem stills_of {n:Nat} {st:St}:∀{es:List AV},(∀x∈es,AV.still n st x=some x)→AV.stills n st es=some es
 | [],_=>rfl
 | x::es,h=>by
  have h1:=h x (List.mem_cons_self ..)
  have h2:AV.stills n st es=some es:=stills_of fun y hy=>h y (List.mem_cons_of_mem _ hy)
  simp only [AV.stills,h1,h2]
theorem own_still {st:St} {b m n:Nat} {ty:Option TypeId} {ap:Ap} {es:List AV} (h:Own st b m ty ap n) (hes:AV.stills b st es=some es):AV.still b st (.lst m es ap)=some (.lst m es (endAp n)):=by
 rcases h with ⟨h0,rfl⟩ | ⟨h0,id,rfl,hid,_⟩
 ·simp [AV.still,hes,endAp,h0]
 ·simp [AV.still,hes,endAp,show ¬id<b by omega,show n≠0 by omega]
theorem still_tup2 {n:Nat} {st:St} {a b a' b':AV} (h1:AV.still n st a=some a') (h2:AV.still n st b=some b'):AV.still n st (.tup [a,b])=some (.tup [a',b']):=by
 simp only [AV.still,AV.stills,h1,h2,Option.map_some]
end Go.Proofs.YtgkhmmlemgikjaaGreatDoor.Ai
namespace Go.Proofs.YtgkhmmlemgikjaaGreatDoor.Ai
open Go
def fieldsA:List AV→Option AV
 | [.str s]=>if s.length<4294967281∧s.all (fun b=>decide (b.toNat<128))=true then some (.lst 1 ((Lib.fields s).map AV.str) .tight) else none
 | _=>none
theorem elems_strs {J:Inj} {b:Nat}:∀(ws:List (List UInt8)) (o:Nat),(∀(i:Nat) l,ws[i]?=some l→J.im b (o+i)=some (.string ⟨l.toArray⟩))→Elems J 1 (ws.map AV.str) b o
 | [],_,_=>by simp [Elems]
 | w::ws,o,h=>by
  simp only [List.map_cons,Elems]
  refine ⟨⟨.string ⟨w.toArray⟩,by simp [Rep],rfl,rfl,?_⟩,elems_strs ws (o+1) fun i l hl=>?_⟩
  ·intro i v hv
   cases i with
   | zero=>simp [Value.cells] at hv;subst hv;exact h 0 w (by simp)
   | succ i=>simp [Value.cells] at hv
  ·have:=h (i+1) l (by simpa using hl)
   rwa [show o+1+i=o+(i+1) by omega]
theorem fields_task {P : Program} {gl : List (Nat × AV)} {A : AProg} {B : World → Prop} {f T : Nat} (hB : ∀ w, B w → Lib.TabIs P w "strings.asciiSpace" .u8 Lib.asciiSpaceTab)
  (he:∀args w,(callFunc f args).run P w=.ok (.enter f args) w)
  (C : ∀ (s : ByteArray) (w : World), s.size < 4294967281 → (∀ (j : Nat) b, s.data.toList[j]? = some b → b.toNat < 128) → Lib.TabIs P w "strings.asciiSpace" .u8 Lib.asciiSpaceTab →
   Calls P f #[.string s] w fun e w'=>e=.returned (.slice (some ⟨w.heap.size,0,none⟩) (Lib.fields s.data.toList).length (Lib.fields s.data.toList).length)∧w'=w.alloc (.cells ((Lib.fields s.data.toList).map fun l=>Value.string ⟨l.toArray⟩).toArray T))
  {args:List AV} {st:St} {o:AOut} {st':St} (hh:pureP fieldsA args st=some (o,st')) :
  TaskOk P gl A B (.call f args) st (outRes st' o):=by
 simp only [pureP,Option.map_eq_some_iff,Prod.mk.injEq] at hh
 obtain ⟨v,hv,rfl,rfl⟩:=hh
 unfold fieldsA at hv
 split at hv
 ·rename_i s
  split at hv
  ·rename_i hs
   cases hv
   intro base J w cargs hS hG hR
   simp only [Reps,Rep] at hR
   obtain ⟨y,ys,e1,⟨ba,rfl,hba⟩,rfl⟩:=hR
   obtain rfl:cargs=#[.string ba]:=by apply Array.toList_inj.1;simpa using e1
   have hlt:∀(j:Nat) b,ba.data.toList[j]?=some b→b.toNat<128:=by
    intro j b hj
    rw [hba] at hj
    have:=List.all_eq_true.1 hs.2 b (List.mem_of_getElem? hj)
    simpa using this
   have hsz:ba.size<4294967281:=by
    have:ba.size=s.length:=by rw [←hba];simp
    omega
   refine .inl ⟨he _ _,callsIn_wide.2 ((C ba w hsz hlt (tab_of_sim hS (hB _ hG.2))).mono fun e w' ⟨h1,h2⟩=>?_)⟩
   rw [hba] at h1 h2
   subst h2
   have hS':=hS.addStill ((Lib.fields s).map fun l=>Value.string ⟨l.toArray⟩).toArray T (0,0)
   refine ⟨_,hS.stay_le _,hS',_,_,rfl,?_,h1⟩
   simp only [Rep]
   refine ⟨nofun,.inr ⟨_,_,by rw [List.length_map],fun _=>rfl,by simp,fun _=>by simp,elems_strs _ 0 fun i l hl=>?_⟩⟩
   simp [Inj.stay,hl]
  ·cases hv
 ·cases hv
end Go.Proofs.YtgkhmmlemgikjaaGreatDoor.Ai
namespace Go.Proofs.YtgkhmmlemgikjaaGreatDoor.Ai
open Go
theorem lows_set {n:Nat} {e:Env} {i:Nat} {v:AV} (h:AV.lowsB n e=true) (hv:AV.lowB n v=true):AV.lowsB n (e.set i v)=true:=by
 rw [lows_iff] at h ⊢
 intro x hx
 rcases List.mem_or_eq_of_mem_set hx with hx | rfl
 ·exact h x hx
 ·exact hv
theorem lows_of_ev {n:Nat} {e:Env} (h:∀i,AV.lowB n (AX.ev e (.t i))=true):AV.lowsB n e=true:=by
 rw [lows_iff]
 intro x hx
 obtain ⟨i,hi,rfl⟩:=List.getElem_of_mem hx
 have:=h i
 simpa [AX.ev,List.getD_eq_getElem?_getD,hi] using this
theorem lows_args {n:Nat} {e:Env} {args:List AV} (h:∀i,AX.ev e (.t i)=args.getD i .undef) (ha:AV.lowsB n args=true):AV.lowsB n e=true:=by
 refine lows_of_ev fun i=>?_
 rw [h i,List.getD_eq_getElem?_getD]
 by_cases hi:i<args.length
 ·rw [List.getElem?_eq_getElem hi]
  exact lows_iff.1 ha _ (List.getElem_mem hi)
 ·rw [List.getElem?_eq_none (by omega)];rfl
theorem StOk.set' {st:St} {i:Nat} {o:AObj} (h:StOk st) (g:AObj.lowB st.length o=true):StOk (st.set i o):=by
 unfold StOk at *
 rw [List.all_eq_true] at h ⊢
 rw [List.length_set]
 intro x hx
 rcases List.mem_or_eq_of_mem_set hx with hx | rfl
 ·exact h x hx
 ·exact g
theorem StOk.get {st:St} {i:Nat} {o:AObj} (h:StOk st) (g:st[i]?=some o):AObj.lowB st.length o=true :=
 List.all_eq_true.1 h o (List.mem_of_getElem? g)
def Steady (b:Nat) (st st':St):Prop:=∀(j:Nat) (o:AObj),b≤j→(∀m n ty,o≠.tok m n ty)→st[j]?=some o→st'[j]?=some o
theorem Steady.refl (b:Nat) (st:St):Steady b st st:=fun _ _ _ _ h=>h
theorem Steady.trans {n:Nat} {a b c:St} (h:Steady n a b) (g:Steady n b c):Steady n a c:=fun j o h1 h2 x=>g j o h1 h2 (h j o h1 h2 x)
theorem Steady.le {n k:Nat} {a b:St} (h:Steady n a b) (g:n≤k):Steady k a b:=fun j o h1 h2 x=>h j o (Nat.le_trans g h1) h2 x
theorem Steady.app (b:Nat) (st xs:St):Steady b st (st++xs):=fun j o _ _ h=>by
 rw [List.getElem?_append_left (List.getElem?_eq_some_iff.1 h).1];exact h
theorem Steady.set {b:Nat} {st:St} {i:Nat} {o:AObj} (hi:i<b):Steady b st (st.set i o):=fun j q hj _ h=>by
 rw [List.getElem?_set_ne (by omega)];exact h
theorem Steady.setTok {b:Nat} {st:St} {i m n:Nat} {ty:Option TypeId} {o:AObj} (hq:st[i]?=some (.tok m n ty)):Steady b st (st.set i o):=fun j q hj hn h=>by
 have:i≠j:=by rintro rfl;rw [hq] at h;cases h;exact hn _ _ _ rfl
 rw [List.getElem?_set_ne this];exact h
theorem Steady.suffix {b:Nat} {x y l:St} (hx:x.length=b) (hy:y.length=b):Steady b (x++l) (y++l):=fun j q hj _ h=>by
 rw [List.getElem?_append_right (by omega)] at h ⊢
 rw [hx] at h;rw [hy];exact h
theorem Grew.split {b:Nat} {x l st':St} (h:Grew b (x++l) st') (hx:x.length=b):∃l',st'=x++l':=by
 have:=h.take
 rw [←hx,List.take_left'  rfl] at this
 refine ⟨st'.drop b,?_⟩
 conv=>lhs;rw [←List.take_append_drop b st']
 rw [←hx,this,hx]
theorem append_steady {b:Nat} {st st':St} {m bytes:Nat} {ty:Option TypeId} {x y v:AV} (h:appendA m bytes ty st x y=some (.val v st')):Steady b st st':=by
 unfold appendA at h
 simp only [Option.bind_eq_some_iff] at h
 obtain ⟨ys,_,h⟩:=h
 split at h
 ·split at h
  ·split at h
   ·split at h
    ·cases h;exact Steady.refl _ _
    ·cases h;exact Steady.app _ _ _
   ·split at h
    ·rename_i id ht
     split at h
     ·cases h;exact Steady.refl _ _
     ·cases h
      unfold tokIs at ht
      split at ht
      ·rename_i hq;exact Steady.setTok hq
      ·cases ht
    ·cases h
   ·cases h
  ·cases h
 ·cases h
theorem own_low {st:St} {b m n:Nat} {ty:Option TypeId} {ap:Ap} {es:List AV} (h:OwnW st b m ty ap n) (hes:AV.lowsB st.length es=true):AV.lowB st.length (.lst m es ap)=true:=by
 rcases h with rfl | ⟨id,rfl,_,h⟩
 ·simp [AV.lowB,hes]
 ·have:=(List.getElem?_eq_some_iff.1 h).1
  simp [AV.lowB,hes,this]
theorem OwnW.app {st:St} {b m n:Nat} {ty:Option TypeId} {ap:Ap} (h:OwnW st b m ty ap n) (xs:St):OwnW (st++xs) b m ty ap n:=by
 rcases h with h | ⟨id,h1,h2,h3⟩
 ·exact .inl h
 ·refine .inr ⟨id,h1,h2,?_⟩
  rw [List.getElem?_append_left (List.getElem?_eq_some_iff.1 h3).1];exact h3
theorem Own.set {st:St} {b m n:Nat} {ty:Option TypeId} {ap:Ap} (h:Own st b m ty ap n) {i:Nat} {o:AObj} (hi:i<b):Own (st.set i o) b m ty ap n:=by
 rcases h with h | ⟨h0,id,h1,h2,h3⟩
 ·exact .inl h
 ·exact .inr ⟨h0,id,h1,h2,by rw [List.getElem?_set_ne (by omega)];exact h3⟩
theorem OwnW.set {st:St} {b m n:Nat} {ty:Option TypeId} {ap:Ap} (h:OwnW st b m ty ap n) {i:Nat} {o:AObj} (hi:i<b):OwnW (st.set i o) b m ty ap n:=by
 rcases h with h | ⟨id,h1,h2,h3⟩
 ·exact .inl h
 ·exact .inr ⟨id,h1,h2,by rw [List.getElem?_set_ne (by omega)];exact h3⟩
def Mine (st:St) (b m:Nat) (es:List AV) (x:AV):Prop :=
 (es=[]∧∃m',x=.lst m' [] .tight)∨(es≠[]∧∃r,x=.sl r m 0 es.length none∧b≤r∧st[r]?=some (.cells none (flat es)))
theorem flat_append:∀(es ys:List AV),flat (es++ys)=flat es++flat ys
 | [],ys=>rfl
 | e::es,ys=>by simp [flat,flat_append es ys]
theorem flat_length {m:Nat}:∀{es:List AV},(∀e∈es,e.cells.length=m)→(flat es).length=es.length * m
 | [],_=>by simp [flat]
 | e::es,h=>by
  rw [flat,List.length_append,h e (by simp),flat_length fun x hx=>h x (by simp [hx]),List.length_cons,Nat.add_mul];omega
theorem low_cells {n:Nat} {v:AV} (h:AV.lowB n v=true):AV.lowsB n v.cells=true:=by
 cases v<;>first | exact h | (simp only [AV.cells,AV.lowsB,Bool.and_true];exact h)
theorem lows_append {n:Nat}:∀{a b:List AV},AV.lowsB n a=true→AV.lowsB n b=true→AV.lowsB n (a++b)=true:=by
 intro a b h g
 rw [lows_iff] at h g ⊢
 intro x hx
 rcases List.mem_append.1 hx with hx | hx
 ·exact h x hx
 ·exact g x hx
theorem flat_low {n:Nat}:∀{es:List AV},AV.lowsB n es=true→AV.lowsB n (flat es)=true
 | [],_=>rfl
 | e::es,h=>by
  simp only [AV.lowsB,Bool.and_eq_true] at h
  exact lows_append (low_cells h.1) (flat_low h.2)
theorem appendM_mine {st:St} {b m bytes:Nat} {es ys:List AV} {x y:AV} (hb:b≤st.length) (h:Mine st b m es x) (hy:elemsOf st m y=some ys) (hne:ys≠[]) (hlen:es.length+ys.length≤great) (hby:bytes≤256)
  (hm:∀e∈es,e.cells.length=m) (hlow:AV.lowsB st.length ys=true) :
  ∃x' st',appendMA m bytes st x y=some (.val x' st')∧Mine st' b m (es++ys) x'∧Grew b st st':=by
 rcases h with ⟨rfl,m',rfl⟩ | ⟨hes,r,rfl,hr,hst⟩
 ·refine ⟨.sl st.length m 0 ys.length none,st++[.cells none (flat ys)],by simp [appendMA,hy,AV.asLst,hne,hby,show ys.length≤great by simpa using hlen],.inr ⟨by simpa using hne,st.length,by simp,hb,by simp⟩,⟨by rw [List.take_append_of_le_length hb],by simp,fun h=>h.snoc ?_⟩⟩
  simp only [AObj.lowB]
  exact AV.lows_le (by omega) _ (flat_low hlow)
 ·have hrl:=(List.getElem?_eq_some_iff.1 hst).1
  refine ⟨.sl st.length m 0 (es.length+ys.length) none,st.set r .dead++[.cells none (flat es++flat ys)],by simp [appendMA,hy,AV.asLst,hst,hne,hby,hlen,flat_length hm],.inr ⟨by simp [hes],st.length,by simp,hb,?_⟩,⟨?_,by simp,fun h=>?_⟩⟩
  ·rw [List.getElem?_append_right (by simp)];simp [flat_append]
  ·rw [List.take_append_of_le_length (by simpa using hb),List.take_set,List.set_eq_of_length_le (by simp;omega)]
  ·have h1:=h.set' (i:=r) (o:=.dead) rfl
   refine h1.snoc ?_
   have h2:=h.get hst
   simp only [AObj.lowB] at h2 ⊢
   rw [List.length_set]
   exact AV.lows_le (by omega) _ (lows_append h2 (flat_low hlow))
section
variable {A:AProg} {fn:FuncId}
theorem round_of_aw2 {st:St} {r:Nat} {F:AFunc} {site:Nat} {ps:List Nat} {env:List AV} {d:Nat} {pend:Option APend} {args:List AV} {asg body:ACode} {env1:Env} {st1:St} {G:Bool→St→Prop}
  (hF:A.fn fn=some F) (hsite:F.sites[site]?=some (asg,body)) (hlen:args.length=ps.length) (hst:st[r]?=some (.loop .ready pend fn site ps env d))
  (hasg:exec (runL A) fn (some r) asg ⟨(ps.zip args).foldl (fun e x=>e.set x.1 x.2) env,[]⟩ st=some ⟨.nrm,⟨env1,[]⟩,st1⟩) (hst1:st1[r]?=some (.loop .ready pend fn site ps env d))
  (h:∀K:PostQ,(∀e2 st2,st2[r]?=some (.loop .busy pend fn site ps env d)→G true (st2.set r (.loop .ready none fn site ps env d))→K .nrm e2 [] st2) →
   (∀e2 st2,st2[r]?=some (.loop .busy pend fn site ps env d)→G false (st2.set r (.loop .done (some .ret) fn site ps env d))→K .ret e2 [] st2) →
   (∀id e2 st2,st2[r]?=some (.loop .busy pend fn site ps env d)→G false (st2.set r (.loop .done (some (.exit id)) fn site ps env d))→K (.exit id) e2 [] st2) →
   AW A fn (some r) body env1 [] (st1.set r (.loop .busy pend fn site ps env d)) K) :
  ∃b st',runL A (.round r args) st=some ⟨.ret,⟨[.bool b],[]⟩,st'⟩∧G b st':=by
 obtain ⟨x,e2,ds2,st2,hx,hds,hst2,hG⟩:=h (fun x e2 ds2 st2=>ds2=[]∧st2[r]?=some (.loop .busy pend fn site ps env d)∧(match x with
   | .nrm=>G true (st2.set r (.loop .ready none fn site ps env d))
   | .ret=>G false (st2.set r (.loop .done (some .ret) fn site ps env d))
   | .exit id=>G false (st2.set r (.loop .done (some (.exit id)) fn site ps env d))
   | .pan _=>False)) (fun _ _ h1 h2=>⟨rfl,h1,h2⟩) (fun _ _ h1 h2=>⟨rfl,h1,h2⟩) (fun _ _ _ h1 h2=>⟨rfl,h1,h2⟩)
 subst hds
 have key:runL A (.round r args) st=roundEnd r (some ⟨x,⟨e2,[]⟩,st2⟩):=by
  rw [runL_eq]
  simp only [layer,roundFn,hst,hF,hsite,hlen,if_true]
  have e1:(ps.zip args).foldl (fun e (x:Nat×AV)=>match x with | (t,a)=>e.set t a) env=(ps.zip args).foldl (fun e x=>e.set x.1 x.2) env:=rfl
  rw [e1,hasg]
  simp only [hst1,hx]
 rw [key]
 simp only [roundEnd,hst2]
 cases x with
 | nrm=>exact ⟨_,_,rfl,hG⟩
 | ret=>exact ⟨_,_,rfl,hG⟩
 | exit id=>exact ⟨_,_,rfl,hG⟩
 | pan v=>exact hG.elim
end
end Go.Proofs.YtgkhmmlemgikjaaGreatDoor.Ai
