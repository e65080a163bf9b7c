/- Part Kw. No condition. -/
import Derived.Test.YtgkhmmlemgikjaaGreatDoorKv
import Derived.Test.YtgkhmmlemgikjaaGreatDoorKr
import Derived.Test.YtgkhmmlemgikjaaGreatDoorKo
import Derived.Test.YtgkhmmlemgikjaaGreatDoorKt
set_option linter.unusedVariables false
set_option linter.unusedSimpArgs false
namespace Go.Proofs.YtgkhmmlemgikjaaGreatDoor
open Go Ai
def TyOk (t:Int):Prop:=t=1∨t=2
def ItmOk (x:It) (a b:Tr):Prop :=
 (x.k=1∧NmOk x.n∧TyOk x.t∧a.Ok true∧b=.nil)∨(x.k=2∧NmOk x.n∧a.Ok true∧b.Ok true)∨(x.k=3∧NmOk x.n∧a.Ok true∧b.Ok true) ∨
 (x.k=4∧NmOk x.n∧TyOk x.t∧a.Ok true∧b=.nil)∨(x.k=5∧NmOk x.n∧a.Ok true∧b.Ok true)∨(x.k=6∧NmOk x.n∧x.ss≠[]∧(∀s∈x.ss,NmOk s)∧a=.nil∧b=.nil) ∨
 (x.k=7∧NmOk x.n∧NmOk x.s∧NmOk x.x∧a=.nil∧b.Ok true)∨(x.k=8∧NmOk x.n∧a=.nil∧b=.nil)
def tyK (t:Int):List Tk:=[Lx.wordT (typeT t)]
def nmK (n:Sx):List Tk:=[Lx.wordT n]
def sgK (c:UInt8):List Tk:=[Lx.sgnT [c]]
def nmsK:List Sx→List Tk
 | []=>[]
 | a::l=>nmK a++l.flatMap fun b=>sgK 44++nmK b
def itmK (x:It) (a b:Tr):List Tk :=
 if x.k=1 then nmK [108,101,116]++(nmK x.n++(sgK 58++(tyK x.t++(sgK 61++(a.tk 0++sgK 59)))))
 else if x.k=2 then nmK [100,101,114]++(nmK x.n++(sgK 61++(a.tk 0++(nmK [105,110,105,116]++(b.tk 0++sgK 59)))))
 else if x.k=3 then nmK [114,101,115,101,116]++(nmK x.n++(nmK [111,110]++(b.tk 0++(sgK 61++(a.tk 0++sgK 59)))))
 else if x.k=4 then nmK [109,101,109]++(nmK x.n++(sgK 58++(tyK x.t++(nmK [105,110,105,116]++(a.tk 0++sgK 59)))))
 else if x.k=5 then nmK [111,110]++(b.tk 0++(nmK [115,101,116]++(nmK x.n++(sgK 61++(a.tk 0++sgK 59)))))
 else if x.k=6 then nmK [109,111,100,101]++(nmK x.n++(sgK 123++(nmsK x.ss++(sgK 125++sgK 59))))
 else if x.k=7 then nmK [102,114,111,109]++(nmK x.n++(sgK 46++(nmK x.s++(nmK [111,110]++(b.tk 0++(nmK [103,111,116,111]++(nmK x.x++sgK 59)))))))
 else nmK [111,117,116]++(nmK x.n++sgK 59)
def pmsK:List Pm→List Tk
 | []=>[]
 | a::l=>nmK a.n++(sgK 58++tyK a.t)++l.flatMap fun b=>sgK 44++(nmK b.n++(sgK 58++tyK b.t))
abbrev ItT:=It×Tr×Tr
structure DcT where
 d:Dc
 its:List ItT
 e:Tr
def kwD (k:Int):Sx:=if k=1 then [102,117,110] else if k=2 then [110,111,100,101] else [104,121,98,114,105,100]
def itsK (l:List ItT):List Tk:=l.flatMap fun y=>itmK y.1 y.2.1 y.2.2
def dclK (y:DcT):List Tk :=
 nmK (kwD y.d.k)++(nmK y.d.n++(sgK 40++(pmsK y.d.ps++(sgK 41 ++
  (if y.d.k = 1 then sgK 58 ++ (tyK y.d.t ++ (sgK 61 ++ (y.e.tk 0 ++ sgK 59)))
   else if y.d.k=2 then sgK 58++(tyK y.d.t++(sgK 123++(itsK y.its++(nmK [114,101,116,117,114,110]++(y.e.tk 0++(sgK 59++sgK 125))))))
   else sgK 123++(itsK y.its++sgK 125))))))
structure DcT.Ok (y:DcT):Prop where
 k:y.d.k=1∨y.d.k=2∨y.d.k=3
 n:NmOk y.d.n
 ps:∀p∈y.d.ps,NmOk p.n∧TyOk p.t
 t:y.d.k≠3→TyOk y.d.t
 its:∀i∈y.its,ItmOk i.1 i.2.1 i.2.2
 map:y.d.its=y.its.map (·.1)
 no:y.d.k=1→y.its=[]
 e:y.d.k≠3→y.e.Ok true
 e3:y.d.k=3→y.e=.nil
section
open Lx
theorem lx_sign {c:UInt8} (hc:c∈[40,41,123,125,44,59,58,43,42,47,46]):LexAs [c] (sgK c) anyB:=LexAs.sign hc
theorem lx_gap:LexAs [32] [] anyB:=LexAs.gap (.inl rfl)
theorem lx_nl:LexAs [10] [] anyB:=LexAs.gap (.inr rfl)
theorem lx_semi:LexAs [59,10] (sgK 59) anyB:=(lx_sign (c:=59) (by simp)).any lx_nl
theorem lx_eq:LexAs [32,61,32] (sgK 61) anyB:=lx_gap.any ((LexAs.sign1 (q:=cloB) (c:=61) (by simp) (fun d hd=>by rcases clo_cases hd with rfl | rfl | rfl | rfl<;>rfl)).app lx_gap ⟨32,[],rfl,rfl⟩)
theorem lx_colon:LexAs [58,32] (sgK 58) anyB:=(lx_sign (c:=58) (by simp)).any lx_gap
theorem lx_name {n:Sx} (h:NmOk n):LexAs n (nmK n) namB:=LexAs.word h.1
theorem lx_type {t:Int} (h:TyOk t):LexAs (typeT t) (tyK t) namB:=by
 rcases h with rfl | rfl
 ·exact LexAs.word (w:=[102,105,120]) (by decide)
 ·exact LexAs.word (w:=[98,111,111,108]) (by decide)
theorem lx_ex {a:Tr} (h:a.Ok true):LexAs (a.tx 0) (a.tk 0) cloB:=((Tr.lex a).1 h 0).1
theorem gwg {w:Sx} (h:nameB w=true):LexAs ([32]++(w++[32])) (nmK w) anyB:=gap_word_gap h
theorem lx_names:∀(l:List Sx),(∀s∈l,NmOk s)→LexAs ((l.flatMap fun b=>[44,32]++b)++[125]) ((l.flatMap fun b=>sgK 44++nmK b)++sgK 125) anyB∧∃c U,(l.flatMap fun b=>[44,32]++b)++[125]=c::U∧namB c=true
 | [],_=>⟨lx_sign (by simp),125,[],rfl,by decide⟩
 | a::l,h=>by
  obtain ⟨h1,h2⟩:=lx_names l fun s hs=>h s (by simp [hs])
  have h3:=(lx_sign (c:=44) (by simp)).any (lx_gap.any ((lx_name (h a (by simp))).app h1 h2))
  refine ⟨?_,44,_,rfl,by decide⟩
  simp only [List.flatMap_cons,List.append_assoc]
  exact h3
theorem join_flat:∀(a:Sx) (l:List Sx),Lib.join (a::l) [44,32]=a++l.flatMap fun b=>[44,32]++b
 | a,[]=>by simp [Lib.join]
 | a,b::l=>by
  have:=join_flat b l
  simp only [Lib.join,List.intercalate] at this ⊢
  simp [this]
theorem lx_states {l:List Sx} (hl:l≠[]) (h:∀s∈l,NmOk s):LexAs (Lib.join l [44,32]++[125]) (nmsK l++sgK 125) anyB:=by
 cases l with
 | nil=>exact absurd rfl hl
 | cons a l =>
  obtain ⟨h1,h2⟩:=lx_names l fun s hs=>h s (by simp [hs])
  rw [join_flat,nmsK,List.append_assoc,List.append_assoc]
  exact (lx_name (h a (by simp))).app h1 h2
theorem item_lex {E:Int→Sx} {x:It} {a b:Tr} (h:ItmOk x a b) (ha:a.Ok true→E x.e=a.tx 0) (hb:b.Ok true→E x.f=b.tx 0):LexAs (itemT E x) (itmK x a b) anyB:=by
 have g2:LexAs [32,32] [] anyB:=lx_gap.any lx_gap
 show LexAs ([32,32]++(itemB E x++[59,10])) ([]++itmK x a b) anyB
 refine g2.any ?_
 have sp:∀{c:UInt8} {U:Sx},c=32→∃d V,c::U=d::V∧cloB d=true:=fun h=>⟨_,_,rfl,by subst h;rfl⟩
 unfold itemB itmK
 rcases h with ⟨k,n,t,o,_⟩ | ⟨k,n,o,p⟩ | ⟨k,n,o,p⟩ | ⟨k,n,t,o,_⟩ | ⟨k,n,o,p⟩ | ⟨k,n,s1,s2,_⟩ | ⟨k,n,s,x',_,p⟩ | ⟨k,n,_⟩
 ·simp [k,ha o,List.append_assoc,-List.cons_append]
  exact (word_gap (w:=[108,101,116]) (by decide)).any ((lx_name n).app (lx_colon.any ((lx_type t).app (lx_eq.any ((lx_ex o).app lx_semi ⟨59,_,rfl,rfl⟩)) ⟨32,_,rfl,by decide⟩)) ⟨58,_,rfl,by decide⟩)
 ·simp [k,ha o,hb p,List.append_assoc,-List.cons_append]
  exact (word_gap (w:=[100,101,114]) (by decide)).any ((lx_name n).app (lx_eq.any ((lx_ex o).app ((gwg (w:=[105,110,105,116]) (by decide)).any ((lx_ex p).app lx_semi ⟨59,_,rfl,rfl⟩)) ⟨32,_,rfl,rfl⟩)) ⟨32,_,rfl,by decide⟩)
 ·simp [k,ha o,hb p,List.append_assoc,-List.cons_append]
  exact (word_gap (w:=[114,101,115,101,116]) (by decide)).any ((lx_name n).app ((gwg (w:=[111,110]) (by decide)).any ((lx_ex p).app (lx_eq.any ((lx_ex o).app lx_semi ⟨59,_,rfl,rfl⟩)) ⟨32,_,rfl,rfl⟩)) ⟨32,_,rfl,by decide⟩)
 ·simp [k,ha o,List.append_assoc,-List.cons_append]
  exact (word_gap (w:=[109,101,109]) (by decide)).any ((lx_name n).app (lx_colon.any ((lx_type t).app ((gwg (w:=[105,110,105,116]) (by decide)).any ((lx_ex o).app lx_semi ⟨59,_,rfl,rfl⟩)) ⟨32,_,rfl,by decide⟩)) ⟨58,_,rfl,by decide⟩)
 ·simp [k,ha o,hb p,List.append_assoc,-List.cons_append]
  exact (word_gap (w:=[111,110]) (by decide)).any ((lx_ex p).app ((gwg (w:=[115,101,116]) (by decide)).any ((lx_name n).app (lx_eq.any ((lx_ex o).app lx_semi ⟨59,_,rfl,rfl⟩)) ⟨32,_,rfl,by decide⟩)) ⟨32,_,rfl,rfl⟩)
 ·simp [k,List.append_assoc,-List.cons_append]
  have h1:=(lx_states s1 s2).any lx_semi
  rw [List.append_assoc,List.append_assoc] at h1
  exact (word_gap (w:=[109,111,100,101]) (by decide)).any ((lx_name n).app (lx_gap.any ((lx_sign (c:=123) (by simp)).any h1)) ⟨32,_,rfl,by decide⟩)
 ·simp [k,hb p,List.append_assoc,-List.cons_append]
  exact (word_gap (w:=[102,114,111,109]) (by decide)).any ((lx_name n).app ((lx_sign (c:=46) (by simp)).any ((lx_name s).app ((gwg (w:=[111,110]) (by decide)).any ((lx_ex p).app ((gwg (w:=[103,111,116,111]) (by decide)).any ((lx_name x').app lx_semi ⟨59,_,rfl,by decide⟩)) ⟨32,_,rfl,rfl⟩)) ⟨32,_,rfl,by decide⟩)) ⟨46,_,rfl,by decide⟩)
 ·simp [k,List.append_assoc,-List.cons_append]
  exact (word_gap (w:=[111,117,116]) (by decide)).any ((lx_name n).app lx_semi ⟨59,_,rfl,by decide⟩)
theorem items_lex {E:Int→Sx}:∀{l:List ItT},(∀y∈l,ItmOk y.1 y.2.1 y.2.2)→(∀y∈l,(y.2.1.Ok true→E y.1.e=y.2.1.tx 0)∧(y.2.2.Ok true→E y.1.f=y.2.2.tx 0))→LexAs ((l.map (·.1)).flatMap (itemT E)) (itsK l) anyB
 | [],_,_=>LexAs.nil
 | y::l,h,hE=>(item_lex (h y (by simp)) (hE y (by simp)).1 (hE y (by simp)).2).any (items_lex (fun z hz=>h z (by simp [hz])) (fun z hz=>hE z (by simp [hz])))
theorem pm_lex {p:Pm} (h:NmOk p.n∧TyOk p.t):LexAs (pmT p) (nmK p.n++(sgK 58++tyK p.t)) namB:=(lx_name h.1).app (lx_colon.any (lx_type h.2)) ⟨58,_,rfl,by decide⟩
theorem pms_rest:∀{l:List Pm},(∀p∈l,NmOk p.n∧TyOk p.t)→LexAs ((l.flatMap fun b=>[44,32]++pmT b)++[41]) ((l.flatMap fun b=>sgK 44++(nmK b.n++(sgK 58++tyK b.t)))++sgK 41) anyB∧∃c U,(l.flatMap fun b=>[44,32]++pmT b)++[41]=c::U∧namB c=true
 | [],_=>⟨lx_sign (by simp),41,[],rfl,by decide⟩
 | a::l,h=>by
  obtain ⟨h1,h2⟩:=pms_rest (l:=l) fun s hs=>h s (by simp [hs])
  have h3:=(lx_sign (c:=44) (by simp)).any (lx_gap.any ((pm_lex (h a (by simp))).app h1 h2))
  refine ⟨?_,44,_,rfl,by decide⟩
  simp only [List.flatMap_cons,List.append_assoc] at h3 ⊢
  exact h3
theorem pms_lex {l:List Pm} (h:∀p∈l,NmOk p.n∧TyOk p.t):LexAs (pmsT l++[41]) (pmsK l++sgK 41) anyB:=by
 cases l with
 | nil=>exact lx_sign (by simp)
 | cons a l =>
  obtain ⟨h1,h2⟩:=pms_rest (l:=l) fun s hs=>h s (by simp [hs])
  have h3:=(pm_lex (h a (by simp))).app h1 h2
  simp only [pmsT,pmsK,List.append_assoc] at h3 ⊢
  exact h3
theorem decl_lex {E:Int→Sx} {y:DcT} (h:y.Ok) (he:y.e.Ok true→E y.d.e=y.e.tx 0) (hE:∀z∈y.its,(z.2.1.Ok true→E z.1.e=z.2.1.tx 0)∧(z.2.2.Ok true→E z.1.f=z.2.2.tx 0)):LexAs (declT E y.d) (dclK y) anyB:=by
 have hits:=items_lex h.its hE
 rw [←h.map] at hits
 have hp:=pms_lex h.ps
 have brace:LexAs [32,123,10] (sgK 123) anyB:=lx_gap.any ((lx_sign (c:=123) (by simp)).any lx_nl)
 have close:LexAs [125,10] (sgK 125) anyB:=(lx_sign (c:=125) (by simp)).any lx_nl
 have kw:∀k:Int,nameB (kwD k)=true:=by
  intro k;unfold kwD;repeat' split
  all_goals decide
 have head:∀{T:Sx} {K:List Tk},LexAs T K anyB→LexAs (kwD y.d.k++([32]++(y.d.n++([40]++(pmsT y.d.ps++([41]++T)))))) (nmK (kwD y.d.k)++(nmK y.d.n++(sgK 40++(pmsK y.d.ps++(sgK 41++K))))) anyB:=by
  intro T K hT
  have h1:=hp.any hT
  rw [List.append_assoc,List.append_assoc] at h1
  have h2:=(word_gap (kw y.d.k)).any ((lx_name h.n).app ((lx_sign (c:=40) (by simp)).any h1) ⟨40,_,rfl,by decide⟩)
  rw [List.append_assoc] at h2
  exact h2
 unfold declT dclK
 refine head ?_
 rcases h.k with k | k | k
 ·rw [if_pos k,if_pos k]
  have o:=h.e (by rw [k];decide)
  rw [he o]
  exact lx_colon.any ((lx_type (h.t (by rw [k];decide))).app (lx_eq.any ((lx_ex o).app lx_semi ⟨59,_,rfl,rfl⟩)) ⟨32,_,rfl,by decide⟩)
 ·have k1:¬y.d.k=1:=by rw [k];decide
  rw [if_neg k1,if_neg k1,if_pos k,if_pos k]
  have o:=h.e (by rw [k];decide)
  rw [he o]
  have ret:LexAs [32,32,114,101,116,117,114,110,32] (nmK [114,101,116,117,114,110]) anyB:=lx_gap.any (gwg (w:=[114,101,116,117,114,110]) (by decide))
  exact lx_colon.any ((lx_type (h.t (by rw [k];decide))).app (brace.any (hits.any (ret.any ((lx_ex o).app (lx_semi.any close) ⟨59,_,rfl,rfl⟩)))) ⟨32,_,rfl,by decide⟩)
 ·have k1:¬y.d.k=1:=by rw [k];decide
  have k2:¬y.d.k=2:=by rw [k];decide
  rw [if_neg k1,if_neg k1,if_neg k2,if_neg k2]
  exact brace.any (hits.any close)
theorem decls_lex {E:Int→Sx}:∀{l:List DcT},(∀y∈l,y.Ok)→(∀y∈l,(y.e.Ok true→E y.d.e=y.e.tx 0)∧∀z∈y.its,(z.2.1.Ok true→E z.1.e=z.2.1.tx 0)∧(z.2.2.Ok true→E z.1.f=z.2.2.tx 0))→LexAs ((l.map DcT.d).flatMap (declT E)) (l.flatMap dclK) anyB
 | [],_,_=>LexAs.nil
 | y::l,h,hE=>(decl_lex (h y (by simp)) (hE y (by simp)).1 (hE y (by simp)).2).any (decls_lex (fun z hz=>h z (by simp [hz])) (fun z hz=>hE z (by simp [hz])))
end
end Go.Proofs.YtgkhmmlemgikjaaGreatDoor
namespace Go.Proofs.YtgkhmmlemgikjaaGreatDoor
open Go Ai
def itFlat (y:ItT) (n:Nat):List Ex:=if y.1.k=3∨y.1.k=5 then y.2.2.flat n++y.2.1.flat (n+y.2.2.size) else y.2.1.flat n++y.2.2.flat (n+y.2.1.size)
def itIdx (y:ItT) (n:Nat):Prop:=(y.2.1.Ok true→y.1.e=rtN (if y.1.k=3∨y.1.k=5 then n+y.2.2.size else n) y.2.1.size)∧(y.2.2.Ok true→y.1.f=rtN (if y.1.k=3∨y.1.k=5 then n else n+y.2.1.size) y.2.2.size)
def itNeed (y:ItT):Prop:=(y.2.1.Ok true→y.2.1.need 0≤30)∧(y.2.2.Ok true→y.2.2.need 0≤30)
structure MadeI (y:ItT) (R:Rd) (x:It) (R':Rd):Prop where
 ok:ItmOk y.1 y.2.1 y.2.2
 it:y.1=x
 xs:R'.xs.map Ex.z=R.xs.map Ex.z++itFlat y R.xs.length
 idx:itIdx y R.xs.length
 len:(itmK y.1 y.2.1 y.2.2).length+R.i≤R'.i
 need:itNeed y
 c:R'.c=0
section
variable {L:List Tk} {R X Y:Rd}
theorem want_eq {w:Sx} (e:wantR L w X=Y) (h:Y.c=0):Y.i=X.i+1∧Y.xs=X.xs∧X.c=0:=by
 subst e
 obtain ⟨h1,h2⟩:=want_ok h
 rw [h1]
 exact ⟨rfl,rfl,h2⟩
theorem name_eq (hL:LexOk L) {q:Sx×Rd} (e:nameR L X=q) (h:q.2.c=0):q.2.i=X.i+1∧q.2.xs=X.xs∧X.c=0∧NmOk q.1:=by
 subst e
 obtain ⟨h1,h2,h3⟩:=nameR_ok hL h
 rw [h1]
 exact ⟨rfl,rfl,h2,h3⟩
theorem kind_eq {q:Int×Rd} (e:kindR L X=q) (h:q.2.c=0):q.2.i=X.i+1∧q.2.xs=X.xs∧X.c=0∧TyOk q.1:=by
 subst e
 unfold kindR at h ⊢
 split
 ·rename_i hw
  exact ⟨rfl,rfl,isR_c hw,.inr rfl⟩
 ·rename_i hw
  rw [if_neg hw] at h
  obtain ⟨h1,h2⟩:=want_ok h
  exact ⟨by show (wantR L _ X).i=_;rw [h1];rfl,by show (wantR L _ X).xs=_;rw [h1];rfl,h2,.inl rfl⟩
theorem ex_eq (hL:LexOk L) {q:Int×Rd} (e:exprF L X=q) (h:q.2.c=0):X.c=0∧∃t,Made t 0 30 X q:=by
 subst e
 have hc:=((Step.ep (L:=L) 30).1 X).c h
 exact ⟨hc,made_exprF hL X hc h⟩
theorem sts_eq (hL:LexOk L):∀(m:Nat) (l:List Sx) (X:Rd) {q:List Sx×Rd},stsF L m l X=q→q.2.c=0→X.c=0∧q.2.xs=X.xs∧∃tl,q.1=l++tl∧(∀s∈tl,NmOk s)∧(tl.flatMap fun b=>sgK 44++nmK b).length+X.i≤q.2.i
 | 0,l,X,q,e,h=>by subst e;exact ⟨h,rfl,[],by simp [stsF],by simp,by simp [stsF]⟩
 | m+1,l,X,q,e,h=>by
  subst e
  simp only [stsF] at h ⊢
  split at h
  ·rename_i hw
   rw [if_pos hw]
   obtain ⟨h1,h2,tl,h3,h4,h5⟩:=sts_eq hL m _ _ rfl h
   obtain ⟨g1,g2,g3,g4⟩:=name_eq hL rfl h1
   refine ⟨isR_c hw,by rw [h2,g2];rfl,(nameR L X.adv).1::tl,by rw [h3];simp,fun s hs=>?_,?_⟩
   ·rw [List.mem_cons] at hs
    rcases hs with rfl | hs
    ·exact g4
    ·exact h4 s hs
   ·rw [adv_i] at g1
    simp only [List.flatMap_cons,List.length_append,sgK,nmK,List.length_cons,List.length_nil] at h5 ⊢;omega
  ·rename_i hw
   rw [if_neg hw]
   exact ⟨h,rfl,[],by simp,by simp,by simp⟩
theorem nms_len {a:Sx} {l:List Sx}:(nmsK (a::l)).length=1+(l.flatMap fun b=>sgK 44++nmK b).length:=by simp [nmsK,nmK];omega
theorem itm_1 (hL:LexOk L) (h:(wantR L [59] (exprF L (wantR L [61] (kindR L (wantR L [58] (nameR L R.adv).2)).2)).2).c=0):∃y,MadeI y R ⟨1,(nameR L R.adv).1,(kindR L (wantR L [58] (nameR L R.adv).2)).1,(exprF L (wantR L [61] (kindR L (wantR L [58] (nameR L R.adv).2)).2)).1,0,[],.tight,[],[],posF L R⟩ (wantR L [59] (exprF L (wantR L [61] (kindR L (wantR L [58] (nameR L R.adv).2)).2)).2):=by
 generalize hq0:nameR L R.adv=q0 at h ⊢
 generalize hq1:wantR L [58] q0.2=q1 at h ⊢
 generalize hq2:kindR L q1=q2 at h ⊢
 generalize hq3:wantR L [61] q2.2=q3 at h ⊢
 generalize hq4:exprF L q3=q4 at h ⊢
 generalize hq5:wantR L [59] q4.2=q5 at h ⊢
 obtain ⟨i5,x5,c5⟩:=want_eq hq5 h
 obtain ⟨c4,a,ma⟩:=ex_eq hL hq4 c5
 obtain ⟨i3,x3,c3⟩:=want_eq hq3 c4
 obtain ⟨i2,x2,c2,o2⟩:=kind_eq hq2 c3
 obtain ⟨i1,x1,c1⟩:=want_eq hq1 c2
 obtain ⟨i0,x0,c0,o0⟩:=name_eq hL hq0 c1
 have xa:=ma.xs
 have ra:=ma.rt
 have la:=ma.len
 have na:=ma.need
 simp only [adv_i] at i0
 rw [x3,x2,x1,x0,adv_xs] at xa ra
 refine ⟨(⟨1,q0.1,q2.1,q4.1,0,[],.tight,[],[],posF L R⟩,a,.nil),.inl ⟨rfl,o0,o2,ma.ok,rfl⟩,rfl,?_,⟨?_,?_⟩,?_,⟨?_,?_⟩,h⟩
 ·rw [x5,xa];simp [itFlat,Tr.flat,Tr.size]
 ·exact fun _=>by simpa [Tr.size] using ra
 ·exact fun h=>by simp [Tr.Ok] at h
 ·simp [itmK,nmK,sgK,tyK];omega
 ·exact fun _=>na
 ·exact fun h=>by simp [Tr.Ok] at h
theorem itm_2 (hL:LexOk L) (h:(wantR L [59] (exprF L (wantR L [105,110,105,116] (exprF L (wantR L [61] (nameR L R.adv).2)).2)).2).c=0):∃y,MadeI y R ⟨2,(nameR L R.adv).1,0,(exprF L (wantR L [61] (nameR L R.adv).2)).1,(exprF L (wantR L [105,110,105,116] (exprF L (wantR L [61] (nameR L R.adv).2)).2)).1,[],.tight,[],[],posF L R⟩ (wantR L [59] (exprF L (wantR L [105,110,105,116] (exprF L (wantR L [61] (nameR L R.adv).2)).2)).2):=by
 generalize hq0:nameR L R.adv=q0 at h ⊢
 generalize hq1:wantR L [61] q0.2=q1 at h ⊢
 generalize hq2:exprF L q1=q2 at h ⊢
 generalize hq3:wantR L [105,110,105,116] q2.2=q3 at h ⊢
 generalize hq4:exprF L q3=q4 at h ⊢
 generalize hq5:wantR L [59] q4.2=q5 at h ⊢
 obtain ⟨i5,x5,c5⟩:=want_eq hq5 h
 obtain ⟨c4,b,mb⟩:=ex_eq hL hq4 c5
 obtain ⟨i3,x3,c3⟩:=want_eq hq3 c4
 obtain ⟨c2,a,ma⟩:=ex_eq hL hq2 c3
 obtain ⟨i1,x1,c1⟩:=want_eq hq1 c2
 obtain ⟨i0,x0,c0,o0⟩:=name_eq hL hq0 c1
 have xa:=ma.xs
 have ra:=ma.rt
 have la:=ma.len
 have na:=ma.need
 have xb:=mb.xs
 have rb:=mb.rt
 have lb:=mb.len
 have nb:=mb.need
 simp only [adv_i] at i0
 rw [x1,x0,adv_xs] at xa ra
 rw [x3] at xb rb
 have za:=len_xs xa
 rw [Tr.flat_len] at za
 rw [za] at rb xb
 rw [xa] at xb
 refine ⟨(⟨2,q0.1,0,q2.1,q4.1,[],.tight,[],[],posF L R⟩,a,b),.inr (.inl ⟨rfl,o0,ma.ok,mb.ok⟩),rfl,?_,⟨?_,?_⟩,?_,⟨?_,?_⟩,h⟩
 ·rw [x5,xb];simp [itFlat,Tr.flat,Tr.size]
 ·exact fun _=>by simpa [Tr.size] using ra
 ·exact fun _=>by simpa [Tr.size] using rb
 ·simp [itmK,nmK,sgK,tyK];omega
 ·exact fun _=>na
 ·exact fun _=>nb
theorem itm_3 (hL:LexOk L) (h:(wantR L [59] (exprF L (wantR L [61] (exprF L (wantR L [111,110] (nameR L R.adv).2)).2)).2).c=0):∃y,MadeI y R ⟨3,(nameR L R.adv).1,0,(exprF L (wantR L [61] (exprF L (wantR L [111,110] (nameR L R.adv).2)).2)).1,(exprF L (wantR L [111,110] (nameR L R.adv).2)).1,[],.tight,[],[],posF L R⟩ (wantR L [59] (exprF L (wantR L [61] (exprF L (wantR L [111,110] (nameR L R.adv).2)).2)).2):=by
 generalize hq0:nameR L R.adv=q0 at h ⊢
 generalize hq1:wantR L [111,110] q0.2=q1 at h ⊢
 generalize hq2:exprF L q1=q2 at h ⊢
 generalize hq3:wantR L [61] q2.2=q3 at h ⊢
 generalize hq4:exprF L q3=q4 at h ⊢
 generalize hq5:wantR L [59] q4.2=q5 at h ⊢
 obtain ⟨i5,x5,c5⟩:=want_eq hq5 h
 obtain ⟨c4,a,ma⟩:=ex_eq hL hq4 c5
 obtain ⟨i3,x3,c3⟩:=want_eq hq3 c4
 obtain ⟨c2,b,mb⟩:=ex_eq hL hq2 c3
 obtain ⟨i1,x1,c1⟩:=want_eq hq1 c2
 obtain ⟨i0,x0,c0,o0⟩:=name_eq hL hq0 c1
 have xa:=ma.xs
 have ra:=ma.rt
 have la:=ma.len
 have na:=ma.need
 have xb:=mb.xs
 have rb:=mb.rt
 have lb:=mb.len
 have nb:=mb.need
 simp only [adv_i] at i0
 rw [x1,x0,adv_xs] at xb rb
 rw [x3] at xa ra
 have zb:=len_xs xb
 rw [Tr.flat_len] at zb
 rw [zb] at ra xa
 rw [xb] at xa
 refine ⟨(⟨3,q0.1,0,q4.1,q2.1,[],.tight,[],[],posF L R⟩,a,b),.inr (.inr (.inl ⟨rfl,o0,ma.ok,mb.ok⟩)),rfl,?_,⟨?_,?_⟩,?_,⟨?_,?_⟩,h⟩
 ·rw [x5,xa];simp [itFlat,Tr.flat,Tr.size]
 ·exact fun _=>by simpa [Tr.size] using ra
 ·exact fun _=>by simpa [Tr.size] using rb
 ·simp [itmK,nmK,sgK,tyK];omega
 ·exact fun _=>na
 ·exact fun _=>nb
theorem itm_4 (hL:LexOk L) (h:(wantR L [59] (exprF L (wantR L [105,110,105,116] (kindR L (wantR L [58] (nameR L R.adv).2)).2)).2).c=0):∃y,MadeI y R ⟨4,(nameR L R.adv).1,(kindR L (wantR L [58] (nameR L R.adv).2)).1,(exprF L (wantR L [105,110,105,116] (kindR L (wantR L [58] (nameR L R.adv).2)).2)).1,0,[],.tight,[],[],posF L R⟩ (wantR L [59] (exprF L (wantR L [105,110,105,116] (kindR L (wantR L [58] (nameR L R.adv).2)).2)).2):=by
 generalize hq0:nameR L R.adv=q0 at h ⊢
 generalize hq1:wantR L [58] q0.2=q1 at h ⊢
 generalize hq2:kindR L q1=q2 at h ⊢
 generalize hq3:wantR L [105,110,105,116] q2.2=q3 at h ⊢
 generalize hq4:exprF L q3=q4 at h ⊢
 generalize hq5:wantR L [59] q4.2=q5 at h ⊢
 obtain ⟨i5,x5,c5⟩:=want_eq hq5 h
 obtain ⟨c4,a,ma⟩:=ex_eq hL hq4 c5
 obtain ⟨i3,x3,c3⟩:=want_eq hq3 c4
 obtain ⟨i2,x2,c2,o2⟩:=kind_eq hq2 c3
 obtain ⟨i1,x1,c1⟩:=want_eq hq1 c2
 obtain ⟨i0,x0,c0,o0⟩:=name_eq hL hq0 c1
 have xa:=ma.xs
 have ra:=ma.rt
 have la:=ma.len
 have na:=ma.need
 simp only [adv_i] at i0
 rw [x3,x2,x1,x0,adv_xs] at xa ra
 refine ⟨(⟨4,q0.1,q2.1,q4.1,0,[],.tight,[],[],posF L R⟩,a,.nil),.inr (.inr (.inr (.inl ⟨rfl,o0,o2,ma.ok,rfl⟩))),rfl,?_,⟨?_,?_⟩,?_,⟨?_,?_⟩,h⟩
 ·rw [x5,xa];simp [itFlat,Tr.flat,Tr.size]
 ·exact fun _=>by simpa [Tr.size] using ra
 ·exact fun h=>by simp [Tr.Ok] at h
 ·simp [itmK,nmK,sgK,tyK];omega
 ·exact fun _=>na
 ·exact fun h=>by simp [Tr.Ok] at h
theorem itm_5 (hL:LexOk L) (h:(wantR L [59] (exprF L (wantR L [61] (nameR L (wantR L [115,101,116] (exprF L R.adv).2)).2)).2).c=0):∃y,MadeI y R ⟨5,(nameR L (wantR L [115,101,116] (exprF L R.adv).2)).1,0,(exprF L (wantR L [61] (nameR L (wantR L [115,101,116] (exprF L R.adv).2)).2)).1,(exprF L R.adv).1,[],.tight,[],[],posF L R⟩ (wantR L [59] (exprF L (wantR L [61] (nameR L (wantR L [115,101,116] (exprF L R.adv).2)).2)).2):=by
 generalize hq0:exprF L R.adv=q0 at h ⊢
 generalize hq1:wantR L [115,101,116] q0.2=q1 at h ⊢
 generalize hq2:nameR L q1=q2 at h ⊢
 generalize hq3:wantR L [61] q2.2=q3 at h ⊢
 generalize hq4:exprF L q3=q4 at h ⊢
 generalize hq5:wantR L [59] q4.2=q5 at h ⊢
 obtain ⟨i5,x5,c5⟩:=want_eq hq5 h
 obtain ⟨c4,a,ma⟩:=ex_eq hL hq4 c5
 obtain ⟨i3,x3,c3⟩:=want_eq hq3 c4
 obtain ⟨i2,x2,c2,o2⟩:=name_eq hL hq2 c3
 obtain ⟨i1,x1,c1⟩:=want_eq hq1 c2
 obtain ⟨c0,b,mb⟩:=ex_eq hL hq0 c1
 have xa:=ma.xs
 have ra:=ma.rt
 have la:=ma.len
 have na:=ma.need
 have xb:=mb.xs
 have rb:=mb.rt
 have lb:=mb.len
 have nb:=mb.need
 simp only [adv_i] at lb
 rw [adv_xs] at xb rb
 rw [x3,x2,x1] at xa ra
 have zb:=len_xs xb
 rw [Tr.flat_len] at zb
 rw [zb] at ra xa
 rw [xb] at xa
 refine ⟨(⟨5,q2.1,0,q4.1,q0.1,[],.tight,[],[],posF L R⟩,a,b),.inr (.inr (.inr (.inr (.inl ⟨rfl,o2,ma.ok,mb.ok⟩)))),rfl,?_,⟨?_,?_⟩,?_,⟨?_,?_⟩,h⟩
 ·rw [x5,xa];simp [itFlat,Tr.flat,Tr.size]
 ·exact fun _=>by simpa [Tr.size] using ra
 ·exact fun _=>by simpa [Tr.size] using rb
 ·simp [itmK,nmK,sgK,tyK];omega
 ·exact fun _=>na
 ·exact fun _=>nb
theorem itm_6 (hL:LexOk L) (h:(wantR L [59] (wantR L [125] (stsF L L.length [(nameR L (wantR L [123] (nameR L R.adv).2)).1] (nameR L (wantR L [123] (nameR L R.adv).2)).2).2)).c=0):∃y,MadeI y R ⟨6,(nameR L R.adv).1,0,0,0,(stsF L L.length [(nameR L (wantR L [123] (nameR L R.adv).2)).1] (nameR L (wantR L [123] (nameR L R.adv).2)).2).1,.no,[],[],posF L R⟩ (wantR L [59] (wantR L [125] (stsF L L.length [(nameR L (wantR L [123] (nameR L R.adv).2)).1] (nameR L (wantR L [123] (nameR L R.adv).2)).2).2)):=by
 generalize hq0:nameR L R.adv=q0 at h ⊢
 generalize hq1:wantR L [123] q0.2=q1 at h ⊢
 generalize hq2:nameR L q1=q2 at h ⊢
 generalize hq3:stsF L L.length [q2.1] q2.2=q3 at h ⊢
 generalize hq4:wantR L [125] q3.2=q4 at h ⊢
 generalize hq5:wantR L [59] q4=q5 at h ⊢
 obtain ⟨i5,x5,c5⟩:=want_eq hq5 h
 obtain ⟨i4,x4,c4⟩:=want_eq hq4 c5
 obtain ⟨c3,x3,tl,e3,o3,i3⟩:=sts_eq hL _ _ _ hq3 c4
 obtain ⟨i2,x2,c2,o2⟩:=name_eq hL hq2 c3
 obtain ⟨i1,x1,c1⟩:=want_eq hq1 c2
 obtain ⟨i0,x0,c0,o0⟩:=name_eq hL hq0 c1
 simp only [adv_i] at i0
 refine ⟨(⟨6,q0.1,0,0,0,q3.1,.no,[],[],posF L R⟩,.nil,.nil),.inr (.inr (.inr (.inr (.inr (.inl ⟨rfl,o0,by simp [e3],fun s hs=>by
  simp only [e3,List.mem_append,List.mem_singleton] at hs
  rcases hs with rfl | hs
  ·exact o2
  ·exact o3 s hs,rfl,rfl⟩))))),rfl,?_,⟨?_,?_⟩,?_,⟨?_,?_⟩,h⟩
 ·rw [x5,x4,x3,x2,x1,x0,adv_xs];simp [itFlat,Tr.flat,Tr.size]
 ·exact fun h=>by simp [Tr.Ok] at h
 ·exact fun h=>by simp [Tr.Ok] at h
 ·simp only [e3,List.singleton_append,itmK]
  simp [nms_len,nmK,sgK];simp [nmK,sgK] at i3;omega
 ·exact fun h=>by simp [Tr.Ok] at h
 ·exact fun h=>by simp [Tr.Ok] at h
theorem itm_7 (hL:LexOk L) (h:(wantR L [59] (nameR L (wantR L [103,111,116,111] (exprF L (wantR L [111,110] (nameR L (wantR L [46] (nameR L R.adv).2)).2)).2)).2).c=0):∃y,MadeI y R ⟨7,(nameR L R.adv).1,0,0,(exprF L (wantR L [111,110] (nameR L (wantR L [46] (nameR L R.adv).2)).2)).1,[],.tight,(nameR L (wantR L [46] (nameR L R.adv).2)).1,(nameR L (wantR L [103,111,116,111] (exprF L (wantR L [111,110] (nameR L (wantR L [46] (nameR L R.adv).2)).2)).2)).1,posF L R⟩ (wantR L [59] (nameR L (wantR L [103,111,116,111] (exprF L (wantR L [111,110] (nameR L (wantR L [46] (nameR L R.adv).2)).2)).2)).2):=by
 generalize hq0:nameR L R.adv=q0 at h ⊢
 generalize hq1:wantR L [46] q0.2=q1 at h ⊢
 generalize hq2:nameR L q1=q2 at h ⊢
 generalize hq3:wantR L [111,110] q2.2=q3 at h ⊢
 generalize hq4:exprF L q3=q4 at h ⊢
 generalize hq5:wantR L [103,111,116,111] q4.2=q5 at h ⊢
 generalize hq6:nameR L q5=q6 at h ⊢
 generalize hq7:wantR L [59] q6.2=q7 at h ⊢
 obtain ⟨i7,x7,c7⟩:=want_eq hq7 h
 obtain ⟨i6,x6,c6,o6⟩:=name_eq hL hq6 c7
 obtain ⟨i5,x5,c5⟩:=want_eq hq5 c6
 obtain ⟨c4,b,mb⟩:=ex_eq hL hq4 c5
 obtain ⟨i3,x3,c3⟩:=want_eq hq3 c4
 obtain ⟨i2,x2,c2,o2⟩:=name_eq hL hq2 c3
 obtain ⟨i1,x1,c1⟩:=want_eq hq1 c2
 obtain ⟨i0,x0,c0,o0⟩:=name_eq hL hq0 c1
 have xb:=mb.xs
 have rb:=mb.rt
 have lb:=mb.len
 have nb:=mb.need
 simp only [adv_i] at i0
 rw [x3,x2,x1,x0,adv_xs] at xb rb
 refine ⟨(⟨7,q0.1,0,0,q4.1,[],.tight,q2.1,q6.1,posF L R⟩,.nil,b),.inr (.inr (.inr (.inr (.inr (.inr (.inl ⟨rfl,o0,o2,o6,rfl,mb.ok⟩)))))),rfl,?_,⟨?_,?_⟩,?_,⟨?_,?_⟩,h⟩
 ·rw [x7,x6,x5,xb];simp [itFlat,Tr.flat,Tr.size]
 ·exact fun h=>by simp [Tr.Ok] at h
 ·exact fun _=>by simpa [Tr.size] using rb
 ·simp [itmK,nmK,sgK,tyK];omega
 ·exact fun h=>by simp [Tr.Ok] at h
 ·exact fun _=>nb
theorem itm_8 (hL:LexOk L) (h:(wantR L [59] (nameR L R.adv).2).c=0):∃y,MadeI y R ⟨8,(nameR L R.adv).1,0,0,0,[],.tight,[],[],posF L R⟩ (wantR L [59] (nameR L R.adv).2):=by
 generalize hq0:nameR L R.adv=q0 at h ⊢
 generalize hq1:wantR L [59] q0.2=q1 at h ⊢
 obtain ⟨i1,x1,c1⟩:=want_eq hq1 h
 obtain ⟨i0,x0,c0,o0⟩:=name_eq hL hq0 c1
 simp only [adv_i] at i0
 refine ⟨(⟨8,q0.1,0,0,0,[],.tight,[],[],posF L R⟩,.nil,.nil),.inr (.inr (.inr (.inr (.inr (.inr (.inr ⟨rfl,o0,rfl,rfl⟩)))))),rfl,?_,⟨?_,?_⟩,?_,⟨?_,?_⟩,h⟩
 ·rw [x1,x0,adv_xs];simp [itFlat,Tr.flat,Tr.size]
 ·exact fun h=>by simp [Tr.Ok] at h
 ·exact fun h=>by simp [Tr.Ok] at h
 ·simp [itmK,nmK,sgK,tyK];omega
 ·exact fun h=>by simp [Tr.Ok] at h
 ·exact fun h=>by simp [Tr.Ok] at h
theorem made_item (hL:LexOk L) {all:Bool} (h:(itmF L all R).2.c=0):((itmF L all R).1.2=false∧(itmF L all R).2=R)∨((itmF L all R).1.2=true∧∃y,MadeI y R (itmF L all R).1.1 (itmF L all R).2):=by
 unfold itmF at h ⊢
 simp only [] at h ⊢
 by_cases h1:isR L [108,101,116] R=true
 ·rw [if_pos h1] at h ⊢
  exact .inr ⟨by simpa [finR] using h,itm_1 hL h⟩
 rw [if_neg h1] at h ⊢
 by_cases h2:(all && isR L [100,101,114] R)=true
 ·rw [if_pos h2] at h ⊢
  exact .inr ⟨by simpa [finR] using h,itm_2 hL h⟩
 rw [if_neg h2] at h ⊢
 by_cases h3:(all && isR L [114,101,115,101,116] R)=true
 ·rw [if_pos h3] at h ⊢
  exact .inr ⟨by simpa [finR] using h,itm_3 hL h⟩
 rw [if_neg h3] at h ⊢
 by_cases h4:(all && isR L [109,101,109] R)=true
 ·rw [if_pos h4] at h ⊢
  exact .inr ⟨by simpa [finR] using h,itm_4 hL h⟩
 rw [if_neg h4] at h ⊢
 by_cases h5:(all && isR L [111,110] R)=true
 ·rw [if_pos h5] at h ⊢
  exact .inr ⟨by simpa [finR] using h,itm_5 hL h⟩
 rw [if_neg h5] at h ⊢
 by_cases h6:(all && isR L [109,111,100,101] R)=true
 ·rw [if_pos h6] at h ⊢
  exact .inr ⟨by simpa [finR] using h,itm_6 hL h⟩
 rw [if_neg h6] at h ⊢
 by_cases h7:(all && isR L [102,114,111,109] R)=true
 ·rw [if_pos h7] at h ⊢
  exact .inr ⟨by simpa [finR] using h,itm_7 hL h⟩
 rw [if_neg h7] at h ⊢
 by_cases h8:(all && isR L [111,117,116] R)=true
 ·rw [if_pos h8] at h ⊢
  exact .inr ⟨by simpa [finR] using h,itm_8 hL h⟩
 rw [if_neg h8] at h ⊢
 exact .inl ⟨rfl,rfl⟩
end
end Go.Proofs.YtgkhmmlemgikjaaGreatDoor
namespace Go.Proofs.YtgkhmmlemgikjaaGreatDoor
open Go Ai
def EndOk (L:List Tk):Prop:=∀i,L.length≤i+1→(L.getD i ⟨5,[],0,0⟩).kind=5
def itSize (y:ItT):Nat:=y.2.1.size+y.2.2.size
def itsSize:List ItT→Nat
 | []=>0
 | y::l=>itSize y+itsSize l
def itsFlat:List ItT→Nat→List Ex
 | [],_=>[]
 | y::l,n=>itFlat y n++itsFlat l (n+itSize y)
def itsIdx:List ItT→Nat→Prop
 | [],_=>True
 | y::l,n=>itIdx y n∧itsIdx l (n+itSize y)
def dSize (y:DcT):Nat:=itsSize y.its+y.e.size
def dFlat (y:DcT) (n:Nat):List Ex:=itsFlat y.its n++y.e.flat (n+itsSize y.its)
def dIdx (y:DcT) (n:Nat):Prop:=itsIdx y.its n∧(y.e.Ok true→y.d.e=rtN (n+itsSize y.its) y.e.size)
def dsFlat:List DcT→Nat→List Ex
 | [],_=>[]
 | y::l,n=>dFlat y n++dsFlat l (n+dSize y)
def dsIdx:List DcT→Nat→Prop
 | [],_=>True
 | y::l,n=>dIdx y n∧dsIdx l (n+dSize y)
theorem itFlat_len (y:ItT) (n:Nat):(itFlat y n).length=itSize y:=by
 unfold itFlat itSize
 split<;>simp [Tr.flat_len]
 omega
theorem itsFlat_len:∀(l:List ItT) (n:Nat),(itsFlat l n).length=itsSize l
 | [],_=>rfl
 | y::l,n=>by simp [itsFlat,itsSize,itFlat_len,itsFlat_len l]
theorem dFlat_len (y:DcT) (n:Nat):(dFlat y n).length=dSize y:=by simp [dFlat,dSize,itsFlat_len,Tr.flat_len]
section
variable {L:List Tk} {R X Y:Rd}
theorem end_lt (hE:EndOk L) (h:(tkF L X).kind≠5):X.i+1<L.length:=Classical.byContradiction fun hn=>h (hE _ (by omega))
theorem is_kind {w:Sx} (h:isR L w X=true):(tkF L X).kind≠5:=by
 unfold isR at h
 simp only [Bool.and_eq_true,Bool.or_eq_true,decide_eq_true_eq] at h
 rcases h.2.1 with h | h<;>omega
theorem pms_eq (hL:LexOk L) (hE:EndOk L):∀(m:Nat) (l:List Pm) (X:Rd) {q:List Pm×Rd},pmsF L m l X=q→q.2.c=0→X.i<L.length→L.length≤m+X.i→X.c=0∧q.2.xs=X.xs∧∃ps,ps≠[]∧q.1=l++ps∧(∀p∈ps,NmOk p.n∧TyOk p.t)∧4 * ps.length+X.i≤q.2.i
 | 0,l,X,q,e,h,h1,h2=>by omega
 | m+1,l,X,q,e,h,h1,h2=>by
  subst e
  by_cases hc:X.c=0
  ·simp only [pmsF,hc,if_true] at h ⊢
   generalize hq0:nameR L X=q0 at h ⊢
   generalize hq1:wantR L [58] q0.2=q1 at h ⊢
   generalize hq2:kindR L q1=q2 at h ⊢
   split at h
   ·rename_i hw
    rw [if_pos hw]
    have hlt:=end_lt hE (is_kind hw)
    have c2:=isR_c hw
    obtain ⟨i2,x2,c1,o2⟩:=kind_eq hq2 c2
    obtain ⟨i1,x1,c0⟩:=want_eq hq1 c1
    obtain ⟨i0,x0,_,o0⟩:=name_eq hL hq0 c0
    obtain ⟨_,g2,ps,g3,g4,g5,g6⟩:=pms_eq hL hE m _ q2.2.adv rfl h (by rw [adv_i];exact hlt) (by rw [adv_i];omega)
    refine ⟨trivial,by rw [g2,adv_xs,x2,x1,x0],⟨q0.1,q2.1⟩::ps,by simp,by rw [g4];simp,fun p hp=>?_,?_⟩
    ·rw [List.mem_cons] at hp
     rcases hp with rfl | hp
     ·exact ⟨o0,o2⟩
     ·exact g5 p hp
    ·rw [adv_i] at g6
     simp only [List.length_cons];omega
   ·rename_i hw
    rw [if_neg hw]
    generalize hq3:wantR L [41] q2.2=q3 at h ⊢
    obtain ⟨i3,x3,c2⟩:=want_eq hq3 h
    obtain ⟨i2,x2,c1,o2⟩:=kind_eq hq2 c2
    obtain ⟨i1,x1,c0⟩:=want_eq hq1 c1
    obtain ⟨i0,x0,_,o0⟩:=name_eq hL hq0 c0
    refine ⟨trivial,by rw [x3,x2,x1,x0],[⟨q0.1,q2.1⟩],by simp,rfl,fun p hp=>?_,?_⟩
    ·rw [List.mem_singleton] at hp
     subst hp;exact ⟨o0,o2⟩
    ·simp only [List.length_cons,List.length_nil];omega
  ·simp only [pmsF,if_neg hc] at h
   exact absurd h hc
theorem pms_lnX:∀{l:List Pm},l≠[]→(pmsK l).length+1=4 * l.length
 | [],h=>absurd rfl h
 | a::l,_=>by
  have:∀l:List Pm,(l.flatMap fun b=>sgK 44++(nmK b.n++(sgK 58++tyK b.t))).length=4 * l.length:=by
   intro l
   induction l with
   | nil=>rfl
   | cons a l ih=>simp only [List.flatMap_cons,List.length_append,ih];simp [sgK,nmK,tyK];omega
  simp only [pmsK,List.length_append,this]
  simp [sgK,nmK,tyK];omega
theorem params_eq (hL:LexOk L) (hE:EndOk L) {q:List Pm×Rd} (e:paramsF L X=q) (h:q.2.c=0):X.c=0∧q.2.xs=X.xs∧(∀p∈q.1,NmOk p.n∧TyOk p.t)∧(pmsK q.1).length+2+X.i≤q.2.i:=by
 subst e
 unfold paramsF at h ⊢
 generalize hq0:wantR L [40] X=q0 at h ⊢
 split at h
 ·rename_i hw
  rw [if_pos hw]
  obtain ⟨i0,x0,c0⟩:=want_eq hq0 (isR_c hw)
  exact ⟨c0,x0,by simp,by simp [pmsK,Rd.adv];omega⟩
 ·rename_i hw
  rw [if_neg hw]
  have hc:q0.c=0:=Classical.byContradiction fun hn=>by
   cases hl:L.length with
   | zero=>rw [hl] at h;exact hn h
   | succ n=>rw [hl] at h;simp only [pmsF,if_neg hn] at h;contradiction
  obtain ⟨i0,x0,c0⟩:=want_eq hq0 hc
  have hlt:X.i+1<L.length:=by
   refine end_lt hE (is_kind (w:=[40]) ?_)
   refine Classical.byContradiction fun hn=>?_
   rw [←hq0,wantR,if_neg hn] at hc
   simp [failR,c0] at hc
  obtain ⟨_,g2,ps,g3,g4,g5,g6⟩:=pms_eq hL hE _ _ q0 rfl h (by omega) (by omega)
  rw [List.nil_append] at g4
  refine ⟨c0,by rw [g2,x0],by rw [g4];exact g5,?_⟩
  have:=pms_lnX g3
  rw [g4];omega
theorem made_items (hL:LexOk L) {all:Bool}:∀(m:Nat) (l:List It) (R:Rd) {q:List It×Rd},itsF L all m l R=q→q.2.c=0→R.c=0∧∃ys:List ItT,q.1=l++ys.map (·.1)∧(∀y∈ys,ItmOk y.1 y.2.1 y.2.2∧itNeed y)∧q.2.xs.map Ex.z=R.xs.map Ex.z++itsFlat ys R.xs.length∧itsIdx ys R.xs.length∧(itsK ys).length+R.i≤q.2.i
 | 0,l,R,q,e,h=>by subst e;exact ⟨h,[],by simp [itsF],by simp,by simp [itsF,itsFlat],trivial,by simp [itsF,itsK]⟩
 | m+1,l,R,q,e,h=>by
  subst e
  by_cases hc:R.c=0
  ·simp only [itsF,hc,if_true] at h ⊢
   split at h
   ·rename_i hw
    rw [if_pos hw]
    obtain ⟨c1,ys,g1,g2,g3,g4,g5⟩:=made_items hL m _ _ rfl h
    rcases made_item hL c1 with ⟨h1,_⟩ | ⟨_,y,hy⟩
    ·rw [h1] at hw;cases hw
    ·have hlen:=len_xs hy.xs
     rw [itFlat_len] at hlen
     rw [hlen] at g3 g4
     refine ⟨trivial,y::ys,?_,fun z hz=>?_,?_,⟨hy.idx,g4⟩,?_⟩
     ·rw [g1,←hy.it];simp
     ·rw [List.mem_cons] at hz
      rcases hz with rfl | hz
      ·exact ⟨hy.ok,hy.need⟩
      ·exact g2 z hz
     ·rw [g3,hy.xs];simp [itsFlat]
     ·have:=hy.len
      simp only [itsK,List.flatMap_cons,List.length_append] at g5 ⊢;omega
   ·rename_i hw
    rw [if_neg hw]
    rcases made_item hL h with ⟨_,h2⟩ | ⟨h1,_⟩
    ·exact ⟨trivial,[],by simp,by simp,by simp [h2,itsFlat],trivial,by simp [h2,itsK]⟩
    ·exact absurd h1 hw
  ·simp only [itsF,if_neg hc] at h
   exact absurd h hc
structure MadeD (y:DcT) (R:Rd) (d:Dc) (R':Rd):Prop where
 ok:y.Ok
 d:y.d=d
 xs:R'.xs.map Ex.z=R.xs.map Ex.z++dFlat y R.xs.length
 idx:dIdx y R.xs.length
 len:(dclK y).length+R.i≤R'.i+1
 need:(∀z∈y.its,itNeed z)∧(y.e.Ok true→y.e.need 0≤30)
theorem made_declB (hL:LexOk L) (hE:EndOk L) {k p:Int} (hk:k=1∨k=2∨k=3) (h:(declB L k p R).2.c=0):R.c=0∧∃y,MadeD y R (declB L k p R).1 (declB L k p R).2:=by
 unfold declB at h ⊢
 simp only [] at h ⊢
 generalize hq0:nameR L R=q0 at h ⊢
 generalize hq1:paramsF L q0.2=q1 at h ⊢
 rcases hk with rfl | rfl | rfl
 ·rw [if_neg (by decide),if_pos rfl] at h ⊢
  generalize hq2:wantR L [58] q1.2=q2 at h ⊢
  generalize hq3:kindR L q2=q3 at h ⊢
  generalize hq4:wantR L [61] q3.2=q4 at h ⊢
  generalize hq5:exprF L q4=q5 at h ⊢
  generalize hq6:wantR L [59] q5.2=q6 at h ⊢
  obtain ⟨i6,x6,c5⟩:=want_eq hq6 h
  obtain ⟨c4,a,ma⟩:=ex_eq hL hq5 c5
  obtain ⟨i4,x4,c3⟩:=want_eq hq4 c4
  obtain ⟨i3,x3,c2,o3⟩:=kind_eq hq3 c3
  obtain ⟨i2,x2,c1⟩:=want_eq hq2 c2
  obtain ⟨c0,x1,o1,i1⟩:=params_eq hL hE hq1 c1
  obtain ⟨i0,x0,c,o0⟩:=name_eq hL hq0 c0
  have xa:=ma.xs
  have ra:=ma.rt
  have la:=ma.len
  rw [x4,x3,x2,x1,x0] at xa ra
  refine ⟨c,⟨⟨1,q0.1,q1.1,endAp q1.1.length,[],.tight,q3.1,q5.1,p⟩,[],a⟩,⟨.inl rfl,o0,o1,fun _=>o3,by simp,rfl,fun _=>rfl,fun _=>ma.ok,fun h=>by cases h⟩,rfl,?_,⟨trivial,fun _=>by simpa [itsSize] using ra⟩,?_,by simp,fun _=>ma.need⟩
  ·rw [x6,xa];simp [dFlat,itsFlat,itsSize]
  ·simp [dclK,nmK,sgK,tyK];omega
 ·rw [if_neg (by decide),if_neg (by decide)] at h ⊢
  generalize hq2:wantR L [58] q1.2=q2 at h ⊢
  generalize hq3:kindR L q2=q3 at h ⊢
  generalize hq4:wantR L [123] q3.2=q4 at h ⊢
  generalize hq5:itsF L false L.length [] q4=q5 at h ⊢
  generalize hq6:wantR L [114,101,116,117,114,110] q5.2=q6 at h ⊢
  generalize hq7:exprF L q6=q7 at h ⊢
  generalize hq8:wantR L [59] q7.2=q8 at h ⊢
  generalize hq9:wantR L [125] q8=q9 at h ⊢
  obtain ⟨i9,x9,c8⟩:=want_eq hq9 h
  obtain ⟨i8,x8,c7⟩:=want_eq hq8 c8
  obtain ⟨c6,a,ma⟩:=ex_eq hL hq7 c7
  obtain ⟨i6,x6,c5⟩:=want_eq hq6 c6
  obtain ⟨c4,ys,g1,g2,g3,g4,g5⟩:=made_items hL _ _ _ hq5 c5
  obtain ⟨i4,x4,c3⟩:=want_eq hq4 c4
  obtain ⟨i3,x3,c2,o3⟩:=kind_eq hq3 c3
  obtain ⟨i2,x2,c1⟩:=want_eq hq2 c2
  obtain ⟨c0,x1,o1,i1⟩:=params_eq hL hE hq1 c1
  obtain ⟨i0,x0,c,o0⟩:=name_eq hL hq0 c0
  have xa:=ma.xs
  have ra:=ma.rt
  have la:=ma.len
  rw [x4,x3,x2,x1,x0] at g3 g4
  have z1:=len_xs g3
  rw [itsFlat_len] at z1
  rw [x6,z1] at xa ra
  rw [g3] at xa
  rw [List.nil_append] at g1
  refine ⟨c,⟨⟨2,q0.1,q1.1,endAp q1.1.length,q5.1,endAp q5.1.length,q3.1,q7.1,p⟩,ys,a⟩,⟨.inr (.inl rfl),o0,o1,fun _=>o3,fun i hi=>(g2 i hi).1,g1,(fun h=>by cases h),fun _=>ma.ok,fun h=>by cases h⟩,rfl,?_,⟨g4,fun _=>ra⟩,?_,fun z hz=>(g2 z hz).2,fun _=>ma.need⟩
  ·rw [x9,x8,xa];simp [dFlat]
  ·simp [dclK,nmK,sgK,tyK];omega
 ·rw [if_pos rfl] at h ⊢
  generalize hq4:wantR L [123] q1.2=q4 at h ⊢
  generalize hq5:itsF L true L.length [] q4=q5 at h ⊢
  generalize hq6:wantR L [125] q5.2=q6 at h ⊢
  obtain ⟨i6,x6,c5⟩:=want_eq hq6 h
  obtain ⟨c4,ys,g1,g2,g3,g4,g5⟩:=made_items hL _ _ _ hq5 c5
  obtain ⟨i4,x4,c1⟩:=want_eq hq4 c4
  obtain ⟨c0,x1,o1,i1⟩:=params_eq hL hE hq1 c1
  obtain ⟨i0,x0,c,o0⟩:=name_eq hL hq0 c0
  rw [x4,x1,x0] at g3 g4
  rw [List.nil_append] at g1
  refine ⟨c,⟨⟨3,q0.1,q1.1,endAp q1.1.length,q5.1,endAp q5.1.length,0,0,p⟩,ys,.nil⟩,⟨.inr (.inr rfl),o0,o1,fun h=>absurd rfl h,fun i hi=>(g2 i hi).1,g1,(fun h=>by cases h),fun h=>absurd rfl h,fun _=>rfl⟩,rfl,?_,⟨g4,fun h=>by simp [Tr.Ok] at h⟩,?_,fun z hz=>(g2 z hz).2,fun h=>by simp [Tr.Ok] at h⟩
  ·rw [x6,g3];simp [dFlat,Tr.flat]
  ·simp [dclK,nmK,sgK];omega
theorem made_decl (hL:LexOk L) (hE:EndOk L) (h:(dclF L R).2.c=0):R.c=0∧∃y,MadeD y R.adv (dclF L R).1 (dclF L R).2:=by
 unfold dclF at h ⊢
 by_cases h1:isR L [102,117,110] R=true
 ·rw [if_pos h1] at h ⊢
  exact ⟨isR_c h1,(made_declB hL hE (.inl rfl) h).2⟩
 rw [if_neg h1] at h ⊢
 by_cases h2:isR L [110,111,100,101] R=true
 ·rw [if_pos h2] at h ⊢
  exact ⟨isR_c h2,(made_declB hL hE (.inr (.inl rfl)) h).2⟩
 rw [if_neg h2] at h ⊢
 obtain ⟨c1,hy⟩:=made_declB hL hE (.inr (.inr rfl)) h
 obtain ⟨w1,c2⟩:=want_ok c1
 rw [w1] at hy ⊢
 exact ⟨c2,hy⟩
theorem made_decls (hL:LexOk L) (hE:EndOk L):∀(m:Nat) (l:List Dc) (R:Rd) {q:List Dc×Rd},dclsF L m l R=q→q.2.c=0→R.c=0∧∃ys:List DcT,q.1=l++ys.map DcT.d∧(∀y∈ys,y.Ok∧(∀z∈y.its,itNeed z)∧(y.e.Ok true→y.e.need 0≤30))∧q.2.xs.map Ex.z=R.xs.map Ex.z++dsFlat ys R.xs.length∧dsIdx ys R.xs.length∧(ys.flatMap dclK).length+R.i≤q.2.i
 | 0,l,R,q,e,h=>by subst e;exact ⟨h,[],by simp [dclsF],by simp,by simp [dclsF,dsFlat],trivial,by simp [dclsF]⟩
 | m+1,l,R,q,e,h=>by
  subst e
  by_cases hc:R.c=0∧(tkF L R).kind≠5
  ·simp only [dclsF,if_pos hc] at h ⊢
   obtain ⟨c1,ys,g1,g2,g3,g4,g5⟩:=made_decls hL hE m _ _ rfl h
   obtain ⟨_,y,hy⟩:=made_decl hL hE c1
   have hx:=hy.xs
   have hi:=hy.idx
   have hl:=hy.len
   rw [adv_xs] at hx hi
   rw [adv_i] at hl
   have hlen:=len_xs hx
   rw [dFlat_len] at hlen
   rw [hlen] at g3 g4
   refine ⟨hc.1,y::ys,?_,fun z hz=>?_,?_,⟨hi,g4⟩,?_⟩
   ·rw [g1,←hy.d];simp
   ·rw [List.mem_cons] at hz
    rcases hz with rfl | hz
    ·exact ⟨hy.ok,hy.need⟩
    ·exact g2 z hz
   ·rw [g3,hx];simp [dsFlat]
   ·simp only [List.flatMap_cons,List.length_append];omega
  ·simp only [dclsF,if_neg hc] at h ⊢
   exact ⟨h,[],by simp,by simp,by simp [dsFlat],trivial,by simp⟩
end
end Go.Proofs.YtgkhmmlemgikjaaGreatDoor
namespace Go.Proofs.YtgkhmmlemgikjaaGreatDoor.Lx
open Go Ai Go.Proofs.YtgkhmmlemgikjaaGreatDoor
theorem tok_ok {c:UInt8} {r:List UInt8} {p:Nat} {x:Tok} (h:tokOf (c::r) p=(x,true)):(x.kind=1→NmOk x.text)∧(x.kind=2→0≤x.v∧x.v≤9223372036854775807):=by
 rw [tokOf_cons] at h
 split at h
 ·rename_i hc
  simp only [Prod.mk.injEq,decide_eq_true_eq] at h
  obtain ⟨rfl,hl⟩:=h
  refine ⟨fun hk=>?_,fun hk=>?_⟩
  ·simp only at hk ⊢
   have hw:wordB ((c::r).takeWhile innB)=false:=by
    cases hb:wordB ((c::r).takeWhile innB) with
    | false=>rfl
    | true=>rw [hb] at hk;cases hk
   refine ⟨?_,hw⟩
   have hall:((c::r).takeWhile innB).all innB=true:=List.all_eq_true.2 takeWhile_all
   have hcons:(c::r).takeWhile innB=c::r.takeWhile innB:=by rw [List.takeWhile_cons,if_pos (by simp [innB,hc])]
   rw [hcons] at hall hl ⊢
   simp only [nameB,hc,hall,Bool.true_and,decide_eq_true_eq];exact hl
  ·simp only at hk
   split at hk<;>cases hk
 ·split at h
  ·simp only [Prod.mk.injEq] at h
   obtain ⟨rfl,hv⟩:=h
   refine ⟨(fun hk=>by cases hk),fun _=>?_⟩
   simp only
   unfold valP at hv ⊢
   split at hv
   ·cases hv
   ·split at hv
    ·cases hv
    ·rename_i hp hs
     rw [if_neg hs]
     simp only;omega
  ·simp only [Prod.mk.injEq] at h
   obtain ⟨rfl,_⟩:=h
   exact ⟨(fun hk=>by cases hk),fun hk=>by cases hk⟩
theorem lexK_good:∀(n:Nat) (l:List UInt8),l.length≤n→∀p ts,lexK l p=.ok ts→LexOk ts
 | n,l,hn,p,ts,h=>by
  rcases lexK_cases l p with ⟨h1,h2⟩ | ⟨c,r,hd,hlt,⟨h1,h2⟩ | ⟨x,h1,h2,h3⟩⟩
  ·rw [h2] at h;cases h
   intro t ht
   rw [List.mem_singleton] at ht
   subst ht
   exact ⟨(fun hk=>by cases hk),fun hk=>by cases hk⟩
  ·rw [h2] at h;cases h
  ·rw [h3] at h
   obtain ⟨us,hu,rfl⟩:=map_ok h
   have hlen:=congrArg List.length hd
   simp only [List.length_drop] at hlen
   have hx:=tokOf_le h1
   cases n with
   | zero=>omega
   | succ n =>
    have ih:=lexK_good n _ (by simp only [List.length_drop];simp at hlen hx ⊢;omega) _ us hu
    intro t ht
    rw [List.mem_cons] at ht
    rcases ht with rfl | ht
    ·exact tok_ok h1
    ·exact ih t ht
theorem lexK_ends {l:List UInt8} {ts:List Tok} (h:lexK l 0=.ok ts):EndOk ts∧0<ts.length:=by
 obtain ⟨us,rfl,_⟩:=lexK_end _ _ (Nat.le_refl _) 0 ts h
 refine ⟨fun i hi=>?_,by simp⟩
 rw [List.length_append,List.length_singleton] at hi
 rw [List.getD_eq_getElem?_getD]
 rcases Nat.lt_or_ge us.length i with h1 | h1
 ·rw [List.getElem?_eq_none (by simp;omega)];rfl
 ·obtain rfl:i=us.length:=by omega
  simp
end Go.Proofs.YtgkhmmlemgikjaaGreatDoor.Lx
namespace Go.Proofs.YtgkhmmlemgikjaaGreatDoor
open Go Ai
theorem sim_self {L:List Tk} (hE:EndOk L):Sim L L 0∧End5 L L 0 :=
 ⟨⟨fun i _=>⟨rfl,rfl,rfl⟩,fun i hi=>⟨hE i (by omega),.inl (hE i (by omega))⟩,by omega⟩,fun i hi=>hE i (by omega)⟩
structure Trees (s:Sx) (ts:List Tk) (ys:List DcT):Prop where
 lex:Lx.lexK s 0=.ok ts
 ds:(parseF s false).1.ds=ys.map DcT.d
 ok:∀y∈ys,y.Ok∧(∀z∈y.its,itNeed z)∧(y.e.Ok true→y.e.need 0≤30)
 xs:(parseF s false).1.xs.map Ex.z=dsFlat ys 0
 idx:dsIdx ys 0
 len:(ys.flatMap dclK).length+1≤ts.length
theorem parse_trees {s:Sx} (h:(parseF s false).2.2.1=0):∃ts ys,Trees s ts ys:=by
 obtain ⟨P,hP⟩:∃P,P=parseF s false:=⟨_,rfl⟩
 have hP':=hP
 unfold parseF at hP
 split at hP
 ·rw [←hP',hP] at h;cases h
 split at hP
 ·rw [←hP',hP] at h;cases h
 rename_i ts hl
 simp only [] at hP
 split at hP
 ·rename_i hc
  simp only [readF,Bool.false_eq_true,if_false] at hc hP
  have hL:=Lx.lexK_good _ _ (Nat.le_refl _) 0 ts hl
  obtain ⟨hE,hpos⟩:=Lx.lexK_ends hl
  have z1:(dclsF ts ts.length [] ⟨0,[],0,0⟩).2.c=0:=by
   unfold endR at hc
   split at hc
   ·rename_i h1;exact h1.1
   ·exact hc
  have e1:endR ts (dclsF ts ts.length [] ⟨0,[],0,0⟩).2=(dclsF ts ts.length [] ⟨0,[],0,0⟩).2:=by
   unfold endR at hc ⊢
   split
   ·rename_i h1
    rw [if_pos h1] at hc
    simp [failR,h1.1] at hc
   ·rfl
  rw [e1] at hP
  obtain ⟨s1,s2⟩:=sim_self hE
  have hlt:=(sim_dcls s1 s2 ts.length ts.length [] [] rfl ⟨0,[],0,0⟩ ⟨0,[],0,0⟩ ⟨rfl,rfl,rfl,hpos,rfl⟩ (by simp) (by simp) z1).2.lt
  obtain ⟨_,ys,g1,g2,g3,g4,g5⟩:=made_decls hL hE ts.length [] ⟨0,[],0,0⟩ rfl z1
  refine ⟨ts,ys,hl,?_,g2,?_,g4,?_⟩
  ·rw [←hP',hP];simpa using g1
  ·rw [←hP',hP];simpa using g3
  ·simp only [Nat.add_zero] at g5;omega
 ·rename_i hc
  rw [←hP',hP] at h
  exact absurd h hc
end Go.Proofs.YtgkhmmlemgikjaaGreatDoor
namespace Go.Proofs.YtgkhmmlemgikjaaGreatDoor
open Go Ai
theorem Has.len {xs:List Ex} {n:Nat} {l:List Ex} (h:Has xs n l):n+l.length≤xs.length:=by
 obtain ⟨u,v,e,hn⟩:=h
 have:=congrArg List.length e
 simp at this;omega
theorem exT_tree {p:Pg} {t:Tr} {n:Nat} (ho:t.Ok true) (h:Has p.xs n (t.flat n)):exT p (rtN n t.size) 0=t.tx 0:=by
 have hl:=h.len
 rw [Tr.flat_len] at hl
 exact (Tr.show t).1 ho n h _ hl 0
theorem its_show {p:Pg}:∀(ys:List ItT) (n:Nat),Has p.xs n (itsFlat ys n)→itsIdx ys n→∀y∈ys,(y.2.1.Ok true→exT p y.1.e 0=y.2.1.tx 0)∧(y.2.2.Ok true→exT p y.1.f 0=y.2.2.tx 0)
 | [],_,_,_,y,hy=>by simp at hy
 | z::ys,n,h,hi,y,hy=>by
  simp only [itsFlat] at h
  rw [List.mem_cons] at hy
  rcases hy with rfl | hy
  ·have hz:=h.left
   obtain ⟨i1,i2⟩:=hi.1
   unfold itFlat at hz
   refine ⟨fun o=>?_,fun o=>?_⟩
   ·rw [i1 o]
    split at hz
    ·rename_i hk
     rw [if_pos hk]
     exact exT_tree o (hz.right (Tr.flat_len _ _))
    ·rename_i hk
     rw [if_neg hk]
     exact exT_tree o hz.left
   ·rw [i2 o]
    split at hz
    ·rename_i hk
     rw [if_pos hk]
     exact exT_tree o hz.left
    ·rename_i hk
     rw [if_neg hk]
     exact exT_tree o (hz.right (Tr.flat_len _ _))
  ·exact its_show ys _ (h.right (itFlat_len _ _)) hi.2 y hy
theorem ds_show {p:Pg}:∀(ys:List DcT) (n:Nat),Has p.xs n (dsFlat ys n)→dsIdx ys n→∀y∈ys,(y.e.Ok true→exT p y.d.e 0=y.e.tx 0)∧∀z∈y.its,(z.2.1.Ok true→exT p z.1.e 0=z.2.1.tx 0)∧(z.2.2.Ok true→exT p z.1.f 0=z.2.2.tx 0)
 | [],_,_,_,y,hy=>by simp at hy
 | z::ys,n,h,hi,y,hy=>by
  simp only [dsFlat] at h
  rw [List.mem_cons] at hy
  rcases hy with rfl | hy
  ·have hz:=h.left
   unfold dFlat at hz
   exact ⟨fun o=>by rw [hi.1.2 o];exact exT_tree o (hz.right (itsFlat_len _ _)),its_show _ _ hz.left hi.1.1⟩
  ·exact ds_show ys _ (h.right (dFlat_len _ _)) hi.2 y hy
theorem Trees.has {s:Sx} {ts:List Tk} {ys:List DcT} (h:Trees s ts ys):Has (parseF s false).1.xs 0 (dsFlat ys 0):=⟨[],[],by simp [h.xs],rfl⟩
theorem Trees.lexed {s:Sx} {ts:List Tk} {ys:List DcT} (h:Trees s ts ys):Lx.LexAs (progT (parseF s false).1) (ys.flatMap dclK) Lx.anyB:=by
 rw [progT,h.ds]
 exact decls_lex (fun y hy=>(h.ok y hy).1) (ds_show ys 0 h.has h.idx)
theorem Trees.toks {s:Sx} {ts:List Tk} {ys:List DcT} (h:Trees s ts ys):∃us,us.map Lx.Tok.z=ys.flatMap dclK∧Lx.lexK (progT (parseF s false).1) 0=.ok (us++[⟨5,[],0,(progT (parseF s false).1).length⟩]):=by
 obtain ⟨us,h1,h2⟩:=h.lexed [] 0 (fun d r' hd=>by cases hd)
 refine ⟨us,h1,?_⟩
 rw [List.append_nil,Nat.zero_add] at h2
 rw [h2,Lx.lexK,show Lx.skipN false []=0 from rfl,List.drop_zero,Lx.lexS_nil]
 rfl
/-! How long a text is. -/
theorem name_len {n:Sx} (h:NmOk n):n.length≤16:=by
 have:=h.1
 simp only [Lx.nameB,Bool.and_eq_true,decide_eq_true_eq] at this
 exact this.2
theorem wrap_len {t w:Int} {s:Sx} {k:List Tk} (h:s.length≤60 * k.length):(wrapS t w s).length≤60 * (wrapK t w k).length:=by
 unfold wrapS wrapK
 split
 ·simp only [List.length_append,List.length_cons,List.length_nil];omega
 ·exact h
theorem short_lnX {v:Int} (h0:0≤v) (h1:v≤9223372036854775807):(shortF v 32).length≤60:=by
 have h2:=Lx.dec_len10 10 (v.natAbs / 4294967296) (by decide) (by omega)
 have h3:=(Lx.trim0_prefix (fr 32 (v.natAbs % 4294967296))).length_le
 rw [fr_length] at h3
 rw [Lx.short_pos h0]
 unfold Lx.textF
 split
 ·omega
 ·simp only [List.length_append,List.length_cons];omega
theorem pre_len {k:Int}:(preS k).length≤5:=by
 unfold preS preW
 repeat' split
 all_goals decide
theorem sign_lnX {k:Int}:(signF k).length≤3:=by
 unfold signF
 repeat' split
 all_goals decide
theorem Tr.tx_len:∀(t:Tr) (e:Bool),t.Ok e→∀w,(t.tx w).length≤60 * (t.tk w).length
 | .num v,_,h,w=>wrap_len (by have:=short_lnX h.2.1 h.2.2;simpa using this)
 | .bool b,_,_,w=>wrap_len (by cases b<;>decide)
 | .name n,_,h,w=>wrap_len (by have:=name_len h.2;simp;omega)
 | .isS n s,_,h,w=>wrap_len (by have:=name_len h.2.1;have:=name_len h.2.2;simp;omega)
 | .pre k a,_,h,w=>wrap_len (by have:=tx_len a _ h.2.2 6;have:=pre_len (k:=k);simp;omega)
 | .two k a b,_,h,w=>wrap_len (by have:=tx_len a _ h.2.2.1 (oneW k);have:=tx_len b _ h.2.2.2 (nextW k);have:=sign_lnX (k:=k);simp;omega)
 | .ite a b c,_,h,w=>wrap_len (by have:=tx_len a _ h.2.1 0;have:=tx_len b _ h.2.2.1 0;have:=tx_len c _ h.2.2.2 0;simp;omega)
 | .call n l,_,h,w=>wrap_len (by have:=tx_len l _ h.2.2 0;have:=name_len h.2.1;simp;omega)
 | .nil,_,_,_=>Nat.zero_le _
 | .arg a l,_,h,w=>by
  have:=tx_len a _ h.2.1 0
  have:=tx_len l _ h.2.2 1
  simp only [Tr.tx,Tr.tk,List.length_append]
  split
  ·simp;omega
  ·simp;omega
theorem type_lnX (t:Int):(typeT t).length≤4:=by
 unfold typeT
 repeat' split
 all_goals decide
theorem rest_len:∀{l:List Sx},(∀s∈l,NmOk s)→(l.flatMap fun b=>[44,32]++b).length≤60 * (l.flatMap fun b=>sgK 44++nmK b).length
 | [],_=>by simp
 | a::l,h=>by
  have:=rest_len (l:=l) fun s hs=>h s (by simp [hs])
  have:=name_len (h a (by simp))
  simp only [List.flatMap_cons,List.length_append,sgK,nmK,List.length_cons,List.length_nil] at *;omega
theorem states_len {l:List Sx} (h:∀s∈l,NmOk s):(Lib.join l [44,32]).length≤60 * (nmsK l).length:=by
 cases l with
 | nil=>simp [Lib.join]
 | cons a l =>
  have:=rest_len (l:=l) fun s hs=>h s (by simp [hs])
  have:=name_len (h a (by simp))
  rw [join_flat,nmsK]
  have e:(nmK a).length=1:=rfl
  simp only [List.length_append,e];omega
theorem item_lnX {E:Int→Sx} {x:It} {a b:Tr} (h:ItmOk x a b) (ha:a.Ok true→E x.e=a.tx 0) (hb:b.Ok true→E x.f=b.tx 0):(itemT E x).length≤60 * (itmK x a b).length:=by
 have ht:=type_lnX x.t
 unfold itemT itemB itmK
 rcases h with ⟨k,n,t,o,_⟩ | ⟨k,n,o,p⟩ | ⟨k,n,o,p⟩ | ⟨k,n,t,o,_⟩ | ⟨k,n,o,p⟩ | ⟨k,n,s1,s2,_⟩ | ⟨k,n,s,x',_,p⟩ | ⟨k,n,_⟩
 ·have:=name_len n;have:=Tr.tx_len a _ o 0
  simp [k,ha o,nmK,sgK,tyK];omega
 ·have:=name_len n;have:=Tr.tx_len a _ o 0;have:=Tr.tx_len b _ p 0
  simp [k,ha o,hb p,nmK,sgK];omega
 ·have:=name_len n;have:=Tr.tx_len a _ o 0;have:=Tr.tx_len b _ p 0
  simp [k,ha o,hb p,nmK,sgK];omega
 ·have:=name_len n;have:=Tr.tx_len a _ o 0
  simp [k,ha o,nmK,sgK,tyK];omega
 ·have:=name_len n;have:=Tr.tx_len a _ o 0;have:=Tr.tx_len b _ p 0
  simp [k,ha o,hb p,nmK,sgK];omega
 ·have:=name_len n;have h1:=states_len s2
  simp [k]
  simp only [nmK,sgK,List.length_cons,List.length_nil];omega
 ·have:=name_len n;have:=name_len s;have:=name_len x';have:=Tr.tx_len b _ p 0
  simp [k,hb p,nmK,sgK];omega
 ·have:=name_len n
  simp [k,nmK,sgK];omega
theorem items_len {E:Int→Sx}:∀{l:List ItT},(∀y∈l,ItmOk y.1 y.2.1 y.2.2)→(∀y∈l,(y.2.1.Ok true→E y.1.e=y.2.1.tx 0)∧(y.2.2.Ok true→E y.1.f=y.2.2.tx 0))→((l.map (·.1)).flatMap (itemT E)).length≤60 * (itsK l).length
 | [],_,_=>by simp
 | y::l,h,hE=>by
  have:=item_lnX (h y (by simp)) (hE y (by simp)).1 (hE y (by simp)).2
  have:=items_len (l:=l) (fun z hz=>h z (by simp [hz])) (fun z hz=>hE z (by simp [hz]))
  simp only [itsK,List.map_cons,List.flatMap_cons,List.length_append] at *;omega
theorem prs_len:∀{l:List Pm},(∀p∈l,NmOk p.n∧TyOk p.t)→(l.flatMap fun b=>[44,32]++pmT b).length≤60 * (l.flatMap fun b=>sgK 44++(nmK b.n++(sgK 58++tyK b.t))).length
 | [],_=>by simp
 | a::l,h=>by
  have:=prs_len (l:=l) fun s hs=>h s (by simp [hs])
  have:=name_len (h a (by simp)).1
  have:=type_lnX a.t
  simp only [List.flatMap_cons,List.length_append,sgK,nmK,tyK,pmT,List.length_cons,List.length_nil] at *;omega
theorem params_len {l:List Pm} (h:∀p∈l,NmOk p.n∧TyOk p.t):(pmsT l).length≤60 * (pmsK l).length:=by
 cases l with
 | nil=>simp [pmsT]
 | cons a l =>
  have:=prs_len (l:=l) fun s hs=>h s (by simp [hs])
  have:=name_len (h a (by simp)).1
  have:=type_lnX a.t
  simp only [pmsT,pmsK,List.length_append,sgK,nmK,tyK,pmT,List.length_cons,List.length_nil] at *;omega
theorem decl_lnX {E:Int→Sx} {y:DcT} (h:y.Ok) (he:y.e.Ok true→E y.d.e=y.e.tx 0) (hE:∀z∈y.its,(z.2.1.Ok true→E z.1.e=z.2.1.tx 0)∧(z.2.2.Ok true→E z.1.f=z.2.2.tx 0)):(declT E y.d).length≤60 * (dclK y).length:=by
 have hits:=items_len h.its hE
 rw [←h.map] at hits
 have hp:=params_len h.ps
 have hn:=name_len h.n
 have ht:=type_lnX y.d.t
 unfold declT dclK
 rcases h.k with k | k | k
 ·have o:=h.e (by rw [k];decide)
  have:=Tr.tx_len _ _ o 0
  simp [k,he o,nmK,sgK,tyK];omega
 ·have o:=h.e (by rw [k];decide)
  have:=Tr.tx_len _ _ o 0
  simp [k,he o,nmK,sgK,tyK] at hits ⊢;omega
 ·simp [k,nmK,sgK] at hits ⊢;omega
theorem decls_len {E:Int→Sx}:∀{l:List DcT},(∀y∈l,y.Ok)→(∀y∈l,(y.e.Ok true→E y.d.e=y.e.tx 0)∧∀z∈y.its,(z.2.1.Ok true→E z.1.e=z.2.1.tx 0)∧(z.2.2.Ok true→E z.1.f=z.2.2.tx 0))→((l.map DcT.d).flatMap (declT E)).length≤60 * (l.flatMap dclK).length
 | [],_,_=>by simp
 | y::l,h,hE=>by
  have:=decl_lnX (h y (by simp)) (hE y (by simp)).1 (hE y (by simp)).2
  have:=decls_len (l:=l) (fun z hz=>h z (by simp [hz])) (fun z hz=>hE z (by simp [hz]))
  simp only [List.map_cons,List.flatMap_cons,List.length_append] at *;omega
theorem Trees.tx_len {s:Sx} {ts:List Tk} {ys:List DcT} (h:Trees s ts ys):(progT (parseF s false).1).length≤60 * ts.length:=by
 have h1:=decls_len (E:=fun e=>exT (parseF s false).1 e 0) (fun y hy=>(h.ok y hy).1) (ds_show ys 0 h.has h.idx)
 have h2:=h.len
 rw [progT,h.ds];omega
/-! What is in the program. -/
theorem v0:(0:Int)≤0∧(0:Int)≤9223372036854775807:=by decide
theorem Tr.flat_v:∀(t:Tr) (e:Bool),t.Ok e→∀n,∀x∈t.flat n,0≤x.v∧x.v≤9223372036854775807
 | .num v,_,h,n,x,hx=>by rw [Tr.flat,List.mem_singleton] at hx;subst hx;exact h.2
 | .bool b,_,h,n,x,hx=>by rw [Tr.flat,List.mem_singleton] at hx;subst hx;cases b<;>decide
 | .name _,_,h,n,x,hx=>by rw [Tr.flat,List.mem_singleton] at hx;subst hx;exact v0
 | .isS _ _,_,h,n,x,hx=>by rw [Tr.flat,List.mem_singleton] at hx;subst hx;exact v0
 | .pre _ a,_,h,n,x,hx=>by
  simp only [Tr.flat,List.mem_append,List.mem_singleton] at hx
  rcases hx with hx | rfl
  ·exact flat_v a _ h.2.2 _ x hx
  ·exact v0
 | .two _ a b,_,h,n,x,hx=>by
  simp only [Tr.flat,List.mem_append,List.mem_singleton] at hx
  rcases hx with hx | hx | rfl
  ·exact flat_v a _ h.2.2.1 _ x hx
  ·exact flat_v b _ h.2.2.2 _ x hx
  ·exact v0
 | .ite a b c,_,h,n,x,hx=>by
  simp only [Tr.flat,List.mem_append,List.mem_singleton] at hx
  rcases hx with hx | hx | hx | rfl
  ·exact flat_v a _ h.2.1 _ x hx
  ·exact flat_v b _ h.2.2.1 _ x hx
  ·exact flat_v c _ h.2.2.2 _ x hx
  ·exact v0
 | .call _ l,_,h,n,x,hx=>by
  simp only [Tr.flat,List.mem_append,List.mem_singleton] at hx
  rcases hx with hx | rfl
  ·exact flat_v l _ h.2.2 _ x hx
  ·exact v0
 | .nil,_,_,_,x,hx=>by simp [Tr.flat] at hx
 | .arg a l,_,h,n,x,hx=>by
  simp only [Tr.flat,List.mem_append] at hx
  rcases hx with hx | hx
  ·exact flat_v a _ h.2.1 _ x hx
  ·exact flat_v l _ h.2.2 _ x hx
theorem itm_trees {x:It} {a b:Tr} (h:ItmOk x a b):(∃e,a.Ok e)∧∃e,b.Ok e:=by
 rcases h with ⟨_,_,_,o,rfl⟩ | ⟨_,_,o,p⟩ | ⟨_,_,o,p⟩ | ⟨_,_,_,o,rfl⟩ | ⟨_,_,o,p⟩ | ⟨_,_,_,_,rfl,rfl⟩ | ⟨_,_,_,_,rfl,p⟩ | ⟨_,_,rfl,rfl⟩
 all_goals first
  | exact ⟨⟨_,o⟩,_,p⟩
  | exact ⟨⟨_,o⟩,false,rfl⟩
  | exact ⟨⟨false,rfl⟩,_,p⟩
  | exact ⟨⟨false,rfl⟩,false,rfl⟩
theorem its_v:∀{l:List ItT},(∀y∈l,ItmOk y.1 y.2.1 y.2.2)→∀n,∀x∈itsFlat l n,0≤x.v∧x.v≤9223372036854775807
 | [],_,_,x,hx=>by simp [itsFlat] at hx
 | y::l,h,n,x,hx=>by
  simp only [itsFlat,List.mem_append] at hx
  rcases hx with hx | hx
  ·obtain ⟨⟨e1,h1⟩,e2,h2⟩:=itm_trees (h y (by simp))
   unfold itFlat at hx
   split at hx<;>rw [List.mem_append] at hx<;>rcases hx with hx | hx
   ·exact Tr.flat_v _ _ h2 _ x hx
   ·exact Tr.flat_v _ _ h1 _ x hx
   ·exact Tr.flat_v _ _ h1 _ x hx
   ·exact Tr.flat_v _ _ h2 _ x hx
  ·exact its_v (fun z hz=>h z (by simp [hz])) _ x hx
theorem ds_v:∀{l:List DcT},(∀y∈l,y.Ok)→∀n,∀x∈dsFlat l n,0≤x.v∧x.v≤9223372036854775807
 | [],_,_,x,hx=>by simp [dsFlat] at hx
 | y::l,h,n,x,hx=>by
  simp only [dsFlat,dFlat,List.mem_append] at hx
  rcases hx with (hx | hx) | hx
  ·exact its_v (h y (by simp)).its _ x hx
  ·have hy:=h y (by simp)
   by_cases hk:y.d.k=3
   ·rw [hy.e3 hk] at hx;simp [Tr.flat] at hx
   ·exact Tr.flat_v _ _ (hy.e hk) _ x hx
  ·exact ds_v (fun z hz=>h z (by simp [hz])) _ x hx
theorem Trees.v {s:Sx} {ts:List Tk} {ys:List DcT} (h:Trees s ts ys):∀x∈(parseF s false).1.xs,-9223372036854775808≤x.v∧x.v≤9223372036854775807:=fun x hx=>by
 have h1:x.z∈dsFlat ys 0:=by rw [←h.xs];exact List.mem_map_of_mem hx
 have h2:=ds_v (fun y hy=>(h.ok y hy).1) 0 x.z h1
 have:x.z.v=x.v:=rfl
 omega
theorem Trees.kinds {s:Sx} {ts:List Tk} {ys:List DcT} (h:Trees s ts ys):Kinds (parseF s false).1:=fun d hd=>by
 rw [h.ds] at hd
 obtain ⟨y,hy,rfl⟩:=List.mem_map.1 hd
 have ho:=(h.ok y hy).1
 refine ⟨ho.k,fun x hx=>?_⟩
 rw [ho.map] at hx
 obtain ⟨z,hz,rfl⟩:=List.mem_map.1 hx
 rcases ho.its z hz with ⟨k,_⟩ | ⟨k,_⟩ | ⟨k,_⟩ | ⟨k,_⟩ | ⟨k,_⟩ | ⟨k,_⟩ | ⟨k,_⟩ | ⟨k,_⟩<;>omega
end Go.Proofs.YtgkhmmlemgikjaaGreatDoor
namespace Go.Proofs.YtgkhmmlemgikjaaGreatDoor
open Go Ai
theorem fn4:A.fn 4=some a4:=by kernel_rfl
theorem prim4:A.prim 4=none:=by kernel_rfl
set_option maxHeartbeats 1000000 in
theorem law4_run {s:Sx} (hs:s.length≤281474976710656):runL A (.seqc 4 [.str s]) []=some ⟨.ret,⟨[.bool true],[]⟩,[]⟩:=by
 have hst:StOk []:=StOk.nil
 have c1:=alive13 hst
 by_cases h4:4000<s.length
 ·refine (task_of_aw (N:=50) prim4 fn4 rfl rfl StOk.nil ?_).2
  intro e he ha K hK
  have a0:=ha 0
  clear ha
  simp at a0
  have h4':(4000:Int)<s.length:=by omega
  simp [a4,he,a0,c1,h4']
  exact hK _ _ _ (.inl rfl) (by simp) ⟨_,rfl,by simp [he,AV.still]⟩
 have h4':¬(4000:Int)<s.length:=by omega
 have c2:=parse_call hs false hst
 have hok:=(parse_ok s false).1
 have hmay:=parse_may s false
 have hT:=parse_trees (s:=s)
 by_cases hc:(parseF s false).2.2.1=0
 ·obtain ⟨ts,ys,T⟩:=hT hc
  have hl1:Lx.lexP s=(Lx.toksAv ts,Lx.flt 0 0):=by
   rw [Lx.lexP,if_neg (by omega),T.lex]
  have c3:=Lx.refLex_call hs hst
  rw [hl1] at c3
  have hlen:=T.tx_len
  have htl:ts.length≤20001:=(lexK_tks (by omega) T.lex).1.len
  have c4:=show17 ⟨hok,hmay,T.v⟩ T.kinds (by unfold Ai.great;omega) hst
  obtain ⟨us,hu1,hu2⟩:=T.toks
  have hul:us.length+1≤ts.length:=by
   have:=congrArg List.length hu1
   rw [List.length_map] at this
   have:=T.len
   omega
  have c5:=Lx.refLex_call (s:=progT (parseF s false).1) (by omega) hst
  have hl2:¬20000<(progT (parseF s false).1).length→Lx.lexP (progT (parseF s false).1)=(Lx.toksAv (us++[⟨5,[],0,(progT (parseF s false).1).length⟩]),Lx.flt 0 0):=fun h=>by
   rw [Lx.lexP,if_neg h,hu2]
  obtain ⟨P,hP⟩:∃P,P=parseF s false:=⟨_,rfl⟩
  rw [←hP] at c2 c4 c5 hl2 hc
  clear hP hT hok hmay hlen hu1 hu2 T
  obtain ⟨p,e0,c,b⟩:=P
  simp only at hc
  subst hc
  generalize progT p=t at c4 c5 hl2
  simp only [Lx.toksAv,Lx.flt] at c3
  by_cases h5:20000<t.length
  ·have h5':(20000:Int)<t.length:=by omega
   refine (task_of_aw (N:=50) prim4 fn4 rfl rfl StOk.nil ?_).2
   intro e he ha K hK
   have a0:=ha 0
   clear ha
   simp at a0
   simp only [Pg.av] at c2 c4
   simp [a4,he,a0,c1,h4',c2,c3,c4,h5',Ai.beq_refl]
   exact hK _ _ _ (.inl rfl) (by simp) ⟨_,rfl,by simp [he,AV.still]⟩
  ·have h5':¬(20000:Int)<t.length:=by omega
   rw [hl2 h5] at c5
   simp only [Lx.toksAv,Lx.flt] at c5
   have hle:(us.length:Int)+1≤ts.length:=by omega
   refine (task_of_aw (N:=50) prim4 fn4 rfl rfl StOk.nil ?_).2
   intro e he ha K hK
   have a0:=ha 0
   clear ha
   simp at a0
   simp only [Pg.av] at c2 c4
   simp [a4,he,a0,c1,h4',c2,c3,c4,c5,h5',hle,Ai.beq_refl]
   exact hK _ _ _ (.inl rfl) (by simp) ⟨_,rfl,by simp [he,AV.still,hle]⟩
 ·obtain ⟨P,hP⟩:∃P,P=parseF s false:=⟨_,rfl⟩
  rw [←hP] at c2 hc
  clear hP hT hok hmay
  obtain ⟨p,e0,c,b⟩:=P
  simp only at hc
  refine (task_of_aw (N:=50) prim4 fn4 rfl rfl StOk.nil ?_).2
  intro e he ha K hK
  have a0:=ha 0
  clear ha
  simp at a0
  simp only [Pg.av] at c2
  simp [a4,he,a0,c1,h4',c2,hc,Ai.beq_refl]
  exact hK _ _ _ (.inl rfl) (by simp) ⟨_,rfl,by simp [he,AV.still]⟩
end Go.Proofs.YtgkhmmlemgikjaaGreatDoor
