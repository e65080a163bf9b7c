/- Part Kp. No condition. -/
import Derived.Test.YtgkhmmlemgikjaaGreatDoorKi
import Derived.Test.YtgkhmmlemgikjaaGreatDoorKo
import Derived.Test.YtgkhmmlemgikjaaGreatDoorKk
import Derived.Test.YtgkhmmlemgikjaaGreatDoorKn
set_option linter.unusedVariables false
set_option linter.unusedSimpArgs false
namespace Go.Proofs.YtgkhmmlemgikjaaGreatDoor.Lx
open Go Ai Go.Proofs.YtgkhmmlemgikjaaGreatDoor
theorem skipN_take:∀(b:Bool) (l:List UInt8) (m:Nat),skipN b l≤m→skipN b (l.take m)=skipN b l
 | true,[],m,_=>by simp
 | false,[],m,_=>by simp
 | true,c::l,0,h=>by simp [skipN] at h
 | true,c::l,m+1,h=>by
  rw [skipN] at h
  rw [List.take_succ_cons,skipN,skipN,skipN_take _ l m (by omega)]
 | false,c::l,0,h=>by
  rw [skipN] at h
  rw [skipN]
  split at h
  ·omega
  ·split at h
   ·omega
   ·rename_i h1 h2
    simp [h1,h2,skipN]
 | false,c::l,m+1,h=>by
  rw [skipN] at h
  rw [List.take_succ_cons,skipN,skipN]
  split at h
  ·rename_i h1;rw [if_pos h1,if_pos h1,skipN_take _ l m (by omega)]
  ·rename_i h1
   rw [if_neg h1,if_neg h1]
   split at h
   ·rename_i h2;rw [if_pos h2,if_pos h2,skipN_take _ l m (by omega)]
   ·rename_i h2;rw [if_neg h2,if_neg h2]
theorem skipN_app {b:Bool} {l z:List UInt8} (h:skipN b l<l.length):skipN b (l++z)=skipN b l:=by
 induction l generalizing b with
 | nil=>simp at h
 | cons c l ih =>
  cases b with
  | true =>
   rw [skipN] at h
   rw [List.cons_append,skipN,skipN,ih (by simpa using (by simp at h;omega))]
  | false =>
   rw [skipN] at h
   rw [List.cons_append,skipN,skipN]
   split at h
   ·rename_i h1;rw [if_pos h1,if_pos h1,ih (by simp at h;omega)]
   ·rename_i h1
    rw [if_neg h1,if_neg h1]
    split at h
    ·rename_i h2;rw [if_pos h2,if_pos h2,ih (by simp at h;omega)]
    ·rename_i h2;rw [if_neg h2,if_neg h2]
theorem map_ok {α β} {f:α→β} {x:Except Nat α} {b:β} (h:x.map f=.ok b):∃a,x=.ok a∧f a=b:=by
 cases x with
 | error e=>cases h
 | ok a=>exact ⟨a,rfl,by cases h;rfl⟩
theorem map_err {α β} {f:α→β} {x:Except Nat α} {e:Nat} (h:x.map f=.error e):x=.error e:=by
 cases x with
 | error e'=>cases h;rfl
 | ok a=>cases h
theorem lexK_cases (l:List UInt8) (p:Nat) :
  (skipN false l=l.length∧lexK l p=.ok [⟨5,[],0,p+l.length⟩]) ∨
  (∃c r,l.drop (skipN false l)=c::r∧skipN false l<l.length∧(
   ((tokOf (c::r) (p+skipN false l)).2=false∧lexK l p=.error (p+skipN false l)) ∨
   ∃x,tokOf (c::r) (p+skipN false l)=(x,true)∧0<x.text.length∧lexK l p=(lexK ((c::r).drop x.text.length) (p+skipN false l+x.text.length)).map (x::·))):=by
 have hle:=skipN_le false l
 by_cases h:skipN false l=l.length
 ·left
  refine ⟨h,?_⟩
  unfold lexK
  rw [h,List.drop_length,lexS_nil]
 ·right
  cases hd:l.drop (skipN false l) with
  | nil =>
   have:=congrArg List.length hd
   simp at this;omega
  | cons c r =>
   refine ⟨c,r,rfl,by omega,?_⟩
   cases ht:(tokOf (c::r) (p+skipN false l)).2 with
   | false =>
    left
    refine ⟨rfl,?_⟩
    unfold lexK
    rw [hd,lexS_bad ht]
   | true =>
    right
    refine ⟨(tokOf (c::r) (p+skipN false l)).1,by rw [←ht],tokOf_pos ht,?_⟩
    unfold lexK
    rw [hd,lexS_tok (by rw [←ht])]
    rfl
theorem tok_same {c:UInt8} {r:List UInt8} {p:Nat} {x:Tok} (h:tokOf (c::r) p=(x,true)):({ x with pos:=p }:Tok)=x:=by
 have:=(tokOf_shift c r p 0).2
 rw [h] at this
 cases x;simp at this ⊢;exact this.symm
theorem lexK_end:∀(n:Nat) (l:List UInt8),l.length≤n→∀p ts,lexK l p=.ok ts→∃us,ts=us++[⟨5,[],0,p+l.length⟩]∧∀u∈us,u.kind≠5∧0<u.text.length∧u.text.length≤l.length
 | n,l,hn,p,ts,h=>by
  rcases lexK_cases l p with ⟨h1,h2⟩ | ⟨c,r,hd,hlt,⟨h1,h2⟩ | ⟨x,h1,h2,h3⟩⟩
  ·rw [h2] at h;cases h
   exact ⟨[],rfl,by simp⟩
  ·rw [h2] at h;cases h
  ·rw [h3] at h
   obtain ⟨us,hu,rfl⟩:=map_ok h
   have hlen:=congrArg List.length hd
   simp only [List.length_drop] at hlen
   have hx:=tokOf_le h1
   cases n with
   | zero=>omega
   | succ n =>
    obtain ⟨vs,rfl,hv⟩:=lexK_end n _ (by simp only [List.length_drop];simp at hlen hx ⊢;omega) _ us hu
    refine ⟨x::vs,?_,?_⟩
    ·rw [List.cons_append]
     congr 4
     simp only [List.length_drop];omega
    ·intro u hu
     rw [List.mem_cons] at hu
     rcases hu with rfl | hu
     ·refine ⟨?_,h2,by omega⟩
      have hk:∀y,tokOf (c::r) (p+skipN false l)=y→y.1.kind≠5:=by
       rintro y rfl
       rw [tokOf_cons]
       split
       ·simp only;split<;>decide
       ·split
        ·exact (by decide:(2:Nat)≠5)
        ·exact (by decide:(4:Nat)≠5)
      exact hk _ h1
     ·obtain ⟨g1,g2,g3⟩:=hv u hu
      exact ⟨g1,g2,by simp only [List.length_drop] at g3;omega⟩
theorem safe_cut (r:List UInt8):∀m,Safe (r.take m) r:=by
 intro m
 cases r with
 | nil=>exact .inl (by simp)
 | cons d r =>
  cases m with
  | zero=>exact .inl rfl
  | succ m =>
   refine .inr (.inr ⟨d,r.take m,r,rfl,rfl,?_⟩)
   cases r with
   | nil=>exact .inl (by simp)
   | cons e r =>
    cases m with
    | zero=>exact .inl rfl
    | succ m=>exact .inr (.inr ⟨e,_,r,rfl,rfl⟩)
theorem lexK_cut:∀(n:Nat) (l:List UInt8),l.length≤n→∀p q,lexK l p=.error q→p≤q∧q-p<l.length∧∃ts,lexK (l.take (q-p)) p=.ok ts
 | n,l,hn,p,q,h=>by
  rcases lexK_cases l p with ⟨h1,h2⟩ | ⟨c,r,hd,hlt,⟨h1,h2⟩ | ⟨x,h1,h2,h3⟩⟩
  ·rw [h2] at h;cases h
  ·rw [h2] at h;cases h
   refine ⟨by omega,by omega,?_⟩
   rw [show p+skipN false l-p=skipN false l by omega]
   have hs:skipN false (l.take (skipN false l))=skipN false l:=skipN_take false l _ (Nat.le_refl _)
   refine ⟨[⟨5,[],0,p+skipN false l⟩],?_⟩
   unfold lexK
   rw [hs,List.drop_eq_nil_of_le (by simp;omega),lexS_nil]
  ·rw [h3] at h
   have hu:=map_err h
   have hlen:=congrArg List.length hd
   simp only [List.length_drop] at hlen
   have hx:=tokOf_le h1
   cases n with
   | zero=>omega
   | succ n =>
    obtain ⟨i1,i2,ts,i3⟩:=lexK_cut n _ (by simp only [List.length_drop];simp at hlen hx ⊢;omega) _ q hu
    simp only [List.length_drop] at i2
    refine ⟨by omega,by omega,x::ts,?_⟩
    obtain ⟨m,hm⟩:∃m,m=q-(p+skipN false l+x.text.length):=⟨_,rfl⟩
    have e0:q-p=skipN false l+(x.text.length+m):=by omega
    rw [←hm] at i3
    have hs:skipN false (l.take (q-p))=skipN false l:=skipN_take false l _ (by omega)
    obtain ⟨_,h5,_⟩:=tok_again (pos':=p+skipN false l) h1 (z:=[]) (.inl rfl)
    obtain ⟨h4,_,y,hy⟩:=tok_again (pos':=p+skipN false l) h1 (safe_cut ((c::r).drop x.text.length) m)
    have e1:(l.take (q-p)).drop (skipN false l)=x.text++((c::r).drop x.text.length).take m:=by
     rw [e0,List.drop_take,hd,show skipN false l+(x.text.length+m)-skipN false l=x.text.length+m by omega]
     conv=>lhs;rw [h5]
     rw [List.take_append]
     simp [List.take_of_length_le]
    have e2:x.text++((c::r).drop x.text.length).take m=c::(y++((c::r).drop x.text.length).take m):=by rw [hy];rfl
    unfold lexK
    rw [hs,e1,e2]
    rw [e2] at h4
    rw [tok_same h1] at h4
    rw [lexS_tok h4,←e2,List.drop_left,i3];rfl
def place:Nat→List Tok→List Tok
 | _,[]=>[]
 | p,u::us=>{ u with pos:=p }::place (p+u.text.length+1) us
theorem lexS_pos:∀(n:Nat) (l:List UInt8),l.length≤n→∀p ts,lexS l p=.ok ts→∀u∈ts,u.pos≤p+l.length
 | 0,l,hl,p,ts,h,u,hu=>by
  have:l=[]:=List.eq_nil_of_length_eq_zero (by omega)
  subst this
  rw [lexS_nil] at h;cases h;simp at hu;subst hu;simp
 | n+1,[],_,p,ts,h,u,hu=>by rw [lexS_nil] at h;cases h;simp at hu;subst hu;simp
 | n+1,c::l,hl,p,ts,h,u,hu=>by
  cases hb:(tokOf (c::l) p).2 with
  | false=>rw [lexS_bad hb] at h;cases h
  | true =>
   obtain ⟨x,hx⟩:∃x,x=(tokOf (c::l) p).1:=⟨_,rfl⟩
   have htk:tokOf (c::l) p=(x,true):=by rw [hx,←hb]
   have hpos:=tokOf_pos hb
   rw [htk] at hpos
   simp only at hpos
   have hle:=tokOf_le htk
   rw [lexS_tok htk,lexK] at h
   obtain ⟨us,hu',rfl⟩:=map_ok h
   have hsk:=skipN_le false ((c::l).drop x.text.length)
   have hld:((c::l).drop x.text.length).length=l.length+1-x.text.length:=by simp
   rcases List.mem_cons.1 hu with rfl | hu
   ·have:=(tokOf_shift c l p p).2
    rw [htk] at this
    simp only at this
    rw [this];omega
   ·have:=lexS_pos n _ (by rw [List.length_drop,hld];simp at hl;omega) _ _ hu' u hu
    rw [List.length_drop,hld] at this
    simp only [List.length_cons] at hle ⊢;omega
end Go.Proofs.YtgkhmmlemgikjaaGreatDoor.Lx
namespace Go.Proofs.YtgkhmmlemgikjaaGreatDoor.Lx
open Go Ai Go.Proofs.YtgkhmmlemgikjaaGreatDoor
theorem skip_spoil:∀(b:Bool) (l:List UInt8),skipN b l=l.length→skipN b (l++[32,64])=l.length+1∨skipN b (l++[32,64])=l.length+2
 | true,[],_=>.inr rfl
 | false,[],_=>.inl rfl
 | true,c::l,h=>by
  simp only [skipN,List.length_cons,List.cons_append] at h ⊢
  have:=skip_spoil _ l (by omega:skipN (!decide (c=10)) l=l.length)
  omega
 | false,c::l,h=>by
  simp only [skipN,List.length_cons,List.cons_append] at h ⊢
  split at h
  ·rename_i hc
   rw [if_pos hc]
   have:=skip_spoil _ l (by omega:skipN true l=l.length)
   omega
  ·rename_i hc
   rw [if_neg hc]
   split at h
   ·rename_i hg
    rw [if_pos hg]
    have:=skip_spoil _ l (by omega:skipN false l=l.length)
    omega
   ·omega
theorem safe_32 (r t:List UInt8):Safe (r++32::t) r:=by
 cases r with
 | nil=>exact .inr (.inl ⟨t,.inl rfl⟩)
 | cons d r =>
  refine .inr (.inr ⟨d,r++32::t,r,rfl,rfl,.inr ?_⟩)
  cases r with
  | nil=>exact .inl ⟨t,.inr rfl⟩
  | cons e r=>exact .inr ⟨e,_,r,rfl,rfl⟩
theorem lex_spoil:∀(n:Nat) (l:List UInt8),l.length≤n→∀p us e,lexK l p=.ok (us++[e])→lexK (l++[32,64]) p=.error (p+l.length+1)∨lexK (l++[32,64]) p=.ok (us++[⟨5,[],0,p+l.length+2⟩])
 | n,l,hn,p,us,e,h=>by
  rcases lexK_cases l p with ⟨h1,h2⟩ | ⟨c,r,hd,hlt,⟨h1,h2⟩ | ⟨x,h1,h2,h3⟩⟩
  ·rw [h2] at h
   have:us=[]:=by
    have:=congrArg List.length (Except.ok.inj h)
    rw [List.length_append] at this
    exact List.eq_nil_of_length_eq_zero (by simpa using this)
   subst this
   unfold lexK
   rcases skip_spoil false l h1 with hs | hs
   ·left
    have e1:(l++[32,64]).drop (l.length+1)=[64]:=by
     rw [←List.drop_drop,List.drop_left];rfl
    rw [hs,e1,lexS_bad (by rfl),Nat.add_assoc]
   ·right
    have e1:(l++[32,64]).drop (l.length+2)=[]:=by
     rw [←List.drop_drop,List.drop_left];rfl
    rw [hs,e1,lexS_nil,Nat.add_assoc];rfl
  ·rw [h2] at h;cases h
  ·rw [h3] at h
   obtain ⟨vs,hu,hv⟩:=map_ok h
   have hlen:=congrArg List.length hd
   simp only [List.length_drop] at hlen
   have hx:=tokOf_le h1
   have hs:skipN false (l++[32,64])=skipN false l:=skipN_app hlt
   obtain ⟨ws,hw,_⟩:=lexK_end _ _ (Nat.le_refl _) _ vs hu
   cases us with
   | nil =>
    rw [hw] at hv
    have:=congrArg List.length hv
    simp at this
   | cons u us =>
    rw [List.cons_append] at hv
    obtain ⟨rfl,h7⟩:=List.cons.inj hv
    rw [h7] at hu
    obtain ⟨_,h5,_⟩:=tok_again (pos':=p+skipN false l) h1 (z:=[]) (.inl rfl)
    have h4:=(tok_again (pos':=p+skipN false l) h1 (safe_32 ((c::r).drop x.text.length) [64])).1
    rw [←List.append_assoc,←h5] at h4
    have e1:(l++[32,64]).drop (skipN false l)=(c::r)++[32,64]:=by
     rw [List.drop_append_of_le_length (by omega),hd]
    have e2:lexK (l++[32,64]) p=(lexK (((c::r)++[32,64]).drop x.text.length) (p+skipN false l+x.text.length)).map (x::·):=by
     conv=>lhs;unfold lexK
     rw [hs,e1]
     rw [tok_same h1] at h4
     have h6:tokOf (c::(r++[32,64])) (p+skipN false l)=(x,true):=h4
     exact lexS_tok h6
    cases n with
    | zero=>omega
    | succ n =>
     have ih:=lex_spoil n _ (by simp only [List.length_drop];simp at hlen hx ⊢;omega) _ us e hu
     rw [e2,List.drop_append_of_le_length hx]
     have e4:p+skipN false l+x.text.length+((c::r).drop x.text.length).length=p+l.length:=by
      simp only [List.length_drop];omega
     rw [e4] at ih
     rcases ih with ih | ih
     ·rw [ih];exact .inl rfl
     ·rw [ih];exact .inr rfl
end Go.Proofs.YtgkhmmlemgikjaaGreatDoor.Lx
namespace Go.Proofs.YtgkhmmlemgikjaaGreatDoor
open Go Ai
end Go.Proofs.YtgkhmmlemgikjaaGreatDoor
namespace Go.Proofs.YtgkhmmlemgikjaaGreatDoor
open Go Ai
theorem fn10:A.fn 10=some a10:=by kernel_rfl
theorem prim10:A.prim 10=none:=by kernel_rfl
def Bd (B:Int) (R:Rd):Prop:=R.c≠0→0≤R.b∧R.b≤B
def PosB (L:List Tk) (B:Int):Prop:=∀R,0≤posF L R∧posF L R≤B
def BdE (B:Int) {α:Type} (E:RM α):Prop:=∀R,Bd B R→Bd B (E R).2
section
variable {L:List Tk} {B:Int} {R:Rd}
theorem Bd.adv (h:Bd B R):Bd B R.adv:=h
theorem Bd.put {x:Ex} (h:Bd B R):Bd B (putR x R).2:=h
theorem Bd.fail (hL:PosB L B) {c:Int} (h:Bd B R):Bd B (failR L c R):=by
 unfold failR;split
 ·exact fun _=>hL R
 ·exact h
theorem Bd.want (hL:PosB L B) {w:Sx} (h:Bd B R):Bd B (wantR L w R):=by
 unfold wantR;split
 ·exact h.adv
 ·exact h.fail hL
theorem Bd.name (hL:PosB L B):BdE B (nameR L):=fun R h=>by
 unfold nameR;split
 ·exact h.adv
 ·exact h.fail hL
theorem Bd.kind (hL:PosB L B):BdE B (kindR L):=fun R h=>by
 unfold kindR;split
 ·exact h.adv
 ·exact h.want hL
theorem bd_chain {P:RM Int} (hP:BdE B P) {least:Int}:∀(m:Nat) (a:Int),BdE B (chainF L P least m a)
 | 0,_=>fun _ h=>h
 | m+1,a=>fun R h=>by
  simp only [chainF]
  repeat' split
  ·exact (hP _ h.adv).put
  ·exact bd_chain hP m _ _ (hP _ h.adv).put
  ·exact h
  ·exact h
theorem bd_bin {P:RM Int} (hP:BdE B P):∀n,BdE B (binF L P n)
 | 0=>hP
 | n+1=>fun R h=>bd_chain (bd_bin hP n) _ _ _ (bd_bin hP n R h)
theorem bd_args {E:RM Int} (hE:BdE B E):∀(m:Nat) (l:List Int),BdE B (argsF L E m l)
 | 0,_=>fun _ h=>h
 | m+1,l=>fun R h=>by
  simp only [argsF];split
  ·exact bd_args hE m _ _ (hE _ h.adv)
  ·exact h
theorem bd_call (hL:PosB L B) {E:RM Int} (hE:BdE B E):BdE B (callF L E):=fun R h=>by
 unfold callF;split
 ·exact h.adv
 ·exact (bd_args hE _ _ _ (hE _ h)).want hL
theorem bd_atom (hL:PosB L B) {E:RM Int} (hE:BdE B E):BdE B (atomF L E):=fun R h=>by
 unfold atomF
 simp only []
 repeat' split
 ·exact h.adv.put
 ·exact h.adv.put
 ·exact h.adv.put
 ·exact (Bd.name hL _ h.adv.adv).put
 ·exact (bd_call hL hE _ h.adv.adv).put
 ·exact h.adv.put
 ·exact (hE _ (h.want hL)).want hL
theorem bd_ep (hL:PosB L B):∀f,BdE B (epF L f).1∧BdE B (epF L f).2
 | 0=>⟨fun _ h=>h.fail hL,fun _ h=>h.fail hL⟩
 | f+1=>by
  obtain ⟨hE,hP⟩:=bd_ep hL f
  refine ⟨fun R h=>?_,fun R h=>?_⟩
  ·simp only [epF]
   split
   ·unfold exprB
    split
    ·exact (hE _ ((hE _ ((hE _ h.adv).want hL)).want hL)).put
    ·have hb:=bd_bin (L:=L) hP 5 R h
     simp only []
     split
     ·exact (hE _ hb.adv).put
     ·exact hb
   ·exact h
  ·simp only [epF]
   split
   ·unfold prefB
    split
    ·exact bd_atom hL hE R h
    ·exact (hP _ h.adv).put
   ·exact h
theorem bd_expr (hL:PosB L B):BdE B (exprF L):=(bd_ep hL 30).1
theorem bd_pms (hL:PosB L B):∀(m:Nat) (l:List Pm),BdE B (pmsF L m l)
 | 0,_=>fun _ h=>h
 | m+1,l=>fun R h=>by
  simp only [pmsF]
  have h1:=Bd.kind hL _ ((Bd.name hL _ h).want hL (w:=[58]))
  repeat' split
  ·exact bd_pms hL m _ _ h1.adv
  ·exact h1.want hL
  ·exact h
theorem bd_params (hL:PosB L B):BdE B (paramsF L):=fun R h=>by
 unfold paramsF;split
 ·exact (h.want hL).adv
 ·exact bd_pms hL _ _ _ (h.want hL)
theorem bd_sts (hL:PosB L B):∀(m:Nat) (l:List Sx),BdE B (stsF L m l)
 | 0,_=>fun _ h=>h
 | m+1,l=>fun R h=>by
  simp only [stsF];split
  ·exact bd_sts hL m _ _ (Bd.name hL _ h.adv)
  ·exact h
theorem bd_item (hL:PosB L B) {all:Bool}:BdE B (itmF L all):=fun R h=>by
 have N:=Bd.name (L:=L) hL
 have K:=Bd.kind (L:=L) hL
 have E:=bd_expr (L:=L) hL
 have W:∀{w:Sx} {R:Rd},Bd B R→Bd B (wantR L w R):=fun h=>h.want hL
 unfold itmF finR
 simp only []
 split
 ·exact W (E _ (W (K _ (W (N _ h.adv)))))
 split
 ·exact W (E _ (W (E _ (W (N _ h.adv)))))
 split
 ·exact W (E _ (W (E _ (W (N _ h.adv)))))
 split
 ·exact W (E _ (W (K _ (W (N _ h.adv)))))
 split
 ·exact W (E _ (W (N _ (W (E _ h.adv)))))
 split
 ·exact W (W (bd_sts hL _ _ _ (N _ (W (N _ h.adv)))))
 split
 ·exact W (N _ (W (E _ (W (N _ (W (N _ h.adv)))))))
 split
 ·exact W (N _ h.adv)
 ·exact h
theorem bd_its (hL:PosB L B) {all:Bool}:∀(m:Nat) (l:List It),BdE B (itsF L all m l)
 | 0,_=>fun _ h=>h
 | m+1,l=>fun R h=>by
  simp only [itsF]
  repeat' split
  ·exact bd_its hL m _ _ (bd_item hL _ h)
  ·exact bd_item hL _ h
  ·exact h
theorem bd_declB (hL:PosB L B) {k p:Int}:BdE B (declB L k p):=fun R h=>by
 have N:=Bd.name (L:=L) hL
 have K:=Bd.kind (L:=L) hL
 have E:=bd_expr (L:=L) hL
 have P:=bd_params (L:=L) hL
 have W:∀{w:Sx} {R:Rd},Bd B R→Bd B (wantR L w R):=fun h=>h.want hL
 unfold declB
 simp only []
 split
 ·exact W (bd_its hL _ _ _ (W (P _ (N _ h))))
 split
 ·exact W (E _ (W (K _ (W (P _ (N _ h))))))
 ·exact W (W (E _ (W (bd_its hL _ _ _ (W (K _ (W (P _ (N _ h)))))))))
theorem bd_decl (hL:PosB L B):BdE B (dclF L):=fun R h=>by
 unfold dclF
 repeat' split
 ·exact bd_declB hL _ h.adv
 ·exact bd_declB hL _ h.adv
 ·exact bd_declB hL _ (h.want hL)
theorem bd_dcls (hL:PosB L B):∀(m:Nat) (l:List Dc),BdE B (dclsF L m l)
 | 0,_=>fun _ h=>h
 | m+1,l=>fun R h=>by
  simp only [dclsF];split
  ·exact bd_dcls hL m _ _ (bd_decl hL _ h)
  ·exact h
theorem bd_read (hL:PosB L B) {ex:Bool}:Bd B (readF L ex).2:=by
 have h0:Bd B (⟨0,[],0,0⟩:Rd):=fun h=>absurd rfl h
 have he:∀{R:Rd},Bd B R→Bd B (endR L R):=fun h=>by
  unfold endR;split
  ·exact h.fail hL
  ·exact h
 unfold readF
 split
 ·exact he (bd_expr hL _ h0)
 ·exact he (bd_dcls hL _ _ _ h0)
end
theorem lexK_pos {s:Sx} {ts:List Tk} (h:Lx.lexK s 0=.ok ts):PosB ts s.length:=by
 intro R
 unfold posF tkF
 rw [List.getD_eq_getElem?_getD]
 refine ⟨by omega,?_⟩
 rcases Nat.lt_or_ge R.i ts.length with hi | hi
 ·have hm:ts[R.i]∈ts:=List.getElem_mem hi
  have h2:ts[R.i].pos≤(0+Lx.skipN false s)+(s.drop (Lx.skipN false s)).length:=Lx.lexS_pos _ _ (Nat.le_refl _) _ _ h _ hm
  have h3:=Lx.skipN_le false s
  rw [List.length_drop] at h2
  simp [hi];omega
 ·simp [hi]
theorem spoil_bad {s:Sx} (hs:s.length≤4000) (h:(parseF s false).2.2.1≠0):(parseF s false).1=noPg∧0≤(parseF s false).2.2.2∧(parseF s false).2.2.2≤s.length:=by
 have l1:¬20000<s.length:=by omega
 unfold parseF at h ⊢
 rw [if_neg l1] at h ⊢
 cases hlx:Lx.lexK s 0 with
 | error p =>
  simp only []
  obtain ⟨h1,h2,_⟩:=Lx.lexK_cut _ s (Nat.le_refl _) 0 p hlx
  exact ⟨trivial,by omega,by omega⟩
 | ok ts =>
  simp only [hlx] at h ⊢
  by_cases hc:(readF ts false).2.c=0
  ·rw [if_pos hc] at h;exact absurd rfl h
  ·rw [if_neg hc]
   have:=bd_read (lexK_pos hlx) (ex:=false) hc
   exact ⟨rfl,this⟩
theorem spoil_ok {s:Sx} (hs:s.length≤4000) (h:(parseF s false).2.2.1=0):((parseF (s++[32,64]) false).2.2.1=1∧(parseF (s++[32,64]) false).2.2.2=((s.length+1:Nat):Int))∨(parseF (s++[32,64]) false).2.2.1=0:=by
 have l1:¬20000<s.length:=by omega
 have l2:¬20000<(s++[32,64]).length:=by simp;omega
 cases hlx:Lx.lexK s 0 with
 | error p=>simp [parseF,l1,hlx] at h
 | ok ts =>
 obtain ⟨us,rfl,hk⟩:=Lx.lexK_end _ s (Nat.le_refl _) 0 ts hlx
 rcases Lx.lex_spoil _ s (Nat.le_refl _) 0 us _ hlx with hx | hx
 ·left
  simp only [parseF,if_neg l2,hx]
  exact ⟨trivial,by simp⟩
 ·right
  obtain ⟨t1,ht1⟩:∃t1,t1=us++[(⟨5,[],0,0+s.length⟩:Tk)]:=⟨_,rfl⟩
  obtain ⟨t2,ht2⟩:∃t2,t2=us++[(⟨5,[],0,0+s.length+2⟩:Tk)]:=⟨_,rfl⟩
  rw [←ht1] at hlx
  rw [←ht2] at hx
  have hc:(readF t1 false).2.c=0:=by
   simp only [parseF,if_neg l1,hlx] at h
   split at h
   ·assumption
   ·exact h
  have L1:t1.length=us.length+1:=by rw [ht1];simp
  have S:Sim t1 t2 0:=by
   refine ⟨fun i hi=>?_,fun i hi=>?_,by rw [L1,ht2];simp⟩
   ·have hi':i<us.length:=by omega
    have e1:t1.getD i e0T=us.getD i e0T:=by rw [ht1];simp [List.getD_eq_getElem?_getD,List.getElem?_append_left hi']
    have e2:t2.getD (i+0) e0T=us.getD i e0T:=by rw [ht2];simp [List.getD_eq_getElem?_getD,List.getElem?_append_left hi']
    rw [e1,e2];exact ⟨rfl,rfl,rfl⟩
   ·obtain rfl:i=us.length:=by omega
    refine ⟨by rw [ht1];simp [List.getD_eq_getElem?_getD],.inl (by rw [ht2];simp [List.getD_eq_getElem?_getD])⟩
  have S5:End5 t1 t2 0:=fun i hi=>by
   obtain rfl:i=us.length:=by omega
   rw [ht2];simp [List.getD_eq_getElem?_getD]
  have:=(sim_read S S5 rfl (by omega) hc).1
  simp only [parseF,if_neg l2,hx,this,if_true]
theorem law10_run {s:Sx} (hs:s.length≤281474976710656):runL A (.seqc 10 [.str s]) []=some ⟨.ret,⟨[.bool true],[]⟩,[]⟩:=by
 have hst:StOk []:=StOk.nil
 have c1:=alive_call hst
 by_cases hl:4000<s.length
 ·refine (task_of_aw (N:=70) prim10 fn10 rfl rfl StOk.nil ?_).2
  intro e he ha K hK
  have a0:=ha 0
  clear ha
  simp at a0
  have hl':(4000:Int)<s.length:=by omega
  simp [a10,he,a0,c1,hl']
  exact hK _ _ _ (.inl rfl) (by simp) ⟨_,rfl,by simp [he,AV.still]⟩
 have hl':¬(4000:Int)<s.length:=by omega
 have c2:=parse26 hs hst
 have c3:=parse26 (s:=s++[32,64]) (by simp;omega) hst
 have hb:=spoil_bad (s:=s) (by omega)
 have hg:=spoil_ok (s:=s) (by omega)
 generalize parseF s false=P at *
 generalize parseF (s++[32,64]) false=G at *
 obtain ⟨p,e0,c,b⟩:=P
 obtain ⟨p2,e2,cg,bg⟩:=G
 have w1:IntKind.i64.wrap ((s.length:Int)+1)=(s.length:Int)+1:=wrap_i64 (by omega) (by omega)
 have y1:s.length+2≤281474976710656:=by omega
 simp only [Pg.av] at c2 c3 hb hg
 by_cases hc:c=0
 ·subst hc
  rcases hg rfl with ⟨h1,h2⟩ | h1
  ·subst h1;subst h2
   refine (task_of_aw (N:=70) prim10 fn10 rfl rfl StOk.nil ?_).2
   intro e he ha K hK
   have a0:=ha 0
   clear ha
   simp at a0
   simp [a10,he,a0,c1,hl',c2,c3,w1,y1]
   exact hK _ _ _ (.inl rfl) (by simp) ⟨_,rfl,by simp [he,AV.still]⟩
  ·subst h1
   refine (task_of_aw (N:=70) prim10 fn10 rfl rfl StOk.nil ?_).2
   intro e he ha K hK
   have a0:=ha 0
   clear ha
   simp at a0
   simp [a10,he,a0,c1,hl',c2,c3,w1,y1]
   exact hK _ _ _ (.inl rfl) (by simp) ⟨_,rfl,by simp [he,AV.still]⟩
 ·obtain ⟨rfl,h1,h2⟩:=hb hc
  simp only [fixP,noPg,List.map_nil] at c2
  refine (task_of_aw (N:=70) prim10 fn10 rfl rfl StOk.nil ?_).2
  intro e he ha K hK
  have a0:=ha 0
  clear ha
  simp at a0
  simp [a10,he,a0,c1,hl',c2,c3,hc,h1,h2,y1]
  exact hK _ _ _ (.inl rfl) (by simp) ⟨_,rfl,by simp [he,AV.still]⟩
end Go.Proofs.YtgkhmmlemgikjaaGreatDoor
namespace Go.Proofs.YtgkhmmlemgikjaaGreatDoor
open Go Ai
end Go.Proofs.YtgkhmmlemgikjaaGreatDoor
