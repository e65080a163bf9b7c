/- Part Kp. No condition. -/
import Derived.Test.YtgkhmmlemgikjaaGreatDoorKi
import Derived.Test.YtgkhmmlemgikjaaGreatDoorKo
import Derived.Test.YtgkhmmlemgikjaaGreatDoorKk
import Derived.Test.YtgkhmmlemgikjaaGreatDoorKn
set_option linter.unusedVariables false
set_option linter.unusedSimpArgs false
namespace Go.Proofs.YtgkhmmlemgikjaaGreatDoor.Lx
open Go Ai Go.Proofs.YtgkhmmlemgikjaaGreatDoor
theorem lf_step (a n k:Nat):1+(if a=n then n+1+k else a)=if 1+a=n+1 then n+1+1+k else 1+a:=by
 by_cases h:a=n
 ·rw [if_pos h,if_pos (by omega)];omega
 ·rw [if_neg h,if_neg (by omega)]
theorem skipN_lf:∀(b:Bool) (l t:List UInt8),skipN b (l++10::t)=if skipN b l=l.length then l.length+1+skipN false t else skipN b l
 | true,[],t=>by simp [skipN]
 | false,[],t=>by simp [skipN,gapB]
 | true,c::l,t=>by
  have:=skipN_lf (!decide (c=10)) l t
  simp only [List.cons_append,skipN,this,List.length_cons]
  exact lf_step _ _ _
 | false,c::l,t=>by
  have h1:=skipN_lf true l t
  have h2:=skipN_lf false l t
  simp only [List.cons_append,skipN,h1,h2,List.length_cons]
  split
  ·exact lf_step _ _ _
  ·split
   ·exact lf_step _ _ _
   ·rw [if_neg (by omega)]
theorem skipN_app {b:Bool} {l z:List UInt8} (h:skipN b l<l.length):skipN b (l++z)=skipN b l:=by
 induction l generalizing b with
 | nil=>simp at h
 | cons c l ih =>
  cases b with
  | true =>
   rw [skipN] at h
   rw [List.cons_append,skipN,skipN,ih (by simpa using (by simp at h;omega))]
  | false =>
   rw [skipN] at h
   rw [List.cons_append,skipN,skipN]
   split at h
   ·rename_i h1;rw [if_pos h1,if_pos h1,ih (by simp at h;omega)]
   ·rename_i h1
    rw [if_neg h1,if_neg h1]
    split at h
    ·rename_i h2;rw [if_pos h2,if_pos h2,ih (by simp at h;omega)]
    ·rename_i h2;rw [if_neg h2,if_neg h2]
theorem map_ok {α β} {f:α→β} {x:Except Nat α} {b:β} (h:x.map f=.ok b):∃a,x=.ok a∧f a=b:=by
 cases x with
 | error e=>cases h
 | ok a=>exact ⟨a,rfl,by cases h;rfl⟩
theorem lexK_cases (l:List UInt8) (p:Nat) :
  (skipN false l=l.length∧lexK l p=.ok [⟨5,[],0,p+l.length⟩]) ∨
  (∃c r,l.drop (skipN false l)=c::r∧skipN false l<l.length∧(
   ((tokOf (c::r) (p+skipN false l)).2=false∧lexK l p=.error (p+skipN false l)) ∨
   ∃x,tokOf (c::r) (p+skipN false l)=(x,true)∧0<x.text.length∧lexK l p=(lexK ((c::r).drop x.text.length) (p+skipN false l+x.text.length)).map (x::·))):=by
 have hle:=skipN_le false l
 by_cases h:skipN false l=l.length
 ·left
  refine ⟨h,?_⟩
  unfold lexK
  rw [h,List.drop_length,lexS_nil]
 ·right
  cases hd:l.drop (skipN false l) with
  | nil =>
   have:=congrArg List.length hd
   simp at this;omega
  | cons c r =>
   refine ⟨c,r,rfl,by omega,?_⟩
   cases ht:(tokOf (c::r) (p+skipN false l)).2 with
   | false =>
    left
    refine ⟨rfl,?_⟩
    unfold lexK
    rw [hd,lexS_bad ht]
   | true =>
    right
    refine ⟨(tokOf (c::r) (p+skipN false l)).1,by rw [←ht],tokOf_pos ht,?_⟩
    unfold lexK
    rw [hd,lexS_tok (by rw [←ht])]
    rfl
theorem tok_same {c:UInt8} {r:List UInt8} {p:Nat} {x:Tok} (h:tokOf (c::r) p=(x,true)):({ x with pos:=p }:Tok)=x:=by
 have:=(tokOf_shift c r p 0).2
 rw [h] at this
 cases x;simp at this ⊢;exact this.symm
theorem lexK_end:∀(n:Nat) (l:List UInt8),l.length≤n→∀p ts,lexK l p=.ok ts→∃us,ts=us++[⟨5,[],0,p+l.length⟩]∧∀u∈us,u.kind≠5∧0<u.text.length∧u.text.length≤l.length
 | n,l,hn,p,ts,h=>by
  rcases lexK_cases l p with ⟨h1,h2⟩ | ⟨c,r,hd,hlt,⟨h1,h2⟩ | ⟨x,h1,h2,h3⟩⟩
  ·rw [h2] at h;cases h
   exact ⟨[],rfl,by simp⟩
  ·rw [h2] at h;cases h
  ·rw [h3] at h
   obtain ⟨us,hu,rfl⟩:=map_ok h
   have hlen:=congrArg List.length hd
   simp only [List.length_drop] at hlen
   have hx:=tokOf_le h1
   cases n with
   | zero=>omega
   | succ n =>
    obtain ⟨vs,rfl,hv⟩:=lexK_end n _ (by simp only [List.length_drop];simp at hlen hx ⊢;omega) _ us hu
    refine ⟨x::vs,?_,?_⟩
    ·rw [List.cons_append]
     congr 4
     simp only [List.length_drop];omega
    ·intro u hu
     rw [List.mem_cons] at hu
     rcases hu with rfl | hu
     ·refine ⟨?_,h2,by omega⟩
      have hk:∀y,tokOf (c::r) (p+skipN false l)=y→y.1.kind≠5:=by
       rintro y rfl
       rw [tokOf_cons]
       split
       ·simp only;split<;>decide
       ·split
        ·exact (by decide:(2:Nat)≠5)
        ·exact (by decide:(4:Nat)≠5)
      exact hk _ h1
     ·obtain ⟨g1,g2,g3⟩:=hv u hu
      exact ⟨g1,g2,by simp only [List.length_drop] at g3;omega⟩
theorem safe_two (r t:List UInt8):Safe (r++10::t) r:=by
 cases r with
 | nil=>exact .inr (.inl ⟨t,.inr rfl⟩)
 | cons d r =>
  refine .inr (.inr ⟨d,r++10::t,r,rfl,rfl,.inr ?_⟩)
  cases r with
  | nil=>exact .inl ⟨t,.inl rfl⟩
  | cons e r=>exact .inr ⟨e,_,r,rfl,rfl⟩
theorem lexK_two:∀(n:Nat) (l:List UInt8),l.length≤n→∀p ts,lexK l p=.ok ts→∀t,lexK (l++10::t) p=(lexK t (p+l.length+1)).map (ts.dropLast++·)
 | n,l,hn,p,ts,h,t=>by
  rcases lexK_cases l p with ⟨h1,h2⟩ | ⟨c,r,hd,hlt,⟨h1,h2⟩ | ⟨x,h1,h2,h3⟩⟩
  ·rw [h2] at h;cases h
   have hs:skipN false (l++10::t)=l.length+1+skipN false t:=by rw [skipN_lf,if_pos h1]
   unfold lexK
   rw [hs]
   have e1:(l++10::t).drop (l.length+1+skipN false t)=t.drop (skipN false t):=by
    rw [Nat.add_assoc,←List.drop_drop,List.drop_left,Nat.add_comm,List.drop_succ_cons]
   rw [e1,←Nat.add_assoc,←Nat.add_assoc]
   cases lexS (t.drop (skipN false t)) (p+l.length+1+skipN false t)<;>rfl
  ·rw [h2] at h;cases h
  ·rw [h3] at h
   obtain ⟨us,hu,rfl⟩:=map_ok h
   have hlen:=congrArg List.length hd
   simp only [List.length_drop] at hlen
   have hx:=tokOf_le h1
   have hs:skipN false (l++10::t)=skipN false l:=skipN_app hlt
   obtain ⟨_,h5,_⟩:=tok_again (pos':=p+skipN false l) h1 (z:=[]) (.inl rfl)
   have h4:=(tok_again (pos':=p+skipN false l) h1 (safe_two ((c::r).drop x.text.length) t)).1
   rw [←List.append_assoc,←h5] at h4
   have e1:(l++10::t).drop (skipN false l)=(c::r)++10::t:=by
    rw [List.drop_append_of_le_length (by omega),hd]
   cases n with
   | zero=>omega
   | succ n =>
    have ih:=lexK_two n _ (by simp only [List.length_drop];simp at hlen hx ⊢;omega) _ us hu t
    have e2:lexK (l++10::t) p=(lexK (((c::r)++10::t).drop x.text.length) (p+skipN false l+x.text.length)).map (x::·):=by
     conv=>lhs;unfold lexK
     rw [hs,e1]
     rw [tok_same h1] at h4
     exact lexS_tok (c:=c) (l:=r++10::t) h4
    obtain ⟨vs,hv,_⟩:=lexK_end _ _ (Nat.le_refl _) _ us hu
    have e3:(x::us).dropLast=x::us.dropLast:=by rw [hv,←List.cons_append,List.dropLast_concat,List.dropLast_concat]
    rw [e2,List.drop_append_of_le_length hx,ih,map_map',e3]
    have e4:p+skipN false l+x.text.length+((c::r).drop x.text.length).length+1=p+l.length+1:=by
     simp only [List.length_drop];omega
    rw [e4];rfl
def shE (q:Nat):Except Nat (List Tok)→Except Nat (List Tok)
 | .ok ts=>.ok (ts.map fun t=>{ t with pos:=t.pos+q })
 | .error e=>.error (e+q)
theorem lexK_shift:∀(n:Nat) (l:List UInt8),l.length≤n→∀p q,lexK l (p+q)=shE q (lexK l p)
 | n,l,hn,p,q=>by
  rcases lexK_cases l p with ⟨h1,h2⟩ | ⟨c,r,hd,hlt,h⟩
  ·rcases lexK_cases l (p+q) with ⟨_,g2⟩ | ⟨c,r,hd,hlt,_⟩
   ·rw [h2,g2];simp [shE];omega
   ·omega
  ·rcases lexK_cases l (p+q) with ⟨g1,_⟩ | ⟨c',r',hd',_,h'⟩
   ·omega
   ·rw [hd] at hd';cases hd'
    obtain ⟨s1,s2⟩:=tokOf_shift c r (p+skipN false l) (p+q+skipN false l)
    rcases h with ⟨h1,h2⟩ | ⟨x,h1,h2,h3⟩
    ·rcases h' with ⟨g1,g2⟩ | ⟨y,g1,_,_⟩
     ·rw [h2,g2];simp [shE];omega
     ·rw [s1,h1] at g1;cases g1
    ·rcases h' with ⟨g1,_⟩ | ⟨y,g1,g2,g3⟩
     ·rw [s1,h1] at g1;cases g1
     ·rw [s1,h1] at g1
      cases g1
      rw [h1] at s2
      have hlen:=congrArg List.length hd
      simp only [List.length_drop] at hlen
      have hx:=tokOf_le h1
      cases n with
      | zero=>omega
      | succ n =>
       have ih:=lexK_shift n ((c::r).drop x.text.length) (by simp only [List.length_drop];simp at hlen hx ⊢;omega) (p+skipN false l+x.text.length) q
       have e4:p+q+skipN false l+x.text.length=p+skipN false l+x.text.length+q:=by omega
       rw [h3,g3]
       simp only
       rw [e4,ih]
       cases lexK ((c::r).drop x.text.length) (p+skipN false l+x.text.length) with
       | error e=>rfl
       | ok ts =>
        simp only [shE,Except.map,List.map_cons,s2]
        have s2':x.pos=p+skipN false l:=s2
        congr 3;omega
def place:Nat→List Tok→List Tok
 | _,[]=>[]
 | p,u::us=>{ u with pos:=p }::place (p+u.text.length+1) us
end Go.Proofs.YtgkhmmlemgikjaaGreatDoor.Lx
namespace Go.Proofs.YtgkhmmlemgikjaaGreatDoor.Lx
open Go Ai Go.Proofs.YtgkhmmlemgikjaaGreatDoor
theorem tok40 (r:List UInt8) (p:Nat):tokOf (40::r) p=(⟨4,[40],0,p⟩,true):=by
 cases r with
 | nil=>rfl
 | cons d r =>
  have h1:letB 40=false:=by decide
  have h2:digB 40=false:=by decide
  have h3:twoB 40 d=false:=by simp [twoB]
  have h4:signLen (40::d::r)=1:=by simp [signLen,h3,ones]
  simp [tokOf,h1,h2,h4]
theorem lex40 (r:List UInt8) (p:Nat):lexK (40::r) p=(lexK r (p+1)).map (⟨4,[40],0,p⟩::·):=by
 have hs:skipN false (40::r)=0:=by rw [skipN,if_neg (by decide),if_neg (by decide)]
 unfold lexK
 rw [hs,List.drop_zero,Nat.add_zero,lexS_tok (tok40 r p)]
 rfl
theorem lex41 (p:Nat):lexK [41] p=.ok [⟨4,[41],0,p⟩,⟨5,[],0,p+1⟩]:=by
 have h:=lexK_shift _ [41] (Nat.le_refl _) 0 p
 rw [Nat.zero_add] at h
 rw [h,show lexK [41] 0=.ok [⟨4,[41],0,0⟩,⟨5,[],0,1⟩] by kernel_rfl]
 simp [shE,Nat.add_comm]
theorem lex_close {s:List UInt8} {us:List Tok} {e:Tok} (h:lexK s 0=.ok (us++[e])):lexK (s++[10,41]) 0=.ok (us++[⟨4,[41],0,s.length+1⟩,⟨5,[],0,s.length+2⟩]):=by
 have h2:=lexK_two _ s (Nat.le_refl _) 0 _ h [41]
 rw [h2,lex41,Nat.zero_add]
 simp [Except.map]
theorem lex_brack {s:List UInt8} {us:List Tok} {e:Tok} (h:lexK s 0=.ok (us++[e])):lexK (40::(s++[10,41])) 0=.ok (⟨4,[40],0,0⟩::(us.map (fun t=>{ t with pos:=t.pos+1 })++[⟨4,[41],0,s.length+2⟩,⟨5,[],0,s.length+3⟩])):=by
 have h2:=lexK_shift _ (s++[10,41]) (Nat.le_refl _) 0 1
 rw [lex_close h] at h2
 rw [lex40,h2]
 simp [shE,Except.map]
end Go.Proofs.YtgkhmmlemgikjaaGreatDoor.Lx
namespace Go.Proofs.YtgkhmmlemgikjaaGreatDoor
open Go Ai
theorem fn7:A.fn 7=some a7:=by kernel_rfl
theorem prim7:A.prim 7=none:=by kernel_rfl
theorem level_end {L:List Tk} {R:Rd} (h:(tkF L R).kind=5):levelR L R=(0,0):=by
 simp [levelR,lvTab,isR,h]
theorem pre_end {L:List Tk} {R:Rd} (h:∀e∈preTab,isR L e.1 R=false):preR L R=0:=by
 have:preTab.find? (fun e=>isR L e.1 R)=none:=List.find?_eq_none.2 fun e he=>by simp [h e he]
 unfold preR
 rw [this]
theorem chain_end {L:List Tk} {B:RM Int} {least:Int} (hl:least≠0) {R:Rd} (h:(tkF L R).kind=5) {a:Int}:∀m,chainF L B least m a R=(a,R)
 | 0=>rfl
 | m+1=>by
  simp only [chainF]
  split
  ·rw [if_neg]
   rw [level_end h];exact fun e=>hl e.symm
  ·rfl
theorem bin_end {L:List Tk} {P:RM Int} {R:Rd} (h:(tkF L (P R).2).kind=5):∀n,n≤5→binF L P n R=P R
 | 0,_=>rfl
 | n+1,hn=>by
  have ih:=bin_end h n (by omega)
  simp only [binF,ih]
  rw [chain_end (by omega) h]
theorem bin_stk {L:List Tk} {P:RM Int} {R:Rd}:∀n,Stk (P R).2 (binF L P n R).2
 | 0=>.refl
 | n+1=>(bin_stk n).trans (stk_chain _ _ _)
theorem brackets {s:Sx} (hs:s.length≤400) (h:(parseF s true).2.2.1=0) :
  ((parseF (40::(s++[10,41])) true).2.2.1=3∨((parseF (40::(s++[10,41])) true).2.2.1=0∧(parseF s true).1.xs.map Ex.z=(parseF (40::(s++[10,41])) true).1.xs.map Ex.z∧(parseF (40::(s++[10,41])) true).2.1=(parseF s true).2.1)) ∧
  (parseF (s++[10,41]) true).2.2.1=2∧(parseF (s++[10,41]) true).2.2.2=((s.length+1:Nat):Int):=by
 have l1:¬20000<s.length:=by omega
 have l2:¬20000<(40::(s++[10,41])).length:=by simp;omega
 have l3:¬20000<(s++[10,41]).length:=by simp;omega
 cases hlx:Lx.lexK s 0 with
 | error p=>simp [parseF,l1,hlx] at h
 | ok ts =>
 obtain ⟨us,rfl,hk⟩:=Lx.lexK_end _ s (Nat.le_refl _) 0 ts hlx
 have x2:=Lx.lex_brack hlx
 have x3:=Lx.lex_close hlx
 obtain ⟨t1,ht1⟩:∃t1,t1=us++[(⟨5,[],0,0+s.length⟩:Tk)]:=⟨_,rfl⟩
 obtain ⟨t2,ht2⟩:∃t2,t2=(⟨4,[40],0,0⟩:Tk)::(us.map (fun t=>{ t with pos:=t.pos+1 })++[⟨4,[41],0,s.length+2⟩,⟨5,[],0,s.length+3⟩]):=⟨_,rfl⟩
 obtain ⟨t3,ht3⟩:∃t3,t3=us++[(⟨4,[41],0,s.length+1⟩:Tk),⟨5,[],0,s.length+2⟩]:=⟨_,rfl⟩
 rw [←ht1] at hlx
 rw [←ht2] at x2
 rw [←ht3] at x3
 obtain ⟨E,hE⟩:∃E,E=exprF t1 ⟨0,[],0,0⟩:=⟨_,rfl⟩
 have hP:parseF s true=if (endR t1 E.2).c=0 then (⟨[],endAp 0,(endR t1 E.2).xs,endAp (endR t1 E.2).xs.length⟩,E.1,0,0) else (noPg,0,(endR t1 E.2).c,(endR t1 E.2).b):=by simp [parseF,l1,hlx,readF,←hE]
 have hz:(endR t1 E.2).c=0:=by
  rw [hP] at h
  split at h
  ·assumption
  ·exact h
 have hec:E.2.c=0∧(tkF t1 E.2).kind=5∧endR t1 E.2=E.2:=by
  unfold endR at hz ⊢
  split at hz
  ·rename_i h2;simp [failR,h2.1] at hz
  ·rename_i h2
   refine ⟨hz,?_,by rw [if_neg h2]⟩
   exact Classical.byContradiction fun hn=>h2 ⟨hz,hn⟩
 rw [if_pos hz,hec.2.2] at hP
 have L1:t1.length=us.length+1:=by rw [ht1];simp
 have at1:∀i,i<us.length→t1.getD i e0T=us.getD i e0T:=fun i hi=>by rw [ht1];simp [List.getD_eq_getElem?_getD,List.getElem?_append_left hi]
 have en1:t1.getD us.length e0T=⟨5,[],0,s.length⟩:=by rw [ht1];simp [List.getD_eq_getElem?_getD]
 have kn:∀i,i<us.length→(us.getD i e0T).kind≠5:=fun i hi=>by
  have:=(hk us[i] (List.getElem_mem hi)).1
  simpa [List.getD_eq_getElem?_getD,hi] using this
 have S3:Sim t1 t3 0:=by
  refine ⟨fun i hi=>?_,fun i hi=>?_,by rw [L1,ht3];simp⟩
  ·rw [at1 i (by omega)]
   have:t3.getD (i+0) e0T=us.getD i e0T:=by rw [ht3];simp [List.getD_eq_getElem?_getD,List.getElem?_append_left (show i<us.length by omega)]
   rw [this];exact ⟨rfl,rfl,rfl⟩
  ·obtain rfl:i=us.length:=by omega
   rw [en1]
   refine ⟨rfl,.inr ?_⟩
   rw [ht3];simp [List.getD_eq_getElem?_getD]
 have S2:Sim t1 t2 1:=by
  refine ⟨fun i hi=>?_,fun i hi=>?_,by rw [L1,ht2];simp⟩
  ·have hi':i<us.length:=by omega
   rw [at1 i hi']
   have:t2.getD (i+1) e0T={ us.getD i e0T with pos:=(us.getD i e0T).pos+1 }:=by
    rw [ht2];simp [List.getD_eq_getElem?_getD,List.getElem?_append_left (show i<(us.map (fun t:Tk=>{ t with pos:=t.pos+1 })).length by simpa using hi'),hi']
   rw [this];exact ⟨rfl,rfl,rfl⟩
  ·obtain rfl:i=us.length:=by omega
   rw [en1]
   refine ⟨rfl,.inr ?_⟩
   rw [ht2];simp [List.getD_eq_getElem?_getD]
 have h0:RS t1 0 ⟨0,[],0,0⟩ ⟨0,[],0,0⟩:=⟨rfl,rfl,rfl,by rw [L1];simp,rfl⟩
 have h1:RS t1 1 ⟨0,[],0,0⟩ ⟨1,[],0,0⟩:=⟨rfl,rfl,rfl,by rw [L1];simp,rfl⟩
 have iend:E.2.i<t1.length→E.2.i=us.length:=fun hlt=>by
  rcases Nat.lt_or_ge E.2.i us.length with h2 | h2
  ·have h3:=hec.2.1
   unfold tkF at h3
   have h4:=at1 E.2.i h2
   have h5:=kn E.2.i h2
   unfold e0T at h4 h5
   rw [h4] at h3
   exact absurd h3 h5
  ·omega
 constructor
 ·-- in brackets
  obtain ⟨F,hF⟩:∃F,F=(epF t2 28).1 ⟨1,[],0,0⟩:=⟨_,rfl⟩
  have o2:=(sim_ep (d:=True) S2 30 28 (fun _=>trivial)).1 _ _ h1 (by show (exprF t1 _).2.c=0;rw [←hE];exact hec.1)
  rw [←hF] at o2
  have tk0:tkF t2 ⟨0,[],0,0⟩=⟨4,[40],0,0⟩:=by rw [tkF,ht2];rfl
  have is0:∀w:Sx,w≠[40]→isR t2 w ⟨0,[],0,0⟩=false:=fun w hw=>by
   simp only [isR,tk0];simp;exact fun e=>hw e.symm
  have is1:isR t2 [40] ⟨0,[],0,0⟩=true:=by simp [isR,tk0]
  have hat:atomF t2 (epF t2 28).1 ⟨0,[],0,0⟩=(F.1,wantR t2 [41] F.2):=by
   have hw:wantR t2 [40] ⟨0,[],0,0⟩=⟨1,[],0,0⟩:=by rw [wantR,if_pos is1];rfl
   simp [atomF,tk0,is0,hw,←hF]
  have hpf:(epF t2 29).2 ⟨0,[],0,0⟩=(F.1,wantR t2 [41] F.2):=by
   have:preR t2 ⟨0,[],0,0⟩=0:=pre_end fun e he=>is0 _ (by simp [preTab] at he;rcases he with rfl | rfl | rfl | rfl<;>decide)
   show prefB t2 (epF t2 28).1 (epF t2 28).2 ⟨0,[],0,0⟩=_
   rw [prefB,if_pos this,hat]
  have hex:exprF t2 ⟨0,[],0,0⟩=exprB t2 (epF t2 29).1 (epF t2 29).2 ⟨0,[],0,0⟩:=rfl
  have hq:∀X,exprF t2 ⟨0,[],0,0⟩=X→parseF (40::(s++[10,41])) true=if (endR t2 X.2).c=0 then (⟨[],endAp 0,(endR t2 X.2).xs,endAp (endR t2 X.2).xs.length⟩,X.1,0,0) else (noPg,0,(endR t2 X.2).c,(endR t2 X.2).b):=fun X hX=>by
   simp only [parseF,if_neg l2,x2,readF,if_true,hX]
   rfl
  rw [exprB,if_neg (by rw [is0 _ (by decide)];decide)] at hex
  simp only [] at hex
  rcases o2 with ⟨_,hc3⟩ | ⟨hv,hR⟩
  ·left
   have c1:(binF t2 (epF t2 29).2 5 ⟨0,[],0,0⟩).2.c=3:=(bin_stk 5).three (by rw [hpf];exact Stk.want.three hc3)
   have n1:∀w,isR t2 w (binF t2 (epF t2 29).2 5 ⟨0,[],0,0⟩).2=false:=fun w=>by simp [isR,c1]
   rw [n1,n1] at hex
   simp only [Bool.or_self,Bool.false_eq_true,if_false] at hex
   rw [hq _ hex]
   simp [endR,c1]
  ·right
   have hlt:=hR.lt
   have hi:=hR.i
   have e1:(epF t1 30).1 ⟨0,[],0,0⟩=E:=by rw [hE];rfl
   rw [e1] at hv hR hlt hi
   rw [iend hlt] at hi
   have tk1:tkF t2 F.2=⟨4,[41],0,s.length+2⟩:=by
    rw [tkF,hi,ht2];simp [List.getD_eq_getElem?_getD]
   have w1:wantR t2 [41] F.2=F.2.adv:=by rw [wantR,if_pos (by simp [isR,tk1,hR.c'])]
   have tk2:(tkF t2 F.2.adv).kind=5:=by
    have:F.2.adv.i=us.length+2:=by show F.2.i+1=_;omega
    rw [tkF,this,ht2];simp [List.getD_eq_getElem?_getD]
   have c1:binF t2 (epF t2 29).2 5 ⟨0,[],0,0⟩=(F.1,F.2.adv):=by
    have:=bin_end (L:=t2) (P:=(epF t2 29).2) (R:=⟨0,[],0,0⟩) (by rw [hpf,w1];exact tk2) 5 (Nat.le_refl _)
    rw [this,hpf,w1]
   rw [c1] at hex
   have n1:∀w,isR t2 w F.2.adv=false:=fun w=>by simp [isR,tk2]
   simp only [n1,Bool.or_self,Bool.false_eq_true,if_false] at hex
   have hend:endR t2 F.2.adv=F.2.adv:=by simp [endR,tk2]
   have hcz:F.2.adv.c=0:=hR.c'
   rw [hq _ hex]
   simp only [hend,hcz,if_true]
   rw [hP]
   exact ⟨trivial,hR.xs,hv.symm⟩
 ·rcases sim_exprF S3 _ _ h0 (by rw [←hE];exact hec.1) with ⟨hf,_⟩ | ⟨hv,hR⟩
  ·exact hf.elim
  rw [←hE] at hv hR
  obtain ⟨F,hF⟩:∃F,F=exprF t3 ⟨0,[],0,0⟩:=⟨_,rfl⟩
  rw [←hF] at hv hR
  have hi:=hR.i
  rw [iend hR.lt] at hi
  have tk1:tkF t3 F.2=⟨4,[41],0,s.length+1⟩:=by
   rw [tkF,hi,ht3];simp [List.getD_eq_getElem?_getD]
  have hend:endR t3 F.2={ F.2 with c:=2,b:=((s.length+1:Nat):Int) }:=by
   simp [endR,tk1,hR.c',failR,posF]
  have hq:parseF (s++[10,41]) true=(noPg,0,2,((s.length+1:Nat):Int)):=by
   simp only [parseF,if_neg l3,x3,readF,if_true,←hF,hend]
   rfl
  rw [hq]
  exact ⟨rfl,rfl⟩
theorem law7_run {s:Sx} (hs:s.length≤281474976710656):runL A (.seqc 7 [.str s]) []=some ⟨.ret,⟨[.bool true],[]⟩,[]⟩:=by
 have hst:StOk []:=StOk.nil
 have c1:=alive_call hst
 by_cases hl:400<s.length
 ·have c2:=hl
  refine (task_of_aw (N:=67) prim7 fn7 rfl rfl StOk.nil ?_).2
  intro e he ha K hK
  have a0:=ha 0
  clear ha
  simp at a0
  have hl':(400:Int)<s.length:=by omega
  simp [a7,he,a0,c1,hl']
  exact hK _ _ _ (.inl rfl) (by simp) ⟨_,rfl,by simp [he,AV.still]⟩
 have hl':¬(400:Int)<s.length:=by omega
 have c2:=expr_call hs hst
 have c3:=expr_call (s:=40::(s++[10,41])) (by simp;omega) hst
 have c4:=expr_call (s:=s++[10,41]) (by simp;omega) hst
 have hb:=brackets (s:=s) (by omega)
 have hok:=(parse_ok s true).1
 have hok2:=(parse_ok (40::(s++[10,41])) true).1
 have hrg:=fun h=>((parse_ok s true).2 h).2 rfl
 have hmay:=parse_may s true
 have c5:∀a:Nat,(parseF s true).1.xs.map Ex.z=(parseF (40::(s++[10,41])) true).1.xs.map Ex.z→a<(parseF s true).1.xs.length→_:=fun a hz ha=>same25 hok hok2 hz (by unfold may4 at hmay;exact (Bool.and_eq_true_iff.1 hmay).1) hst (a+1) a (by omega) ha
 clear hok hok2 hmay
 generalize parseF s true=P at *
 generalize parseF (40::(s++[10,41])) true=G at *
 generalize parseF (s++[10,41]) true=H at *
 obtain ⟨p,e0,c,b⟩:=P
 obtain ⟨p2,e2,cg,bg⟩:=G
 obtain ⟨p3,e3,ch,bh⟩:=H
 have w1:IntKind.i64.wrap ((s.length:Int)+1)=(s.length:Int)+1:=wrap_i64 (by omega) (by omega)
 have y1:1+s.length≤281474976710656:=by omega
 have y2:s.length+1≤281474976710656:=by omega
 have y3:s.length+1+2≤281474976710656:=by omega
 have y4:s.length+2≤281474976710656:=by omega
 simp only [Pg.av] at c2 c3 c4 c5 hb hrg
 by_cases hc:c=0
 ·obtain ⟨hb1,hb2,hb3⟩:=hb hc
  obtain ⟨r0,r1⟩:=hrg hc
  subst hb2;subst hb3;subst hc
  by_cases hg:cg=3
  ·subst hg
   refine (task_of_aw (N:=67) prim7 fn7 rfl rfl StOk.nil ?_).2
   intro e he ha K hK
   have a0:=ha 0
   clear ha
   simp at a0
   simp [a7,he,a0,c1,hl',c2,c3,y1,y2,y3,y4]
   exact hK _ _ _ (.inl rfl) (by simp) ⟨_,rfl,by simp [he,AV.still]⟩
  ·obtain ⟨rfl,hz,rfl⟩:=hb1.resolve_left hg
   obtain ⟨a,rfl⟩:∃a:Nat,e2=a:=⟨e2.toNat,by omega⟩
   have c6:=c5 a hz (by omega)
   refine (task_of_aw (N:=67) prim7 fn7 rfl rfl StOk.nil ?_).2
   intro e he ha K hK
   have a0:=ha 0
   clear ha
   simp at a0
   simp [a7,he,a0,c1,hl',c2,c3,c4,c6,w1,y1,y2,y3,y4]
   exact hK _ _ _ (.inl rfl) (by simp) ⟨_,rfl,by simp [he,AV.still]⟩
 ·refine (task_of_aw (N:=67) prim7 fn7 rfl rfl StOk.nil ?_).2
  intro e he ha K hK
  have a0:=ha 0
  clear ha
  simp at a0
  simp [a7,he,a0,c1,hl',c2,c3,hc,y1,y2,y3,y4]
  exact hK _ _ _ (.inl rfl) (by simp) ⟨_,rfl,by simp [he,AV.still]⟩
end Go.Proofs.YtgkhmmlemgikjaaGreatDoor
namespace Go.Proofs.YtgkhmmlemgikjaaGreatDoor
open Go Ai
def Bd (B:Int) (R:Rd):Prop:=R.c≠0→0≤R.b∧R.b≤B
def PosB (L:List Tk) (B:Int):Prop:=∀R,0≤posF L R∧posF L R≤B
def BdE (B:Int) {α:Type} (E:RM α):Prop:=∀R,Bd B R→Bd B (E R).2
section
variable {L:List Tk} {B:Int} {R:Rd}
theorem Bd.adv (h:Bd B R):Bd B R.adv:=h
theorem Bd.put {x:Ex} (h:Bd B R):Bd B (putR x R).2:=h
theorem Bd.fail (hL:PosB L B) {c:Int} (h:Bd B R):Bd B (failR L c R):=by
 unfold failR;split
 ·exact fun _=>hL R
 ·exact h
theorem Bd.want (hL:PosB L B) {w:Sx} (h:Bd B R):Bd B (wantR L w R):=by
 unfold wantR;split
 ·exact h.adv
 ·exact h.fail hL
theorem Bd.name (hL:PosB L B):BdE B (nameR L):=fun R h=>by
 unfold nameR;split
 ·exact h.adv
 ·exact h.fail hL
theorem Bd.kind (hL:PosB L B):BdE B (kindR L):=fun R h=>by
 unfold kindR;split
 ·exact h.adv
 ·exact h.want hL
end
end Go.Proofs.YtgkhmmlemgikjaaGreatDoor
namespace Go.Proofs.YtgkhmmlemgikjaaGreatDoor
open Go Ai
end Go.Proofs.YtgkhmmlemgikjaaGreatDoor
