/- Part Kp. No condition. -/
import Derived.Test.YtgkhmmlemgikjaaGreatDoorKi
import Derived.Test.YtgkhmmlemgikjaaGreatDoorKo
import Derived.Test.YtgkhmmlemgikjaaGreatDoorKk
import Derived.Test.YtgkhmmlemgikjaaGreatDoorKn
set_option linter.unusedVariables false
set_option linter.unusedSimpArgs false
namespace Go.Proofs.YtgkhmmlemgikjaaGreatDoor.Lx
open Go Ai Go.Proofs.YtgkhmmlemgikjaaGreatDoor
theorem skipN_stop:∀(b:Bool) (l:List UInt8) (c:UInt8) (r:List UInt8),l.drop (skipN b l)=c::r→c≠35∧gapB c=false
 | true,[],c,r,h=>by simp [skipN] at h
 | false,[],c,r,h=>by simp [skipN] at h
 | true,d::l,c,r,h=>by
  rw [skipN,Nat.add_comm,List.drop_succ_cons] at h
  exact skipN_stop _ l c r h
 | false,d::l,c,r,h=>by
  rw [skipN] at h
  split at h
  ·rw [Nat.add_comm,List.drop_succ_cons] at h;exact skipN_stop _ l c r h
  ·split at h
   ·rw [Nat.add_comm,List.drop_succ_cons] at h;exact skipN_stop _ l c r h
   ·rename_i h1 h2
    simp at h
    obtain ⟨rfl,_⟩:=h
    exact ⟨h1,by simpa using h2⟩
theorem map_ok {α β} {f:α→β} {x:Except Nat α} {b:β} (h:x.map f=.ok b):∃a,x=.ok a∧f a=b:=by
 cases x with
 | error e=>cases h
 | ok a=>exact ⟨a,rfl,by cases h;rfl⟩
theorem lexK_cases (l:List UInt8) (p:Nat) :
  (skipN false l=l.length∧lexK l p=.ok [⟨5,[],0,p+l.length⟩]) ∨
  (∃c r,l.drop (skipN false l)=c::r∧skipN false l<l.length∧(
   ((tokOf (c::r) (p+skipN false l)).2=false∧lexK l p=.error (p+skipN false l)) ∨
   ∃x,tokOf (c::r) (p+skipN false l)=(x,true)∧0<x.text.length∧lexK l p=(lexK ((c::r).drop x.text.length) (p+skipN false l+x.text.length)).map (x::·))):=by
 have hle:=skipN_le false l
 by_cases h:skipN false l=l.length
 ·left
  refine ⟨h,?_⟩
  unfold lexK
  rw [h,List.drop_length,lexS_nil]
 ·right
  cases hd:l.drop (skipN false l) with
  | nil =>
   have:=congrArg List.length hd
   simp at this;omega
  | cons c r =>
   refine ⟨c,r,rfl,by omega,?_⟩
   cases ht:(tokOf (c::r) (p+skipN false l)).2 with
   | false =>
    left
    refine ⟨rfl,?_⟩
    unfold lexK
    rw [hd,lexS_bad ht]
   | true =>
    right
    refine ⟨(tokOf (c::r) (p+skipN false l)).1,by rw [←ht],tokOf_pos ht,?_⟩
    unfold lexK
    rw [hd,lexS_tok (by rw [←ht])]
    rfl
theorem lexK_end:∀(n:Nat) (l:List UInt8),l.length≤n→∀p ts,lexK l p=.ok ts→∃us,ts=us++[⟨5,[],0,p+l.length⟩]∧∀u∈us,u.kind≠5∧0<u.text.length∧u.text.length≤l.length
 | n,l,hn,p,ts,h=>by
  rcases lexK_cases l p with ⟨h1,h2⟩ | ⟨c,r,hd,hlt,⟨h1,h2⟩ | ⟨x,h1,h2,h3⟩⟩
  ·rw [h2] at h;cases h
   exact ⟨[],rfl,by simp⟩
  ·rw [h2] at h;cases h
  ·rw [h3] at h
   obtain ⟨us,hu,rfl⟩:=map_ok h
   have hlen:=congrArg List.length hd
   simp only [List.length_drop] at hlen
   have hx:=tokOf_le h1
   cases n with
   | zero=>omega
   | succ n =>
    obtain ⟨vs,rfl,hv⟩:=lexK_end n _ (by simp only [List.length_drop];simp at hlen hx ⊢;omega) _ us hu
    refine ⟨x::vs,?_,?_⟩
    ·rw [List.cons_append]
     congr 4
     simp only [List.length_drop];omega
    ·intro u hu
     rw [List.mem_cons] at hu
     rcases hu with rfl | hu
     ·refine ⟨?_,h2,by omega⟩
      have hk:∀y,tokOf (c::r) (p+skipN false l)=y→y.1.kind≠5:=by
       rintro y rfl
       rw [tokOf_cons]
       split
       ·simp only;split<;>decide
       ·split
        ·exact (by decide:(2:Nat)≠5)
        ·exact (by decide:(4:Nat)≠5)
      exact hk _ h1
     ·obtain ⟨g1,g2,g3⟩:=hv u hu
      exact ⟨g1,g2,by simp only [List.length_drop] at g3;omega⟩
def place:Nat→List Tok→List Tok
 | _,[]=>[]
 | p,u::us=>{ u with pos:=p }::place (p+u.text.length+1) us
theorem place_length:∀(us:List Tok) (p:Nat),(place p us).length=us.length
 | [],_=>rfl
 | u::us,p=>by simp [place,place_length us]
theorem tok_head {c:UInt8} {r:List UInt8} {p:Nat} {x:Tok} (h:tokOf (c::r) p=(x,true)) (hc:c≠35∧gapB c=false) (z:List UInt8):skipN false (x.text++z)=0:=by
 obtain ⟨_,_,y,hy⟩:=tok_again (pos':=p) h (z:=[]) (.inl rfl)
 rw [hy,List.cons_append,skipN,if_neg hc.1,if_neg (by rw [hc.2];simp)]
theorem lexS_len:∀(n:Nat) (l:List UInt8),l.length≤n→∀p ts,lexS l p=.ok ts→ts.length≤l.length+1
 | 0,l,hl,p,ts,h=>by
  have:l=[]:=List.eq_nil_of_length_eq_zero (by omega)
  subst this
  rw [lexS_nil] at h;cases h;simp
 | n+1,[],_,p,ts,h=>by rw [lexS_nil] at h;cases h;simp
 | n+1,c::l,hl,p,ts,h=>by
  cases hb:(tokOf (c::l) p).2 with
  | false=>rw [lexS_bad hb] at h;cases h
  | true =>
   obtain ⟨x,hx⟩:∃x,x=(tokOf (c::l) p).1:=⟨_,rfl⟩
   have htk:tokOf (c::l) p=(x,true):=by rw [hx,←hb]
   have hpos:=tokOf_pos hb
   rw [htk] at hpos
   simp only at hpos
   rw [lexS_tok htk,lexK] at h
   obtain ⟨us,hu,rfl⟩:=map_ok h
   have hsk:=skipN_le false ((c::l).drop x.text.length)
   have hld:((c::l).drop x.text.length).length=l.length+1-x.text.length:=by simp
   have:=lexS_len n _ (by rw [List.length_drop,hld];simp at hl;omega) _ _ hu
   rw [List.length_drop,hld] at this
   simp only [List.length_cons];omega
def gaps:List Tok→Nat
 | []=>0
 | u::us=>u.text.length+1+gaps us
theorem gaps_append:∀us vs:List Tok,gaps (us++vs)=gaps us+gaps vs
 | [],vs=>by simp [gaps]
 | u::us,vs=>by simp only [List.cons_append,gaps,gaps_append us vs];omega
theorem gaps_take:∀(us:List Tok) (i:Nat),gaps (us.take i)≤gaps us
 | [],i=>by simp [gaps]
 | u::us,0=>by simp [gaps]
 | u::us,i+1=>by have:=gaps_take us i;simp only [List.take_succ_cons,gaps];omega
theorem lexS_gaps:∀(n:Nat) (l:List UInt8),l.length≤n→∀p ts,lexS l p=.ok ts→gaps ts≤2 * l.length+1
 | 0,l,hl,p,ts,h=>by
  have:l=[]:=List.eq_nil_of_length_eq_zero (by omega)
  subst this
  rw [lexS_nil] at h;cases h;simp [gaps]
 | n+1,[],_,p,ts,h=>by rw [lexS_nil] at h;cases h;simp [gaps]
 | n+1,c::l,hl,p,ts,h=>by
  cases hb:(tokOf (c::l) p).2 with
  | false=>rw [lexS_bad hb] at h;cases h
  | true =>
   obtain ⟨x,hx⟩:∃x,x=(tokOf (c::l) p).1:=⟨_,rfl⟩
   have htk:tokOf (c::l) p=(x,true):=by rw [hx,←hb]
   have hpos:=tokOf_pos hb
   rw [htk] at hpos
   simp only at hpos
   have hle:=tokOf_le htk
   rw [lexS_tok htk,lexK] at h
   obtain ⟨us,hu',rfl⟩:=map_ok h
   have hld:((c::l).drop x.text.length).length=l.length+1-x.text.length:=by simp
   have:=lexS_gaps n _ (by rw [List.length_drop,hld];simp at hl;omega) _ _ hu'
   rw [List.length_drop,hld] at this
   simp only [List.length_cons,gaps] at hle ⊢;omega
theorem place_get:∀(us:List Tok) (p i:Nat) (h:i<us.length),(place p us)[i]?=some { us[i] with pos:=p+gaps (us.take i) }
 | [],_,i,h=>by simp at h
 | u::us,p,0,_=>by simp [place,gaps]
 | u::us,p,i+1,h=>by
  have:=place_get us (p+u.text.length+1) i (by simpa using h)
  simp only [place,List.getElem?_cons_succ,this,List.getElem_cons_succ,List.take_succ_cons,gaps]
  congr 2;omega
end Go.Proofs.YtgkhmmlemgikjaaGreatDoor.Lx
namespace Go.Proofs.YtgkhmmlemgikjaaGreatDoor.Lx
open Go Ai Go.Proofs.YtgkhmmlemgikjaaGreatDoor
def glue (us:List Tok):List UInt8:=us.flatMap fun u=>u.text++[32]
theorem lex_glue:∀(n:Nat) (l:List UInt8),l.length≤n→∀p us e,lexK l p=.ok (us++[e])→∀p',lexK (glue us) p'=.ok (place p' us++[⟨5,[],0,p'+(glue us).length⟩])
 | n,l,hn,p,us,e,h,p'=>by
  rcases lexK_cases l p with ⟨h1,h2⟩ | ⟨c,r,hd,hlt,⟨h1,h2⟩ | ⟨x,h1,h2,h3⟩⟩
  ·rw [h2] at h
   have:us=[]:=by
    have:=congrArg List.length (Except.ok.inj h)
    rw [List.length_append] at this
    exact List.eq_nil_of_length_eq_zero (by simpa using this)
   subst this
   simp [glue,place,lexK,skipN,lexS_nil]
  ·rw [h2] at h;cases h
  ·rw [h3] at h
   obtain ⟨vs,hu,hv⟩:=map_ok h
   have hlen:=congrArg List.length hd
   simp only [List.length_drop] at hlen
   have hx:=tokOf_le h1
   have hc:=skipN_stop false l c r hd
   obtain ⟨ws,hw,_⟩:=lexK_end _ _ (Nat.le_refl _) _ vs hu
   cases us with
   | nil =>
    rw [hw] at hv
    have:=congrArg List.length hv
    simp at this
   | cons u us =>
    rw [List.cons_append] at hv
    obtain ⟨rfl,h7⟩:=List.cons.inj hv
    rw [h7] at hu
    cases n with
    | zero=>omega
    | succ n =>
     have ih:=lex_glue n _ (by simp only [List.length_drop];simp at hlen hx ⊢;omega) _ us e hu (p'+x.text.length+1)
     have go:lexK (x.text++32::glue us) p'=(lexK (32::glue us) (p'+x.text.length)).map ({ x with pos:=p' }::·):=by
      obtain ⟨h4,_,y,hy⟩:=tok_again (pos':=p') h1 (z:=32::glue us) (.inr (.inl ⟨_,.inl rfl⟩))
      have hs:=tok_head h1 hc (32::glue us)
      have e2:x.text++32::glue us=c::(y++32::glue us):=by rw [hy];rfl
      conv=>lhs;unfold lexK
      rw [hs,List.drop_zero,Nat.add_zero]
      rw [e2] at h4 ⊢
      rw [lexS_tok h4,←e2]
      simp only
      rw [List.drop_left]
     have h32:lexK (32::glue us) (p'+x.text.length)=lexK (glue us) (p'+x.text.length+1):=by
      unfold lexK
      have:skipN false (32::glue us)=1+skipN false (glue us):=by
       rw [skipN,if_neg (by decide),if_pos (by decide)]
      rw [this,Nat.add_comm 1,List.drop_succ_cons]
      congr 1;omega
     have hj:glue (x::us)=x.text++32::glue us:=by simp [glue]
     rw [hj,go,h32,ih]
     simp only [Except.map,place,List.cons_append,List.length_append,List.length_cons]
     rw [show p'+x.text.length+1+(glue us).length=p'+(x.text.length+((glue us).length+1)) by omega]
end Go.Proofs.YtgkhmmlemgikjaaGreatDoor.Lx
namespace Go.Proofs.YtgkhmmlemgikjaaGreatDoor
open Go Ai
end Go.Proofs.YtgkhmmlemgikjaaGreatDoor
namespace Go.Proofs.YtgkhmmlemgikjaaGreatDoor
open Go Ai
def Bd (B:Int) (R:Rd):Prop:=R.c≠0→0≤R.b∧R.b≤B
def PosB (L:List Tk) (B:Int):Prop:=∀R,0≤posF L R∧posF L R≤B
def BdE (B:Int) {α:Type} (E:RM α):Prop:=∀R,Bd B R→Bd B (E R).2
section
variable {L:List Tk} {B:Int} {R:Rd}
theorem Bd.adv (h:Bd B R):Bd B R.adv:=h
theorem Bd.put {x:Ex} (h:Bd B R):Bd B (putR x R).2:=h
theorem Bd.fail (hL:PosB L B) {c:Int} (h:Bd B R):Bd B (failR L c R):=by
 unfold failR;split
 ·exact fun _=>hL R
 ·exact h
theorem Bd.want (hL:PosB L B) {w:Sx} (h:Bd B R):Bd B (wantR L w R):=by
 unfold wantR;split
 ·exact h.adv
 ·exact h.fail hL
theorem Bd.name (hL:PosB L B):BdE B (nameR L):=fun R h=>by
 unfold nameR;split
 ·exact h.adv
 ·exact h.fail hL
theorem Bd.kind (hL:PosB L B):BdE B (kindR L):=fun R h=>by
 unfold kindR;split
 ·exact h.adv
 ·exact h.want hL
end
end Go.Proofs.YtgkhmmlemgikjaaGreatDoor
namespace Go.Proofs.YtgkhmmlemgikjaaGreatDoor
open Go Ai
theorem fn9:A.fn 9=some a9:=by kernel_rfl
theorem prim9:A.prim 9=none:=by kernel_rfl
def w9_0:List Nat:=a9_0.writes
theorem z_fixIt (x:It):(fixIt x).z=fixIt x.z:=by
 unfold fixIt
 by_cases h:x.k=6∧x.ss.length=1
 ·rw [if_pos h,if_pos (show x.z.k=6∧x.z.ss.length=1 from h)];rfl
 ·rw [if_neg h,if_neg (show ¬(x.z.k=6∧x.z.ss.length=1) from h)]
theorem z_fixD (d:Dc):(fixD d).z=fixD d.z:=by
 simp only [Dc.z,fixD,List.map_map]
 congr 1
 exact List.map_congr_left fun x _=>z_fixIt x
theorem z_fixDs {a b:List Dc} (h:a.map Dc.z=b.map Dc.z):(a.map fixD).map Dc.z=(b.map fixD).map Dc.z:=by
 have:∀l:List Dc,(l.map fixD).map Dc.z=(l.map Dc.z).map fixD:=fun l=>by
  rw [List.map_map,List.map_map];exact List.map_congr_left fun x _=>z_fixD x
 rw [this,this,h]
theorem glue_len:∀us:List Tk,(Lx.glue us).length=Lx.gaps us
 | []=>rfl
 | u::us=>by
  have:=glue_len us
  simp only [Lx.glue,List.flatMap_cons,List.length_append,List.length_cons,List.length_nil,Lx.gaps] at this ⊢
  omega
theorem gap_law {s:Sx} (hs:s.length≤4000) {us:List Tk} {e:Tk} (hlx:Lx.lexK s 0=.ok (us++[e])) (h:(parseF s false).2.2.1=0) :
  (parseF (Lx.glue us) false).2.2.1=0∧(parseF s false).1.ds.map Dc.z=(parseF (Lx.glue us) false).1.ds.map Dc.z∧(parseF s false).1.xs.map Ex.z=(parseF (Lx.glue us) false).1.xs.map Ex.z∧(Lx.glue us).length≤8001:=by
 have l1:¬20000<s.length:=by omega
 have hg:(Lx.glue us).length≤8001:=by
  have h2:=Lx.lexS_gaps _ _ (Nat.le_refl _) _ _ hlx
  have h3:=Lx.skipN_le false s
  rw [Lx.gaps_append,List.length_drop] at h2
  rw [glue_len];omega
 have l2:¬20000<(Lx.glue us).length:=by omega
 have hx:=Lx.lex_glue _ s (Nat.le_refl _) 0 us e hlx 0
 obtain ⟨us',hu,hk⟩:=Lx.lexK_end _ s (Nat.le_refl _) 0 _ hlx
 obtain ⟨rfl,he'⟩:=List.append_inj' hu rfl
 obtain rfl:=(List.cons.inj he').1
 obtain ⟨t1,ht1⟩:∃t1,t1=us++[(⟨5,[],0,0+s.length⟩:Tk)]:=⟨_,rfl⟩
 obtain ⟨t2,ht2⟩:∃t2,t2=Lx.place 0 us++[(⟨5,[],0,0+(Lx.glue us).length⟩:Tk)]:=⟨_,rfl⟩
 rw [←ht1] at hlx
 rw [←ht2] at hx
 have hc:(readF t1 false).2.c=0:=by
  simp only [parseF,if_neg l1,hlx] at h
  split at h
  ·assumption
  ·exact h
 have L1:t1.length=us.length+1:=by rw [ht1];simp
 have Lp:=Lx.place_length us 0
 have S:Sim t1 t2 0:=by
  refine ⟨fun i hi=>?_,fun i hi=>?_,by rw [L1,ht2];simp [Lp]⟩
  ·have hi':i<us.length:=by omega
   have e1:t1.getD i e0T=us[i]:=by rw [ht1];simp [List.getD_eq_getElem?_getD,List.getElem?_append_left hi',hi']
   have e2:t2.getD (i+0) e0T={ us[i] with pos:=0+Lx.gaps (us.take i) }:=by
    rw [ht2,Nat.add_zero,List.getD_eq_getElem?_getD,List.getElem?_append_left (by omega),Lx.place_get us 0 i hi'];rfl
   rw [e1,e2];exact ⟨rfl,rfl,rfl⟩
  ·obtain rfl:i=us.length:=by omega
   have e2:t2.getD (us.length+0) e0T=⟨5,[],0,0+(Lx.glue us).length⟩:=by
    rw [ht2,Nat.add_zero,List.getD_eq_getElem?_getD,←Lp,List.getElem?_concat_length];rfl
   refine ⟨by rw [ht1];simp [List.getD_eq_getElem?_getD],.inl (by rw [e2])⟩
 have S5:End5 t1 t2 0:=fun i hi=>by
  obtain rfl:i=us.length:=by omega
  have e2:t2.getD (us.length+0) e0T=⟨5,[],0,0+(Lx.glue us).length⟩:=by
   rw [ht2,Nat.add_zero,List.getD_eq_getElem?_getD,←Lp,List.getElem?_concat_length];rfl
  rw [e2]
 obtain ⟨r1,r2,r3⟩:=sim_read S S5 rfl (by omega) hc
 have p1:parseF s false=(⟨(readF t1 false).1.1,endAp (readF t1 false).1.1.length,(readF t1 false).2.xs,endAp (readF t1 false).2.xs.length⟩,(readF t1 false).1.2,0,0):=by
  simp only [parseF,if_neg l1,hlx,hc,if_true]
 have p2:parseF (Lx.glue us) false=(⟨(readF t2 false).1.1,endAp (readF t2 false).1.1.length,(readF t2 false).2.xs,endAp (readF t2 false).2.xs.length⟩,(readF t2 false).1.2,0,0):=by
  simp only [parseF,if_neg l2,hx,r1,if_true]
 rw [p1,p2]
 exact ⟨rfl,r2,r3,hg⟩
theorem law9_run {s:Sx} (hs:s.length≤281474976710656):runL A (.seqc 9 [.str s]) []=some ⟨.ret,⟨[.bool true],[]⟩,[]⟩:=by
 have hst:StOk []:=StOk.nil
 have c1:=alive_call hst
 by_cases hl:4000<s.length
 ·refine (task_of_aw (N:=62) prim9 fn9 rfl rfl StOk.nil ?_).2
  intro e he ha K hK
  have a0:=ha 0
  clear ha
  simp at a0
  have hl':(4000:Int)<s.length:=by omega
  simp [a9,he,a0,c1,hl']
  exact hK _ _ _ (.inl rfl) (by simp) ⟨_,rfl,by simp [he,AV.still]⟩
 have hl':¬(4000:Int)<s.length:=by omega
 have l1:¬20000<s.length:=by omega
 have c2:=parse26 hs hst
 have c3:=Lx.refLex_call hs hst
 have hok:=(parse_ok s false).1
 have hmay:=parse_may s false
 by_cases hc:(parseF s false).2.2.1=0
 ·cases hlx:Lx.lexK s 0 with
  | error p=>simp [parseF,l1,hlx] at hc
  | ok ts =>
  obtain ⟨us,hts,hk⟩:=Lx.lexK_end _ s (Nat.le_refl _) 0 ts hlx
  rw [hts] at hlx
  obtain ⟨g1,g2,g3,g4⟩:=gap_law (by omega) hlx hc
  have hlen:us.length≤4001:=by
   have h2:(us++[(⟨5,[],0,0+s.length⟩:Tk)]).length≤_:=Lx.lexS_len _ _ (Nat.le_refl _) _ _ hlx
   have h3:=Lx.skipN_le false s
   rw [List.length_drop] at h2
   simp at h2;omega
  have c4:=parse26 (s:=Lx.glue us) (by omega) hst
  have hok2:=(parse_ok (Lx.glue us) false).1
  have c5:=same27 (P:=fixP (parseF s false).1) (Q:=fixP (parseF (Lx.glue us) false).1) (fixP_ok hok) (fixP_ok hok2) (z_fixDs g2) g3 (by rw [fixP_may];exact hmay) hst
  have hP:Lx.lexP s=(.lst 4 ((us++[(⟨5,[],0,0+s.length⟩:Tk)]).map Lx.Tok.av) .no,.agg [.int .i64 0,.int .i64 0]):=by simp [Lx.lexP,l1,hlx,Lx.toksAv,Lx.flt]
  rw [hP] at c3
  clear hP hlx g2 g3 hok hok2 hmay hts
  generalize parseF s false=P at *
  generalize parseF (Lx.glue us) false=G at *
  obtain ⟨p,e0,c,b⟩:=P
  obtain ⟨p2,e2,cg,bg⟩:=G
  simp only at hc g1
  subst hc;subst g1
  simp only [Pg.av] at c2 c4 c5
  refine (task_of_aw (N:=62) prim9 fn9 rfl rfl StOk.nil ?_).2
  intro e he ha K hK
  have a0:=ha 0
  clear ha
  simp at a0
  simp [a9,he,a0,c1,hl',c2,c3]
  generalize hLs:(List.map Lx.Tok.av us++[_]:List AV)=M
  have hM:M.length=us.length+1:=by subst hLs;simp
  have hMi:∀i (h:i<us.length) (h':i<M.length),M[i]=us[i].av:=fun i h h'=>by subst hLs;simp [List.getElem_append_left,h]
  refine aw_loop (W:=w9_0) rfl (fun m e ds st'=>ds=[]∧st'=[]∧∃i:Nat,i+m=us.length∧AX.ev e (.t 8)=.int .i64 i∧AX.ev e (.t 7)=.str (Lx.glue (us.take i))) us.length
   ⟨rfl,rfl,0,by simp,by simp [he],by simp [he,Lx.glue]⟩ ?_
  rintro m e1 ds st' hs' ⟨rfl,rfl,i,hm,k8,k7⟩ K1 kn kx
  have he1:e1.length=62:=by simp [hs'.1,he]
  have k5:=hs'.ev 5 rfl (v:=.lst 4 M .no) (by simp [he])
  have w1:IntKind.i64.wrap ((i:Int)+1)=(i:Int)+1:=wrap_i64 (by omega) (by omega)
  by_cases hi:i<us.length
  ·have hgi:=hMi i hi (by omega)
   simp only [Lx.Tok.av] at hgi
   have ht:Lx.glue (us.take (i+1))=Lx.glue (us.take i)++(us[i].text++[32]):=by
    have e1:us.take (i+1)=us.take i++[us[i]]:=by simp
    unfold Lx.glue
    rw [e1,List.flatMap_append,List.flatMap_cons,List.flatMap_nil,List.append_nil]
   have hle:(Lx.glue (us.take (i+1))).length≤8001:=by
    have:=Lx.gaps_take us (i+1)
    rw [glue_len] at g4 ⊢;omega
   have hle2:(Lx.glue (us.take i)).length+us[i].text.length+1≤8001:=by
    have:=hle;rw [ht] at this;simp at this;omega
   have y1:(Lx.glue (us.take i)).length+us[i].text.length≤281474976710656:=by omega
   have y2:(Lx.glue (us.take i)).length+us[i].text.length+1≤281474976710656:=by omega
   have y3:(Lx.glue (us.take i)).length+(us[i].text.length+1)≤281474976710656:=by omega
   have hi2:i<M.length:=by omega
   have hg2:=List.getElem?_eq_getElem hi2
   rw [hgi] at hg2
   simp [a9_0,k5,k7,k8,he1,hM,w1,hi,hgi,hg2,y1,y2,y3,Ai.beq_refl]
   exact kn (m-1) _ _ _ (by omega) ⟨rfl,rfl,i+1,by omega,by simp [he1],by rw [ht];simp [he1]⟩
  ·obtain rfl:i=us.length:=by omega
   rw [List.take_length] at k7
   have k3:=hs'.ev 3 rfl (v:=.iptr (fixP p).av) (by simp [he,Pg.av])
   simp only [Pg.av] at k3
   simp [a9_0,k5,k8,he1,hM,w1]
   refine kx _ _ _ _ nofun fun hs2=>?_
   simp [he1,k7,c4,k3,c5]
   exact hK _ _ _ (.inl rfl) (by simp) ⟨_,rfl,by simp [he1,AV.still]⟩
 ·obtain ⟨V,f1,f2,hV⟩:∃V f1 f2,Lx.lexP s=(V,.agg [.int .i64 f1,.int .i64 f2]):=by
   unfold Lx.lexP
   rw [if_neg l1]
   cases Lx.lexK s 0 with
   | error p=>exact ⟨_,_,_,rfl⟩
   | ok ts=>exact ⟨_,_,_,rfl⟩
  rw [hV] at c3
  generalize parseF s false=P at *
  obtain ⟨p,e0,c,b⟩:=P
  simp only at hc
  simp only [Pg.av] at c2
  refine (task_of_aw (N:=62) prim9 fn9 rfl rfl StOk.nil ?_).2
  intro e he ha K hK
  have a0:=ha 0
  clear ha
  simp at a0
  simp [a9,he,a0,c1,hl',c2,c3,hc]
  exact hK _ _ _ (.inl rfl) (by simp) ⟨_,rfl,by simp [he,AV.still]⟩
end Go.Proofs.YtgkhmmlemgikjaaGreatDoor
