/- Part Kn. No condition. -/
import Derived.Test.YtgkhmmlemgikjaaGreatDoorKj
import Derived.Test.YtgkhmmlemgikjaaGreatDoorKk
set_option linter.unusedVariables false
set_option linter.unusedSimpArgs false
namespace Go.Proofs.YtgkhmmlemgikjaaGreatDoor
open Go Ai
theorem fn128:A.fn 128=some a128:=by kernel_rfl
theorem prim128:A.prim 128=none:=by kernel_rfl
theorem fn127:A.fn 127=some a127:=by kernel_rfl
theorem prim127:A.prim 127=none:=by kernel_rfl
theorem fn96:A.fn 96=some a96:=by kernel_rfl
theorem prim96:A.prim 96=none:=by kernel_rfl
section
variable {n r:Nat} {L:List Tk} {dv:AV} {dp:Nat} {s:St} {R:Rd}
def typedF (L:List Tk):RM Pm:=fun R=>(⟨(nameR L R).1,(kindR L (wantR L [58] (nameR L R).2)).1⟩,(kindR L (wantR L [58] (nameR L R).2)).2)
theorem typedP (q:PsOk n r L dv dp s R):DoesP n r L dv dv dp dp 128 [] s (typedF L R).2 (.tup [.str (typedF L R).1.n,.int .i64 (typedF L R).1.t]):=by
 obtain ⟨s1,k1,⟨z1,e1,c1,q1⟩ | ⟨cn,c1⟩⟩:=nameP q
 ·simp only [Lx.Tok.av] at c1
  obtain ⟨s2,k2,⟨z2,c2,q2⟩ | ⟨cn,c2⟩⟩:=want1P q1 [58]
  ·obtain ⟨s3,k3,⟨z3,c3,q3⟩ | ⟨cn,c3⟩⟩:=kindP q2
   ·refine doesP_of (N:=14) prim128 fn128 rfl rfl ?_
    intro e he ha K hK hP
    have a0:=ha 0
    clear ha
    simp at a0
    simp [a128,he,a0,c1,c2,c3]
    exact hK _ _ _ (.inl rfl) q3 ((k1.trans k2).trans k3) ⟨[.str (nameR L R).1,.int .i64 (kindR L (wantR L [58] (nameR L R).2)).1],by simp [a128,he,e1],rfl⟩
   ·refine doesP_of (N:=14) prim128 fn128 rfl rfl ?_
    intro e he ha K hK hP
    have a0:=ha 0
    clear ha
    simp at a0
    simp [a128,he,a0,c1,c2,c3]
    exact hP _ _ _ cn rfl ((k1.trans k2).trans k3)
  ·refine doesP_of (N:=14) prim128 fn128 rfl rfl ?_
   intro e he ha K hK hP
   have a0:=ha 0
   clear ha
   simp at a0
   simp [a128,he,a0,c1,c2]
   obtain ⟨t1,t2⟩:=Stk.kind.tell cn
   exact hP _ _ _ t1 t2 (k1.trans k2)
 ·refine doesP_of (N:=14) prim128 fn128 rfl rfl ?_
  intro e he ha K hK hP
  have a0:=ha 0
  clear ha
  simp at a0
  simp [a128,he,a0,c1]
  obtain ⟨t1,t2⟩:=((Stk.want (w:=[58])).trans Stk.kind).tell cn
  exact hP _ _ _ t1 t2 k1
theorem stk_typed:StkE (typedF L):=fun _=>(Stk.name.trans Stk.want).trans Stk.kind
theorem goes_typed:GoesOn (typedF L):=fun _=>(Step.name.trans Step.want).trans Step.kind
theorem paramP {cl:Nat} {s0:St} (hn:n≤s0.length) (l:List Pm) (q:PsOk n r L dv dp s R) (k0:Keep n r s0 s) (c0:CelP s0.length r cl 2 (some 77) s (l.map Pm.av)) (hl:l.length≤20001) :
  DoesH n r L dv dv dp dp 127 [.iptr (.ptr r 0),.ptr cl 0] s0 s (typedF L R).2 (.tup []) (fun s'=>CelP s0.length r cl 2 (some 77) s' ((l++[(typedF L R).1]).map Pm.av)):=by
 obtain ⟨cs,hr⟩:∃cs,s[r]?=some (.cells none cs):=by obtain ⟨es,o,h,_⟩:=q.cell;exact ⟨_,h⟩
 obtain ⟨ap,h1,_⟩:=c0.own
 obtain ⟨s1,k1,⟨z1,c1,q1⟩ | ⟨cn,c1⟩⟩:=typedP q
 ·have c2:=c0.keep k1 hr (.inl (by decide))
  have h2:=k1.k _ _ c0.ne h1 nofun
  obtain ⟨ap2,g1,ap',s2,p1,p2,q2,k2,c3⟩:=q1.grow (x:=(typedF L R).1.av) (bytes:=24) (ap0:=.tight) (k0.trans k1) c2 (.inl (by decide)) hn (by simp;omega) (by decide) (fun k _=>lows_all fun x hx=>by
   obtain ⟨i,_,rfl⟩:=List.mem_map.1 hx;exact Pm.low _ _) (fun _ _=>Pm.low _ _)
  rw [h2] at g1
  cases g1
  simp only [Pm.av] at p1
  refine doesH_of (N:=15) prim127 fn127 rfl rfl ?_
  intro e he ha K hK hP
  have a0:=ha 0
  have a1:=ha 1
  clear ha
  simp at a0 a1
  simp [a127,he,a0,a1,h1,c1,h2,Ai.beq_refl,p1,p2]
  exact hK _ _ _ (.inr rfl) q2 (by simpa [Pm.av] using c3) k2 ⟨_,rfl,rfl⟩
 ·refine doesH_of (N:=15) prim127 fn127 rfl rfl ?_
  intro e he ha K hK hP
  have a0:=ha 0
  have a1:=ha 1
  clear ha
  simp at a0 a1
  simp [a127,he,a0,a1,h1,c1]
  exact hP _ _ _ cn rfl (k0.trans k1)
theorem isR_in (tk:Tks L) {w:Sx} {R:Rd} (h:isR L w R=true):R.i+1<L.length:=by
 have hk:=isR_kind h
 rcases Nat.lt_or_ge R.i L.length with hlt | h1
 ·rcases Nat.lt_or_ge (R.i+1) L.length with h2 | h2
  ·exact h2
  ·have e:L.length-1=R.i:=by omega
   have hg:L[R.i]?=some (tkF L R):=by simp [tkF,List.getD_eq_getElem?_getD,hlt]
   exact absurd (tk.last _ (by rw [e];exact hg)) hk
 ·have:L[R.i]?=none:=List.getElem?_eq_none h1
  exact absurd (by simp [tkF,List.getD_eq_getElem?_getD,this]) hk
theorem pms_list (tk:Tks L):∀(m M:Nat) (l:List Pm) (R:Rd),R.c=0→R.i<L.length→L.length≤m+R.i→L.length≤M+(typedF L R).2.i →
  pmsF L m l R=((lstF L (typedF L) M (l++[(typedF L R).1]) (typedF L R).2).1,wantR L [41] (lstF L (typedF L) M (l++[(typedF L R).1]) (typedF L R).2).2)
 | 0,_,_,R,_,hi,hm,_=>by omega
 | m+1,M,l,R,hc,hi,hm,hM=>by
  have hst:=(goes_typed (L:=L) R).i
  by_cases hj:isR L [44] (typedF L R).2=true
  ·have hin:=isR_in tk hj
   obtain ⟨M,rfl⟩:∃M',M=M'+1:=⟨M-1,by omega⟩
   have hst2:=(goes_typed (L:=L) (typedF L R).2.adv).i
   have e1:(typedF L R).2.adv.i=(typedF L R).2.i+1:=rfl
   have ih:=pms_list tk m M (l++[(typedF L R).1]) (typedF L R).2.adv (show (typedF L R).2.c=0 from isR_c hj) (by omega) (by omega) (by omega)
   have e2:pmsF L (m+1) l R=pmsF L m (l++[(typedF L R).1]) (typedF L R).2.adv:=by
    have hj':=hj
    simp only [typedF] at hj'
    simp [pmsF,hc,hj',typedF]
   rw [e2,ih]
   simp [lstF,hj]
  ·have hj:isR L [44] (typedF L R).2=false:=by simpa using hj
   rw [lstF_end hj]
   have hj':=hj
   simp only [typedF] at hj'
   simp [pmsF,hc,hj',typedF]
theorem params_list (tk:Tks L) {R:Rd} (hc:(wantR L [40] R).c=0) (hi:(wantR L [40] R).i<L.length):paramsF L R=listF L (typedF L) (wantR L [40] R):=by
 have hst:=(goes_typed (L:=L) (wantR L [40] R)).i
 have h:=pms_list tk L.length L.length [] (wantR L [40] R) hc hi (by omega) (by omega)
 unfold paramsF listF
 split
 ·rfl
 ·rw [h];rfl
theorem stk_pms:∀(m:Nat) (l:List Pm) (R:Rd),Stk R (pmsF L m l R).2
 | 0,_,_=>.refl
 | m+1,l,R=>fun hc=>by simp [pmsF,hc]
theorem stk_params:StkE (paramsF L):=fun R=>by
 unfold paramsF
 split
 ·exact Stk.want.trans .adv
 ·exact Stk.want.trans (stk_pms _ _ _)
theorem paramsP (q:PsOk n r L dv dp s R) (hn:n≤s.length):∃ap,DoesH n r L dv dv dp dp 96 [.ptr r 0] s s (paramsF L R).2 (.lst 2 ((paramsF L R).1.map Pm.av) ap) (fun s'=>Own s' s.length 2 (some 77) ap (paramsF L R).1.length):=by
 have tk:=q.tk
 obtain ⟨s0,hs0⟩:∃s0,s0=s++[.cells none [.lst 2 [] .tight]]:=⟨_,rfl⟩
 have low0:∀m,AObj.lowB m (.cells none [.lst 2 [] .tight])=true:=fun _=>rfl
 have q0:=q.app (low0 _)
 have k0:Keep n r s _:=.app hn (low0 (s.length+1))
 have hne:s.length≠r:=by have:=q.len;omega
 have c0:CelP s.length r s.length 2 (some 77) (s++[.cells none [.lst 2 [] .tight]]) []:=⟨⟨.tight,by simp,.nil⟩,Nat.le_refl _,hne⟩
 obtain ⟨cs,hr⟩:∃cs,(s++[.cells none [.lst 2 [] .tight]])[r]?=some (.cells none cs):=by obtain ⟨es,o,h,_⟩:=q0.cell;exact ⟨_,h⟩
 obtain ⟨s1,k1,⟨z1,c1,q1⟩ | ⟨cn,c1⟩⟩:=want1P q0 [40]
 ·rw [params_list tk z1 q1.lt]
  have c2:=c0.keep k1 hr (.inl (by decide))
  obtain ⟨s2,k2,h2⟩:=listP (f:=Pm.av) (E:=typedF L) (g:=127) (fi:=[]) (ca:=[.iptr (.ptr r 0),.ptr s.length 0]) (m:=2) (ty:=some 77) goes_typed stk_typed (.inl (by decide)) (fun s R l q k c hl=>by simpa using paramP hn l q k c hl) q1 (k0.trans k1) c2
  rcases h2 with ⟨z2,d2,q2,l2⟩ | ⟨cn,d2⟩
  ·obtain ⟨ap,g2,o2⟩:=l2.own
   refine ⟨ap,doesH_of (N:=11) prim96 fn96 rfl rfl ?_⟩
   intro e he ha K hK hP
   have a0:=ha 0
   clear ha
   simp at a0
   simp [a96,he,a0,c1,d2,g2]
   exact hK _ _ _ (.inl rfl) q2 (by simpa using o2) k2 ⟨_,rfl,by simp [he]⟩
  ·refine ⟨.tight,doesH_of (N:=11) prim96 fn96 rfl rfl ?_⟩
   intro e he ha K hK hP
   have a0:=ha 0
   clear ha
   simp at a0
   simp [a96,he,a0,c1,d2]
   exact hP _ _ _ cn rfl k2
 ·refine ⟨.tight,doesH_of (N:=11) prim96 fn96 rfl rfl ?_⟩
  intro e he ha K hK hP
  have a0:=ha 0
  clear ha
  simp at a0
  simp [a96,he,a0,c1]
  have t:=Stk.tell (R':=(paramsF L R).2) (R:=wantR L [40] R) (by unfold paramsF;split;exact .adv;exact stk_pms _ _ _) cn
  exact hP _ _ _ t.1 t.2 (k0.trans k1)
end
end Go.Proofs.YtgkhmmlemgikjaaGreatDoor
namespace Go.Proofs.YtgkhmmlemgikjaaGreatDoor
open Go Ai
theorem fn129:A.fn 129=some a129:=by kernel_rfl
theorem prim129:A.prim 129=none:=by kernel_rfl
def w129_0:List Nat:=a129_0.writes
def DoesW (n r:Nat) (L:List Tk) (dv:AV) (f:Nat) (ar:List AV) (s:St) (R':Rd) (P:St→AV→Prop):Prop :=
 ∃s',Keep n r s s'∧((R'.c=0∧(∃V,runL A (.call f ar) s=some ⟨.ret,⟨[V],[]⟩,s'⟩∧P s' V)∧PsOk n r L dv 0 s' R') ∨
  (R'.c≠0∧runL A (.call f ar) s=some ⟨.pan (flt R'),⟨[],[]⟩,s'⟩))
theorem doesW_of {n r:Nat} {L:List Tk} {dv:AV} {f:Nat} {ar:List AV} {s:St} {R':Rd} {P:St→AV→Prop} {F:AFunc} {N:Nat} (hp:A.prim f=none) (hf:A.fn f=some F) (hk:F.keep=true) (hN:ar.length+(F.ntmps-ar.length)=N)
  (h:∀e:Env,e.length=N→(∀i,AX.ev e (.t i)=ar.getD i .undef)→∀K:PostQ,
   (∀x e s',(x=.ret∨x=.nrm)→PsOk n r L dv 0 s' R'→Keep n r s s'→∀V,(∃vs,resultsA s' e F.results=some vs∧oneOf vs=V)→P s' V→K x e [] s') →
   (∀v e s',R'.c≠0→v=flt R'→Keep n r s s'→K (.pan v) e [] s')→AW A f none F.body e [] s K):DoesW n r L dv f ar s R' P:=by
 obtain ⟨q,⟨s',h1,h2⟩,h3,_⟩:=task_tail (A:=A) (st:=s) (fun q=>∃s',Keep n r s s'∧((R'.c=0∧(∃V,q=⟨.ret,⟨[V],[]⟩,s'⟩∧P s' V)∧PsOk n r L dv 0 s' R')∨(R'.c≠0∧q=⟨.pan (flt R'),⟨[],[]⟩,s'⟩))) hp hf hN
  (fun e he ha K hK=>h e he ha K (fun x e s' hx hq hkp V ⟨vs,hv,ho⟩ hV=>hK x e [] s' ⟨.ret,⟨[V],[]⟩,s'⟩ (by
    subst ho;rcases hx with rfl | rfl<;>simp [tailA,runDefs,hv,hk]) ⟨s',hkp,.inl ⟨hq.c0,⟨V,rfl,hV⟩,hq⟩⟩)
   (fun v e s' hc hv hkp=>hK _ e [] s' ⟨.pan (flt R'),⟨[],[]⟩,s'⟩ (by subst hv;simp [tailA,runDefs]) ⟨s',hkp,.inr ⟨hc,rfl⟩⟩))
 refine ⟨s',h1,?_⟩
 rcases h2 with ⟨hc,⟨V,rfl,hV⟩,hq⟩ | ⟨hc,rfl⟩
 ·exact .inl ⟨hc,⟨V,h3,hV⟩,hq⟩
 ·exact .inr ⟨hc,h3⟩
structure CelQ (n r:Nat) (L:List Tk) (dv:AV) (c0 c:Nat) (s0:St) (Z:List AV) (s:St) (R:Rd) (cs:List AV):Prop where
 q:PsOk n r L dv 0 s R
 k:Keep n r s0 s
 g:s[c]?=some (.cells none cs)
 z:s[c0]?=some (.cells none Z)
 bn:n≤s0.length
 hc:s0.length≤c
 hz:s0.length≤c0
 ne:c0≠c
 nc:c≠r
 nz:c0≠r
section
variable {n r:Nat} {L:List Tk} {dv:AV} {c0 c:Nat} {s0:St} {Z:List AV} {s:St} {R:Rd} {cs:List AV}
theorem CelQ.to (h:CelQ n r L dv c0 c s0 Z s R cs) {s':St} {R':Rd} (q:PsOk n r L dv 0 s' R') (k:Keep n r s s'):CelQ n r L dv c0 c s0 Z s' R' cs :=
 { h with q:=q,k:=h.k.trans k,g:=k.k _ _ h.nc h.g nofun,z:=k.k _ _ h.nz h.z nofun }
theorem CelQ.call (h:CelQ n r L dv c0 c s0 Z s R cs) {f:Nat} {ar:List AV} {R':Rd} {V:AV} (d:DoesQ n r L dv dv 0 0 f ar s R' V) :
  ∃s',((R'.c=0∧runL A (.call f ar) s=some ⟨.ret,⟨[V],[]⟩,s'⟩∧CelQ n r L dv c0 c s0 Z s' R' cs)∨(R'.c≠0∧runL A (.call f ar) s=some ⟨.pan (flt R'),⟨[],[]⟩,s'⟩∧Keep n r s0 s')):=by
 obtain ⟨s',k,⟨h1,h2,h3⟩ | ⟨h1,h2⟩⟩:=d
 ·exact ⟨s',.inl ⟨h1,h2,h.to h3 k⟩⟩
 ·exact ⟨s',.inr ⟨h1,h2,h.k.trans k⟩⟩
theorem CelQ.name (h:CelQ n r L dv c0 c s0 Z s R cs):∃s',(((nameR L R).2.c=0∧nameR L R=((tkF L R).text,R.adv)∧runL A (.call 95 [.ptr r 0]) s=some ⟨.ret,⟨[.agg [.int .i64 (tkF L R).kind,.str (nameR L R).1,.int .i64 (tkF L R).v,.int .i64 (tkF L R).pos]],[]⟩,s'⟩∧CelQ n r L dv c0 c s0 Z s' (nameR L R).2 cs) ∨
  ((nameR L R).2.c≠0∧runL A (.call 95 [.ptr r 0]) s=some ⟨.pan (flt (nameR L R).2),⟨[],[]⟩,s'⟩∧Keep n r s0 s')):=by
 obtain ⟨s',k,⟨h1,h2,h3,h4⟩ | ⟨h1,h2⟩⟩:=nameP h.q
 ·refine ⟨s',.inl ⟨h1,h2,?_,h.to h4 k⟩⟩
  rw [h3,h2];rfl
 ·exact ⟨s',.inr ⟨h1,h2,h.k.trans k⟩⟩
theorem CelQ.set (h:CelQ n r L dv c0 c s0 Z s R cs) (cs':List AV) (hl:AV.lowsB s.length cs'=true):CelQ n r L dv c0 c s0 Z (s.set c (.cells none cs')) R cs':=by
 have hlt:=(List.getElem?_eq_some_iff.1 h.g).1
 exact { h with q:=h.q.other h.nc h.g hl,k:=h.k.mine (m:=0) h.hc h.bn hl,g:=by simp [hlt],z:=by rw [List.getElem?_set_ne h.ne.symm];exact h.z }
theorem CelQ.seti (h:CelQ n r L dv c0 c s0 Z s R cs) (i:Nat) (v:AV) (hl:AV.lowB s.length v=true):CelQ n r L dv c0 c s0 Z (s.set c (.cells none (cs.set i v))) R (cs.set i v):=h.set _ (lows_set (h.q.ok.get h.g) hl)
theorem CelQ.last (h:CelQ n r L dv c0 c s0 Z s R cs):PsOk n r L dv 0 (s.set c0 (.cells none cs)) R∧Keep n r s0 (s.set c0 (.cells none cs))∧c0<s.length:=by
 have lw:=h.q.ok.get h.g
 exact ⟨h.q.other h.nz h.z lw,h.k.mine (m:=0) h.hz h.bn lw,(List.getElem?_eq_some_iff.1 h.z).1⟩
def itZ:List AV:=[.int .i64 0,.str [],.int .i64 0,.int .i64 0,.int .i64 0,.lst 1 [] .tight,.str [],.str [],.int .i64 0]
def itS (p:Int):List AV:=[.int .i64 0,.str [],.int .i64 0,.int .i64 0,.int .i64 0,.lst 1 [] .tight,.str [],.str [],.int .i64 p]
def ItQ (n b:Nat) (x:It) (s:St) (V:AV):Prop:=∃ap,V=It.av { x with ap:=ap }∧AV.lowB s.length (.lst 1 (strs x.ss) ap)=true∧∀S,AV.still n S (.lst 1 (strs x.ss) ap)=some (.lst 1 (strs x.ss) x.ap)
theorem set_last {s:St} {x y:AObj}:(s++[x]).set s.length y=s++[y]:=by simp
theorem item_start (q:PsOk n r L dv 0 s R) {w:Sx} (hw:isR L w R=true):∃s1,runL A (.call 92 [.ptr r 0]) (s++[.cells none itZ])=some ⟨.ret,⟨[.agg [.int .i64 (tkF L R).kind,.str w,.int .i64 (tkF L R).v,.int .i64 (tkF L R).pos]],[]⟩,s1⟩ ∧
  CelQ n r L dv s.length s1.length s itZ (s1++[.cells none (itS (tkF L R).pos)]) R.adv (itS (tkF L R).pos):=by
 have hn:n≤s.length:=by have:=q.le;have:=q.len;omega
 have l0:∀m,AObj.lowB m (.cells none itZ)=true:=fun _=>rfl
 have l1:∀m,AObj.lowB m (.cells none (itS (tkF L R).pos))=true:=fun _=>rfl
 have q0:=q.app (l0 _)
 have k0:Keep n r s _:=.app hn (l0 (s.length+1))
 obtain ⟨s1,k1,⟨_,c1,q1⟩ | ⟨cn,_⟩⟩:=nextP q0 (isR_kind hw)
 case inr=>exact absurd q.c0 cn
 have hz:=k1.k s.length (.cells none itZ) (by have:=q.len;omega) (by simp) nofun
 have hlt:=(List.getElem?_eq_some_iff.1 hz).1
 have hr:=q.len
 have hr1:=q1.len
 have hgl:=k1.g.len
 have ht:=isR_text hw
 simp only [Lx.Tok.av,ht] at c1
 have hz':(s1++[.cells none (itS (tkF L R).pos)])[s.length]?=some (.cells none itZ):=by rw [List.getElem?_append_left hlt];exact hz
 have hg':(s1++[.cells none (itS (tkF L R).pos)])[s1.length]?=some (.cells none (itS (tkF L R).pos)):=by simp
 have k2:Keep n r s (s1++[.cells none (itS (tkF L R).pos)]):=(k0.trans k1).trans (.app (by omega) (l1 (s1.length+1)))
 refine ⟨s1,c1,⟨q1.app (l1 _),k2,hg',hz',hn,?_,Nat.le_refl _,?_,?_,?_⟩⟩<;>omega
set_option maxHeartbeats 1000000 in
theorem item_let (q:PsOk n r L dv 0 s R) (hw:isR L [108,101,116] R=true):DoesW n r L dv 129 [.ptr r 0] s (itmF L true R).2 (fun s' V=>(itmF L true R).1.2=true∧ItQ n s.length (itmF L true R).1.1 s' V):=by
 obtain ⟨s1,c1,Z0⟩:=item_start q hw
 simp only [itZ,itS] at c1 Z0
 refine doesW_of (N:=165) prim129 fn129 rfl rfl ?_
 intro e he ha K hK hP
 have a0:=ha 0
 clear ha
 simp at a0
 have ea:itmF L true R=finR L ⟨1,(typedF L R.adv).1.n,(typedF L R.adv).1.t,(exprF L (wantR L [61] (typedF L R.adv).2)).1,0,[],.tight,[],[],(tkF L R).pos⟩ (exprF L (wantR L [61] (typedF L R.adv).2)).2:=by simp [itmF,posF,typedF,hw]
 rw [ea] at hK hP
 dsimp only [finR] at hK hP
 have Y1:=Z0.seti 0 (.int .i64 1) rfl
 simp only [set_last,List.set_set,List.set_cons_zero,List.set_cons_succ] at Y1
 simp [a129,he,a0,c1,Z0.g,Z0.z,Y1.g,Ai.beq_refl]
 obtain ⟨u2,⟨z2,d2,Y2⟩ | ⟨cn,d2,k2⟩⟩:=Y1.call (typedP Y1.q)
 case inr =>
  simp [he,a0,d2]
  obtain ⟨t1,t2⟩:=((((Stk.want (w:=[61])).trans (stkE0 _)).trans (Stk.want (w:=[59])))).tell cn
  exact hP _ _ _ t1 t2 k2
 have Y3:=Y2.seti 1 (.str (typedF L R.adv).1.n) rfl
 simp only [set_last,List.set_set,List.set_cons_zero,List.set_cons_succ] at Y3
 have Y4:=Y3.seti 2 (.int .i64 (typedF L R.adv).1.t) rfl
 simp only [set_last,List.set_set,List.set_cons_zero,List.set_cons_succ] at Y4
 simp [he,a0,d2,Y2.g,Y3.g,Y4.g,Ai.beq_refl]
 obtain ⟨u5,⟨z5,d5,Y5⟩ | ⟨cn,d5,k5⟩⟩:=Y4.call (want1P Y4.q [61])
 case inr =>
  simp [he,a0,d5]
  obtain ⟨t1,t2⟩:=(((stkE0 _).trans (Stk.want (w:=[59])))).tell cn
  exact hP _ _ _ t1 t2 k5
 simp [he,a0,d5,Y5.g,Ai.beq_refl]
 obtain ⟨u6,⟨z6,d6,Y6⟩ | ⟨cn,d6,k6⟩⟩:=Y5.call (goodE0 _ _ Y5.q)
 case inr =>
  simp [he,a0,d6]
  obtain ⟨t1,t2⟩:=((Stk.want (w:=[59]))).tell cn
  exact hP _ _ _ t1 t2 k6
 have Y7:=Y6.seti 3 (.int .i64 (exprF L (wantR L [61] (typedF L R.adv).2)).1) rfl
 simp only [set_last,List.set_set,List.set_cons_zero,List.set_cons_succ] at Y7
 simp [he,a0,d6,Y6.g,Y7.g,Ai.beq_refl]
 obtain ⟨u8,⟨z8,d8,Y8⟩ | ⟨cn,d8,k8⟩⟩:=Y7.call (want1P Y7.q [59])
 case inr =>
  simp [he,a0,d8]
  exact hP _ _ _ cn rfl k8
 obtain ⟨f1,f2,f3⟩:=Y8.last
 simp [he,a0,d8,Y8.g,Y8.z,Ai.beq_refl]
 refine hK _ _ _ (.inl rfl) (by simpa using f1) (by simpa using f2) _ ⟨[_],?_,rfl⟩ ⟨by simp [z8],.tight,rfl,rfl,fun S=>rfl⟩
 simp [a129,he,f3,res_cell,takeVar,It.av,It.cs,strs]
set_option maxHeartbeats 1000000 in
theorem item_der (q:PsOk n r L dv 0 s R) (hw:isR L [100,101,114] R=true):DoesW n r L dv 129 [.ptr r 0] s (itmF L true R).2 (fun s' V=>(itmF L true R).1.2=true∧ItQ n s.length (itmF L true R).1.1 s' V):=by
 obtain ⟨s1,c1,Z0⟩:=item_start q hw
 simp only [itZ,itS] at c1 Z0
 have n_let:isR L [108,101,116] R=false:=isR_excl hw (by decide)
 refine doesW_of (N:=165) prim129 fn129 rfl rfl ?_
 intro e he ha K hK hP
 have a0:=ha 0
 clear ha
 simp at a0
 have ea:itmF L true R=finR L ⟨2,(nameR L R.adv).1,0,(exprF L (wantR L [61] (nameR L R.adv).2)).1,(exprF L (wantR L [105,110,105,116] (exprF L (wantR L [61] (nameR L R.adv).2)).2)).1,[],.tight,[],[],(tkF L R).pos⟩ (exprF L (wantR L [105,110,105,116] (exprF L (wantR L [61] (nameR L R.adv).2)).2)).2:=by simp [itmF,posF,typedF,hw,n_let]
 rw [ea] at hK hP
 dsimp only [finR] at hK hP
 simp [a129,he,a0,c1,Z0.g,Z0.z,Ai.beq_refl]
 obtain ⟨u1,⟨z1,e1,d1,Y1⟩ | ⟨cn,d1,k1⟩⟩:=Z0.name
 case inr =>
  simp [he,a0,d1]
  obtain ⟨t1,t2⟩:=((((((Stk.want (w:=[61])).trans (stkE0 _)).trans (Stk.want (w:=[105,110,105,116]))).trans (stkE0 _)).trans (Stk.want (w:=[59])))).tell cn
  exact hP _ _ _ t1 t2 k1
 have Y2:=Y1.seti 0 (.int .i64 2) rfl
 simp only [set_last,List.set_set,List.set_cons_zero,List.set_cons_succ] at Y2
 have Y3:=Y2.seti 1 (.str (nameR L R.adv).1) rfl
 simp only [set_last,List.set_set,List.set_cons_zero,List.set_cons_succ] at Y3
 simp [he,a0,d1,Y1.g,Y2.g,Y3.g,Ai.beq_refl]
 obtain ⟨u4,⟨z4,d4,Y4⟩ | ⟨cn,d4,k4⟩⟩:=Y3.call (want1P Y3.q [61])
 case inr =>
  simp [he,a0,d4]
  obtain ⟨t1,t2⟩:=(((((stkE0 _).trans (Stk.want (w:=[105,110,105,116]))).trans (stkE0 _)).trans (Stk.want (w:=[59])))).tell cn
  exact hP _ _ _ t1 t2 k4
 simp [he,a0,d4,Y4.g,Ai.beq_refl]
 obtain ⟨u5,⟨z5,d5,Y5⟩ | ⟨cn,d5,k5⟩⟩:=Y4.call (goodE0 _ _ Y4.q)
 case inr =>
  simp [he,a0,d5]
  obtain ⟨t1,t2⟩:=((((Stk.want (w:=[105,110,105,116])).trans (stkE0 _)).trans (Stk.want (w:=[59])))).tell cn
  exact hP _ _ _ t1 t2 k5
 have Y6:=Y5.seti 3 (.int .i64 (exprF L (wantR L [61] (nameR L R.adv).2)).1) rfl
 simp only [set_last,List.set_set,List.set_cons_zero,List.set_cons_succ] at Y6
 simp [he,a0,d5,Y5.g,Y6.g,Ai.beq_refl]
 obtain ⟨u7,⟨z7,d7,Y7⟩ | ⟨cn,d7,k7⟩⟩:=Y6.call (want1P Y6.q [105,110,105,116])
 case inr =>
  simp [he,a0,d7]
  obtain ⟨t1,t2⟩:=(((stkE0 _).trans (Stk.want (w:=[59])))).tell cn
  exact hP _ _ _ t1 t2 k7
 simp [he,a0,d7,Y7.g,Ai.beq_refl]
 obtain ⟨u8,⟨z8,d8,Y8⟩ | ⟨cn,d8,k8⟩⟩:=Y7.call (goodE0 _ _ Y7.q)
 case inr =>
  simp [he,a0,d8]
  obtain ⟨t1,t2⟩:=((Stk.want (w:=[59]))).tell cn
  exact hP _ _ _ t1 t2 k8
 have Y9:=Y8.seti 4 (.int .i64 (exprF L (wantR L [105,110,105,116] (exprF L (wantR L [61] (nameR L R.adv).2)).2)).1) rfl
 simp only [set_last,List.set_set,List.set_cons_zero,List.set_cons_succ] at Y9
 simp [he,a0,d8,Y8.g,Y9.g,Ai.beq_refl]
 obtain ⟨u10,⟨z10,d10,Y10⟩ | ⟨cn,d10,k10⟩⟩:=Y9.call (want1P Y9.q [59])
 case inr =>
  simp [he,a0,d10]
  exact hP _ _ _ cn rfl k10
 obtain ⟨f1,f2,f3⟩:=Y10.last
 simp [he,a0,d10,Y10.g,Y10.z,Ai.beq_refl]
 refine hK _ _ _ (.inl rfl) (by simpa using f1) (by simpa using f2) _ ⟨[_],?_,rfl⟩ ⟨by simp [z10],.tight,rfl,rfl,fun S=>rfl⟩
 simp [a129,he,f3,res_cell,takeVar,It.av,It.cs,strs]
set_option maxHeartbeats 1000000 in
theorem item_reset (q:PsOk n r L dv 0 s R) (hw:isR L [114,101,115,101,116] R=true):DoesW n r L dv 129 [.ptr r 0] s (itmF L true R).2 (fun s' V=>(itmF L true R).1.2=true∧ItQ n s.length (itmF L true R).1.1 s' V):=by
 obtain ⟨s1,c1,Z0⟩:=item_start q hw
 simp only [itZ,itS] at c1 Z0
 have n_let:isR L [108,101,116] R=false:=isR_excl hw (by decide)
 have n_der:isR L [100,101,114] R=false:=isR_excl hw (by decide)
 refine doesW_of (N:=165) prim129 fn129 rfl rfl ?_
 intro e he ha K hK hP
 have a0:=ha 0
 clear ha
 simp at a0
 have ea:itmF L true R=finR L ⟨3,(nameR L R.adv).1,0,(exprF L (wantR L [61] (exprF L (wantR L [111,110] (nameR L R.adv).2)).2)).1,(exprF L (wantR L [111,110] (nameR L R.adv).2)).1,[],.tight,[],[],(tkF L R).pos⟩ (exprF L (wantR L [61] (exprF L (wantR L [111,110] (nameR L R.adv).2)).2)).2:=by simp [itmF,posF,typedF,hw,n_let,n_der]
 rw [ea] at hK hP
 dsimp only [finR] at hK hP
 simp [a129,he,a0,c1,Z0.g,Z0.z,Ai.beq_refl]
 obtain ⟨u1,⟨z1,e1,d1,Y1⟩ | ⟨cn,d1,k1⟩⟩:=Z0.name
 case inr =>
  simp [he,a0,d1]
  obtain ⟨t1,t2⟩:=((((((Stk.want (w:=[111,110])).trans (stkE0 _)).trans (Stk.want (w:=[61]))).trans (stkE0 _)).trans (Stk.want (w:=[59])))).tell cn
  exact hP _ _ _ t1 t2 k1
 have Y2:=Y1.seti 0 (.int .i64 3) rfl
 simp only [set_last,List.set_set,List.set_cons_zero,List.set_cons_succ] at Y2
 have Y3:=Y2.seti 1 (.str (nameR L R.adv).1) rfl
 simp only [set_last,List.set_set,List.set_cons_zero,List.set_cons_succ] at Y3
 simp [he,a0,d1,Y1.g,Y2.g,Y3.g,Ai.beq_refl]
 obtain ⟨u4,⟨z4,d4,Y4⟩ | ⟨cn,d4,k4⟩⟩:=Y3.call (want1P Y3.q [111,110])
 case inr =>
  simp [he,a0,d4]
  obtain ⟨t1,t2⟩:=(((((stkE0 _).trans (Stk.want (w:=[61]))).trans (stkE0 _)).trans (Stk.want (w:=[59])))).tell cn
  exact hP _ _ _ t1 t2 k4
 simp [he,a0,d4,Y4.g,Ai.beq_refl]
 obtain ⟨u5,⟨z5,d5,Y5⟩ | ⟨cn,d5,k5⟩⟩:=Y4.call (goodE0 _ _ Y4.q)
 case inr =>
  simp [he,a0,d5]
  obtain ⟨t1,t2⟩:=((((Stk.want (w:=[61])).trans (stkE0 _)).trans (Stk.want (w:=[59])))).tell cn
  exact hP _ _ _ t1 t2 k5
 have Y6:=Y5.seti 4 (.int .i64 (exprF L (wantR L [111,110] (nameR L R.adv).2)).1) rfl
 simp only [set_last,List.set_set,List.set_cons_zero,List.set_cons_succ] at Y6
 simp [he,a0,d5,Y5.g,Y6.g,Ai.beq_refl]
 obtain ⟨u7,⟨z7,d7,Y7⟩ | ⟨cn,d7,k7⟩⟩:=Y6.call (want1P Y6.q [61])
 case inr =>
  simp [he,a0,d7]
  obtain ⟨t1,t2⟩:=(((stkE0 _).trans (Stk.want (w:=[59])))).tell cn
  exact hP _ _ _ t1 t2 k7
 simp [he,a0,d7,Y7.g,Ai.beq_refl]
 obtain ⟨u8,⟨z8,d8,Y8⟩ | ⟨cn,d8,k8⟩⟩:=Y7.call (goodE0 _ _ Y7.q)
 case inr =>
  simp [he,a0,d8]
  obtain ⟨t1,t2⟩:=((Stk.want (w:=[59]))).tell cn
  exact hP _ _ _ t1 t2 k8
 have Y9:=Y8.seti 3 (.int .i64 (exprF L (wantR L [61] (exprF L (wantR L [111,110] (nameR L R.adv).2)).2)).1) rfl
 simp only [set_last,List.set_set,List.set_cons_zero,List.set_cons_succ] at Y9
 simp [he,a0,d8,Y8.g,Y9.g,Ai.beq_refl]
 obtain ⟨u10,⟨z10,d10,Y10⟩ | ⟨cn,d10,k10⟩⟩:=Y9.call (want1P Y9.q [59])
 case inr =>
  simp [he,a0,d10]
  exact hP _ _ _ cn rfl k10
 obtain ⟨f1,f2,f3⟩:=Y10.last
 simp [he,a0,d10,Y10.g,Y10.z,Ai.beq_refl]
 refine hK _ _ _ (.inl rfl) (by simpa using f1) (by simpa using f2) _ ⟨[_],?_,rfl⟩ ⟨by simp [z10],.tight,rfl,rfl,fun S=>rfl⟩
 simp [a129,he,f3,res_cell,takeVar,It.av,It.cs,strs]
set_option maxHeartbeats 1000000 in
theorem item_mem (q:PsOk n r L dv 0 s R) (hw:isR L [109,101,109] R=true):DoesW n r L dv 129 [.ptr r 0] s (itmF L true R).2 (fun s' V=>(itmF L true R).1.2=true∧ItQ n s.length (itmF L true R).1.1 s' V):=by
 obtain ⟨s1,c1,Z0⟩:=item_start q hw
 simp only [itZ,itS] at c1 Z0
 have n_let:isR L [108,101,116] R=false:=isR_excl hw (by decide)
 have n_der:isR L [100,101,114] R=false:=isR_excl hw (by decide)
 have n_reset:isR L [114,101,115,101,116] R=false:=isR_excl hw (by decide)
 refine doesW_of (N:=165) prim129 fn129 rfl rfl ?_
 intro e he ha K hK hP
 have a0:=ha 0
 clear ha
 simp at a0
 have ea:itmF L true R=finR L ⟨4,(typedF L R.adv).1.n,(typedF L R.adv).1.t,(exprF L (wantR L [105,110,105,116] (typedF L R.adv).2)).1,0,[],.tight,[],[],(tkF L R).pos⟩ (exprF L (wantR L [105,110,105,116] (typedF L R.adv).2)).2:=by simp [itmF,posF,typedF,hw,n_let,n_der,n_reset]
 rw [ea] at hK hP
 dsimp only [finR] at hK hP
 have Y1:=Z0.seti 0 (.int .i64 4) rfl
 simp only [set_last,List.set_set,List.set_cons_zero,List.set_cons_succ] at Y1
 simp [a129,he,a0,c1,Z0.g,Z0.z,Y1.g,Ai.beq_refl]
 obtain ⟨u2,⟨z2,d2,Y2⟩ | ⟨cn,d2,k2⟩⟩:=Y1.call (typedP Y1.q)
 case inr =>
  simp [he,a0,d2]
  obtain ⟨t1,t2⟩:=((((Stk.want (w:=[105,110,105,116])).trans (stkE0 _)).trans (Stk.want (w:=[59])))).tell cn
  exact hP _ _ _ t1 t2 k2
 have Y3:=Y2.seti 1 (.str (typedF L R.adv).1.n) rfl
 simp only [set_last,List.set_set,List.set_cons_zero,List.set_cons_succ] at Y3
 have Y4:=Y3.seti 2 (.int .i64 (typedF L R.adv).1.t) rfl
 simp only [set_last,List.set_set,List.set_cons_zero,List.set_cons_succ] at Y4
 simp [he,a0,d2,Y2.g,Y3.g,Y4.g,Ai.beq_refl]
 obtain ⟨u5,⟨z5,d5,Y5⟩ | ⟨cn,d5,k5⟩⟩:=Y4.call (want1P Y4.q [105,110,105,116])
 case inr =>
  simp [he,a0,d5]
  obtain ⟨t1,t2⟩:=(((stkE0 _).trans (Stk.want (w:=[59])))).tell cn
  exact hP _ _ _ t1 t2 k5
 simp [he,a0,d5,Y5.g,Ai.beq_refl]
 obtain ⟨u6,⟨z6,d6,Y6⟩ | ⟨cn,d6,k6⟩⟩:=Y5.call (goodE0 _ _ Y5.q)
 case inr =>
  simp [he,a0,d6]
  obtain ⟨t1,t2⟩:=((Stk.want (w:=[59]))).tell cn
  exact hP _ _ _ t1 t2 k6
 have Y7:=Y6.seti 3 (.int .i64 (exprF L (wantR L [105,110,105,116] (typedF L R.adv).2)).1) rfl
 simp only [set_last,List.set_set,List.set_cons_zero,List.set_cons_succ] at Y7
 simp [he,a0,d6,Y6.g,Y7.g,Ai.beq_refl]
 obtain ⟨u8,⟨z8,d8,Y8⟩ | ⟨cn,d8,k8⟩⟩:=Y7.call (want1P Y7.q [59])
 case inr =>
  simp [he,a0,d8]
  exact hP _ _ _ cn rfl k8
 obtain ⟨f1,f2,f3⟩:=Y8.last
 simp [he,a0,d8,Y8.g,Y8.z,Ai.beq_refl]
 refine hK _ _ _ (.inl rfl) (by simpa using f1) (by simpa using f2) _ ⟨[_],?_,rfl⟩ ⟨by simp [z8],.tight,rfl,rfl,fun S=>rfl⟩
 simp [a129,he,f3,res_cell,takeVar,It.av,It.cs,strs]
set_option maxHeartbeats 1000000 in
theorem item_on (q:PsOk n r L dv 0 s R) (hw:isR L [111,110] R=true):DoesW n r L dv 129 [.ptr r 0] s (itmF L true R).2 (fun s' V=>(itmF L true R).1.2=true∧ItQ n s.length (itmF L true R).1.1 s' V):=by
 obtain ⟨s1,c1,Z0⟩:=item_start q hw
 simp only [itZ,itS] at c1 Z0
 have n_let:isR L [108,101,116] R=false:=isR_excl hw (by decide)
 have n_der:isR L [100,101,114] R=false:=isR_excl hw (by decide)
 have n_reset:isR L [114,101,115,101,116] R=false:=isR_excl hw (by decide)
 have n_mem:isR L [109,101,109] R=false:=isR_excl hw (by decide)
 refine doesW_of (N:=165) prim129 fn129 rfl rfl ?_
 intro e he ha K hK hP
 have a0:=ha 0
 clear ha
 simp at a0
 have ea:itmF L true R=finR L ⟨5,(nameR L (wantR L [115,101,116] (exprF L R.adv).2)).1,0,(exprF L (wantR L [61] (nameR L (wantR L [115,101,116] (exprF L R.adv).2)).2)).1,(exprF L R.adv).1,[],.tight,[],[],(tkF L R).pos⟩ (exprF L (wantR L [61] (nameR L (wantR L [115,101,116] (exprF L R.adv).2)).2)).2:=by simp [itmF,posF,typedF,hw,n_let,n_der,n_reset,n_mem]
 rw [ea] at hK hP
 dsimp only [finR] at hK hP
 simp [a129,he,a0,c1,Z0.g,Z0.z,Ai.beq_refl]
 obtain ⟨u1,⟨z1,d1,Y1⟩ | ⟨cn,d1,k1⟩⟩:=Z0.call (goodE0 _ _ Z0.q)
 case inr =>
  simp [he,a0,d1]
  obtain ⟨t1,t2⟩:=((((((Stk.want (w:=[115,101,116])).trans Stk.name).trans (Stk.want (w:=[61]))).trans (stkE0 _)).trans (Stk.want (w:=[59])))).tell cn
  exact hP _ _ _ t1 t2 k1
 have Y2:=Y1.seti 0 (.int .i64 5) rfl
 simp only [set_last,List.set_set,List.set_cons_zero,List.set_cons_succ] at Y2
 have Y3:=Y2.seti 4 (.int .i64 (exprF L R.adv).1) rfl
 simp only [set_last,List.set_set,List.set_cons_zero,List.set_cons_succ] at Y3
 simp [he,a0,d1,Y1.g,Y2.g,Y3.g,Ai.beq_refl]
 obtain ⟨u4,⟨z4,d4,Y4⟩ | ⟨cn,d4,k4⟩⟩:=Y3.call (want1P Y3.q [115,101,116])
 case inr =>
  simp [he,a0,d4]
  obtain ⟨t1,t2⟩:=((((Stk.name.trans (Stk.want (w:=[61]))).trans (stkE0 _)).trans (Stk.want (w:=[59])))).tell cn
  exact hP _ _ _ t1 t2 k4
 simp [he,a0,d4,Y4.g,Ai.beq_refl]
 obtain ⟨u5,⟨z5,e5,d5,Y5⟩ | ⟨cn,d5,k5⟩⟩:=Y4.name
 case inr =>
  simp [he,a0,d5]
  obtain ⟨t1,t2⟩:=((((Stk.want (w:=[61])).trans (stkE0 _)).trans (Stk.want (w:=[59])))).tell cn
  exact hP _ _ _ t1 t2 k5
 have Y6:=Y5.seti 1 (.str (nameR L (wantR L [115,101,116] (exprF L R.adv).2)).1) rfl
 simp only [set_last,List.set_set,List.set_cons_zero,List.set_cons_succ] at Y6
 simp [he,a0,d5,Y5.g,Y6.g,Ai.beq_refl]
 obtain ⟨u7,⟨z7,d7,Y7⟩ | ⟨cn,d7,k7⟩⟩:=Y6.call (want1P Y6.q [61])
 case inr =>
  simp [he,a0,d7]
  obtain ⟨t1,t2⟩:=(((stkE0 _).trans (Stk.want (w:=[59])))).tell cn
  exact hP _ _ _ t1 t2 k7
 simp [he,a0,d7,Y7.g,Ai.beq_refl]
 obtain ⟨u8,⟨z8,d8,Y8⟩ | ⟨cn,d8,k8⟩⟩:=Y7.call (goodE0 _ _ Y7.q)
 case inr =>
  simp [he,a0,d8]
  obtain ⟨t1,t2⟩:=((Stk.want (w:=[59]))).tell cn
  exact hP _ _ _ t1 t2 k8
 have Y9:=Y8.seti 3 (.int .i64 (exprF L (wantR L [61] (nameR L (wantR L [115,101,116] (exprF L R.adv).2)).2)).1) rfl
 simp only [set_last,List.set_set,List.set_cons_zero,List.set_cons_succ] at Y9
 simp [he,a0,d8,Y8.g,Y9.g,Ai.beq_refl]
 obtain ⟨u10,⟨z10,d10,Y10⟩ | ⟨cn,d10,k10⟩⟩:=Y9.call (want1P Y9.q [59])
 case inr =>
  simp [he,a0,d10]
  exact hP _ _ _ cn rfl k10
 obtain ⟨f1,f2,f3⟩:=Y10.last
 simp [he,a0,d10,Y10.g,Y10.z,Ai.beq_refl]
 refine hK _ _ _ (.inl rfl) (by simpa using f1) (by simpa using f2) _ ⟨[_],?_,rfl⟩ ⟨by simp [z10],.tight,rfl,rfl,fun S=>rfl⟩
 simp [a129,he,f3,res_cell,takeVar,It.av,It.cs,strs]
set_option maxHeartbeats 1000000 in
theorem item_from (q:PsOk n r L dv 0 s R) (hw:isR L [102,114,111,109] R=true):DoesW n r L dv 129 [.ptr r 0] s (itmF L true R).2 (fun s' V=>(itmF L true R).1.2=true∧ItQ n s.length (itmF L true R).1.1 s' V):=by
 obtain ⟨s1,c1,Z0⟩:=item_start q hw
 simp only [itZ,itS] at c1 Z0
 have n_let:isR L [108,101,116] R=false:=isR_excl hw (by decide)
 have n_der:isR L [100,101,114] R=false:=isR_excl hw (by decide)
 have n_reset:isR L [114,101,115,101,116] R=false:=isR_excl hw (by decide)
 have n_mem:isR L [109,101,109] R=false:=isR_excl hw (by decide)
 have n_on:isR L [111,110] R=false:=isR_excl hw (by decide)
 have n_mode:isR L [109,111,100,101] R=false:=isR_excl hw (by decide)
 refine doesW_of (N:=165) prim129 fn129 rfl rfl ?_
 intro e he ha K hK hP
 have a0:=ha 0
 clear ha
 simp at a0
 have ea:itmF L true R=finR L ⟨7,(nameR L R.adv).1,0,0,(exprF L (wantR L [111,110] (nameR L (wantR L [46] (nameR L R.adv).2)).2)).1,[],.tight,(nameR L (wantR L [46] (nameR L R.adv).2)).1,(nameR L (wantR L [103,111,116,111] (exprF L (wantR L [111,110] (nameR L (wantR L [46] (nameR L R.adv).2)).2)).2)).1,(tkF L R).pos⟩ (nameR L (wantR L [103,111,116,111] (exprF L (wantR L [111,110] (nameR L (wantR L [46] (nameR L R.adv).2)).2)).2)).2:=by simp [itmF,posF,typedF,hw,n_let,n_der,n_reset,n_mem,n_on,n_mode]
 rw [ea] at hK hP
 dsimp only [finR] at hK hP
 simp [a129,he,a0,c1,Z0.g,Z0.z,Ai.beq_refl]
 obtain ⟨u1,⟨z1,e1,d1,Y1⟩ | ⟨cn,d1,k1⟩⟩:=Z0.name
 case inr =>
  simp [he,a0,d1]
  obtain ⟨t1,t2⟩:=((((((((Stk.want (w:=[46])).trans Stk.name).trans (Stk.want (w:=[111,110]))).trans (stkE0 _)).trans (Stk.want (w:=[103,111,116,111]))).trans Stk.name).trans (Stk.want (w:=[59])))).tell cn
  exact hP _ _ _ t1 t2 k1
 have Y2:=Y1.seti 0 (.int .i64 7) rfl
 simp only [set_last,List.set_set,List.set_cons_zero,List.set_cons_succ] at Y2
 have Y3:=Y2.seti 1 (.str (nameR L R.adv).1) rfl
 simp only [set_last,List.set_set,List.set_cons_zero,List.set_cons_succ] at Y3
 simp [he,a0,d1,Y1.g,Y2.g,Y3.g,Ai.beq_refl]
 obtain ⟨u4,⟨z4,d4,Y4⟩ | ⟨cn,d4,k4⟩⟩:=Y3.call (want1P Y3.q [46])
 case inr =>
  simp [he,a0,d4]
  obtain ⟨t1,t2⟩:=((((((Stk.name.trans (Stk.want (w:=[111,110]))).trans (stkE0 _)).trans (Stk.want (w:=[103,111,116,111]))).trans Stk.name).trans (Stk.want (w:=[59])))).tell cn
  exact hP _ _ _ t1 t2 k4
 simp [he,a0,d4,Y4.g,Ai.beq_refl]
 obtain ⟨u5,⟨z5,e5,d5,Y5⟩ | ⟨cn,d5,k5⟩⟩:=Y4.name
 case inr =>
  simp [he,a0,d5]
  obtain ⟨t1,t2⟩:=((((((Stk.want (w:=[111,110])).trans (stkE0 _)).trans (Stk.want (w:=[103,111,116,111]))).trans Stk.name).trans (Stk.want (w:=[59])))).tell cn
  exact hP _ _ _ t1 t2 k5
 have Y6:=Y5.seti 6 (.str (nameR L (wantR L [46] (nameR L R.adv).2)).1) rfl
 simp only [set_last,List.set_set,List.set_cons_zero,List.set_cons_succ] at Y6
 simp [he,a0,d5,Y5.g,Y6.g,Ai.beq_refl]
 obtain ⟨u7,⟨z7,d7,Y7⟩ | ⟨cn,d7,k7⟩⟩:=Y6.call (want1P Y6.q [111,110])
 case inr =>
  simp [he,a0,d7]
  obtain ⟨t1,t2⟩:=(((((stkE0 _).trans (Stk.want (w:=[103,111,116,111]))).trans Stk.name).trans (Stk.want (w:=[59])))).tell cn
  exact hP _ _ _ t1 t2 k7
 simp [he,a0,d7,Y7.g,Ai.beq_refl]
 obtain ⟨u8,⟨z8,d8,Y8⟩ | ⟨cn,d8,k8⟩⟩:=Y7.call (goodE0 _ _ Y7.q)
 case inr =>
  simp [he,a0,d8]
  obtain ⟨t1,t2⟩:=((((Stk.want (w:=[103,111,116,111])).trans Stk.name).trans (Stk.want (w:=[59])))).tell cn
  exact hP _ _ _ t1 t2 k8
 have Y9:=Y8.seti 4 (.int .i64 (exprF L (wantR L [111,110] (nameR L (wantR L [46] (nameR L R.adv).2)).2)).1) rfl
 simp only [set_last,List.set_set,List.set_cons_zero,List.set_cons_succ] at Y9
 simp [he,a0,d8,Y8.g,Y9.g,Ai.beq_refl]
 obtain ⟨u10,⟨z10,d10,Y10⟩ | ⟨cn,d10,k10⟩⟩:=Y9.call (want1P Y9.q [103,111,116,111])
 case inr =>
  simp [he,a0,d10]
  obtain ⟨t1,t2⟩:=((Stk.name.trans (Stk.want (w:=[59])))).tell cn
  exact hP _ _ _ t1 t2 k10
 simp [he,a0,d10,Y10.g,Ai.beq_refl]
 obtain ⟨u11,⟨z11,e11,d11,Y11⟩ | ⟨cn,d11,k11⟩⟩:=Y10.name
 case inr =>
  simp [he,a0,d11]
  obtain ⟨t1,t2⟩:=((Stk.want (w:=[59]))).tell cn
  exact hP _ _ _ t1 t2 k11
 have Y12:=Y11.seti 7 (.str (nameR L (wantR L [103,111,116,111] (exprF L (wantR L [111,110] (nameR L (wantR L [46] (nameR L R.adv).2)).2)).2)).1) rfl
 simp only [set_last,List.set_set,List.set_cons_zero,List.set_cons_succ] at Y12
 simp [he,a0,d11,Y11.g,Y12.g,Ai.beq_refl]
 obtain ⟨u13,⟨z13,d13,Y13⟩ | ⟨cn,d13,k13⟩⟩:=Y12.call (want1P Y12.q [59])
 case inr =>
  simp [he,a0,d13]
  exact hP _ _ _ cn rfl k13
 obtain ⟨f1,f2,f3⟩:=Y13.last
 simp [he,a0,d13,Y13.g,Y13.z,Ai.beq_refl]
 refine hK _ _ _ (.inl rfl) (by simpa using f1) (by simpa using f2) _ ⟨[_],?_,rfl⟩ ⟨by simp [z13],.tight,rfl,rfl,fun S=>rfl⟩
 simp [a129,he,f3,res_cell,takeVar,It.av,It.cs,strs]
set_option maxHeartbeats 1000000 in
theorem item_out (q:PsOk n r L dv 0 s R) (hw:isR L [111,117,116] R=true):DoesW n r L dv 129 [.ptr r 0] s (itmF L true R).2 (fun s' V=>(itmF L true R).1.2=true∧ItQ n s.length (itmF L true R).1.1 s' V):=by
 obtain ⟨s1,c1,Z0⟩:=item_start q hw
 simp only [itZ,itS] at c1 Z0
 have n_let:isR L [108,101,116] R=false:=isR_excl hw (by decide)
 have n_der:isR L [100,101,114] R=false:=isR_excl hw (by decide)
 have n_reset:isR L [114,101,115,101,116] R=false:=isR_excl hw (by decide)
 have n_mem:isR L [109,101,109] R=false:=isR_excl hw (by decide)
 have n_on:isR L [111,110] R=false:=isR_excl hw (by decide)
 have n_mode:isR L [109,111,100,101] R=false:=isR_excl hw (by decide)
 have n_from:isR L [102,114,111,109] R=false:=isR_excl hw (by decide)
 refine doesW_of (N:=165) prim129 fn129 rfl rfl ?_
 intro e he ha K hK hP
 have a0:=ha 0
 clear ha
 simp at a0
 have ea:itmF L true R=finR L ⟨8,(nameR L R.adv).1,0,0,0,[],.tight,[],[],(tkF L R).pos⟩ (nameR L R.adv).2:=by simp [itmF,posF,typedF,hw,n_let,n_der,n_reset,n_mem,n_on,n_mode,n_from]
 rw [ea] at hK hP
 dsimp only [finR] at hK hP
 simp [a129,he,a0,c1,Z0.g,Z0.z,Ai.beq_refl]
 obtain ⟨u1,⟨z1,e1,d1,Y1⟩ | ⟨cn,d1,k1⟩⟩:=Z0.name
 case inr =>
  simp [he,a0,d1]
  obtain ⟨t1,t2⟩:=((Stk.want (w:=[59]))).tell cn
  exact hP _ _ _ t1 t2 k1
 have Y2:=Y1.seti 0 (.int .i64 8) rfl
 simp only [set_last,List.set_set,List.set_cons_zero,List.set_cons_succ] at Y2
 have Y3:=Y2.seti 1 (.str (nameR L R.adv).1) rfl
 simp only [set_last,List.set_set,List.set_cons_zero,List.set_cons_succ] at Y3
 simp [he,a0,d1,Y1.g,Y2.g,Y3.g,Ai.beq_refl]
 obtain ⟨u4,⟨z4,d4,Y4⟩ | ⟨cn,d4,k4⟩⟩:=Y3.call (want1P Y3.q [59])
 case inr =>
  simp [he,a0,d4]
  exact hP _ _ _ cn rfl k4
 obtain ⟨f1,f2,f3⟩:=Y4.last
 simp [he,a0,d4,Y4.g,Y4.z,Ai.beq_refl]
 refine hK _ _ _ (.inl rfl) (by simpa using f1) (by simpa using f2) _ ⟨[_],?_,rfl⟩ ⟨by simp [z4],.tight,rfl,rfl,fun S=>rfl⟩
 simp [a129,he,f3,res_cell,takeVar,It.av,It.cs,strs]
end
end Go.Proofs.YtgkhmmlemgikjaaGreatDoor
namespace Go.Proofs.YtgkhmmlemgikjaaGreatDoor
open Go Ai
def fixIt (x:It):It:=if x.k=6∧x.ss.length=1 then { x with ap:=.tight } else x
section
variable {n r:Nat} {L:List Tk} {dv:AV} {c0 c:Nat} {s0:St} {Z:List AV} {s:St} {R:Rd} {cs:List AV}
theorem stk_sts:∀(m:Nat) (l:List Sx) (R:Rd),Stk R (stsF L m l R).2
 | 0,_,_=>.refl
 | m+1,l,R=>fun hc=>by simp [stsF,isR_stk hc]
theorem CelQ.pushT (h:CelQ n r L dv c0 c s0 Z s R cs) {m bytes:Nat} {ty:Option TypeId} {ap0:Ap} {l:List AV} {x:AV} (hl:l.length≤4000000000) (hby:bytes≤256) :
  ∃ap' s2,appendA m bytes ty s (.lst m l .tight) (.lst m [x] ap0)=some (.val (.lst m (l++[x]) ap') s2)∧Own s2 s0.length m ty ap' (l++[x]).length∧CelQ n r L dv c0 c s0 Z s2 R cs:=by
 have hlen:=h.k.g.len
 have hq:=h.q.len
 have hg:=(List.getElem?_eq_some_iff.1 h.g).1
 have hz:=(List.getElem?_eq_some_iff.1 h.z).1
 have hlow:AObj.lowB (s.length+1) (.tok m (l.length+1) ty)=true:=rfl
 refine ⟨.tok s.length,s++[.tok m (l.length+1) ty],?_,.inr ⟨by simp,s.length,rfl,hlen,by simp⟩,?_⟩
 ·simp [appendA,elemsOf,hby,AV.asLst,Ai.great];omega
 ·exact { h with q:=h.q.app hlow,k:=h.k.trans (.app (by have:=h.bn;omega) hlow),g:=by rw [List.getElem?_append_left hg];exact h.g,z:=by rw [List.getElem?_append_left hz];exact h.z }
theorem CelQ.pushO (h:CelQ n r L dv c0 c s0 Z s R cs) {m bytes:Nat} {ty:Option TypeId} {ap ap0:Ap} {l:List AV} {x:AV} (ho:Own s s0.length m ty ap l.length) (hm:m≠9∨ty≠some 62) (hl:l.length≤4000000000) (hby:bytes≤256) :
  ∃ap' s2,appendA m bytes ty s (.lst m l ap) (.lst m [x] ap0)=some (.val (.lst m (l++[x]) ap') s2)∧Own s2 s0.length m ty ap' (l++[x]).length∧CelQ n r L dv c0 c s0 Z s2 R cs:=by
 obtain ⟨ap',s2,p1,p2,p3,p4,_,p5⟩:=h.q.push (bytes:=bytes) (x:=x) (ap0:=ap0) h.k ho hm h.bn hl hby
 exact ⟨ap',s2,p1,p2,{ h with q:=p3,k:=p4,g:=p5 _ _ h.g nofun,z:=p5 _ _ h.z nofun }⟩
abbrev mdC (nm:Sx) (ss:List Sx) (ap:Ap) (p:Int):List AV:=[.int .i64 6,.str nm,.int .i64 0,.int .i64 0,.int .i64 0,.lst 1 (strs ss) ap,.str [],.str [],.int .i64 p]
set_option maxHeartbeats 1000000 in
theorem item_mode (q:PsOk n r L dv 0 s R) (hw:isR L [109,111,100,101] R=true):DoesW n r L dv 129 [.ptr r 0] s (itmF L true R).2 (fun s' V=>(itmF L true R).1.2=true∧ItQ n s.length (fixIt (itmF L true R).1.1) s' V):=by
 have hnl:n≤s.length:=by have:=q.le;have:=q.len;omega
 obtain ⟨s1,c1,Z0⟩:=item_start q hw
 simp only [itZ,itS] at c1 Z0
 have n_let:isR L [108,101,116] R=false:=isR_excl hw (by decide)
 have n_der:isR L [100,101,114] R=false:=isR_excl hw (by decide)
 have n_reset:isR L [114,101,115,101,116] R=false:=isR_excl hw (by decide)
 have n_mem:isR L [109,101,109] R=false:=isR_excl hw (by decide)
 have n_on:isR L [111,110] R=false:=isR_excl hw (by decide)
 refine doesW_of (N:=165) prim129 fn129 rfl rfl ?_
 intro e he ha K hK hP
 have a0:=ha 0
 clear ha
 simp at a0
 obtain ⟨N1,hn1⟩:∃N1,N1=nameR L R.adv:=⟨_,rfl⟩
 obtain ⟨N2,hn2⟩:∃N2,N2=nameR L (wantR L [123] N1.2):=⟨_,rfl⟩
 obtain ⟨Q,hq⟩:∃Q,stsF L L.length [N2.1] N2.2=Q:=⟨_,rfl⟩
 have ea:itmF L true R=finR L ⟨6,N1.1,0,0,0,Q.1,.no,[],[],(tkF L R).pos⟩ (wantR L [125] Q.2):=by simp [itmF,posF,hw,n_let,n_der,n_reset,n_mem,n_on,←hn1,←hn2,hq]
 have sQ:Stk N2.2 Q.2:=by rw [←hq];exact stk_sts _ _ _
 have S0:Stk (nameR L R.adv).2 (wantR L [123] N1.2):=by rw [hn1];exact Stk.want
 have S1:Stk (wantR L [123] N1.2) N2.2:=by rw [hn2];exact Stk.name
 have S2:Stk N2.2 (wantR L [59] (wantR L [125] Q.2)):=sQ.trans ((Stk.want (w:=[125])).trans Stk.want)
 rw [ea] at hK hP
 dsimp only [finR] at hK hP
 clear ea
 simp [a129,he,a0,c1,Z0.g,Z0.z,Ai.beq_refl]
 obtain ⟨u1,⟨z1,e1,d1,Y1⟩ | ⟨cn,d1,k1⟩⟩:=Z0.name
 case inr =>
  simp [he,a0,d1]
  obtain ⟨t1,t2⟩:=(S0.trans (S1.trans S2)).tell cn
  exact hP _ _ _ t1 t2 k1
 have Y2:=Y1.seti 0 (.int .i64 6) rfl
 simp only [set_last,List.set_set,List.set_cons_zero,List.set_cons_succ] at Y2
 have Y3:=Y2.seti 1 (.str (nameR L R.adv).1) rfl
 simp only [set_last,List.set_set,List.set_cons_zero,List.set_cons_succ] at Y3
 simp [he,a0,d1,Y1.g,Y2.g,Y3.g,Ai.beq_refl]
 obtain ⟨u2,⟨z2,d2,Y4⟩ | ⟨cn,d2,k2⟩⟩:=Y3.call (want1P Y3.q [123])
 case inr =>
  simp [he,a0,d2]
  obtain ⟨t1,t2⟩:=(S1.trans S2).tell (by rw [hn1];exact cn)
  exact hP _ _ _ t1 (by rw [hn1] at t2;exact t2) k2
 simp [he,a0,d2,Y4.g,Ai.beq_refl]
 obtain ⟨u3,⟨z3,e3,d3,Y5⟩ | ⟨cn,d3,k3⟩⟩:=Y4.name
 case inr =>
  simp [he,a0,d3]
  obtain ⟨t1,t2⟩:=S2.tell (by rw [hn2,hn1];exact cn)
  exact hP _ _ _ t1 (by rw [hn2,hn1] at t2;exact t2) k3
 simp only [←hn1,←hn2] at d1 d2 d3 Y5
 have Y6:=Y5.seti 5 (.lst 1 [.str N2.1] .tight) rfl
 simp only [set_last,List.set_set,List.set_cons_zero,List.set_cons_succ] at Y6
 simp only [←hn1,←hn2]
 simp [he,a0,d3,Y5.g,Y6.g,Ai.beq_refl]
 generalize hEv:(List.set _ 120 _:Env)=E2
 have he2:E2.length=165:=by subst hEv;simp [he]
 have b0:AX.ev E2 (.t 0)=.ptr r 0:=by subst hEv;simp [he,a0]
 have b2:AX.ev E2 (.t 2)=.ptr s.length 0:=by subst hEv;simp [he]
 have b4:AX.ev E2 (.t 4)=.ptr s1.length 0:=by subst hEv;simp [he]
 clear hEv
 have hi1:1≤N2.2.i:=by
  have a1:=(Step.name (L:=L) (R:=R.adv)).i
  have a2:=(Step.want (L:=L) (w:=[123]) (R:=N1.2)).i
  have a3:=(Step.name (L:=L) (R:=wantR L [123] N1.2)).i
  rw [←hn1] at a1
  rw [←hn2] at a3
  simp [Rd.adv] at a1;omega
 have hp:=(tkF L R).pos
 refine aw_loop (W:=w129_0) rfl (fun m e ds sx=>ds=[]∧∃l Rx ap,stsF L m l Rx=Q∧L.length≤m+Rx.i∧l.length≤Rx.i∧l≠[]∧CelQ n r L dv s.length s1.length s itZ sx Rx (mdC N1.1 l ap (tkF L R).pos)∧((ap=.tight∧l.length=1)∨(1<l.length∧Own sx s.length 1 (some 9) ap l.length))) L.length
  ⟨rfl,[N2.1],N2.2,.tight,hq,by omega,by simpa using hi1,by simp,Y6,.inl ⟨rfl,rfl⟩⟩ ?_
 clear hq Y6 Y5 Y4 Y3 Y2 Y1 d1 d2 d3 c1 Z0 hi1
 rintro m e1 ds sx hs ⟨rfl,l,Rx,ap,hq,hm,hll,hne,Y,ox⟩ K1 kn kx
 have he1:e1.length=165:=by simp [hs.1,he2]
 have b0:=hs.ev 0 rfl b0
 have b2:=hs.ev 2 rfl b2
 have b4:=hs.ev 4 rfl b4
 have hlx:=Y.q.lt
 have htl:=Y.q.tk.len
 obtain ⟨es0,p0,hr0,_⟩:=Y.q.cell
 obtain ⟨u1,v1,⟨_,d1,q1⟩ | ⟨cn,_⟩⟩:=tookP Y.q [44]
 case inr=>unfold tookR at cn;split at cn<;>exact absurd Y.q.c0 cn
 have Y1:=Y.to q1 v1
 have o1:(ap=.tight∧l.length=1)∨(1<l.length∧Own u1 s.length 1 (some 9) ap l.length):=by
  rcases ox with h | ⟨h,o⟩
  ·exact .inl h
  ·exact .inr ⟨h,v1.own o (.inl (by decide)) hr0⟩
 obtain ⟨es1,p1,hr1,_⟩:=Y1.q.cell
 cases hc:isR L [44] Rx with
 | true =>
  rw [hc] at d1
  rw [isR_adv hc] at Y1 hr1
  cases m with
  | zero=>omega
  | succ m =>
  rw [stsF,if_pos hc] at hq
  have Sn:=(Step.name (L:=L) (R:=Rx.adv)).i
  obtain ⟨N3,hn3⟩:∃N3,N3=nameR L Rx.adv:=⟨_,rfl⟩
  obtain ⟨u2,v2,⟨z2,e2,d2,q2⟩ | ⟨cn,d2⟩⟩:=nameP Y1.q
  case inr =>
   simp [a129_0,b0,b4,he1,d1,Y1.g,d2]
   refine kx _ _ _ _ nofun fun hs'=>?_
   obtain ⟨t1,t2⟩:=((by rw [←hq];exact stk_sts _ _ _:Stk (nameR L Rx.adv).2 Q.2).trans ((Stk.want (w:=[125])).trans (Stk.want (w:=[59])))).tell cn
   simp
   exact hP _ _ _ t1 t2 (Y1.k.trans v2)
  have Y2:=Y1.to q2 v2
  have d2':runL A (.call 95 [.ptr r 0]) u1=some ⟨.ret,⟨[.agg [.int .i64 (tkF L Rx.adv).kind,.str N3.1,.int .i64 (tkF L Rx.adv).v,.int .i64 (tkF L Rx.adv).pos]],[]⟩,u2⟩:=by rw [d2,hn3,e2];rfl
  rw [←hn3] at hq Y2 Sn
  obtain ⟨ap3,u3,d3,o3,Y3⟩:∃ap' s2,appendA 1 16 (some 9) u2 (.lst 1 (strs l) ap) (.lst 1 [.str N3.1] .tight)=some (.val (.lst 1 (strs l++[.str N3.1]) ap') s2)∧Own s2 s.length 1 (some 9) ap' (strs l++[AV.str N3.1]).length∧CelQ n r L dv s.length s1.length s itZ s2 N3.2 (mdC N1.1 l ap (tkF L R).pos):=by
   rcases o1 with ⟨rfl,h1⟩ | ⟨h1,o⟩
   ·exact Y2.pushT (m:=1) (bytes:=16) (ty:=some 9) (l:=strs l) (x:=.str N3.1) (ap0:=.tight) (by rw [strs_length];omega) (by decide)
   ·exact Y2.pushO (m:=1) (bytes:=16) (ty:=some 9) (l:=strs l) (x:=.str N3.1) (ap0:=.tight) (by rw [strs_length];exact v2.own o (.inl (by decide)) hr1) (.inl (by decide)) (by rw [strs_length];omega) (by decide)
  have es:strs l++[.str N3.1]=strs (l++[N3.1]):=by simp [strs]
  rw [es] at o3 d3
  have lws:AV.lowsB u3.length (strs (l++[N3.1]))=true:=lows_all fun x hx=>by obtain ⟨i,_,rfl⟩:=List.mem_map.1 hx;rfl
  have Y4:=Y3.set (mdC N1.1 (l++[N3.1]) ap3 (tkF L R).pos) (by have:=own_low o3.weak lws;simp only [mdC,AV.lowsB,this];rfl)
  have o4:Own (u3.set s1.length (.cells none (mdC N1.1 (l++[N3.1]) ap3 (tkF L R).pos))) s.length 1 (some 9) ap3 (l++[N3.1]).length:=by
   rw [strs_length] at o3
   rcases o3 with o3 | ⟨h0,id,i1,i2,i3⟩
   ·exact .inl o3
   ·refine .inr ⟨h0,id,i1,i2,?_⟩
    rw [List.getElem?_set_ne]
    ·exact i3
    ·rintro rfl;rw [Y3.g] at i3;cases i3
  have hl0:=List.length_pos_iff.2 hne
  have g1:=Y1.g
  have g2:=Y2.g
  have g3:=Y3.g
  simp only [mdC] at g1 g2 g3
  simp [a129_0,b0,b4,he1,d1,g1,d2',g2,d3,g3,Ai.beq_refl]
  exact kn m _ _ _ (by omega) ⟨rfl,_,_,ap3,hq,by simp [Rd.adv] at *;omega,by simp [Rd.adv] at *;omega,by simp,Y4,.inr ⟨by simp;omega,o4⟩⟩
 | false =>
  rw [hc] at d1
  rw [isR_stay hc] at Y1 hr1
  rw [stsF_end hc] at hq
  subst hq
  obtain ⟨u2,v2,⟨z2,d2,q2⟩ | ⟨cn,d2⟩⟩:=want1P Y1.q [125]
  case inr =>
   simp [a129_0,b0,he1,d1]
   refine kx _ _ _ _ nofun fun hs'=>?_
   simp [he1,b0,b2,b4,d2]
   obtain ⟨t1,t2⟩:=(Stk.want (w:=[59])).tell cn
   exact hP _ _ _ t1 t2 (Y1.k.trans v2)
  have Y2:=Y1.to q2 v2
  obtain ⟨es2,p2,hr2,_⟩:=Y2.q.cell
  obtain ⟨u3,v3,⟨z3,d3,q3⟩ | ⟨cn,d3⟩⟩:=want1P Y2.q [59]
  case inr =>
   simp [a129_0,b0,he1,d1]
   refine kx _ _ _ _ nofun fun hs'=>?_
   simp [he1,b0,b2,b4,d2,d3]
   exact hP _ _ _ cn rfl (Y2.k.trans v3)
  have Y3:=Y2.to q3 v3
  obtain ⟨f1,f2,f3⟩:=Y3.last
  have lws:AV.lowsB u3.length (strs l)=true:=lows_all fun x hx=>by obtain ⟨i,_,rfl⟩:=List.mem_map.1 hx;rfl
  simp [a129_0,b0,he1,d1]
  refine kx _ _ _ _ nofun fun hs'=>?_
  have g3:=Y3.g
  have gz:=Y3.z
  simp only [mdC,itZ] at g3 gz f1 f2
  simp [he1,b0,b2,b4,d2,d3,g3,gz,Ai.beq_refl]
  have hst:∀S,AV.stills n S (strs l)=some (strs l):=fun S=>stills_of fun x hx=>by obtain ⟨i,_,rfl⟩:=List.mem_map.1 hx;rfl
  have o3:(ap=.tight∧l.length=1)∨(1<l.length∧Own u3 s.length 1 (some 9) ap l.length):=by
   rcases o1 with h | ⟨h,o⟩
   ·exact .inl h
   ·exact .inr ⟨h,v3.own (v2.own o (.inl (by decide)) hr1) (.inl (by decide)) hr2⟩
  refine hK _ _ _ (.inl rfl) (by simpa using f1) (by simpa using f2) (.agg (mdC N1.1 l ap (tkF L R).pos)) ⟨[.agg (mdC N1.1 l ap (tkF L R).pos)],?_,rfl⟩ ⟨by simp [z3],ap,?_,?_,?_⟩
  ·simp [a129,he1,b2,f3,res_cell,takeVar]
  ·unfold fixIt;split<;>rfl
  ·have e:∀(x:It),(fixIt x).ss=x.ss:=fun x=>by unfold fixIt;split<;>rfl
   rw [e,List.length_set]
   rcases o3 with ⟨rfl,_⟩ | ⟨_,o⟩
   ·simp [AV.lowB,lws]
   ·exact own_low o.weak lws
  ·intro S
   have e:∀(x:It),(fixIt x).ss=x.ss:=fun x=>by unfold fixIt;split<;>rfl
   rw [e]
   rcases o3 with ⟨rfl,h1⟩ | ⟨h1,o⟩
   ·have:(fixIt ⟨6,N1.1,0,0,0,l,.no,[],[],(tkF L R).pos⟩).ap=.tight:=by simp [fixIt,h1]
    simp only [this,AV.still,hst];rfl
   ·have:(fixIt ⟨6,N1.1,0,0,0,l,.no,[],[],(tkF L R).pos⟩).ap=.no:=by simp [fixIt,show l.length≠1 by omega]
    have h:=own_stl o hnl (hst S)
    rw [endAp,if_neg (by omega)] at h
    rw [this];exact h
end
end Go.Proofs.YtgkhmmlemgikjaaGreatDoor
namespace Go.Proofs.YtgkhmmlemgikjaaGreatDoor
open Go Ai
section
variable {n r:Nat} {L:List Tk} {dv:AV} {s:St} {R:Rd}
def itWs (all:Bool):List Sx:=if all then [[108,101,116],[100,101,114],[114,101,115,101,116],[109,101,109],[111,110],[109,111,100,101],[102,114,111,109],[111,117,116]] else [[108,101,116]]
theorem fix_ne {x:It} (h:x.k≠6):fixIt x=x:=by unfold fixIt;rw [if_neg fun e=>h e.1]
theorem isA_mem (hc:R.c=0) {ws:List Sx} (h:isA L ws R=true):∃w∈ws,isR L w R=true:=by
 simp only [isA,Bool.and_eq_true,decide_eq_true_eq] at h
 exact ⟨_,h.2,by simp only [isR,hc,Bool.and_eq_true,decide_eq_true_eq];exact ⟨by simp,h.1,trivial⟩⟩
theorem DoesW.to {P P':St→AV→Prop} {f:Nat} {ar:List AV} {R':Rd} (h:DoesW n r L dv f ar s R' P) (g:∀s V,P s V→P' s V):DoesW n r L dv f ar s R' P':=by
 obtain ⟨s',k,⟨h1,⟨V,h2,h3⟩,h4⟩ | h⟩:=h
 ·exact ⟨s',k,.inl ⟨h1,⟨V,h2,g _ _ h3⟩,h4⟩⟩
 ·exact ⟨s',k,.inr h⟩
theorem itm_k {w:Sx} (hw:isR L w R=true) (hne:w≠[109,111,100,101]):(itmF L true R).1.1.k≠6:=by
 have n_mode:isR L [109,111,100,101] R=false:=isR_excl hw hne
 simp only [itmF,n_mode,Bool.and_false,Bool.false_eq_true,if_false]
 repeat' split
 all_goals simp [finR]
theorem item_any (q:PsOk n r L dv 0 s R) (h:isA L (itWs true) R=true):DoesW n r L dv 129 [.ptr r 0] s (itmF L true R).2 (fun s' V=>(itmF L true R).1.2=true∧ItQ n s.length (fixIt (itmF L true R).1.1) s' V):=by
 obtain ⟨w,hm,hw⟩:=isA_mem q.c0 h
 by_cases h6:w=[109,111,100,101]
 ·subst h6;exact item_mode q hw
 ·rw [fix_ne (itm_k hw h6)]
  simp only [itWs,if_true,List.mem_cons,List.not_mem_nil,or_false] at hm
  rcases hm with rfl | rfl | rfl | rfl | rfl | rfl | rfl | rfl
  ·exact item_let q hw
  ·exact item_der q hw
  ·exact item_reset q hw
  ·exact item_mem q hw
  ·exact item_on q hw
  ·exact absurd rfl h6
  ·exact item_from q hw
  ·exact item_out q hw
end
end Go.Proofs.YtgkhmmlemgikjaaGreatDoor
namespace Go.Proofs.YtgkhmmlemgikjaaGreatDoor
open Go Ai
theorem fn97:A.fn 97=some a97:=by kernel_rfl
theorem prim97:A.prim 97=none:=by kernel_rfl
def w97_0:List Nat:=a97_0.writes
section
variable {n r:Nat} {L:List Tk} {dv:AV} {s:St} {R:Rd}
def ItsQ (n b:Nat) (l:List It) (s:St) (V:AV):Prop:=ItsP n b (l.map fixIt) s V
theorem itm_let (hc:R.c=0) (h:isA L (itWs false) R=true):itmF L false R=itmF L true R:=by
 obtain ⟨w,hm,hw⟩:=isA_mem hc h
 simp only [itWs,Bool.false_eq_true,if_false,List.mem_cons,List.not_mem_nil,or_false] at hm
 subst hm
 simp [itmF,hw]
theorem isA_let (hc:R.c=0) (h:isA L (itWs false) R=true):isA L (itWs true) R=true:=by
 obtain ⟨w,hm,hw⟩:=isA_mem hc h
 simp only [itWs,Bool.false_eq_true,if_false,List.mem_cons,List.not_mem_nil,or_false] at hm
 subst hm
 simp only [isR,Bool.and_eq_true,decide_eq_true_eq] at hw
 simp only [isA,itWs,if_true,Bool.and_eq_true,decide_eq_true_eq]
 exact ⟨hw.2.1,by rw [hw.2.2];simp⟩
theorem item_of (q:PsOk n r L dv 0 s R) {all:Bool} (h:isA L (itWs all) R=true):DoesW n r L dv 129 [.ptr r 0] s (itmF L all R).2 (fun s' V=>(itmF L all R).1.2=true∧ItQ n s.length (fixIt (itmF L all R).1.1) s' V):=by
 cases all with
 | true=>exact item_any q h
 | false=>rw [itm_let q.c0 h];exact item_any q (isA_let q.c0 h)
theorem itm_c0 {all:Bool} (h:(itmF L all R).1.2=true):(itmF L all R).2.c=0:=by
 revert h
 unfold itmF
 simp only []
 repeat' split
 all_goals simp [finR]
theorem isA_no {ws:List Sx} (h:isA L ws R=false) {w:Sx} (hw:w∈ws):isR L w R=false:=by
 cases hb:isR L w R with
 | false=>rfl
 | true =>
  simp only [isR,Bool.and_eq_true,decide_eq_true_eq] at hb
  have:isA L ws R=true:=by simp only [isA,Bool.and_eq_true,decide_eq_true_eq];exact ⟨hb.2.1,hb.2.2▸hw⟩
  rw [this] at h;cases h
theorem itm_none {all:Bool} (h:isA L (itWs all) R=false):itmF L all R=((⟨0,[],0,0,0,[],.tight,[],[],posF L R⟩,false),R):=by
 cases all with
 | false =>
  have h1:=isA_no h (w:=[108,101,116]) (by simp [itWs])
  simp [itmF,h1]
 | true =>
  have h1:=isA_no h (w:=[108,101,116]) (by simp [itWs])
  have h2:=isA_no h (w:=[100,101,114]) (by simp [itWs])
  have h3:=isA_no h (w:=[114,101,115,101,116]) (by simp [itWs])
  have h4:=isA_no h (w:=[109,101,109]) (by simp [itWs])
  have h5:=isA_no h (w:=[111,110]) (by simp [itWs])
  have h6:=isA_no h (w:=[109,111,100,101]) (by simp [itWs])
  have h7:=isA_no h (w:=[102,114,111,109]) (by simp [itWs])
  have h8:=isA_no h (w:=[111,117,116]) (by simp [itWs])
  simp [itmF,h1,h2,h3,h4,h5,h6,h7,h8]
theorem itm_adv {all:Bool} (h:(itmF L all R).1.2=true):R.i+1≤(itmF L all R).2.i:=by
 rcases Step.item (L:=L) (all:=all) (R:=R) with ⟨h1,_⟩ | h1
 ·rw [h] at h1;cases h1
 ·have:=h1.i;simpa [Rd.adv] using this
theorem items_p (q:PsOk n r L dv 0 s R) (all:Bool):DoesW n r L dv 97 [.ptr r 0,.lst 1 (strs (itWs all)) .tight] s (itsF L all L.length [] R).2 (ItsQ n s.length (itsF L all L.length [] R).1):=by
 have hnl:n≤s.length:=by have:=q.le;have:=q.len;omega
 have hrl:=q.len
 refine doesW_of (N:=15) prim97 fn97 rfl rfl ?_
 intro e he ha K hK hP
 have a0:=ha 0
 have a1:=ha 1
 clear ha
 simp at a0 a1
 simp [a97,he]
 generalize hEv:(List.set _ 5 _:Env)=Ev
 have heE:Ev.length=15:=by subst hEv;simp [he]
 have b0:AX.ev Ev (.t 0)=.ptr r 0:=by subst hEv;simp [he,a0]
 have b1:AX.ev Ev (.t 1)=.lst 1 (strs (itWs all)) .tight:=by subst hEv;simp [he,a1]
 have b5:AX.ev Ev (.t 5)=.lst 9 [] .tight:=by subst hEv;simp [he]
 clear hEv he a0 a1
 generalize hq:itsF L all L.length [] R=Q at hK hP
 refine aw_loop (W:=w97_0) rfl (fun m e ds sx=>ds=[]∧∃l Rx es ap,itsF L all m l Rx=Q∧L.length≤m+Rx.i∧l.length≤Rx.i∧PsOk n r L dv 0 sx Rx∧Keep n r s sx∧Own sx s.length 9 (some 36) ap es.length∧es.length=l.length∧AV.lowsB sx.length es=true∧(∀S,AV.stills n S es=some ((l.map fixIt).map It.av))∧AX.ev e (.t 5)=.lst 9 es ap) L.length
  ⟨rfl,[],R,[],.tight,hq,by omega,by simp,q,.refl,.nil,rfl,rfl,fun _=>rfl,b5⟩ ?_
 clear hq b5
 rintro m e1 ds sx hs ⟨rfl,l,Rx,es,ap,hq,hm,hll,qx,kx',ox,hel,hlow,hst,b5⟩ K1 kn kx
 have he1:e1.length=15:=by simp [hs.1,heE]
 have b0:=hs.ev 0 rfl b0
 have b1:=hs.ev 1 rfl b1
 obtain ⟨xs,o,hr,_⟩:=qx.cell
 have hlt:=qx.lt
 have htl:=qx.tk.len
 have ci:=isP qx (ws:=itWs all) (ap:=.tight) (by cases all<;>simp [itWs])
 cases m with
 | zero=>omega
 | succ m =>
 rw [itsF,if_pos qx.c0] at hq
 simp only [] at hq
 cases hb:isA L (itWs all) Rx with
 | false =>
  rw [hb] at ci
  rw [itm_none hb] at hq
  simp only [Bool.false_eq_true,if_false] at hq
  subst hq
  simp [a97_0,b0,b1,he1,ci]
  refine kx _ _ _ _ nofun fun hs'=>?_
  simp [he1,b5]
  exact hK _ _ _ (.inl rfl) qx kx' (.lst 9 es ap) ⟨_,rfl,by simp [he1]⟩ ⟨es,ap,rfl,ox,by simpa using hel,hlow,hst⟩
 | true =>
  rw [hb] at ci
  obtain ⟨s1,k1,⟨z1,⟨V,c1,hok,ap1,rfl,lw1,st1⟩,q1⟩ | ⟨cn,c1⟩⟩:=item_of qx hb
  ·have hi1:=itm_adv hok
   rw [if_pos hok] at hq
   have o1:=k1.own ox (.inr (by decide)) hr
   generalize itmF L all Rx=X at *
   obtain ⟨⟨x,ok⟩,R1⟩:=X
   simp only [] at hq c1 q1 lw1 st1 hi1
   obtain ⟨y,hy⟩:∃y,y=fixIt x:=⟨_,rfl⟩
   rw [←hy] at c1 lw1 st1
   have hlx:AV.lowB s1.length (It.av { y with ap:=ap1 })=true:=it_low lw1
   have hsx:∀S,AV.still n S (It.av { y with ap:=ap1 })=some y.av:=fun S=>it_still (x:={ y with ap:=ap1 }) (st1 S)
   obtain ⟨ap',s3,p3,o3,q3,k3,l3,_⟩:=q1.push (l:=es) (x:=It.av { y with ap:=ap1 }) (ap0:=.tight) (ap:=ap) (m:=9) (ty:=some 36) (bytes:=112) (kx'.trans k1) o1 (.inr (by decide)) hnl (by omega) (by decide)
   have l1:=k1.g.len
   simp only [It.av,It.cs] at p3 c1
   simp [a97_0,b0,b1,b5,he1,ci,c1,p3]
   refine kn m _ _ _ (by omega) ⟨rfl,_,R1,_,ap',hq,by omega,by simp;omega,q3,k3,o3,by simp [hel],?_,fun S=>?_,by simp [he1,It.av,It.cs]⟩
   ·exact lows_append (AV.lows_le (by omega) _ hlow) (by simp only [AV.lowsB,Bool.and_true];exact AV.low_le (by omega) _ hlx)
   ·have:=stills_app (hst S) (b:=[It.av { y with ap:=ap1 }]) (b':=[y.av]) (by simp only [AV.stills,hsx S])
    simpa [hy] using this
  ·have hok:(itmF L all Rx).1.2=false:=by
    cases h:(itmF L all Rx).1.2 with
    | false=>rfl
    | true=>exact absurd (itm_c0 h) cn
   rw [hok] at hq
   simp only [Bool.false_eq_true,if_false] at hq
   subst hq
   simp [a97_0,b0,b1,b5,he1,ci,c1]
   refine kx _ _ _ _ nofun fun hs'=>?_
   simp
   exact hP _ _ _ cn rfl (kx'.trans k1)
end
end Go.Proofs.YtgkhmmlemgikjaaGreatDoor
namespace Go.Proofs.YtgkhmmlemgikjaaGreatDoor
open Go Ai
theorem fn53:A.fn 53=some a53:=by kernel_rfl
theorem prim53:A.prim 53=none:=by kernel_rfl
def fixD (d:Dc):Dc:={ d with its:=d.its.map fixIt }
def dcZ:List AV:=[.int .i64 0,.str [],.lst 2 [] .tight,.lst 9 [] .tight,.int .i64 0,.int .i64 0,.int .i64 0]
def dcS (p:Int):List AV:=[.int .i64 0,.str [],.lst 2 [] .tight,.lst 9 [] .tight,.int .i64 0,.int .i64 0,.int .i64 p]
section
variable {n r:Nat} {L:List Tk} {dv:AV} {s:St} {R:Rd}
theorem stk_its {all:Bool}:∀(m:Nat) (l:List It) (R:Rd),Stk R (itsF L all m l R).2:=fun m l R hc=>by simp [itsF_end hc]
theorem decl_start (q:PsOk n r L dv 0 s R):CelQ n r L dv s.length (s.length+1) s dcZ (s++[.cells none dcZ,.cells none (dcS (tkF L R).pos)]) R (dcS (tkF L R).pos):=by
 have hn:n≤s.length:=by have:=q.le;have:=q.len;omega
 have hr:=q.len
 have l0:∀m,AObj.lowB m (.cells none dcZ)=true:=fun _=>rfl
 have l1:∀m,AObj.lowB m (.cells none (dcS (tkF L R).pos))=true:=fun _=>rfl
 have q1:=(q.app (l0 _)).app (l1 _)
 have k1:Keep n r s _:=(Keep.app (r:=r) hn (l0 (s.length+1))).trans (.app (by simp;omega) (l1 _))
 rw [List.append_assoc] at q1 k1
 refine ⟨q1,k1,by simp,by simp,hn,?_,Nat.le_refl _,?_,?_,?_⟩<;>omega
set_option maxHeartbeats 1000000 in
theorem decl_fun (q:PsOk n r L dv 0 s R) (hw:isR L [102,117,110] R=true):DoesW n r L dv 53 [.ptr r 0] s (dclF L R).2 (DcP n (fixD (dclF L R).1)):=by
 have Z0:=decl_start q
 obtain ⟨es,o,hr,_⟩:=q.cell
 simp only [psCs] at hr
 have hg:=q.get
 have hr1:∀x:AObj,(s++[x])[r]?=some (.cells none [.lst 4 (toks L R.i) .no,dv,.lst 9 es o,.int .i64 ↑(0:Nat)]):=fun x=>by rw [List.getElem?_append_left q.len];exact hr
 refine doesW_of (N:=81) prim53 fn53 rfl rfl ?_
 intro e he ha K hK hP
 have a0:=ha 0
 clear ha
 simp at a0
 simp only [dcZ,dcS] at Z0
 have ea:dclF L R=declB L 1 (tkF L R).pos R.adv:=by simp [dclF,posF,hw]
 rw [ea] at hK hP
 simp only [declB,Int.reduceEq,reduceIte] at hK hP
 simp [a53,he,a0,hr1,hg,Lx.Tok.av,Ai.beq_refl]
 generalize hS0:(s++[_,_]:St)=s00 at Z0 ⊢
 clear hS0 hr1 hr hg
 obtain ⟨u1,⟨_,d1,Y1⟩ | ⟨cn,_⟩⟩:=Z0.call (tookP Z0.q [102,117,110])
 case inr=>unfold tookR at cn;split at cn<;>exact absurd q.c0 cn
 rw [hw] at d1
 rw [isR_adv hw] at Y1
 have Y2:=Y1.seti 0 (.int .i64 1) rfl
 simp only [set_last,List.set_set,List.set_cons_zero,List.set_cons_succ] at Y2
 simp [he,a0,d1,Y1.g,Y2.g,Ai.beq_refl]
 obtain ⟨u3,⟨z3,e3,d3,Y3⟩ | ⟨cn,d3,k3⟩⟩:=Y2.name
 case inr =>
  simp [he,a0,d3]
  obtain ⟨t1,t2⟩:=(((((((stk_params _).trans (Stk.want (w:=[58]))).trans Stk.kind).trans (Stk.want (w:=[61]))).trans (stkE0 _)).trans (Stk.want (w:=[59])))).tell cn
  exact hP _ _ _ t1 t2 k3
 simp [he,a0,d3,Y3.g,Ai.beq_refl]
 obtain ⟨ap4,u4,k4,⟨z4,d4,q4,o4⟩ | ⟨cn,d4⟩⟩:=paramsP Y3.q (by have:=Y3.q.len;have:=Y3.q.le;omega)
 case inr =>
  simp [he,a0,d4]
  obtain ⟨t1,t2⟩:=((((((Stk.want (w:=[58])).trans Stk.kind).trans (Stk.want (w:=[61]))).trans (stkE0 _)).trans (Stk.want (w:=[59])))).tell cn
  exact hP _ _ _ t1 t2 (Y3.k.trans k4)
 have fp:=pms_stl (n:=n) (k:=0) (by rw [List.length_map];exact o4) (by have:=Y3.q.len;have:=Y3.q.le;omega)
 have Y4:=Y3.to q4 k4
 have wp:=own_low o4.weak (pms_low (k:=u4.length) (paramsF L (nameR L R.adv).2).1)
 have Y5:=Y4.seti 1 (.str (nameR L R.adv).1) rfl
 simp only [set_last,List.set_set,List.set_cons_zero,List.set_cons_succ] at Y5
 have Y6:=Y5.seti 2 (_) (by rw [List.length_set];exact wp)
 simp only [set_last,List.set_set,List.set_cons_zero,List.set_cons_succ] at Y6
 simp [he,a0,d4,Y4.g,Y5.g,Y6.g,Ai.beq_refl]
 obtain ⟨u7,⟨z7,d7,Y7⟩ | ⟨cn,d7,k7⟩⟩:=Y6.call (want1P Y6.q [58])
 case inr =>
  simp [he,a0,d7]
  obtain ⟨t1,t2⟩:=((((Stk.kind.trans (Stk.want (w:=[61]))).trans (stkE0 _)).trans (Stk.want (w:=[59])))).tell cn
  exact hP _ _ _ t1 t2 k7
 simp [he,a0,d7,Y7.g,Ai.beq_refl]
 obtain ⟨u8,⟨z8,d8,Y8⟩ | ⟨cn,d8,k8⟩⟩:=Y7.call (kindP Y7.q)
 case inr =>
  simp [he,a0,d8]
  obtain ⟨t1,t2⟩:=((((Stk.want (w:=[61])).trans (stkE0 _)).trans (Stk.want (w:=[59])))).tell cn
  exact hP _ _ _ t1 t2 k8
 have Y9:=Y8.seti 4 (.int .i64 (kindR L (wantR L [58] (paramsF L (nameR L R.adv).2).2)).1) rfl
 simp only [set_last,List.set_set,List.set_cons_zero,List.set_cons_succ] at Y9
 simp [he,a0,d8,Y8.g,Y9.g,Ai.beq_refl]
 obtain ⟨u10,⟨z10,d10,Y10⟩ | ⟨cn,d10,k10⟩⟩:=Y9.call (want1P Y9.q [61])
 case inr =>
  simp [he,a0,d10]
  obtain ⟨t1,t2⟩:=(((stkE0 _).trans (Stk.want (w:=[59])))).tell cn
  exact hP _ _ _ t1 t2 k10
 simp [he,a0,d10,Y10.g,Ai.beq_refl]
 obtain ⟨u11,⟨z11,d11,Y11⟩ | ⟨cn,d11,k11⟩⟩:=Y10.call (goodE0 _ _ Y10.q)
 case inr =>
  simp [he,a0,d11]
  obtain ⟨t1,t2⟩:=((Stk.want (w:=[59]))).tell cn
  exact hP _ _ _ t1 t2 k11
 have Y12:=Y11.seti 5 (.int .i64 (exprF L (wantR L [61] (kindR L (wantR L [58] (paramsF L (nameR L R.adv).2).2)).2)).1) rfl
 simp only [set_last,List.set_set,List.set_cons_zero,List.set_cons_succ] at Y12
 simp [he,a0,d11,Y11.g,Y12.g,Ai.beq_refl]
 obtain ⟨u13,⟨z13,d13,Y13⟩ | ⟨cn,d13,k13⟩⟩:=Y12.call (want1P Y12.q [59])
 case inr =>
  simp [he,a0,d13]
  exact hP _ _ _ cn rfl k13
 obtain ⟨f1,f2,f3⟩:=Y13.last
 have lw:=Y13.q.ok.get Y13.g
 simp [he,a0,d13,Y13.g,Y13.z,Ai.beq_refl]
 refine hK _ _ _ (.inl rfl) (by simpa using f1) (by simpa using f2) (.agg [.int .i64 1,.str (nameR L R.adv).1,.lst 2 ((paramsF L (nameR L R.adv).2).1.map Pm.av) ap4,.lst 9 [] .tight,.int .i64 (kindR L (wantR L [58] (paramsF L (nameR L R.adv).2).2)).1,.int .i64 (exprF L (wantR L [61] (kindR L (wantR L [58] (paramsF L (nameR L R.adv).2).2)).2)).1,.int .i64 (tkF L R).pos]) ⟨[_],?_,rfl⟩ ⟨_,_,_,_,rfl,by rw [List.length_set];exact lw,fp,fun S=>rfl⟩
 simp [a53,he,f3,res_cell,takeVar]
set_option maxHeartbeats 1000000 in
theorem decl_node (q:PsOk n r L dv 0 s R) (h1:isR L [102,117,110] R=false) (hw:isR L [110,111,100,101] R=true):DoesW n r L dv 53 [.ptr r 0] s (dclF L R).2 (DcP n (fixD (dclF L R).1)):=by
 have Z0:=decl_start q
 obtain ⟨es,o,hr,_⟩:=q.cell
 simp only [psCs] at hr
 have hg:=q.get
 have hr1:∀x:AObj,(s++[x])[r]?=some (.cells none [.lst 4 (toks L R.i) .no,dv,.lst 9 es o,.int .i64 ↑(0:Nat)]):=fun x=>by rw [List.getElem?_append_left q.len];exact hr
 refine doesW_of (N:=81) prim53 fn53 rfl rfl ?_
 intro e he ha K hK hP
 have a0:=ha 0
 clear ha
 simp at a0
 simp only [dcZ,dcS] at Z0
 have ea:dclF L R=declB L 2 (tkF L R).pos R.adv:=by simp [dclF,posF,h1,hw]
 rw [ea] at hK hP
 simp only [declB,Int.reduceEq,reduceIte] at hK hP
 simp [a53,he,a0,hr1,hg,Lx.Tok.av,Ai.beq_refl]
 generalize hS0:(s++[_,_]:St)=s00 at Z0 ⊢
 clear hS0 hr1 hr hg
 obtain ⟨u1,⟨_,d1,Y1⟩ | ⟨cn,_⟩⟩:=Z0.call (tookP Z0.q [102,117,110])
 case inr=>unfold tookR at cn;split at cn<;>exact absurd q.c0 cn
 rw [h1] at d1
 rw [isR_stay h1] at Y1
 obtain ⟨u2,⟨_,d2,Y2⟩ | ⟨cn,_⟩⟩:=Y1.call (tookP Y1.q [110,111,100,101])
 case inr=>unfold tookR at cn;split at cn<;>exact absurd q.c0 cn
 rw [hw] at d2
 rw [isR_adv hw] at Y2
 have Y3:=Y2.seti 0 (.int .i64 2) rfl
 simp only [set_last,List.set_set,List.set_cons_zero,List.set_cons_succ] at Y3
 simp [he,a0,d1,Y1.g,d2,Y2.g,Y3.g,Ai.beq_refl]
 obtain ⟨u4,⟨z4,e4,d4,Y4⟩ | ⟨cn,d4,k4⟩⟩:=Y3.name
 case inr =>
  simp [he,a0,d4]
  obtain ⟨t1,t2⟩:=(((((((((stk_params _).trans (Stk.want (w:=[58]))).trans Stk.kind).trans (Stk.want (w:=[123]))).trans (stk_its _ _ _)).trans (Stk.want (w:=[114,101,116,117,114,110]))).trans (stkE0 _)).trans (Stk.wants [[59],[125]]))).tell cn
  exact hP _ _ _ t1 t2 k4
 simp [he,a0,d4,Y4.g,Ai.beq_refl]
 obtain ⟨ap5,u5,k5,⟨z5,d5,q5,o5⟩ | ⟨cn,d5⟩⟩:=paramsP Y4.q (by have:=Y4.q.len;have:=Y4.q.le;omega)
 case inr =>
  simp [he,a0,d5]
  obtain ⟨t1,t2⟩:=((((((((Stk.want (w:=[58])).trans Stk.kind).trans (Stk.want (w:=[123]))).trans (stk_its _ _ _)).trans (Stk.want (w:=[114,101,116,117,114,110]))).trans (stkE0 _)).trans (Stk.wants [[59],[125]]))).tell cn
  exact hP _ _ _ t1 t2 (Y4.k.trans k5)
 have fp:=pms_stl (n:=n) (k:=0) (by rw [List.length_map];exact o5) (by have:=Y4.q.len;have:=Y4.q.le;omega)
 have Y5:=Y4.to q5 k5
 have wp:=own_low o5.weak (pms_low (k:=u5.length) (paramsF L (nameR L R.adv).2).1)
 have Y6:=Y5.seti 1 (.str (nameR L R.adv).1) rfl
 simp only [set_last,List.set_set,List.set_cons_zero,List.set_cons_succ] at Y6
 have Y7:=Y6.seti 2 (_) (by rw [List.length_set];exact wp)
 simp only [set_last,List.set_set,List.set_cons_zero,List.set_cons_succ] at Y7
 simp [he,a0,d5,Y5.g,Y6.g,Y7.g,Ai.beq_refl]
 obtain ⟨u8,⟨z8,d8,Y8⟩ | ⟨cn,d8,k8⟩⟩:=Y7.call (want1P Y7.q [58])
 case inr =>
  simp [he,a0,d8]
  obtain ⟨t1,t2⟩:=((((((Stk.kind.trans (Stk.want (w:=[123]))).trans (stk_its _ _ _)).trans (Stk.want (w:=[114,101,116,117,114,110]))).trans (stkE0 _)).trans (Stk.wants [[59],[125]]))).tell cn
  exact hP _ _ _ t1 t2 k8
 simp [he,a0,d8,Y8.g,Ai.beq_refl]
 obtain ⟨u9,⟨z9,d9,Y9⟩ | ⟨cn,d9,k9⟩⟩:=Y8.call (kindP Y8.q)
 case inr =>
  simp [he,a0,d9]
  obtain ⟨t1,t2⟩:=((((((Stk.want (w:=[123])).trans (stk_its _ _ _)).trans (Stk.want (w:=[114,101,116,117,114,110]))).trans (stkE0 _)).trans (Stk.wants [[59],[125]]))).tell cn
  exact hP _ _ _ t1 t2 k9
 have Y10:=Y9.seti 4 (.int .i64 (kindR L (wantR L [58] (paramsF L (nameR L R.adv).2).2)).1) rfl
 simp only [set_last,List.set_set,List.set_cons_zero,List.set_cons_succ] at Y10
 simp [he,a0,d9,Y9.g,Y10.g,Ai.beq_refl]
 obtain ⟨u11,⟨z11,d11,Y11⟩ | ⟨cn,d11,k11⟩⟩:=Y10.call (want1P Y10.q [123])
 case inr =>
  simp [he,a0,d11]
  obtain ⟨t1,t2⟩:=(((((stk_its _ _ _).trans (Stk.want (w:=[114,101,116,117,114,110]))).trans (stkE0 _)).trans (Stk.wants [[59],[125]]))).tell cn
  exact hP _ _ _ t1 t2 k11
 simp [he,a0,d11,Y11.g,Ai.beq_refl]
 obtain ⟨u12,k12,⟨z12,⟨_,d12,es12,ap12,rfl,o12,l12,w12,t12⟩,q12⟩ | ⟨cn,d12⟩⟩:=items_p Y11.q false
 case inr =>
  simp only [itWs,strs,if_true,Bool.false_eq_true,if_false,List.map_cons,List.map_nil] at d12
  simp [he,a0,d12]
  obtain ⟨t1,t2⟩:=((((Stk.want (w:=[114,101,116,117,114,110])).trans (stkE0 _)).trans (Stk.wants [[59],[125]]))).tell cn
  exact hP _ _ _ t1 t2 (Y11.k.trans k12)
 simp only [itWs,strs,if_true,Bool.false_eq_true,if_false,List.map_cons,List.map_nil] at d12
 have fi:=its_stl (n:=n) o12 (by have:=Y11.q.len;have:=Y11.q.le;omega) l12 t12
 simp only [List.length_map] at fi
 have Y12:=Y11.to q12 k12
 have wi:=own_low o12.weak w12
 have Y13:=Y12.seti 3 (.lst 9 es12 ap12) wi
 simp only [set_last,List.set_set,List.set_cons_zero,List.set_cons_succ] at Y13
 simp [he,a0,d12,Y12.g,Y13.g,Ai.beq_refl]
 obtain ⟨u14,⟨z14,d14,Y14⟩ | ⟨cn,d14,k14⟩⟩:=Y13.call (want1P Y13.q [114,101,116,117,114,110])
 case inr =>
  simp [he,a0,d14]
  obtain ⟨t1,t2⟩:=(((stkE0 _).trans (Stk.wants [[59],[125]]))).tell cn
  exact hP _ _ _ t1 t2 k14
 simp [he,a0,d14,Y14.g,Ai.beq_refl]
 obtain ⟨u15,⟨z15,d15,Y15⟩ | ⟨cn,d15,k15⟩⟩:=Y14.call (goodE0 _ _ Y14.q)
 case inr =>
  simp [he,a0,d15]
  obtain ⟨t1,t2⟩:=((Stk.wants [[59],[125]])).tell cn
  exact hP _ _ _ t1 t2 k15
 have Y16:=Y15.seti 5 (.int .i64 (exprF L (wantR L [114,101,116,117,114,110] (itsF L false L.length [] (wantR L [123] (kindR L (wantR L [58] (paramsF L (nameR L R.adv).2).2)).2)).2)).1) rfl
 simp only [set_last,List.set_set,List.set_cons_zero,List.set_cons_succ] at Y16
 simp [he,a0,d15,Y15.g,Y16.g,Ai.beq_refl]
 obtain ⟨u17,⟨z17,d17,Y17⟩ | ⟨cn,d17,k17⟩⟩:=Y16.call (wantP Y16.q (ws:=[[59],[125]]) (ap:=.tight) (by simp))
 case inr =>
  simp only [strs,List.map_cons,List.map_nil] at d17
  simp [he,a0,d17]
  exact hP _ _ _ cn rfl k17
 simp only [strs,List.map_cons,List.map_nil] at d17
 obtain ⟨f1,f2,f3⟩:=Y17.last
 simp only [wantsR] at f1
 have lw:=Y17.q.ok.get Y17.g
 simp [he,a0,d17,Y17.g,Y17.z,Ai.beq_refl]
 refine hK _ _ _ (.inl rfl) (by simpa using f1) (by simpa using f2) (.agg [.int .i64 2,.str (nameR L R.adv).1,.lst 2 ((paramsF L (nameR L R.adv).2).1.map Pm.av) ap5,.lst 9 es12 ap12,.int .i64 (kindR L (wantR L [58] (paramsF L (nameR L R.adv).2).2)).1,.int .i64 (exprF L (wantR L [114,101,116,117,114,110] (itsF L false L.length [] (wantR L [123] (kindR L (wantR L [58] (paramsF L (nameR L R.adv).2).2)).2)).2)).1,.int .i64 (tkF L R).pos]) ⟨[_],?_,rfl⟩ ⟨_,_,_,_,rfl,by rw [List.length_set];exact lw,fp,fi⟩
 simp [a53,he,f3,res_cell,takeVar]
set_option maxHeartbeats 1000000 in
theorem decl_hybrid (q:PsOk n r L dv 0 s R) (h1:isR L [102,117,110] R=false) (h2:isR L [110,111,100,101] R=false):DoesW n r L dv 53 [.ptr r 0] s (dclF L R).2 (DcP n (fixD (dclF L R).1)):=by
 have Z0:=decl_start q
 obtain ⟨es,o,hr,_⟩:=q.cell
 simp only [psCs] at hr
 have hg:=q.get
 have hr1:∀x:AObj,(s++[x])[r]?=some (.cells none [.lst 4 (toks L R.i) .no,dv,.lst 9 es o,.int .i64 ↑(0:Nat)]):=fun x=>by rw [List.getElem?_append_left q.len];exact hr
 refine doesW_of (N:=81) prim53 fn53 rfl rfl ?_
 intro e he ha K hK hP
 have a0:=ha 0
 clear ha
 simp at a0
 simp only [dcZ,dcS] at Z0
 have ea:dclF L R=declB L 3 (tkF L R).pos (wantR L [104,121,98,114,105,100] R):=by simp [dclF,posF,h1,h2]
 rw [ea] at hK hP
 simp only [declB,Int.reduceEq,reduceIte] at hK hP
 simp [a53,he,a0,hr1,hg,Lx.Tok.av,Ai.beq_refl]
 generalize hS0:(s++[_,_]:St)=s00 at Z0 ⊢
 clear hS0 hr1 hr hg
 obtain ⟨u1,⟨_,d1,Y1⟩ | ⟨cn,_⟩⟩:=Z0.call (tookP Z0.q [102,117,110])
 case inr=>unfold tookR at cn;split at cn<;>exact absurd q.c0 cn
 rw [h1] at d1
 rw [isR_stay h1] at Y1
 obtain ⟨u2,⟨_,d2,Y2⟩ | ⟨cn,_⟩⟩:=Y1.call (tookP Y1.q [110,111,100,101])
 case inr=>unfold tookR at cn;split at cn<;>exact absurd q.c0 cn
 rw [h2] at d2
 rw [isR_stay h2] at Y2
 obtain ⟨u3,⟨z3,d3,Y3⟩ | ⟨cn,d3,k3⟩⟩:=Y2.call (want1P Y2.q [104,121,98,114,105,100])
 case inr =>
  simp [he,a0,d1,Y1.g,d2,Y2.g,d3]
  obtain ⟨t1,t2⟩:=(((((Stk.name.trans (stk_params _)).trans (Stk.want (w:=[123]))).trans (stk_its _ _ _)).trans (Stk.want (w:=[125])))).tell cn
  exact hP _ _ _ t1 t2 k3
 have Y4:=Y3.seti 0 (.int .i64 3) rfl
 simp only [set_last,List.set_set,List.set_cons_zero,List.set_cons_succ] at Y4
 simp [he,a0,d1,Y1.g,d2,Y2.g,d3,Y3.g,Y4.g,Ai.beq_refl]
 obtain ⟨u5,⟨z5,e5,d5,Y5⟩ | ⟨cn,d5,k5⟩⟩:=Y4.name
 case inr =>
  simp [he,a0,d5]
  obtain ⟨t1,t2⟩:=(((((stk_params _).trans (Stk.want (w:=[123]))).trans (stk_its _ _ _)).trans (Stk.want (w:=[125])))).tell cn
  exact hP _ _ _ t1 t2 k5
 simp [he,a0,d5,Y5.g,Ai.beq_refl]
 obtain ⟨ap6,u6,k6,⟨z6,d6,q6,o6⟩ | ⟨cn,d6⟩⟩:=paramsP Y5.q (by have:=Y5.q.len;have:=Y5.q.le;omega)
 case inr =>
  simp [he,a0,d6]
  obtain ⟨t1,t2⟩:=((((Stk.want (w:=[123])).trans (stk_its _ _ _)).trans (Stk.want (w:=[125])))).tell cn
  exact hP _ _ _ t1 t2 (Y5.k.trans k6)
 have fp:=pms_stl (n:=n) (k:=0) (by rw [List.length_map];exact o6) (by have:=Y5.q.len;have:=Y5.q.le;omega)
 have Y6:=Y5.to q6 k6
 have wp:=own_low o6.weak (pms_low (k:=u6.length) (paramsF L (nameR L (wantR L [104,121,98,114,105,100] R)).2).1)
 have Y7:=Y6.seti 1 (.str (nameR L (wantR L [104,121,98,114,105,100] R)).1) rfl
 simp only [set_last,List.set_set,List.set_cons_zero,List.set_cons_succ] at Y7
 have Y8:=Y7.seti 2 (_) (by rw [List.length_set];exact wp)
 simp only [set_last,List.set_set,List.set_cons_zero,List.set_cons_succ] at Y8
 simp [he,a0,d6,Y6.g,Y7.g,Y8.g,Ai.beq_refl]
 obtain ⟨u9,⟨z9,d9,Y9⟩ | ⟨cn,d9,k9⟩⟩:=Y8.call (want1P Y8.q [123])
 case inr =>
  simp [he,a0,d9]
  obtain ⟨t1,t2⟩:=(((stk_its _ _ _).trans (Stk.want (w:=[125])))).tell cn
  exact hP _ _ _ t1 t2 k9
 simp [he,a0,d9,Y9.g,Ai.beq_refl]
 obtain ⟨u10,k10,⟨z10,⟨_,d10,es10,ap10,rfl,o10,l10,w10,t10⟩,q10⟩ | ⟨cn,d10⟩⟩:=items_p Y9.q true
 case inr =>
  simp only [itWs,strs,if_true,Bool.false_eq_true,if_false,List.map_cons,List.map_nil] at d10
  simp [he,a0,d10]
  obtain ⟨t1,t2⟩:=((Stk.want (w:=[125]))).tell cn
  exact hP _ _ _ t1 t2 (Y9.k.trans k10)
 simp only [itWs,strs,if_true,Bool.false_eq_true,if_false,List.map_cons,List.map_nil] at d10
 have fi:=its_stl (n:=n) o10 (by have:=Y9.q.len;have:=Y9.q.le;omega) l10 t10
 simp only [List.length_map] at fi
 have Y10:=Y9.to q10 k10
 have wi:=own_low o10.weak w10
 have Y11:=Y10.seti 3 (.lst 9 es10 ap10) wi
 simp only [set_last,List.set_set,List.set_cons_zero,List.set_cons_succ] at Y11
 simp [he,a0,d10,Y10.g,Y11.g,Ai.beq_refl]
 obtain ⟨u12,⟨z12,d12,Y12⟩ | ⟨cn,d12,k12⟩⟩:=Y11.call (want1P Y11.q [125])
 case inr =>
  simp [he,a0,d12]
  exact hP _ _ _ cn rfl k12
 obtain ⟨f1,f2,f3⟩:=Y12.last
 have lw:=Y12.q.ok.get Y12.g
 simp [he,a0,d12,Y12.g,Y12.z,Ai.beq_refl]
 refine hK _ _ _ (.inl rfl) (by simpa using f1) (by simpa using f2) (.agg [.int .i64 3,.str (nameR L (wantR L [104,121,98,114,105,100] R)).1,.lst 2 ((paramsF L (nameR L (wantR L [104,121,98,114,105,100] R)).2).1.map Pm.av) ap6,.lst 9 es10 ap10,.int .i64 0,.int .i64 0,.int .i64 (tkF L R).pos]) ⟨[_],?_,rfl⟩ ⟨_,_,_,_,rfl,by rw [List.length_set];exact lw,fp,fi⟩
 simp [a53,he,f3,res_cell,takeVar]
theorem decl_p (q:PsOk n r L dv 0 s R):DoesW n r L dv 53 [.ptr r 0] s (dclF L R).2 (DcP n (fixD (dclF L R).1)):=by
 cases h1:isR L [102,117,110] R with
 | true=>exact decl_fun q h1
 | false =>
  cases h2:isR L [110,111,100,101] R with
  | true=>exact decl_node q h1 h2
  | false=>exact decl_hybrid q h1 h2
end
end Go.Proofs.YtgkhmmlemgikjaaGreatDoor
namespace Go.Proofs.YtgkhmmlemgikjaaGreatDoor
open Go Ai
theorem fn52:A.fn 52=some a52:=by kernel_rfl
theorem prim52:A.prim 52=none:=by kernel_rfl
def w52_0:List Nat:=a52_0.writes
theorem fn26:A.fn 26=some a26:=by kernel_rfl
theorem prim26:A.prim 26=none:=by kernel_rfl
def fixP (p:Pg):Pg:={ p with ds:=p.ds.map fixD }
section
variable {n r:Nat} {L:List Tk} {dv:AV} {s:St} {R:Rd}
structure FinQ (st:St) (L:List Tk) (sx:St) (R:Rd) (ds:List Dc):Prop where
 q:∃es ap,PsOk st.length (st.length+2) L (.lst 7 es ap) 0 sx R∧Own sx st.length 7 (some 33) ap es.length∧es.length=ds.length∧AV.lowsB sx.length es=true∧∀S,AV.stills st.length S es=some (ds.map fun d=>(fixD d).av)
 z:sx[st.length]?=some zOut
 f:sx[st.length+1]?=some zFlt
 t:sx.take st.length=st
theorem rule52 {st sx:St} (h:FinQ st L sx ⟨0,[],0,0⟩ []):∃s',s'.take st.length=st∧s'[st.length]?=some zOut∧s'[st.length+1]?=some zFlt ∧
  (((dclsF L L.length [] ⟨0, [], 0, 0⟩).2.c = 0 ∧ runL A (.call 52 [.ptr (st.length + 2) 0]) sx = some ⟨.ret, ⟨[.tup []], []⟩, s'⟩ ∧ FinQ st L s' (dclsF L L.length [] ⟨0, [], 0, 0⟩).2 (dclsF L L.length [] ⟨0, [], 0, 0⟩).1) ∨
    ((dclsF L L.length [] ⟨0,[],0,0⟩).2.c≠0∧runL A (.call 52 [.ptr (st.length+2) 0]) sx=some ⟨.pan (flt (dclsF L L.length [] ⟨0,[],0,0⟩).2),⟨[],[]⟩,s'⟩)):=by
 generalize hq:dclsF L L.length [] ⟨0,[],0,0⟩=D
 obtain ⟨q,⟨s',h1,h2,h3,h4⟩,h5,_⟩:=task_tail (A:=A) (st:=sx) (f:=52) (args:=[.ptr (st.length+2) 0]) (N:=25) (fun q=>∃s',s'.take st.length=st∧s'[st.length]?=some zOut∧s'[st.length+1]?=some zFlt∧((D.2.c=0∧q=(⟨.ret,⟨[.tup []],[]⟩,s'⟩:Res)∧FinQ st L s' D.2 D.1)∨(D.2.c≠0∧q=⟨.pan (flt D.2),⟨[],[]⟩,s'⟩))) prim52 fn52 rfl (by
  intro e he ha K hK
  have a0:=ha 0
  clear ha
  simp at a0
  simp [a52]
  refine aw_loop (W:=w52_0) rfl (fun m e ds s=>ds=[]∧∃l R,dclsF L m l R=D∧L.length≤m+R.i∧l.length≤R.i∧FinQ st L s R l) L.length ⟨rfl,[],_,hq,by simp,by simp,h⟩ ?_
  clear hq h
  rintro m e1 ds s hs ⟨rfl,l,R,hq,hm,hll,F⟩ K1 kn kx
  have he1:e1.length=25:=by simp [hs.1,he]
  have b0:=hs.ev 0 rfl a0
  obtain ⟨des,dap,q,od,hdl,hdw,hds⟩:=F.q
  obtain ⟨es,o,hr,_⟩:=q.cell
  simp only [psCs] at hr
  have hg:=q.get
  have hc:=q.c0
  have hnl:st.length≤s.length:=by have:=q.len;omega
  by_cases h5:(tkF L R).kind=5
  ·rw [dclsF_end (by simp [h5])] at hq
   subst hq
   simp [a52_0,b0,he1,hr,hg,Lx.Tok.av,Ai.beq_refl,h5]
   exact kx _ _ _ _ nofun fun hs'=>hK _ _ _ _ _ (by simp [tailA,runDefs,a52,resultsA,oneOf]) ⟨_,F.t,F.z,F.f,.inl ⟨hc,rfl,F⟩⟩
  ·have h5':¬((tkF L R).kind:Int)=5:=by omega
   have hlt:=q.lt
   have htl:=q.tk.len
   cases m with
   | zero=>omega
   | succ m =>
   rw [dclsF,if_pos ⟨hc,h5⟩] at hq
   have Sd:=Step.decl (L:=L) (R:=R)
   obtain ⟨cs0,hr0⟩:∃cs,s[st.length+2]?=some (.cells none cs):=⟨_,hr⟩
   obtain ⟨s1,k1,⟨z1,⟨V,c1,P1⟩,q1⟩ | ⟨cn,c1⟩⟩:=decl_p q
   ·have o1:=k1.own od (.inl (by decide)) hr0
    generalize dclF L R=X at *
    obtain ⟨d,R1⟩:=X
    simp only [] at hq c1 q1 P1 Sd z1
    have hsd:=fun S=>dc_still (S:=S) P1
    obtain ⟨l1,ap1,l2,ap2,rfl,lw1,_⟩:=P1
    have hz:=k1.k _ _ (by omega) F.z nofun
    have hf:=k1.k _ _ (by omega) F.f nofun
    have ht:s1.take st.length=st:=k1.g.take.trans F.t
    have hl1:st.length≤s1.length:=by have:=q1.len;omega
    have k0:Keep st.length (st.length+2) st s1:=⟨⟨by rw [ht,List.take_length],hl1,fun _=>q1.ok⟩,fun j o _ h _=>by
     have hj:=(List.getElem?_eq_some_iff.1 h).1
     rw [←ht,List.getElem?_take_of_lt hj] at h;exact h⟩
    obtain ⟨ap',s3,p3,o3,q3,k3,l3,g3⟩:=q1.push (s:=st) (l:=des) (x:=.agg [.int .i64 (fixD d).k,.str (fixD d).n,.lst 2 l1 ap1,.lst 9 l2 ap2,.int .i64 (fixD d).t,.int .i64 (fixD d).e,.int .i64 (fixD d).p]) (ap0:=.tight) (ap:=dap) (m:=7) (ty:=some 33) (bytes:=96) k0 o1 (.inl (by decide)) (Nat.le_refl _) (by omega) (by decide)
    have hdw3:AV.lowsB s3.length des=true:=AV.lows_le (by have:=k1.g.len;omega) _ hdw
    obtain ⟨es1,o1',hr1,_⟩:=q1.cell
    obtain ⟨es3,o3',hr3,_⟩:=q3.cell
    have lwe:=lows_append hdw3 (b:=[AV.agg [.int .i64 (fixD d).k,.str (fixD d).n,.lst 2 l1 ap1,.lst 9 l2 ap2,.int .i64 (fixD d).t,.int .i64 (fixD d).e,.int .i64 (fixD d).p]]) (by rw [AV.lowsB,AV.low_le l3 _ lw1];rfl)
    have lw3:=own_low o3.weak lwe
    have u:=q3.upd hr3 (R':=R1) (dp':=0) (zd:=0) lw3 rfl rfl q3.lt q3.xl (by omega) q3.c0
    have hr1':=hr1
    have hr3':=hr3
    simp only [psCs] at hr1 hr3
    simp [a52_0,b0,he1,hr,hg,Lx.Tok.av,Ai.beq_refl,h5',c1,hr1,p3,hr3]
    refine kn m _ _ _ (by omega) ⟨rfl,_,R1,hq,?_,?_,⟨⟨_,ap',u.1,?_,by simp [hdl],?_,fun S=>?_⟩,?_,?_,?_⟩⟩
    ·have:=Sd.2 z1;omega
    ·have:=Sd.2 z1;simp;omega
    ·rcases o3 with h | ⟨h0,id,e1,e2,e3⟩
     ·exact .inl h
     ·refine .inr ⟨h0,id,e1,e2,?_⟩
      rw [List.getElem?_set_ne]
      ·exact e3
      ·rintro rfl;rw [hr3'] at e3;cases e3
    ·rw [List.length_set];exact lwe
    ·have:=stills_app (hds S) (b:=[AV.agg [.int .i64 (fixD d).k,.str (fixD d).n,.lst 2 l1 ap1,.lst 9 l2 ap2,.int .i64 (fixD d).t,.int .i64 (fixD d).e,.int .i64 (fixD d).p]]) (b':=[(fixD d).av]) (by simp only [AV.stills,hsd S])
     simpa using this
    ·rw [List.getElem?_set_ne (by omega)];exact g3 _ _ hz nofun
    ·rw [List.getElem?_set_ne (by omega)];exact g3 _ _ hf nofun
    ·rw [List.take_set,List.set_eq_of_length_le (by simp;omega),k3.g.take,List.take_length]
   ·rw [dclsF_end (by simp [cn])] at hq
    subst hq
    simp [a52_0,b0,he1,hr,hg,Lx.Tok.av,Ai.beq_refl,h5',c1]
    exact kx _ _ _ _ nofun fun hs'=>hK _ _ _ _ _ (by simp [tailA,runDefs]) ⟨_,k1.g.take.trans F.t,k1.k _ _ (by omega) F.z nofun,k1.k _ _ (by omega) F.f nofun,.inr ⟨cn,rfl⟩⟩)
 refine ⟨s',h1,h2,h3,?_⟩
 rcases h4 with ⟨hc,rfl,hq⟩ | ⟨hc,rfl⟩
 ·exact .inl ⟨hc,h5,hq⟩
 ·exact .inr ⟨hc,h5⟩
end
theorem it_stl {x:It} (h:Still x.ap) (n:Nat) (S:St):AV.still n S x.av=some x.av:=by
 have hs:AV.stills n S (strs x.ss)=some (strs x.ss):=stills_of fun y hy=>by obtain ⟨i,_,rfl⟩:=List.mem_map.1 hy;rfl
 rcases h.or with e | e<;>simp [It.av,It.cs,AV.still,AV.stills,AV.lowB,e,hs]
theorem fixIt_still {x:It} (h:Still x.ap):Still (fixIt x).ap:=by
 unfold fixIt;split
 ·exact .tight
 ·exact h
theorem dc_stl {d:Dc} (h:d.Ok) (n:Nat) (S:St):AV.still n S (fixD d).av=some (fixD d).av:=by
 have h1:AV.stills n S (d.ps.map Pm.av)=some (d.ps.map Pm.av):=stills_of fun y hy=>by obtain ⟨i,_,rfl⟩:=List.mem_map.1 hy;rfl
 have h2:AV.stills n S ((d.its.map fixIt).map It.av)=some ((d.its.map fixIt).map It.av):=stills_of fun y hy=>by
  obtain ⟨i,hi,rfl⟩:=List.mem_map.1 hy
  obtain ⟨j,hj,rfl⟩:=List.mem_map.1 hi
  exact it_stl (fixIt_still (h.item _ hj).ap) _ _
 rcases h.pap.or with e | e<;>rcases h.iap.or with e' | e'<;>simp only [Dc.av,Dc.cs,fixD,AV.still,AV.stills,e,e',h1,h2]<;>simp [AV.lowB]
theorem fixP_stl {p:Pg} (h:p.Ok) (n:Nat) (S:St):AV.still n S (fixP p).av=some (fixP p).av:=by
 have h1:AV.stills n S ((p.ds.map fixD).map Dc.av)=some ((p.ds.map fixD).map Dc.av):=stills_of fun y hy=>by
  obtain ⟨i,hi,rfl⟩:=List.mem_map.1 hy
  obtain ⟨j,hj,rfl⟩:=List.mem_map.1 hi
  exact dc_stl (h.dc _ hj) _ _
 have h2:AV.stills n S (p.xs.map Ex.av)=some (p.xs.map Ex.av):=stills_of fun y hy=>by obtain ⟨i,hi,rfl⟩:=List.mem_map.1 hy;exact ex_still (h.ex i hi) _ _
 rcases h.dap.or with e | e<;>rcases h.xap.or with e' | e'<;>simp only [Pg.av,fixP,AV.still,AV.stills,e,e',h1,h2]<;>simp [AV.lowB]
theorem parse26 {s:Sx} (hs:s.length≤281474976710656) {st:St} (hst:StOk st) :
  runL A (.call 26 [.str s]) st=some ⟨.ret,⟨[.tup [(fixP (parseF s false).1).av,.agg [.int .i64 (parseF s false).2.2.1,.int .i64 (parseF s false).2.2.2]]],[]⟩,st⟩:=by
 have ho:StOk (st++[zOut,zFlt]):=by have:=(hst.snoc (o:=zOut) rfl).snoc (o:=zFlt) rfl;simpa using this
 have hlen:(st++[zOut,zFlt]).length=st.length+2:=by simp
 have fin:∀(V:AV) (c b:Int),runL A (.call 47 [.str s,.func (.func 52) [] []]) (st++[zOut,zFlt])=some ⟨.ret,⟨[.tup [V,.agg [.int .i64 c,.int .i64 b]]],[]⟩,st++[zOut,zFlt]⟩→V=(fixP (parseF s false).1).av→c=(parseF s false).2.2.1→b=(parseF s false).2.2.2 →
   runL A (.call 26 [.str s]) st=some ⟨.ret,⟨[.tup [(fixP (parseF s false).1).av,.agg [.int .i64 (parseF s false).2.2.1,.int .i64 (parseF s false).2.2.2]]],[]⟩,st⟩:=by
  intro V c b cc hV hc hb
  subst hc;subst hb
  have hsl:=fixP_stl (parse_ok s false).1
  rw [hV] at cc
  clear hV
  generalize parseF s false=P at *
  obtain ⟨x,y,hxy,hx,hy⟩:∃x y,(fixP P.1).av=.agg [x,y]∧x.isCell=true∧y.isCell=true:=⟨_,_,rfl,rfl,rfl⟩
  rw [hxy] at cc hsl ⊢
  simp only [zOut,zFlt] at cc
  refine (task_of_aw (N:=8) prim26 fn26 rfl rfl hst ?_).1
  intro e he ha K hK
  have a0:=ha 0
  clear ha
  simp at a0
  simp [a26,he,a0,cc,Ai.beq_refl,hx,hy]
  exact hK _ _ _ (.inl rfl) (by simp) ⟨[.agg [x,y],.agg [.int .i64 P.2.2.1,.int .i64 P.2.2.2]],by simp [a26,resultsA,res_cell,he,takeVar],by
   simp only [oneOf]
   generalize AV.agg [x,y]=V at hsl ⊢
   simp [AV.still,AV.stills,hsl]⟩
 clear hlen
 generalize st++[zOut,zFlt]=s2 at ho fin
 by_cases hbig:20000<s.length
 ·refine fin _ _ _ (read_bad hs (c:=10) (p:=0) (by decide) (by simp [Lx.lexP,hbig]) ho) ?_ ?_ ?_<;>rw [show parseF s false=(noPg,0,10,0) by simp [parseF,hbig]]
  rfl
 cases hlx:Lx.lexK s 0 with
 | error p =>
  refine fin _ _ _ (read_bad hs (c:=1) (p:=p) (by decide) (by simp [Lx.lexP,hbig,hlx]) ho) ?_ ?_ ?_<;>rw [show parseF s false=(noPg,0,1,(p:Int)) by simp [parseF,hbig,hlx]]
  rfl
 | ok ts =>
 obtain ⟨htk,hpos⟩:=lexK_tks (by omega) hlx
 have hP:Lx.lexP s=(.lst 4 (ts.map Lx.Tok.av) .no,.agg [.int .i64 0,.int .i64 0]):=by simp [Lx.lexP,hbig,hlx,Lx.toksAv,Lx.flt]
 obtain ⟨E,hE⟩:∃E,E=dclsF ts ts.length [] ⟨0,[],0,0⟩:=⟨_,rfl⟩
 have F0:FinQ s2 ts (s2++[zOut,zFlt,.cells none (psCs ts (.lst 7 [] .tight) 0 ⟨0,[],0,0⟩ [] .tight)]) ⟨0,[],0,0⟩ []:=by
  refine ⟨⟨[],.tight,⟨⟨[],.tight,by simp [psCs],rfl,.nil,fun _=>rfl⟩,?_,by omega,hpos,by simp,htk,by omega,rfl⟩,.nil,rfl,rfl,fun _=>rfl⟩,by simp,by simp,by simp⟩
  have:=((ho.snoc (o:=zOut) rfl).snoc (o:=zFlt) rfl).snoc (o:=.cells none (psCs ts (.lst 7 [] .tight) 0 ⟨0,[],0,0⟩ [] .tight)) (by simp [AObj.lowB,psCs,AV.lowsB,AV.lowB,toks_low])
  simpa using this
 obtain ⟨s',ht,hz,hf,h⟩:=rule52 F0
 rw [←hE] at h
 obtain ⟨Z,hZ⟩:∃Z,Z=endR ts E.2:=⟨_,rfl⟩
 have hX:Z.c=0→Z.xs=E.2.xs:=by
  intro h;rw [hZ] at h ⊢;unfold endR at h ⊢;split
  ·rename_i h2;rw [if_pos h2] at h;simp [failR,h2.1] at h
  ·rfl
 have hQ:parseF s false=if Z.c=0 then (⟨E.1,endAp E.1.length,Z.xs,endAp Z.xs.length⟩,0,0,0) else (noPg,0,Z.c,Z.b):=by simp [parseF,hbig,hlx,readF,←hE,←hZ]
 obtain ⟨dv,DV,hdc,hdv,hDV,h'⟩:∃dv DV:AV,dv.isCell=true∧(∀S,AV.still s2.length S dv=some DV)∧(E.2.c=0→DV=.lst 7 (E.1.map fun d=>(fixD d).av) (endAp E.1.length)) ∧
   ((E.2.c = 0 ∧ runL A (.call 52 [.ptr (s2.length + 2) 0]) (s2 ++ [zOut, zFlt, .cells none (psCs ts (.lst 7 [] .tight) 0 ⟨0, [], 0, 0⟩ [] .tight)]) = some ⟨.ret, ⟨[.tup []], []⟩, s'⟩ ∧ PsOk s2.length (s2.length + 2) ts dv 0 s' E.2) ∨
     (E.2.c≠0∧runL A (.call 52 [.ptr (s2.length+2) 0]) (s2++[zOut,zFlt,.cells none (psCs ts (.lst 7 [] .tight) 0 ⟨0,[],0,0⟩ [] .tight)])=some ⟨.pan (flt E.2),⟨[],[]⟩,s'⟩)):=by
  rcases h with ⟨h0,c1,F⟩ | ⟨h0,c1⟩
  ·obtain ⟨des,dap,q,od,hdl,hdw,hds⟩:=F.q
   refine ⟨.lst 7 des dap,_,rfl,fun S=>own_stl od (Nat.le_refl _) (hds S),fun _=>by rw [hdl],.inl ⟨h0,c1,q⟩⟩
  ·exact ⟨.lst 7 [] .tight,_,rfl,fun S=>rfl,fun h=>absurd h h0,.inr ⟨h0,c1⟩⟩
 have cc:=read_call (s:=s) hs hP (g:=52) (fi:=[]) (ca:=[]) ho ho (R':=E.2) hdc hdv ⟨s',ht,hz,hf,h'⟩
 rw [←hZ] at cc
 refine fin _ _ _ cc ?_ ?_ ?_<;>rw [hQ]
 ·by_cases hz:Z.c=0
  ·have hz':E.2.c=0:=by
    have h:=hz;rw [hZ] at h;unfold endR at h;split at h
    ·rename_i h2;exact h2.1
    ·exact h
   rw [if_pos hz,if_pos hz,hDV hz',progAv,hX hz]
   simp [fixP,Pg.av,List.map_map,Function.comp_def]
  ·rw [if_neg hz,if_neg hz];rfl
 ·by_cases hz:Z.c=0
  ·rw [if_pos hz];exact hz
  ·rw [if_neg hz]
 ·by_cases hz:Z.c=0
  ·rw [if_pos hz,if_pos hz]
  ·rw [if_neg hz,if_neg hz]
end Go.Proofs.YtgkhmmlemgikjaaGreatDoor
namespace Go.Proofs.YtgkhmmlemgikjaaGreatDoor
open Go Ai
theorem lop24_0 {e:Env} {st:St} {x:It} {o1 o2:Ap} (hx:x.ss.length≤1048576) {Q:PostQ} (he:e.length=295) (h13:AX.ev e (.t 13)=.iptr (.agg (It.cs { x with ap:=o1 }))) (h14:AX.ev e (.t 14)=.iptr (.agg (It.cs { x with ap:=o2 }))) (h15:AX.ev e (.t 15)=.int .i64 0)
  (hQ:∀e2,Same w24_0 e e2→Q (.exit 8) e2 [] st):AW A 24 none (.loop a24_0) e [] st Q:=by
 refine aw_loop (W:=w24_0) rfl (fun m e ds st'=>ds=[]∧st'=st∧∃i:Nat,i+m=x.ss.length∧AX.ev e (.t 15)=.int .i64 i) x.ss.length ⟨rfl,rfl,0,by simp,by simp [h15]⟩ ?_
 rintro m e1 ds st' hs ⟨rfl,rfl,i,hm,g15⟩ K1 kn kx
 have he1:e1.length=295:=by simp [hs.1,he]
 have g13:=hs.ev 13 rfl h13
 have g14:=hs.ev 14 rfl h14
 simp only [It.cs] at g13 g14
 have hss:=hx
 have hlen:(strs x.ss).length=x.ss.length:=by simp [strs]
 by_cases hi:i<x.ss.length
 ·have hg:=strs_get' hi
  have w1:IntKind.i64.wrap ((i:Int)+1)=(i:Int)+1:=wrap_i64 (by omega) (by omega)
  simp [a24_0,g13,g14,g15,he1,hi,hg,hlen,w1,Ai.beq_refl]
  exact kn (m-1) _ _ _ (by omega) ⟨rfl,rfl,i+1,by omega,by simp [he1]⟩
 ·simp [a24_0,g13,g14,g15,he1,hi,hlen]
  exact kx _ _ _ _ nofun fun hs'=>hQ _ hs'
theorem lop24_1 {e:Env} {st:St} {d:Dc} (hd:d.Ok) {Q:PostQ} (he:e.length=295) (h9:AX.ev e (.t 9)=.iptr (.agg (fixD d).cs)) (h10:AX.ev e (.t 10)=.iptr (.agg d.cs)) (h12:AX.ev e (.t 12)=.int .i64 0)
  (hQ:∀e2,Same w24_1 e e2→Q (.exit 6) e2 [] st):AW A 24 none (.loop a24_1) e [] st Q:=by
 obtain ⟨M,hM⟩:∃M,M=d.its.map fixIt:=⟨_,rfl⟩
 have hlM:M.length=d.its.length:=by rw [hM,List.length_map]
 refine aw_loop (W:=w24_1) rfl (fun m e ds st'=>ds=[]∧st'=st∧∃i:Nat,i+m=d.its.length∧AX.ev e (.t 12)=.int .i64 i) d.its.length ⟨rfl,rfl,0,by simp,by simp [h12]⟩ ?_
 rintro m e1 ds st' hs ⟨rfl,rfl,i,hm,g12⟩ K1 kn kx
 have he1:e1.length=295:=by simp [hs.1,he]
 have g9:=hs.ev 9 rfl h9
 have g10:=hs.ev 10 rfl h10
 simp only [Dc.cs,fixD,←hM] at g9 g10
 have hn:=hd.its
 by_cases hi:i<d.its.length
 ·obtain ⟨x,hx⟩:∃x,x=d.its[i]:=⟨_,rfl⟩
  have hg:=its_get hi
  rw [←hx] at hg
  have hg1:=its_get (l:=M) (i:=i) (by omega)
  have hMi:M[i]'(by omega)=fixIt x:=by subst hM;simp [hx]
  rw [hMi] at hg1
  obtain ⟨o,ho⟩:∃o,fixIt x={ x with ap:=o }:=by unfold fixIt;split<;>exact ⟨_,rfl⟩
  rw [ho] at hg1
  have hok:x.Ok:=by rw [hx];exact hd.item _ (List.getElem_mem hi)
  have w1:IntKind.i64.wrap ((i:Int)+1)=(i:Int)+1:=wrap_i64 (by omega) (by omega)
  simp only [It.cs] at hg hg1
  simp [a24_1,g9,g10,g12,he1,hi,hg,hg1,hlM,Ai.beq_refl]
  refine lop24_0 (o1:=o) (o2:=x.ap) hok.ss (by simp [he1]) (by simp [he1,It.cs]) (by simp [he1,It.cs]) (by simp [he1]) fun e2 hs2=>?_
  have he2:e2.length=295:=by simp [hs2.1,he1]
  have k12:=hs2.ev 12 rfl (v:=.int .i64 i) (by simp [he1,g12])
  simp [he2,k12,w1]
  exact kn (m-1) _ _ _ (by omega) ⟨rfl,rfl,i+1,by omega,by simp [he2]⟩
 ·simp [a24_1,g9,g10,g12,he1,hi,hlM]
  exact kx _ _ _ _ nofun fun hs'=>hQ _ hs'
theorem lop24_2 {e:Env} {st:St} {d:Dc} (hd:d.Ok) {Q:PostQ} (he:e.length=295) (h9:AX.ev e (.t 9)=.iptr (.agg (fixD d).cs)) (h10:AX.ev e (.t 10)=.iptr (.agg d.cs)) (h11:AX.ev e (.t 11)=.int .i64 0)
  (hQ:∀e2,Same w24_2 e e2→Q (.exit 4) e2 [] st):AW A 24 none (.loop a24_2) e [] st Q:=by
 refine aw_loop (W:=w24_2) rfl (fun m e ds st'=>ds=[]∧st'=st∧∃i:Nat,i+m=d.ps.length∧AX.ev e (.t 11)=.int .i64 i) d.ps.length ⟨rfl,rfl,0,by simp,by simp [h11]⟩ ?_
 rintro m e1 ds st' hs ⟨rfl,rfl,i,hm,g11⟩ K1 kn kx
 have he1:e1.length=295:=by simp [hs.1,he]
 have g9:=hs.ev 9 rfl h9
 have g10:=hs.ev 10 rfl h10
 simp only [Dc.cs,fixD] at g9 g10
 have hn:=hd.ps
 by_cases hi:i<d.ps.length
 ·have hg:=ps_get hi
  have w1:IntKind.i64.wrap ((i:Int)+1)=(i:Int)+1:=wrap_i64 (by omega) (by omega)
  simp [a24_2,g9,g10,g11,he1,hi,hg,w1,Ai.beq_refl,eq_pm]
  exact kn (m-1) _ _ _ (by omega) ⟨rfl,rfl,i+1,by omega,by simp [he1]⟩
 ·simp [a24_2,g9,g10,g11,he1,hi]
  exact kx _ _ _ _ nofun fun hs'=>hQ _ hs'
theorem lop24_3 {e:Env} {st:St} {p:Pg} (hp:p.Ok) {Q:PostQ} (he:e.length=295) (h2:AX.ev e (.t 2)=.iptr (fixP p).av) (h3:AX.ev e (.t 3)=.iptr p.av) (h8:AX.ev e (.t 8)=.int .i64 0)
  (hQ:∀e2,Same w24_3 e e2→Q (.exit 2) e2 [] st):AW A 24 none (.loop a24_3) e [] st Q:=by
 obtain ⟨M,hM⟩:∃M,M=p.ds.map fixD:=⟨_,rfl⟩
 have hlM:M.length=p.ds.length:=by rw [hM,List.length_map]
 refine aw_loop (W:=w24_3) rfl (fun m e ds st'=>ds=[]∧st'=st∧∃i:Nat,i+m=p.ds.length∧AX.ev e (.t 8)=.int .i64 i) p.ds.length ⟨rfl,rfl,0,by simp,by simp [h8]⟩ ?_
 rintro m e1 ds st' hs ⟨rfl,rfl,i,hm,g8⟩ K1 kn kx
 have he1:e1.length=295:=by simp [hs.1,he]
 have g2:=hs.ev 2 rfl h2
 have g3:=hs.ev 3 rfl h3
 simp only [Pg.av,fixP,←hM] at g2 g3
 have hn:=hp.ds
 by_cases hi:i<p.ds.length
 ·obtain ⟨x,hx⟩:∃x,x=p.ds[i]:=⟨_,rfl⟩
  have hg:=ds_get hi
  rw [←hx] at hg
  have hg1:=ds_get (p:={ p with ds:=M }) (i:=i) (by show i<M.length;omega)
  have hMi:M[i]'(by omega)=fixD x:=by subst hM;simp [hx]
  simp only [hMi] at hg1
  have hok:x.Ok:=by rw [hx];exact hp.dc _ (List.getElem_mem hi)
  have w1:IntKind.i64.wrap ((i:Int)+1)=(i:Int)+1:=wrap_i64 (by omega) (by omega)
  have hD:fixD x={ x with its:=x.its.map fixIt }:=rfl
  simp only [Dc.cs,hD] at hg hg1
  simp [a24_3,g2,g3,g8,he1,hi,hg,hg1,hlM,Ai.beq_refl]
  refine lop24_2 hok (by simp [he1]) (by simp [he1,Dc.cs,fixD]) (by simp [he1,Dc.cs]) (by simp [he1]) fun e2 hs2=>?_
  have he2:e2.length=295:=by simp [hs2.1,he1]
  have k8:=hs2.ev 8 rfl (v:=.int .i64 i) (by simp [he1,g8])
  have k9:=hs2.ev 9 rfl (v:=.iptr (.agg (fixD x).cs)) (by simp [he1,Dc.cs,fixD])
  have k10:=hs2.ev 10 rfl (v:=.iptr (.agg x.cs)) (by simp [he1,Dc.cs])
  clear hs2
  simp [he2]
  refine lop24_1 hok (by simp [he2]) (by simp [he2,k9]) (by simp [he2,k10]) (by simp [he2]) fun e3 hs3=>?_
  have he3:e3.length=295:=by simp [hs3.1,he2]
  have l8:=hs3.ev 8 rfl (v:=.int .i64 i) (by simp [he2,k8])
  clear hs3
  simp [he3,l8,w1]
  exact kn (m-1) _ _ _ (by omega) ⟨rfl,rfl,i+1,by omega,by simp [he3]⟩
 ·simp [a24_3,g2,g3,g8,he1,hi,hlM]
  exact kx _ _ _ _ nofun fun hs'=>hQ _ hs'
theorem lop24_4 {e:Env} {st:St} (hst:StOk st) {p:Pg} (hp:p.Ok) {Q:PostQ} (he:e.length=295) (h2:AX.ev e (.t 2)=.iptr (fixP p).av) (h3:AX.ev e (.t 3)=.iptr p.av) (h5:AX.ev e (.t 5)=.int .i64 0)
  (hQ:∀e2,Same w24_4 e e2→Q (.exit 0) e2 [] st):AW A 24 none (.loop a24_4) e [] st Q:=by
 refine aw_loop (W:=w24_4) rfl (fun m e ds st'=>ds=[]∧st'=st∧∃i:Nat,i+m=p.xs.length∧AX.ev e (.t 5)=.int .i64 i) p.xs.length ⟨rfl,rfl,0,by simp,by simp [h5]⟩ ?_
 rintro m e1 ds st' hs ⟨rfl,rfl,i,hm,g5⟩ K1 kn kx
 have he1:e1.length=295:=by simp [hs.1,he]
 have g2:=hs.ev 2 rfl h2
 have g3:=hs.ev 3 rfl h3
 simp only [Pg.av,fixP] at g2 g3
 have hn:=hp.xs
 by_cases hi:i<p.xs.length
 ·obtain ⟨x,hx⟩:∃x,x=p.xs[i]:=⟨_,rfl⟩
  have hg:=xs_get hi
  rw [←hx] at hg
  have hok:x.Ok:=by rw [hx];exact hp.ex _ (List.getElem_mem hi)
  have cc:=ints_same (a:=x.args) (p:=x.ap) hok.args hst
  have w1:IntKind.i64.wrap ((i:Int)+1)=(i:Int)+1:=wrap_i64 (by omega) (by omega)
  simp only [Ex.cs] at hg
  simp [a24_4,g2,g3,g5,he1,hi,hg,cc,w1,Ai.beq_refl]
  exact kn (m-1) _ _ _ (by omega) ⟨rfl,rfl,i+1,by omega,by simp [he1]⟩
 ·simp [a24_4,g2,g3,g5,he1,hi]
  exact kx _ _ _ _ nofun fun hs'=>hQ _ hs'
theorem equal24 {p:Pg} (hp:p.Ok) {st:St} (hst:StOk st):runL A (.call 24 [(fixP p).av,p.av]) st=some ⟨.ret,⟨[.bool true],[]⟩,st⟩:=by
 refine (task_of_aw (N:=295) prim24 fn24 rfl rfl hst ?_).1
 intro e he ha K hK
 have a0:=ha 0
 have a1:=ha 1
 clear ha
 simp at a0 a1
 simp only [Pg.av,fixP] at a0 a1
 simp [a24,he,a0,a1]
 refine lop24_4 hst hp (by simp [he]) (by simp [he,Pg.av,fixP]) (by simp [he,Pg.av]) (by simp [he]) fun e2 hs2=>?_
 have he2:e2.length=295:=by simp [hs2.1,he]
 have k2:=hs2.ev 2 rfl (v:=.iptr (fixP p).av) (by simp [he,Pg.av,fixP])
 have k3:=hs2.ev 3 rfl (v:=.iptr p.av) (by simp [he,Pg.av])
 clear hs2
 simp [he2]
 refine lop24_3 hp (by simp [he2]) (by simp [he2,k2]) (by simp [he2,k3]) (by simp [he2]) fun e3 hs3=>?_
 have he3:e3.length=295:=by simp [hs3.1,he2]
 simp [he3]
 exact hK _ _ _ (.inl rfl) (by simp) ⟨_,rfl,by simp [he3,AV.still]⟩
end Go.Proofs.YtgkhmmlemgikjaaGreatDoor
namespace Go.Proofs.YtgkhmmlemgikjaaGreatDoor
open Go Ai
theorem fn8:A.fn 8=some a8:=by kernel_rfl
theorem prim8:A.prim 8=none:=by kernel_rfl
theorem fixIt_ok {x:It} (h:x.Ok):(fixIt x).Ok:=⟨by unfold fixIt;split<;>exact h.n,by unfold fixIt;split<;>exact h.ss,fixIt_still h.ap⟩
theorem fixD_ok {d:Dc} (h:d.Ok):(fixD d).Ok:=⟨h.n,h.ps,by simpa [fixD] using h.its,h.pap,h.iap,fun i hi=>by
 obtain ⟨j,hj,rfl⟩:=List.mem_map.1 hi
 exact fixIt_ok (h.item _ hj)⟩
theorem fixP_ok {p:Pg} (h:p.Ok):(fixP p).Ok:=⟨by simpa [fixP] using h.ds,h.xs,h.dap,h.xap,fun d hd=>by
 obtain ⟨j,hj,rfl⟩:=List.mem_map.1 hd
 exact fixD_ok (h.dc _ hj),h.ex⟩
theorem fixP_may {p:Pg}:may4 (fixP p)=may4 p:=by
 have h1:∀(n:Nat) (x:It),itemR n (fixIt x)=itemR n x:=fun n x=>by unfold fixIt;split<;>rfl
 have h2:∀(n:Nat) (d:Dc),declR n (fixD d)=declR n d:=fun n d=>by simp only [declR,fixD,List.all_map,Function.comp_def,h1];rfl
 simp [may4,fixP,List.all_map,Function.comp_def,h2]
theorem law8_run {s:Sx} (hs:s.length≤281474976710656):runL A (.seqc 8 [.str s]) []=some ⟨.ret,⟨[.bool true],[]⟩,[]⟩:=by
 have hst:StOk []:=StOk.nil
 have c1:=alive_call hst
 have c2:=parse26 hs hst
 have c3:=parse_call hs false hst
 have hok:=(parse_ok s false).1
 have c4:=equal24 hok hst
 have c5:=may4_call (fixP_ok hok) hst
 rw [fixP_may,parse_may] at c5
 obtain ⟨P,hP⟩:∃P,P=parseF s false:=⟨_,rfl⟩
 rw [←hP] at c2 c3 c4 c5
 obtain ⟨p,e0,c,b⟩:=P
 have hb:=eq_fl (c,b) (c,b)
 simp at hb
 simp only [Pg.av] at c2 c3 c4 c5
 refine (task_of_aw (N:=33) prim8 fn8 rfl rfl StOk.nil ?_).2
 intro e he ha K hK
 have a0:=ha 0
 clear ha
 simp at a0
 simp [a8,he,a0,c1,c2,c3,c4,c5,hb]
 exact hK _ _ _ (.inl rfl) (by simp) ⟨_,rfl,by simp [he,AV.still]⟩
end Go.Proofs.YtgkhmmlemgikjaaGreatDoor
