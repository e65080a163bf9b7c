/- Part Kj. No condition. -/
import Derived.Test.YtgkhmmlemgikjaaGreatDoorKg
import Derived.Test.YtgkhmmlemgikjaaGreatDoorEh
set_option linter.unusedVariables false
set_option linter.unusedSimpArgs false
namespace Go.Proofs.YtgkhmmlemgikjaaGreatDoor
open Go Ai
theorem fn85:A.fn 85=some a85:=by kernel_rfl
theorem prim85:A.prim 85=none:=by kernel_rfl
theorem fn88:A.fn 88=some a88:=by kernel_rfl
theorem prim88:A.prim 88=none:=by kernel_rfl
theorem fn92:A.fn 92=some a92:=by kernel_rfl
theorem prim92:A.prim 92=none:=by kernel_rfl
theorem fn93:A.fn 93=some a93:=by kernel_rfl
theorem prim93:A.prim 93=none:=by kernel_rfl
theorem fn94:A.fn 94=some a94:=by kernel_rfl
theorem prim94:A.prim 94=none:=by kernel_rfl
def w94_0:List Nat:=a94_0.writes
theorem fn95:A.fn 95=some a95:=by kernel_rfl
theorem prim95:A.prim 95=none:=by kernel_rfl
theorem fn122:A.fn 122=some a122:=by kernel_rfl
theorem prim122:A.prim 122=none:=by kernel_rfl
def toks (L:List Tk) (i:Nat):List AV:=(L.drop i).map Lx.Tok.av
def psCs (L:List Tk) (dv:AV) (dp:Nat) (R:Rd) (es:List AV) (o:Ap):List AV:=[.lst 4 (toks L R.i) .no,dv,.lst 9 es o,.int .i64 dp]
structure PsOk (n r:Nat) (L:List Tk) (dv:AV) (dp:Nat) (s:St) (R:Rd):Prop where
 cell:∃es o,s[r]?=some (.cells none (psCs L dv dp R es o))∧es.length=R.xs.length∧Own s n 9 (some 62) o R.xs.length∧(∀S,AV.stills n S es=some (R.xs.map Ex.av))
 ok:StOk s
 le:n≤r
 lt:R.i<L.length
 xl:R.xs.length≤R.i
 tk:Tks L
 dp:dp≤31
 c0:R.c=0
def flt (R:Rd):AV:=.iface 41 (.agg [.int .i64 R.c,.int .i64 R.b])
section
variable {n r:Nat} {L:List Tk} {dv:AV} {dp:Nat} {s:St} {R:Rd}
theorem PsOk.get (q:PsOk n r L dv dp s R):(toks L R.i)[0]?=some (tkF L R).av:=by
 have:=q.lt
 simp [toks,tkF,List.getD_eq_getElem?_getD,this]
theorem PsOk.get2 (q:PsOk n r L dv dp s R) (h:0<(toks L R.i).length):(toks L R.i)[0]=(tkF L R).av:=by
 have:=q.get;rw [List.getElem?_eq_getElem h] at this;exact Option.some.inj this
theorem PsOk.tl (q:PsOk n r L dv dp s R):(toks L R.i).length=(L.length-R.i-1)+1:=by
 have:=q.lt;simp [toks];omega
theorem toks_drop {i:Nat}:(toks L i).drop 1=toks L (i+1):=by simp [toks,←List.map_drop,List.drop_drop,Nat.add_comm]
theorem PsOk.len (q:PsOk n r L dv dp s R):r<s.length:=by
 obtain ⟨es,o,h,_⟩:=q.cell
 exact (List.getElem?_eq_some_iff.1 h).1
theorem PsOk.adv (q:PsOk n r L dv dp s R) (h:(tkF L R).kind≠5):R.i+1<L.length:=by
 have h1:=q.lt
 rcases Nat.lt_or_ge (R.i+1) L.length with h2 | h2
 ·exact h2
 ·have e:L.length-1=R.i:=by omega
  have hg:L[R.i]?=some (tkF L R):=by simp [tkF,List.getD_eq_getElem?_getD,h1]
  have:=q.tk.last _ (by rw [e];exact hg)
  exact absurd this h
theorem PsOk.app (q:PsOk n r L dv dp s R) {o:AObj} (ho:AObj.lowB (s.length+1) o=true):PsOk n r L dv dp (s++[o]) R:=by
 obtain ⟨es,p,h1,h2,h3,h4⟩:=q.cell
 exact { q with cell:=⟨es,p,by rw [List.getElem?_append_left q.len];exact h1,h2,h3.snoc,h4⟩,ok:=q.ok.snoc ho }
theorem toks_low {m i:Nat}:AV.lowsB m (toks L i)=true:=by
 refine lows_all fun x hx=>?_
 simp only [toks,List.mem_map] at hx
 obtain ⟨t,_,rfl⟩:=hx
 rfl
theorem PsOk.upd (q:PsOk n r L dv dp s R) {es:List AV} {o:Ap} (hr:s[r]?=some (.cells none (psCs L dv dp R es o))) {R':Rd} {dv':AV} {zd:Int} {dp':Nat} (hv:AV.lowB s.length dv'=true) (hxs:R'.xs=R.xs) (hzd:zd=dp') (hi:R'.i<L.length) (hx:R.xs.length≤R'.i) (hd:dp'≤31) (hc:R'.c=0) :
  PsOk n r L dv' dp' (s.set r (.cells none [.lst 4 (toks L R'.i) .no,dv',.lst 9 es o,.int .i64 zd])) R' ∧
  Keep n r s (s.set r (.cells none [.lst 4 (toks L R'.i) .no,dv',.lst 9 es o,.int .i64 zd])):=by
 obtain ⟨i,xs,c',b'⟩:=R'
 simp only at hxs hi hx hc
 subst hzd;subst hxs
 obtain ⟨es',p,h1,h2,h3,h4⟩:=q.cell
 rw [h1] at hr
 have e:=(AObj.cells.inj (Option.some.inj hr)).2
 simp only [psCs,List.cons.injEq,AV.lst.injEq,true_and,and_true] at e
 obtain ⟨rfl,rfl⟩:=e
 have hlow:AObj.lowB s.length (.cells none [.lst 4 (toks L i) .no,dv',.lst 9 es' p,.int .i64 dp'])=true:=by
  have:=q.ok.get h1
  simp only [AObj.lowB,psCs,AV.lowsB,AV.lowB,Bool.and_eq_true,toks_low,hv] at this ⊢
  simp_all
 have hs:∀o',Own (s.set r o') n 9 (some 62) p R.xs.length:=by
  intro o'
  rcases h3 with h3 | ⟨h0,id,e1,e2,e3⟩
  ·exact .inl h3
  ·refine .inr ⟨h0,id,e1,e2,?_⟩
   rw [List.getElem?_set_ne]
   ·exact e3
   ·rintro rfl;rw [h1] at e3;cases e3
 exact ⟨⟨⟨es',p,by simp [psCs,q.len],h2,hs _,h4⟩,q.ok.set' hlow,q.le,hi,hx,q.tk,hd,hc⟩,.set q.le hlow⟩
end
section
variable {n r:Nat} {L:List Tk} {dv:AV} {dp:Nat} {s:St} {R:Rd}
theorem PsOk.other (q:PsOk n r L dv dp s R) {i:Nat} (hi:i≠r) {ty:Option TypeId} {cs:List AV} (hs:s[i]?=some (.cells ty cs)) {o:AObj} (hlow:AObj.lowB s.length o=true):PsOk n r L dv dp (s.set i o) R:=by
 obtain ⟨es,p,h1,h2,h3,h4⟩:=q.cell
 refine { q with cell:=⟨es,p,by rw [List.getElem?_set_ne hi];exact h1,h2,?_,h4⟩,ok:=q.ok.set' hlow }
 rcases h3 with h3 | ⟨h0,id,e1,e2,e3⟩
 ·exact .inl h3
 ·refine .inr ⟨h0,id,e1,e2,?_⟩
  rw [List.getElem?_set_ne]
  ·exact e3
  ·rintro rfl;rw [hs] at e3;cases e3
end
theorem Keep.mine {n r m i:Nat} {s s':St} (h:Keep n r s s') (hm:s.length≤i) (hn:n≤s.length) {o:AObj} (ho:AObj.lowB s'.length o=true):Keep n r s (s'.set i o) :=
 ⟨h.g.trans ⟨by rw [List.take_set,List.set_eq_of_length_le (by simp;omega)],by simp,fun h=>h.set' ho⟩,fun j p h1 h2 h3=>by
  rw [List.getElem?_set_ne (by have:=(List.getElem?_eq_some_iff.1 h2).1;omega)];exact h.k j p h1 h2 h3⟩
def DoesQ (n r:Nat) (L:List Tk) (dv dv':AV) (dp dp':Nat) (f:Nat) (ar:List AV) (s:St) (R':Rd) (V:AV):Prop :=
 ∃s',Keep n r s s'∧((R'.c=0∧runL A (.call f ar) s=some ⟨.ret,⟨[V],[]⟩,s'⟩∧PsOk n r L dv' dp' s' R') ∨
  (R'.c≠0∧runL A (.call f ar) s=some ⟨.pan (flt R'),⟨[],[]⟩,s'⟩))
abbrev DoesP (n r:Nat) (L:List Tk) (dv dv':AV) (dp dp':Nat) (f:Nat) (args:List AV) (s:St) (R':Rd) (V:AV):Prop:=DoesQ n r L dv dv' dp dp' f (.ptr r 0::args) s R' V
theorem doesP_of {n r:Nat} {L:List Tk} {dv dv':AV} {dp dp' f:Nat} {ar:List AV} {s:St} {R':Rd} {V:AV} {F:AFunc} {N:Nat} (hp:A.prim f=none) (hf:A.fn f=some F) (hk:F.keep=true) (hN:ar.length+(F.ntmps-ar.length)=N)
  (h:∀e:Env,e.length=N→(∀i,AX.ev e (.t i)=ar.getD i .undef)→∀K:PostQ,
   (∀x e s',(x=.ret∨x=.nrm)→PsOk n r L dv' dp' s' R'→Keep n r s s'→(∃vs,resultsA s' e F.results=some vs∧oneOf vs=V)→K x e [] s') →
   (∀v e s',R'.c≠0→v=flt R'→Keep n r s s'→K (.pan v) e [] s')→AW A f none F.body e [] s K):DoesQ n r L dv dv' dp dp' f ar s R' V:=by
 obtain ⟨q,⟨s',h1,h2⟩,h3,_⟩:=task_tail (A:=A) (st:=s) (fun q=>∃s',Keep n r s s'∧((R'.c=0∧q=⟨.ret,⟨[V],[]⟩,s'⟩∧PsOk n r L dv' dp' s' R')∨(R'.c≠0∧q=⟨.pan (flt R'),⟨[],[]⟩,s'⟩))) hp hf hN
  (fun e he ha K hK=>h e he ha K (fun x e s' hx hq hkp ⟨vs,hv,ho⟩=>hK x e [] s' ⟨.ret,⟨[V],[]⟩,s'⟩ (by
    subst ho;rcases hx with rfl | rfl<;>simp [tailA,runDefs,hv,hk]) ⟨s',hkp,.inl ⟨hq.c0,rfl,hq⟩⟩)
   (fun v e s' hc hv hkp=>hK _ e [] s' ⟨.pan (flt R'),⟨[],[]⟩,s'⟩ (by subst hv;simp [tailA,runDefs]) ⟨s',hkp,.inr ⟨hc,rfl⟩⟩))
 refine ⟨s',h1,?_⟩
 rcases h2 with ⟨hc,rfl,hq⟩ | ⟨hc,rfl⟩
 ·exact .inl ⟨hc,h3,hq⟩
 ·exact .inr ⟨hc,h3⟩
section
variable {n r:Nat} {L:List Tk} {dv:AV} {dp:Nat} {s:St} {R:Rd}
theorem failP (q:PsOk n r L dv dp s R) {c:Int} (hc:c≠0):DoesP n r L dv dv dp dp 85 [.int .i64 c] s (failR L c R) (.tup []):=by
 obtain ⟨es,o,hr,hl,ho,hst⟩:=q.cell
 simp only [psCs] at hr
 have hg:=q.get
 have h0:=q.c0
 refine doesP_of (N:=14) prim85 fn85 rfl rfl ?_
 intro e he ha K hK hP
 have a0:=ha 0
 have a1:=ha 1
 clear ha
 simp at a0 a1
 simp [a85,he,a0,a1,hr,hg,Lx.Tok.av]
 exact hP _ _ _ (by simp [failR,h0,hc]) (by simp [flt,failR,h0,posF]) .refl
def isA (L:List Tk) (ws:List Sx) (R:Rd):Bool:=(decide ((tkF L R).kind=3) || decide ((tkF L R).kind=4)) && decide ((tkF L R).text∈ws)
theorem isP (q:PsOk n r L dv dp s R) {ws:List Sx} {ap:Ap} (hw:ws.length≤1000):runL A (.call 88 [.ptr r 0,.lst 1 (strs ws) ap]) s=some ⟨.ret,⟨[.bool (isA L ws R)],[]⟩,s⟩:=by
 obtain ⟨es,o,hr,hl,ho,hst⟩:=q.cell
 simp only [psCs] at hr
 have hg:=q.get
 have hst:=q.ok
 have cc:=contains_call (l:=ws) (ap:=ap) (n:=(tkF L R).text) (by omega) hst
 obtain ⟨t,ht⟩:∃t,t=tkF L R:=⟨_,rfl⟩
 unfold isA
 rw [←ht] at hg cc ⊢
 refine (task_of_aw_keep (N:=26) prim88 fn88 rfl rfl (st:=s) (st':=s) ?_).1
 intro e he ha K hK
 have a0:=ha 0
 have a1:=ha 1
 clear ha
 simp at a0 a1
 by_cases h3:t.kind=3
 ·simp [a88,he,a0,a1,hr,hg,Lx.Tok.av,h3,cc]
  exact hK _ _ (.inl rfl) ⟨_,rfl,by simp [he,h3]⟩
 ·have h3':¬(t.kind:Int)=3:=by omega
  by_cases h4:t.kind=4
  ·simp [a88,he,a0,a1,hr,hg,Lx.Tok.av,h4,cc]
   exact hK _ _ (.inl rfl) ⟨_,rfl,by simp [he,h4]⟩
  ·have h4':¬(t.kind:Int)=4:=by omega
   simp [a88,he,a0,a1,hr,hg,Lx.Tok.av,h3',h4']
   exact hK _ _ (.inl rfl) ⟨_,rfl,by simp [he,h3,h4]⟩
theorem isA_one {w:Sx} (h:R.c=0):isA L [w] R=isR L w R:=by simp [isA,isR,h]
theorem isA_kind {ws:List Sx} (h:isA L ws R=true):(tkF L R).kind≠5:=by
 simp [isA] at h;omega
theorem bound_no {d t:Nat}:Ai.bound none d t=some d:=rfl
theorem bound_1 {k:IntKind} {d n:Nat}:Ai.bound (some (.int k 1)) d (n+1)=some 1:=by
 simp only [Ai.bound];rw [if_pos (by omega)];rfl
theorem nextP (q:PsOk n r L dv dp s R) (hk:(tkF L R).kind≠5):DoesP n r L dv dv dp dp 92 [] s R.adv (tkF L R).av:=by
 obtain ⟨es,o,hr,hl,ho,hst⟩:=q.cell
 have hr0:=hr
 simp only [psCs] at hr
 have hg:=q.get
 have htl:=q.tl
 have hg2:=q.get2
 have tt:(toks L R.i).take (L.length-R.i-1+1)=toks L R.i:=by rw [←htl];exact List.take_length
 have hlt:=q.adv hk
 have td:=@toks_drop L R.i
 have low:∀m,AObj.lowB m (.cells none [.int .i64 (tkF L R).kind,.str (tkF L R).text,.int .i64 (tkF L R).v,.int .i64 (tkF L R).pos])=true:=fun _=>rfl
 have low0:∀m,AObj.lowB m (.cells none [.int .i64 0,.str [],.int .i64 0,.int .i64 0])=true:=fun _=>rfl
 have q0:=q.app (low0 _)
 have hr1:∀x:AObj,(s++[x])[r]?=some (.cells none [.lst 4 (toks L R.i) .no,dv,.lst 9 es o,.int .i64 dp]):=fun x=>by rw [List.getElem?_append_left q.len];exact hr
 have hvl:AV.lowB (s++[AObj.cells none [.int .i64 0,.str [],.int .i64 0,.int .i64 0]]).length dv=true:=by
  have:=q0.ok.get (hr1 _)
  simp only [AObj.lowB,AV.lowsB,Bool.and_eq_true] at this
  exact this.2.1
 have u:=q0.upd (hr1 _) (R':=R.adv) (dp':=dp) (zd:=dp) hvl rfl rfl hlt (by have:=q.xl;simp [Rd.adv];omega) q.dp q.c0
 have hs:∀x y:AObj,((s++[x]).set r y)[s.length]?=some x:=fun x y=>by rw [List.getElem?_set_ne (by have:=q.len;omega)];simp
 have hs2:∀(x y:AObj) (h:s.length<((s++[x]).set r y).length),((s++[x]).set r y)[s.length]=x:=fun x y h=>by have:=hs x y;rw [List.getElem?_eq_getElem h] at this;exact Option.some.inj this
 have hss:∀x y z:AObj,((s++[x]).set r y).set s.length z=(s++[z]).set r y:=fun x y z=>by
  apply List.ext_getElem?
  intro i
  have:=q.len
  rcases Nat.lt_trichotomy i s.length with h | h | h
  ·by_cases hi:i=r
   ·subst hi;rw [List.getElem?_set_ne (by omega),List.getElem?_set_self (by simp;omega),List.getElem?_set_self (by simp;omega)]
   ·rw [List.getElem?_set_ne (by omega),List.getElem?_set_ne (by omega),List.getElem?_set_ne (by omega),List.getElem?_append_left h,List.getElem?_append_left h]
  ·subst h;rw [List.getElem?_set_self (by simp),List.getElem?_set_ne (by omega)];simp
  ·rw [List.getElem?_eq_none (by simp;omega),List.getElem?_eq_none (by simp;omega)]
 have q1:=q.app (low _)
 have u1:=q1.upd (hr1 _) (R':=R.adv) (dp':=dp) (zd:=dp) (by simpa using hvl) rfl rfl hlt (by have:=q.xl;simp [Rd.adv];omega) q.dp q.c0
 have k1:=(Keep.app (n:=n) (r:=r) (s:=s) (by have:=q.le;have:=q.len;omega) (low (s.length+1))).trans u1.2
 refine doesP_of (N:=19) prim92 fn92 rfl rfl ?_
 intro e he ha K hK hP
 have a0:=ha 0
 clear ha
 simp at a0
 simp [a92,he,a0,hr,hr1,hg,hg2,htl,Lx.Tok.av,Ai.beq_refl,-List.drop_one,td,tt,bound_no,bound_1,hs,hs2,hss]
 refine hK _ _ _ (.inl rfl) u1.1 k1 ⟨[(tkF L R).av],?_,rfl⟩
 simp [a92,he,hs,hs2,Lx.Tok.av]
theorem tookP (q:PsOk n r L dv dp s R) (w:Sx):DoesP n r L dv dv dp dp 93 [.str w] s (tookR L w R) (.bool (isR L w R)):=by
 have c1:=isP q (ws:=[w]) (ap:=.tight) (by simp)
 rw [isA_one q.c0] at c1
 simp only [strs,List.map_cons,List.map_nil] at c1
 cases hb:isR L w R with
 | false =>
  rw [hb] at c1
  refine doesP_of (N:=11) prim93 fn93 rfl rfl ?_
  intro e he ha K hK hP
  have a0:=ha 0
  have a1:=ha 1
  clear ha
  simp at a0 a1
  simp [a93,he,a0,a1,c1]
  exact hK _ _ _ (.inl rfl) (by simpa [tookR,hb] using q) .refl ⟨_,rfl,by simp [he]⟩
 | true =>
  rw [hb] at c1
  obtain ⟨s1,k1,⟨c0,c2,q1⟩ | ⟨cn,_⟩⟩:=nextP q (isR_kind hb)
  ·refine doesP_of (N:=11) prim93 fn93 rfl rfl ?_
   intro e he ha K hK hP
   have a0:=ha 0
   have a1:=ha 1
   clear ha
   simp at a0 a1
   simp [a93,he,a0,a1,c1,c2]
   exact hK _ _ _ (.inl rfl) (by simpa [tookR,hb] using q1) k1 ⟨_,rfl,by simp [he]⟩
  ·exact absurd q.c0 cn
theorem nameP (q:PsOk n r L dv dp s R):∃s',Keep n r s s'∧(((nameR L R).2.c=0∧nameR L R=((tkF L R).text,R.adv)∧runL A (.call 95 [.ptr r 0]) s=some ⟨.ret,⟨[(tkF L R).av],[]⟩,s'⟩∧PsOk n r L dv dp s' (nameR L R).2) ∨
  ((nameR L R).2.c≠0∧runL A (.call 95 [.ptr r 0]) s=some ⟨.pan (flt (nameR L R).2),⟨[],[]⟩,s'⟩)):=by
 have key:DoesP n r L dv dv dp dp 95 [] s (nameR L R).2 (tkF L R).av:=by
  obtain ⟨es,o,hr,hl,ho,hst⟩:=q.cell
  simp only [psCs] at hr
  have hg:=q.get
  have h0:=q.c0
  have low0:∀m,AObj.lowB m (.cells none [.int .i64 0,.str [],.int .i64 0,.int .i64 0])=true:=fun _=>rfl
  have low:∀m,AObj.lowB m (.cells none [.int .i64 (tkF L R).kind,.str (tkF L R).text,.int .i64 (tkF L R).v,.int .i64 (tkF L R).pos])=true:=fun _=>rfl
  have q0:=q.app (low0 _)
  have k0:Keep n r s _:=.app (by have:=q.le;have:=q.len;omega) (low0 (s.length+1))
  have hr1:∀x:AObj,(s++[x])[r]?=some (.cells none [.lst 4 (toks L R.i) .no,dv,.lst 9 es o,.int .i64 dp]):=fun x=>by rw [List.getElem?_append_left q.len];exact hr
  by_cases h1:(tkF L R).kind=1
  ·obtain ⟨s1,k1,⟨c0,c2,q1⟩ | ⟨cn,_⟩⟩:=nextP q0 (by omega)
   ·have hs:=k1.k s.length (.cells none [.int .i64 0,.str [],.int .i64 0,.int .i64 0]) (by have:=q.len;omega) (by simp) (fun l e=>by cases e)
    have ht:s.length<s1.length:=(List.getElem?_eq_some_iff.1 hs).1
    have q2:=q1.other (i:=s.length) (by have:=q.len;omega) hs (low s1.length)
    have k2:=(k0.trans k1).mine (m:=0) (i:=s.length) (by omega) (by have:=q.le;have:=q.len;omega) (low s1.length)
    have e1:nameR L R=((tkF L R).text,R.adv):=by simp [nameR,h0,h1]
    refine doesP_of (N:=15) prim95 fn95 rfl rfl ?_
    intro e he ha K hK hP
    have a0:=ha 0
    clear ha
    simp at a0
    simp [a95,he,a0,hr1,hg,Lx.Tok.av,Ai.beq_refl,h1]
    simp only [Lx.Tok.av] at c2
    simp [c2,he,hs,h1]
    refine hK _ _ _ (.inl rfl) (by rw [e1];simpa [h1] using q2) (by simpa [h1] using k2) ⟨[(tkF L R).av],?_,rfl⟩
    simp [a95,he,ht,Lx.Tok.av,h1]
   ·exact absurd q.c0 cn
  ·have h1':¬((tkF L R).kind:Int)=1:=by omega
   obtain ⟨s2,k2,⟨c0,_,_⟩ | ⟨cn,c2⟩⟩:=failP q0 (c:=2) (by decide)
   ·simp [failR,h0] at c0
   ·refine doesP_of (N:=15) prim95 fn95 rfl rfl ?_
    intro e he ha K hK hP
    have a0:=ha 0
    clear ha
    simp at a0
    simp [a95,he,a0,hr1,hg,Lx.Tok.av,Ai.beq_refl,h1',c2]
    exact hP _ _ _ (by simp [nameR,h1,failR,h0]) (by simp [nameR,h1]) (k0.trans k2)
 obtain ⟨s1,k1,⟨c0,c2,q1⟩ | ⟨cn,c2⟩⟩:=key
 ·refine ⟨s1,k1,.inl ⟨c0,?_,c2,q1⟩⟩
  by_cases h1:(tkF L R).kind=1
  ·simp [nameR,q.c0,h1]
  ·simp [nameR,h1,failR,q.c0] at c0
 ·exact ⟨s1,k1,.inr ⟨cn,c2⟩⟩
end
end Go.Proofs.YtgkhmmlemgikjaaGreatDoor
namespace Go.Proofs.YtgkhmmlemgikjaaGreatDoor
open Go Ai
theorem fn86:A.fn 86=some a86:=by kernel_rfl
theorem prim86:A.prim 86=none:=by kernel_rfl
theorem fn91:A.fn 91=some a91:=by kernel_rfl
theorem prim91:A.prim 91=none:=by kernel_rfl
theorem fn125:A.fn 125=some a125:=by kernel_rfl
theorem prim125:A.prim 125=none:=by kernel_rfl
theorem fn203:A.fn 203=some a203:=by kernel_rfl
theorem prim203:A.prim 203=none:=by kernel_rfl
def Stk (R R':Rd):Prop:=R.c≠0→R'.c=R.c∧R'.b=R.b
theorem Stk.refl {R:Rd}:Stk R R:=fun _=>⟨rfl,rfl⟩
theorem Stk.trans {a b c:Rd} (h:Stk a b) (g:Stk b c):Stk a c:=fun x=>by
 obtain ⟨h1,h2⟩:=h x
 obtain ⟨g1,g2⟩:=g (by rw [h1];exact x)
 exact ⟨g1.trans h1,g2.trans h2⟩
theorem Stk.tell {R R':Rd} (h:Stk R R') (hc:R.c≠0):R'.c≠0∧flt R=flt R':=by
 obtain ⟨h1,h2⟩:=h hc
 exact ⟨by rw [h1];exact hc,by simp [flt,h1,h2]⟩
theorem Stk.adv {R:Rd}:Stk R R.adv:=fun _=>⟨rfl,rfl⟩
theorem Stk.fail {L:List Tk} {c:Int} {R:Rd}:Stk R (failR L c R):=fun h=>by simp [failR,h]
theorem Stk.want {L:List Tk} {w:Sx} {R:Rd}:Stk R (wantR L w R):=by unfold wantR;split;exact .adv;exact .fail
theorem Stk.name {L:List Tk} {R:Rd}:Stk R (nameR L R).2:=by unfold nameR;split;exact .adv;exact .fail
theorem Stk.kind {L:List Tk} {R:Rd}:Stk R (kindR L R).2:=by unfold kindR;split;exact .adv;exact .want
theorem Stk.put {x:Ex} {R:Rd}:Stk R (putR x R).2:=fun _=>⟨rfl,rfl⟩
theorem isR_stk {L:List Tk} {w:Sx} {R:Rd} (h:R.c≠0):isR L w R=false:=by simp [isR,h]
def wantsR (L:List Tk):List Sx→Rd→Rd
 | [],R=>R
 | w::ws,R=>wantsR L ws (wantR L w R)
theorem Stk.wants {L:List Tk}:∀(ws:List Sx) {R:Rd},Stk R (wantsR L ws R)
 | [],_=>.refl
 | _::ws,_=>Stk.want.trans (Stk.wants ws)
section
variable {n r:Nat} {L:List Tk} {dv:AV} {dp:Nat} {s:St} {R:Rd}
theorem putP (q:PsOk n r L dv dp s R) {x:Ex} {v:AV} (hx:R.xs.length+1≤R.i) (hv:∃ap,v=Ex.av { x with ap:=ap }) (hst:∀S,AV.still n S v=some x.av) (hlow:AV.lowB s.length v=true) :
  DoesP n r L dv dv dp dp 122 [v] s (putR x R).2 (.int .i64 (putR x R).1):=by
 obtain ⟨ap,rfl⟩:=hv
 obtain ⟨es,o,hr,hl,ho,hst0⟩:=q.cell
 have hr0:=hr
 simp only [psCs] at hr
 have hi:=q.lt
 have htl:=q.tk.len
 obtain ⟨o',s',p1,p2,p3,_⟩:=append_own (b:=n) (st:=s) (m:=9) (bytes:=104) (ty:=some 62) (es:=es) (ys:=[Ex.av { x with ap:=ap }]) (ap:=o) (ap0:=.tight) (by have:=q.le;have:=q.len;omega) (by rw [hl];exact ho.weak) (by simp) (by simp [Ai.great];omega) (by omega)
 have hk:Keep n r s s':=⟨p3,fun j p _ h1 h2=>append_keep ho p1 h1 h2⟩
 have hr':s'[r]?=some (.cells none (psCs L dv dp R es o)):=append_keep ho p1 hr0 nofun
 have hrl:=(List.getElem?_eq_some_iff.1 hr').1
 have hlow':AObj.lowB s'.length (.cells none [.lst 4 (toks L R.i) .no,dv,.lst 9 (es++[Ex.av { x with ap:=ap }]) o',.int .i64 dp])=true:=by
  have h1:=(p3.ok q.ok).get hr'
  have h2:AV.lowB s'.length (Ex.av { x with ap:=ap })=true:=AV.low_le p3.len _ hlow
  have h3:AV.lowsB s'.length es=true:=by
   have:=h1;simp only [psCs,AObj.lowB,AV.lowsB,AV.lowB,Bool.and_eq_true] at this;exact this.2.2.1.1
  have h4:=own_low p2.weak (lows_append h3 (b:=[Ex.av { x with ap:=ap }]) (by simpa [AV.lowsB] using h2))
  simp only [psCs,AObj.lowB,AV.lowsB,Bool.and_eq_true] at h1 ⊢
  exact ⟨h1.1,h1.2.1,h4,h1.2.2.2⟩
 have u:PsOk n r L dv dp (s'.set r (.cells none [.lst 4 (toks L R.i) .no,dv,.lst 9 (es++[Ex.av { x with ap:=ap }]) o',.int .i64 dp])) (putR x R).2:=by
  refine { q with cell:=⟨_,_,by simp [psCs,hrl,putR];exact ⟨rfl,rfl⟩,by simp [putR,hl],?_,?_⟩,ok:=(p3.ok q.ok).set' hlow',xl:=by simp [putR];omega }
  ·rw [show (putR x R).2.xs.length=(es++[Ex.av { x with ap:=ap }]).length by simp [putR,hl]]
   rcases p2 with p2 | ⟨h0,id,e1,e2,e3⟩
   ·exact .inl p2
   ·refine .inr ⟨h0,id,e1,e2,?_⟩
    rw [List.getElem?_set_ne]
    ·exact e3
    ·rintro rfl;rw [hr'] at e3;cases e3
  ·intro S
   have:=stills_app (hst0 S) (b:=[Ex.av { x with ap:=ap }]) (b':=[x.av]) (by simp only [AV.stills,hst S])
   simpa [putR] using this
 have w2:IntKind.i64.wrap (R.xs.length:Int)=R.xs.length:=wrap_i64 (by omega) (by omega)
 have hs:∀o:AObj,(s'.set r o)[r]?=some o:=fun o=>by simp [hrl]
 simp only [psCs] at hr'
 refine doesP_of (N:=24) prim122 fn122 rfl rfl ?_
 intro e he ha K hK hP
 have a0:=ha 0
 have a1:=ha 1
 clear ha
 simp at a0 a1
 simp only [Ex.av,Ex.cs] at a1 p1 u
 simp [a122,he,a0,a1,hr,p1,hr',hs,Ai.beq_refl,hl,w2]
 exact hK _ _ _ (.inl rfl) u (hk.trans (.set q.le hlow')) ⟨_,rfl,by simp [he,putR]⟩
theorem wantP (q:PsOk n r L dv dp s R) {ws:List Sx} (hw:ws.length≤100) {ap:Ap}:DoesP n r L dv dv dp dp 94 [.lst 1 (strs ws) ap] s (wantsR L ws R) (.tup []):=by
 refine doesP_of (N:=22) prim94 fn94 rfl rfl ?_
 intro e he ha K hK hP
 have a0:=ha 0
 have a1:=ha 1
 clear ha
 simp at a0 a1
 have hsl:(strs ws).length=ws.length:=by simp [strs]
 simp [a94,he,a0,a1,hsl]
 refine aw_loop (W:=w94_0) rfl (fun k e ds st'=>ds=[]∧k≤ws.length∧∃R1,wantsR L (ws.drop (ws.length-k)) R1=wantsR L ws R∧PsOk n r L dv dp st' R1∧Keep n r s st'∧AX.ev e (.t 8)=.int .i64 ((ws.length-k:Nat):Int)) ws.length ⟨rfl,Nat.le_refl _,R,by simp,q,.refl,by simp [he]⟩ ?_
 rintro k e1 ds st' hs ⟨rfl,hk,R1,hw1,q1,k1,h8⟩ K1 kn kx
 have g0:=hs.ev 0 rfl (v:=.ptr r 0) (by simp [a0])
 have g6:=hs.ev 6 rfl (v:=.lst 1 (strs ws) ap) (by simp [he])
 have g7:=hs.ev 7 rfl (v:=.int .i64 ws.length) (by simp [he])
 have hl:e1.length=22:=by rw [hs.1];simp [he]
 by_cases hk0:k=0
 ·subst hk0
  simp [a94_0,hl,h8,g7]
  refine kx _ _ _ _ nofun fun hs'=>?_
  simp at hw1
  simp [wantsR] at hw1
  subst hw1
  simp
  exact hK _ _ _ (.inr rfl) q1 k1 ⟨_,rfl,rfl⟩
 ·obtain ⟨i,hi⟩:∃i,i=ws.length-k:=⟨_,rfl⟩
  rw [←hi] at h8 hw1
  have hil:i<ws.length:=by omega
  have hlt:((i:Int)<(ws.length:Int)):=by omega
  have hget:(strs ws)[i]?=some (.str ws[i]):=by simp [strs,hil]
  have hd:ws.drop i=ws[i]::ws.drop (i+1):=List.drop_eq_getElem_cons hil
  rw [hd] at hw1
  simp only [wantsR] at hw1
  have c1:=isP q1 (ws:=[ws[i]]) (ap:=.tight) (by simp)
  rw [isA_one q1.c0] at c1
  simp only [strs,List.map_cons,List.map_nil] at c1
  have w1:IntKind.i64.wrap ((i:Int)+1)=(i:Int)+1:=wrap_i64 (by omega) (by omega)
  cases hb:isR L ws[i] R1 with
  | false =>
   rw [hb] at c1
   obtain ⟨s2,k2,⟨c0,_,_⟩ | ⟨cn,c2⟩⟩:=failP q1 (c:=2) (by decide)
   ·simp [failR,q1.c0] at c0
   ·simp [a94_0,hl,h8,g7,g6,g0,hlt,hget,c1,c2]
    refine kx _ _ _ _ nofun fun hs'=>?_
    have e1:wantR L ws[i] R1=failR L 2 R1:=by simp [wantR,hb]
    rw [e1] at hw1
    obtain ⟨t1,t2⟩:=(Stk.wants (L:=L) (ws.drop (i+1))).tell cn
    rw [hw1] at t1 t2
    exact hP _ _ _ t1 t2 (k1.trans k2)
  | true =>
   rw [hb] at c1
   obtain ⟨s2,k2,⟨c0,c2,q2⟩ | ⟨cn,c2⟩⟩:=nextP q1 (isR_kind hb)
   ·simp [a94_0,hl,h8,g7,g6,g0,hlt,hget,c1,c2,w1]
    have e1:wantR L ws[i] R1=R1.adv:=by simp [wantR,hb]
    rw [e1] at hw1
    refine kn (k-1) _ _ _ (by omega) ⟨rfl,by omega,R1.adv,?_,q2,k1.trans k2,?_⟩
    ·rw [show ws.length-(k-1)=i+1 by omega];exact hw1
    ·simp [hl];omega
   ·exact absurd q1.c0 cn
theorem want1P (q:PsOk n r L dv dp s R) (w:Sx):DoesP n r L dv dv dp dp 94 [.lst 1 [.str w] .tight] s (wantR L w R) (.tup []):=wantP q (ws:=[w]) (by simp)
end
end Go.Proofs.YtgkhmmlemgikjaaGreatDoor
namespace Go.Proofs.YtgkhmmlemgikjaaGreatDoor
open Go Ai
theorem fn123:A.fn 123=some a123:=by kernel_rfl
theorem prim123:A.prim 123=none:=by kernel_rfl
def w123_0:List Nat:=a123_0.writes
theorem fn169:A.fn 169=some a169:=by kernel_rfl
theorem prim169:A.prim 169=none:=by kernel_rfl
theorem fn160:A.fn 160=some a160:=by kernel_rfl
theorem prim160:A.prim 160=none:=by kernel_rfl
theorem fn143:A.fn 143=some a143:=by kernel_rfl
theorem prim143:A.prim 143=none:=by kernel_rfl
theorem fn124:A.fn 124=some a124:=by kernel_rfl
theorem prim124:A.prim 124=none:=by kernel_rfl
theorem fn90:A.fn 90=some a90:=by kernel_rfl
theorem prim90:A.prim 90=none:=by kernel_rfl
def StkE {α:Type} (E:RM α):Prop:=∀R,Stk R (E R).2
def GoodQ (n r:Nat) (L:List Tk) (dv:AV) (dp:Nat) (g:Nat) (ar:List AV) (E:RM Int):Prop:=∀s R,PsOk n r L dv dp s R→DoesQ n r L dv dv dp dp g ar s (E R).2 (.int .i64 (E R).1)
def kindTab:List (Sx×Int):=[([43],6),([45],7),([42],8),([47],9),([60],10),([60,61],11),([61,61],12),([97,110,100],13),([111,114],14),([45,62],17),([102,98,121],18)]
def lookSx (t:Sx):List (Sx×Int)→Int
 | []=>0
 | e::l=>if t=e.1 then e.2 else lookSx t l
def tabAv (l:List (Sx×Int)):List (AV×AV):=l.map fun e=>(.str e.1,.int .i64 e.2)
theorem find_tab (t:Sx):∀(l:List (Sx×Int)) (i:Nat),(∃j,findKey (.str t) (tabAv l) i=some (some (j,.int .i64 (lookSx t l))))∨(findKey (.str t) (tabAv l) i=some none∧lookSx t l=0)
 | [],i=>.inr ⟨rfl,rfl⟩
 | e::l,i=>by
  by_cases h:t=e.1
  ·exact .inl ⟨i,by simp [tabAv,findKey,sameKey,h,lookSx]⟩
  ·have hb:(t == e.1)=false:=by simpa using h
   rcases find_tab t l (i+1) with ⟨j,h1⟩ | ⟨h1,h2⟩
   ·exact .inl ⟨j,by simpa [tabAv,findKey,sameKey,hb,lookSx,h] using h1⟩
   ·exact .inr ⟨by simpa [tabAv,findKey,sameKey,hb] using h1,by simpa [lookSx,h] using h2⟩
section
variable {n r:Nat} {L:List Tk} {dv:AV} {dp:Nat} {s:St} {R:Rd}
theorem kinds_call:runL A (.call 125 []) s=some ⟨.ret,⟨[.map s.length],[]⟩,s++[.map (tabAv kindTab)]⟩:=by
 refine (task_of_aw_keep (N:=3) prim125 fn125 rfl rfl (args:=[]) (st:=s) (st':=s++[.map (tabAv kindTab)]) ?_).1
 intro e he ha K hK
 clear ha
 simp [a125,he,findKey,sameKey,keyKind,isc_int]
 exact hK _ _ (.inl rfl) ⟨_,rfl,by simp [he]⟩
def preTab2:List (Sx×Int):=[([45],4),([110,111,116],5),([112,114,101],16),([115,113,114,116],21)]
theorem prefixes_call:runL A (.call 203 []) s=some ⟨.ret,⟨[.map s.length],[]⟩,s++[.map (tabAv preTab2)]⟩:=by
 refine (task_of_aw_keep (N:=3) prim203 fn203 rfl rfl (args:=[]) (st:=s) (st':=s++[.map (tabAv preTab2)]) ?_).1
 intro e he ha K hK
 clear ha
 simp [a203,he,findKey,sameKey,keyKind,isc_int]
 exact hK _ _ (.inl rfl) ⟨_,rfl,by simp [he]⟩
theorem put1P (q:PsOk n r L dv dp s R) (k a b c:Int) (nn ss:Sx) (v p:Int) (hx:R.xs.length+1≤R.i):DoesP n r L dv dv dp dp 122 [.agg [.int .i64 k,.int .i64 a,.int .i64 b,.int .i64 c,.str nn,.str ss,.int .i64 v,.lst 1 [] .tight,.int .i64 p]] s
  (putR ⟨k,a,b,c,nn,ss,v,[],.tight,p⟩ R).2 (.int .i64 (putR ⟨k,a,b,c,nn,ss,v,[],.tight,p⟩ R).1) :=
 putP q (x:=⟨k,a,b,c,nn,ss,v,[],.tight,p⟩) hx ⟨.tight,rfl⟩ (fun S=>by simp [AV.still,AV.stills,Ex.av,Ex.cs,ints]) rfl
theorem tab_low {m:Nat} {l:List (Sx×Int)}:AObj.lowB m (.map (tabAv l))=true:=by
 simp only [AObj.lowB,tabAv,List.all_map,List.all_eq_true]
 intro x _;rfl
theorem deeperP (q:PsOk n r L dv dp s R) (hd:dp≤30) {g:Nat} {fi ca:List AV} {E:RM Int} (hE:dp<30→GoodQ n r L dv (dp+1) g (fi++ca) E) :
  DoesP n r L dv dv dp dp 86 [.func (.func g) fi ca] s (if dp=30 then failR L 3 R else (E R).2) (.int .i64 (if dp=30 then 0 else (E R).1)):=by
 obtain ⟨es,o,hr,hl,ho,hst⟩:=q.cell
 have hr0:=hr
 simp only [psCs] at hr
 by_cases h30:dp=30
 ·subst h30
  obtain ⟨s2,k2,⟨c0,_,_⟩ | ⟨cn,c2⟩⟩:=failP q (c:=3) (by decide)
  ·simp [failR,q.c0] at c0
  ·refine doesP_of (N:=30) prim86 fn86 rfl rfl ?_
   intro e he ha K hK hP
   have a0:=ha 0
   have a1:=ha 1
   clear ha
   simp at a0 a1
   simp [a86,he,a0,a1,hr,c2]
   exact hP _ _ _ (by simpa using cn) (by simp) k2
 ·have h30':¬(dp:Int)=30:=by omega
  have hvl:AV.lowB s.length dv=true:=by
   have:=q.ok.get hr
   simp only [AObj.lowB,AV.lowsB,Bool.and_eq_true] at this
   exact this.2.1
  have w1:IntKind.i64.wrap ((dp:Int)+1)=(dp:Int)+1:=wrap_i64 (by omega) (by omega)
  have u:=q.upd hr0 (R':=R) (dp':=dp+1) (zd:=(dp:Int)+1) hvl rfl (by simp) q.lt q.xl (by omega) q.c0
  obtain ⟨s2,k2,⟨c0,c2,q2⟩ | ⟨cn,c2⟩⟩:=hE (by omega) _ _ u.1
  ·obtain ⟨es2,o2,hr2,_⟩:=q2.cell
   have hr20:=hr2
   simp only [psCs] at hr2
   have hvl2:AV.lowB s2.length dv=true:=by
    have:=q2.ok.get hr2
    simp only [AObj.lowB,AV.lowsB,Bool.and_eq_true] at this
    exact this.2.1
   have w2:IntKind.i64.wrap (dp:Int)=(dp:Int):=wrap_i64 (by omega) (by omega)
   have u2:=q2.upd hr20 (R':=(E R).2) (dp':=dp) (zd:=(dp:Int)) hvl2 rfl rfl q2.lt q2.xl (by omega) q2.c0
   have hr3:s2[r]?=some (.cells none [.lst 4 (toks L (E R).2.i) .no,dv,.lst 9 es2 o2,.int .i64 ((dp:Int)+1)]):=by simpa using hr2
   refine doesP_of (N:=30) prim86 fn86 rfl rfl ?_
   intro e he ha K hK hP
   have a0:=ha 0
   have a1:=ha 1
   clear ha
   simp at a0 a1
   simp [a86,he,a0,a1,hr,h30',w1,Ai.beq_refl,c2,hr3,w2]
   exact hK _ _ _ (.inl rfl) (by simpa [h30] using u2.1) ((u.2.trans k2).trans u2.2) ⟨_,rfl,by simp [he,h30]⟩
  ·refine doesP_of (N:=30) prim86 fn86 rfl rfl ?_
   intro e he ha K hK hP
   have a0:=ha 0
   have a1:=ha 1
   clear ha
   simp at a0 a1
   simp [a86,he,a0,a1,hr,h30',w1,Ai.beq_refl,c2]
   exact hP _ _ _ (by simpa [h30] using cn) (by simp [h30]) (u.2.trans k2)
def bothR (E:RM Int) (a:Int) (t:Tk):RM Int:=fun R=>putR ⟨lookSx t.text kindTab,a,(E R).1,0,[],[],0,[],.tight,t.pos⟩ (E R).2
theorem bothP (q:PsOk n r L dv dp s R) {g:Nat} {fi ca:List AV} {E:RM Int} (hE:GoodQ n r L dv dp g (fi++ca) E) (a:Int) (t:Tk) (hx:(E R).2.c=0→(E R).2.xs.length+1≤(E R).2.i) :
  DoesP n r L dv dv dp dp 91 [.int .i64 a,t.av,.func (.func g) fi ca] s (bothR E a t R).2 (.int .i64 (bothR E a t R).1):=by
 obtain ⟨s1,k1,⟨c0,c1,q1⟩ | ⟨cn,c1⟩⟩:=hE _ _ q
 ·have ck:=kinds_call (s:=s1)
  have q2:=q1.app (o:=.map (tabAv kindTab)) tab_low
  have k2:Keep n r s1 _:=.app (by have:=q1.le;have:=q1.len;omega) (tab_low (m:=s1.length+1) (l:=kindTab))
  obtain ⟨s3,k3,⟨c0',c3,q3⟩ | ⟨cn,c3⟩⟩:=put1P q2 (lookSx t.text kindTab) a (E R).1 0 [] [] 0 t.pos (hx c0)
  ·refine doesP_of (N:=23) prim91 fn91 rfl rfl ?_
   intro e he ha K hK hP
   have a0:=ha 0
   have a1:=ha 1
   have a2:=ha 2
   have a3:=ha 3
   clear ha
   simp at a0 a1 a2 a3
   rcases find_tab t.text kindTab 0 with ⟨j,hf⟩ | ⟨hf,h0⟩
   ·simp [a91,he,a0,a1,a2,a3,c1,Lx.Tok.av,ck,Ai.beq_refl,keyKind,mapOf,hf,c3]
    exact hK _ _ _ (.inl rfl) q3 ((k1.trans k2).trans k3) ⟨_,rfl,by simp [he,bothR]⟩
   ·rw [h0] at c3
    simp [a91,he,a0,a1,a2,a3,c1,Lx.Tok.av,ck,Ai.beq_refl,keyKind,mapOf,hf,c3]
    exact hK _ _ _ (.inl rfl) q3 ((k1.trans k2).trans k3) ⟨_,rfl,by simp [he,bothR,h0]⟩
  ·exact absurd c0 cn
 ·refine doesP_of (N:=23) prim91 fn91 rfl rfl ?_
  intro e he ha K hK hP
  have a0:=ha 0
  have a1:=ha 1
  have a2:=ha 2
  have a3:=ha 3
  clear ha
  simp at a0 a1 a2 a3
  simp [a91,he,a0,a1,a2,a3,c1,Lx.Tok.av]
  obtain ⟨t1,t2⟩:=(Stk.put (x:=⟨lookSx t.text kindTab,a,(E R).1,0,[],[],0,[],.tight,t.pos⟩)).tell cn
  exact hP _ _ _ t1 t2 k1
structure SignsOk (L:List Tk) (ws:List Sx) (least:Int):Prop where
 is:∀R:Rd,R.c=0→(isA L ws R=true↔(levelR L R).1=least)
 kind:∀R:Rd,R.c=0→isA L ws R=true→lookSx (tkF L R).text kindTab=(levelR L R).2
 few:ws.length≤1000
theorem bothR_eq {ws:List Sx} {least:Int} (h:SignsOk L ws least) {E:RM Int} {a:Int} (hc:R.c=0) (hi:isA L ws R=true) :
  bothR E a (tkF L R) R.adv=putR ⟨(levelR L R).2,a,(E R.adv).1,0,[],[],0,[],.tight,posF L R⟩ (E R.adv).2:=by
 simp only [bothR,h.kind R hc hi,posF]
theorem chainP {g:Nat} {fi ca:List AV} {E:RM Int} (hS:GoesOn E) (hT:StkE E) (hE:GoodQ n r L dv dp g (fi++ca) E) {ws:List Sx} {ap:Ap} {least:Int} (hw:SignsOk L ws least) (h3:least≠3) (q:PsOk n r L dv dp s R) :
  DoesP n r L dv dv dp dp 123 [.func (.func g) fi ca,.lst 1 (strs ws) ap] s (chainF L E least L.length (E R).1 (E R).2).2 (.int .i64 (chainF L E least L.length (E R).1 (E R).2).1):=by
 have stk:∀(m:Nat) (a:Int) (R:Rd),Stk R (chainF L E least m a R).2:=by
  intro m
  induction m with
  | zero=>intro a R;exact .refl
  | succ m ih=>intro a R hc;simp [chainF,hc]
 obtain ⟨s1,k1,⟨c0,c1,q1⟩ | ⟨cn,c1⟩⟩:=hE _ _ q
 ·refine doesP_of (N:=20) prim123 fn123 rfl rfl ?_
  intro e he ha K hK hP
  have a0:=ha 0
  have a1:=ha 1
  have a2:=ha 2
  clear ha
  simp at a0 a1 a2
  simp [a123,he,a0,a1,a2,c1]
  generalize hEv:(List.set _ 7 _:Env)=Ev
  have heE:Ev.length=20:=by subst hEv;simp [he]
  have b0:AX.ev Ev (.t 0)=.ptr r 0:=by subst hEv;simp [he,a0]
  have b1:AX.ev Ev (.t 1)=.func (.func g) fi ca:=by subst hEv;simp [he,a1]
  have b2:AX.ev Ev (.t 2)=.lst 1 (strs ws) ap:=by subst hEv;simp [he,a2]
  have b7:AX.ev Ev (.t 7)=.int .i64 (E R).1:=by subst hEv;simp [he]
  clear hEv c1
  generalize hq:chainF L E least L.length (E R).1 (E R).2=Q at hK hP
  refine aw_loop (W:=w123_0) rfl (fun m e ds sx=>ds=[]∧∃a Rx,chainF L E least m a Rx=Q∧L.length≤m+Rx.i∧PsOk n r L dv dp sx Rx∧Keep n r s sx∧AX.ev e (.t 7)=.int .i64 a) L.length ⟨rfl,_,_,hq,by omega,q1,k1,b7⟩ ?_
  clear hq q1 k1 b7 c0
  rintro m e1 ds sx hs ⟨rfl,a,Rx,hq,hm,qx,kx',b7⟩ K1 kn kx
  have he1:e1.length=20:=by simp [hs.1,heE]
  have b0:=hs.ev 0 rfl b0
  have b1:=hs.ev 1 rfl b1
  have b2:=hs.ev 2 rfl b2
  have ci:=isP qx (ws:=ws) (ap:=ap) hw.few
  have hlt:=qx.lt
  cases hb:isA L ws Rx with
  | false =>
   rw [hb] at ci
   have hne:(levelR L Rx).1≠least:=fun e=>by rw [(hw.is Rx qx.c0).2 e] at hb;cases hb
   rw [chainF_end fun _=>hne] at hq
   subst hq
   simp [a123_0,b0,b2,he1,ci]
   refine kx _ _ _ _ nofun fun hs'=>?_
   simp [he1,b7]
   exact hK _ _ _ (.inl rfl) qx kx' ⟨_,rfl,by simp [he1]⟩
  | true =>
   rw [hb] at ci
   have hlv:=(hw.is Rx qx.c0).1 hb
   cases m with
   | zero=>omega
   | succ m =>
   rw [chainF,if_pos qx.c0,if_pos hlv,if_neg h3] at hq
   have hbq:=bothR_eq hw (E:=E) (a:=a) qx.c0 hb
   obtain ⟨s2,k2,⟨_,c2,q2⟩ | ⟨cn,_⟩⟩:=nextP qx (isA_kind hb)
   ·have Sb:=hS Rx.adv
    have hx:=qx.xl
    obtain ⟨s3,k3,⟨c0,c3,q3⟩ | ⟨cn,c3⟩⟩:=bothP q2 hE a (tkF L Rx) (fun _=>by have:=Sb.i;have:=Sb.x;simp [Rd.adv] at *;omega)
    ·simp [a123_0,b0,b1,b2,b7,he1,ci,c2,c3]
     rw [hbq] at q3
     refine kn m _ _ _ (by omega) ⟨rfl,_,_,hq,?_,q3,(kx'.trans k2).trans k3,by simp [he1,hbq]⟩
     have:=Sb.i
     simp [putR,Rd.adv] at *;omega
    ·simp [a123_0,b0,b1,b2,b7,he1,ci,c2,c3]
     refine kx _ _ _ _ nofun fun hs'=>?_
     rw [hbq] at cn
     obtain ⟨t1,t2⟩:=(stk m _ _).tell cn
     rw [hq] at t1 t2
     exact hP _ _ _ t1 (by rw [hbq];exact t2) ((kx'.trans k2).trans k3)
   ·exact absurd qx.c0 cn
 ·refine doesP_of (N:=20) prim123 fn123 rfl rfl ?_
  intro e he ha K hK hP
  have a0:=ha 0
  have a1:=ha 1
  have a2:=ha 2
  clear ha
  simp at a0 a1 a2
  simp [a123,he,a0,a1,a2,c1]
  obtain ⟨t1,t2⟩:=(stk L.length (E R).1 (E R).2).tell cn
  exact hP _ _ _ t1 t2 k1
end
end Go.Proofs.YtgkhmmlemgikjaaGreatDoor
namespace Go.Proofs.YtgkhmmlemgikjaaGreatDoor
open Go Ai
theorem fn184:A.fn 184=some a184:=by kernel_rfl
theorem prim184:A.prim 184=none:=by kernel_rfl
theorem fn201:A.fn 201=some a201:=by kernel_rfl
theorem prim201:A.prim 201=none:=by kernel_rfl
theorem fn49:A.fn 49=some a49:=by kernel_rfl
theorem prim49:A.prim 49=none:=by kernel_rfl
theorem fn87:A.fn 87=some a87:=by kernel_rfl
theorem prim87:A.prim 87=none:=by kernel_rfl
theorem fn89:A.fn 89=some a89:=by kernel_rfl
theorem prim89:A.prim 89=none:=by kernel_rfl
theorem stk_chain {L:List Tk} {B:RM Int} {least:Int} (m:Nat) (a:Int) (R:Rd):Stk R (chainF L B least m a R).2:=by
 intro hc;cases m<;>simp [chainF,hc]
theorem stk_bin {L:List Tk} {P:RM Int} (hP:StkE P):∀n,StkE (binF L P n)
 | 0=>hP
 | n+1=>fun R=>by rw [binF];exact (stk_bin hP n R).trans (stk_chain _ _ _)
theorem stk_ep {L:List Tk}:∀f,StkE (epF L f).1∧StkE (epF L f).2
 | 0=>⟨fun _=>.fail,fun _=>.fail⟩
 | f+1=>⟨fun R hc=>by simp [epF,hc],fun R hc=>by simp [epF,hc]⟩
section
variable {n r:Nat} {L:List Tk} {dv:AV} {dp:Nat} {s:St} {R:Rd}
theorem level_cases (hc:R.c=0):(levelR L R=(0,0)∧∀e∈lvTab,isR L e.1 R=false)∨∃e∈lvTab,levelR L R=e.2∧isR L e.1 R=true:=by
 unfold levelR
 cases h:lvTab.find? fun e=>isR L e.1 R with
 | none=>exact .inl ⟨rfl,fun e he=>by simpa using List.find?_eq_none.1 h e he⟩
 | some e=>exact .inr ⟨e,List.mem_of_find?_eq_some h,rfl,by simpa using List.find?_some h⟩
theorem isA_iff {ws:List Sx} (hc:R.c=0):isA L ws R=true↔∃w∈ws,isR L w R=true:=by
 simp only [isA,isR,hc,decide_true,Bool.true_and,Bool.and_eq_true,decide_eq_true_eq]
 constructor
 ·rintro ⟨h1,h2⟩;exact ⟨_,h2,h1,rfl⟩
 ·rintro ⟨w,h1,h2,h3⟩;exact ⟨h2,h3▸h1⟩
theorem isR_text {w:Sx} (h:isR L w R=true):(tkF L R).text=w:=by
 simp only [isR,Bool.and_eq_true,decide_eq_true_eq] at h;exact h.2.2
theorem signs_of {ws:List Sx} {least:Int} (h1:∀w∈ws,∃e∈lvTab,e.1=w) (h2:∀e∈lvTab,(e.1∈ws↔e.2.1=least)∧lookSx e.1 kindTab=e.2.2) (h0:least≠0) (hl:ws.length≤1000):SignsOk L ws least:=by
 refine ⟨fun R hc=>?_,fun R hc hi=>?_,hl⟩
 ·rw [isA_iff hc]
  rcases level_cases (L:=L) hc with ⟨e0,hn⟩ | ⟨e,he,e1,ei⟩
  ·rw [e0]
   refine ⟨fun ⟨w,hw,hi⟩=>?_,fun h=>absurd h.symm h0⟩
   obtain ⟨e,he,rfl⟩:=h1 w hw
   rw [hn e he] at hi;cases hi
  ·rw [e1,←(h2 e he).1]
   refine ⟨fun ⟨w,hw,hi⟩=>?_,fun h=>⟨_,h,ei⟩⟩
   rw [←isR_text ei,isR_text hi];exact hw
 ·obtain ⟨w,hw,hwi⟩:=(isA_iff hc).1 hi
  rcases level_cases (L:=L) hc with ⟨e0,hn⟩ | ⟨e,he,e1,ei⟩
  ·obtain ⟨e,he,rfl⟩:=h1 w hw
   rw [hn e he] at hwi;cases hwi
  ·rw [e1,isR_text ei];exact (h2 e he).2
theorem signs_mul:SignsOk L [[42],[47]] 5:=signs_of (by decide) (by decide) (by decide) (by decide)
theorem signs_add:SignsOk L [[43],[45]] 4:=signs_of (by decide) (by decide) (by decide) (by decide)
theorem signs_and:SignsOk L [[97,110,100]] 2:=signs_of (by decide) (by decide) (by decide) (by decide)
theorem signs_or:SignsOk L [[111,114]] 1:=signs_of (by decide) (by decide) (by decide) (by decide)
theorem signs_rel:SignsOk L [[60],[60,61],[61,61]] 3:=signs_of (by decide) (by decide) (by decide) (by decide)
theorem good169 {P:RM Int} (hS:GoesOn P) (hT:StkE P) (hB:GoodQ n r L dv dp 184 [.ptr r 0] (binF L P 0)):GoodQ n r L dv dp 169 [.ptr r 0] (binF L P 1):=by
 intro s R q
 have c:=chainP (fi:=[.ptr r 0]) (ca:=[]) (ap:=.tight) (Step.bin hS 0) (stk_bin hT 0) (by simpa using hB) signs_mul (by decide) q
 simp only [strs,List.map_cons,List.map_nil] at c
 obtain ⟨s1,k1,⟨c0,c1,q1⟩ | ⟨cn,c1⟩⟩:=c
 ·refine doesP_of (N:=8) prim169 fn169 rfl rfl ?_
  intro e he ha K hK hP
  have a0:=ha 0
  clear ha
  simp at a0
  simp [a169,he,a0,c1]
  exact hK _ _ _ (.inl rfl) q1 k1 ⟨_,rfl,by simp [he,binF]⟩
 ·refine doesP_of (N:=8) prim169 fn169 rfl rfl ?_
  intro e he ha K hK hP
  have a0:=ha 0
  clear ha
  simp at a0
  simp [a169,he,a0,c1]
  exact hP _ _ _ cn rfl k1
theorem good160 {P:RM Int} (hS:GoesOn P) (hT:StkE P) (hB:GoodQ n r L dv dp 169 [.ptr r 0] (binF L P 1)):GoodQ n r L dv dp 160 [.ptr r 0] (binF L P 2):=by
 intro s R q
 have c:=chainP (fi:=[.ptr r 0]) (ca:=[]) (ap:=.tight) (Step.bin hS 1) (stk_bin hT 1) (by simpa using hB) signs_add (by decide) q
 simp only [strs,List.map_cons,List.map_nil] at c
 obtain ⟨s1,k1,⟨c0,c1,q1⟩ | ⟨cn,c1⟩⟩:=c
 ·refine doesP_of (N:=8) prim160 fn160 rfl rfl ?_
  intro e he ha K hK hP
  have a0:=ha 0
  clear ha
  simp at a0
  simp [a160,he,a0,c1]
  exact hK _ _ _ (.inl rfl) q1 k1 ⟨_,rfl,by simp [he,binF]⟩
 ·refine doesP_of (N:=8) prim160 fn160 rfl rfl ?_
  intro e he ha K hK hP
  have a0:=ha 0
  clear ha
  simp at a0
  simp [a160,he,a0,c1]
  exact hP _ _ _ cn rfl k1
theorem good124 {P:RM Int} (hS:GoesOn P) (hT:StkE P) (hB:GoodQ n r L dv dp 143 [.ptr r 0] (binF L P 3)):GoodQ n r L dv dp 124 [.ptr r 0] (binF L P 4):=by
 intro s R q
 have c:=chainP (fi:=[.ptr r 0]) (ca:=[]) (ap:=.tight) (Step.bin hS 3) (stk_bin hT 3) (by simpa using hB) signs_and (by decide) q
 simp only [strs,List.map_cons,List.map_nil] at c
 obtain ⟨s1,k1,⟨c0,c1,q1⟩ | ⟨cn,c1⟩⟩:=c
 ·refine doesP_of (N:=8) prim124 fn124 rfl rfl ?_
  intro e he ha K hK hP
  have a0:=ha 0
  clear ha
  simp at a0
  simp [a124,he,a0,c1]
  exact hK _ _ _ (.inl rfl) q1 k1 ⟨_,rfl,by simp [he,binF]⟩
 ·refine doesP_of (N:=8) prim124 fn124 rfl rfl ?_
  intro e he ha K hK hP
  have a0:=ha 0
  clear ha
  simp at a0
  simp [a124,he,a0,c1]
  exact hP _ _ _ cn rfl k1
theorem good90 {P:RM Int} (hS:GoesOn P) (hT:StkE P) (hB:GoodQ n r L dv dp 124 [.ptr r 0] (binF L P 4)):GoodQ n r L dv dp 90 [.ptr r 0] (binF L P 5):=by
 intro s R q
 have c:=chainP (fi:=[.ptr r 0]) (ca:=[]) (ap:=.tight) (Step.bin hS 4) (stk_bin hT 4) (by simpa using hB) signs_or (by decide) q
 simp only [strs,List.map_cons,List.map_nil] at c
 obtain ⟨s1,k1,⟨c0,c1,q1⟩ | ⟨cn,c1⟩⟩:=c
 ·refine doesP_of (N:=8) prim90 fn90 rfl rfl ?_
  intro e he ha K hK hP
  have a0:=ha 0
  clear ha
  simp at a0
  simp [a90,he,a0,c1]
  exact hK _ _ _ (.inl rfl) q1 k1 ⟨_,rfl,by simp [he,binF]⟩
 ·refine doesP_of (N:=8) prim90 fn90 rfl rfl ?_
  intro e he ha K hK hP
  have a0:=ha 0
  clear ha
  simp at a0
  simp [a90,he,a0,c1]
  exact hP _ _ _ cn rfl k1
theorem good143 {P:RM Int} (hS:GoesOn P) (hT:StkE P) (hB:GoodQ n r L dv dp 160 [.ptr r 0] (binF L P 2)):GoodQ n r L dv dp 143 [.ptr r 0] (binF L P 3):=by
 intro s R q
 have hb:binF L P 3 R=chainF L (binF L P 2) 3 L.length (binF L P 2 R).1 (binF L P 2 R).2:=rfl
 rw [hb]
 obtain ⟨m,hm⟩:∃m,L.length=m+1:=⟨L.length-1,by have:=q.lt;omega⟩
 obtain ⟨s1,k1,⟨c0,c1,q1⟩ | ⟨cn,c1⟩⟩:=hB _ _ q
 ·have ci:=isP q1 (ws:=[[60],[60,61],[61,61]]) (ap:=.tight) (by decide)
  simp only [strs,List.map_cons,List.map_nil] at ci
  have hw:SignsOk L [[60],[60,61],[61,61]] 3:=signs_rel
  rw [hm,chainF,if_pos c0,if_pos rfl]
  cases hi:isA L [[60],[60,61],[61,61]] (binF L P 2 R).2 with
  | false =>
   rw [hi] at ci
   have hne:(levelR L (binF L P 2 R).2).1≠3:=fun e=>by rw [(hw.is _ c0).2 e] at hi;cases hi
   rw [if_neg hne]
   refine doesP_of (N:=17) prim143 fn143 rfl rfl ?_
   intro e he ha K hK hP
   have a0:=ha 0
   clear ha
   simp at a0
   simp [a143,he,a0,c1,ci]
   exact hK _ _ _ (.inl rfl) q1 k1 ⟨_,rfl,by simp [he]⟩
  | true =>
   rw [hi] at ci
   rw [if_pos ((hw.is _ c0).1 hi),←bothR_eq hw c0 hi]
   obtain ⟨s2,k2,⟨_,c2,q2⟩ | ⟨cn,_⟩⟩:=nextP q1 (isA_kind hi)
   ·have Sb:=Step.bin (L:=L) hS 2 (binF L P 2 R).2.adv
    have hx:=q1.xl
    obtain ⟨s3,k3,⟨c0',c3,q3⟩ | ⟨cn,c3⟩⟩:=bothP (fi:=[.ptr r 0]) (ca:=[]) q2 (by simpa using hB) (binF L P 2 R).1 (tkF L (binF L P 2 R).2) (fun _=>by have:=Sb.i;have:=Sb.x;simp [Rd.adv] at *;omega)
    ·refine doesP_of (N:=17) prim143 fn143 rfl rfl ?_
     intro e he ha K hK hP
     have a0:=ha 0
     clear ha
     simp at a0
     simp [a143,he,a0,c1,ci,c2,c3]
     exact hK _ _ _ (.inl rfl) q3 ((k1.trans k2).trans k3) ⟨_,rfl,by simp [he]⟩
    ·refine doesP_of (N:=17) prim143 fn143 rfl rfl ?_
     intro e he ha K hK hP
     have a0:=ha 0
     clear ha
     simp at a0
     simp [a143,he,a0,c1,ci,c2,c3]
     exact hP _ _ _ cn rfl ((k1.trans k2).trans k3)
   ·exact absurd c0 cn
 ·refine doesP_of (N:=17) prim143 fn143 rfl rfl ?_
  intro e he ha K hK hP
  have a0:=ha 0
  clear ha
  simp at a0
  simp [a143,he,a0,c1]
  obtain ⟨t1,t2⟩:=(stk_chain (L:=L) (B:=binF L P 2) (least:=3) L.length (binF L P 2 R).1 (binF L P 2 R).2).tell cn
  exact hP _ _ _ t1 t2 k1
theorem good_bin {P:RM Int} (hS:GoesOn P) (hT:StkE P) (hB:GoodQ n r L dv dp 184 [.ptr r 0] P):GoodQ n r L dv dp 90 [.ptr r 0] (binF L P 5) :=
 good90 hS hT (good124 hS hT (good143 hS hT (good160 hS hT (good169 hS hT hB))))
def choiceR (L:List Tk) (E:RM Int):RM Int:=fun R =>
 let a:=E R.adv
 let b:=E (wantR L [116,104,101,110] a.2)
 let c:=E (wantR L [101,108,115,101] b.2)
 putR ⟨15,a.1,b.1,c.1,[],[],0,[],.tight,posF L R⟩ c.2
theorem choiceP {E:RM Int} (hS:GoesOn E) (hT:StkE E) (hE:GoodQ n r L dv dp 49 [.ptr r 0] E) (q:PsOk n r L dv dp s R) (hk:(tkF L R).kind≠5):DoesP n r L dv dv dp dp 89 [] s (choiceR L E R).2 (.int .i64 (choiceR L E R).1):=by
 obtain ⟨s1,k1,⟨_,c1,q1⟩ | ⟨cn,_⟩⟩:=nextP q hk
 case inr=>exact absurd q.c0 cn
 simp only [Lx.Tok.av] at c1
 obtain ⟨Ra,hA⟩:∃x,E R.adv=x:=⟨_,rfl⟩
 obtain ⟨Rb,hB⟩:∃x,E (wantR L [116,104,101,110] Ra.2)=x:=⟨_,rfl⟩
 obtain ⟨Rc,hC⟩:∃x,E (wantR L [101,108,115,101] Rb.2)=x:=⟨_,rfl⟩
 have hQ:choiceR L E R=putR ⟨15,Ra.1,Rb.1,Rc.1,[],[],0,[],.tight,posF L R⟩ Rc.2:=by simp only [choiceR,hA,hB,hC]
 rw [hQ]
 have S1:Step R.adv Ra.2:=hA▸hS _
 have S2:Step Ra.2 Rb.2:=hB▸Step.want.trans (hS _)
 have S3:Step Rb.2 Rc.2:=hC▸Step.want.trans (hS _)
 have T0:Stk Rc.2 (putR ⟨15,Ra.1,Rb.1,Rc.1,[],[],0,[],.tight,posF L R⟩ Rc.2).2:=.put
 have T1:Stk (wantR L [101,108,115,101] Rb.2) _:=(hC▸hT _:Stk _ Rc.2).trans T0
 have T2:Stk Rb.2 _:=Stk.want.trans T1
 have T3:Stk (wantR L [116,104,101,110] Ra.2) _:=(hB▸hT _:Stk _ Rb.2).trans T2
 have T4:Stk Ra.2 _:=Stk.want.trans T3
 obtain ⟨s2,k2,⟨c0,c2,q2⟩ | ⟨cn,c2⟩⟩:=hE _ _ q1<;>rw [hA] at c2<;>(try rw [hA] at q2)
 case inr =>
  refine doesP_of (N:=29) prim89 fn89 rfl rfl ?_
  intro e he ha K hK hP
  have a0:=ha 0
  clear ha
  simp at a0
  simp [a89,he,a0,c1,c2]
  obtain ⟨t1,t2⟩:=T4.tell (hA▸cn)
  exact hP _ _ _ t1 t2 (k1.trans k2)
 obtain ⟨s3,k3,⟨c0,c3,q3⟩ | ⟨cn,c3⟩⟩:=want1P q2 [116,104,101,110]
 case inr =>
  refine doesP_of (N:=29) prim89 fn89 rfl rfl ?_
  intro e he ha K hK hP
  have a0:=ha 0
  clear ha
  simp at a0
  simp [a89,he,a0,c1,c2,c3]
  obtain ⟨t1,t2⟩:=T3.tell cn
  exact hP _ _ _ t1 t2 ((k1.trans k2).trans k3)
 obtain ⟨s4,k4,⟨c0,c4,q4⟩ | ⟨cn,c4⟩⟩:=hE _ _ q3<;>rw [hB] at c4<;>(try rw [hB] at q4)
 case inr =>
  refine doesP_of (N:=29) prim89 fn89 rfl rfl ?_
  intro e he ha K hK hP
  have a0:=ha 0
  clear ha
  simp at a0
  simp [a89,he,a0,c1,c2,c3,c4]
  obtain ⟨t1,t2⟩:=T2.tell (hB▸cn)
  exact hP _ _ _ t1 t2 (((k1.trans k2).trans k3).trans k4)
 obtain ⟨s5,k5,⟨c0,c5,q5⟩ | ⟨cn,c5⟩⟩:=want1P q4 [101,108,115,101]
 case inr =>
  refine doesP_of (N:=29) prim89 fn89 rfl rfl ?_
  intro e he ha K hK hP
  have a0:=ha 0
  clear ha
  simp at a0
  simp [a89,he,a0,c1,c2,c3,c4,c5]
  obtain ⟨t1,t2⟩:=T1.tell cn
  exact hP _ _ _ t1 t2 ((((k1.trans k2).trans k3).trans k4).trans k5)
 obtain ⟨s6,k6,⟨c0,c6,q6⟩ | ⟨cn,c6⟩⟩:=hE _ _ q5<;>rw [hC] at c6<;>(try rw [hC] at q6)
 case inr =>
  refine doesP_of (N:=29) prim89 fn89 rfl rfl ?_
  intro e he ha K hK hP
  have a0:=ha 0
  clear ha
  simp at a0
  simp [a89,he,a0,c1,c2,c3,c4,c5,c6]
  obtain ⟨t1,t2⟩:=T0.tell (hC▸cn)
  exact hP _ _ _ t1 t2 (((((k1.trans k2).trans k3).trans k4).trans k5).trans k6)
 have hx:=q.xl
 obtain ⟨s7,k7,⟨c0,c7,q7⟩ | ⟨cn,c7⟩⟩:=put1P q6 15 Ra.1 Rb.1 Rc.1 [] [] 0 (posF L R) (by
  have h:=(S1.trans S2).trans S3
  have:=h.x;have:=h.i;simp [Rd.adv] at *;omega)
 case inr=>exact absurd q6.c0 cn
 simp only [posF] at c7
 refine doesP_of (N:=29) prim89 fn89 rfl rfl ?_
 intro e he ha K hK hP
 have a0:=ha 0
 clear ha
 simp at a0
 simp [a89,he,a0,c1,c2,c3,c4,c5,c6,c7]
 exact hK _ _ _ (.inl rfl) q7 ((((((k1.trans k2).trans k3).trans k4).trans k5).trans k6).trans k7) ⟨_,rfl,by simp [he,posF]⟩
end
end Go.Proofs.YtgkhmmlemgikjaaGreatDoor
namespace Go.Proofs.YtgkhmmlemgikjaaGreatDoor
open Go Ai
section
variable {n r:Nat} {L:List Tk} {dv:AV} {dp:Nat} {s:St} {R:Rd}
theorem isR_or {R:Rd} (hc:R.c=0):isA L [[45,62],[102,98,121]] R=(isR L [45,62] R || isR L [102,98,121] R):=by
 have h:=isA_iff (L:=L) (ws:=[[45,62],[102,98,121]]) hc
 cases h1:isA L [[45,62],[102,98,121]] R with
 | true =>
  obtain ⟨w,hw,hi⟩:=h.1 h1
  simp only [List.mem_cons,List.not_mem_nil,or_false] at hw
  rcases hw with rfl | rfl<;>simp [hi]
 | false =>
  have h2:∀w∈[[45,62],[102,98,121]],isR L w R=false:=fun w hw=>by
   cases h3:isR L w R with
   | false=>rfl
   | true=>rw [h.2 ⟨w,hw,h3⟩] at h1;cases h1
  rw [h2 _ (by simp),h2 _ (by simp)];rfl
theorem goodExpr {E P:RM Int} (hSE:GoesOn E) (hTE:StkE E) (hSP:GoesOn P) (hTP:StkE P) (hE:GoodQ n r L dv dp 49 [.ptr r 0] E) (hB:GoodQ n r L dv dp 184 [.ptr r 0] P):GoodQ n r L dv dp 87 [.iptr (.ptr r 0)] (exprB L E P):=by
 intro s R q
 have ci:=isP q (ws:=[[105,102]]) (ap:=.tight) (by decide)
 rw [isA_one q.c0] at ci
 simp only [strs,List.map_cons,List.map_nil] at ci
 cases hi:isR L [105,102] R with
 | true =>
  rw [hi] at ci
  have hQ:exprB L E P R=choiceR L E R:=by simp only [exprB,hi,if_true,choiceR]
  rw [hQ]
  obtain ⟨s1,k1,⟨c0,c1,q1⟩ | ⟨cn,c1⟩⟩:=choiceP hSE hTE hE q (isR_kind hi)
  ·refine doesP_of (N:=21) prim87 fn87 rfl rfl ?_
   intro e he ha K hK hP
   have a0:=ha 0
   clear ha
   simp at a0
   simp [a87,he,a0,ci,c1]
   exact hK _ _ _ (.inl rfl) q1 k1 ⟨_,rfl,by simp [he]⟩
  ·refine doesP_of (N:=21) prim87 fn87 rfl rfl ?_
   intro e he ha K hK hP
   have a0:=ha 0
   clear ha
   simp at a0
   simp [a87,he,a0,ci,c1]
   exact hP _ _ _ cn rfl k1
 | false =>
  rw [hi] at ci
  obtain ⟨Ra,hA⟩:∃x,binF L P 5 R=x:=⟨_,rfl⟩
  have hQ:exprB L E P R=if (isR L [45,62] Ra.2 || isR L [102,98,121] Ra.2)=true then putR ⟨if isR L [102,98,121] Ra.2 then 18 else 17,Ra.1,(E Ra.2.adv).1,0,[],[],0,[],.tight,posF L Ra.2⟩ (E Ra.2.adv).2 else Ra:=by
   simp only [exprB,hi,hA,Bool.false_eq_true,if_false]
  have T:Stk Ra.2 (exprB L E P R).2:=by
   intro hc
   rw [hQ,isR_stk hc,isR_stk hc];simp
  obtain ⟨s1,k1,h1⟩:=good_bin hSP hTP hB _ _ q
  rw [hA] at h1
  rcases h1 with ⟨c0,c1,q1⟩ | ⟨cn,c1⟩
  case inr =>
   refine doesP_of (N:=21) prim87 fn87 rfl rfl ?_
   intro e he ha K hK hP
   have a0:=ha 0
   clear ha
   simp at a0
   simp [a87,he,a0,ci,c1]
   obtain ⟨t1,t2⟩:=T.tell cn
   exact hP _ _ _ t1 t2 k1
  have cj:=isP q1 (ws:=[[45,62],[102,98,121]]) (ap:=.tight) (by decide)
  rw [isR_or q1.c0] at cj
  simp only [strs,List.map_cons,List.map_nil] at cj
  rw [hQ]
  cases hj:(isR L [45,62] Ra.2 || isR L [102,98,121] Ra.2) with
  | false =>
   rw [hj] at cj
   refine doesP_of (N:=21) prim87 fn87 rfl rfl ?_
   intro e he ha K hK hP
   have a0:=ha 0
   clear ha
   simp at a0
   simp [a87,he,a0,ci,c1,cj]
   exact hK _ _ _ (.inl rfl) (by simpa using q1) k1 ⟨_,rfl,by simp [he]⟩
  | true =>
   rw [hj] at cj
   simp only [if_true]
   have hk:lookSx (tkF L Ra.2).text kindTab=if isR L [102,98,121] Ra.2 then 18 else 17:=by
    cases hf:isR L [102,98,121] Ra.2 with
    | true=>rw [isR_text hf];rfl
    | false=>rw [hf,Bool.or_false] at hj;rw [isR_text hj];rfl
   have hb:bothR E Ra.1 (tkF L Ra.2) Ra.2.adv=putR ⟨if isR L [102,98,121] Ra.2 then 18 else 17,Ra.1,(E Ra.2.adv).1,0,[],[],0,[],.tight,posF L Ra.2⟩ (E Ra.2.adv).2:=by simp only [bothR,hk,posF]
   rw [←hb]
   have hkk:(tkF L Ra.2).kind≠5:=by
    have hj':=hj
    simp only [Bool.or_eq_true] at hj'
    rcases hj' with h | h<;>exact isR_kind h
   obtain ⟨s2,k2,⟨_,c2,q2⟩ | ⟨cn,_⟩⟩:=nextP q1 hkk
   case inr=>exact absurd c0 cn
   have Sb:=hSE Ra.2.adv
   have hx:=q1.xl
   obtain ⟨s3,k3,⟨c0',c3,q3⟩ | ⟨cn,c3⟩⟩:=bothP (fi:=[.ptr r 0]) (ca:=[]) q2 (by simpa using hE) Ra.1 (tkF L Ra.2) (fun _=>by have:=Sb.i;have:=Sb.x;simp [Rd.adv] at *;omega)
   ·refine doesP_of (N:=21) prim87 fn87 rfl rfl ?_
    intro e he ha K hK hP
    have a0:=ha 0
    clear ha
    simp at a0
    simp [a87,he,a0,ci,c1,cj,c2,c3,Ai.beq_refl]
    exact hK _ _ _ (.inl rfl) q3 ((k1.trans k2).trans k3) ⟨_,rfl,by simp [he]⟩
   ·refine doesP_of (N:=21) prim87 fn87 rfl rfl ?_
    intro e he ha K hK hP
    have a0:=ha 0
    clear ha
    simp at a0
    simp [a87,he,a0,ci,c1,cj,c2,c3,Ai.beq_refl]
    exact hP _ _ _ cn rfl ((k1.trans k2).trans k3)
theorem pre_cases:(preR L R=0∧∀e∈preTab,isR L e.1 R=false)∨∃e∈preTab,preR L R=e.2∧isR L e.1 R=true:=by
 unfold preR
 cases h:preTab.find? fun e=>isR L e.1 R with
 | none=>exact .inl ⟨rfl,fun e he=>by simpa using List.find?_eq_none.1 h e he⟩
 | some e=>exact .inr ⟨e,List.mem_of_find?_eq_some h,rfl,by simpa using List.find?_some h⟩
theorem goodPref {E P:RM Int} (hSP:GoesOn P) (hTP:StkE P) (hA:GoodQ n r L dv dp 202 [.ptr r 0] (atomF L E)) (hB:GoodQ n r L dv dp 184 [.ptr r 0] P):GoodQ n r L dv dp 201 [.iptr (.ptr r 0)] (prefB L E P):=by
 intro s R q
 have ci:=isP q (ws:=[[45],[110,111,116],[112,114,101],[115,113,114,116]]) (ap:=.tight) (by decide)
 simp only [strs,List.map_cons,List.map_nil] at ci
 rcases pre_cases (L:=L) (R:=R) with ⟨p0,hn⟩ | ⟨e,hm,pe,hi⟩
 ·have hQ:prefB L E P R=atomF L E R:=by simp only [prefB,p0,if_true]
  have hfa:isA L [[45],[110,111,116],[112,114,101],[115,113,114,116]] R=false:=by
   cases h:isA L [[45],[110,111,116],[112,114,101],[115,113,114,116]] R with
   | false=>rfl
   | true =>
    obtain ⟨w,hw,hi⟩:=(isA_iff q.c0).1 h
    have:∀w∈([[45],[110,111,116],[112,114,101],[115,113,114,116]]:List Sx),∃e∈preTab,e.1=w:=by decide
    obtain ⟨e,he,rfl⟩:=this w hw
    rw [hn e he] at hi;cases hi
  rw [hfa] at ci
  rw [hQ]
  obtain ⟨s1,k1,⟨c0,c1,q1⟩ | ⟨cn,c1⟩⟩:=hA _ _ q
  ·refine doesP_of (N:=24) prim201 fn201 rfl rfl ?_
   intro e he ha K hK hP
   have a0:=ha 0
   clear ha
   simp at a0
   simp [a201,he,a0,ci,c1]
   exact hK _ _ _ (.inl rfl) q1 k1 ⟨_,rfl,by simp [he]⟩
  ·refine doesP_of (N:=24) prim201 fn201 rfl rfl ?_
   intro e he ha K hK hP
   have a0:=ha 0
   clear ha
   simp at a0
   simp [a201,he,a0,ci,c1]
   exact hP _ _ _ cn rfl k1
 ·have hpos:∀e∈preTab,e.2≠0∧e.1∈([[45],[110,111,116],[112,114,101],[115,113,114,116]]:List Sx)∧lookSx e.1 preTab2=e.2:=by decide
  obtain ⟨h0,hmem,hlk⟩:=hpos e hm
  have hta:isA L [[45],[110,111,116],[112,114,101],[115,113,114,116]] R=true:=(isA_iff q.c0).2 ⟨_,hmem,hi⟩
  rw [hta] at ci
  obtain ⟨Ra,hRa⟩:∃x,P R.adv=x:=⟨_,rfl⟩
  have hQ:prefB L E P R=putR ⟨preR L R,Ra.1,0,0,[],[],0,[],.tight,posF L R⟩ Ra.2:=by
   have:¬preR L R=0:=by rw [pe];exact h0
   simp only [prefB,this,if_false,hRa]
  rw [hQ]
  obtain ⟨s1,k1,⟨_,c1,q1⟩ | ⟨cn,_⟩⟩:=nextP q (isR_kind hi)
  case inr=>exact absurd q.c0 cn
  simp only [Lx.Tok.av] at c1
  obtain ⟨s2,k2,h2⟩:=hB _ _ q1
  rw [hRa] at h2
  rcases h2 with ⟨c0,c2,q2⟩ | ⟨cn,c2⟩
  case inr =>
   refine doesP_of (N:=24) prim201 fn201 rfl rfl ?_
   intro e he ha K hK hP
   have a0:=ha 0
   clear ha
   simp at a0
   simp [a201,he,a0,ci,c1,c2]
   obtain ⟨t1,t2⟩:=(Stk.put (x:=⟨preR L R,Ra.1,0,0,[],[],0,[],.tight,posF L R⟩)).tell cn
   exact hP _ _ _ t1 t2 (k1.trans k2)
  have ck:=prefixes_call (s:=s2)
  have q3:=q2.app (o:=.map (tabAv preTab2)) tab_low
  have k3:Keep n r s2 _:=.app (by have:=q2.le;have:=q2.len;omega) (tab_low (m:=s2.length+1) (l:=preTab2))
  have S1:Step R.adv Ra.2:=hRa▸hSP _
  have hx:=q.xl
  obtain ⟨s4,k4,⟨c0',c4,q4⟩ | ⟨cn,c4⟩⟩:=put1P q3 (preR L R) Ra.1 0 0 [] [] 0 (posF L R) (by have:=S1.x;have:=S1.i;simp [Rd.adv] at *;omega)
  case inr=>exact absurd c0 cn
  simp only [posF] at c4
  have hlk2:lookSx (tkF L R).text preTab2=preR L R:=by rw [isR_text hi,hlk,pe]
  rcases find_tab (tkF L R).text preTab2 0 with ⟨j,hf⟩ | ⟨hf,h0'⟩
  ·rw [hlk2] at hf
   refine doesP_of (N:=24) prim201 fn201 rfl rfl ?_
   intro e he ha K hK hP
   have a0:=ha 0
   clear ha
   simp at a0
   simp [a201,he,a0,ci,c1,c2,ck,Ai.beq_refl,keyKind,mapOf,hf,c4]
   exact hK _ _ _ (.inl rfl) q4 (((k1.trans k2).trans k3).trans k4) ⟨_,rfl,by simp [he,posF]⟩
  ·rw [hlk2,pe] at h0';exact absurd h0' h0
end
end Go.Proofs.YtgkhmmlemgikjaaGreatDoor
namespace Go.Proofs.YtgkhmmlemgikjaaGreatDoor
open Go Ai
theorem fn126:A.fn 126=some a126:=by kernel_rfl
theorem prim126:A.prim 126=none:=by kernel_rfl
def w126_0:List Nat:=a126_0.writes
theorem fn229:A.fn 229=some a229:=by kernel_rfl
theorem prim229:A.prim 229=none:=by kernel_rfl
theorem fn217:A.fn 217=some a217:=by kernel_rfl
theorem prim217:A.prim 217=none:=by kernel_rfl
theorem fn202:A.fn 202=some a202:=by kernel_rfl
theorem prim202:A.prim 202=none:=by kernel_rfl
structure CelP (b r cl m:Nat) (ty:Option TypeId) (s:St) (es:List AV):Prop where
 own:∃ap,s[cl]?=some (.cells none [.lst m es ap])∧Own s b m ty ap es.length
 le:b≤cl
 ne:cl≠r
theorem CelP.keep {n b r cl m:Nat} {ty:Option TypeId} {s s':St} {es:List AV} (h:CelP b r cl m ty s es) (k:Keep n r s s') {cs:List AV} (hr:s[r]?=some (.cells none cs)) (hm:m≠9∨ty≠some 62):CelP b r cl m ty s' es:=by
 obtain ⟨ap,h1,h2⟩:=h.own
 exact { h with own:=⟨ap,k.k cl _ h.ne h1 nofun,k.own h2 hm hr⟩ }
def DoesH (n r:Nat) (L:List Tk) (dv dv':AV) (dp dp':Nat) (f:Nat) (ar:List AV) (s0 s:St) (R':Rd) (V:AV) (H:St→Prop):Prop :=
 ∃s',Keep n r s0 s'∧((R'.c=0∧runL A (.call f ar) s=some ⟨.ret,⟨[V],[]⟩,s'⟩∧PsOk n r L dv' dp' s' R'∧H s') ∨
  (R'.c≠0∧runL A (.call f ar) s=some ⟨.pan (flt R'),⟨[],[]⟩,s'⟩))
theorem doesH_of {n r:Nat} {L:List Tk} {dv dv':AV} {dp dp' f:Nat} {ar:List AV} {s0 s:St} {R':Rd} {V:AV} {H:St→Prop} {F:AFunc} {N:Nat} (hp:A.prim f=none) (hf:A.fn f=some F) (hk:F.keep=true) (hN:ar.length+(F.ntmps-ar.length)=N)
  (h:∀e:Env,e.length=N→(∀i,AX.ev e (.t i)=ar.getD i .undef)→∀K:PostQ,
   (∀x e s',(x=.ret∨x=.nrm)→PsOk n r L dv' dp' s' R'→H s'→Keep n r s0 s'→(∃vs,resultsA s' e F.results=some vs∧oneOf vs=V)→K x e [] s') →
   (∀v e s',R'.c≠0→v=flt R'→Keep n r s0 s'→K (.pan v) e [] s')→AW A f none F.body e [] s K):DoesH n r L dv dv' dp dp' f ar s0 s R' V H:=by
 obtain ⟨q,⟨s',h1,h2⟩,h3,_⟩:=task_tail (A:=A) (st:=s) (fun q=>∃s',Keep n r s0 s'∧((R'.c=0∧q=⟨.ret,⟨[V],[]⟩,s'⟩∧PsOk n r L dv' dp' s' R'∧H s')∨(R'.c≠0∧q=⟨.pan (flt R'),⟨[],[]⟩,s'⟩))) hp hf hN
  (fun e he ha K hK=>h e he ha K (fun x e s' hx hq hh hkp ⟨vs,hv,ho⟩=>hK x e [] s' ⟨.ret,⟨[V],[]⟩,s'⟩ (by
    subst ho;rcases hx with rfl | rfl<;>simp [tailA,runDefs,hv,hk]) ⟨s',hkp,.inl ⟨hq.c0,rfl,hq,hh⟩⟩)
   (fun v e s' hc hv hkp=>hK _ e [] s' ⟨.pan (flt R'),⟨[],[]⟩,s'⟩ (by subst hv;simp [tailA,runDefs]) ⟨s',hkp,.inr ⟨hc,rfl⟩⟩))
 refine ⟨s',h1,?_⟩
 rcases h2 with ⟨hc,rfl,hq,hh⟩ | ⟨hc,rfl⟩
 ·exact .inl ⟨hc,h3,hq,hh⟩
 ·exact .inr ⟨hc,h3⟩
def lstF {α:Type} (L:List Tk) (E:RM α):Nat→List α→RM (List α)
 | 0,l,R=>(l,R)
 | m+1,l,R=>if isR L [44] R then lstF L E m (l++[(E R.adv).1]) (E R.adv).2 else (l,R)
def listF {α:Type} (L:List Tk) (E:RM α):RM (List α):=fun R=>if isR L [41] R then ([],R.adv) else
 let q:=lstF L E L.length [(E R).1] (E R).2
 (q.1,wantR L [41] q.2)
section
variable {n r:Nat} {L:List Tk} {dv:AV} {dp:Nat} {s:St} {R:Rd}
theorem stk_lst {α:Type} {E:RM α}:∀(m:Nat) (l:List α) (R:Rd),Stk R (lstF L E m l R).2
 | 0,_,_=>.refl
 | m+1,l,R=>fun hc=>by simp [lstF,isR_stk hc]
theorem lstF_end {α:Type} {E:RM α} {l:List α} (h:isR L [44] R=false):∀m,lstF L E m l R=(l,R)
 | 0=>rfl
 | m+1=>by simp [lstF,h]
theorem listP {α:Type} {f:α→AV} {E:RM α} (hS:GoesOn E) (hT:StkE E) {g:Nat} {fi ca:List AV} {cl m:Nat} {ty:Option TypeId} (hm:m≠9∨ty≠some 62) {s0:St}
  (hone:∀s R l,PsOk n r L dv dp s R→Keep n r s0 s→CelP s0.length r cl m ty s (l.map f)→l.length≤20001→DoesH n r L dv dv dp dp g (fi++ca) s0 s (E R).2 (.tup []) (fun s'=>CelP s0.length r cl m ty s' ((l++[(E R).1]).map f)))
  (q:PsOk n r L dv dp s R) (k0:Keep n r s0 s) (c0:CelP s0.length r cl m ty s []) :
  DoesH n r L dv dv dp dp 126 [.ptr r 0,.str [44],.str [41],.func (.func g) fi ca] s0 s (listF L E R).2 (.tup []) (fun s'=>CelP s0.length r cl m ty s' ((listF L E R).1.map f)):=by
 have startH:∀{R':Rd} {H:St→Prop},(∀e:Env,e.length=22→(∀i,AX.ev e (.t i)=[AV.ptr r 0,.str [44],.str [41],.func (.func g) fi ca].getD i .undef)→∀K:PostQ,
   (∀x e s',(x=.ret∨x=.nrm)→PsOk n r L dv dp s' R'→H s'→Keep n r s0 s'→(∃vs,resultsA s' e a126.results=some vs∧oneOf vs=.tup [])→K x e [] s') →
   (∀v e s',R'.c≠0→v=flt R'→Keep n r s0 s'→K (.pan v) e [] s')→AW A 126 none a126.body e [] s K)→DoesH n r L dv dv dp dp 126 [.ptr r 0,.str [44],.str [41],.func (.func g) fi ca] s0 s R' (.tup []) H:=fun h=>doesH_of prim126 fn126 rfl rfl h
 obtain ⟨cs,hr⟩:∃cs,s[r]?=some (.cells none cs):=by obtain ⟨es,o,h,_⟩:=q.cell;exact ⟨_,h⟩
 obtain ⟨s1,k1,⟨z1,c1,q1⟩ | ⟨cn,_⟩⟩:=tookP q [41]
 case inr=>unfold tookR at cn;split at cn<;>exact absurd q.c0 cn
 cases hi:isR L [41] R with
 | true =>
  rw [hi] at c1
  have hQ:listF L E R=([],R.adv):=by simp only [listF,hi,if_true]
  rw [hQ]
  refine startH ?_
  intro e he ha K hK hP
  have a0:=ha 0
  have a2:=ha 2
  clear ha
  simp at a0 a2
  simp [a126,he,a0,a2,c1]
  exact hK _ _ _ (.inl rfl) (by simpa [tookR,hi] using q1) (c0.keep k1 hr hm) (k0.trans k1) ⟨_,rfl,rfl⟩
 | false =>
  rw [hi] at c1
  have q1':PsOk n r L dv dp s1 R:=by simpa [tookR,hi] using q1
  obtain ⟨Ra,hRa⟩:∃x,E R=x:=⟨_,rfl⟩
  obtain ⟨Q,hQ0⟩:∃x,lstF L E L.length [Ra.1] Ra.2=x:=⟨_,rfl⟩
  have hQ:listF L E R=(Q.1,wantR L [41] Q.2):=by simp only [listF,hi,Bool.false_eq_true,if_false,hRa,hQ0]
  rw [hQ]
  obtain ⟨s2,k2,h2⟩:=hone s1 R [] q1' (k0.trans k1) (c0.keep k1 hr hm) (by simp)
  rw [hRa] at h2
  rcases h2 with ⟨z2,c2,q2,l2⟩ | ⟨cn,c2⟩
  case inr =>
   refine startH ?_
   intro e he ha K hK hP
   have a0:=ha 0
   have a2:=ha 2
   have a3:=ha 3
   clear ha
   simp at a0 a2 a3
   simp [a126,he,a0,a2,a3,c1,c2]
   obtain ⟨t1,t2⟩:=((hQ0▸stk_lst _ _ _:Stk Ra.2 Q.2).trans Stk.want).tell cn
   exact hP _ _ _ t1 t2 k2
  refine startH ?_
  intro e he ha K hK hP
  have a0:=ha 0
  have a1:=ha 1
  have a2:=ha 2
  have a3:=ha 3
  clear ha
  simp at a0 a1 a2 a3
  simp [a126,he,a0,a2,a3,c1,c2]
  generalize hEv:(List.set _ 12 _:Env)=Ev
  have heE:Ev.length=22:=by subst hEv;simp [he]
  have b0:AX.ev Ev (.t 0)=.ptr r 0:=by subst hEv;simp [he,a0]
  have b1:AX.ev Ev (.t 1)=.str [44]:=by subst hEv;simp [he,a1]
  have b2:AX.ev Ev (.t 2)=.str [41]:=by subst hEv;simp [he,a2]
  have b3:AX.ev Ev (.t 3)=.func (.func g) fi ca:=by subst hEv;simp [he,a3]
  clear hEv c1 c2
  have hlen:1≤Ra.2.i+1:=by omega
  refine aw_loop (W:=w126_0) rfl (fun k e ds sx=>ds=[]∧∃(l:List α) (Rx:Rd),lstF L E k l Rx=Q∧L.length≤k+Rx.i∧l.length≤Rx.i+1∧PsOk n r L dv dp sx Rx∧CelP s0.length r cl m ty sx (l.map f)∧Keep n r s0 sx) L.length ⟨rfl,_,_,hQ0,by omega,by simp,q2,l2,k2⟩ ?_
  clear hQ0 q2 l2 k2 z2
  rintro k e1 ds sx hs ⟨rfl,l,Rx,hq,hkm,hll,qx,lx,kx'⟩ K1 kn kx
  have he1:e1.length=22:=by simp [hs.1,heE]
  have b0:=hs.ev 0 rfl b0
  have b1:=hs.ev 1 rfl b1
  have b2:=hs.ev 2 rfl b2
  have b3:=hs.ev 3 rfl b3
  have hlt:=qx.lt
  have htl:=qx.tk.len
  obtain ⟨cs,hr⟩:∃cs,sx[r]?=some (.cells none cs):=by obtain ⟨es,o,h,_⟩:=qx.cell;exact ⟨_,h⟩
  obtain ⟨s3,k3,⟨z3,c3,q3⟩ | ⟨cn,_⟩⟩:=tookP qx [44]
  case inr=>unfold tookR at cn;split at cn<;>exact absurd qx.c0 cn
  cases hj:isR L [44] Rx with
  | false =>
   rw [hj] at c3
   rw [lstF_end hj] at hq
   subst hq
   have q3':PsOk n r L dv dp s3 Rx:=by simpa [tookR,hj] using q3
   have l3:=lx.keep k3 hr hm
   simp [a126_0,b0,b1,he1,c3]
   refine kx _ _ _ _ nofun fun hs'=>?_
   obtain ⟨cs3,hr3⟩:∃cs,s3[r]?=some (.cells none cs):=by obtain ⟨es,o,h,_⟩:=q3'.cell;exact ⟨_,h⟩
   obtain ⟨s4,k4,⟨z4,c4,q4⟩ | ⟨cn,c4⟩⟩:=want1P q3' [41]
   ·simp [he1,b0,b2,c4]
    exact hK _ _ _ (.inr rfl) q4 (l3.keep k4 hr3 hm) ((kx'.trans k3).trans k4) ⟨_,rfl,rfl⟩
   ·simp [he1,b0,b2,c4]
    exact hP _ _ _ cn rfl ((kx'.trans k3).trans k4)
  | true =>
   rw [hj] at c3
   have q3':PsOk n r L dv dp s3 Rx.adv:=by simpa [tookR,hj] using q3
   cases k with
   | zero=>omega
   | succ k =>
   rw [lstF,hj] at hq
   simp only [if_true] at hq
   have Sb:=hS Rx.adv
   obtain ⟨s4,k4,⟨z4,c4,q4,l4⟩ | ⟨cn,c4⟩⟩:=hone s3 Rx.adv l q3' (kx'.trans k3) (lx.keep k3 hr hm) (by omega)
   ·simp [a126_0,b0,b1,b3,he1,c3,c4]
    refine kn k _ _ _ (by omega) ⟨rfl,_,_,hq,?_,?_,q4,l4,k4⟩
    ·have:=Sb.i;simp [Rd.adv] at *;omega
    ·have:=Sb.i;simp [Rd.adv] at *;omega
   ·simp [a126_0,b0,b1,b3,he1,c3,c4]
    refine kx _ _ _ _ nofun fun hs'=>?_
    obtain ⟨t1,t2⟩:=((hq▸stk_lst _ _ _:Stk (E Rx.adv).2 Q.2).trans Stk.want).tell cn
    exact hP _ _ _ t1 t2 k4
end
end Go.Proofs.YtgkhmmlemgikjaaGreatDoor
namespace Go.Proofs.YtgkhmmlemgikjaaGreatDoor
open Go Ai
section
variable {n r:Nat} {L:List Tk} {dv:AV} {dp:Nat} {s:St} {R:Rd}
theorem PsOk.push {s1:St} {m bytes:Nat} {ty:Option TypeId} {ap ap0:Ap} {l:List AV} {x:AV} (q:PsOk n r L dv dp s1 R) (k:Keep n r s s1) (ho:Own s1 s.length m ty ap l.length) (hm:m≠9∨ty≠some 62) (hn:n≤s.length) (hl:l.length≤4000000000) (hby:bytes≤256) :
  ∃ap' s2,appendA m bytes ty s1 (.lst m l ap) (.lst m [x] ap0)=some (.val (.lst m (l++[x]) ap') s2)∧Own s2 s.length m ty ap' (l++[x]).length∧PsOk n r L dv dp s2 R∧Keep n r s s2∧s1.length≤s2.length∧∀(j:Nat) (o:AObj),s1[j]?=some o→(∀l,o≠AObj.tok m l ty)→s2[j]?=some o:=by
 obtain ⟨ap',s2,p1,p2,p3,_⟩:=append_own (b:=s.length) (st:=s1) (m:=m) (bytes:=bytes) (ty:=ty) (es:=l) (ys:=[x]) (ap:=ap) (ap0:=ap0) k.g.len ho.weak (by simp) (by simp [Ai.great];omega) hby
 obtain ⟨es,o,h1,h2,h3,h4⟩:=q.cell
 have hk:∀(j:Nat) (o:AObj),s1[j]?=some o→(∀l,o≠AObj.tok m l ty)→s2[j]?=some o:=fun j o=>append_keep ho p1
 refine ⟨ap',s2,p1,p2,{ q with cell:=⟨es,o,hk _ _ h1 nofun,h2,?_,h4⟩,ok:=p3.ok q.ok },⟨?_,?_⟩,p3.len,hk⟩
 ·rcases h3 with h3 | ⟨h0,id,e1,e2,e3⟩
  ·exact .inl h3
  ·refine .inr ⟨h0,id,e1,e2,hk _ _ e3 ?_⟩
   intro l e;cases e;rcases hm with h | h<;>exact h rfl
 ·refine ⟨?_,by have:=k.g.len;have:=p3.len;omega,fun h=>p3.ok (k.g.ok h)⟩
  rw [←k.g.take]
  have e:=congrArg (List.take n) p3.take
  rwa [List.take_take,List.take_take,Nat.min_eq_left hn] at e
 ·intro j o h1 h2 h3
  have:=k.k j o h1 h2 h3
  have hj:=(List.getElem?_eq_some_iff.1 h2).1
  have e:=p3.take
  have hj':(s2.take s.length)[j]?=(s1.take s.length)[j]?:=by rw [e]
  rw [List.getElem?_take_of_lt hj,List.getElem?_take_of_lt hj] at hj'
  rw [hj'];exact this
theorem PsOk.grow {s0 s1:St} {m bytes cl:Nat} {ty:Option TypeId} {ap0:Ap} {l:List AV} {x:AV} (q:PsOk n r L dv dp s1 R) (k:Keep n r s0 s1) (c:CelP s0.length r cl m ty s1 l) (hm:m≠9∨ty≠some 62) (hn:n≤s0.length) (hl:l.length≤4000000000) (hby:bytes≤256) (hlow:∀k,s0.length≤k→AV.lowsB k l=true) (hx:∀k,s0.length≤k→AV.lowB k x=true) :
  ∃ap,s1[cl]?=some (.cells none [.lst m l ap])∧∃ap' s2,appendA m bytes ty s1 (.lst m l ap) (.lst m [x] ap0)=some (.val (.lst m (l++[x]) ap') s2)∧s2[cl]?=some (.cells none [.lst m l ap])∧PsOk n r L dv dp (s2.set cl (.cells none [.lst m (l++[x]) ap'])) R∧Keep n r s0 (s2.set cl (.cells none [.lst m (l++[x]) ap']))∧CelP s0.length r cl m ty (s2.set cl (.cells none [.lst m (l++[x]) ap'])) (l++[x]):=by
 obtain ⟨ap,h1,h2⟩:=c.own
 obtain ⟨ap',s2,p1,p2,p3,p4,p5,p6⟩:=q.push (x:=x) (bytes:=bytes) (ap0:=ap0) k h2 hm hn hl hby
 have hcl2:=p6 _ _ h1 nofun
 have hlt:cl<s2.length:=(List.getElem?_eq_some_iff.1 hcl2).1
 have hlo:AObj.lowB s2.length (.cells none [.lst m (l++[x]) ap'])=true:=by
  have h4:=own_low p2.weak (lows_append (hlow s2.length p4.g.len) (b:=[x]) (by simpa [AV.lowsB] using hx s2.length p4.g.len))
  simp only [AObj.lowB,AV.lowsB,Bool.and_true];exact h4
 refine ⟨ap,h1,ap',s2,p1,hcl2,p3.other c.ne hcl2 hlo,p4.mine (m:=0) c.le hn hlo,⟨⟨ap',by simp [hlt],?_⟩,c.le,c.ne⟩⟩
 rcases p2 with p2 | ⟨h0,id,e1,e2,e3⟩
 ·exact .inl p2
 ·refine .inr ⟨h0,id,e1,e2,?_⟩
  rw [List.getElem?_set_ne]
  ·exact e3
  ·rintro rfl;rw [hcl2] at e3;cases e3
theorem argP {E:RM Int} (hE:GoodQ n r L dv dp 49 [.ptr r 0] E) {cl:Nat} {s0:St} (hn:n≤s0.length) (l:List Int) (q:PsOk n r L dv dp s R) (k0:Keep n r s0 s) (c0:CelP s0.length r cl 1 (some 3) s (l.map fun i=>.int .i64 i)) (hl:l.length≤20001) :
  DoesH n r L dv dv dp dp 229 [.ptr cl 0,.iptr (.ptr r 0)] s0 s (E R).2 (.tup []) (fun s'=>CelP s0.length r cl 1 (some 3) s' ((l++[(E R).1]).map fun i=>.int .i64 i)):=by
 obtain ⟨cs,hr⟩:∃cs,s[r]?=some (.cells none cs):=by obtain ⟨es,o,h,_⟩:=q.cell;exact ⟨_,h⟩
 obtain ⟨ap,h1,_⟩:=c0.own
 obtain ⟨s1,k1,⟨z1,c1,q1⟩ | ⟨cn,c1⟩⟩:=hE _ _ q
 ·have c2:=c0.keep k1 hr (.inl (by decide))
  have h2:=k1.k _ _ c0.ne h1 nofun
  obtain ⟨ap2,g1,ap',s2,p1,p2,q2,k2,c3⟩:=q1.grow (x:=.int .i64 (E R).1) (bytes:=8) (ap0:=.tight) (k0.trans k1) c2 (.inl (by decide)) hn (by simp;omega) (by decide) (fun k _=>lows_all fun x hx=>by
   obtain ⟨i,_,rfl⟩:=List.mem_map.1 hx;rfl) (fun _ _=>rfl)
  rw [h2] at g1
  cases g1
  refine doesH_of (N:=7) prim229 fn229 rfl rfl ?_
  intro e he ha K hK hP
  have a0:=ha 0
  have a1:=ha 1
  clear ha
  simp at a0 a1
  simp [a229,he,a0,a1,h1,c1,h2,Ai.beq_refl,p1,p2]
  exact hK _ _ _ (.inr rfl) q2 (by simpa using c3) k2 ⟨_,rfl,rfl⟩
 ·refine doesH_of (N:=7) prim229 fn229 rfl rfl ?_
  intro e he ha K hK hP
  have a0:=ha 0
  have a1:=ha 1
  clear ha
  simp at a0 a1
  simp [a229,he,a0,a1,h1,c1]
  exact hP _ _ _ cn rfl (k0.trans k1)
end
end Go.Proofs.YtgkhmmlemgikjaaGreatDoor
namespace Go.Proofs.YtgkhmmlemgikjaaGreatDoor
open Go Ai
section
variable {n r:Nat} {L:List Tk} {dv:AV} {dp:Nat} {s:St} {R:Rd}
theorem args_lst {E:RM Int}:∀(m:Nat) (l:List Int) (R:Rd),argsF L E m l R=lstF L E m l R
 | 0,_,_=>rfl
 | m+1,l,R=>by simp only [argsF,lstF,args_lst]
theorem call_list {E:RM Int}:callF L E R=listF L E R:=by simp only [callF,listF,args_lst]
theorem Step.list {α:Type} {E:RM α} (hE:GoesOn E):∀(m:Nat) (l:List α) (R:Rd),Step R (lstF L E m l R).2
 | 0,_,_=>.refl
 | m+1,l,R=>by
  rw [lstF];split
  ·exact (Step.adv.trans (hE _)).trans (Step.list hE m _ _)
  ·exact .refl
theorem Step.listF {α:Type} {E:RM α} (hE:GoesOn E) (R:Rd):Step R (listF L E R).2:=by
 unfold Go.Proofs.YtgkhmmlemgikjaaGreatDoor.listF;split
 ·exact .adv
 ·exact ((hE R).trans (Step.list hE _ _ _)).trans .want
theorem put19P {b:Nat} {ap:Ap} {l:List Int} (q:PsOk n r L dv dp s R) (o:Own s b 1 (some 3) ap l.length) (hb:n≤b) (nn:Sx) (p:Int) (hx:R.xs.length+1≤R.i):DoesP n r L dv dv dp dp 122 [.agg [.int .i64 19,.int .i64 0,.int .i64 0,.int .i64 0,.str nn,.str [],.int .i64 0,.lst 1 (ints l) ap,.int .i64 p]] s
  (putR ⟨19,0,0,0,nn,[],0,l,endAp l.length,p⟩ R).2 (.int .i64 (putR ⟨19,0,0,0,nn,[],0,l,endAp l.length,p⟩ R).1):=by
 refine putP q (x:=⟨19,0,0,0,nn,[],0,l,endAp l.length,p⟩) hx ⟨ap,rfl⟩ (fun S=>?_) ?_
 ·have:=own_stl o hb (S:=S) (es:=ints l) (stills_ints _ _ _)
  simp only [Ex.av,Ex.cs]
  generalize AV.lst 1 (ints l) ap=V at *
  simp [AV.still,AV.stills,this]
 ·have:=own_low o.weak (es:=ints l) (lows_ints _ _)
  generalize AV.lst 1 (ints l) ap=V at *
  simp [AV.lowB,AV.lowsB,this]
theorem isR_excl {v w:Sx} (h:isR L v R=true) (hne:v≠w):isR L w R=false:=by
 cases hw:isR L w R with
 | false=>rfl
 | true=>exact absurd ((isR_text h).symm.trans (isR_text hw)) hne
def namedR (L:List Tk) (E:RM Int):RM Int:=fun R =>
 if isR L [105,115] R.adv then putR ⟨20,0,0,0,(tkF L R).text,(nameR L R.adv.adv).1,0,[],.tight,(tkF L R).pos⟩ (nameR L R.adv.adv).2
 else if isR L [40] R.adv then putR ⟨19,0,0,0,(tkF L R).text,[],0,(listF L E R.adv.adv).1,endAp (listF L E R.adv.adv).1.length,(tkF L R).pos⟩ (listF L E R.adv.adv).2
 else putR ⟨3,0,0,0,(tkF L R).text,[],0,[],.tight,(tkF L R).pos⟩ R.adv
theorem namedP {E:RM Int} (hS:GoesOn E) (hT:StkE E) (hE:GoodQ n r L dv dp 49 [.ptr r 0] E) (q:PsOk n r L dv dp s R) (hk:(tkF L R).kind≠5):DoesP n r L dv dv dp dp 217 [] s (namedR L E R).2 (.int .i64 (namedR L E R).1):=by
 have hxl:=q.xl
 obtain ⟨s1,k1,⟨_,c1,q1⟩ | ⟨cn,_⟩⟩:=nextP q hk
 case inr=>exact absurd q.c0 cn
 simp only [Lx.Tok.av] at c1
 have hxl1:R.adv.xs.length+1≤R.adv.i:=by simp [Rd.adv];omega
 obtain ⟨s2,k2,⟨_,c2,q2⟩ | ⟨cn,_⟩⟩:=tookP q1 [40]
 case inr=>unfold tookR at cn;split at cn<;>exact absurd q.c0 cn
 cases hi:isR L [40] R.adv with
 | true =>
  rw [hi] at c2
  have q2':PsOk n r L dv dp s2 R.adv.adv:=by simpa [tookR,hi] using q2
  have hns:isR L [105,115] R.adv=false:=isR_excl hi (by decide)
  have hQ:namedR L E R=putR ⟨19,0,0,0,(tkF L R).text,[],0,(listF L E R.adv.adv).1,endAp (listF L E R.adv.adv).1.length,(tkF L R).pos⟩ (listF L E R.adv.adv).2:=by simp only [namedR,hns,hi,Bool.false_eq_true,if_false,if_true]
  rw [hQ]
  have low0:∀m,AObj.lowB m (.cells none [.lst 1 [] .tight])=true:=fun _=>rfl
  have q3:=q2'.app (low0 _)
  have hn2:n≤s2.length:=by have:=q2'.le;have:=q2'.len;omega
  have k3:Keep n r s2 _:=.app hn2 (low0 (s2.length+1))
  have hne:s2.length≠r:=by have:=q2'.len;omega
  obtain ⟨s4,k4,h4⟩:=listP (f:=fun i=>.int .i64 i) (g:=229) (fi:=[]) (ca:=[.ptr s2.length 0,.iptr (.ptr r 0)]) (m:=1) (ty:=some 3) hS hT (.inl (by decide)) (fun s R l q k c hl=>by simpa using argP hE hn2 l q k c hl) q3 k3 ⟨⟨.tight,by simp,.nil⟩,Nat.le_refl _,hne⟩
  have Sl:=Step.listF (L:=L) hS R.adv.adv
  rcases h4 with ⟨z4,c4,q4,l4⟩ | ⟨cn,c4⟩
  ·obtain ⟨ap,g4,o4⟩:=l4.own
   have e4:((listF L E R.adv.adv).1.map fun i=>AV.int .i64 i)=ints (listF L E R.adv.adv).1:=rfl
   rw [e4] at g4 o4
   obtain ⟨s5,k5,⟨z5,c5,q5⟩ | ⟨cn,c5⟩⟩:=put19P q4 (by simpa [ints] using o4) hn2 (tkF L R).text (tkF L R).pos (by have:=Sl.x;have:=Sl.i;simp [Rd.adv] at *;omega)
   case inr=>exact absurd z4 cn
   refine doesP_of (N:=43) prim217 fn217 rfl rfl ?_
   intro e he ha K hK hP
   have a0:=ha 0
   clear ha
   simp at a0
   simp [a217,he,a0,c1,c2,c4,g4,c5]
   exact hK _ _ _ (.inl rfl) q5 (((k1.trans k2).trans k4).trans k5) ⟨_,rfl,by simp [he]⟩
  ·refine doesP_of (N:=43) prim217 fn217 rfl rfl ?_
   intro e he ha K hK hP
   have a0:=ha 0
   clear ha
   simp at a0
   simp [a217,he,a0,c1,c2,c4]
   obtain ⟨t1,t2⟩:=(Stk.put (x:=⟨19,0,0,0,(tkF L R).text,[],0,(listF L E R.adv.adv).1,endAp (listF L E R.adv.adv).1.length,(tkF L R).pos⟩)).tell cn
   exact hP _ _ _ t1 t2 ((k1.trans k2).trans k4)
 | false =>
  rw [hi] at c2
  have q2':PsOk n r L dv dp s2 R.adv:=by simpa [tookR,hi] using q2
  obtain ⟨s3,k3,⟨_,c3,q3⟩ | ⟨cn,_⟩⟩:=tookP q2' [105,115]
  case inr=>unfold tookR at cn;split at cn<;>exact absurd q.c0 cn
  cases hj:isR L [105,115] R.adv with
  | true =>
   rw [hj] at c3
   have q3':PsOk n r L dv dp s3 R.adv.adv:=by simpa [tookR,hj] using q3
   have hQ:namedR L E R=putR ⟨20,0,0,0,(tkF L R).text,(nameR L R.adv.adv).1,0,[],.tight,(tkF L R).pos⟩ (nameR L R.adv.adv).2:=by simp only [namedR,hj,if_true]
   rw [hQ]
   obtain ⟨s4,k4,⟨z4,e4,c4,q4⟩ | ⟨cn,c4⟩⟩:=nameP q3'
   ·rw [e4] at q4 ⊢
    simp only [Lx.Tok.av] at c4
    obtain ⟨s5,k5,⟨z5,c5,q5⟩ | ⟨cn,c5⟩⟩:=put1P q4 20 0 0 0 (tkF L R).text (tkF L R.adv.adv).text 0 (tkF L R).pos (by simp [Rd.adv] at *;omega)
    case inr=>exact absurd q4.c0 cn
    refine doesP_of (N:=43) prim217 fn217 rfl rfl ?_
    intro e he ha K hK hP
    have a0:=ha 0
    clear ha
    simp at a0
    simp [a217,he,a0,c1,c2,c3,c4,c5]
    exact hK _ _ _ (.inl rfl) q5 ((((k1.trans k2).trans k3).trans k4).trans k5) ⟨_,rfl,by simp [he]⟩
   ·refine doesP_of (N:=43) prim217 fn217 rfl rfl ?_
    intro e he ha K hK hP
    have a0:=ha 0
    clear ha
    simp at a0
    simp [a217,he,a0,c1,c2,c3,c4]
    obtain ⟨t1,t2⟩:=(Stk.put (x:=⟨20,0,0,0,(tkF L R).text,(nameR L R.adv.adv).1,0,[],.tight,(tkF L R).pos⟩)).tell cn
    exact hP _ _ _ t1 t2 (((k1.trans k2).trans k3).trans k4)
  | false =>
   rw [hj] at c3
   have q3':PsOk n r L dv dp s3 R.adv:=by simpa [tookR,hj] using q3
   have hQ:namedR L E R=putR ⟨3,0,0,0,(tkF L R).text,[],0,[],.tight,(tkF L R).pos⟩ R.adv:=by simp only [namedR,hi,hj,Bool.false_eq_true,if_false]
   rw [hQ]
   obtain ⟨s5,k5,⟨z5,c5,q5⟩ | ⟨cn,c5⟩⟩:=put1P q3' 3 0 0 0 (tkF L R).text [] 0 (tkF L R).pos hxl1
   case inr=>exact absurd q.c0 cn
   refine doesP_of (N:=43) prim217 fn217 rfl rfl ?_
   intro e he ha K hK hP
   have a0:=ha 0
   clear ha
   simp at a0
   simp [a217,he,a0,c1,c2,c3,c5]
   exact hK _ _ _ (.inl rfl) q5 (((k1.trans k2).trans k3).trans k5) ⟨_,rfl,by simp [he]⟩
end
end Go.Proofs.YtgkhmmlemgikjaaGreatDoor
namespace Go.Proofs.YtgkhmmlemgikjaaGreatDoor
open Go Ai
theorem fn98:A.fn 98=some a98:=by kernel_rfl
theorem prim98:A.prim 98=none:=by kernel_rfl
section
variable {n r:Nat} {L:List Tk} {dv:AV} {dp:Nat} {s:St} {R:Rd}
theorem isR_word {w:Sx} (h:isR L w R=true):(tkF L R).kind=3∨(tkF L R).kind=4:=by
 simp only [isR,Bool.and_eq_true,Bool.or_eq_true,decide_eq_true_eq] at h;exact h.2.1
theorem isR_notword {w:Sx} (h3:(tkF L R).kind≠3) (h4:(tkF L R).kind≠4):isR L w R=false:=by
 cases h:isR L w R with
 | false=>rfl
 | true=>rcases isR_word h with h | h<;>contradiction
theorem goodAtom {E:RM Int} (hS:GoesOn E) (hT:StkE E) (hE:GoodQ n r L dv dp 49 [.ptr r 0] E):GoodQ n r L dv dp 202 [.ptr r 0] (atomF L E):=by
 intro s R q
 obtain ⟨es,o,hr,_⟩:=q.cell
 simp only [psCs] at hr
 have hg:=q.get
 have hxl:=q.xl
 have hx1:R.adv.xs.length+1≤R.adv.i:=by simp [Rd.adv];omega
 by_cases h2:(tkF L R).kind=2
 ·have hQ:atomF L E R=putR ⟨1,0,0,0,[],[],(tkF L R).v,[],.tight,(tkF L R).pos⟩ R.adv:=by simp only [atomF,h2,if_true]
  rw [hQ]
  obtain ⟨s1,k1,⟨_,c1,q1⟩ | ⟨cn,_⟩⟩:=nextP q (by omega)
  case inr=>exact absurd q.c0 cn
  obtain ⟨s2,k2,⟨_,c2,q2⟩ | ⟨cn,_⟩⟩:=put1P q1 1 0 0 0 [] [] (tkF L R).v (tkF L R).pos hx1
  case inr=>exact absurd q.c0 cn
  simp only [Lx.Tok.av] at c1
  rw [h2] at c1
  refine doesP_of (N:=55) prim202 fn202 rfl rfl ?_
  intro e he ha K hK hP
  have a0:=ha 0
  clear ha
  simp at a0
  simp [a202,he,a0,hr,hg,Lx.Tok.av,h2,c1,c2]
  exact hK _ _ _ (.inl rfl) q2 (k1.trans k2) ⟨_,rfl,by simp [he]⟩
 have h2':¬((tkF L R).kind:Int)=2:=by omega
 by_cases h1:(tkF L R).kind=1
 ·have hQ:atomF L E R=namedR L E R:=by
   have n1:isR L [116,114,117,101] R=false:=isR_notword (by omega) (by omega)
   have n2:isR L [102,97,108,115,101] R=false:=isR_notword (by omega) (by omega)
   simp only [atomF,h2,n1,n2,h1,namedR,call_list,if_true,if_false,Bool.false_eq_true,show ¬((1:Nat)=2) by decide]
  rw [hQ]
  obtain ⟨s1,k1,⟨z1,c1,q1⟩ | ⟨cn,c1⟩⟩:=namedP hS hT hE q (by omega)
  ·refine doesP_of (N:=55) prim202 fn202 rfl rfl ?_
   intro e he ha K hK hP
   have a0:=ha 0
   clear ha
   simp at a0
   simp [a202,he,a0,hr,hg,Lx.Tok.av,h1,c1]
   exact hK _ _ _ (.inl rfl) q1 k1 ⟨_,rfl,by simp [he]⟩
  ·refine doesP_of (N:=55) prim202 fn202 rfl rfl ?_
   intro e he ha K hK hP
   have a0:=ha 0
   clear ha
   simp at a0
   simp [a202,he,a0,hr,hg,Lx.Tok.av,h1,c1]
   exact hP _ _ _ cn rfl k1
 have h1':¬((tkF L R).kind:Int)=1:=by omega
 obtain ⟨s1,k1,⟨_,c1,q1⟩ | ⟨cn,_⟩⟩:=tookP q [116,114,117,101]
 case inr=>unfold tookR at cn;split at cn<;>exact absurd q.c0 cn
 cases hi:isR L [116,114,117,101] R with
 | true =>
  rw [hi] at c1
  have q1':PsOk n r L dv dp s1 R.adv:=by simpa [tookR,hi] using q1
  have hQ:atomF L E R=putR ⟨2,0,0,0,[],[],1,[],.tight,(tkF L R).pos⟩ R.adv:=by simp only [atomF,h2,hi,if_true,if_false]
  rw [hQ]
  obtain ⟨s2,k2,⟨_,c2,q2⟩ | ⟨cn,_⟩⟩:=put1P q1' 2 0 0 0 [] [] 1 (tkF L R).pos hx1
  case inr=>exact absurd q.c0 cn
  refine doesP_of (N:=55) prim202 fn202 rfl rfl ?_
  intro e he ha K hK hP
  have a0:=ha 0
  clear ha
  simp at a0
  simp [a202,he,a0,hr,hg,Lx.Tok.av,h1',h2',c1,c2]
  exact hK _ _ _ (.inl rfl) q2 (k1.trans k2) ⟨_,rfl,by simp [he]⟩
 | false =>
 rw [hi] at c1
 have q1':PsOk n r L dv dp s1 R:=by simpa [tookR,hi] using q1
 obtain ⟨s2,k2,⟨_,c2,q2⟩ | ⟨cn,_⟩⟩:=tookP q1' [102,97,108,115,101]
 case inr=>unfold tookR at cn;split at cn<;>exact absurd q.c0 cn
 cases hj:isR L [102,97,108,115,101] R with
 | true =>
  rw [hj] at c2
  have q2':PsOk n r L dv dp s2 R.adv:=by simpa [tookR,hj] using q2
  have hQ:atomF L E R=putR ⟨2,0,0,0,[],[],0,[],.tight,(tkF L R).pos⟩ R.adv:=by simp only [atomF,h2,hi,hj,if_true,if_false,Bool.false_eq_true]
  rw [hQ]
  obtain ⟨s3,k3,⟨_,c3,q3⟩ | ⟨cn,_⟩⟩:=put1P q2' 2 0 0 0 [] [] 0 (tkF L R).pos hx1
  case inr=>exact absurd q.c0 cn
  refine doesP_of (N:=55) prim202 fn202 rfl rfl ?_
  intro e he ha K hK hP
  have a0:=ha 0
  clear ha
  simp at a0
  simp [a202,he,a0,hr,hg,Lx.Tok.av,h1',h2',c1,c2,c3]
  exact hK _ _ _ (.inl rfl) q3 ((k1.trans k2).trans k3) ⟨_,rfl,by simp [he]⟩
 | false =>
 rw [hj] at c2
 have q2':PsOk n r L dv dp s2 R:=by simpa [tookR,hj] using q2
 have hQ:atomF L E R=((E (wantR L [40] R)).1,wantR L [41] (E (wantR L [40] R)).2):=by simp only [atomF,h2,hi,hj,h1,if_false,Bool.false_eq_true]
 rw [hQ]
 obtain ⟨s3,k3,⟨_,c3,q3⟩ | ⟨cn,c3⟩⟩:=want1P q2' [40]
 case inr =>
  refine doesP_of (N:=55) prim202 fn202 rfl rfl ?_
  intro e he ha K hK hP
  have a0:=ha 0
  clear ha
  simp at a0
  simp [a202,he,a0,hr,hg,Lx.Tok.av,h1',h2',c1,c2,c3]
  obtain ⟨t1,t2⟩:=((hT (wantR L [40] R)).trans (Stk.want (L:=L) (w:=[41]))).tell cn
  exact hP _ _ _ t1 t2 ((k1.trans k2).trans k3)
 obtain ⟨s4,k4,⟨_,c4,q4⟩ | ⟨cn,c4⟩⟩:=hE _ _ q3
 case inr =>
  refine doesP_of (N:=55) prim202 fn202 rfl rfl ?_
  intro e he ha K hK hP
  have a0:=ha 0
  clear ha
  simp at a0
  simp [a202,he,a0,hr,hg,Lx.Tok.av,h1',h2',c1,c2,c3,c4]
  obtain ⟨t1,t2⟩:=(Stk.want (L:=L) (w:=[41])).tell cn
  exact hP _ _ _ t1 t2 (((k1.trans k2).trans k3).trans k4)
 obtain ⟨s5,k5,⟨_,c5,q5⟩ | ⟨cn,c5⟩⟩:=want1P q4 [41]
 case inr =>
  refine doesP_of (N:=55) prim202 fn202 rfl rfl ?_
  intro e he ha K hK hP
  have a0:=ha 0
  clear ha
  simp at a0
  simp [a202,he,a0,hr,hg,Lx.Tok.av,h1',h2',c1,c2,c3,c4,c5]
  exact hP _ _ _ cn rfl ((((k1.trans k2).trans k3).trans k4).trans k5)
 refine doesP_of (N:=55) prim202 fn202 rfl rfl ?_
 intro e he ha K hK hP
 have a0:=ha 0
 clear ha
 simp at a0
 simp [a202,he,a0,hr,hg,Lx.Tok.av,h1',h2',c1,c2,c3,c4,c5]
 exact hK _ _ _ (.inl rfl) q5 ((((k1.trans k2).trans k3).trans k4).trans k5) ⟨_,rfl,by simp [he]⟩
theorem good_deep {g f:Nat} {E:RM Int} (hd:dp≤30) (hE:dp<30→GoodQ n r L dv (dp+1) g [.iptr (.ptr r 0)] E) :
  ∀s R,PsOk n r L dv dp s R→DoesP n r L dv dv dp dp 86 [.func (.func g) [] [.iptr (.ptr r 0)]] s (if dp=30 then failR L 3 R else (E R).2) (.int .i64 (if dp=30 then 0 else (E R).1)) :=
 fun _ _ q=>deeperP (fi:=[]) (ca:=[.iptr (.ptr r 0)]) q hd (by simpa using hE)
theorem good49 {E E':RM Int} (hd:dp≤30) (hE:dp<30→GoodQ n r L dv (dp+1) 87 [.iptr (.ptr r 0)] E) (h:∀R,R.c=0→E' R=if dp=30 then (0,failR L 3 R) else E R):GoodQ n r L dv dp 49 [.ptr r 0] E':=by
 intro s R q
 have hq:E' R=((if dp=30 then 0 else (E R).1),(if dp=30 then failR L 3 R else (E R).2)):=by rw [h R q.c0];split<;>rfl
 rw [hq]
 obtain ⟨s1,k1,⟨z,c1,q1⟩ | ⟨cn,c1⟩⟩:=good_deep (f:=0) hd hE _ _ q
 ·refine doesP_of (N:=6) prim49 fn49 rfl rfl ?_
  intro e he ha K hK hP
  have a0:=ha 0
  clear ha
  simp at a0
  simp [a49,he,a0,c1]
  exact hK _ _ _ (.inl rfl) q1 k1 ⟨_,rfl,by simp [he]⟩
 ·refine doesP_of (N:=6) prim49 fn49 rfl rfl ?_
  intro e he ha K hK hP
  have a0:=ha 0
  clear ha
  simp at a0
  simp [a49,he,a0,c1]
  exact hP _ _ _ cn rfl k1
theorem good184 {E E':RM Int} (hd:dp≤30) (hE:dp<30→GoodQ n r L dv (dp+1) 201 [.iptr (.ptr r 0)] E) (h:∀R,R.c=0→E' R=if dp=30 then (0,failR L 3 R) else E R):GoodQ n r L dv dp 184 [.ptr r 0] E':=by
 intro s R q
 have hq:E' R=((if dp=30 then 0 else (E R).1),(if dp=30 then failR L 3 R else (E R).2)):=by rw [h R q.c0];split<;>rfl
 rw [hq]
 obtain ⟨s1,k1,⟨z,c1,q1⟩ | ⟨cn,c1⟩⟩:=good_deep (f:=0) hd hE _ _ q
 ·refine doesP_of (N:=6) prim184 fn184 rfl rfl ?_
  intro e he ha K hK hP
  have a0:=ha 0
  clear ha
  simp at a0
  simp [a184,he,a0,c1]
  exact hK _ _ _ (.inl rfl) q1 k1 ⟨_,rfl,by simp [he]⟩
 ·refine doesP_of (N:=6) prim184 fn184 rfl rfl ?_
  intro e he ha K hK hP
  have a0:=ha 0
  clear ha
  simp at a0
  simp [a184,he,a0,c1]
  exact hP _ _ _ cn rfl k1
theorem goodEP:∀f,f≤30→GoodQ n r L dv (30-f) 49 [.ptr r 0] (epF L f).1∧GoodQ n r L dv (30-f) 184 [.ptr r 0] (epF L f).2
 | 0,_=>⟨good49 (E:=(epF L 0).1) (by omega) (fun h=>absurd h (by decide)) (fun R _=>by simp [epF]),good184 (E:=(epF L 0).2) (by omega) (fun h=>absurd h (by decide)) (fun R _=>by simp [epF])⟩
 | f+1,hf=>by
  obtain ⟨h1,h2⟩:=goodEP f (by omega)
  obtain ⟨s1,s2⟩:=Step.ep (L:=L) f
  obtain ⟨t1,t2⟩:=stk_ep (L:=L) f
  have hd:30-(f+1)+1=30-f:=by omega
  have hne:¬30-(f+1)=30:=by omega
  exact ⟨good49 (E:=exprB L (epF L f).1 (epF L f).2) (by omega) (fun _=>by rw [hd];exact goodExpr s1 t1 s2 t2 h1 h2) (fun R hc=>by rw [if_neg hne];simp [epF,hc]),
   good184 (E:=prefB L (epF L f).1 (epF L f).2) (by omega) (fun _=>by rw [hd];exact goodPref s2 t2 (goodAtom s1 t1 h1) h2) (fun R hc=>by rw [if_neg hne];simp [epF,hc])⟩
theorem goodE0:GoodQ n r L dv 0 49 [.ptr r 0] (exprF L):=(goodEP 30 (by omega)).1
theorem stkE0:StkE (exprF L):=(stk_ep 30).1
theorem kindP (q:PsOk n r L dv dp s R):DoesP n r L dv dv dp dp 98 [] s (kindR L R).2 (.int .i64 (kindR L R).1):=by
 obtain ⟨s1,k1,⟨_,c1,q1⟩ | ⟨cn,_⟩⟩:=tookP q [98,111,111,108]
 case inr=>unfold tookR at cn;split at cn<;>exact absurd q.c0 cn
 cases hb:isR L [98,111,111,108] R with
 | true =>
  rw [hb] at c1
  have hQ:kindR L R=(2,R.adv):=by simp [kindR,hb]
  rw [hQ]
  refine doesP_of (N:=8) prim98 fn98 rfl rfl ?_
  intro e he ha K hK hP
  have a0:=ha 0
  clear ha
  simp at a0
  simp [a98,he,a0,c1]
  exact hK _ _ _ (.inl rfl) (by simpa [tookR,hb] using q1) k1 ⟨_,rfl,by simp [he]⟩
 | false =>
  rw [hb] at c1
  have hQ:kindR L R=(1,wantR L [102,105,120] R):=by simp [kindR,hb]
  rw [hQ]
  have q1':PsOk n r L dv dp s1 R:=by simpa [tookR,hb] using q1
  obtain ⟨s2,k2,⟨_,c2,q2⟩ | ⟨cn,c2⟩⟩:=want1P q1' [102,105,120]
  ·refine doesP_of (N:=8) prim98 fn98 rfl rfl ?_
   intro e he ha K hK hP
   have a0:=ha 0
   clear ha
   simp at a0
   simp [a98,he,a0,c1,c2]
   exact hK _ _ _ (.inl rfl) q2 (k1.trans k2) ⟨_,rfl,by simp [he]⟩
  ·refine doesP_of (N:=8) prim98 fn98 rfl rfl ?_
   intro e he ha K hK hP
   have a0:=ha 0
   clear ha
   simp at a0
   simp [a98,he,a0,c1,c2]
   exact hP _ _ _ cn rfl (k1.trans k2)
end
end Go.Proofs.YtgkhmmlemgikjaaGreatDoor
