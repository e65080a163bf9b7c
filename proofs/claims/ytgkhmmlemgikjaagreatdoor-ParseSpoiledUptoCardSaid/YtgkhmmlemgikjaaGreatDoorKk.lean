/- Part Kk. No condition. -/
import Derived.Test.YtgkhmmlemgikjaaGreatDoorKj
import Derived.Test.YtgkhmmlemgikjaaGreatDoorKi
import Derived.Test.YtgkhmmlemgikjaaGreatDoorKh
set_option linter.unusedVariables false
set_option linter.unusedSimpArgs false
namespace Go.Proofs.YtgkhmmlemgikjaaGreatDoor
open Go Ai
theorem fn47:A.fn 47=some a47:=by kernel_rfl
theorem prim47:A.prim 47=none:=by kernel_rfl
theorem fn84:A.fn 84=some a84:=by kernel_rfl
theorem fn48:A.fn 48=some a48:=by kernel_rfl
theorem prim48:A.prim 48=none:=by kernel_rfl
theorem fn23:A.fn 23=some a23:=by kernel_rfl
theorem prim23:A.prim 23=none:=by kernel_rfl
def zProg:AV:=.agg [.lst 7 [] .tight,.lst 9 [] .tight]
def zOut:AObj:=.cells none [.lst 7 [] .tight,.lst 9 [] .tight]
def zFlt:AObj:=.cells none [.int .i64 0,.int .i64 0]
theorem def84_none {a b:Nat} {S:St}:callDef A (runL A) 84 [.ptr a 0,.ptr b 0] none S=some (none,S):=by
 refine callDef_recover (N:=18) (d:=5) (d':=2) (none,S) fn84 rfl rfl (by decide) ?_
 intro e he ha h2 K hK
 simp at h2
 simp [he,h2,beq_self_eq_true]
 exact hK _ _ _ (by simp [defOut,a84,resultsA])
theorem def84_some {a b:Nat} {S:St} {R:Rd} {oc fc:List AV} (hab:a≠b) (ha:S[a]?=some (.cells none oc)) (hb:S[b]?=some (.cells none fc)) (hol:oc.length=2) (hfl:fc.length=2) :
  callDef A (runL A) 84 [.ptr a 0,.ptr b 0] (some (flt R)) S=some (none,(S.set a zOut).set b (.cells none [.int .i64 R.c,.int .i64 R.b])):=by
 refine callDef_recover (N:=18) (d:=5) (d':=2) (none,_) fn84 rfl rfl (by decide) ?_
 intro e he hx h2 K hK
 have a0:=hx 0 (by decide) (by decide)
 have a1:=hx 1 (by decide) (by decide)
 simp at h2 a0 a1
 have hb':(S.set a (.cells none [.lst 7 [] .tight,.lst 9 [] .tight]))[b]?=some (.cells none fc):=by rw [List.getElem?_set_ne hab];exact hb
 match oc,fc,hol,hfl with
 | [o1,o2],[f1,f2],_,_ =>
 simp [he,h2,flt,a0,a1,ha,hb,hb',Ai.beq_refl]
 exact hK _ _ _ (by simp [defOut,a84,resultsA,zOut])
def progAv (dv:AV) (xs:List Ex):AV:=.agg [dv,.lst 9 (xs.map Ex.av) (endAp xs.length)]
theorem np47:a47.body.noPlan=true:=by kernel_rfl
theorem tail47 {n:Nat} {x:AEx} {e:Env} {S S2 st1:St} {u:Option AV} {a b V:AV} {c d:Int} (hu:modeOf x=some u) (hd:callDef A (runL A) 84 [.ptr n 0,.ptr (n+1) 0] u S=some (none,S2)) (e4:AX.ev e (.t 4)=.ptr n 0) (e5:AX.ev e (.t 5)=.ptr (n+1) 0)
  (c4:S2[n]?=some (.cells none [a,b])) (c5:S2[n+1]?=some (.cells none [.int .i64 c,.int .i64 d])) (h4:AV.still n S2 (.agg [a,b])=some V) (ht:S2.take n=st1) (hst1:st1.all (AObj.lowB n)=true) :
  tailA A a47 n x e [.call 84 [.ptr n 0,.ptr (n+1) 0]] S=some ⟨.ret,⟨[.tup [V,.agg [.int .i64 c,.int .i64 d]]],[]⟩,st1⟩:=by
 have hg:envGone x a47.body=false:=by cases x<;>simp [envGone,np47]
 have hr:resultsA S2 e a47.results=some [.agg [a,b],.agg [.int .i64 c,.int .i64 d]]:=by
  simp [a47,resultsA,res_cell,e4,e5,c4,c5,takeVar]
 have hs:Ai.settle n (oneOf [.agg [a,b],.agg [.int .i64 c,.int .i64 d]]) S2=some (.tup [V,.agg [.int .i64 c,.int .i64 d]],st1):=by
  have:AV.still n S2 (oneOf [.agg [a,b],.agg [.int .i64 c,.int .i64 d]])=some (.tup [V,.agg [.int .i64 c,.int .i64 d]]):=by
   simp only [oneOf,AV.still,AV.stills] at h4 ⊢
   simp only [h4,AV.still,AV.stills,AV.lowB]
   simp
  simp only [Ai.settle,this,ht,hst1,if_true]
 unfold tailA
 simp only [runDefs,leaveD,hu,runCalls,hd,lastA,hg,hr,hs,Bool.false_eq_true,if_false,show a47.keep=false from rfl]
theorem take_set_ge {S:St} {n i:Nat} {o:AObj} (h:n≤i):(S.set i o).take n=S.take n:=by
 rw [List.take_set,List.set_eq_of_length_le (by simp;omega)]
theorem read_call {s:Sx} (hs:s.length≤281474976710656) {L:List Tk} (hlex:Lx.lexP s=(.lst 4 (L.map Lx.Tok.av) .no,.agg [.int .i64 0,.int .i64 0])) {g:Nat} {fi ca:List AV} {st st1:St} (hst:StOk st) (hst1:StOk st1) {R':Rd} {dv DV:AV} (hdc:dv.isCell=true) (hdv:∀S,AV.still st.length S dv=some DV)
  (hrule:∃s',s'.take st.length=st1∧s'[st.length]?=some zOut∧s'[st.length+1]?=some zFlt ∧
   ((R'.c = 0 ∧ runL A (.call g (fi ++ .ptr (st.length + 2) 0 :: ca)) (st ++ [zOut, zFlt, .cells none (psCs L (.lst 7 [] .tight) 0 ⟨0, [], 0, 0⟩ [] .tight)]) = some ⟨.ret, ⟨[.tup []], []⟩, s'⟩ ∧ PsOk st.length (st.length + 2) L dv 0 s' R') ∨
    (R'.c≠0∧runL A (.call g (fi++.ptr (st.length+2) 0::ca)) (st++[zOut,zFlt,.cells none (psCs L (.lst 7 [] .tight) 0 ⟨0,[],0,0⟩ [] .tight)])=some ⟨.pan (flt R'),⟨[],[]⟩,s'⟩))) :
  runL A (.call 47 [.str s,.func (.func g) fi ca]) st=some ⟨.ret,⟨[.tup [if (endR L R').c=0 then progAv DV R'.xs else zProg,.agg [.int .i64 (endR L R').c,.int .i64 (if (endR L R').c=0 then 0 else (endR L R').b)]]],[]⟩,st1⟩:=by
 obtain ⟨s',ht,hz0,hz1,hr⟩:=hrule
 have hst0:StOk (st++[zOut,zFlt]):=by have:=(hst.snoc (o:=zOut) rfl).snoc (o:=zFlt) rfl;simpa using this
 have hlc:=Lx.lex_call (s:=s) hs hst0
 rw [hlex] at hlc
 simp only [zOut,zFlt] at hlc
 have h1len:st1.length=st.length:=by have:=(List.getElem?_eq_some_iff.1 hz0).1;rw [←ht];simp;omega
 have hlow1:st1.all (AObj.lowB st.length)=true:=by have:=hst1;unfold StOk at this;rwa [h1len] at this
 have htk:(L.map Lx.Tok.av)=toks L 0:=by simp [toks]
 rw [htk] at hlc
 simp only [psCs,zOut,zFlt] at hr hz0 hz1
 simp at hr
 obtain ⟨q,hq,h,_⟩:=task_tail (A:=A) (st:=st) (f:=47) (args:=[.str s,.func (.func g) fi ca]) (N:=40) (fun q=>q=(⟨.ret,⟨[.tup [if (endR L R').c=0 then progAv DV R'.xs else zProg,.agg [.int .i64 (endR L R').c,.int .i64 (if (endR L R').c=0 then 0 else (endR L R').b)]]],[]⟩,st1⟩:Res)) prim47 fn47 rfl (by
  intro e he ha K hK
  have a0:=ha 0
  have a1:=ha 1
  clear ha
  simp at a0 a1
  rcases hr with ⟨hc,c1,q1⟩ | ⟨hc,c1⟩
  ·obtain ⟨es,o,hr1,hl,ho,hes⟩:=q1.cell
   have hr1':=hr1
   simp only [psCs] at hr1
   have hg:=q1.get
   have hlt0:=(List.getElem?_eq_some_iff.1 hz0).1
   have hlt1:=(List.getElem?_eq_some_iff.1 hz1).1
   by_cases h5:(tkF L R').kind=5
   ·have hend:endR L R'=R':=by simp [endR,h5]
    rw [hend] at hK
    have hs1:∀o:AObj,(s'.set st.length o)[st.length+1]?=some (.cells none [.int .i64 0,.int .i64 0]):=fun o=>by rw [List.getElem?_set_ne (by omega)];exact hz1
    have hs2:∀(o:AObj) (h:st.length+1<(s'.set st.length o).length),(s'.set st.length o)[st.length+1]=.cells none [.int .i64 0,.int .i64 0]:=fun o h=>by have:=hs1 o;rw [List.getElem?_eq_getElem h] at this;exact Option.some.inj this
    have hs3:∀o:AObj,((s'.set st.length o).set (st.length+1) (.cells none [.int .i64 0,.int .i64 0]))=s'.set st.length o:=fun o=>by
     apply List.ext_getElem?
     intro i
     by_cases hi:i=st.length+1
     ·subst hi;rw [List.getElem?_set_self (by simp;omega),hs1]
     ·rw [List.getElem?_set_ne (fun h=>hi h.symm)]
    simp [a47,he,a0,a1,hlc,c1,hr1,hg,Lx.Tok.av,h5,hz0,hz1,hs1,hs2,hs3,hdc,Ai.beq_refl]
    refine hK _ _ _ _ _ (tail47 (u:=none) (a:=dv) (b:=.lst 9 es o) rfl def84_none (by simp [he]) (by simp [he]) (by rw [List.getElem?_set_self hlt0]) (hs1 _) (V:=progAv DV R'.xs) ?_ (by rw [take_set_ge (Nat.le_refl _)];exact ht) hlow1) (by simp [hc,progAv])
    have h9:=own_stl ho (Nat.le_refl _) (S:=s'.set st.length (.cells none [dv,.lst 9 es o])) (hes (s'.set st.length (.cells none [dv,.lst 9 es o])))
    unfold progAv
    generalize AV.lst 9 es o=X at h9 ⊢
    simp [AV.still,AV.stills,hdv,h9]
   ·obtain ⟨s2,k2,⟨c0,_,_⟩ | ⟨cn,c2⟩⟩:=failP q1 (c:=2) (by decide)
    ·simp [failR,q1.c0] at c0
    have h5':¬((tkF L R').kind:Int)=5:=by omega
    have hend:endR L R'=failR L 2 R':=by simp [endR,h5,hc]
    rw [hend] at hK
    simp [a47,he,a0,a1,hlc,c1,hr1,hg,Lx.Tok.av,h5',c2]
    have z0:=k2.k st.length _ (by omega) hz0 nofun
    have z1:=k2.k (st.length+1) _ (by omega) hz1 nofun
    have l0:=(List.getElem?_eq_some_iff.1 z0).1
    have l1:=(List.getElem?_eq_some_iff.1 z1).1
    exact hK _ _ _ _ _ (tail47 (u:=some (flt (failR L 2 R'))) (a:=.lst 7 [] .tight) (b:=.lst 9 [] .tight) rfl (def84_some (by omega) z0 z1 rfl rfl) (by simp [he]) (by simp [he]) (by rw [List.getElem?_set_ne (by omega),List.getElem?_set_self l0];rfl) (by rw [List.getElem?_set_self (by simpa using l1)]) (V:=zProg) (by simp [AV.still,AV.stills,zProg]) (by rw [take_set_ge (by omega),take_set_ge (Nat.le_refl _),k2.g.take];exact ht) hlow1) (by simp [cn])
  ·simp [a47,he,a0,a1,hlc,c1]
   have hend:endR L R'=R':=by simp [endR,hc]
   rw [hend] at hK
   have l0:=(List.getElem?_eq_some_iff.1 hz0).1
   have l1:=(List.getElem?_eq_some_iff.1 hz1).1
   exact hK _ _ _ _ _ (tail47 (u:=some (flt R')) (a:=.lst 7 [] .tight) (b:=.lst 9 [] .tight) rfl (def84_some (by omega) hz0 hz1 rfl rfl) (by simp [he]) (by simp [he]) (by rw [List.getElem?_set_ne (by omega),List.getElem?_set_self l0];rfl) (by rw [List.getElem?_set_self (by simpa using l1)]) (V:=zProg) (by simp [AV.still,AV.stills,zProg]) (by rw [take_set_ge (by omega),take_set_ge (Nat.le_refl _)];exact ht) hlow1) (by simp [hc]))
 subst hq
 exact h
end Go.Proofs.YtgkhmmlemgikjaaGreatDoor
namespace Go.Proofs.YtgkhmmlemgikjaaGreatDoor
open Go Ai
theorem ex_still {x:Ex} (h:x.Ok) (n:Nat) (S:St):AV.still n S x.av=some x.av:=by
 rcases h.ap.or with e | e<;>simp [Ex.av,Ex.cs,AV.still,AV.stills,AV.lowB,e,stills_ints]
section
variable {n r:Nat} {L:List Tk} {dv:AV} {s:St} {R:Rd}
theorem rule48 (q:PsOk n r L dv 0 s R) {c:Nat} (hc:c<n) {v:AV} (hcell:s[c]?=some (.cells none [v])) :
  ∃s',Keep n r s s'∧(((exprF L R).2.c=0∧runL A (.call 48 [.ptr r 0,.ptr c 0]) s=some ⟨.ret,⟨[.tup []],[]⟩,s'.set c (.cells none [.int .i64 (exprF L R).1])⟩∧PsOk n r L dv 0 (s'.set c (.cells none [.int .i64 (exprF L R).1])) (exprF L R).2) ∨
   ((exprF L R).2.c≠0∧runL A (.call 48 [.ptr r 0,.ptr c 0]) s=some ⟨.pan (flt (exprF L R).2),⟨[],[]⟩,s'⟩)):=by
 obtain ⟨s1,k1,h⟩:=goodE0 s R q
 have hcr:c≠r:=by have:=q.le;omega
 have hs1:=k1.k c _ hcr hcell nofun
 refine ⟨s1,k1,?_⟩
 rcases h with ⟨h0,c1,q1⟩ | ⟨h0,c1⟩
 ·refine .inl ⟨h0,?_,q1.other hcr hs1 rfl⟩
  obtain ⟨q,hq,h,_⟩:=task_tail (A:=A) (st:=s) (f:=48) (args:=[.ptr r 0,.ptr c 0]) (N:=5) (fun q=>q=(⟨.ret,⟨[.tup []],[]⟩,s1.set c (.cells none [.int .i64 (exprF L R).1])⟩:Res)) prim48 fn48 rfl (by
   intro e he ha K hK
   have a0:=ha 0
   have a1:=ha 1
   clear ha
   simp at a0 a1
   simp [a48,he,a0,a1,c1,hs1]
   exact hK _ _ _ _ _ rfl rfl)
  subst hq
  exact h
 ·refine .inr ⟨h0,?_⟩
  obtain ⟨q,hq,h,_⟩:=task_tail (A:=A) (st:=s) (f:=48) (args:=[.ptr r 0,.ptr c 0]) (N:=5) (fun q=>q=(⟨.pan (flt (exprF L R).2),⟨[],[]⟩,s1⟩:Res)) prim48 fn48 rfl (by
   intro e he ha K hK
   have a0:=ha 0
   have a1:=ha 1
   clear ha
   simp at a0 a1
   simp [a48,he,a0,a1,c1]
   exact hK _ _ _ _ _ rfl rfl)
  subst hq
  exact h
end
theorem read_bad {s:Sx} (hs:s.length≤281474976710656) {c p:Int} (hc:c≠0) (hlex:Lx.lexP s=(Lx.noToks,Lx.flt c p)) {g:Nat} {fi ca:List AV} {st:St} (hst:StOk st) :
  runL A (.call 47 [.str s,.func (.func g) fi ca]) st=some ⟨.ret,⟨[.tup [zProg,.agg [.int .i64 c,.int .i64 p]]],[]⟩,st⟩:=by
 have hst0:StOk (st++[zOut,zFlt]):=by have:=(hst.snoc (o:=zOut) rfl).snoc (o:=zFlt) rfl;simpa using this
 have hlc:=Lx.lex_call (s:=s) hs hst0
 rw [hlex] at hlc
 simp only [zOut,zFlt,Lx.noToks,Lx.flt] at hlc
 obtain ⟨q,hq,h,_⟩:=task_tail (A:=A) (st:=st) (f:=47) (args:=[.str s,.func (.func g) fi ca]) (N:=40) (fun q=>q=(⟨.ret,⟨[.tup [zProg,.agg [.int .i64 c,.int .i64 p]]],[]⟩,st⟩:Res)) prim47 fn47 rfl (by
  intro e he ha K hK
  have a0:=ha 0
  have a1:=ha 1
  clear ha
  simp at a0 a1
  have hlow:st.all (AObj.lowB st.length)=true:=hst
  have hrs:a47.results=[.cell 4 2 true,.cell 5 2 true]:=rfl
  have hkp:a47.keep=false:=rfl
  simp [a47,he,a0,a1,hlc,hc,Ai.beq_refl]
  exact hK _ _ _ _ _ (by simp [tailA,runDefs,hrs,hkp,resultsA,res_cell,he,takeVar,Ai.settle,oneOf,AV.still,AV.stills,AV.lowB,hlow,zProg]) rfl)
 subst hq
 exact h
theorem expr_call {s:Sx} (hs:s.length≤281474976710656) {st:St} (hst:StOk st) :
  runL A (.call 23 [.str s]) st=some ⟨.ret,⟨[.tup [(parseF s true).1.av,.int .i64 (parseF s true).2.1,.agg [.int .i64 (parseF s true).2.2.1,.int .i64 (parseF s true).2.2.2]]],[]⟩,st⟩:=by
 have ho:StOk (st++[zOut,zFlt,.cells none [.int .i64 0]]):=by have:=((hst.snoc (o:=zOut) rfl).snoc (o:=zFlt) rfl).snoc (o:=.cells none [.int .i64 0]) rfl;simpa using this
 have hlen:(st++[zOut,zFlt,.cells none [.int .i64 0]]).length=st.length+3:=by simp
 have bad:∀c p:Int,c≠0→Lx.lexP s=(Lx.noToks,Lx.flt c p)→parseF s true=(noPg,0,c,p)→runL A (.call 23 [.str s]) st=some ⟨.ret,⟨[.tup [(parseF s true).1.av,.int .i64 (parseF s true).2.1,.agg [.int .i64 (parseF s true).2.2.1,.int .i64 (parseF s true).2.2.2]]],[]⟩,st⟩:=by
  intro c p hc h1 h2
  have cc:=read_bad hs hc h1 (g:=48) (fi:=[]) (ca:=[.ptr (st.length+2) 0]) ho
  rw [h2]
  simp only [zOut,zFlt,zProg] at cc
  refine (task_of_aw (N:=22) prim23 fn23 rfl rfl hst ?_).1
  intro e he ha K hK
  have a0:=ha 0
  clear ha
  simp at a0
  simp [a23,he,a0,cc,hc,Ai.beq_refl]
  exact hK _ _ _ (.inl rfl) (by simp) ⟨[.agg [.lst 7 [] .tight,.lst 9 [] .tight],.int .i64 0,.agg [.int .i64 c,.int .i64 p]],by simp [a23,resultsA,res_cell,he,takeVar],by simp [oneOf,AV.still,AV.stills,AV.lowB,noPg,Pg.av]⟩
 by_cases hbig:20000<s.length
 ·exact bad 10 0 (by decide) (by simp [Lx.lexP,hbig]) (by simp [parseF,hbig])
 cases hlx:Lx.lexK s 0 with
 | error p=>exact bad 1 p (by decide) (by simp [Lx.lexP,hbig,hlx]) (by simp [parseF,hbig,hlx])
 | ok ts =>
 clear bad
 obtain ⟨htk,hpos⟩:=lexK_tks (by omega) hlx
 have hP:Lx.lexP s=(.lst 4 (ts.map Lx.Tok.av) .no,.agg [.int .i64 0,.int .i64 0]):=by simp [Lx.lexP,hbig,hlx,Lx.toksAv,Lx.flt]
 obtain ⟨E,hE⟩:∃E,E=exprF ts ⟨0,[],0,0⟩:=⟨_,rfl⟩
 have q0:PsOk (st.length+3) (st.length+5) ts (.lst 7 [] .tight) 0 (st++[zOut,zFlt,.cells none [.int .i64 0]]++[zOut,zFlt,.cells none (psCs ts (.lst 7 [] .tight) 0 ⟨0,[],0,0⟩ [] .tight)]) ⟨0,[],0,0⟩:=by
  refine ⟨⟨[],.tight,by simp [psCs],rfl,.nil,fun _=>rfl⟩,?_,by omega,hpos,by simp,htk,by omega,rfl⟩
  have:=((ho.snoc (o:=zOut) rfl).snoc (o:=zFlt) rfl).snoc (o:=.cells none (psCs ts (.lst 7 [] .tight) 0 ⟨0,[],0,0⟩ [] .tight)) (by simp [AObj.lowB,psCs,AV.lowsB,AV.lowB,toks_low])
  simpa using this
 obtain ⟨s',k,h⟩:=rule48 q0 (c:=st.length+2) (by omega) (v:=.int .i64 0) (by simp)
 rw [←hE] at h
 obtain ⟨st1,hst1⟩:∃st1,st1=if E.2.c=0 then (st++[zOut,zFlt,.cells none [.int .i64 0]]).set (st.length+2) (.cells none [.int .i64 E.1]) else st++[zOut,zFlt,.cells none [.int .i64 0]]:=⟨_,rfl⟩
 have ho1:StOk st1:=by rw [hst1];split;exact ho.set' rfl;exact ho
 have hk3:=k.k (st.length+3) zOut (by omega) (by simp) nofun
 have hk4:=k.k (st.length+4) zFlt (by omega) (by simp) nofun
 have htk3:s'.take (st.length+3)=st++[zOut,zFlt,.cells none [.int .i64 0]]:=by rw [k.g.take];rw [←hlen,List.take_append_of_le_length (Nat.le_refl _),List.take_length]
 have cc:=read_call (s:=s) hs hP (g:=48) (fi:=[]) (ca:=[.ptr (st.length+2) 0]) ho ho1 (R':=E.2) (dv:=.lst 7 [] .tight) (DV:=.lst 7 [] .tight) rfl (fun S=>by simp [AV.still,AV.stills]) (by
  rw [hlen]
  rcases h with ⟨h0,c1,q1⟩ | ⟨h0,c1⟩
  ·refine ⟨s'.set (st.length+2) (.cells none [.int .i64 E.1]),?_,?_,?_,.inl ⟨h0,c1,q1⟩⟩
   ·rw [hst1,if_pos h0,List.take_set,htk3]
   ·rw [List.getElem?_set_ne (by omega)];exact hk3
   ·rw [List.getElem?_set_ne (by omega)];exact hk4
  ·exact ⟨s',by rw [hst1,if_neg h0];exact htk3,hk3,hk4,.inr ⟨h0,c1⟩⟩)
 clear h hk3 hk4 htk3 k q0 s' ho1
 obtain ⟨Z,hZ⟩:∃Z,Z=endR ts E.2:=⟨_,rfl⟩
 rw [←hZ] at cc
 have hZc:Z.c=0→E.2.c=0:=by
  intro h;rw [hZ] at h;unfold endR at h;split at h
  ·rename_i h2;exact h2.1
  ·exact h
 have hQ:parseF s true=if Z.c=0 then (⟨[],endAp 0,Z.xs,endAp Z.xs.length⟩,E.1,0,0) else (noPg,0,Z.c,Z.b):=by simp [parseF,hbig,hlx,readF,←hE,←hZ]
 have hX:Z.c=0→Z.xs=E.2.xs:=by
  intro h;rw [hZ] at h ⊢;unfold endR at h ⊢;split
  ·rename_i h2;rw [if_pos h2] at h;simp [failR,h2.1] at h
  ·rfl
 rw [hQ]
 by_cases hz:Z.c=0
 ·rw [if_pos hz]
  simp only [hz,if_true,hst1,hZc hz,zOut,zFlt,progAv,←hX hz] at cc
  simp at cc
  refine (task_of_aw (N:=22) prim23 fn23 rfl rfl hst ?_).1
  intro e he ha K hK
  have a0:=ha 0
  clear ha
  simp at a0
  simp [a23,he,a0,cc,Ai.beq_refl]
  exact hK _ _ _ (.inl rfl) (by simp) ⟨[.agg [.lst 7 [] .tight,.lst 9 (Z.xs.map Ex.av) (endAp Z.xs.length)],.int .i64 E.1,.agg [.int .i64 0,.int .i64 0]],by simp [a23,resultsA,res_cell,he,takeVar],by
   have hok:=(parse_ok s true).1.ex
   rw [hQ,if_pos hz] at hok
   have hx:∀n S,AV.stills n S (Z.xs.map Ex.av)=some (Z.xs.map Ex.av):=fun n S=>stills_of fun x hx=>by obtain ⟨i,hi,rfl⟩:=List.mem_map.1 hx;exact ex_still (hok i (by assumption)) _ _
   rcases (endAp_still Z.xs.length).or with e | e<;>simp [oneOf,AV.still,AV.stills,AV.lowB,Pg.av,hx,e,show endAp 0=.tight from rfl]⟩
 ·rw [if_neg hz]
  simp only [hz,if_false,hst1,zOut,zFlt,zProg] at cc
  refine (task_of_aw (N:=22) prim23 fn23 rfl rfl hst ?_).1
  intro e he ha K hK
  have a0:=ha 0
  clear ha
  simp at a0
  by_cases hc:E.2.c=0
  ·simp [hc] at cc
   simp [a23,he,a0,cc,hz,Ai.beq_refl]
   exact hK _ _ _ (.inl rfl) (by simp) ⟨[.agg [.lst 7 [] .tight,.lst 9 [] .tight],.int .i64 0,.agg [.int .i64 Z.c,.int .i64 Z.b]],by simp [a23,resultsA,res_cell,he,takeVar],by simp [oneOf,AV.still,AV.stills,AV.lowB,noPg,Pg.av]⟩
  ·simp [hc] at cc
   simp [a23,he,a0,cc,hz,Ai.beq_refl]
   exact hK _ _ _ (.inl rfl) (by simp) ⟨[.agg [.lst 7 [] .tight,.lst 9 [] .tight],.int .i64 0,.agg [.int .i64 Z.c,.int .i64 Z.b]],by simp [a23,resultsA,res_cell,he,takeVar],by simp [oneOf,AV.still,AV.stills,AV.lowB,noPg,Pg.av]⟩
end Go.Proofs.YtgkhmmlemgikjaaGreatDoor
namespace Go.Proofs.YtgkhmmlemgikjaaGreatDoor
open Go Ai
theorem fn24:A.fn 24=some a24:=by kernel_rfl
theorem prim24:A.prim 24=none:=by kernel_rfl
def w24_0:List Nat:=a24_0.writes
def w24_1:List Nat:=a24_1.writes
def w24_2:List Nat:=a24_2.writes
def w24_3:List Nat:=a24_3.writes
def w24_4:List Nat:=a24_4.writes
theorem fn50:A.fn 50=some a50:=by kernel_rfl
theorem prim50:A.prim 50=none:=by kernel_rfl
def w50_0:List Nat:=a50_0.writes
theorem ints_same {a:List Int} {p:Ap} (ha':a.length≤1048576) {st:St} (hst:StOk st) :
  runL A (.call 50 [.lst 1 (ints a) p,.lst 1 (ints a) p]) st=some ⟨.ret,⟨[.bool true],[]⟩,st⟩:=by
 refine (task_of_aw (N:=26) prim50 fn50 rfl rfl hst ?_).1
 intro e he ha K hK
 have a0:=ha 0
 have a1:=ha 1
 clear ha
 simp at a0 a1
 simp [a50,he,a0,a1,ints_length]
 refine aw_loop (W:=w50_0) rfl (fun m e ds st'=>ds=[]∧st'=st∧∃i:Nat,i+m=a.length∧AX.ev e (.t 5)=.int .i64 i) a.length
  ⟨rfl,rfl,0,by simp,by simp [he]⟩ ?_
 rintro m e1 ds st' hs ⟨rfl,rfl,i,hm,g5⟩ K1 kn kx
 have he1:e1.length=26:=by simp [hs.1,he]
 have g0:=hs.ev 0 rfl (v:=.lst 1 (ints a) p) (by simp [he,a0])
 have g1:=hs.ev 1 rfl (v:=.lst 1 (ints a) p) (by simp [he,a1])
 by_cases hi:i<a.length
 ·obtain ⟨x,hx⟩:∃x,x=a[i]:=⟨_,rfl⟩
  have hgx:=ints_get hi
  rw [←hx] at hgx
  have w1:IntKind.i64.wrap ((i:Int)+1)=(i:Int)+1:=wrap_i64 (by omega) (by omega)
  simp [a50_0,g0,g1,g5,he1,hi,hgx,ints_length,w1]
  exact kn (m-1) _ _ _ (by omega) ⟨rfl,rfl,i+1,by omega,by simp [he1]⟩
 ·simp [a50_0,g0,g5,he1,hi,ints_length]
  refine kx _ _ _ _ nofun fun hs'=>?_
  simp [he1]
  exact hK _ _ _ (.inl rfl) (by simp) ⟨_,rfl,by simp [he1,AV.still]⟩
theorem strs_get' {l:List Sx} {i:Nat} (h:i<l.length):(strs l)[i]'(by simpa [strs] using h)=.str l[i]:=by simp [strs]
theorem its_get {l:List It} {i:Nat} (h:i<l.length):(l.map It.av)[i]'(by simpa using h)=.agg l[i].cs:=by simp [It.av]
theorem ps_get {l:List Pm} {i:Nat} (h:i<l.length):(l.map Pm.av)[i]'(by simpa using h)=.agg [.str l[i].n,.int .i64 l[i].t]:=by simp [Pm.av]
theorem eq_pm (a:Sx) (b:Int):eqCells [1,0] [.str a,.int .i64 b] [.str a,.int .i64 b]=some true:=by
 simp [eqCells,keyKind,sameKey]
end Go.Proofs.YtgkhmmlemgikjaaGreatDoor
namespace Go.Proofs.YtgkhmmlemgikjaaGreatDoor
open Go Ai
theorem fn22:A.fn 22=some a22:=by kernel_rfl
theorem prim22:A.prim 22=none:=by kernel_rfl
def exS:Sx:=[49,32,43,32,50,32,42,32,120]
theorem exS_ok:(match parseF exS true with | (p,e,c,_)=>decide (c=0) && decide (e=4) && decide (p.xs.length=5) && (match p.xs with | [_,_,x,y,_]=>decide (x.n=[120]) && decide (y.k=8) | _=>false))=true:=by kernel_rfl
theorem alive_call {st:St} (hst:StOk st):runL A (.call 22 []) st=some ⟨.ret,⟨[.bool true],[]⟩,st⟩:=by
 have cc:=expr_call (s:=exS) (by decide) hst
 have h:=exS_ok
 obtain ⟨P,hP⟩:∃P,P=parseF exS true:=⟨_,rfl⟩
 rw [←hP] at cc h
 obtain ⟨⟨ds,dap,xs,xap⟩,e0,c,b⟩:=P
 simp only [Bool.and_eq_true,decide_eq_true_eq] at h
 obtain ⟨⟨⟨hc,he0⟩,hl⟩,h⟩:=h
 match xs,hl with
 | [x0,x1,x2,x3,x4],_ =>
 simp only [Bool.and_eq_true,decide_eq_true_eq] at h
 obtain ⟨h2,h3⟩:=h
 subst hc;subst he0
 simp only [exS,Pg.av,List.map_cons,List.map_nil,Ex.av,Ex.cs,h2,h3] at cc
 refine (task_of_aw (N:=38) prim22 fn22 rfl rfl hst ?_).1
 intro e he ha K hK
 simp [a22,he,cc]
 exact hK _ _ _ (.inl rfl) (by simp) ⟨_,rfl,by simp [he,AV.still]⟩
theorem noPg_may:may4 noPg=true:=by kernel_rfl
theorem parse_may (s:Sx) (ex:Bool):may4 (parseF s ex).1=true:=by
 by_cases h:(parseF s ex).2.2.1=0
 ·have:=((parse_ok s ex).2 h).1
  unfold may7 at this
  exact (Bool.and_eq_true_iff.1 this).2
 ·unfold parseF at h ⊢
  split
  ·exact noPg_may
  rename_i hs
  rw [if_neg hs] at h
  cases hl:Lx.lexK s 0 with
  | error p=>exact noPg_may
  | ok ts =>
   simp only [hl] at h ⊢
   split
   ·rename_i hq;rw [if_pos hq] at h;exact absurd rfl h
   ·exact noPg_may
end Go.Proofs.YtgkhmmlemgikjaaGreatDoor
