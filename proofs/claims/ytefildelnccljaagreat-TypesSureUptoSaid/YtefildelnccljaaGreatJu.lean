/- Part Ju. No condition. -/
import Derived.Test.YtefildelnccljaaGreatJv
import Derived.Test.YtefildelnccljaaGreatEc
set_option linter.unusedVariables false
set_option linter.unusedSimpArgs false
namespace Go.Proofs.YtefildelnccljaaGreat
open Go Ai
theorem fn11:A.fn 11=some a11:=by kernel_rfl
theorem prim11:A.prim 11=none:=by kernel_rfl
def w11_0:List Nat:=a11_0.writes
def w11_1:List Nat:=a11_1.writes
set_option maxRecDepth 10000 in
set_option maxHeartbeats 4000000 in
theorem typesSureLaw {s:Sx} (hs:s.length≤281474976710656):runL A (.seqc 11 [.str s]) []=some ⟨.ret,⟨[.bool true],[]⟩,[]⟩:=by
 have h24:=parse_call hs false (st:=[]) StOk.nil
 obtain ⟨hp,hmay⟩:=parse_ok s false
 have hty:=parse_ty s false
 generalize parseF s false=P at *
 obtain ⟨p,e0,c,b⟩:=P
 simp only [] at h24 hp hmay hty
 have o1:StOk [AObj.cells none [.lst 7 (p.ds.map Dc.av) p.dap,.lst 9 (p.xs.map Ex.av) p.xap],.cells none [.int .i64 c,.int .i64 b]]:=by
  have:=Pg.low hp 2
  simp only [Pg.av,AV.lowB] at this
  simp only [StOk,List.all_cons,List.all_nil,AObj.lowB,List.length_cons,List.length_nil,this]
  rfl
 have h34:=great8_call hp o1
 simp only [Pg.av] at h24 h34
 by_cases hc:c=0
 ·subst hc
  cases hg:great8 p with
  | true =>
   rw [hg] at h34
   refine (task_of_aw (N:=159) prim11 fn11 rfl rfl StOk.nil ?_).2
   intro e he ha K hK
   have a0:=ha 0
   clear ha
   simp at a0
   simp [a11,he,a0,alive8_call,h24,h34]
   exact hK _ _ _ (.inl rfl) (by simp) ⟨_,rfl,by simp [he]⟩
  | false =>
   rw [hg] at h34
   obtain ⟨hg1,_⟩:=small8 hg
   have hN:=faults_small hg1
   have hM:=allT_small hg1
   have hI6:∀d∈p.ds,d.its.length≤600:=fun d hd=>((small_its hg1).2.2 d hd).1
   have h37:=right37_call hp hN hM hI6 o1
   cases hr:rightT p with
   | false =>
    rw [hr] at h37
    simp only [Pg.av] at h37
    refine (task_of_aw (N:=159) prim11 fn11 rfl rfl StOk.nil ?_).2
    intro e he ha K hK
    have a0:=ha 0
    clear ha
    simp at a0
    simp [a11,he,a0,alive8_call,h24,h34,h37]
    exact hK _ _ _ (.inl rfl) (by simp) ⟨_,rfl,by simp [he]⟩
   | true =>
    rw [hr] at h37
    have hrN:=(right_allT hr).1
    have hS:=right_sound hp hrN
    have hlen:=hp.ds
    have hxl:=hp.xs
    simp only [Pg.av] at h37
    refine (task_of_aw (N:=159) prim11 fn11 rfl rfl StOk.nil ?_).2
    intro e he ha K hK
    have a0:=ha 0
    clear ha
    simp at a0
    simp [a11,he,a0,alive8_call,h24,h34,h37]
    generalize hEv:(List.set _ 6 _:Env)=Ev
    have heE:Ev.length=159:=by subst hEv;simp [he]
    have b3:AX.ev Ev (.t 3)=.ptr 0 0:=by subst hEv;simp [he]
    have b6:AX.ev Ev (.t 6)=.int .i64 0:=by subst hEv;simp [he]
    clear hEv
    generalize hS0:([AObj.cells none _,_]:St)=S0 at *
    have g0:S0[0]?=some (AObj.cells none [.lst 7 (p.ds.map Dc.av) p.dap,.lst 9 (p.xs.map Ex.av) p.xap]):=by subst hS0;rfl
    have f0:∀{s2:St},Fit S0 s2→s2[0]?=some (AObj.cells none [.lst 7 (p.ds.map Dc.av) p.dap,.lst 9 (p.xs.map Ex.av) p.xap]):=fun h=>h.get g0
    refine aw_loop (W:=w11_1) rfl (fun m e ds s=>ds=[]∧Fit S0 s∧∃i:Nat,i+m=p.ds.length∧AX.ev e (.t 6)=.int .i64 i) p.ds.length ⟨rfl,.refl o1,0,by simp,b6⟩ ?_
    clear b6
    rintro m e1 ds s1 hs ⟨rfl,hf,i,hm,b6⟩ K1 kn kx
    have he1:e1.length=159:=by simp [hs.1,heE]
    have b3:=hs.ev 3 rfl b3
    have g1:=f0 hf
    by_cases hi:i<p.ds.length
    ·have hD:=List.getElem_mem hi
     have hdo:=hp.dc _ hD
     have hgv:(p.ds.map Dc.av)[i]'(by simpa using hi)=.agg p.ds[i].cs:=by simp [Dc.av]
     have hin:Inside p (rootsF p.ds[i]):=by rw [←roots_may hS.may hD];exact hS.inside _ hD
     have h39:=refReached_call hp hdo hS.ahead hin hf.ok
     rw [←roots_may hS.may hD] at h39
     have h40:=all40_call hp hN (d:=(i:Int)) hf.ok
     have hall:allF p (i:Int)=tysF p (varsF p.ds[i]):=by
      have ht:thereF p (i:Int)=true:=by simp [thereF,hS.may,hi]
      simp [allF,hrN,hi,varsP,ht]
     rw [hall] at h40
     have law:=fun (e:Nat) (he:e<p.xs.length) hb=>sure_law hS hr hty hD he hb
     have hTl:=tysF_len p (varsF p.ds[i])
     have hBl:=reachF_len p (rootsN p.ds[i])
     generalize tysF p (varsF p.ds[i])=T at *
     generalize reachF p (rootsN p.ds[i])=B at *
     simp only [Pg.av,Dc.av,Dc.cs] at h39 h40 hgv
     have w1:IntKind.i64.wrap ((i:Int)+1)=(i:Int)+1:=wrap_i64 (by omega) (by omega)
     simp [a11_1,b3,b6,he1,g1,hi,hgv,h39,h40,Ai.beq_refl,ints_length,hTl]
     generalize hEv:(List.set _ 9 _:Env)=E2
     have he2:E2.length=159:=by subst hEv;simp [he1]
     have b3:AX.ev E2 (.t 3)=.ptr 0 0:=by subst hEv;simp [he1,b3]
     have b6:AX.ev E2 (.t 6)=.int .i64 i:=by subst hEv;simp [he1,b6]
     have b7:AX.ev E2 (.t 7)=.lst 1 (bools B) .no:=by subst hEv;simp [he1]
     have b8:AX.ev E2 (.t 8)=.lst 1 (ints T) (allAp p i):=by subst hEv;simp [he1]
     have b9:AX.ev E2 (.t 9)=.int .i64 0:=by subst hEv;simp [he1]
     clear hEv h39 h40 hgv hall
     refine aw_loop (W:=w11_0) rfl (fun m e ds s=>ds=[]∧Fit S0 s∧∃j:Nat,j+m=p.xs.length∧AX.ev e (.t 9)=.int .i64 j) p.xs.length ⟨rfl,hf,0,by simp,b9⟩ ?_
     clear b9
     rintro m2 e2 ds s2 hs2 ⟨rfl,hf2,j,hm2,b9⟩ K2 kn2 kx2
     have he3:e2.length=159:=by simp [hs2.1,he2]
     have b3:=hs2.ev 3 rfl b3
     have b6:=hs2.ev 6 rfl b6
     have b7:=hs2.ev 7 rfl b7
     have b8:=hs2.ev 8 rfl b8
     have g2:=f0 hf2
     by_cases hj:j<p.xs.length
     ·have hgx:(p.xs.map Ex.av)[j]'(by simpa using hj)=.agg p.xs[j].cs:=by simp [Ex.av]
      have hlw:=hp.ex _ (List.getElem_mem hj)
      have hA:=hS.ahead j hj
      have lawj:=law j hj
      have hf3:Fit S0 (s2++[.cells none p.xs[j].cs]):=hf2.cells (Ex.low hlw _)
      generalize p.xs[j]=x at *
      simp only [Ex.cs] at hgx hf3
      have hjB:j<B.length:=by omega
      have hjT:j<T.length:=by omega
      have w2:IntKind.i64.wrap ((j:Int)+1)=(j:Int)+1:=wrap_i64 (by omega) (by omega)
      have hkn:∀e3:Env,e3.length=159→AX.ev e3 (.t 9)=.int .i64 ((j:Int)+1)→K2 .nrm e3 [] (s2++[.cells none [.int .i64 x.k,.int .i64 x.a,.int .i64 x.b,.int .i64 x.c,.str x.n,.str x.s,.int .i64 x.v,.lst 1 (ints x.args) x.ap,.int .i64 x.p]]) :=
       fun e3 _ h9=>kn2 (m2-1) _ _ _ (by omega) ⟨rfl,hf3,j+1,by omega,h9⟩
      have hBj:(bools B)[j]'(by rw [bools_length];exact hjB)=.bool B[j]:=by simp [bools]
      have hTj:=ints_get hjT
      cases hb:B[j] with
      | false =>
       rw [hb] at hBj
       simp [a11_0,b3,b7,b8,b9,he3,g2,hj,hgx,hBj,bools_length,hBl,w2]
       exact hkn _ (by simp [he3]) (by simp [he3])
      | true =>
       rw [hb] at hBj
       obtain ⟨l1,l2,l3,l4⟩:=lawj (by simp [hjB,hb])
       have hg:∀i,i<T.length→T.getD i 0=T[i]?.getD 0:=fun i _=>by simp
       simp only [List.getD_eq_getElem?_getD,List.getElem?_eq_getElem hjT,Option.getD_some] at l1 l2
       generalize T[j]=tj at *
       have n1:(tj=1∨¬tj=1∧tj=2):=by rcases l1 with h | h<;>omega
       have part:∀k∈partsF x,∃(a:Nat) (h:a<T.length),k=a∧T[k.toNat]?.getD 0=T[a]:=fun k hk=>by
        have:=hA k hk
        obtain ⟨a,rfl⟩:=Int.eq_ofNat_of_zero_le this.1
        exact ⟨a,by omega,rfl,by simp [show a<T.length by omega]⟩
       by_cases k15:x.k=15
       ·have hp3:partsF x=[x.a,x.b,x.c]:=by simp [partsF,manyF,k15]
        obtain ⟨a,ha',ea,ta⟩:=part x.a (by simp [hp3])
        have ha2:a<p.xs.length:=by omega
        obtain ⟨b,hb',eb,tb⟩:=part x.b (by simp [hp3])
        have hb2:b<p.xs.length:=by omega
        obtain ⟨c,hc',ec,tc⟩:=part x.c (by simp [hp3])
        have hc2:c<p.xs.length:=by omega
        obtain ⟨m1,m2',m3⟩:=l2 k15
        rw [ta] at m1
        rw [tb,tc] at m2'
        rw [tb] at m3
        have ga:=ints_get ha'
        have gb:=ints_get hb'
        have gc:=ints_get hc'
        rw [m1] at ga
        rw [←m2',←m3] at gc
        rw [←m3] at gb
        rw [k15,ea,eb,ec] at hgx hkn
        rcases n1 with rfl | ⟨h0,rfl⟩<;>simp [a11_0,b3,b7,b8,b9,he3,g2,hj,hgx,hBj,hTj,bools_length,ints_length,hBl,hTl,hjT,w2,ga,gb,gc,ha2,hb2,hc2,Ai.beq_refl]<;>exact hkn _ (by simp [he3]) (by simp [he3])
       by_cases k6:x.k=6
       ·have hp3:partsF x=[x.a,x.b]:=by simp [partsF,manyF,k6]
        obtain ⟨a,ha',ea,ta⟩:=part x.a (by simp [hp3])
        have ha2:a<p.xs.length:=by omega
        obtain ⟨b,hb',eb,tb⟩:=part x.b (by simp [hp3])
        have hb2:b<p.xs.length:=by omega
        obtain ⟨m1,m2'⟩:=l3 k6
        rw [List.getD_eq_getElem?_getD] at m1 m2'
        rw [ta] at m1
        rw [tb] at m2'
        have ga:=ints_get ha'
        have gb:=ints_get hb'
        rw [m1] at ga
        rw [m2'] at gb
        rw [k6,ea,eb] at hgx hkn
        rcases n1 with rfl | ⟨h0,rfl⟩<;>simp [a11_0,b3,b7,b8,b9,he3,g2,hj,hgx,hBj,hTj,bools_length,ints_length,hBl,hTl,hjT,w2,ga,gb,ha2,hb2,Ai.beq_refl]<;>exact hkn _ (by simp [he3]) (by simp [he3])
       by_cases k18:x.k=18
       ·have hp3:partsF x=[x.a,x.b]:=by simp [partsF,manyF,k18]
        obtain ⟨a,ha',ea,ta⟩:=part x.a (by simp [hp3])
        have ha2:a<p.xs.length:=by omega
        obtain ⟨b,hb',eb,tb⟩:=part x.b (by simp [hp3])
        have hb2:b<p.xs.length:=by omega
        have m1:=l4 k18
        rw [List.getD_eq_getElem?_getD,List.getD_eq_getElem?_getD,ta,tb] at m1
        have ga:=ints_get ha'
        have gb:=ints_get hb'
        rw [←m1] at gb
        rw [k18,ea,eb] at hgx hkn
        rcases n1 with rfl | ⟨h0,rfl⟩<;>simp [a11_0,b3,b7,b8,b9,he3,g2,hj,hgx,hBj,hTj,bools_length,ints_length,hBl,hTl,hjT,w2,ga,gb,ha2,hb2,Ai.beq_refl]<;>exact hkn _ (by simp [he3]) (by simp [he3])
       rcases n1 with rfl | ⟨h0,rfl⟩<;>simp [a11_0,b3,b7,b8,b9,he3,g2,hj,hgx,hBj,hTj,bools_length,ints_length,hBl,hTl,hjT,w2,k15,k6,k18,Ai.beq_refl]<;>exact hkn _ (by simp [he3]) (by simp [he3])
     ·simp [a11_0,b7,b9,he3,bools_length,hBl,hj]
      refine kx2 _ _ _ _ nofun fun hs'=>?_
      simp [he3,b6,w1]
      exact kn (m-1) _ _ _ (by omega) ⟨rfl,hf2,i+1,by omega,by simp [he3]⟩
    ·simp [a11_1,b3,b6,he1,g1,hi]
     refine kx _ _ _ _ nofun fun hs'=>?_
     simp [he1]
     exact hK _ _ _ (.inl rfl) (by simp) ⟨_,rfl,by simp [he1]⟩
 ·refine (task_of_aw (N:=159) prim11 fn11 rfl rfl StOk.nil ?_).2
  intro e he ha K hK
  have a0:=ha 0
  clear ha
  simp at a0
  simp [a11,he,a0,alive8_call,h24,hc]
  exact hK _ _ _ (.inl rfl) (by simp) ⟨_,rfl,by simp [he]⟩
set_option maxRecDepth 100000 in
theorem runsTypesSure (avs:List AV) (h:ArgsOf Tryz.prog 8 Tryz.f11.params.toList avs) (hb:AV.bulks avs≤1048576):∃st ds,runL A (.seqc 11 avs) []=some ⟨.ret,⟨[.bool true],ds⟩,st⟩:=by
 rw [Tryz.params11] at h
 simp only [ArgsOf] at h
 obtain ⟨a,_,rfl,h1,rfl⟩:=h
 obtain ⟨s,rfl,hs⟩:=ofType_str Tryz.underlying9 h1
 exact ⟨_,_,typesSureLaw (by simp only [AV.bulks,AV.bulk] at hb;omega)⟩
end Go.Proofs.YtefildelnccljaaGreat
