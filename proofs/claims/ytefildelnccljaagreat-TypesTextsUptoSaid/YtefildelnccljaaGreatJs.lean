/- Part Js. No condition. -/
import Derived.Test.YtefildelnccljaaGreatJq
import Derived.Test.YtefildelnccljaaGreatEc
set_option linter.unusedVariables false
set_option linter.unusedSimpArgs false
namespace Go.Proofs.YtefildelnccljaaGreat
open Go Ai
theorem fn6:A.fn 6=some a6:=by kernel_rfl
theorem prim6:A.prim 6=none:=by kernel_rfl
def w6_0:List Nat:=a6_0.writes
def hybN (l:List Dc):Nat:=(l.filter fun d=>decide (d.k=3)).length
theorem decls_hyb (p:Pg):∀(l:List Dc) (n h:Nat),h≤1→declsF p l n h=[]→h+hybN l=1
 | [],n,h,hl,e=>by
  simp only [declsF] at e
  split at e
  ·cases e
  ·simp [hybN];omega
 | d::l,n,h,hl,e=>by
  simp only [declsF,List.append_eq_nil_iff] at e
  obtain ⟨⟨e1,_⟩,e3⟩:=e
  have h1:stepH d h≤1:=by
   unfold headF at e1
   split at e1
   ·cases e1
   ·rename_i hn
    by_cases hk:d.k=3
    ·by_cases h2:1<stepH d h
     ·exact absurd (.inl ⟨hk,h2⟩) hn
     ·omega
    ·simp [stepH,hk];exact hl
  have:=decls_hyb p l (n+1) (stepH d h) h1 e3
  unfold hybN at *
  by_cases hk:d.k=3
  ·simp [stepH,hk] at this ⊢;omega
  ·simp [stepH,hk] at this ⊢;omega
theorem right_hyb {p:Pg} (h:rightN p=true):hybN p.ds=1:=by
 simp only [rightN,Bool.and_eq_true,decide_eq_true_eq] at h
 obtain ⟨hm,hl⟩:=h
 rw [faultsN,if_pos hm] at hl
 have e:declsF p p.ds 0 0=[]:=by
  cases hd:declsF p p.ds 0 0 with
  | nil=>rfl
  | cons x l =>
   have:((4:Int),x)∈orderF (ats (declsF p p.ds 0 0)):=(orderF_mem _ _).2 (by rw [hd];simp [ats])
   rw [List.eq_nil_of_length_eq_zero hl] at this
   cases this
 have:=decls_hyb p p.ds 0 0 (by omega) e
 omega
theorem drop_cons_get {α:Type} {l:List α} {i:Nat} (h:i<l.length):l.drop i=l[i]::l.drop (i+1):=List.drop_eq_getElem_cons h
theorem textsLaw {s:Sx} (hs:s.length≤281474976710656):runL A (.seqc 6 [.str s]) []=some ⟨.ret,⟨[.bool true],[]⟩,[]⟩:=by
 have h24:=parse_call hs false (st:=[]) StOk.nil
 obtain ⟨hp,hmay⟩:=parse_ok s false
 generalize parseF s false=P at *
 obtain ⟨p,e0,c,b⟩:=P
 simp only [] at h24 hp hmay
 have o1:StOk [AObj.cells none [.lst 7 (p.ds.map Dc.av) p.dap,.lst 9 (p.xs.map Ex.av) p.xap],.cells none [.int .i64 c,.int .i64 b]]:=by
  have:=Pg.low hp 2
  simp only [Pg.av,AV.lowB] at this
  simp only [StOk,List.all_cons,List.all_nil,AObj.lowB,List.length_cons,List.length_nil,this]
  rfl
 have h18:=great_call hp o1
 simp only [Pg.av] at h24 h18
 by_cases hc:c=0
 ·have hm:=(hmay hc).1
  subst hc
  cases hg:greatF p with
  | true =>
   rw [hg] at h18
   refine (task_of_aw (N:=53) prim6 fn6 rfl rfl StOk.nil ?_).2
   intro e he ha K hK
   have a0:=ha 0
   clear ha
   simp at a0
   simp [a6,he,a0,alive_call,h24,h18]
   exact hK _ _ _ (.inl rfl) (by simp) ⟨_,rfl,by simp [he]⟩
  | false =>
   rw [hg] at h18
   have hM:=faults_small hg
   have h20:=faults20_call hp (fun hm=>⟨may_sound hp hm,hM⟩) o1
   have h21:=right21_call hp (fun hm=>⟨may_sound hp hm,hM⟩) o1
   obtain ⟨ap,hap,h22⟩:=refFaults_call (may_sound hp hm) hM o1
   have hfl:=faultsN_len hM
   have h16:=same_call (a:=faultsN p) (b:=faultsN p) (p:=faultsAp p) (q:=ap) (by omega) (by omega) o1
   have hlen:=hp.ds
   simp only [Pg.av] at h20 h21 h22
   simp only [decide_true] at h16
   refine (task_of_aw (N:=53) prim6 fn6 rfl rfl StOk.nil ?_).2
   intro e he ha K hK
   have a0:=ha 0
   clear ha
   simp at a0
   simp [a6,he,a0,alive_call,h24,h18]
   generalize hEv:(List.set _ 7 _:Env)=Ev
   have heE:Ev.length=53:=by subst hEv;simp [he]
   have b3:AX.ev Ev (.t 3)=.ptr 0 0:=by subst hEv;simp [he]
   have b6:AX.ev Ev (.t 6)=.int .i64 0:=by subst hEv;simp [he]
   have b7:AX.ev Ev (.t 7)=.int .i64 0:=by subst hEv;simp [he]
   clear hEv
   generalize hS:([AObj.cells none _,_]:St)=S0 at *
   have g0:S0[0]?=some (AObj.cells none [.lst 7 (p.ds.map Dc.av) p.dap,.lst 9 (p.xs.map Ex.av) p.xap]):=by subst hS;rfl
   refine aw_loop (W:=w6_0) rfl (fun m e ds s=>ds=[]∧s=S0∧∃(i n:Nat),i+m=p.ds.length∧n≤i∧n+hybN (p.ds.drop i)=hybN p.ds∧AX.ev e (.t 7)=.int .i64 i∧AX.ev e (.t 6)=.int .i64 n) p.ds.length ⟨rfl,rfl,0,0,by simp,by simp,by simp,b7,b6⟩ ?_
   clear b6 b7
   rintro m e1 ds s1 hs ⟨rfl,rfl,i,n,hm,hn,hh,b7,b6⟩ K1 kn kx
   have he1:e1.length=53:=by simp [hs.1,heE]
   have b3:=hs.ev 3 rfl b3
   by_cases hi:i<p.ds.length
   ·have hgv:(p.ds.map Dc.av)[i]'(by simpa using hi)=.agg p.ds[i].cs:=by simp [Dc.av]
    rw [drop_cons_get hi] at hh
    generalize p.ds[i]=d at *
    simp only [Dc.cs] at hgv
    have w1:IntKind.i64.wrap ((i:Int)+1)=(i:Int)+1:=wrap_i64 (by omega) (by omega)
    have w2:IntKind.i64.wrap ((n:Int)+1)=(n:Int)+1:=wrap_i64 (by omega) (by omega)
    by_cases hk:d.k=3
    ·simp [a6_0,b3,b6,b7,he1,g0,hi,hgv,hk,w1,w2]
     refine kn (m-1) _ _ _ (by omega) ⟨rfl,rfl,i+1,n+1,by omega,by omega,by simp [hybN,hk] at hh ⊢;omega,by simp [he1],by simp [he1]⟩
    ·simp [a6_0,b3,b6,b7,he1,g0,hi,hgv,hk,w1]
     refine kn (m-1) _ _ _ (by omega) ⟨rfl,rfl,i+1,n,by omega,by omega,by simpa [hybN,hk] using hh,by simp [he1],by simp [he1,b6]⟩
   ·have hd:p.ds.drop i=[]:=List.drop_eq_nil_of_le (by omega)
    rw [hd] at hh
    have hh:n=hybN p.ds:=by simpa [hybN] using hh
    simp [a6_0,b3,b7,he1,g0,hi]
    refine kx _ _ _ _ nofun fun hs'=>?_
    cases hr:rightN p with
    | false =>
     rw [hr] at h21
     simp [he1,b3,b6,g0,h20,h22,h16,h21,Ai.beq_refl]
     exact hK _ _ _ (.inl rfl) (by simp) ⟨_,rfl,by simp [he1]⟩
    | true =>
     rw [hr] at h21
     have h1:=right_hyb hr
     have h1':n=1:=by omega
     subst h1'
     simp [he1,b3,b6,g0,h20,h22,h16,h21,Ai.beq_refl]
     exact hK _ _ _ (.inl rfl) (by simp) ⟨_,rfl,by simp [he1]⟩
 ·refine (task_of_aw (N:=53) prim6 fn6 rfl rfl StOk.nil ?_).2
  intro e he ha K hK
  have a0:=ha 0
  clear ha
  simp at a0
  simp [a6,he,a0,alive_call,h24,hc]
  exact hK _ _ _ (.inl rfl) (by simp) ⟨_,rfl,by simp [he]⟩
set_option maxRecDepth 100000 in
theorem runsNamesTexts (avs:List AV) (h:ArgsOf Tryz.prog 8 Tryz.f6.params.toList avs) (hb:AV.bulks avs≤1048576):∃st ds,runL A (.seqc 6 avs) []=some ⟨.ret,⟨[.bool true],ds⟩,st⟩:=by
 rw [Tryz.params6] at h
 simp only [ArgsOf] at h
 obtain ⟨a,_,rfl,h1,rfl⟩:=h
 obtain ⟨s,rfl,hs⟩:=ofType_str Tryz.underlying9 h1
 exact ⟨_,_,textsLaw (by simp only [AV.bulks,AV.bulk] at hb;omega)⟩
end Go.Proofs.YtefildelnccljaaGreat
