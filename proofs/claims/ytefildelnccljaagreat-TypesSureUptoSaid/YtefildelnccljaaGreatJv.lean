/- Part Jv. No condition. -/
import Derived.Test.YtefildelnccljaaGreatJq
import Derived.Test.YtefildelnccljaaGreatJo
set_option linter.unusedVariables false
set_option linter.unusedSimpArgs false
namespace Go.Proofs.YtefildelnccljaaGreat
open Go Ai
def Ty12 (t:Int):Prop:=t=1∨t=2
structure DcTy (d:Dc):Prop where
 ps:∀q∈d.ps,Ty12 q.t
 its:∀x∈d.its,(x.k=1∨x.k=4)→Ty12 x.t
 t:d.k≠3→Ty12 d.t
section
variable {L:List Tk}
theorem kind_ty {R:Rd}:Ty12 (kindR L R).1:=by unfold kindR;split;exact .inr rfl;exact .inl rfl
theorem pms_ty:∀(m:Nat) (l:List Pm) (R:Rd),(∀q∈l,Ty12 q.t)→∀q∈(pmsF L m l R).1,Ty12 q.t
 | 0,_,_,h=>h
 | m+1,l,R,h=>by
  have h1:∀q∈l++[⟨(nameR L R).1,(kindR L (wantR L [58] (nameR L R).2)).1⟩],Ty12 q.t:=fun q hq=>by
   rcases List.mem_append.1 hq with hq | hq
   ·exact h q hq
   ·rw [List.mem_singleton.1 hq];exact kind_ty
  rw [pmsF];simp only []
  split
  ·split
   ·exact pms_ty m _ _ h1
   ·exact h1
  ·exact h
theorem params_ty {R:Rd}:∀q∈(paramsF L R).1,Ty12 q.t:=by
 unfold paramsF;split
 ·simp
 ·exact pms_ty _ _ _ (by simp)
theorem itm_ty {all:Bool} {R:Rd} (h:(itmF L all R).1.1.k=1∨(itmF L all R).1.1.k=4):Ty12 (itmF L all R).1.1.t:=by
 unfold itmF at *
 simp only [] at *
 split
 ·exact kind_ty
 rename_i h1
 rw [if_neg h1] at h
 repeat' split at h
 all_goals first | (simp [finR] at h;done) | skip
 all_goals simp [*]
 all_goals exact kind_ty
theorem its_ty {all:Bool}:∀(m:Nat) (l:List It) (R:Rd),(∀x∈l,(x.k=1∨x.k=4)→Ty12 x.t)→∀x∈(itsF L all m l R).1,(x.k=1∨x.k=4)→Ty12 x.t
 | 0,_,_,h=>h
 | m+1,l,R,h=>by
  rw [itsF];simp only []
  split
  ·split
   ·refine its_ty m _ _ fun x hx=>?_
    rcases List.mem_append.1 hx with hx | hx
    ·exact h x hx
    ·rw [List.mem_singleton.1 hx];exact itm_ty
   ·exact h
  ·exact h
theorem dcl_ty {R:Rd}:DcTy (dclF L R).1:=by
 have key:∀{k p:Int} {R:Rd},DcTy (declB L k p R).1:=by
  intro k p R
  unfold declB;simp only []
  repeat' split
  ·exact ⟨params_ty,its_ty _ _ _ (by simp),fun h=>absurd rfl h⟩
  ·exact ⟨params_ty,by simp,fun _=>kind_ty⟩
  ·exact ⟨params_ty,its_ty _ _ _ (by simp),fun _=>kind_ty⟩
 unfold dclF;repeat' split
 all_goals exact key
theorem dcls_ty:∀(m:Nat) (l:List Dc) (R:Rd),(∀d∈l,DcTy d)→∀d∈(dclsF L m l R).1,DcTy d
 | 0,_,_,h=>h
 | m+1,l,R,h=>by
  rw [dclsF];split
  ·refine dcls_ty m _ _ fun d hd=>?_
   rcases List.mem_append.1 hd with hd | hd
   ·exact h d hd
   ·rw [List.mem_singleton.1 hd];exact dcl_ty
  ·exact h
end
theorem parse_ty (s:Sx) (ex:Bool):∀d∈(parseF s ex).1.ds,DcTy d:=by
 unfold parseF
 split
 ·simp [noPg]
 split
 ·simp [noPg]
 simp only []
 split
 ·cases ex
  ·simp only [readF,Bool.false_eq_true,if_false]
   exact dcls_ty _ _ _ (by simp)
  ·simp [readF]
 ·simp [noPg]
end Go.Proofs.YtefildelnccljaaGreat
namespace Go.Proofs.YtefildelnccljaaGreat
open Go Ai
theorem mark_get (ks:List Int):∀(bs:List Bool) (j:Nat),(markF bs ks).getD j false=true↔bs.getD j false=true∨(j<bs.length∧∃k∈ks,k.toNat=j):=by
 induction ks with
 | nil=>intro bs j;simp [markF]
 | cons k ks ih =>
  intro bs j
  have:=ih (bs.set k.toNat true) j
  simp only [markF,List.foldl_cons] at this ⊢
  rw [this,List.length_set]
  simp only [List.getD_eq_getElem?_getD,List.getElem?_set,List.mem_cons]
  by_cases h:k.toNat=j
  ·subst h
   by_cases hl:k.toNat<bs.length
   ·simp [hl]
   ·simp [hl]
  ·simp only [if_neg h]
   constructor
   ·rintro (h1 | ⟨h1,z,h2,h3⟩)
    ·exact .inl h1
    ·exact .inr ⟨h1,z,.inr h2,h3⟩
   ·rintro (h1 | ⟨h1,z,rfl | h2,h3⟩)
    ·exact .inl h1
    ·exact absurd h3 h
    ·exact .inr ⟨h1,z,h2,h3⟩
section
variable {xs:List Ex} (hA:∀(i:Nat) (h:i<xs.length),∀k∈partsF xs[i],0≤k∧k<(i:Int))
include hA
theorem down_above:∀(i:Nat) (bs:List Bool) (j:Nat),i≤j→i≤xs.length→((downF xs i bs).getD j false=true↔bs.getD j false=true)
 | 0,bs,j,_,_=>Iff.rfl
 | i+1,bs,j,hj,hi=>by
  rw [downF,down_above i _ j (by omega) (by omega)]
  split
  ·rw [mark_get]
   constructor
   ·rintro (h | ⟨_,k,hk,e⟩)
    ·exact h
    ·have hx:xs.getD i ex0=xs[i]:=by simp [show i<xs.length by omega]
     rw [hx] at hk
     have:=hA i (by omega) k hk
     omega
   ·exact .inl
  ·rfl
omit hA in
theorem down_keep:∀(i:Nat) (bs:List Bool) (j:Nat),bs.getD j false=true→(downF xs i bs).getD j false=true
 | 0,bs,j,h=>h
 | i+1,bs,j,h=>by
  rw [downF]
  refine down_keep i _ j ?_
  split
  ·rw [mark_get];exact .inl h
  ·exact h
theorem down_parts:∀(i:Nat) (bs:List Bool) (hb:bs.length=xs.length) (j:Nat) (hj:j<i) (hi:i≤xs.length),(downF xs i bs).getD j false=true→∀k∈partsF (xs[j]'(by omega)),(downF xs i bs).getD k.toNat false=true
 | i+1,bs,hb,j,hj,hi,h,k,hk=>by
  rw [downF] at h ⊢
  by_cases hji:j=i
  ·subst hji
   rw [down_above hA j _ j (Nat.le_refl _) (by omega)] at h
   have hb2:bs.getD j false=true:=by
    split at h
    ·assumption
    ·exact h
   refine down_keep j _ _ ?_
   rw [if_pos hb2,mark_get]
   have hx:xs.getD j ex0=xs[j]:=by simp [show j<xs.length by omega]
   have:=hA j (by omega) k hk
   exact .inr ⟨by omega,k,by rw [hx];exact hk,rfl⟩
  ·exact down_parts i _ (by split<;>simp [markF_len,hb]) j (by omega) (by omega) h k hk
end
theorem reach_parts {p:Pg} (hA:Ahead p) {rs:List Int} {e:Nat} (he:e<p.xs.length) (h:(reachF p rs).getD e false=true):∀k∈partsF p.xs[e],(reachF p rs).getD k.toNat false=true :=
 down_parts hA p.xs.length _ (by rw [markF_len];simp) e he (Nat.le_refl _) h
theorem reachW_nil {p:Pg} {T:List Int}:∀{bs:List Bool} {xs:List Ex},reachW p T bs xs=[]→∀(j:Nat) (h2:j<xs.length),bs.getD j false=true→∀y∈wantedF p T xs[j],T.getD y.1.toNat 0=y.2
 | b::bs,x::xs,h,0,_,hb,y,hy=>by
  simp only [reachW,List.append_eq_nil_iff] at h
  simp at hb;subst hb
  have h1:=h.1
  simp only [if_true,List.flatMap_eq_nil_iff] at h1
  have:=h1 y hy
  unfold badW at this
  split at this
  ·assumption
  ·cases this
 | b::bs,x::xs,h,j+1,hj,hb,y,hy=>by
  simp only [reachW,List.append_eq_nil_iff] at h
  exact reachW_nil h.2 j (by simpa using hj) (by simpa using hb) y hy
 | [],x::xs,_,j,_,hb,_,_=>by simp at hb
theorem right_allT {p:Pg} (h:rightT p=true):rightN p=true∧allT p=[]:=by
 simp only [rightT,Bool.and_eq_true,decide_eq_true_eq] at h
 refine ⟨h.1,?_⟩
 have h2:=h.2
 rw [faultsT,if_pos h.1] at h2
 cases hd:allT p with
 | nil=>rfl
 | cons x l =>
  have:((5:Int),x)∈orderF (ats5 (allT p)):=(orderF_mem _ _).2 (by rw [hd];simp [ats5])
  rw [List.eq_nil_of_length_eq_zero h2] at this
  cases this
theorem vars_ty {d:Dc} (h:DcTy d) {v:Vr} (hv:v∈varsF d) (hs:v.s≠5):Ty12 v.t:=by
 rcases List.mem_append.1 hv with hv | hv
 ·have:∀(ps:List Pm) (i:Int),v∈parV ps i→∃q∈ps,v.t=q.t:=by
   intro ps
   induction ps with
   | nil=>intro i h;cases h
   | cons q ps ih =>
    intro i h
    rw [parV] at h
    rcases List.mem_cons.1 h with rfl | h
    ·exact ⟨q,by simp,rfl⟩
    ·obtain ⟨q',h1,h2⟩:=ih _ h;exact ⟨q',by simp [h1],h2⟩
  obtain ⟨q,hq,e⟩:=this _ _ hv
  rw [e];exact h.ps q hq
 ·obtain ⟨j,hj,hm⟩:=itV_mem8 hv
  have hi:=h.its d.its[j] (List.getElem_mem hj)
  unfold makesF at hm
  repeat' split at hm
  all_goals first | cases hm
  ·exact hi (.inl (by assumption))
  ·exact .inl rfl
  ·exact hi (.inr (by assumption))
  ·exact absurd rfl hs
theorem sure_ty:∀k:Nat,1≤k→k≤21→k≠3→k≠15→k≠16→k≠17→k≠18→k≠19→sureF (k:Int)=1∨sureF (k:Int)=2:=by
 intro k h1 h2
 have:k=1∨k=2∨k=3∨k=4∨k=5∨k=6∨k=7∨k=8∨k=9∨k=10∨k=11∨k=12∨k=13∨k=14∨k=15∨k=16∨k=17∨k=18∨k=19∨k=20∨k=21:=by omega
 rcases this with h | h | h | h | h | h | h | h | h | h | h | h | h | h | h | h | h | h | h | h | h<;>subst h<;>decide
theorem wants_ok {p:Pg} (hT:rightT p=true) {D:Dc} (hD:D∈p.ds) {e:Nat} (he:e<p.xs.length) (hb:(reachF p (rootsN D)).getD e false=true):∀y∈wantedF p (tysF p (varsF D)) p.xs[e],(tysF p (varsF D)).getD y.1.toNat 0=y.2:=by
 have h1:=(right_allT hT).2
 simp only [allT,List.flatMap_eq_nil_iff] at h1
 have h2:=h1 D hD
 simp only [declT,List.append_eq_nil_iff] at h2
 exact reachW_nil h2.2 e he hb
section
variable {p:Pg} (hS:Sound p) (hT:rightT p=true) (hty:∀d∈p.ds,DcTy d) {D:Dc} (hD:D∈p.ds)
include hS hT hty hD
theorem sure_all:∀(n e:Nat),e<n→∀(he:e<p.xs.length),(reachF p (rootsN D)).getD e false=true→Ty12 ((tysF p (varsF D)).getD e 0):=by
 intro n
 induction n with
 | zero=>intro e h;omega
 | succ n ih =>
 intro e hen he hb
 have hA:=hS.ahead
 rw [tys_get hA _ he]
 have hp:=reach_parts hA he hb
 have hw:=wants_ok hT hD he hb
 have hdn:=declsF_nil (right_nil (right_allT hT).1) D hD
 have hdn2:=hdn
 simp only [declFs,List.append_eq_nil_iff] at hdn
 have hlen:e<(reachF p (rootsN D)).length:=by rw [reachF_len];exact he
 have hx:=exprs_nil hdn.2 e hlen he (by simpa [hlen] using hb)
 have hk:=kinds_may hS he
 have hAe:=hA e he
 generalize p.xs[e]=x at *
 unfold tyX
 have part:∀k∈partsF x,Ty12 ((tysF p (varsF D)).getD k.toNat 0):=fun k hk=>by
  have:=hAe k hk
  exact ih k.toNat (by omega) (by omega) (hp k hk)
 by_cases k3:x.k=3
 ·rw [if_pos k3,tyN_find hdn2]
  rw [wrongExprF,if_pos k3] at hx
  simp only [Bool.or_eq_false_iff,decide_eq_false_iff_not] at hx
  unfold sortF at hx
  cases hf:findF D x.n with
  | none=>rw [hf] at hx;simp at hx
  | some v =>
   rw [hf] at hx
   exact vars_ty (hty D hD) (List.mem_of_find?_eq_some hf) hx.2
 rw [if_neg k3]
 by_cases k19:x.k=19
 ·have n20:¬x.k=20:=by omega
  rw [wrongExprF,if_neg k3,if_neg n20,if_pos k19] at hx
  simp only [Bool.or_eq_false_iff,decide_eq_false_iff_not] at hx
  rw [if_pos k19,if_pos (by omega)]
  rcases declF_cases p x.n with h | ⟨n,hn,h,_⟩
  ·rw [h] at hx;simp at hx
  ·rw [h] at hx ⊢
   have hg:p.ds.getD ((n:Int)).toNat dc0=p.ds[n]:=by simp [hn]
   rw [hg] at hx ⊢
   exact (hty _ (List.getElem_mem hn)).t hx.2.1
 rw [if_neg k19]
 by_cases k15:x.k=15
 ·rw [if_pos k15];exact part _ (parts_k15 k15)
 rw [if_neg k15]
 by_cases k16:x.k=16∨x.k=17∨x.k=18
 ·rw [if_pos k16];exact part _ (parts_k16 k16)
 rw [if_neg k16]
 obtain ⟨k,hkk⟩:=Int.eq_ofNat_of_zero_le (show 0≤x.k by omega)
 have:=sure_ty k (by omega) (by omega) (by omega) (by omega) (by omega) (by omega) (by omega) (by omega)
 rw [hkk];exact this
theorem sure_law {e:Nat} (he:e<p.xs.length) (hb:(reachF p (rootsN D)).getD e false=true):Ty12 ((tysF p (varsF D)).getD e 0) ∧
  (p.xs[e].k=15→(tysF p (varsF D)).getD p.xs[e].a.toNat 0=2∧(tysF p (varsF D)).getD p.xs[e].b.toNat 0=(tysF p (varsF D)).getD p.xs[e].c.toNat 0∧(tysF p (varsF D)).getD e 0=(tysF p (varsF D)).getD p.xs[e].b.toNat 0) ∧
  (p.xs[e].k=6→(tysF p (varsF D)).getD p.xs[e].a.toNat 0=1∧(tysF p (varsF D)).getD p.xs[e].b.toNat 0=1)∧(p.xs[e].k=18→(tysF p (varsF D)).getD p.xs[e].a.toNat 0=(tysF p (varsF D)).getD p.xs[e].b.toNat 0):=by
 have hw:=wants_ok hT hD he hb
 have ht:=tys_get hS.ahead (varsF D) he
 refine ⟨sure_all hS hT hty hD (e+1) e (by omega) he hb,?_,?_,?_⟩
 ·intro k
  have h1:=hw (p.xs[e].a,2) (by simp [wantedF,k])
  have h2:=hw (p.xs[e].c,(tysF p (varsF D)).getD p.xs[e].b.toNat 0) (by simp [wantedF,k])
  refine ⟨h1,h2.symm,?_⟩
  rw [ht,tyX,if_neg (by omega),if_neg (by omega),if_pos k]
 ·intro k
  have h1:=hw (p.xs[e].a,1) (by simp [wantedF,k,eachF,partsF,manyF])
  have h2:=hw (p.xs[e].b,1) (by simp [wantedF,k,eachF,partsF,manyF])
  exact ⟨h1,h2⟩
 ·intro k
  have h1:=hw (p.xs[e].b,(tysF p (varsF D)).getD p.xs[e].a.toNat 0) (by simp [wantedF,k])
  exact h1.symm
end
end Go.Proofs.YtefildelnccljaaGreat
