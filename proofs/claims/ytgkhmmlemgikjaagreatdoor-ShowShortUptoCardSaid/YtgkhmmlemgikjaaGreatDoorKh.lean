/- Part Kh. No condition. -/
import Derived.Test.YtgkhmmlemgikjaaGreatDoorKg
set_option linter.unusedVariables false
set_option linter.unusedSimpArgs false
namespace Go.Proofs.YtgkhmmlemgikjaaGreatDoor
open Go Ai
theorem endAp_still (n:Nat):Still (endAp n):=by unfold endAp;split;exact .tight;exact .no
structure Gd (R:Rd):Prop where
 ok:∀x∈R.xs,x.Ok
 one:R.c=0→∀i (h:i<R.xs.length),oneF R.xs[i] i=true
def InX (R:Rd) (v:Int):Prop:=R.c=0→0≤v∧v<R.xs.length
def GdE (E:RM Int):Prop:=∀R,Gd R→Gd (E R).2∧InX (E R).2 (E R).1
theorem InX.step {R R':Rd} {v:Int} (h:InX R v) (s:Step R R'):InX R' v:=fun e=>by have:=h (s.c e);have:=s.m;omega
theorem Gd.same {R R':Rd} (h:Gd R) (e:R'.xs=R.xs) (c:R'.c=0→R.c=0):Gd R':=⟨fun x hx=>h.ok x (e▸hx),fun z i hi=>by have:=h.one (c z) i (by rw [←e];exact hi);simpa [e] using this⟩
theorem Gd.put {R:Rd} (h:Gd R) {x:Ex} (hx:x.Ok) (h1:R.c=0→oneF x R.xs.length=true):Gd (putR x R).2:=by
 refine ⟨fun y hy=>?_,fun e i hi=>?_⟩
 ·simp only [putR,List.mem_append,List.mem_singleton] at hy
  rcases hy with hy | rfl
  ·exact h.ok y hy
  ·exact hx
 ·simp only [putR,List.length_append,List.length_singleton] at hi e ⊢
  by_cases h2:i<R.xs.length
  ·rw [List.getElem_append_left h2];exact h.one e i h2
  ·have:i=R.xs.length:=by omega
   subst this
   simpa using h1 e
theorem InX.put {R:Rd} {x:Ex}:InX (putR x R).2 (putR x R).1:=fun _=>by simp [putR];omega
def TkG (L:List Tk):Prop:=∀t∈L,t.kind≠5→t.text≠[]∧0≤t.v∧t.text.length≤20000
section
variable {L:List Tk} (hT:TkG L)
include hT
theorem tkF_ok {R:Rd} (h:(tkF L R).kind≠5):(tkF L R).text≠[]∧0≤(tkF L R).v∧(tkF L R).text.length≤20000:=by
 unfold tkF at *
 rw [List.getD_eq_getElem?_getD] at *
 cases hx:L[R.i]? with
 | none=>rw [hx] at h;exact absurd rfl h
 | some t=>rw [hx] at h;exact hT t (List.mem_of_getElem? hx) h
theorem name_ok {R:Rd}:(nameR L R).1.length≤20000∧((nameR L R).2.c=0→(nameR L R).1≠[]):=by
 unfold nameR
 split
 ·rename_i h
  have:=tkF_ok hT (R:=R) (by omega)
  exact ⟨this.2.2,fun _=>this.1⟩
 ·refine ⟨by simp,fun e=>?_⟩
  simp only [failR] at e
  split at e<;>simp_all
omit hT
theorem Gd.adv {R:Rd} (h:Gd R):Gd R.adv:=h.same rfl id
theorem Gd.fail {R:Rd} {c:Int} (h:Gd R):Gd (failR L c R):=h.same (by unfold failR;split<;>rfl) Step.fail.c
theorem Gd.want {R:Rd} {w:Sx} (h:Gd R):Gd (wantR L w R):=by unfold wantR;split;exact h.adv;exact h.fail
theorem Gd.name {R:Rd} (h:Gd R):Gd (nameR L R).2:=by unfold nameR;split;exact h.adv;exact h.fail
theorem Gd.kind {R:Rd} (h:Gd R):Gd (kindR L R).2:=by unfold kindR;split;exact h.adv;exact h.want
theorem args_ok {E:RM Int} (hS:GoesOn E) (hE:GdE E):∀(m:Nat) (l:List Int) (R:Rd),Gd R→(∀a∈l,InX R a)→Gd (argsF L E m l R).2∧(∀a∈(argsF L E m l R).1,InX (argsF L E m l R).2 a)∧(argsF L E m l R).1.length≤l.length+m
 | 0,l,R,h,g=>⟨h,g,Nat.le_refl _⟩
 | m+1,l,R,h,g=>by
  rw [argsF];split
  ·have h1:=hE _ h.adv
   have:=args_ok hS hE m (l++[(E R.adv).1]) (E R.adv).2 h1.1 (fun a ha=>by
    rcases List.mem_append.1 ha with ha | ha
    ·exact (g a ha).step (Step.adv.trans (hS _))
    ·rw [List.mem_singleton.1 ha];exact h1.2)
   refine ⟨this.1,this.2.1,?_⟩
   have:=this.2.2
   simp at this;omega
  ·exact ⟨h,g,by show l.length≤_;omega⟩
theorem call_ok {E:RM Int} (hS:GoesOn E) (hE:GdE E) {R:Rd} (h:Gd R):Gd (callF L E R).2∧(∀a∈(callF L E R).1,InX (callF L E R).2 a)∧(callF L E R).1.length≤L.length+1:=by
 unfold callF;split
 ·exact ⟨h.adv,by simp,by simp⟩
 ·have h1:=hE _ h
  have:=args_ok (L:=L) hS hE L.length [(E R).1] (E R).2 h1.1 (fun a ha=>by rw [List.mem_singleton.1 ha];exact h1.2)
  exact ⟨this.1.want,fun a ha=>(this.2.1 a ha).step .want,by have:=this.2.2;simp at this ⊢;omega⟩
theorem ex_plain {k a b c:Int} {n s:Sx} {v p:Int} (hn:n.length≤20000) (hs:s.length≤20000):Ex.Ok ⟨k,a,b,c,n,s,v,[],.tight,p⟩:=⟨by simp;omega,by simp;omega,by simp,.tight⟩
include hT
theorem atom_ok {E:RM Int} (hL:L.length≤20001) (hS:GoesOn E) (hE:GdE E) {R:Rd} (h:Gd R):Gd (atomF L E R).2∧InX (atomF L E R).2 (atomF L E R).1:=by
 unfold atomF
 simp only []
 split
 ·rename_i h2
  have:=tkF_ok hT (R:=R) (by omega)
  exact ⟨h.adv.put (ex_plain (by simp) (by simp)) fun _=>by simp [oneF,partsF,manyF,this.2.1],.put⟩
 split
 ·exact ⟨h.adv.put (ex_plain (by simp) (by simp)) fun _=>by simp [oneF,partsF,manyF],.put⟩
 split
 ·exact ⟨h.adv.put (ex_plain (by simp) (by simp)) fun _=>by simp [oneF,partsF,manyF],.put⟩
 split
 ·rename_i h1
  have ht:=tkF_ok hT (R:=R) (by omega)
  split
  ·have hn:=name_ok hT (R:=R.adv.adv)
   exact ⟨h.adv.adv.name.put (ex_plain ht.2.2 hn.1) fun e=>by simp [oneF,partsF,manyF,ht.1,hn.2 e],.put⟩
  split
  ·have hc:=call_ok (L:=L) hS hE h.adv.adv
   refine ⟨hc.1.put ⟨by have:=ht.2.2;simp;omega,by simp,by have:=hc.2.2;simp;omega,endAp_still _⟩ fun e=>?_,.put⟩
   have:(callF L E R.adv.adv).1.all (fun l=>decide (0≤l) && decide (l<((callF L E R.adv.adv).2.xs.length:Int)))=true:=by
    rw [List.all_eq_true]
    intro a ha
    have:=hc.2.1 a ha e
    simp [this]
   simp only [oneF,partsF,manyF]
   simp [ht.1]
   simpa using this
  ·exact ⟨h.adv.put (ex_plain ht.2.2 (by simp)) fun _=>by simp [oneF,partsF,manyF,ht.1],.put⟩
 ·have h1:=hE _ (h.want (L:=L) (w:=[40]))
  exact ⟨h1.1.want,h1.2.step .want⟩
omit hT
theorem levelR_many {R:Rd} (h:(levelR L R).1≠0):6≤(levelR L R).2∧(levelR L R).2≤14:=by
 unfold levelR at *
 split at h
 ·rename_i e he
  have h1:∀e∈lvTab,6≤e.2.2∧e.2.2≤14:=by decide
  exact h1 e (List.mem_of_find?_eq_some he)
 ·exact absurd rfl h
theorem preR_many {R:Rd} (h:preR L R≠0):preR L R=4∨preR L R=5∨preR L R=16∨preR L R=21:=by
 unfold preR at *
 split at h
 ·rename_i e he
  have h1:∀e∈preTab,e.2=4∨e.2=5∨e.2=16∨e.2=21:=by decide
  exact h1 e (List.mem_of_find?_eq_some he)
 ·exact absurd rfl h
theorem one2 {k a b v:Int} {n:Nat} (hk:(6≤k∧k≤14)∨k=17∨k=18) (ha:0≤a∧a<(n:Int)) (hb:0≤b∧b<(n:Int)):oneF ⟨k,a,b,0,[],[],0,[],.tight,v⟩ n=true:=by
 have h1:¬(k=4∨k=5∨k=16∨k=21):=by omega
 have h2:manyF k=2:=by unfold manyF;rw [if_neg h1,if_pos hk]
 have h3:¬k=3:=by omega
 have h4:¬k=19:=by omega
 have h5:¬k=20:=by omega
 have h6:2<k:=by omega
 have h7:1≤k:=by omega
 have h8:k≤21:=by omega
 simp [oneF,partsF,h2,h3,h4,h5,h6,h7,h8,ha,hb]
theorem one1 {k a v:Int} {n:Nat} (hk:k=4∨k=5∨k=16∨k=21) (ha:0≤a∧a<(n:Int)):oneF ⟨k,a,0,0,[],[],0,[],.tight,v⟩ n=true:=by
 have h2:manyF k=1:=by unfold manyF;rw [if_pos hk]
 rcases hk with rfl | rfl | rfl | rfl<;>simp [oneF,partsF,h2,ha]
theorem chain_ok {B:RM Int} (hS:GoesOn B) (hB:GdE B) {least:Int} (hl:least≠0):∀(m:Nat) (a:Int) (R:Rd),Gd R→InX R a→Gd (chainF L B least m a R).2∧InX (chainF L B least m a R).2 (chainF L B least m a R).1
 | 0,a,R,h,g=>⟨h,g⟩
 | m+1,a,R,h,g=>by
  rw [chainF]
  split
  ·split
   ·rename_i hc hv
    have hk:=levelR_many (L:=L) (R:=R) (by rw [hv];exact hl)
    have h1:=hB _ h.adv
    have h2:Gd (putR ⟨(levelR L R).2,a,(B R.adv).1,0,[],[],0,[],.tight,posF L R⟩ (B R.adv).2).2 :=
     h1.1.put (ex_plain (by simp) (by simp)) fun e=>one2 (.inl hk) ((g.step (Step.adv.trans (hS _))) e) (h1.2 e)
    simp only []
    split
    ·exact ⟨h2,.put⟩
    ·exact chain_ok hS hB hl m _ _ h2 .put
   ·exact ⟨h,g⟩
  ·exact ⟨h,g⟩
theorem bin_ok {P:RM Int} (hS:GoesOn P) (hP:GdE P):∀n,n≤5→GdE (binF L P n)
 | 0,_=>hP
 | n+1,hn=>fun R h=>by
  have h1:=bin_ok hS hP n (by omega) R h
  rw [binF]
  exact chain_ok (Step.bin hS n) (bin_ok hS hP n (by omega)) (by omega) _ _ _ h1.1 h1.2
include hT
theorem pref_ok {E P:RM Int} (hL:L.length≤20001) (hSE:GoesOn E) (hSP:GoesOn P) (hE:GdE E) (hP:GdE P):GdE (prefB L E P):=fun R h=>by
 unfold prefB
 split
 ·exact atom_ok hT hL hSE hE h
 ·rename_i hk
  have h1:=hP _ h.adv
  exact ⟨h1.1.put (ex_plain (by simp) (by simp)) fun e=>one1 (preR_many hk) (h1.2 e),.put⟩
omit hT
theorem expr_ok {E P:RM Int} (hSE:GoesOn E) (hSP:GoesOn P) (hE:GdE E) (hP:GdE P):GdE (exprB L E P):=fun R h=>by
 unfold exprB
 simp only []
 split
 ·have h1:=hE _ h.adv
  have h2:=hE _ (h1.1.want (L:=L) (w:=[116,104,101,110]))
  have h3:=hE _ (h2.1.want (L:=L) (w:=[101,108,115,101]))
  have e2:=h2.2.step ((Step.want (L:=L) (w:=[101,108,115,101])).trans (hSE _))
  have e1:=h1.2.step (((Step.want (L:=L) (w:=[116,104,101,110])).trans (hSE _)).trans ((Step.want (L:=L) (w:=[101,108,115,101])).trans (hSE _)))
  exact ⟨h3.1.put (ex_plain (by simp) (by simp)) fun e=>by simp [oneF,partsF,manyF,e1 e,e2 e,h3.2 e],.put⟩
 ·have h1:=bin_ok (L:=L) hSP hP 5 (by omega) R h
  split
  ·have h2:=hE _ h1.1.adv
   exact ⟨h2.1.put (ex_plain (by simp) (by simp)) fun e=>one2 (by split<;>simp) ((h1.2.step (Step.adv.trans (hSE _))) e) (h2.2 e),.put⟩
  ·exact h1
include hT
theorem ep_ok (hL:L.length≤20001):∀f,GdE (epF L f).1∧GdE (epF L f).2
 | 0=>by
  have:GdE (fun R=>((0:Int),failR L 3 R)):=fun R h=>by
   refine ⟨h.fail,fun e=>?_⟩
   simp only [failR] at e
   split at e<;>simp_all
  exact ⟨this,this⟩
 | f+1=>by
  have ih:=ep_ok hL f
  have hS:=Step.ep (L:=L) f
  refine ⟨fun R h=>?_,fun R h=>?_⟩<;>simp only [epF]<;>split
  ·exact expr_ok hS.1 hS.2 ih.1 ih.2 R h
  ·rename_i hc;exact ⟨h,fun e=>absurd e hc⟩
  ·exact pref_ok hT hL hS.1 hS.2 ih.1 ih.2 R h
  ·rename_i hc;exact ⟨h,fun e=>absurd e hc⟩
theorem exprF_ok (hL:L.length≤20001):GdE (exprF L):=(ep_ok hT hL 30).1
end
end Go.Proofs.YtgkhmmlemgikjaaGreatDoor
namespace Go.Proofs.YtgkhmmlemgikjaaGreatDoor
open Go Ai
def ItG (all:Bool) (R:Rd) (x:It):Prop:=x.Ok∧(R.c=0→itemK (if all then 3 else 2) x=true∧itemR R.xs.length x=true)
def DcG (R:Rd) (d:Dc):Prop:=d.Ok∧(R.c=0→declK d=true∧declR R.xs.length d=true)
theorem points_mono {n m:Nat} (h:n≤m) {k:Int} {b:Bool} (g:pointsF n k b=true):pointsF m k b=true:=by
 cases b
 ·simpa [pointsF] using g
 ·simp [pointsF] at g ⊢;omega
theorem ItG.step {all:Bool} {R R':Rd} {x:It} (h:ItG all R x) (s:Step R R'):ItG all R' x:=⟨h.1,fun e=>by
 have:=h.2 (s.c e)
 refine ⟨this.1,?_⟩
 have h2:=this.2
 simp only [itemR,Bool.and_eq_true] at h2 ⊢
 exact ⟨points_mono s.m h2.1,points_mono s.m h2.2⟩⟩
theorem DcG.step {R R':Rd} {d:Dc} (h:DcG R d) (s:Step R R'):DcG R' d:=⟨h.1,fun e=>by
 have:=h.2 (s.c e)
 refine ⟨this.1,?_⟩
 have h2:=this.2
 simp only [declR,Bool.and_eq_true,List.all_eq_true] at h2 ⊢
 refine ⟨points_mono s.m h2.1,fun x hx=>?_⟩
 have h3:=h2.2 x hx
 simp only [itemR,Bool.and_eq_true] at h3 ⊢
 exact ⟨points_mono s.m h3.1,points_mono s.m h3.2⟩⟩
theorem it_plain {k t e f:Int} {n s x:Sx} {p:Int} (hn:n.length≤20000):It.Ok ⟨k,n,t,e,f,[],.tight,s,x,p⟩:=⟨by simp;omega,by simp,.tight⟩
section
variable {L:List Tk}
theorem sts_ok:∀(m:Nat) (l:List Sx) (R:Rd),Gd R→Gd (stsF L m l R).2∧(stsF L m l R).1.length≤l.length+m∧(l≠[]→(stsF L m l R).1≠[])
 | 0,l,R,h=>⟨h,Nat.le_refl _,id⟩
 | m+1,l,R,h=>by
  rw [stsF];split
  ·have:=sts_ok m (l++[(nameR L R.adv).1]) (nameR L R.adv).2 h.adv.name
   refine ⟨this.1,by have:=this.2.1;simp at this;omega,fun _=>this.2.2 (by simp)⟩
  ·exact ⟨h,by show l.length≤_;omega,id⟩
variable (hT:TkG L) (hL:L.length≤20001)
include hT
include hL
theorem itm_ok {all:Bool} {R:Rd} (h:Gd R):Gd (itmF L all R).2∧((itmF L all R).1.2=true→ItG all (itmF L all R).2 (itmF L all R).1.1):=by
 have X:GdE (exprF L):=exprF_ok hT hL
 have S:=Step.exprF (L:=L)
 have W:∀{w:Sx} {R:Rd},Step R (wantR L w R):=.want
 have N:∀{R:Rd},Step R (nameR L R).2:=.name
 have GW:∀w {R:Rd},Gd R→Gd (wantR L w R):=fun _ _ h=>h.want
 have GN:∀{R:Rd},Gd R→Gd (nameR L R).2:=fun h=>h.name
 have GK:∀{R:Rd},Gd R→Gd (kindR L R).2:=fun h=>h.kind
 unfold itmF
 simp only []
 split
 ·have h2:=X _ (GW [61] (GK (GW [58] (GN h.adv))))
  refine ⟨h2.1.want,fun _=>⟨it_plain (name_ok hT).1,fun e=>?_⟩⟩
  have e2:=h2.2.step W e
  cases all<;>simp [finR,itemK,itemR,hasE,hasF,pointsF,e2]
 split
 ·rename_i ha
  have h2:=X _ (GW [61] (GN h.adv))
  have h3:=X _ (GW [105,110,105,116] h2.1)
  refine ⟨h3.1.want,fun _=>⟨it_plain (name_ok hT).1,fun e=>?_⟩⟩
  have e2:=h2.2.step ((W.trans (S _)).trans W) e
  have e3:=h3.2.step W e
  cases all
  ·simp at ha
  ·simp [finR,itemK,itemR,hasE,hasF,pointsF,e2,e3]
 split
 ·rename_i ha
  have h2:=X _ (GW [111,110] (GN h.adv))
  have h3:=X _ (GW [61] h2.1)
  refine ⟨h3.1.want,fun _=>⟨it_plain (name_ok hT).1,fun e=>?_⟩⟩
  have e2:=h2.2.step ((W.trans (S _)).trans W) e
  have e3:=h3.2.step W e
  cases all
  ·simp at ha
  ·simp [finR,itemK,itemR,hasE,hasF,pointsF,e2,e3]
 split
 ·rename_i ha
  have h2:=X _ (GW [105,110,105,116] (GK (GW [58] (GN h.adv))))
  refine ⟨h2.1.want,fun _=>⟨it_plain (name_ok hT).1,fun e=>?_⟩⟩
  have e2:=h2.2.step W e
  cases all
  ·simp at ha
  ·simp [finR,itemK,itemR,hasE,hasF,pointsF,e2]
 split
 ·rename_i ha
  have h2:=X _ h.adv
  have h3:=X _ (GW [61] (GN (GW [115,101,116] h2.1)))
  refine ⟨h3.1.want,fun _=>⟨it_plain (name_ok hT).1,fun e=>?_⟩⟩
  have e2:=h2.2.step (((W.trans N).trans (W.trans (S _))).trans W) e
  have e3:=h3.2.step W e
  cases all
  ·simp at ha
  ·simp [finR,itemK,itemR,hasE,hasF,pointsF,e2,e3]
 split
 ·rename_i ha
  have h2:=sts_ok (L:=L) L.length [(nameR L (wantR L [123] (nameR L R.adv).2)).1] (nameR L (wantR L [123] (nameR L R.adv).2)).2 (GN (GW _ (GN h.adv)))
  refine ⟨h2.1.want.want,fun _=>⟨⟨by have:=(name_ok hT (R:=R.adv)).1;simp [finR];omega,by have:=h2.2.1;simp [finR] at this ⊢;omega,.no⟩,fun e=>?_⟩⟩
  have h3:=h2.2.2 (by simp)
  cases all
  ·simp at ha
  ·simp [finR,itemK,itemR,hasE,hasF,pointsF,h3]
 split
 ·rename_i ha
  have h2:=X _ (GW [111,110] (GN (GW [46] (GN h.adv))))
  refine ⟨GW _ (GN (GW _ h2.1)),fun _=>⟨it_plain (name_ok hT).1,fun e=>?_⟩⟩
  have e2:=h2.2.step ((W.trans N).trans W) e
  cases all
  ·simp at ha
  ·simp [finR,itemK,itemR,hasE,hasF,pointsF,e2]
 split
 ·rename_i ha
  refine ⟨GW _ (GN h.adv),fun _=>⟨it_plain (name_ok hT).1,fun e=>?_⟩⟩
  cases all
  ·simp at ha
  ·simp [finR,itemK,itemR,hasE,hasF,pointsF]
 ·exact ⟨h,fun e=>by cases e⟩
theorem its_ok {all:Bool}:∀(m:Nat) (l:List It) (R:Rd),Gd R→(∀x∈l,ItG all R x)→Gd (itsF L all m l R).2∧(∀x∈(itsF L all m l R).1,ItG all (itsF L all m l R).2 x)∧(itsF L all m l R).1.length≤l.length+m
 | 0,l,R,h,g=>⟨h,g,Nat.le_refl _⟩
 | m+1,l,R,h,g=>by
  have h1:=itm_ok hT hL (all:=all) h
  have hs:Step R (itmF L all R).2:=by
   rcases Step.item (L:=L) (all:=all) (R:=R) with ⟨_,h⟩ | h
   ·rw [h];exact .refl
   ·exact Step.adv.trans h
  rw [itsF];simp only []
  split
  ·split
   ·rename_i hok
    have:=its_ok m (l++[(itmF L all R).1.1]) (itmF L all R).2 h1.1 (fun x hx=>by
     rcases List.mem_append.1 hx with hx | hx
     ·exact (g x hx).step hs
     ·rw [List.mem_singleton.1 hx];exact h1.2 hok)
    exact ⟨this.1,this.2.1,by have:=this.2.2;simp at this;omega⟩
   ·exact ⟨h1.1,fun x hx=>(g x hx).step hs,by show l.length≤_;omega⟩
  ·exact ⟨h,g,by show l.length≤_;omega⟩
omit hT hL
theorem pms_ok:∀(m:Nat) (l:List Pm) (R:Rd),Gd R→Gd (pmsF L m l R).2∧(pmsF L m l R).1.length≤l.length+m
 | 0,l,R,h=>⟨h,Nat.le_refl _⟩
 | m+1,l,R,h=>by
  rw [pmsF];simp only []
  have h1:Gd (kindR L (wantR L [58] (nameR L R).2)).2:=Gd.kind (Gd.want (Gd.name h))
  split
  ·split
   ·have:=pms_ok m (l++[⟨(nameR L R).1,(kindR L (wantR L [58] (nameR L R).2)).1⟩]) _ h1.adv
    exact ⟨this.1,by have:=this.2;simp at this;omega⟩
   ·exact ⟨h1.want,by simp⟩
  ·exact ⟨h,by show l.length≤_;omega⟩
theorem params_ok {R:Rd} (h:Gd R):Gd (paramsF L R).2∧(paramsF L R).1.length≤L.length:=by
 unfold paramsF;split
 ·exact ⟨h.want.adv,by simp⟩
 ·have:=pms_ok (L:=L) L.length [] (wantR L [40] R) h.want
  exact ⟨this.1,by have:=this.2;simp at this;omega⟩
include hT hL
theorem declB_ok {k p:Int} {R:Rd} (hk:k=1∨k=2∨k=3) (h:Gd R):Gd (declB L k p R).2∧DcG (declB L k p R).2 (declB L k p R).1:=by
 have X:GdE (exprF L):=exprF_ok hT hL
 have S:=Step.exprF (L:=L)
 have W:∀{w:Sx} {R:Rd},Step R (wantR L w R):=.want
 have GW:∀w {R:Rd},Gd R→Gd (wantR L w R):=fun _ _ h=>h.want
 have GN:∀{R:Rd},Gd R→Gd (nameR L R).2:=fun h=>h.name
 have GK:∀{R:Rd},Gd R→Gd (kindR L R).2:=fun h=>h.kind
 have hn:=(name_ok hT (R:=R)).1
 have h1:=params_ok (L:=L) (GN h)
 unfold declB
 simp only []
 split
 ·rename_i h3
  have h2:=its_ok hT hL (all:=true) L.length [] (wantR L [123] (paramsF L (nameR L R).2).2) h1.1.want (by simp)
  refine ⟨h2.1.want,⟨by simp;omega,by simp;omega,by have:=h2.2.2;simp at this ⊢;omega,endAp_still _,endAp_still _,fun i hi=>(h2.2.1 i hi).1⟩,fun e=>?_⟩
  have hi:=fun i hi=>((h2.2.1 i hi).step (W (w:=[125]))).2 e
  refine ⟨?_,?_⟩
  ·simp only [declK,Bool.and_eq_true,List.all_eq_true]
   exact ⟨rfl,fun i hx=>(hi i hx).1⟩
  ·simp only [declR,Bool.and_eq_true,List.all_eq_true]
   exact ⟨by simp [pointsF],fun i hx=>(hi i hx).2⟩
 ·split
  ·rename_i h3 h1k
   have h2:=X _ (GW [61] (GK (GW [58] h1.1)))
   refine ⟨h2.1.want,⟨by simp;omega,by simp;omega,by simp,endAp_still _,.tight,by simp⟩,fun e=>?_⟩
   have e2:=h2.2.step W e
   exact ⟨by simp [declK],by simp [declR,pointsF,e2]⟩
  ·have h2:=its_ok hT hL (all:=false) L.length [] (wantR L [123] (kindR L (wantR L [58] (paramsF L (nameR L R).2).2)).2) (GW _ (GK (GW _ h1.1))) (by simp)
   have h4:=X _ (GW [114,101,116,117,114,110] h2.1)
   refine ⟨h4.1.want.want,⟨by simp;omega,by simp;omega,by have:=h2.2.2;simp at this ⊢;omega,endAp_still _,endAp_still _,fun i hi=>(h2.2.1 i hi).1⟩,fun e=>?_⟩
   have e2:=h4.2.step (W.trans W) e
   have hi:=fun i hi=>((h2.2.1 i hi).step ((W.trans (S _)).trans (W.trans W))).2 e
   refine ⟨?_,?_⟩
   ·simp only [declK,Bool.and_eq_true,List.all_eq_true]
    exact ⟨rfl,fun i hx=>(hi i hx).1⟩
   ·simp only [declR,Bool.and_eq_true,List.all_eq_true]
    exact ⟨by simp [pointsF,e2],fun i hx=>(hi i hx).2⟩
theorem dcl_ok {R:Rd} (h:Gd R):Gd (dclF L R).2∧DcG (dclF L R).2 (dclF L R).1:=by
 unfold dclF
 repeat' split
 ·exact declB_ok hT hL (by simp) h.adv
 ·exact declB_ok hT hL (by simp) h.adv
 ·exact declB_ok hT hL (by simp) h.want
theorem dcls_ok:∀(m:Nat) (l:List Dc) (R:Rd),Gd R→(∀d∈l,DcG R d)→Gd (dclsF L m l R).2∧(∀d∈(dclsF L m l R).1,DcG (dclsF L m l R).2 d)∧(dclsF L m l R).1.length≤l.length+m
 | 0,l,R,h,g=>⟨h,g,Nat.le_refl _⟩
 | m+1,l,R,h,g=>by
  have h1:=dcl_ok hT hL h
  rw [dclsF]
  split
  ·have:=dcls_ok m (l++[(dclF L R).1]) (dclF L R).2 h1.1 (fun d hd=>by
    rcases List.mem_append.1 hd with hd | hd
    ·exact (g d hd).step Step.decl.1
    ·rw [List.mem_singleton.1 hd];exact h1.2)
   exact ⟨this.1,this.2.1,by have:=this.2.2;simp at this;omega⟩
  ·exact ⟨h,g,by show l.length≤_;omega⟩
end
theorem ones_of:∀(l:List Ex) (j:Nat),(∀i (h:i<l.length),oneF l[i] ((j+i:Nat):Int)=true)→onesF l j=true
 | [],_,_=>rfl
 | x::l,j,h=>by
  simp only [onesF,Bool.and_eq_true]
  refine ⟨h 0 (by simp),ones_of l (j+1) fun i hi=>?_⟩
  have:=h (i+1) (by simp;omega)
  simpa [Nat.add_assoc,Nat.add_comm 1] using this
theorem read_len {L:List Tk} (ht:Tks L) (hp:0<L.length):(exprF L ⟨0,[],0,0⟩).2.xs.length≤20001∧(dclsF L L.length [] ⟨0,[],0,0⟩).2.xs.length≤20001:=by
 have F0:Fin [] L [.cells none [.lst 7 [] .tight,.lst 9 [] .tight],.cells none [.int .i64 0,.int .i64 0],.cells none [.int .i64 0,.int .i64 0],.cells none [.lst 4 (L.map Lx.Tok.av) .no,.int .i64 0,.lst 7 [] .tight,.lst 9 [] .tight,.int .i64 0,.int .i64 0,.int .i64 0]] ⟨0,[],0,0⟩ []:=by
  refine ⟨⟨[],.tight,⟨⟨[],.tight,by simp [rdCs],rfl,.nil,fun _=>rfl⟩,?_,by simp,hp,by simp,ht,by omega⟩,.nil,rfl,rfl,fun _=>rfl⟩,by simp,by simp,by simp⟩
  have:∀k,AV.lowsB k (L.map Lx.Tok.av)=true:=fun k=>lows_all fun x hx=>by obtain ⟨i,_,rfl⟩:=List.mem_map.1 hx;rfl
  simp [StOk,AObj.lowB,AV.lowsB,AV.lowB,this]
 constructor
 ·obtain ⟨des,dap,qe,_⟩:=F0.q
  obtain ⟨s1,c1,q1,k1⟩:=exprF_does qe
  have:=q1.xl;have:=q1.lt;have:=ht.len;omega
 ·have h:=dc_loop F0 (Ev:=List.replicate 9 .undef++[.ptr 3 0]++List.replicate 91 .undef) (by simp) (by simp [AX.ev]) (Q:=fun _ _ _ _=>(dclsF L L.length [] ⟨0,[],0,0⟩).2.xs.length≤20001) (fun e2 s2 _ F=>by
   obtain ⟨_,_,q,_⟩:=F.q
   have:=q.xl;have:=q.lt;have:=ht.len;omega)
  obtain ⟨_,_,_,_,_,h⟩:=h
  exact h
theorem noPg_ok:noPg.Ok:=⟨by decide,by decide,.tight,.tight,by simp [noPg],by simp [noPg]⟩
theorem gd0:Gd ⟨0,[],0,0⟩:=⟨by simp,by simp⟩
theorem parse_ok (s:Sx) (ex:Bool):(parseF s ex).1.Ok∧((parseF s ex).2.2.1=0→(may7 (parseF s ex).1=true)∧(ex=true→0≤(parseF s ex).2.1∧(parseF s ex).2.1<(parseF s ex).1.xs.length)):=by
 unfold parseF
 split
 ·exact ⟨noPg_ok,by simp⟩
 rename_i hs
 split
 ·exact ⟨noPg_ok,by simp⟩
 rename_i ts hl
 obtain ⟨htk,hp⟩:=lexK_tks (by omega) hl
 have hT:TkG ts:=by
  obtain ⟨us,q,rfl,e2,e3⟩:=lexK_ok hl
  intro t ht h5
  rcases List.mem_append.1 ht with ht | ht
  ·have:=e3 t ht;exact ⟨this.n,this.v,by have:=this.len;omega⟩
  ·rw [List.mem_singleton.1 ht] at h5;exact absurd rfl h5
 have hlen:=read_len htk hp
 simp only []
 split
 ·rename_i hc
  cases ex with
  | true =>
   simp only [readF,if_true] at hc ⊢
   have h1:=exprF_ok hT htk.len _ gd0
   have hE:endR ts (exprF ts ⟨0,[],0,0⟩).2=(exprF ts ⟨0,[],0,0⟩).2:=by
    unfold endR at hc ⊢
    split
    ·rename_i h
     rw [if_pos h] at hc
     simp [failR,h.1] at hc
    ·rfl
   rw [hE] at hc ⊢
   refine ⟨⟨by simp,by have:=hlen.1;simp;omega,.tight,endAp_still _,by simp,h1.1.ok⟩,fun _=>⟨?_,fun _=>h1.2 hc⟩⟩
   simp only [may7,may4,List.all_nil,Bool.true_and,Bool.and_true]
   exact ones_of _ _ fun i hi=>by simpa using h1.1.one hc i hi
  | false =>
   simp only [readF,Bool.false_eq_true,if_false] at hc ⊢
   have h1:=dcls_ok hT htk.len ts.length [] _ gd0 (by simp)
   have hE:endR ts (dclsF ts ts.length [] ⟨0,[],0,0⟩).2=(dclsF ts ts.length [] ⟨0,[],0,0⟩).2:=by
    unfold endR at hc ⊢
    split
    ·rename_i h
     rw [if_pos h] at hc
     simp [failR,h.1] at hc
    ·rfl
   rw [hE] at hc ⊢
   refine ⟨⟨by have:=h1.2.2;have:=htk.len;simp at *;omega,by have:=hlen.2;simp;omega,endAp_still _,endAp_still _,fun d hd=>(h1.2.1 d hd).1,h1.1.ok⟩,fun _=>⟨?_,fun h=>by cases h⟩⟩
   simp only [may7,may4,Bool.and_eq_true,List.all_eq_true]
   exact ⟨fun d hd=>((h1.2.1 d hd).2 hc).1,ones_of _ _ (fun i hi=>by simpa using h1.1.one hc i hi),fun d hd=>((h1.2.1 d hd).2 hc).2⟩
 ·rename_i hc
  exact ⟨noPg_ok,fun h=>absurd h hc⟩
end Go.Proofs.YtgkhmmlemgikjaaGreatDoor
