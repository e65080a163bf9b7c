/- Part Ko. No condition. -/
import Derived.Test.YtgkhmmlemgikjaaGreatDoorKn
import Derived.Test.YtgkhmmlemgikjaaGreatDoorKe
set_option linter.unusedVariables false
set_option linter.unusedSimpArgs false
namespace Go.Proofs.YtgkhmmlemgikjaaGreatDoor
open Go Ai
theorem Stk.z {R R':Rd} (h:Stk R R') (hc:R'.c=0):R.c=0:=Classical.byContradiction fun hn=>hn ((h hn).1▸hc)
theorem Stk.three {R R':Rd} (h:Stk R R') (hc:R.c=3):R'.c=3:=by rw [(h (by omega)).1,hc]
theorem stk_args {L:List Tk} {E:RM Int}:∀(m:Nat) (l:List Int) (R:Rd),Stk R (argsF L E m l R).2
 | 0,_,_=>.refl
 | m+1,l,R=>fun hc=>by simp [argsF,isR_stk hc]
def e0T:Tk:=⟨5,[],0,0⟩
def Ex.z (x:Ex):Ex:={ x with p:=0 }
structure Sim (L L':List Tk) (k:Nat):Prop where
 tok:∀i,i+1<L.length→(L.getD i e0T).kind=(L'.getD (i+k) e0T).kind∧(L.getD i e0T).text=(L'.getD (i+k) e0T).text∧(L.getD i e0T).v=(L'.getD (i+k) e0T).v
 fin:∀i,i+1=L.length→(L.getD i e0T).kind=5∧((L'.getD (i+k) e0T).kind=5∨((L'.getD (i+k) e0T).text=[41]∧(L'.getD (i+k) e0T).kind=4))
 len:L.length+k≤L'.length
structure RS (L:List Tk) (k:Nat) (R R':Rd):Prop where
 c:R.c=0
 c':R'.c=0
 i:R'.i=R.i+k
 lt:R.i<L.length
 xs:R.xs.map Ex.z=R'.xs.map Ex.z
def Out (L:List Tk) (k:Nat) (d:Prop) {α:Type} (q q':α×Rd):Prop:=(d∧q'.2.c=3)∨(q.1=q'.1∧RS L k q.2 q'.2)
def SimE (L:List Tk) (k:Nat) (d:Prop) {α:Type} (E E':RM α):Prop:=∀R R',RS L k R R'→(E R).2.c=0→Out L k d (E R) (E' R')
section
variable {L L':List Tk} {k:Nat} {d:Prop} {R R':Rd}
theorem RS.cases (h:RS L k R R') (H:Sim L L' k):(R.i+1<L.length∧(tkF L R).kind=(tkF L' R').kind∧(tkF L R).text=(tkF L' R').text∧(tkF L R).v=(tkF L' R').v)∨(R.i+1=L.length∧(tkF L R).kind=5∧((tkF L' R').kind=5∨((tkF L' R').text=[41]∧(tkF L' R').kind=4))):=by
 have hl:=h.lt
 unfold tkF
 rw [h.i]
 rcases Nat.lt_or_ge (R.i+1) L.length with h1 | h1
 ·exact .inl ⟨h1,H.tok _ h1⟩
 ·have h2:R.i+1=L.length:=by omega
  exact .inr ⟨h2,H.fin _ h2⟩
theorem RS.isw (h:RS L k R R') (H:Sim L L' k) {w:Sx} (hw:w≠[41]):isR L w R=isR L' w R':=by
 unfold isR
 rw [h.c,h.c']
 rcases h.cases H with ⟨_,h1,h2,_⟩ | ⟨_,h1,h2 | ⟨h2,_⟩⟩
 ·rw [h1,h2]
 ·simp [h1,h2]
 ·have hn:¬([41]:Sx)=w:=fun e=>hw e.symm
  simp [h1,h2,hn]
theorem RS.yes (h:RS L k R R') (H:Sim L L' k) {w:Sx} (hw:isR L w R=true):isR L' w R'=true∧R.i+1<L.length:=by
 rcases h.cases H with ⟨h0,h1,h2,_⟩ | ⟨_,h1,_⟩
 ·refine ⟨?_,h0⟩
  unfold isR at hw ⊢
  rw [←h1,←h2,h.c'];rw [h.c] at hw;exact hw
 ·simp [isR,h1] at hw
theorem RS.adv (h:RS L k R R') (hi:R.i+1<L.length):RS L k R.adv R'.adv:=⟨h.c,h.c',by have:=h.i;simp [Rd.adv];omega,hi,h.xs⟩
theorem RS.want (h:RS L k R R') (H:Sim L L' k) {w:Sx} (hc:(wantR L w R).c=0):RS L k (wantR L w R) (wantR L' w R'):=by
 unfold wantR at hc ⊢
 split at hc
 ·rename_i hw
  obtain ⟨h1,h2⟩:=h.yes H hw
  rw [if_pos hw,if_pos h1];exact h.adv h2
 ·simp [failR,h.c] at hc
theorem RS.name (h:RS L k R R') (H:Sim L L' k) (hc:(nameR L R).2.c=0):(nameR L R).1=(nameR L' R').1∧RS L k (nameR L R).2 (nameR L' R').2:=by
 unfold nameR at hc ⊢
 split at hc
 ·rename_i hw
  rcases h.cases H with ⟨h0,h1,h2,_⟩ | ⟨_,h1,_⟩
  ·rw [if_pos hw,if_pos ⟨h.c',by rw [←h1];exact hw.2⟩]
   exact ⟨h2,h.adv h0⟩
  ·have:=hw.2;omega
 ·simp [failR,h.c] at hc
theorem RS.put (h:RS L k R R') {x x':Ex} (hx:x.z=x'.z):(putR x R).1=(putR x' R').1∧RS L k (putR x R).2 (putR x' R').2:=by
 have hl:R.xs.length=R'.xs.length:=by have:=congrArg List.length h.xs;simpa using this
 exact ⟨by simp [putR,hl],h.c,h.c',h.i,h.lt,by simp [putR,h.xs,hx]⟩
theorem RS.level (h:RS L k R R') (H:Sim L L' k):levelR L R=levelR L' R':=by
 have hw:∀w:Sx,w≠[41]→isR L w R=isR L' w R':=fun w=>h.isw H
 have:lvTab.find? (fun e=>isR L e.1 R)=lvTab.find? (fun e=>isR L' e.1 R'):=by
  simp only [lvTab,List.find?_cons,List.find?_nil,hw _ (show ([111,114]:Sx)≠[41] by decide),hw _ (show ([97,110,100]:Sx)≠[41] by decide),hw _ (show ([60]:Sx)≠[41] by decide),hw _ (show ([60,61]:Sx)≠[41] by decide),hw _ (show ([61,61]:Sx)≠[41] by decide),hw _ (show ([43]:Sx)≠[41] by decide),hw _ (show ([45]:Sx)≠[41] by decide),hw _ (show ([42]:Sx)≠[41] by decide),hw _ (show ([47]:Sx)≠[41] by decide)]
 unfold levelR
 rw [this]
theorem RS.pre (h:RS L k R R') (H:Sim L L' k):preR L R=preR L' R':=by
 have hw:∀w:Sx,w≠[41]→isR L w R=isR L' w R':=fun w=>h.isw H
 have:preTab.find? (fun e=>isR L e.1 R)=preTab.find? (fun e=>isR L' e.1 R'):=by
  simp only [preTab,List.find?_cons,List.find?_nil,hw _ (show ([45]:Sx)≠[41] by decide),hw _ (show ([110,111,116]:Sx)≠[41] by decide),hw _ (show ([112,114,101]:Sx)≠[41] by decide),hw _ (show ([115,113,114,116]:Sx)≠[41] by decide)]
 unfold preR
 rw [this]
theorem sim_chain (H:Sim L L' k) {B B':RM Int} (hB:SimE L k d B B') (gB:GoesOn B) (gB':GoesOn B') {least:Int} (hl:least≠0):∀(m m':Nat) (a:Int) (R R':Rd),RS L k R R'→L.length≤m+R.i→L'.length≤m'+R'.i→(chainF L B least m a R).2.c=0→Out L k d (chainF L B least m a R) (chainF L' B' least m' a R')
 | 0,_,_,_,_,h,hm,_,_=>by have:=h.lt;omega
 | m+1,0,_,_,_,h,_,hm,_=>by have:=h.lt;have:=H.len;have:=h.i;omega
 | m+1,m'+1,a,R,R',h,hm,hm',hc=>by
  have e:=h.level H
  simp only [chainF,h.c,h.c',if_true] at hc ⊢
  by_cases hlv:(levelR L R).1=least
  ·have hlv':(levelR L' R').1=least:=by rw [←e];exact hlv
   simp only [if_pos hlv,if_pos hlv'] at hc ⊢
   obtain ⟨e1,_,_,hb⟩:∃e∈lvTab,levelR L R=e.2∧isR L e.1 R=true:=by
    rcases level_cases (L:=L) h.c with ⟨h0,_⟩ | h1
    ·rw [h0] at hlv;exact absurd hlv.symm hl
    ·exact h1
   have ha:=h.adv (h.yes H hb).2
   have hbc:(B R.adv).2.c=0:=by
    by_cases h3:least=3
    ·rw [if_pos h3] at hc;exact hc
    ·rw [if_neg h3] at hc;exact Stk.z (Stk.put.trans (stk_chain _ _ _)) hc
   rcases hB _ _ ha hbc with ⟨hd,h3⟩ | ⟨hv,h1⟩
   ·refine .inl ⟨hd,?_⟩
    split
    ·exact (Stk.put).three h3
    ·exact (Stk.put.trans (stk_chain _ _ _)).three h3
   ·have hp:=h1.put (x:=⟨(levelR L R).2,a,(B R.adv).1,0,[],[],0,[],.tight,posF L R⟩) (x':=⟨(levelR L' R').2,a,(B' R'.adv).1,0,[],[],0,[],.tight,posF L' R'⟩) (by simp [Ex.z,e,hv])
    by_cases h3:least=3
    ·simp only [if_pos h3];exact .inr hp
    ·simp only [if_neg h3] at hc ⊢
     rw [hp.1] at hc ⊢
     refine sim_chain H hB gB gB' hl m m' _ _ _ hp.2 ?_ ?_ hc
     ·have:=(gB R.adv).i;simp [putR,Rd.adv] at *;omega
     ·have:=(gB' R'.adv).i;simp [putR,Rd.adv] at *;omega
  ·have hlv':¬(levelR L' R').1=least:=by rw [←e];exact hlv
   simp only [if_neg hlv,if_neg hlv']
   exact .inr ⟨rfl,h⟩
theorem sim_bin (H:Sim L L' k) {P P':RM Int} (hP:SimE L k d P P') (gP:GoesOn P) (gP':GoesOn P'):∀n,n≤5→SimE L k d (binF L P n) (binF L' P' n)
 | 0,_=>hP
 | n+1,hn=>fun R R' h hc=>by
  have ih:=sim_bin H hP gP gP' n (by omega)
  simp only [binF] at hc ⊢
  have g1:=Step.bin (L:=L) gP n
  have g2:=Step.bin (L:=L') gP' n
  have hz:(binF L P n R).2.c=0:=(stk_chain _ _ _).z hc
  rcases ih _ _ h hz with ⟨hd,h3⟩ | ⟨hv,h1⟩
  ·exact .inl ⟨hd,(stk_chain _ _ _).three h3⟩
  ·rw [hv] at hc ⊢
   exact sim_chain H ih g1 g2 (by omega) _ _ _ _ _ h1 (by omega) (by omega) hc
theorem sim_args (H:Sim L L' k) {E E':RM Int} (hE:SimE L k d E E') (gE:GoesOn E) (gE':GoesOn E'):∀(m m':Nat) (l:List Int) (R R':Rd),RS L k R R'→L.length≤m+R.i→L'.length≤m'+R'.i→(argsF L E m l R).2.c=0→Out L k d (argsF L E m l R) (argsF L' E' m' l R')
 | 0,_,_,_,_,h,hm,_,_=>by have:=h.lt;omega
 | m+1,0,_,_,_,h,_,hm,_=>by have:=h.lt;have:=H.len;have:=h.i;omega
 | m+1,m'+1,l,R,R',h,hm,hm',hc=>by
  have e:=h.isw H (w:=[44]) (by decide)
  simp only [argsF] at hc ⊢
  by_cases hb:isR L [44] R=true
  ·have hb':isR L' [44] R'=true:=by rw [←e];exact hb
   rw [if_pos hb] at hc
   rw [if_pos hb,if_pos hb']
   have ha:=h.adv (h.yes H hb).2
   have hz:(E R.adv).2.c=0:=(Step.args gE _ _ _).c hc
   rcases hE _ _ ha hz with ⟨hd,h3⟩ | ⟨hv,h1⟩
   ·refine .inl ⟨hd,?_⟩
    have:(E' R'.adv).2.c≠0:=by omega
    have hs:=stk_args (L:=L') (E:=E') m' (l++[(E' R'.adv).1]) (E' R'.adv).2
    exact hs.three h3
   ·rw [hv] at hc ⊢
    refine sim_args H hE gE gE' m m' _ _ _ h1 ?_ ?_ hc
    ·have:=(gE R.adv).i;simp [Rd.adv] at *;omega
    ·have:=(gE' R'.adv).i;simp [Rd.adv] at *;omega
  ·have hb':¬isR L' [44] R'=true:=by rw [←e];exact hb
   rw [if_neg hb,if_neg hb']
   exact .inr ⟨rfl,h⟩
def NoEnd (L:List Tk) {α:Type} (E:RM α):Prop:=∀R,R.c=0→(tkF L R).kind=5→(E R).2.c≠0
theorem sim_call (H:Sim L L' k) {E E':RM Int} (hE:SimE L k d E E') (gE:GoesOn E) (gE':GoesOn E') (nE:NoEnd L E):SimE L k d (callF L E) (callF L' E'):=fun R R' h hc=>by
 unfold callF at hc ⊢
 by_cases hb:isR L [41] R=true
 ·obtain ⟨h1,h2⟩:=h.yes H hb
  rw [if_pos hb,if_pos h1]
  exact .inr ⟨rfl,h.adv h2⟩
 ·rw [if_neg hb] at hc
  rw [if_neg hb]
  simp only [] at hc ⊢
  have hq:(argsF L E L.length [(E R).1] (E R).2).2.c=0:=Stk.want.z hc
  have hz:(E R).2.c=0:=(Step.args gE _ _ _).c hq
  have hb':¬isR L' [41] R'=true:=by
   rcases h.cases H with ⟨_,h1,h2,_⟩ | ⟨_,h1,_⟩
   ·intro h3;apply hb;unfold isR at h3 ⊢;rw [h1,h2,h.c];rw [h.c'] at h3;exact h3
   ·exact absurd hz (nE R h.c h1)
  rw [if_neg hb']
  rcases hE _ _ h hz with ⟨hd,h3⟩ | ⟨hv,h1⟩
  ·exact .inl ⟨hd,((stk_args _ _ _).trans Stk.want).three h3⟩
  ·rw [hv] at hq hc ⊢
   rcases sim_args H hE gE gE' L.length L'.length _ _ _ h1 (by omega) (by omega) hq with ⟨hd,h3⟩ | ⟨hv2,h2⟩
   ·exact .inl ⟨hd,Stk.want.three h3⟩
   ·exact .inr ⟨hv2,h2.want H hc⟩
theorem sim_atom (H:Sim L L' k) {E E':RM Int} (hE:SimE L k d E E') (gE:GoesOn E) (gE':GoesOn E') (nE:NoEnd L E):SimE L k d (atomF L E) (atomF L' E'):=fun R R' h hc=>by
 have ht:=h.isw H (w:=[116,114,117,101]) (by decide)
 have hf:=h.isw H (w:=[102,97,108,115,101]) (by decide)
 unfold atomF at hc ⊢
 simp only [] at hc ⊢
 rcases h.cases H with ⟨hi,k1,k2,k3⟩ | ⟨hi,k1,_⟩
 ·have ha:=h.adv hi
  rw [←ht,←hf,←k1,←k2,←k3]
  by_cases h2:(tkF L R).kind=2
  ·rw [if_pos h2,if_pos h2];exact .inr (ha.put (by simp [Ex.z]))
  rw [if_neg h2] at hc;rw [if_neg h2,if_neg h2]
  by_cases h3:isR L [116,114,117,101] R=true
  ·rw [if_pos h3,if_pos h3];exact .inr (ha.put (by simp [Ex.z]))
  rw [if_neg h3] at hc;rw [if_neg h3,if_neg h3]
  by_cases h4:isR L [102,97,108,115,101] R=true
  ·rw [if_pos h4,if_pos h4];exact .inr (ha.put (by simp [Ex.z]))
  rw [if_neg h4] at hc;rw [if_neg h4,if_neg h4]
  by_cases h5:(tkF L R).kind=1
  ·rw [if_pos h5] at hc;rw [if_pos h5,if_pos h5]
   have his:=ha.isw H (w:=[105,115]) (by decide)
   have hop:=ha.isw H (w:=[40]) (by decide)
   rw [←his,←hop]
   by_cases h6:isR L [105,115] R.adv=true
   ·rw [if_pos h6] at hc;rw [if_pos h6,if_pos h6]
    have hn:=(ha.adv (ha.yes H h6).2).name H hc
    refine .inr (hn.2.put ?_)
    simp [Ex.z,hn.1]
   rw [if_neg h6] at hc;rw [if_neg h6,if_neg h6]
   by_cases h7:isR L [40] R.adv=true
   ·rw [if_pos h7] at hc;rw [if_pos h7,if_pos h7]
    have haa:=ha.adv (ha.yes H h7).2
    rcases sim_call H hE gE gE' nE _ _ haa hc with ⟨hd,h3⟩ | ⟨hv,h1⟩
    ·exact .inl ⟨hd,h3⟩
    ·exact .inr (h1.put (by simp [Ex.z,hv]))
   ·rw [if_neg h7,if_neg h7];exact .inr (ha.put (by simp [Ex.z]))
  ·rw [if_neg h5] at hc;rw [if_neg h5,if_neg h5]
   have hq:(E (wantR L [40] R)).2.c=0:=Stk.want.z hc
   have hw:(wantR L [40] R).c=0:=(gE _).c hq
   rcases hE _ _ (h.want H hw) hq with ⟨hd,h3⟩ | ⟨hv,h1⟩
   ·exact .inl ⟨hd,Stk.want.three h3⟩
   ·exact .inr ⟨hv,h1.want H hc⟩
 ·exfalso
  have hi1:isR L [116,114,117,101] R=false:=by simp [isR,k1]
  have hi2:isR L [102,97,108,115,101] R=false:=by simp [isR,k1]
  have hi3:isR L [40] R=false:=by simp [isR,k1]
  simp [k1,hi1,hi2] at hc
  have hq:(E (wantR L [40] R)).2.c=0:=Stk.want.z hc
  have hw:(wantR L [40] R).c=0:=(gE _).c hq
  simp [wantR,hi3,failR,h.c] at hw
theorem noend_atom {E:RM Int} (gE:GoesOn E):NoEnd L (atomF L E):=fun R hc k1 hz=>by
 have hi1:isR L [116,114,117,101] R=false:=by simp [isR,k1]
 have hi2:isR L [102,97,108,115,101] R=false:=by simp [isR,k1]
 have hi3:isR L [40] R=false:=by simp [isR,k1]
 simp [atomF,k1,hi1,hi2] at hz
 have hq:(E (wantR L [40] R)).2.c=0:=Stk.want.z hz
 have hw:(wantR L [40] R).c=0:=(gE _).c hq
 simp [wantR,hi3,failR,hc] at hw
theorem noend_pref {E P:RM Int} (gE:GoesOn E):NoEnd L (prefB L E P):=fun R hc k1 hz=>by
 rcases pre_cases (L:=L) (R:=R) with ⟨h0,_⟩ | ⟨e,_,_,hb⟩
 ·rw [prefB,if_pos h0] at hz
  exact noend_atom gE R hc k1 hz
 ·simp [isR,k1] at hb
theorem noend_bin {P:RM Int} (nP:NoEnd L P):∀n,NoEnd L (binF L P n)
 | 0=>nP
 | n+1=>fun R hc k1 hz=>noend_bin nP n R hc k1 ((stk_chain _ _ _).z hz)
theorem noend_ep:∀f,NoEnd L (epF L f).1∧NoEnd L (epF L f).2
 | 0=>⟨fun R hc _ hz=>by simp [epF,failR,hc] at hz,fun R hc _ hz=>by simp [epF,failR,hc] at hz⟩
 | f+1=>by
  have ih:=noend_ep f
  have gs:=Step.ep (L:=L) f
  refine ⟨fun R hc k1 hz=>?_,fun R hc k1 hz=>?_⟩
  ·simp only [epF,hc,if_true] at hz
   have h1:isR L [105,102] R=false:=by simp [isR,k1]
   rw [exprB,if_neg (by simp [h1])] at hz
   simp only [] at hz
   have hn:=noend_bin ih.2 5 R hc k1
   split at hz
   ·have:=(gs.1 _).c hz;exact hn this
   ·exact hn hz
  ·simp only [epF,hc,if_true] at hz
   exact noend_pref gs.1 R hc k1 hz
theorem sim_pref (H:Sim L L' k) {E E' P P':RM Int} (hE:SimE L k d E E') (hP:SimE L k d P P') (gE:GoesOn E) (gE':GoesOn E') (nE:NoEnd L E):SimE L k d (prefB L E P) (prefB L' E' P'):=fun R R' h hc=>by
 have e:=h.pre H
 unfold prefB at hc ⊢
 rw [←e]
 by_cases h0:preR L R=0
 ·rw [if_pos h0] at hc;rw [if_pos h0,if_pos h0]
  exact sim_atom H hE gE gE' nE R R' h hc
 ·rw [if_neg h0] at hc;rw [if_neg h0,if_neg h0]
  obtain ⟨e1,_,_,hb⟩:∃e∈preTab,preR L R=e.2∧isR L e.1 R=true:=by
   rcases pre_cases (L:=L) (R:=R) with ⟨h1,_⟩ | h1
   ·exact absurd h1 h0
   ·exact h1
  rcases hP _ _ (h.adv (h.yes H hb).2) hc with ⟨hd,h3⟩ | ⟨hv,h1⟩
  ·exact .inl ⟨hd,h3⟩
  ·exact .inr (h1.put (by simp [Ex.z,hv]))
theorem sim_expr (H:Sim L L' k) {E E' P P':RM Int} (hE:SimE L k d E E') (hP:SimE L k d P P') (gE:GoesOn E) (gE':GoesOn E') (gP:GoesOn P) (gP':GoesOn P') (sE':StkE E'):SimE L k d (exprB L E P) (exprB L' E' P'):=fun R R' h hc=>by
 have e:=h.isw H (w:=[105,102]) (by decide)
 unfold exprB at hc ⊢
 rw [←e]
 by_cases h0:isR L [105,102] R=true
 ·rw [if_pos h0] at hc;rw [if_pos h0,if_pos h0]
  simp only [] at hc ⊢
  have hc3:(E (wantR L [101,108,115,101] (E (wantR L [116,104,101,110] (E R.adv).2)).2)).2.c=0:=hc
  have hw3:=(gE _).c hc3
  have hc2:=Stk.want.z hw3
  have hw2:=(gE _).c hc2
  have hc1:=Stk.want.z hw2
  rcases hE _ _ (h.adv (h.yes H h0).2) hc1 with ⟨hd,h3⟩ | ⟨v1,h1⟩
  ·exact .inl ⟨hd,((((Stk.want.trans (sE' _)).trans Stk.want).trans (sE' _)).trans Stk.put).three h3⟩
  rcases hE _ _ (h1.want H hw2) hc2 with ⟨hd,h3⟩ | ⟨v2,h2⟩
  ·exact .inl ⟨hd,((Stk.want.trans (sE' _)).trans Stk.put).three h3⟩
  rcases hE _ _ (h2.want H hw3) hc3 with ⟨hd,h3⟩ | ⟨v3,h3⟩
  ·exact .inl ⟨hd,Stk.put.three h3⟩
  exact .inr (h3.put (by simp [Ex.z,v1,v2,v3]))
 ·rw [if_neg h0] at hc;rw [if_neg h0,if_neg h0]
  simp only [] at hc ⊢
  have hb:(binF L P 5 R).2.c=0:=by
   split at hc
   ·exact (gE (binF L P 5 R).2.adv).c hc
   ·exact hc
  rcases sim_bin H hP gP gP' 5 (Nat.le_refl _) R R' h hb with ⟨hd,h3⟩ | ⟨v1,h1⟩
  ·refine .inl ⟨hd,?_⟩
   split
   ·exact ((Stk.adv.trans (sE' _)).trans Stk.put).three h3
   ·exact h3
  have ea:=h1.isw H (w:=[45,62]) (by decide)
  have ef:=h1.isw H (w:=[102,98,121]) (by decide)
  rw [←ea,←ef]
  by_cases h2:(isR L [45,62] (binF L P 5 R).2 || isR L [102,98,121] (binF L P 5 R).2)=true
  ·rw [if_pos h2] at hc;rw [if_pos h2,if_pos h2]
   have hi:(binF L P 5 R).2.i+1<L.length:=by
    rcases Bool.or_eq_true_iff.1 h2 with h3 | h3
    ·exact (h1.yes H h3).2
    ·exact (h1.yes H h3).2
   rcases hE _ _ (h1.adv hi) hc with ⟨hd,h3⟩ | ⟨v2,h3⟩
   ·exact .inl ⟨hd,Stk.put.three h3⟩
   ·exact .inr (h3.put (by simp [Ex.z,v1,v2]))
  ·rw [if_neg h2,if_neg h2]
   exact .inr ⟨v1,h1⟩
theorem sim_ep (H:Sim L L' k):∀f f',(f'<f→d)→SimE L k d (epF L f).1 (epF L' f').1∧SimE L k d (epF L f).2 (epF L' f').2
 | 0,_,_=>⟨fun R R' h hc=>by simp [epF,failR,h.c] at hc,fun R R' h hc=>by simp [epF,failR,h.c] at hc⟩
 | f+1,0,hd=>⟨fun R R' h hc=>.inl ⟨hd (by omega),by simp [epF,failR,h.c']⟩,fun R R' h hc=>.inl ⟨hd (by omega),by simp [epF,failR,h.c']⟩⟩
 | f+1,f'+1,hd=>by
  have ih:=sim_ep H f f' (fun h=>hd (by omega))
  have g1:=Step.ep (L:=L) f
  have g2:=Step.ep (L:=L') f'
  refine ⟨fun R R' h hc=>?_,fun R R' h hc=>?_⟩
  ·simp only [epF,h.c,h.c',if_true] at hc ⊢
   exact sim_expr H ih.1 ih.2 g1.1 g2.1 g1.2 g2.2 (stk_ep f').1 R R' h hc
  ·simp only [epF,h.c,h.c',if_true] at hc ⊢
   exact sim_pref H ih.1 ih.2 g1.1 g2.1 (noend_ep f).1 R R' h hc
theorem sim_exprF (H:Sim L L' k):SimE L k False (exprF L) (exprF L'):=(sim_ep H 30 30 (fun h=>by omega)).1
end
end Go.Proofs.YtgkhmmlemgikjaaGreatDoor
namespace Go.Proofs.YtgkhmmlemgikjaaGreatDoor
open Go Ai
theorem ones_get:∀(l:List Ex) (t i:Nat) (h:i<l.length),onesF l t=true→oneF l[i] ((t+i:Nat):Int)=true
 | x::l,t,0,_,h=>by simp only [onesF,Bool.and_eq_true] at h;exact h.1
 | x::l,t,i+1,hi,h=>by
  simp only [onesF,Bool.and_eq_true] at h
  have:=ones_get l (t+1) i (by simpa using hi) h.2
  rw [show t+(i+1)=t+1+i by omega];exact this
theorem one_parts {x:Ex} {t:Int} (h:oneF x t=true):∀c∈partsF x,0≤c∧c<t:=by
 intro c hc
 unfold oneF at h
 simp only [Bool.and_eq_true] at h
 have:=List.all_eq_true.1 h.1.1.1.1.2 c hc
 simpa using this
end Go.Proofs.YtgkhmmlemgikjaaGreatDoor
namespace Go.Proofs.YtgkhmmlemgikjaaGreatDoor
open Go Ai
def It.z (x:It):It:={ x with p:=0 }
def Dc.z (d:Dc):Dc:={ d with p:=0,its:=d.its.map It.z }
section
variable {L L':List Tk} {k:Nat} {R R':Rd}
def End5 (L L':List Tk) (k:Nat):Prop:=∀i,i+1=L.length→(L'.getD (i+k) e0T).kind=5
theorem RS.is5 (h:RS L k R R') (H:Sim L L' k) (H5:End5 L L' k) (w:Sx):isR L w R=isR L' w R':=by
 unfold isR
 rw [h.c,h.c']
 rcases h.cases H with ⟨_,h1,h2,_⟩ | ⟨h0,h1,_⟩
 ·rw [h1,h2]
 ·have h2:(tkF L' R').kind=5:=by
   have:=H5 _ h0
   unfold tkF;rw [h.i];exact this
  simp [h1,h2]
theorem sim_ev (H:Sim L L' k) (h:RS L k R R') (hc:(exprF L R).2.c=0):(exprF L R).1=(exprF L' R').1∧RS L k (exprF L R).2 (exprF L' R').2:=by
 rcases sim_exprF H _ _ h hc with ⟨h1,_⟩ | h1
 ·exact h1.elim
 ·exact h1
theorem sim_kind (H:Sim L L' k) (h:RS L k R R') (hc:(kindR L R).2.c=0):(kindR L R).1=(kindR L' R').1∧RS L k (kindR L R).2 (kindR L' R').2:=by
 have e:=h.isw H (w:=[98,111,111,108]) (by decide)
 unfold kindR at hc ⊢
 rw [←e]
 by_cases hb:isR L [98,111,111,108] R=true
 ·rw [if_pos hb,if_pos hb];exact ⟨rfl,h.adv (h.yes H hb).2⟩
 ·rw [if_neg hb] at hc;rw [if_neg hb,if_neg hb];exact ⟨rfl,h.want H hc⟩
theorem sim_pms (H:Sim L L' k):∀(m m':Nat) (l:List Pm) (R R':Rd),RS L k R R'→L.length≤m+R.i→L'.length≤m'+R'.i→(pmsF L m l R).2.c=0→(pmsF L m l R).1=(pmsF L' m' l R').1∧RS L k (pmsF L m l R).2 (pmsF L' m' l R').2
 | 0,_,_,_,_,h,hm,_,_=>by have:=h.lt;omega
 | m+1,0,_,_,_,h,_,hm,_=>by have:=h.lt;have:=H.len;have:=h.i;omega
 | m+1,m'+1,l,R,R',h,hm,hm',hc=>by
  simp only [pmsF,h.c,h.c',if_true] at hc ⊢
  have z3:(kindR L (wantR L [58] (nameR L R).2)).2.c=0:=by
   split at hc
   ·exact (Stk.adv.trans (stk_pms _ _ _)).z hc
   ·exact Stk.want.z hc
  have z2:=Stk.kind.z z3
  have z1:=Stk.want.z z2
  obtain ⟨v1,r1⟩:=h.name H z1
  have r2:=r1.want H (w:=[58]) z2
  obtain ⟨v3,r3⟩:=sim_kind H r2 z3
  have e:=r3.isw H (w:=[44]) (by decide)
  rw [←e]
  by_cases hb:isR L [44] (kindR L (wantR L [58] (nameR L R).2)).2=true
  ·rw [if_pos hb] at hc;rw [if_pos hb,if_pos hb]
   rw [v1,v3] at hc ⊢
   refine sim_pms H m m' _ _ _ (r3.adv (r3.yes H hb).2) ?_ ?_ hc
   ·have:=(goes_typed (L:=L) R).i;simp [typedF,Rd.adv] at *;omega
   ·have:=(goes_typed (L:=L') R').i;simp [typedF,Rd.adv] at *;omega
  ·rw [if_neg hb] at hc;rw [if_neg hb,if_neg hb]
   exact ⟨by rw [v1,v3],r3.want H hc⟩
theorem sim_params (H:Sim L L' k) (H5:End5 L L' k) (h:RS L k R R') (hc:(paramsF L R).2.c=0):(paramsF L R).1=(paramsF L' R').1∧RS L k (paramsF L R).2 (paramsF L' R').2:=by
 unfold paramsF at hc ⊢
 have z1:(wantR L [40] R).c=0:=by
  split at hc
  ·exact Stk.adv.z hc
  ·exact (stk_pms _ _ _).z hc
 have r1:=h.want H z1
 have e:=r1.is5 H H5 [41]
 rw [←e]
 by_cases hb:isR L [41] (wantR L [40] R)=true
 ·rw [if_pos hb,if_pos hb];exact ⟨rfl,r1.adv (r1.yes H hb).2⟩
 ·rw [if_neg hb] at hc;rw [if_neg hb,if_neg hb]
  exact sim_pms H _ _ _ _ _ r1 (by omega) (by omega) hc
theorem sim_sts (H:Sim L L' k):∀(m m':Nat) (l:List Sx) (R R':Rd),RS L k R R'→L.length≤m+R.i→L'.length≤m'+R'.i→(stsF L m l R).2.c=0→(stsF L m l R).1=(stsF L' m' l R').1∧RS L k (stsF L m l R).2 (stsF L' m' l R').2
 | 0,_,_,_,_,h,hm,_,_=>by have:=h.lt;omega
 | m+1,0,_,_,_,h,_,hm,_=>by have:=h.lt;have:=H.len;have:=h.i;omega
 | m+1,m'+1,l,R,R',h,hm,hm',hc=>by
  have e:=h.isw H (w:=[44]) (by decide)
  simp only [stsF] at hc ⊢
  rw [←e]
  by_cases hb:isR L [44] R=true
  ·rw [if_pos hb] at hc;rw [if_pos hb,if_pos hb]
   have z1:(nameR L R.adv).2.c=0:=(stk_sts _ _ _).z hc
   obtain ⟨v1,r1⟩:=(h.adv (h.yes H hb).2).name H z1
   rw [v1] at hc ⊢
   refine sim_sts H m m' _ _ _ r1 ?_ ?_ hc
   ·have:=(Step.name (L:=L) (R:=R.adv)).i;simp [Rd.adv] at *;omega
   ·have:=(Step.name (L:=L') (R:=R'.adv)).i;simp [Rd.adv] at *;omega
  ·rw [if_neg hb,if_neg hb];exact ⟨rfl,h⟩
theorem sim_sts2 (H:Sim L L' k) {l l':List Sx} (hl:l=l') (m m':Nat) (R R':Rd) (h:RS L k R R') (h1:L.length≤m+R.i) (h2:L'.length≤m'+R'.i) (h3:(stsF L m l R).2.c=0):(stsF L m l R).1=(stsF L' m' l' R').1∧RS L k (stsF L m l R).2 (stsF L' m' l' R').2:=by
 subst hl;exact sim_sts H _ _ _ _ _ h h1 h2 h3
set_option maxHeartbeats 1000000 in
theorem sim_item (H:Sim L L' k) (H5:End5 L L' k) {all:Bool} (h:RS L k R R') (hc:(itmF L all R).2.c=0):(itmF L all R).1.2=(itmF L' all R').1.2∧(itmF L all R).1.1.z=(itmF L' all R').1.1.z∧RS L k (itmF L all R).2 (itmF L' all R').2:=by
 have e:∀w,isR L w R=isR L' w R':=h.is5 H H5
 unfold itmF at hc ⊢
 simp only [] at hc ⊢
 simp only [←e]
 by_cases h_let:isR L [108,101,116] R=true
 ·rw [if_pos h_let] at hc;rw [if_pos h_let,if_pos h_let]
  dsimp only [finR] at hc ⊢
  have r0:=h.adv (h.yes H h_let).2
  have z6:(wantR L [59] (exprF L (wantR L [61] (kindR L (wantR L [58] (nameR L R.adv).2)).2)).2).c=0:=hc
  have z5:(exprF L (wantR L [61] (kindR L (wantR L [58] (nameR L R.adv).2)).2)).2.c=0:=Stk.want.z z6
  have z4:(wantR L [61] (kindR L (wantR L [58] (nameR L R.adv).2)).2).c=0:=(stkE0 _).z z5
  have z3:(kindR L (wantR L [58] (nameR L R.adv).2)).2.c=0:=Stk.want.z z4
  have z2:(wantR L [58] (nameR L R.adv).2).c=0:=Stk.kind.z z3
  have z1:(nameR L R.adv).2.c=0:=Stk.want.z z2
  have z0:R.adv.c=0:=Stk.name.z z1
  obtain ⟨v1,r1⟩:=r0.name H z1
  have r2:=r1.want H z2
  obtain ⟨v3,r3⟩:=sim_kind H r2 z3
  have r4:=r3.want H z4
  obtain ⟨v5,r5⟩:=sim_ev H r4 z5
  have r6:=r5.want H z6
  exact ⟨by rw [r6.c,r6.c'],by simp [It.z,v1,v3,v5],r6⟩
 rw [if_neg h_let] at hc;rw [if_neg h_let,if_neg h_let]
 by_cases h_der:(all && isR L [100,101,114] R)=true
 ·rw [if_pos h_der] at hc;rw [if_pos h_der,if_pos h_der]
  dsimp only [finR] at hc ⊢
  have r0:=h.adv (h.yes H (Bool.and_eq_true_iff.1 h_der).2).2
  have z6:(wantR L [59] (exprF L (wantR L [105,110,105,116] (exprF L (wantR L [61] (nameR L R.adv).2)).2)).2).c=0:=hc
  have z5:(exprF L (wantR L [105,110,105,116] (exprF L (wantR L [61] (nameR L R.adv).2)).2)).2.c=0:=Stk.want.z z6
  have z4:(wantR L [105,110,105,116] (exprF L (wantR L [61] (nameR L R.adv).2)).2).c=0:=(stkE0 _).z z5
  have z3:(exprF L (wantR L [61] (nameR L R.adv).2)).2.c=0:=Stk.want.z z4
  have z2:(wantR L [61] (nameR L R.adv).2).c=0:=(stkE0 _).z z3
  have z1:(nameR L R.adv).2.c=0:=Stk.want.z z2
  have z0:R.adv.c=0:=Stk.name.z z1
  obtain ⟨v1,r1⟩:=r0.name H z1
  have r2:=r1.want H z2
  obtain ⟨v3,r3⟩:=sim_ev H r2 z3
  have r4:=r3.want H z4
  obtain ⟨v5,r5⟩:=sim_ev H r4 z5
  have r6:=r5.want H z6
  exact ⟨by rw [r6.c,r6.c'],by simp [It.z,v1,v3,v5],r6⟩
 rw [if_neg h_der] at hc;rw [if_neg h_der,if_neg h_der]
 by_cases h_reset:(all && isR L [114,101,115,101,116] R)=true
 ·rw [if_pos h_reset] at hc;rw [if_pos h_reset,if_pos h_reset]
  dsimp only [finR] at hc ⊢
  have r0:=h.adv (h.yes H (Bool.and_eq_true_iff.1 h_reset).2).2
  have z6:(wantR L [59] (exprF L (wantR L [61] (exprF L (wantR L [111,110] (nameR L R.adv).2)).2)).2).c=0:=hc
  have z5:(exprF L (wantR L [61] (exprF L (wantR L [111,110] (nameR L R.adv).2)).2)).2.c=0:=Stk.want.z z6
  have z4:(wantR L [61] (exprF L (wantR L [111,110] (nameR L R.adv).2)).2).c=0:=(stkE0 _).z z5
  have z3:(exprF L (wantR L [111,110] (nameR L R.adv).2)).2.c=0:=Stk.want.z z4
  have z2:(wantR L [111,110] (nameR L R.adv).2).c=0:=(stkE0 _).z z3
  have z1:(nameR L R.adv).2.c=0:=Stk.want.z z2
  have z0:R.adv.c=0:=Stk.name.z z1
  obtain ⟨v1,r1⟩:=r0.name H z1
  have r2:=r1.want H z2
  obtain ⟨v3,r3⟩:=sim_ev H r2 z3
  have r4:=r3.want H z4
  obtain ⟨v5,r5⟩:=sim_ev H r4 z5
  have r6:=r5.want H z6
  exact ⟨by rw [r6.c,r6.c'],by simp [It.z,v1,v3,v5],r6⟩
 rw [if_neg h_reset] at hc;rw [if_neg h_reset,if_neg h_reset]
 by_cases h_mem:(all && isR L [109,101,109] R)=true
 ·rw [if_pos h_mem] at hc;rw [if_pos h_mem,if_pos h_mem]
  dsimp only [finR] at hc ⊢
  have r0:=h.adv (h.yes H (Bool.and_eq_true_iff.1 h_mem).2).2
  have z6:(wantR L [59] (exprF L (wantR L [105,110,105,116] (kindR L (wantR L [58] (nameR L R.adv).2)).2)).2).c=0:=hc
  have z5:(exprF L (wantR L [105,110,105,116] (kindR L (wantR L [58] (nameR L R.adv).2)).2)).2.c=0:=Stk.want.z z6
  have z4:(wantR L [105,110,105,116] (kindR L (wantR L [58] (nameR L R.adv).2)).2).c=0:=(stkE0 _).z z5
  have z3:(kindR L (wantR L [58] (nameR L R.adv).2)).2.c=0:=Stk.want.z z4
  have z2:(wantR L [58] (nameR L R.adv).2).c=0:=Stk.kind.z z3
  have z1:(nameR L R.adv).2.c=0:=Stk.want.z z2
  have z0:R.adv.c=0:=Stk.name.z z1
  obtain ⟨v1,r1⟩:=r0.name H z1
  have r2:=r1.want H z2
  obtain ⟨v3,r3⟩:=sim_kind H r2 z3
  have r4:=r3.want H z4
  obtain ⟨v5,r5⟩:=sim_ev H r4 z5
  have r6:=r5.want H z6
  exact ⟨by rw [r6.c,r6.c'],by simp [It.z,v1,v3,v5],r6⟩
 rw [if_neg h_mem] at hc;rw [if_neg h_mem,if_neg h_mem]
 by_cases h_on:(all && isR L [111,110] R)=true
 ·rw [if_pos h_on] at hc;rw [if_pos h_on,if_pos h_on]
  dsimp only [finR] at hc ⊢
  have r0:=h.adv (h.yes H (Bool.and_eq_true_iff.1 h_on).2).2
  have z6:(wantR L [59] (exprF L (wantR L [61] (nameR L (wantR L [115,101,116] (exprF L R.adv).2)).2)).2).c=0:=hc
  have z5:(exprF L (wantR L [61] (nameR L (wantR L [115,101,116] (exprF L R.adv).2)).2)).2.c=0:=Stk.want.z z6
  have z4:(wantR L [61] (nameR L (wantR L [115,101,116] (exprF L R.adv).2)).2).c=0:=(stkE0 _).z z5
  have z3:(nameR L (wantR L [115,101,116] (exprF L R.adv).2)).2.c=0:=Stk.want.z z4
  have z2:(wantR L [115,101,116] (exprF L R.adv).2).c=0:=Stk.name.z z3
  have z1:(exprF L R.adv).2.c=0:=Stk.want.z z2
  have z0:R.adv.c=0:=(stkE0 _).z z1
  obtain ⟨v1,r1⟩:=sim_ev H r0 z1
  have r2:=r1.want H z2
  obtain ⟨v3,r3⟩:=r2.name H z3
  have r4:=r3.want H z4
  obtain ⟨v5,r5⟩:=sim_ev H r4 z5
  have r6:=r5.want H z6
  exact ⟨by rw [r6.c,r6.c'],by simp [It.z,v1,v3,v5],r6⟩
 rw [if_neg h_on] at hc;rw [if_neg h_on,if_neg h_on]
 by_cases h_mode:(all && isR L [109,111,100,101] R)=true
 ·rw [if_pos h_mode] at hc;rw [if_pos h_mode,if_pos h_mode]
  dsimp only [finR] at hc ⊢
  have r0:=h.adv (h.yes H (Bool.and_eq_true_iff.1 h_mode).2).2
  have z6:(wantR L [59] (wantR L [125] (stsF L L.length [(nameR L (wantR L [123] (nameR L R.adv).2)).1] (nameR L (wantR L [123] (nameR L R.adv).2)).2).2)).c=0:=hc
  have z5:(wantR L [125] (stsF L L.length [(nameR L (wantR L [123] (nameR L R.adv).2)).1] (nameR L (wantR L [123] (nameR L R.adv).2)).2).2).c=0:=Stk.want.z z6
  have z4:(stsF L L.length [(nameR L (wantR L [123] (nameR L R.adv).2)).1] (nameR L (wantR L [123] (nameR L R.adv).2)).2).2.c=0:=Stk.want.z z5
  have z3:(nameR L (wantR L [123] (nameR L R.adv).2)).2.c=0:=(stk_sts _ _ _).z z4
  have z2:(wantR L [123] (nameR L R.adv).2).c=0:=Stk.name.z z3
  have z1:(nameR L R.adv).2.c=0:=Stk.want.z z2
  have z0:R.adv.c=0:=Stk.name.z z1
  obtain ⟨v1,r1⟩:=r0.name H z1
  have r2:=r1.want H z2
  obtain ⟨v3,r3⟩:=r2.name H z3
  have hs:=sim_sts2 H (congrArg (fun a=>[a]) v3) L.length L'.length _ _ r3 (by omega) (by omega) z4
  obtain ⟨v4,r4⟩:=hs
  have r5:=r4.want H z5
  have r6:=r5.want H z6
  exact ⟨by rw [r6.c,r6.c'],by simp [It.z,v1,v4],r6⟩
 rw [if_neg h_mode] at hc;rw [if_neg h_mode,if_neg h_mode]
 by_cases h_from:(all && isR L [102,114,111,109] R)=true
 ·rw [if_pos h_from] at hc;rw [if_pos h_from,if_pos h_from]
  dsimp only [finR] at hc ⊢
  have r0:=h.adv (h.yes H (Bool.and_eq_true_iff.1 h_from).2).2
  have z8:(wantR L [59] (nameR L (wantR L [103,111,116,111] (exprF L (wantR L [111,110] (nameR L (wantR L [46] (nameR L R.adv).2)).2)).2)).2).c=0:=hc
  have z7:(nameR L (wantR L [103,111,116,111] (exprF L (wantR L [111,110] (nameR L (wantR L [46] (nameR L R.adv).2)).2)).2)).2.c=0:=Stk.want.z z8
  have z6:(wantR L [103,111,116,111] (exprF L (wantR L [111,110] (nameR L (wantR L [46] (nameR L R.adv).2)).2)).2).c=0:=Stk.name.z z7
  have z5:(exprF L (wantR L [111,110] (nameR L (wantR L [46] (nameR L R.adv).2)).2)).2.c=0:=Stk.want.z z6
  have z4:(wantR L [111,110] (nameR L (wantR L [46] (nameR L R.adv).2)).2).c=0:=(stkE0 _).z z5
  have z3:(nameR L (wantR L [46] (nameR L R.adv).2)).2.c=0:=Stk.want.z z4
  have z2:(wantR L [46] (nameR L R.adv).2).c=0:=Stk.name.z z3
  have z1:(nameR L R.adv).2.c=0:=Stk.want.z z2
  have z0:R.adv.c=0:=Stk.name.z z1
  obtain ⟨v1,r1⟩:=r0.name H z1
  have r2:=r1.want H z2
  obtain ⟨v3,r3⟩:=r2.name H z3
  have r4:=r3.want H z4
  obtain ⟨v5,r5⟩:=sim_ev H r4 z5
  have r6:=r5.want H z6
  obtain ⟨v7,r7⟩:=r6.name H z7
  have r8:=r7.want H z8
  exact ⟨by rw [r8.c,r8.c'],by simp [It.z,v1,v3,v5,v7],r8⟩
 rw [if_neg h_from] at hc;rw [if_neg h_from,if_neg h_from]
 by_cases h_out:(all && isR L [111,117,116] R)=true
 ·rw [if_pos h_out] at hc;rw [if_pos h_out,if_pos h_out]
  dsimp only [finR] at hc ⊢
  have r0:=h.adv (h.yes H (Bool.and_eq_true_iff.1 h_out).2).2
  have z2:(wantR L [59] (nameR L R.adv).2).c=0:=hc
  have z1:(nameR L R.adv).2.c=0:=Stk.want.z z2
  have z0:R.adv.c=0:=Stk.name.z z1
  obtain ⟨v1,r1⟩:=r0.name H z1
  have r2:=r1.want H z2
  exact ⟨by rw [r2.c,r2.c'],by simp [It.z,v1],r2⟩
 rw [if_neg h_out] at hc;rw [if_neg h_out,if_neg h_out]
 exact ⟨rfl,rfl,h⟩
theorem sim_its (H:Sim L L' k) (H5:End5 L L' k) {all:Bool}:∀(m m':Nat) (l l':List It),l.map It.z=l'.map It.z→∀(R R':Rd),RS L k R R'→L.length≤m+R.i→L'.length≤m'+R'.i→(itsF L all m l R).2.c=0→(itsF L all m l R).1.map It.z=(itsF L' all m' l' R').1.map It.z∧RS L k (itsF L all m l R).2 (itsF L' all m' l' R').2
 | 0,_,_,_,_,_,_,h,hm,_,_=>by have:=h.lt;omega
 | m+1,0,_,_,_,_,_,h,_,hm,_=>by have:=h.lt;have:=H.len;have:=h.i;omega
 | m+1,m'+1,l,l',hl,R,R',h,hm,hm',hc=>by
  simp only [itsF,h.c,h.c',if_true] at hc ⊢
  have z1:(itmF L all R).2.c=0:=by
   split at hc
   ·exact (stk_its _ _ _).z hc
   ·exact hc
  obtain ⟨v1,v2,r1⟩:=sim_item H H5 h z1
  rw [←v1]
  by_cases hb:(itmF L all R).1.2=true
  ·rw [if_pos hb] at hc;rw [if_pos hb,if_pos hb]
   refine sim_its H H5 m m' _ _ (by simp [hl,v2]) _ _ r1 ?_ ?_ hc
   ·have:=itm_adv hb;omega
   ·have:=itm_adv (L:=L') (R:=R') (v1▸hb);omega
  ·rw [if_neg hb,if_neg hb];exact ⟨hl,r1⟩
set_option maxHeartbeats 1000000 in
theorem sim_declB (H:Sim L L' k) (H5:End5 L L' k) {x p p':Int} (h:RS L k R R') (hc:(declB L x p R).2.c=0):(declB L x p R).1.z=(declB L' x p' R').1.z∧RS L k (declB L x p R).2 (declB L' x p' R').2:=by
 have hl:∀{a b:List It},a.map It.z=b.map It.z→a.length=b.length:=fun e=>by have:=congrArg List.length e;simpa using this
 unfold declB at hc ⊢
 simp only [] at hc ⊢
 by_cases hk3:x=3
 ·rw [if_pos hk3] at hc;rw [if_pos hk3,if_pos hk3]
  dsimp only at hc ⊢
  have z5:(wantR L [125] (itsF L true L.length [] (wantR L [123] (paramsF L (nameR L R).2).2)).2).c=0:=hc
  have z4:(itsF L true L.length [] (wantR L [123] (paramsF L (nameR L R).2).2)).2.c=0:=Stk.want.z z5
  have z3:(wantR L [123] (paramsF L (nameR L R).2).2).c=0:=(stk_its _ _ _).z z4
  have z2:(paramsF L (nameR L R).2).2.c=0:=Stk.want.z z3
  have z1:(nameR L R).2.c=0:=(stk_params _).z z2
  have z0:R.c=0:=Stk.name.z z1
  obtain ⟨v1,r1⟩:=h.name H z1
  obtain ⟨v2,r2⟩:=sim_params H H5 r1 z2
  have r3:=r2.want H z3
  obtain ⟨v4,r4⟩:=sim_its H H5 L.length L'.length [] [] rfl _ _ r3 (by omega) (by omega) z4
  have r5:=r4.want H z5
  exact ⟨by simp [Dc.z,v1,v2,v4,hl v4],r5⟩
 rw [if_neg hk3] at hc;rw [if_neg hk3,if_neg hk3]
 by_cases hk1:x=1
 ·rw [if_pos hk1] at hc;rw [if_pos hk1,if_pos hk1]
  dsimp only at hc ⊢
  have z7:(wantR L [59] (exprF L (wantR L [61] (kindR L (wantR L [58] (paramsF L (nameR L R).2).2)).2)).2).c=0:=hc
  have z6:(exprF L (wantR L [61] (kindR L (wantR L [58] (paramsF L (nameR L R).2).2)).2)).2.c=0:=Stk.want.z z7
  have z5:(wantR L [61] (kindR L (wantR L [58] (paramsF L (nameR L R).2).2)).2).c=0:=(stkE0 _).z z6
  have z4:(kindR L (wantR L [58] (paramsF L (nameR L R).2).2)).2.c=0:=Stk.want.z z5
  have z3:(wantR L [58] (paramsF L (nameR L R).2).2).c=0:=Stk.kind.z z4
  have z2:(paramsF L (nameR L R).2).2.c=0:=Stk.want.z z3
  have z1:(nameR L R).2.c=0:=(stk_params _).z z2
  have z0:R.c=0:=Stk.name.z z1
  obtain ⟨v1,r1⟩:=h.name H z1
  obtain ⟨v2,r2⟩:=sim_params H H5 r1 z2
  have r3:=r2.want H z3
  obtain ⟨v4,r4⟩:=sim_kind H r3 z4
  have r5:=r4.want H z5
  obtain ⟨v6,r6⟩:=sim_ev H r5 z6
  have r7:=r6.want H z7
  exact ⟨by simp [Dc.z,v1,v2,v4,v6],r7⟩
 rw [if_neg hk1] at hc;rw [if_neg hk1,if_neg hk1]
 dsimp only at hc ⊢
 have z10:(wantR L [125] (wantR L [59] (exprF L (wantR L [114,101,116,117,114,110] (itsF L false L.length [] (wantR L [123] (kindR L (wantR L [58] (paramsF L (nameR L R).2).2)).2)).2)).2)).c=0:=hc
 have z9:(wantR L [59] (exprF L (wantR L [114,101,116,117,114,110] (itsF L false L.length [] (wantR L [123] (kindR L (wantR L [58] (paramsF L (nameR L R).2).2)).2)).2)).2).c=0:=Stk.want.z z10
 have z8:(exprF L (wantR L [114,101,116,117,114,110] (itsF L false L.length [] (wantR L [123] (kindR L (wantR L [58] (paramsF L (nameR L R).2).2)).2)).2)).2.c=0:=Stk.want.z z9
 have z7:(wantR L [114,101,116,117,114,110] (itsF L false L.length [] (wantR L [123] (kindR L (wantR L [58] (paramsF L (nameR L R).2).2)).2)).2).c=0:=(stkE0 _).z z8
 have z6:(itsF L false L.length [] (wantR L [123] (kindR L (wantR L [58] (paramsF L (nameR L R).2).2)).2)).2.c=0:=Stk.want.z z7
 have z5:(wantR L [123] (kindR L (wantR L [58] (paramsF L (nameR L R).2).2)).2).c=0:=(stk_its _ _ _).z z6
 have z4:(kindR L (wantR L [58] (paramsF L (nameR L R).2).2)).2.c=0:=Stk.want.z z5
 have z3:(wantR L [58] (paramsF L (nameR L R).2).2).c=0:=Stk.kind.z z4
 have z2:(paramsF L (nameR L R).2).2.c=0:=Stk.want.z z3
 have z1:(nameR L R).2.c=0:=(stk_params _).z z2
 have z0:R.c=0:=Stk.name.z z1
 obtain ⟨v1,r1⟩:=h.name H z1
 obtain ⟨v2,r2⟩:=sim_params H H5 r1 z2
 have r3:=r2.want H z3
 obtain ⟨v4,r4⟩:=sim_kind H r3 z4
 have r5:=r4.want H z5
 obtain ⟨v6,r6⟩:=sim_its H H5 L.length L'.length [] [] rfl _ _ r5 (by omega) (by omega) z6
 have r7:=r6.want H z7
 obtain ⟨v8,r8⟩:=sim_ev H r7 z8
 have r9:=r8.want H z9
 have r10:=r9.want H z10
 exact ⟨by simp [Dc.z,v1,v2,v4,v8,v6,hl v6],r10⟩
theorem sim_decl (H:Sim L L' k) (H5:End5 L L' k) (h:RS L k R R') (hc:(dclF L R).2.c=0):(dclF L R).1.z=(dclF L' R').1.z∧RS L k (dclF L R).2 (dclF L' R').2:=by
 have e:∀w,isR L w R=isR L' w R':=h.is5 H H5
 unfold dclF at hc ⊢
 simp only [←e]
 by_cases h1:isR L [102,117,110] R=true
 ·rw [if_pos h1] at hc;rw [if_pos h1,if_pos h1]
  exact sim_declB H H5 (h.adv (h.yes H h1).2) hc
 rw [if_neg h1] at hc;rw [if_neg h1,if_neg h1]
 by_cases h2:isR L [110,111,100,101] R=true
 ·rw [if_pos h2] at hc;rw [if_pos h2,if_pos h2]
  exact sim_declB H H5 (h.adv (h.yes H h2).2) hc
 rw [if_neg h2] at hc;rw [if_neg h2,if_neg h2]
 have z1:(wantR L [104,121,98,114,105,100] R).c=0:=Step.declB.c hc
 exact sim_declB H H5 (h.want H z1) hc
theorem sim_dcls (H:Sim L L' k) (H5:End5 L L' k):∀(m m':Nat) (l l':List Dc),l.map Dc.z=l'.map Dc.z→∀(R R':Rd),RS L k R R'→L.length≤m+R.i→L'.length≤m'+R'.i→(dclsF L m l R).2.c=0→(dclsF L m l R).1.map Dc.z=(dclsF L' m' l' R').1.map Dc.z∧RS L k (dclsF L m l R).2 (dclsF L' m' l' R').2
 | 0,_,_,_,_,_,_,h,hm,_,_=>by have:=h.lt;omega
 | m+1,0,_,_,_,_,_,h,_,hm,_=>by have:=h.lt;have:=H.len;have:=h.i;omega
 | m+1,m'+1,l,l',hl,R,R',h,hm,hm',hc=>by
  have hk:(tkF L R).kind=5↔(tkF L' R').kind=5:=by
   rcases h.cases H with ⟨_,h1,_⟩ | ⟨h0,h1,_⟩
   ·rw [h1]
   ·have h2:(tkF L' R').kind=5:=by
     have:=H5 _ h0
     unfold tkF;rw [h.i];exact this
    rw [h1,h2]
  by_cases h5:(tkF L R).kind=5
  ·rw [dclsF_end (by simp [h5]),dclsF_end (by simp [hk.1 h5])]
   exact ⟨hl,h⟩
  ·have h5':¬(tkF L' R').kind=5:=fun e=>h5 (hk.2 e)
   simp only [dclsF,h.c,h.c',h5,h5',ne_eq,not_false_eq_true,and_self,if_true] at hc ⊢
   have z1:(dclF L R).2.c=0:=by
    by_cases hz:(dclF L R).2.c=0
    ·exact hz
    ·rw [dclsF_end (by simp [hz])] at hc;exact hc
   obtain ⟨v1,r1⟩:=sim_decl H H5 h z1
   refine sim_dcls H H5 m m' _ _ (by simp [hl,v1]) _ _ r1 ?_ ?_ hc
   ·have:=(Step.decl (L:=L) (R:=R)).2 z1;omega
   ·have:=(Step.decl (L:=L') (R:=R')).2 r1.c';omega
end
end Go.Proofs.YtgkhmmlemgikjaaGreatDoor
